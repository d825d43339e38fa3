import Derived.Test.YtanppabbmffokaaGreatXE8
set_option linter.unusedSimpArgs false
set_option linter.unusedVariables false
section
namespace Go.Proofs.YtanppabbmffokaaGreat
open Go.Bx
set_option maxRecDepth 10000
def leapN (y:Nat):Bool:=decide (y % 4=0∧(y % 100≠0∨y % 400=0))
def ylen (y:Nat):Nat:=if leapN y=true then 366 else 365
def feb (y:Nat):Nat:=if leapN y=true then 29 else 28
def mlen (y m:Nat):Nat:=if m=2 then feb y else if m=4∨m=6∨m=9∨m=11 then 30 else 31
def ahN (y:Nat):Nat:=(y-1601)*365+(y-1601) / 4-(y-1601) / 100+(y-1601) / 400
theorem leapN_iff {y:Nat}:leapN y=true↔(y % 4=0∧(y % 100≠0∨y % 400=0)):=by simp only [leapN,decide_eq_true_eq]
theorem ylen_or (y:Nat):(leapN y=true∧ylen y=366∧feb y=29)∨(¬ leapN y=true∧ylen y=365∧feb y=28):=by
 unfold ylen feb
 by_cases h:leapN y=true
 ·left;simp [h]
 ·right;simp [h]
theorem ah_succ {y:Nat} (h:1601≤y):ahN (y+1)=ahN y+ylen y:=by
 have hl:=@leapN_iff y
 have ho:=ylen_or y
 obtain ⟨n,rfl⟩:∃ n,y=1601+n:=⟨y-1601,by omega⟩
 unfold ahN
 rw [show 1601+n+1-1601=n+1 by omega,show 1601+n-1601=n by omega]
 have a1:(n+1) / 4=n / 4+(if n % 4=3 then 1 else 0):=by split<;>omega
 have a2:(n+1) / 100=n / 100+(if n % 100=99 then 1 else 0):=by split<;>omega
 have a3:(n+1) / 400=n / 400+(if n % 400=399 then 1 else 0):=by split<;>omega
 have b1:(1601+n) % 4=0↔n % 4=3:=by omega
 have b2:(1601+n) % 100=0↔n % 100=99:=by omega
 have b3:(1601+n) % 400=0↔n % 400=399:=by omega
 have b4:n % 100=99→n % 4=3:=by omega
 have b5:n % 400=399→n % 100=99:=by omega
 have b6:n / 100≤n / 4:=Nat.div_le_div_left (by omega) (by omega)
 rw [a1,a2,a3]
 rw [ne_eq,b1,b2,b3] at hl
 clear a1 a2 a3 b1 b2 b3
 generalize n / 4=q4 at *
 generalize n / 100=q1 at *
 generalize n / 400=q0 at *
 by_cases c1:n % 4=3
 ·by_cases c2:n % 100=99
  ·by_cases c3:n % 400=399
   ·rw [if_pos c1,if_pos c2,if_pos c3]
    have:=hl.2 ⟨c1,.inr c3⟩
    rcases ho with ⟨h1,h2,-⟩|⟨h1,h2,-⟩
    ·omega
    ·exact absurd this h1
   ·rw [if_pos c1,if_pos c2,if_neg c3]
    rcases ho with ⟨h1,h2,-⟩|⟨h1,h2,-⟩
    ·rcases (hl.1 h1).2 with g|g
     ·exact absurd c2 g
     ·exact absurd g c3
    ·omega
  ·have c3:¬ n % 400=399:=fun h=>c2 (b5 h)
   rw [if_pos c1,if_neg c2,if_neg c3]
   have:=hl.2 ⟨c1,.inl c2⟩
   rcases ho with ⟨h1,h2,-⟩|⟨h1,h2,-⟩
   ·omega
   ·exact absurd this h1
 ·have c2:¬ n % 100=99:=fun h=>c1 (b4 h)
  have c3:¬ n % 400=399:=fun h=>c2 (b5 h)
  rw [if_neg c1,if_neg c2,if_neg c3]
  rcases ho with ⟨h1,h2,-⟩|⟨h1,h2,-⟩
  ·exact absurd (hl.1 h1).1 c1
  ·omega
def msum (y:Nat):Nat→Nat
 |0=>0
 |m+1=>msum y m+mlen y (m+1)
theorem msum12 (y:Nat):msum y 12=ylen y:=by
 have ho:=ylen_or y
 simp only [msum,mlen]
 rcases ho with ⟨h1,h2,h3⟩|⟨h1,h2,h3⟩<;>simp [h2,h3]
theorem mlen_le (y m:Nat):28≤mlen y m∧mlen y m≤31:=by
 have ho:=ylen_or y
 unfold mlen
 split
 ·omega
 ·split<;>omega
theorem msum_le (y:Nat) {a b:Nat} (h:a≤b):msum y a≤msum y b:=by
  induction b with
  | zero => have : a = 0 := by omega
            subst this;exact Nat.le_refl _
  |succ b ih =>
    by_cases e:a=b+1
    · subst e;exact Nat.le_refl _
    · have:=ih (by omega);simp only [msum];omega
def yN (n:Nat):Nat:=if n≤ahN (1601+(n-1) / 365) then 1600+(n-1) / 365 else 1601+(n-1) / 365
theorem ah_at (q:Nat):ahN (1601+q)=q*365+q / 4-q / 100+q / 400:=by
 unfold ahN;rw [show 1601+q-1601=q by omega]
theorem yN_spec {n:Nat} (h1:1≤n) (h2:n≤292194):1601≤yN n∧yN n≤2400∧ahN (yN n)<n∧n≤ahN (yN n+1):=by
 unfold yN
 have hq:(n-1) / 365≤800:=by omega
 have hn:365*((n-1) / 365)+1≤n∧n≤365*((n-1) / 365)+365:=by omega
 generalize (n-1) / 365=q at *
 have e1:=ah_at q
 have e2:=ah_at (q+1)
 rw [show 1601+(q+1)=1601+q+1 by omega] at e2
 split
 ·rename_i h
  rw [e1] at h
  obtain ⟨p,rfl⟩:∃ p,q=p+1:=⟨q-1,by omega⟩
  have e3:=ah_at p
  rw [show 1600+(p+1)=1601+p by omega,e3,show 1601+p+1=1601+(p+1) by omega,e1]
  omega
 ·rename_i h
  rw [e1] at h
  rw [e1,e2]
  have:(q+1) / 100≤(q+1) / 4:=Nat.div_le_div_left (by omega) (by omega)
  have:q / 100≤q / 4:=Nat.div_le_div_left (by omega) (by omega)
  omega
theorem ah_mono {a b:Nat} (ha:1601≤a) (h:a≤b):ahN a≤ahN b:=by
 induction b with
 |zero=>omega
 |succ b ih =>
  by_cases e:a=b+1
  ·subst e;exact Nat.le_refl _
  ·have:=ih (by omega);rw [ah_succ (by omega)];omega
def mgo (y:Nat):Nat→Nat→Nat→Nat×Nat
 |0,m,r=>(m,r)
 |k+1,m,r=>if r≤mlen y m then (m,r) else mgo y k (m+1) (r-mlen y m)
theorem mgo_spec {y:Nat}:∀ {k m r:Nat},m+k=13→1≤m→1≤r→r+msum y (m-1)≤msum y 12 →
  m≤(mgo y k m r).1∧(mgo y k m r).1≤12∧1≤(mgo y k m r).2∧(mgo y k m r).2≤mlen y (mgo y k m r).1∧msum y ((mgo y k m r).1-1)+(mgo y k m r).2=msum y (m-1)+r
 |0,m,r,h1,h2,h3,h4=>by
  rw [show m-1=12 by omega] at h4;omega
 |k+1,m,r,h1,h2,h3,h4=>by
  rw [mgo]
  by_cases h:r≤mlen y m
  ·rw [if_pos h];exact ⟨Nat.le_refl _,by simp only;omega,h3,h,rfl⟩
  ·rw [if_neg h]
   obtain ⟨p,rfl⟩:∃ p,m=p+1:=⟨m-1,by omega⟩
   have e:msum y (p+1)=msum y p+mlen y (p+1):=rfl
   have ih:=mgo_spec (y:=y) (k:=k) (m:=p+1+1) (r:=r-mlen y (p+1)) (by omega) (by omega) (by omega) (by rw [show p+1+1-1=p+1 by omega,e];rw [show p+1-1=p by omega] at h4;omega)
   rw [show p+1+1-1=p+1 by omega,e] at ih
   rw [show p+1-1=p by omega]
   omega
def ofN (n:Nat):Nat×Nat×Nat:=(yN n,mgo (yN n) 12 1 (n-ahN (yN n)))
def numN (y m d:Nat):Nat:=ahN y+msum y (m-1)+d
theorem ofN_spec {n:Nat} (h1:1≤n) (h2:n≤292194):1601≤(ofN n).1∧(ofN n).1≤2400∧1≤(ofN n).2.1∧(ofN n).2.1≤12∧1≤(ofN n).2.2∧(ofN n).2.2≤mlen (ofN n).1 (ofN n).2.1∧numN (ofN n).1 (ofN n).2.1 (ofN n).2.2=n:=by
 obtain ⟨a,b,c,d⟩:=yN_spec h1 h2
 rw [ah_succ a] at d
 have hm:=msum12 (yN n)
 obtain ⟨p,q,r,s,t⟩:=mgo_spec (y:=yN n) (k:=12) (m:=1) (r:=n-ahN (yN n)) rfl (by omega) (by omega) (by simp only [Nat.sub_self,msum];simp only [msum] at hm;omega)
 simp only [Nat.sub_self,show msum (yN n) 0=0 from rfl] at t
 refine ⟨a,b,p,q,r,s,?_⟩
 unfold numN ofN
 simp only
 omega
def shiftT (n b:Nat):Nat:=((ofN n).1-1601)*12+((ofN n).2.1-1)+b
def shiftV (n b:Nat):Nat:=numN (1601+shiftT n b / 12) (shiftT n b % 12+1) (min (ofN n).2.2 (mlen (1601+shiftT n b / 12) (shiftT n b % 12+1)))
def shiftN (n:Int) (b:Nat):Int×Int:=
 if n<1∨292194<n then (0,3) else if 9600≤shiftT n.toNat b then (0,3) else (((shiftV n.toNat b:Nat):Int),0)
theorem numN_bounds {y m d:Nat} (hy:1601≤y) (hy2:y≤2400) (hm:1≤m) (hm2:m≤12) (hd:1≤d) (hd2:d≤mlen y m):1≤numN y m d∧numN y m d≤292194∧numN y m d≤ahN y+msum y m:=by
 obtain ⟨p,rfl⟩:∃ p,m=p+1:=⟨m-1,by omega⟩
 have e:msum y (p+1)=msum y p+mlen y (p+1):=rfl
 have h1:=msum_le y hm2
 rw [msum12] at h1
 have h2:=ah_succ hy
 have h3:=ah_mono (a:=y+1) (b:=2401) (by omega) (by omega)
 have h4:ahN 2401=292194:=by decide +kernel
 unfold numN
 rw [show p+1-1=p by omega]
 omega
theorem leap_eq (y:Nat):(((y:Int).tmod 4 == 0)&&(((y:Int).tmod 100 != 0) || ((y:Int).tmod 400 == 0)))=leapN y:=by
 have e1:(y:Int).tmod 4=((y % 4:Nat):Int):=tmod_nat y 4
 have e2:(y:Int).tmod 100=((y % 100:Nat):Int):=tmod_nat y 100
 have e3:(y:Int).tmod 400=((y % 400:Nat):Int):=tmod_nat y 400
 rw [e1,e2,e3,Bool.eq_iff_iff,leapN_iff]
 simp only [Bool.and_eq_true,Bool.or_eq_true,beq_iff_eq,bne_iff_ne,ne_eq]
 omega
theorem sLeap (y:Nat):Ctr Tryz.prog 117 [.d (.int .i64 (y:Int))] [] (.d (.bool (leapN y))) [] []:=by
 have e:=leap_eq y
 refine ctr_pure Tryz.func117 ok117 rfl cc117 cr117 Tryz.ntmps117 (by simp) rfl rfl ?_;intro c hP hfn;simp only [kc117,vcd,↓vcp,seval]
 repeat' first|refine And.intro (fun h=>?_) (fun h=>?_)|refine aO ?_|(refine tA rfl rfl rfl rfl ?_;try simp only [vcd,↓vcp,seval])|refine aT ?_|fail
 exact RetK.pure (by simp only [rs117,rsb,vcd,↓vcp,seval]) (by (simp only [rs117,rsb,enb,vcd,↓vcp,seval])<;>(first|exact e))
def lenV (y:Nat):List V:=[.d (.int .i64 31),.d (.int .i64 (feb y:Nat)),.d (.int .i64 31),.d (.int .i64 30),.d (.int .i64 31),.d (.int .i64 30),.d (.int .i64 31),.d (.int .i64 31),.d (.int .i64 30),.d (.int .i64 31),.d (.int .i64 30),.d (.int .i64 31)]
theorem len_nth (y:Nat) {k:Nat} (h:k<12):nth [.d (.int .i64 31),.d (.int .i64 (feb y:Nat)),.d (.int .i64 31),.d (.int .i64 30),.d (.int .i64 31),.d (.int .i64 30),.d (.int .i64 31),.d (.int .i64 31),.d (.int .i64 30),.d (.int .i64 31),.d (.int .i64 30),.d (.int .i64 31)] k=.d (.int .i64 (mlen y (k+1):Nat)):=by
 have:k=0∨k=1∨k=2∨k=3∨k=4∨k=5∨k=6∨k=7∨k=8∨k=9∨k=10∨k=11:=by omega
 rcases this with rfl|rfl|rfl|rfl|rfl|rfl|rfl|rfl|rfl|rfl|rfl|rfl<;>rfl
theorem sLen (y:Nat):Ctr Tryz.prog 69 [.d (.int .i64 (y:Int))] [] (.ag (lenV y)) [] []:=by
 have ho:=ylen_or y
 have e0:IntKind.i64.wrap (28+1)=29:=wI (by omega)
 refine ctr_pure Tryz.func69 ok69 rfl cc69 cr69 Tryz.ntmps69 (by simp) rfl rfl ?_;intro c hP hfn;simp only [kc69,e0,vcd,↓vcp,seval]
 repeat' first|((first|refine tp hP (by exact sLeap y) ?_|refine tg hP (fun _=>by exact sLeap y) ?_|refine tv hP rfl (by exact sLeap y) ?_);try simp only [e0,vcd,↓vcp,seval])|refine And.intro (fun h=>?_) (fun h=>?_)|refine aO ?_|(refine tA rfl rfl rfl rfl ?_;try simp only [e0,vcd,↓vcp,seval])|refine aT ?_|fail
 ·have hf:feb y=29:=by rcases ho with h'|h';exact h'.2.2;exact absurd h h'.1
  exact RetK.pure (by simp only [rs69,rsb,vcd,↓vcp,seval]) (by (simp only [rs69,rsb,enb,vcd,↓vcp,seval])<;>(first|(simp only [lenV,hf];exact VLe.refl _)))
 ·have hf:feb y=28:=by rcases ho with h'|h';exact absurd h (by rw [h'.1];simp);exact h'.2.2
  exact RetK.pure (by simp only [rs69,rsb,vcd,↓vcp,seval]) (by (simp only [rs69,rsb,enb,vcd,↓vcp,seval])<;>(first|(simp only [lenV,hf];exact VLe.refl _)))
theorem ah_int {y:Nat} (h1:1601≤y) (h2:y≤20000):IntKind.i64.wrap (IntKind.i64.wrap (IntKind.i64.wrap (IntKind.i64.wrap (IntKind.i64.wrap ((y:Int)-1601)*365)+IntKind.i64.wrap ((IntKind.i64.wrap ((y:Int)-1601)).tdiv 4))-IntKind.i64.wrap ((IntKind.i64.wrap ((y:Int)-1601)).tdiv 100))+IntKind.i64.wrap ((IntKind.i64.wrap ((y:Int)-1601)).tdiv 400))=(ahN y:Nat):=by
 obtain ⟨n,rfl⟩:∃ n,y=1601+n:=⟨y-1601,by omega⟩
 have e:IntKind.i64.wrap (((1601+n:Nat):Int)-1601)=(n:Int):=(wI (by omega)).trans (by omega)
 have e1:((n:Int)).tdiv 4=((n / 4:Nat):Int):=tdiv_nat n 4
 have e2:((n:Int)).tdiv 100=((n / 100:Nat):Int):=tdiv_nat n 100
 have e3:((n:Int)).tdiv 400=((n / 400:Nat):Int):=tdiv_nat n 400
 rw [e,e1,e2,e3,ah_at,wI (a:=((n / 4:Nat):Int)) (by omega),wI (a:=((n / 100:Nat):Int)) (by omega),wI (a:=((n / 400:Nat):Int)) (by omega),wI (a:=(n:Int)*365) (by omega),wI (a:=(n:Int)*365+((n / 4:Nat):Int)) (by omega),wI (a:=(n:Int)*365+((n / 4:Nat):Int)-((n / 100:Nat):Int)) (by omega),wI (by omega)]
 omega
theorem sAhead (y:Nat) (h1:1601≤y) (h2:y≤20000):Ctr Tryz.prog 116 [.d (.int .i64 (y:Int))] [] (.d (.int .i64 (ahN y:Nat))) [] []:=by
 have e:=ah_int h1 h2
 refine ctr_pure Tryz.func116 ok116 rfl cc116 cr116 Tryz.ntmps116 (by simp) rfl rfl ?_;intro c hP hfn;simp only [kc116,vcd,↓vcp,seval]
 repeat' first|refine And.intro (fun h=>?_) (fun h=>?_)|refine aO ?_|(refine tA rfl rfl rfl rfl ?_;try simp only [vcd,↓vcp,seval])|refine aT ?_|fail
 exact RetK.pure (by simp only [rs116,rsb,vcd,↓vcp,seval]) (by (simp only [rs116,rsb,enb,vcd,↓vcp,seval])<;>(first|exact e))
def isD (n:Int):Bool:=decide (1≤n)&&decide (n≤292194)
theorem isD_iff {n:Int}:isD n=true↔1≤n∧n≤292194:=by simp only [isD,Bool.and_eq_true,decide_eq_true_eq]
theorem sIs (n:Int):Ctr Tryz.prog 158 [.d (.int .i64 n)] [] (.d (.bool (isD n))) [] []:=by
 refine ctr_pure Tryz.func158 ok158 rfl cc158 cr158 Tryz.ntmps158 (by simp) rfl rfl ?_;intro c hP hfn;simp only [kc158,vcd,↓vcp,seval]
 exact RetK.pure (by simp only [rs158,rsb,vcd,↓vcp,seval]) (by (simp only [rs158,rsb,enb,vcd,↓vcp,seval])<;>(first|rfl))
def yearD (n:Int):Int×Int:=if isD n=true then ((yN n.toNat:Nat),0) else (0,3)
theorem sYearD (n:Int):Ctr Tryz.prog 115 [.d (.int .i64 n)] [] (.tup [.d (.int .i64 (yearD n).1),.d (.int .i64 (yearD n).2)]) [] []:=by
 refine ctr_pure Tryz.func115 ok115 rfl cc115 cr115 Tryz.ntmps115 (by simp) rfl rfl ?_;intro c hP hfn;simp only [kc115,vcd,↓vcp,seval]
 repeat' first|((first|refine tp hP (by exact sIs n) ?_|refine tg hP (fun _=>by exact sIs n) ?_|refine tv hP rfl (by exact sIs n) ?_);try simp only [vcd,↓vcp,seval])|refine And.intro (fun h=>?_) (fun h=>?_)|refine aO ?_|(refine tA rfl rfl rfl rfl ?_;try simp only [vcd,↓vcp,seval])|refine aT ?_|fail
 ·(refine RetK.pure (by simp only [rs115,rsb,vcd,↓vcp,seval]) (VLe.tups ?_);simp only [rs115,rsb,vcd,↓vcp,seval])
  rw [yearD,if_neg (by simpa using h)];exact ⟨VLe.refl _,VLe.refl _,trivial⟩
 have hi:=isD_iff.1 (show isD n=true by simpa using h)
 have hd:yearD n=(((yN n.toNat:Nat):Int),0):=by rw [yearD,if_pos (by simpa using h)]
 obtain ⟨m,rfl⟩:∃ m:Nat,n=(m:Int):=⟨n.toNat,by omega⟩
 rw [Int.toNat_natCast] at hd
 have hs:=yN_spec (n:=m) (by omega) (by omega)
 have hy:yN m=if m≤ahN (1601+(m-1) / 365) then 1600+(m-1) / 365 else 1601+(m-1) / 365:=rfl
 have e1:IntKind.i64.wrap ((m:Int)-1)=((m-1:Nat):Int):=(wI (by omega)).trans (by omega)
 have e2:(((m-1:Nat):Int)).tdiv 365=(((m-1) / 365:Nat):Int):=tdiv_nat _ 365
 have e3:IntKind.i64.wrap (((m-1) / 365:Nat):Int)=(((m-1) / 365:Nat):Int):=wI (by omega)
 have e4:IntKind.i64.wrap (1601+(((m-1) / 365:Nat):Int))=((1601+(m-1) / 365:Nat):Int):=(wI (by omega)).trans (by omega)
 have hq:(m-1) / 365≤800:=by omega
 generalize (m-1) / 365=q at *
 clear h
 refine vcC.loop (X:=Nat) (fun y=>⟨[(0,.d (.int .i64 m)),(4,.d (.int .i64 y))],[],[]⟩) (fun y=>1601≤y∧y≤2401∧((yN m=if m≤ahN y then y-1 else y) )) (fun y=>y) (1601+q) ⟨by omega,by omega,by rw [hy,show 1601+q-1=1600+q by omega]⟩ (Wk.of [] hfn rfl (by simp only [enb,vcd,↓vcp,seval,e1,e2,e3,e4]) (by simp only [enb,vcd,↓vcp,seval])) ?_
 rintro y ⟨h1,h2,h3⟩
 simp only [vcd,↓vcp,seval]
 repeat' first|((first|refine tp hP (by exact sAhead y h1 (by omega)) ?_|refine tg hP (fun _=>by exact sAhead y h1 (by omega)) ?_|refine tv hP rfl (by exact sAhead y h1 (by omega)) ?_);try simp only [vcd,↓vcp,seval])|refine And.intro (fun h=>?_) (fun h=>?_)|refine aO ?_|(refine tA rfl rfl rfl rfl ?_;try simp only [vcd,↓vcp,seval])|refine aT ?_|fail
 ·have h':m≤ahN y:=by have:=of_decide_eq_true h;omega
  rw [if_pos h'] at h3
  have e5:IntKind.i64.wrap ((y:Int)-1)=((y-1:Nat):Int):=(wI (by omega)).trans (by omega)
  simp only [e5]
  exact lopK.on (y-1) ⟨by omega,by omega,by rw [←h3,if_neg (by omega)]⟩ (by omega) (Wk.of [] hfn rfl (by simp only [enb,vcd,↓vcp,seval]) (by simp only [enb,vcd,↓vcp,seval]))
 ·have h':¬ m≤ahN y:=by have:=of_decide_eq_false h;omega
  rw [if_neg h'] at h3
  (refine RetK.pure (by simp only [rs115,rsb,vcd,↓vcp,seval]) (VLe.tups ?_);simp only [rs115,rsb,vcd,↓vcp,seval])
  rw [hd,h3];exact ⟨VLe.refl _,VLe.refl _,trivial⟩
end Go.Proofs.YtanppabbmffokaaGreat
end
section
namespace Go.Proofs.YtanppabbmffokaaGreat
open Go.Bx
set_option maxRecDepth 10000
def ymd (t:Nat×Nat×Nat):List V:=[.d (.int .i64 (t.1:Nat)),.d (.int .i64 (t.2.1:Nat)),.d (.int .i64 (t.2.2:Nat))]
def ofD (n:Int):Nat×Nat×Nat:=if isD n=true then ofN n.toNat else (0,0,0)
def ofE (n:Int):Int:=if isD n=true then 0 else 3
set_option maxHeartbeats 1000000 in
theorem sOfD (n:Int):Ctr Tryz.prog 68 [.d (.int .i64 n)] [] (.tup [.ag (ymd (ofD n)),.d (.int .i64 (ofE n))]) [] []:=by
 refine ctr_pure Tryz.func68 ok68 rfl cc68 cr68 Tryz.ntmps68 (by simp) rfl rfl ?_;intro c hP hfn;simp only [kc68,vcd,↓vcp,seval]
 by_cases hi:isD n=true
 ·have h12:=isD_iff.1 hi
  have e1:yearD n=(((yN n.toNat:Nat):Int),0):=by rw [yearD,if_pos hi]
  have e2:ofD n=ofN n.toNat:=by rw [ofD,if_pos hi]
  have e3:ofE n=0:=by rw [ofE,if_pos hi]
  have cy:=sYearD n
  rw [e1] at cy
  rw [e2,e3]
  obtain ⟨m,rfl⟩:∃ m:Nat,n=(m:Int):=⟨n.toNat,by omega⟩
  rw [Int.toNat_natCast] at *
  obtain ⟨a,b,p,q⟩:=yN_spec (n:=m) (by omega) (by omega)
  have hof:ofN m=(yN m,mgo (yN m) 12 1 (m-ahN (yN m))):=rfl
  have hq:m≤ahN (yN m)+msum (yN m) 12:=by rw [msum12,←ah_succ a];exact q
  have hq2:=ylen_or (yN m)
  rw [msum12] at hq
  generalize yN m=y at *
  have e4:IntKind.i64.wrap ((m:Int)-(ahN y:Nat))=((m-ahN y:Nat):Int):=(wI (by omega)).trans (by omega)
  have hr1:1≤m-ahN y:=by omega
  have hr2:m-ahN y≤366:=by omega
  have hr3:m-ahN y≤msum y 12:=by rw [msum12];omega
  generalize m-ahN y=r at *
  repeat' first|((first|refine tp hP (by first|exact cy|exact sAhead y a (by omega)|exact sLen y) ?_|refine tg hP (fun _=>by first|exact cy|exact sAhead y a (by omega)|exact sLen y) ?_|refine tv hP rfl (by first|exact cy|exact sAhead y a (by omega)|exact sLen y) ?_);try simp only [e4,vcd,↓vcp,seval])|refine And.intro (fun h=>?_) (fun h=>?_)|refine aO ?_|(refine tA rfl rfl rfl rfl ?_;try simp only [e4,vcd,↓vcp,seval])|refine aT ?_|fail
  all_goals try (cases h;done)
  refine vcC.loop (X:=Nat×Nat) (fun x=>⟨[(2,.own 2 0),(6,.own 6 0),(25,.ag (lenV y)),(26,.d (.int .i64 x.1))],[(2,.fix [.d (.int .i64 0),.d (.int .i64 0),.d (.int .i64 0)]),(6,.fix [.d (.int .i64 (y:Int)),.d (.int .i64 (x.1+1:Nat)),.d (.int .i64 x.2)])],[2,6]⟩)
   (fun x=>x.1≤12∧1≤x.2∧x.2≤366∧x.2+msum y x.1≤msum y 12∧mgo y 12 1 r=mgo y (12-x.1) (x.1+1) x.2) (fun x=>12-x.1) (0,r) ⟨by omega,hr1,hr2,by simpa [msum] using hr3,rfl⟩ (Wk.of [] hfn rfl (by simp only [enb,vcd,↓vcp,seval]) (by simp only [e4,enb,vcd,↓vcp,seval])) ?_
  rintro ⟨k,d⟩ ⟨hk,hd1,hd2,hd3,hg⟩
  simp only at hk hd1 hd2 hd3 hg
  simp only [lenV,vcd,↓vcp,seval]
  refine ⟨fun h1=>?_,fun h1=>?_⟩
  ·have hlt:k<12:=by have:=of_decide_eq_true h1;omega
   have hn:=len_nth y hlt
   have hml:=mlen_le y (k+1)
   have hms:msum y (k+1)=msum y k+mlen y (k+1):=rfl
   have hmx:=msum_le y (show k+1≤12 from hlt)
   have hmg:mgo y (12-k) (k+1) d=if d≤mlen y (k+1) then (k+1,d) else mgo y (12-(k+1)) (k+1+1) (d-mlen y (k+1)):=by
    rw [show 12-k=(12-(k+1))+1 by omega,mgo]
   rw [hmg] at hg
   simp only [hn,vcd,↓vcp,seval]
   repeat' first|refine And.intro (fun h=>?_) (fun h=>?_)|refine aO ?_|(refine tA rfl rfl rfl rfl ?_;try simp only [hn,vcd,↓vcp,seval])|refine aT ?_|fail
   ·have h':d≤mlen y (k+1):=by have:=of_decide_eq_true h;omega
    rw [if_pos h'] at hg
    (refine RetK.pure (by simp only [rs68,rsb,vcd,↓vcp,seval]) (VLe.tups ?_);simp only [rs68,rsb,vcd,↓vcp,seval])
    rw [hof,hg];exact ⟨VLe.refl _,VLe.refl _,trivial⟩
   ·have h':¬ d≤mlen y (k+1):=by have:=of_decide_eq_false h;omega
    rw [if_neg h'] at hg
    have e5:IntKind.i64.wrap ((d:Int)-(mlen y (k+1):Nat))=((d-mlen y (k+1):Nat):Int):=(wI (by omega)).trans (by omega)
    have e6:IntKind.i64.wrap (((k+1:Nat):Int)+1)=((k+1+1:Nat):Int):=(wI (by omega)).trans (by omega)
    simp only [e5,e6]
    exact lopK.on (k+1,d-mlen y (k+1)) ⟨hlt,by simp only;omega,by simp only;omega,by simp only;omega,hg⟩ (by simp only;omega) (Wk.of [] hfn rfl (by (simp only [lenV,enb,vcd,↓vcp,seval])<;>(first|exact wS (by omega)|(rw [List.length_append];exact wS (by omega))|assumption)) (by simp only [enb,vcd,↓vcp,seval]))
  ·have hk12:k=12:=by have:=of_decide_eq_false h1;omega
   subst hk12;omega
 ·have e1:yearD n=(0,3):=by rw [yearD,if_neg hi]
  have e2:ofD n=(0,0,0):=by rw [ofD,if_neg hi]
  have e3:ofE n=3:=by rw [ofE,if_neg hi]
  have cy:=sYearD n
  rw [e1] at cy
  repeat' first|((first|refine tp hP (by exact cy) ?_|refine tg hP (fun _=>by exact cy) ?_|refine tv hP rfl (by exact cy) ?_);try simp only [vcd,↓vcp,seval])|refine And.intro (fun h=>?_) (fun h=>?_)|refine aO ?_|(refine tA rfl rfl rfl rfl ?_;try simp only [vcd,↓vcp,seval])|refine aT ?_|fail
  ·(refine RetK.pure (by simp only [rs68,rsb,vcd,↓vcp,seval]) (VLe.tups ?_);simp only [rs68,rsb,vcd,↓vcp,seval])
   rw [e2,e3];exact ⟨VLe.refl _,VLe.refl _,trivial⟩
  all_goals try (cases h;done)
structure Dy (y m d:Nat):Prop where
 y1:1601≤y
 y2:y≤2400
 m1:1≤m
 m2:m≤12
 d1:1≤d
 d2:d≤mlen y m
theorem sRightD (y m d:Nat) (h:Dy y m d):Ctr Tryz.prog 118 [.ag [.d (.int .i64 (y:Int)),.d (.int .i64 (m:Int)),.d (.int .i64 (d:Int))]] [] (.d (.bool true)) [] []:=by
 obtain ⟨y1,y2,m1,m2,d1,d2⟩:=h
 have hn:=len_nth y (show m-1<12 by omega)
 rw [show m-1+1=m by omega] at hn
 have hml:=mlen_le y m
 have e1:IntKind.i64.wrap ((m:Int)-1)=((m-1:Nat):Int):=(wI (by omega)).trans (by omega)
 have cl:=sLen y
 simp only [lenV] at cl
 refine ctr_pure Tryz.func118 ok118 rfl cc118 cr118 Tryz.ntmps118 (by simp) rfl rfl ?_;intro c hP hfn;simp only [kc118,e1,vcd,↓vcp,seval]
 repeat' first|((first|refine tp hP (by exact cl) ?_|refine tg hP (fun _=>by exact cl) ?_|refine tv hP rfl (by exact cl) ?_);try simp only [e1,hn,vcd,↓vcp,seval])|refine And.intro (fun h=>?_) (fun h=>?_)|refine aO ?_|(refine tA rfl rfl rfl rfl ?_;try simp only [e1,hn,vcd,↓vcp,seval])|refine aT ?_|fail
 ·exfalso;simp only [Bool.or_eq_true,decide_eq_true_eq] at h;omega
 ·exact RetK.pure (by simp only [rs118,rsb,vcd,↓vcp,seval]) (by (simp only [rs118,rsb,enb,vcd,↓vcp,seval])<;>(first|(simp only [Bool.and_eq_true,decide_eq_true_eq];omega)))
set_option maxHeartbeats 1000000 in
theorem sNumD (y m d:Nat) (h:Dy y m d):Ctr Tryz.prog 70 [.ag [.d (.int .i64 (y:Int)),.d (.int .i64 (m:Int)),.d (.int .i64 (d:Int))]] [] (.tup [.d (.int .i64 (numN y m d:Nat)),.d (.int .i64 0)]) [] []:=by
 have cr:=sRightD y m d h
 have hb:=numN_bounds h.y1 h.y2 h.m1 h.m2 h.d1 h.d2
 obtain ⟨y1,y2,m1,m2,d1,d2⟩:=h
 have hml:=mlen_le y m
 have cl:=sLen y
 have ca:=sAhead y y1 (by omega)
 simp only [lenV] at cl
 have hnum:numN y m d=ahN y+msum y (m-1)+d:=rfl
 have hah:ahN y≤292194:=by unfold numN at hb;omega
 have e1:IntKind.i64.wrap ((m:Int)-1)=((m-1:Nat):Int):=(wI (by omega)).trans (by omega)
 have e2:IntKind.i64.wrap ((ahN y:Int)+(d:Int))=((ahN y+d:Nat):Int):=(wI (by omega)).trans (by omega)
 refine ctr_pure Tryz.func70 ok70 rfl cc70 cr70 Tryz.ntmps70 (by simp) rfl rfl ?_;intro c hP hfn;simp only [kc70,vcd,↓vcp,seval]
 repeat' first|((first|refine tp hP (by first|exact cr|exact cl|exact ca) ?_|refine tg hP (fun _=>by first|exact cr|exact cl|exact ca) ?_|refine tv hP rfl (by first|exact cr|exact cl|exact ca) ?_);try simp only [e1,e2,vcd,↓vcp,seval])|refine And.intro (fun h=>?_) (fun h=>?_)|refine aO ?_|(refine tA rfl rfl rfl rfl ?_;try simp only [e1,e2,vcd,↓vcp,seval])|refine aT ?_|fail
 refine vcC.loop (X:=Nat) (fun k=>⟨[(4,.own 4 0),(5,.d (.int .i64 (ahN y+d+msum y k:Nat))),(21,.d (.int .i64 (m-1:Nat))),(22,.d (.int .i64 k))],[(4,.fix (lenV y))],[4]⟩)
  (fun k=>k≤m-1) (fun k=>m-1-k) 0 (by omega) (Wk.of [] hfn rfl (by simp only [msum,e1,e2,enb,vcd,↓vcp,seval]) (by simp only [lenV,enb,vcd,↓vcp,seval])) ?_
 intro k hk
 simp only [lenV,vcd,↓vcp,seval]
 refine ⟨fun h1=>?_,fun h1=>?_⟩
 ·have hlt:k<m-1:=by have:=of_decide_eq_true h1;omega
  have hn:=len_nth y (show k<12 by omega)
  have hms:msum y (k+1)=msum y k+mlen y (k+1):=rfl
  have hmx:=msum_le y (show k+1≤12 by omega)
  rw [msum12] at hmx
  have hyl:=ylen_or y
  have e3:IntKind.i64.wrap (((ahN y+d+msum y k:Nat):Int)+(mlen y (k+1):Nat))=((ahN y+d+msum y (k+1):Nat):Int):=(wI (by omega)).trans (by omega)
  simp only [hn,e3,vcd,↓vcp,seval]
  repeat' first|refine And.intro (fun h=>?_) (fun h=>?_)|refine aO ?_|(refine tA rfl rfl rfl rfl ?_;try simp only [hn,e3,vcd,↓vcp,seval])|refine aT ?_|fail
  exact lopK.on (k+1) (by omega) (by omega) (Wk.of [] hfn rfl (by (simp only [lenV,enb,vcd,↓vcp,seval])<;>(first|exact wS (by omega)|(rw [List.length_append];exact wS (by omega))|assumption)) (by simp only [lenV,enb,vcd,↓vcp,seval]))
 ·have hkl:k=m-1:=by have:=of_decide_eq_false h1;omega
  subst hkl
  repeat' first|refine And.intro (fun h=>?_) (fun h=>?_)|refine aO ?_|(refine tA rfl rfl rfl rfl ?_;try simp only [vcd,↓vcp,seval])|refine aT ?_|fail
  (refine RetK.pure (by simp only [rs70,rsb,vcd,↓vcp,seval]) (VLe.tups ?_);simp only [rs70,rsb,vcd,↓vcp,seval])
  rw [hnum,show ahN y+msum y (m-1)+d=ahN y+d+msum y (m-1) by omega];exact ⟨VLe.refl _,VLe.refl _,trivial⟩
theorem shift_dy {n b:Nat} (h1:1≤n) (h2:n≤292194) (h3:shiftT n b<9600):Dy (1601+shiftT n b / 12) (shiftT n b % 12+1) (min (ofN n).2.2 (mlen (1601+shiftT n b / 12) (shiftT n b % 12+1))):=by
 have hs:=ofN_spec h1 h2
 have hml:=mlen_le (1601+shiftT n b / 12) (shiftT n b % 12+1)
 generalize shiftT n b=t at *
 exact ⟨by omega,by omega,by omega,by omega,by omega,Nat.min_le_right _ _⟩
set_option maxHeartbeats 1000000 in
theorem sShift (n:Int) (b:Nat) (hb:b≤9600):Ctr Tryz.prog 27 [.d (.int .i64 n),.d (.int .i64 (b:Int))] [] (.tup [.d (.int .i64 (shiftN n b).1),.d (.int .i64 (shiftN n b).2)]) [] []:=by
 have co:=sOfD n
 have e0:IntKind.i64.wrap (0-9600)=-9600:=wI (by omega)
 by_cases hi:isD n=true
 ·have h12:=isD_iff.1 hi
  rw [ofD,if_pos hi,ofE,if_pos hi] at co
  obtain ⟨m,rfl⟩:∃ m:Nat,n=(m:Int):=⟨n.toNat,by omega⟩
  rw [Int.toNat_natCast] at co
  have hs:=ofN_spec (n:=m) (by omega) (by omega)
  have hd:=shift_dy (n:=m) (b:=b) (by omega) (by omega)
  have hsh:shiftN (m:Int) b=if 9600≤shiftT m b then (0,3) else (((shiftV m b:Nat):Int),0):=by rw [shiftN,if_neg (by omega),Int.toNat_natCast]
  have ht:shiftT m b=((ofN m).1-1601)*12+((ofN m).2.1-1)+b:=rfl
  have hv:shiftV m b=numN (1601+shiftT m b / 12) (shiftT m b % 12+1) (min (ofN m).2.2 (mlen (1601+shiftT m b / 12) (shiftT m b % 12+1))):=rfl
  generalize shiftT m b=t at *
  generalize shiftV m b=v at *
  obtain ⟨⟨y,mo,d⟩,hof⟩:∃ p,ofN m=p:=⟨_,rfl⟩
  rw [hof] at co hs hd ht hv
  simp only at hs hd ht hv
  simp only [ymd] at co
  obtain ⟨y1,y2,m1,m2,d1,d2,-⟩:=hs
  have hml:=mlen_le y mo
  have e1:IntKind.i64.wrap ((y:Int)-1601)=((y-1601:Nat):Int):=(wI (by omega)).trans (by omega)
  have e2:IntKind.i64.wrap (((y-1601:Nat):Int)*12)=(((y-1601)*12:Nat):Int):=(wI (by omega)).trans (by omega)
  have e3:IntKind.i64.wrap ((((y-1601)*12:Nat):Int)+(mo:Int))=(((y-1601)*12+mo:Nat):Int):=(wI (by omega)).trans (by omega)
  have e4:IntKind.i64.wrap ((((y-1601)*12+mo:Nat):Int)-1)=(((y-1601)*12+mo-1:Nat):Int):=(wI (by omega)).trans (by omega)
  have e5:IntKind.i64.wrap ((((y-1601)*12+mo-1:Nat):Int)+(b:Int))=(t:Int):=(wI (by omega)).trans (by omega)
  have htb:t≤20000:=by omega
  have e6:((t:Int)).tdiv 12=((t / 12:Nat):Int):=tdiv_nat t 12
  have e7:((t:Int)).tmod 12=((t % 12:Nat):Int):=tmod_nat t 12
  have e8:IntKind.i64.wrap ((t / 12:Nat):Int)=((t / 12:Nat):Int):=wI (by omega)
  have e9:IntKind.i64.wrap (1601+((t / 12:Nat):Int))=((1601+t / 12:Nat):Int):=(wI (by omega)).trans (by omega)
  have e10:IntKind.i64.wrap (((t % 12:Nat):Int)+1)=((t % 12+1:Nat):Int):=(wI (by omega)).trans (by omega)
  have e11:IntKind.i64.wrap (((t % 12+1:Nat):Int)-1)=((t % 12:Nat):Int):=(wI (by omega)).trans (by omega)
  have hn:=len_nth (1601+t / 12) (show t % 12<12 by omega)
  have e12:min (d:Int) (mlen (1601+t / 12) (t % 12+1):Nat)=((min d (mlen (1601+t / 12) (t % 12+1)):Nat):Int):=by omega
  have cl:=sLen (1601+t / 12)
  simp only [lenV] at cl
  clear ht
  refine ctr_pure Tryz.func27 ok27 rfl cc27 cr27 Tryz.ntmps27 (by simp) rfl rfl ?_;intro c hP hfn;simp only [kc27,e0,e1,e2,e3,e4,e5,e6,e7,e8,e9,e10,e11,vcd,↓vcp,seval]
  repeat' first|((first|refine tp hP (by exact co) ?_|refine tg hP (fun _=>by exact co) ?_|refine tv hP rfl (by exact co) ?_);try simp only [e0,e1,e2,e3,e4,e5,e6,e7,e8,e9,e10,e11,vcd,↓vcp,seval])|refine And.intro (fun h=>?_) (fun h=>?_)|refine aO ?_|(refine tA rfl rfl rfl rfl ?_;try simp only [e0,e1,e2,e3,e4,e5,e6,e7,e8,e9,e10,e11,vcd,↓vcp,seval])|refine aT ?_|fail
  ·exfalso;have e9:IntKind.i64.wrap (-9600)=-9600:=by decide
   simp only [bne_self_eq_false,Bool.false_or,Bool.or_eq_true,decide_eq_true_eq] at h;omega
  ·have h':9600≤t:=by simp only [Bool.or_eq_true,decide_eq_true_eq] at h;omega
   (refine RetK.pure (by simp only [rs27,rsb,vcd,↓vcp,seval]) (VLe.tups ?_);simp only [rs27,rsb,vcd,↓vcp,seval])
   rw [hsh,if_pos h'];exact ⟨VLe.refl _,VLe.refl _,trivial⟩
  ·have h':¬ 9600≤t:=by simp only [Bool.or_eq_false_iff,decide_eq_false_iff_not] at h;omega
   have cn:=sNumD _ _ _ (hd (by omega))
   rw [if_neg h'] at hsh
   clear h
   repeat' first|((first|refine tp hP (by exact cl) ?_|refine tg hP (fun _=>by exact cl) ?_|refine tv hP rfl (by exact cl) ?_);try simp only [e9,e10,e11,hn,e12,vcd,↓vcp,seval])|refine And.intro (fun h=>?_) (fun h=>?_)|refine aO ?_|(refine tA rfl rfl rfl rfl ?_;try simp only [e9,e10,e11,hn,e12,vcd,↓vcp,seval])|refine aT ?_|fail
   repeat' first|((first|refine tp hP (by exact cn) ?_|refine tg hP (fun _=>by exact cn) ?_|refine tv hP rfl (by exact cn) ?_);try simp only [vcd,↓vcp,seval])|refine And.intro (fun h=>?_) (fun h=>?_)|refine aO ?_|(refine tA rfl rfl rfl rfl ?_;try simp only [vcd,↓vcp,seval])|refine aT ?_|fail
   (refine RetK.pure (by simp only [rs27,rsb,vcd,↓vcp,seval]) (VLe.tups ?_);simp only [rs27,rsb,vcd,↓vcp,seval])
   rw [hsh,hv];exact ⟨VLe.refl _,VLe.refl _,trivial⟩
 ·rw [ofD,if_neg hi,ofE,if_neg hi] at co
  simp only [ymd] at co
  have hsh:shiftN n b=(0,3):=by
   have:=@isD_iff n
   rw [shiftN,if_pos]
   by_cases h1:n<1
   ·exact .inl h1
   ·right
    by_cases h2:n≤292194
    ·exact absurd (this.2 ⟨by omega,h2⟩) hi
    ·omega
  refine ctr_pure Tryz.func27 ok27 rfl cc27 cr27 Tryz.ntmps27 (by simp) rfl rfl ?_;intro c hP hfn;simp only [kc27,e0,vcd,↓vcp,seval]
  repeat' first|((first|refine tp hP (by exact co) ?_|refine tg hP (fun _=>by exact co) ?_|refine tv hP rfl (by exact co) ?_);try simp only [e0,vcd,↓vcp,seval])|refine And.intro (fun h=>?_) (fun h=>?_)|refine aO ?_|(refine tA rfl rfl rfl rfl ?_;try simp only [e0,vcd,↓vcp,seval])|refine aT ?_|fail
  ·(refine RetK.pure (by simp only [rs27,rsb,vcd,↓vcp,seval]) (VLe.tups ?_);simp only [rs27,rsb,vcd,↓vcp,seval])
   rw [hsh];exact ⟨VLe.refl _,VLe.refl _,trivial⟩
  all_goals try (rename_i g;exfalso;simp at g;done)
  all_goals try (rename_i g;exfalso;simp at g;done)
end Go.Proofs.YtanppabbmffokaaGreat
end
section
namespace Go.Proofs.YtanppabbmffokaaGreat
open Go.Bx
def okS (f t:Int):Bool:=decide (f≥1)&&decide (f≤t)&&decide (t≤292195)
theorem okS_iff {f t:Int}:okS f t=true↔1≤f∧f≤t∧t≤292195:=by simp only [okS,Bool.and_eq_true,decide_eq_true_eq];omega
def keptR (f t:Int):Int×Int:=if (!(okS f t) || f == t)=true then (0,0) else (f,t)
def manyR (f t:Int):Int:=IntKind.i64.wrap ((keptR f t).2-(keptR f t).1)
def vS (f t:Int):V:=.ag [.d (.int .i64 f),.d (.int .i64 t)]
theorem sSpanRight (f t:Int):Ctr Tryz.prog 75 [vS f t] [] (.d (.bool (okS f t))) [] []:=by
 refine ctr_pure Tryz.func75 ok75 rfl cc75 cr75 Tryz.ntmps75 (by simp) rfl rfl ?_;intro c hP hfn;simp only [kc75,vS,vcd,↓vcp,seval]
 exact RetK.pure (by simp only [rs75,rsb,vcd,↓vcp,seval]) (by simp only [rs75,rsb,enb,vcd,↓vcp,seval,okS])
theorem sKept (f t:Int):Ctr Tryz.prog 71 [vS f t] [] (vS (keptR f t).1 (keptR f t).2) [] []:=by
 refine ctr_pure Tryz.func71 ok71 rfl cc71 cr71 Tryz.ntmps71 (by simp) rfl rfl ?_;intro c hP hfn;simp only [kc71,vS,vcd,↓vcp,seval]
 repeat' first|((first|refine tp hP (by exact sSpanRight ..) ?_|refine tg hP (fun _=>by exact sSpanRight ..) ?_|refine tv hP rfl (by exact sSpanRight ..) ?_);try simp only [vcd,↓vcp,seval])|refine And.intro (fun h=>?_) (fun h=>?_)|refine aO ?_|(refine tA rfl rfl rfl rfl ?_;try simp only [vcd,↓vcp,seval])|refine aT ?_|fail
 all_goals exact RetK.pure (by simp only [rs71,rsb,vcd,↓vcp,seval]) (by simp only [rs71,rsb,enb,vcd,↓vcp,seval,keptR,vS, *])
theorem sMany (f t:Int):Ctr Tryz.prog 41 [vS f t] [] (.d (.int .i64 (manyR f t))) [] []:=by
 refine ctr_pure Tryz.func41 ok41 rfl cc41 cr41 Tryz.ntmps41 (by simp) rfl rfl ?_;intro c hP hfn;simp only [kc41,vS,vcd,↓vcp,seval]
 repeat' first|((first|refine tp hP (by exact sKept ..) ?_|refine tg hP (fun _=>by exact sKept ..) ?_|refine tv hP rfl (by exact sKept ..) ?_);try simp only [vS,vcd,↓vcp,seval])|refine And.intro (fun h=>?_) (fun h=>?_)|refine aO ?_|(refine tA rfl rfl rfl rfl ?_;try simp only [vS,vcd,↓vcp,seval])|refine aT ?_|fail
 exact RetK.pure (by simp only [rs41,rsb,vcd,↓vcp,seval]) (by simp only [rs41,rsb,enb,vcd,↓vcp,seval,manyR])
end Go.Proofs.YtanppabbmffokaaGreat
end
section
namespace Go.Proofs.YtanppabbmffokaaGreat
open Go.Bx
set_option maxRecDepth 10000
def idxE (x:Int):Nat→List Int→Int
 |_,[]=>-1
 |k,y::r=>if x=y then (k:Int) else idxE x (k+1) r
theorem idxE_mem (x:Int):∀ (l:List Int) (k:Nat),decide (idxE x k l≥0)=decide (x∈l)
 |[],k=>by simp [idxE]
 |y::r,k=>by
  by_cases h:x=y
  ·simp [idxE,h]
  ·simp [idxE,h];simpa using idxE_mem x r (k+1)
theorem sIndex (l:List Int) (x:Int) (hl:l.length≤9223372036854775807):Ctr Tryz.prog 89 [.d (slK .i64 l),.d (.int .i64 x)] [] (.d (.int .i64 (idxE x 0 l))) [] []:=by
 refine ctr_pure Tryz.func89 ok89 rfl cc89 cr89 Tryz.ntmps89 (by simp) rfl rfl ?_;intro c hP hfn;simp only [kc89,vcd,↓vcp,seval]
 refine vcC.loop (X:=Nat) (fun k=>⟨[(0,.d (slK .i64 l)),(1,.d (.int .i64 x)),(7,.d (.int .i64 l.length)),(8,.d (.int .i64 k))],[],[]⟩)
  (fun k=>k≤l.length∧idxE x 0 l=idxE x k (l.drop k)) (fun k=>l.length-k) 0 ⟨Nat.zero_le _,rfl⟩ (Wk.of [] hfn rfl (by (simp only [enb,vcd,↓vcp,seval])<;>(first|exact wS (by omega)|(rw [List.length_append];exact wS (by omega))|assumption)) (by simp only [enb,vcd,↓vcp,seval])) ?_
 rintro k ⟨hk,he⟩
 simp only [vcd,↓vcp,seval]
 refine ⟨fun h1=>?_,fun h1=>?_⟩
 ·have hlt:k<l.length:=by simpa using h1
  obtain ⟨y,hd,hg,-,-⟩:=drop_at hlt
  rw [hd,idxE] at he
  simp only [hg,vcd,↓vcp,seval]
  repeat' first|refine And.intro (fun h=>?_) (fun h=>?_)|refine aO ?_|(refine tA rfl rfl rfl rfl ?_;try simp only [vcd,↓vcp,seval])|refine aT ?_|fail
  ·exact RetK.pure (by simp only [rs89,rsb,vcd,↓vcp,seval]) (by (simp only [rs89,rsb,enb,vcd,↓vcp,seval])<;>(first|rw [he,if_pos (eq_of_beq h)]))
  ·rw [if_neg (by simpa using h)] at he
   exact lopK.on (k+1) ⟨hlt,he⟩ (by omega) (Wk.of [] hfn rfl (by (simp only [enb,vcd,↓vcp,seval])<;>(first|exact wS (by omega)|(rw [List.length_append];exact wS (by omega))|assumption)) (by simp only [enb,vcd,↓vcp,seval]))
 ·have hkl:k=l.length:=by simp at h1;omega
  rw [hkl] at he
  exact RetK.pure (by simp only [rs89,rsb,vcd,↓vcp,seval]) (by (simp only [rs89,rsb,enb,vcd,↓vcp,seval])<;>(first|simp [he,idxE]))
theorem sContains (l:List Int) (x:Int) (hl:l.length≤9223372036854775807):Ctr Tryz.prog 40 [.d (slK .i64 l),.d (.int .i64 x)] [] (.d (.bool (decide (x∈l)))) [] []:=by
 refine ctr_pure Tryz.func40 ok40 rfl cc40 cr40 Tryz.ntmps40 (by simp) rfl rfl ?_;intro c hP hfn;simp only [kc40,vcd,↓vcp,seval]
 repeat' first|((first|refine tp hP (by exact sIndex l x hl) ?_|refine tg hP (fun _=>by exact sIndex l x hl) ?_|refine tv hP rfl (by exact sIndex l x hl) ?_);try simp only [vcd,↓vcp,seval])|refine And.intro (fun h=>?_) (fun h=>?_)|refine aO ?_|(refine tA rfl rfl rfl rfl ?_;try simp only [vcd,↓vcp,seval])|refine aT ?_|fail
 exact RetK.pure (by simp only [rs40,rsb,vcd,↓vcp,seval]) (by (simp only [rs40,rsb,enb,vcd,↓vcp,seval])<;>(first|exact idxE_mem x l 0))
theorem sContains' {full:Bool} {n:Nat} {ds:List D} {l:List Int} {x:Int} (h:LitI .i64 ds l) (hn:n=l.length) (hl:l.length≤9223372036854775807):Ctr Tryz.prog 40 [.d (.sl full 1 n (litRow 1 ds)),.d (.int .i64 x)] [] (.d (.bool (decide (x∈l)))) [] []:=
 (sContains l x hl).arg ⟨h.vle hn,VLe.refl _,trivial⟩
theorem sMulU (x y:Nat) (hx:x<18446744073709551616) (hy:y<18446744073709551616):Ctr Tryz.prog 138 [.d (.int .u64 x),.d (.int .u64 y)] [] (.tup [.d (.int .u64 ((x*y / 18446744073709551616:Nat):Int)),.d (.int .u64 ((x*y % 18446744073709551616:Nat):Int))]) [] []:=by
 refine ctr_pure Tryz.func138 ok138 rfl cc138 cr138 Tryz.ntmps138 (by simp) rfl rfl ?_;intro c hP hfn;simp only [kc138,vcd,↓vcp,seval]
 repeat' first|((first|refine tp hP (by exact sMul64 x y hx hy) ?_|refine tg hP (fun _=>by exact sMul64 x y hx hy) ?_|refine tv hP rfl (by exact sMul64 x y hx hy) ?_);try simp only [vcd,↓vcp,seval])|refine And.intro (fun h=>?_) (fun h=>?_)|refine aO ?_|(refine tA rfl rfl rfl rfl ?_;try simp only [vcd,↓vcp,seval])|refine aT ?_|fail
 (refine RetK.pure (by simp only [rs138,rsb,vcd,↓vcp,seval]) (VLe.tups ?_);simp only [rs138,rsb,vcd,↓vcp,seval])
 exact ⟨VLe.refl _,VLe.refl _,trivial⟩
set_option maxHeartbeats 1000000 in
theorem sRepeat1 (n:Nat) (h1:1≤n) (h2:n≤2000):Ctr Tryz.prog 91 [.d (.sl true 1 1 (litRow 1 [.int .i64 1])),.d (.int .i64 (n:Int))] [] (.d (slK .i64 (List.replicate n 1))) [] []:=by
 have e1:IntKind.u64.wrap (1:Int)=((1:Nat):Int):=by rw [IntKind.wrap_u64];omega
 have e2:IntKind.u64.wrap (n:Int)=(n:Int):=by rw [IntKind.wrap_u64];omega
 have cm:=sMulU 1 n (by omega) (by omega)
 have g1:1*n / 18446744073709551616=0:=by omega
 have g2:1*n % 18446744073709551616=n:=by omega
 rw [g1,g2] at cm
 have e3:IntKind.i64.wrap (n:Int)=(n:Int):=wI (by omega)
 refine ctr_pure Tryz.func91 ok91 rfl cc91 cr91 Tryz.ntmps91 (by simp) rfl rfl ?_;intro c hP hfn;simp only [kc91,e1,e2,e3,vcd,↓vcp,seval]
 repeat' first|refine And.intro (fun h=>?_) (fun h=>?_)|refine aO ?_|(refine tA rfl rfl rfl rfl ?_;try simp only [e1,e2,e3,vcd,↓vcp,seval])|refine aT ?_|fail
 ·exfalso;have:=of_decide_eq_true h;omega
 clear h
 repeat' first|((first|refine tp hP (by exact cm) ?_|refine tg hP (fun _=>by exact cm) ?_|refine tv hP rfl (by exact cm) ?_);try simp only [e1,e2,e3,vcd,↓vcp,seval])|refine And.intro (fun h=>?_) (fun h=>?_)|refine aO ?_|(refine tA rfl rfl rfl rfl ?_;try simp only [e1,e2,e3,vcd,↓vcp,seval])|refine aT ?_|fail
 ·exfalso;simp only [Bool.or_eq_true,decide_eq_true_eq] at h;omega
 clear h
 have e4:min 1 n=1:=by omega
 simp only [e3,e4,vcd,↓vcp,seval]
 repeat' first|refine And.intro (fun h=>?_) (fun h=>?_)|refine aO ?_|(refine tA rfl rfl rfl rfl ?_;try simp only [e3,e4,vcd,↓vcp,seval])|refine aT ?_|fail
 refine vcC.loop (X:=Nat) (fun m=>⟨[(7,.osl 30),(8,.d (.int .i64 (m:Int)))],[(30,.row 3 1 n (fun i=>[.int .i64 (if i<m then 1 else 0)]))],[30]⟩)
  (fun m=>1≤m∧m≤n) (fun m=>n-m) 1 ⟨by omega,by omega⟩ (Wk.of [] hfn rfl (by simp only [enb,vcd,↓vcp,seval]) (by
   simp only [e3,e4,enb,vcd,↓vcp,seval]
   refine OLe.row rfl fun i hi=>?_
   by_cases h:i<1
   ·have:i=0:=by omega
    subst this;rfl
   ·rw [if_neg h,if_neg h])) ?_
 rintro m ⟨hm1,hm2⟩
 simp only [vcd,↓vcp,seval]
 refine ⟨fun h1=>?_,fun h1=>?_⟩
 ·have hlt:m<n:=by have:=of_decide_eq_true h1;omega
  have e5:min m (n-m)=(m+min m (n-m))-m:=by omega
  have e6:IntKind.i64.wrap ((m:Int)+(min m (n-m):Nat))=((m+min m (n-m):Nat):Int):=(wI (by omega)).trans (by omega)
  repeat' first|refine And.intro (fun h=>?_) (fun h=>?_)|refine aO ?_|(refine tA rfl rfl rfl rfl ?_;try simp only [e6,vcd,↓vcp,seval])|refine aT ?_|fail
  exact lopK.on (m+min m (n-m)) ⟨by omega,by omega⟩ (by omega) (Wk.of [] hfn rfl (by simp only [e6,enb,vcd,↓vcp,seval]) (by
   simp only [enb,vcd,↓vcp,seval]
   refine OLe.row rfl fun i hi=>?_
   by_cases h:m≤i∧i<m+min m (n-m)
   ·rw [if_pos h,if_pos (by omega),if_pos (by omega)]
   ·rw [if_neg h]
    by_cases h3:i<m
    ·rw [if_pos h3,if_pos (by omega)]
    ·rw [if_neg h3,if_neg (by omega)]))
 ·have hml:m=n:=by have:=of_decide_eq_false h1;omega
  subst hml
  repeat' first|refine And.intro (fun h=>?_) (fun h=>?_)|refine aO ?_|(refine tA rfl rfl rfl rfl ?_;try simp only [vcd,↓vcp,seval])|refine aT ?_|fail
  refine RetK.mk _ (Wk.pub 30 rfl) (by simp only [rs91,rsb,vcd,↓vcp,seval]) ?_ trivial
  simp only [rs91,rsb,vcd,↓vcp,seval]
  refine VLe.sl (by simp) (fun _=>rfl) id fun i hi=>?_
  rw [if_pos hi]
  simp [List.getD_eq_getElem?_getD,hi]
theorem wN {x:Nat} (h:x≤9223372036854775807):IntKind.i64.wrap (x:Int)=(x:Int):=wI (by omega)
theorem wD {p q:Nat} (h:q≤p) (hp:p≤9223372036854775807):IntKind.i64.wrap ((p:Int)-(q:Int))=((p-q:Nat):Int):=(wI (by omega)).trans (by omega)
def partN (a n i:Nat):Nat:=a*(i+1) / n-a*i / n
def partsN (a n:Nat):List Int:=(List.range n).map fun i=>((partN a n i:Nat):Int)
theorem downR_nat {a s n:Nat} (hn:0<n) (hs:s≤n) (ha:a≤4000000000000000000):downR (a:Int) (s:Int) (n:Int)=(((a*s / n:Nat):Int),0):=by
 have h1:a*s / n≤a:=by
  have:a*s≤a*n:=Nat.mul_le_mul_left _ hs
  calc a*s / n≤a*n / n:=Nat.div_le_div_right this
   _=a:=Nat.mul_div_cancel _ hn
 unfold downR ofR
 rw [if_neg (by omega),if_neg (by omega)]
 simp only [Int.toNat_natCast,upD,Bool.false_eq_true,if_false,Nat.add_zero]
 rw [if_neg (by omega),if_neg (by omega)]
theorem psums_one:∀ (n:Nat) (k:Nat),psums (k:Int) (List.replicate n 1)=(List.range n).map fun i=>((k+i+1:Nat):Int)
 |0,k=>rfl
 |n+1,k=>by
  rw [List.replicate_succ,psums,show ((k:Int)+1)=((k+1:Nat):Int) by omega,psums_one n (k+1),List.range_succ_eq_map]
  simp only [List.map_cons,List.map_map]
  refine List.cons_eq_cons.2 ⟨by omega,?_⟩
  apply List.map_congr_left
  intro i _
  simp only [Function.comp_apply]
  omega
theorem deal2_one {a n:Nat} (hn:0<n) (ha:a≤4000000000000000000):∀ (j k:Nat),k+j≤n→deal2 (a:Int) (n:Int) ((a*k / n:Nat):Int) ((List.range j).map fun i=>((k+i+1:Nat):Int))=(List.range j).map fun i=>((partN a n (k+i):Nat):Int)
 |0,k,_=>rfl
 |j+1,k,h=>by
  have h1:a*k / n≤a*(k+1) / n:=Nat.div_le_div_right (Nat.mul_le_mul_left _ (by omega))
  have h2:a*(k+1) / n≤a:=by
   have:a*(k+1)≤a*n:=Nat.mul_le_mul_left _ (by omega)
   calc a*(k+1) / n≤a*n / n:=Nat.div_le_div_right this
    _=a:=Nat.mul_div_cancel _ hn
  have ih:=deal2_one hn ha j (k+1) (by omega)
  rw [List.range_succ_eq_map]
  simp only [List.map_cons,List.map_map,deal2,Nat.add_zero]
  rw [downR_nat hn (by omega) ha]
  simp only
  refine List.cons_eq_cons.2 ⟨?_,?_⟩
  ·exact wD h1 (Nat.le_trans h2 (Nat.le_trans ha (by decide)))
  ·have e1:(List.range j).map ((fun i=>((k+i+1:Nat):Int)) ∘ Nat.succ)=(List.range j).map fun i=>((k+1+i+1:Nat):Int):=by
    apply List.map_congr_left;intro i _;simp only [Function.comp_apply];omega
   have e2:(List.range j).map ((fun i=>((partN a n (k+i):Nat):Int)) ∘ Nat.succ)=(List.range j).map fun i=>((partN a n (k+1+i):Nat):Int):=by
    apply List.map_congr_left;intro i _;simp only [Function.comp_apply];rw [show k+i.succ=k+1+i by omega]
   rw [e1,e2,ih]
theorem sum_ones (n:Nat):(List.replicate n (1:Int)).sum=n:=by
 induction n with
 |zero=>rfl
 |succ n ih=>rw [List.replicate_succ,List.sum_cons,ih];omega
theorem split_one {a n:Nat} (h1:1≤n) (h2:n≤2000) (ha:a≤4000000000000000000):splitR (a:Int) (List.replicate n 1)=(partsN a n,0):=by
 have hs:=sum_ones n
 have hd:=deal2_one (a:=a) (n:=n) (by omega) ha n 0 (by omega)
 have hp:=psums_one n 0
 simp only [Nat.zero_add,Nat.mul_zero,Nat.zero_div,Int.natCast_zero] at hd hp
 unfold splitR
 rw [if_neg (by simp;omega),if_neg (by rw [List.any_eq_true];rintro ⟨x,hx,hx2⟩;rw [List.eq_of_mem_replicate hx] at hx2;simp at hx2),hs,if_neg (by omega),if_neg (by omega),hp]
 unfold partsN
 rw [←hd]
theorem sEqual (a n:Nat) (h1:1≤n) (h2:n≤2000) (ha:a≤4000000000000000000):Ctr Tryz.prog 42 [.d (.int .i64 (a:Int)),.d (.int .i64 (n:Int))] [] (.d (slK .i64 (partsN a n))) [] []:=by
 have cs:=sSplit (a:Int) (List.replicate n 1) (by omega) (by simp;omega) (by intro x hx;rw [List.eq_of_mem_replicate hx];omega)
 rw [split_one h1 h2 ha] at cs
 refine ctr_pure Tryz.func42 ok42 rfl cc42 cr42 Tryz.ntmps42 (by simp) rfl rfl ?_;intro c hP hfn;simp only [kc42,vcd,↓vcp,seval]
 repeat' first|((first|refine tp hP (by first|exact sRepeat1 n h1 h2|exact cs) ?_|refine tg hP (fun _=>by first|exact sRepeat1 n h1 h2|exact cs) ?_|refine tv hP rfl (by first|exact sRepeat1 n h1 h2|exact cs) ?_);try simp only [vcd,↓vcp,seval])|refine And.intro (fun h=>?_) (fun h=>?_)|refine aO ?_|(refine tA rfl rfl rfl rfl ?_;try simp only [vcd,↓vcp,seval])|refine aT ?_|fail
 exact RetK.pure (by simp only [rs42,rsb,vcd,↓vcp,seval]) (by (simp only [rs42,rsb,enb,vcd,↓vcp,seval])<;>(first|exact VLe.refl _))
end Go.Proofs.YtanppabbmffokaaGreat
end
section
namespace Go.Proofs.YtanppabbmffokaaGreat
open Go.Bx
set_option maxRecDepth 10000
structure Bl where
 du:Int
 am:Int
 pa:Int
deriving DecidableEq
instance:Inhabited Bl:=⟨⟨0,0,0⟩⟩
def cB (b:Bl):List D:=[.int .i64 b.du,.int .i64 b.am,.int .i64 b.pa]
def slL (l:List Bl):D:=.sl false 3 l.length (fun i=>[.int .i64 (l.getD i default).du,.int .i64 (l.getD i default).am,.int .i64 (l.getD i default).pa])
theorem rSame (a b:List Bl) (ha:a.length≤9223372036854775807) (hb:b.length≤9223372036854775807):Ctr Tryz.prog 34 [.d (slL a),.d (slL b)] [] (.d (.bool (decide (a=b)))) [] []:=by
 refine ctr_pure Tryz.func34 ok34 rfl cc34 cr34 Tryz.ntmps34 (by simp) rfl rfl ?_;intro c hP hfn;simp only [kc34,slL,vcd,↓vcp,seval]
 refine ⟨fun h0=>?_,fun h0=>?_⟩
 ·have h':¬ a=b:=by rintro rfl;simp at h0
  exact RetK.pure (by simp only [rs34,rsb,vcd,↓vcp,seval]) (by (simp only [rs34,rsb,enb,vcd,↓vcp,seval])<;>(first|simp [h']))
 have hlen:a.length=b.length:=by simp only [bne_eq_false_iff_eq] at h0;omega
 clear h0
 refine vcC.loop (X:=Nat) (fun k=>⟨[(0,.d (slL a)),(1,.d (slL b)),(5,.d (.int .i64 k))],[],[]⟩)
  (fun k=>k≤a.length∧a.take k=b.take k) (fun k=>a.length-k) 0 ⟨Nat.zero_le _,by simp⟩ (Wk.of [] hfn rfl (by (simp only [slL,enb,vcd,↓vcp,seval])<;>(first|exact wS (by omega)|(rw [List.length_append];exact wS (by omega))|assumption)) (by simp only [enb,vcd,↓vcp,seval])) ?_
 rintro k ⟨hk,he⟩
 simp only [slL,vcd,↓vcp,seval]
 refine ⟨fun h1=>?_,fun h1=>?_⟩
 ·have hlt:k<a.length:=by have:=of_decide_eq_true h1;omega
  obtain ⟨x,hdx,hgx,hmx,hax⟩:=drop_at hlt
  obtain ⟨y,hdy,hgy,hmy,hay⟩:=drop_at (show k<b.length by omega)
  simp only [hgx,hgy,vcd,↓vcp,seval]
  repeat' first|refine And.intro (fun h=>?_) (fun h=>?_)|refine aO ?_|(refine tA rfl rfl rfl rfl ?_;try simp only [hgx,hgy,vcd,↓vcp,seval])|refine aT ?_|fail
  ·have h':¬ a=b:=by
    rintro rfl
    have:x=y:=by rw [hax] at hay;exact Option.some.inj hay
    subst this
    simp at h
   exact RetK.pure (by simp only [rs34,rsb,vcd,↓vcp,seval]) (by (simp only [rs34,rsb,enb,vcd,↓vcp,seval])<;>(first|simp [h']))
  ·have hxy:x=y:=by
    obtain ⟨x1,x2,x3⟩:=x
    obtain ⟨y1,y2,y3⟩:=y
    simp at h
    simp [h]
   refine lopK.on (k+1) ⟨hlt,?_⟩ (by omega) (Wk.of [] hfn rfl (by (simp only [slL,enb,vcd,↓vcp,seval])<;>(first|exact wS (by omega)|(rw [List.length_append];exact wS (by omega))|assumption)) (by simp only [enb,vcd,↓vcp,seval]))
   rw [List.take_add_one,List.take_add_one,he,hax,hay,hxy]
 ·have hkl:k=a.length:=by have:=of_decide_eq_false h1;omega
  rw [hkl,List.take_length,hlen,List.take_length] at he
  exact RetK.pure (by simp only [rs34,rsb,vcd,↓vcp,seval]) (by (simp only [rs34,rsb,enb,vcd,↓vcp,seval])<;>(first|simp [he]))
end Go.Proofs.YtanppabbmffokaaGreat
end
section
namespace Go.Proofs.YtanppabbmffokaaGreat
open Go.Bx
set_option maxRecDepth 10000
def rowB (l:List Bl):Own:=.row 56 3 l.length (fun i=>[.int .i64 (l.getD i default).du,.int .i64 (l.getD i default).am,.int .i64 (l.getD i default).pa])
theorem VLe_slL {full:Bool} {n:Nat} {l:List Bl} {F:Nat→List D} (hn:n=l.length) (hF:∀ i,i<n→F i=[.int .i64 (l.getD i default).du,.int .i64 (l.getD i default).am,.int .i64 (l.getD i default).pa]):VLe (.d (.sl full 3 n F)) (.d (slL l)):=VLe.sl hn (fun _=>rfl) (by simp) hF
end Go.Proofs.YtanppabbmffokaaGreat
end
section
namespace Go.Proofs.YtanppabbmffokaaGreat
open Go.Bx
set_option maxRecDepth 10000
theorem partsN_len (a n:Nat):(partsN a n).length=n:=by simp [partsN]
theorem partsN_at {a n i:Nat} (h:i<n) (d:Int):(partsN a n).getD i d=((partN a n i:Nat):Int):=by
 simp [partsN,List.getD_eq_getElem?_getD,h]
end Go.Proofs.YtanppabbmffokaaGreat
end
section
namespace Go.Proofs.YtanppabbmffokaaGreat
open Go.Bx
set_option maxRecDepth 10000
def planB (a:Nat) (f:Int) (n i:Nat):Bl:=⟨(shiftN f (i*12 / n)).1,(partN a n i:Nat),0⟩
def planL (a:Nat) (f:Int) (n:Nat):List Bl:=(List.range n).map (planB a f n)
def fitsP (f:Int) (n:Nat):Bool:=(List.range n).all fun i=>(shiftN f (i*12 / n)).2 == 0
def mayP (amt f t n:Int):Bool:=decide (n∈[1,2,4,12])&&decide (0≤amt∧amt≤4000000000000000000)&&!(manyR f t == 0)
def planR (amt f t n:Int):List Bl×Int:=
 if mayP amt f t n=false then ([],1) else if fitsP f n.toNat=false then ([],3) else (planL amt.toNat f n.toNat,0)
theorem mayP_iff {amt f t n:Int}:mayP amt f t n=true↔(n=1∨n=2∨n=4∨n=12)∧0≤amt∧amt≤4000000000000000000∧¬ manyR f t=0:=by
 simp only [mayP,Bool.and_eq_true,decide_eq_true_eq,List.mem_cons,List.not_mem_nil,or_false,Bool.not_eq_true',beq_eq_false_iff_ne,ne_eq]
 constructor
 ·rintro ⟨⟨h1,h2⟩,h3⟩;exact ⟨h1,h2.1,h2.2,h3⟩
 ·rintro ⟨h1,h2,h3,h4⟩;exact ⟨⟨h1,h2,h3⟩,h4⟩
theorem plan_snoc (a:Nat) (f:Int) (n k:Nat):(List.range (k+1)).map (planB a f n)=(List.range k).map (planB a f n)++[planB a f n k]:=by
 rw [List.range_succ,List.map_append];rfl
theorem fits_not {f:Int} {n i:Nat} (hi:i<n) (h:¬ (shiftN f (i*12 / n)).2=0):fitsP f n=false:=by
 rw [fitsP,List.all_eq_false]
 exact ⟨i,List.mem_range.2 hi,by simpa using h⟩
theorem fits_all {f:Int} {n:Nat} (h:∀ i,i<n→(shiftN f (i*12 / n)).2=0):fitsP f n=true:=by
 rw [fitsP,List.all_eq_true]
 intro i hi
 simpa using h i (List.mem_range.1 hi)
set_option maxHeartbeats 2000000 in
theorem sPlan (amt f t n:Int):Ctr Tryz.prog 13 [.d (.int .i64 amt),vS f t,.d (.int .i64 n)] [] (.tup [.d (slL (planR amt f t n).1),.d (.int .i64 (planR amt f t n).2)]) [] []:=by
 have cm:=sMany f t
 have cc:=sContains' (full:=true) (n:=4) (ds:=[.int .i64 1,.int .i64 2,.int .i64 4,.int .i64 12]) (l:=[1,2,4,12]) (x:=n) (by repeat constructor) rfl (by simp)
 have hmi:=@mayP_iff amt f t n
 simp only [vS] at cm
 refine ctr_pure Tryz.func13 ok13 rfl cc13 cr13 Tryz.ntmps13 (by simp) rfl rfl ?_;intro c hP hfn;simp only [kc13,vS,vcd,↓vcp,seval]
 repeat' first|((first|refine tp hP (by first|exact cc|exact cm) ?_|refine tg hP (fun _=>by first|exact cc|exact cm) ?_|refine tv hP rfl (by first|exact cc|exact cm) ?_);try simp only [vcd,↓vcp,seval])|refine And.intro (fun h=>?_) (fun h=>?_)|refine aO ?_|(refine tA rfl rfl rfl rfl ?_;try simp only [vcd,↓vcp,seval])|refine aT ?_|fail
 ·have hm:mayP amt f t n=false:=by
   rw [←Bool.not_eq_true]
   intro g
   have g2:=hmi.1 g
   simp only [Bool.or_eq_true,Bool.not_eq_true',decide_eq_false_iff_not,decide_eq_true_eq,beq_iff_eq,List.mem_cons,List.not_mem_nil,or_false] at h
   omega
  (refine RetK.pure (by simp only [rs13,rsb,vcd,↓vcp,seval]) (VLe.tups ?_);simp only [rs13,rsb,vcd,↓vcp,seval])
  rw [planR,if_pos hm];exact ⟨VLe.nil rfl (by simp),VLe.refl _,trivial⟩
 have hm:mayP amt f t n=true:=by
  rw [hmi]
  simp only [Bool.or_eq_false_iff,Bool.not_eq_false',decide_eq_false_iff_not,decide_eq_true_eq,beq_eq_false_iff_ne,ne_eq,List.mem_cons,List.not_mem_nil,or_false] at h
  omega
 have hq:planR amt f t n=if fitsP f n.toNat=false then ([],3) else (planL amt.toNat f n.toNat,0):=by rw [planR,if_neg (by rw [hm];simp)]
 have h2:=hmi.1 hm
 clear h hmi
 obtain ⟨N,rfl⟩:∃ N:Nat,n=(N:Int):=⟨n.toNat,by omega⟩
 obtain ⟨A,rfl⟩:∃ A:Nat,amt=(A:Int):=⟨amt.toNat,by omega⟩
 simp only [Int.toNat_natCast] at hq
 have hN:1≤N∧N≤12:=by omega
 have ce:=sEqual A N hN.1 (by omega) (by omega)
 repeat' first|((first|refine tp hP (by exact ce) ?_|refine tg hP (fun _=>by exact ce) ?_|refine tv hP rfl (by exact ce) ?_);try simp only [vcd,↓vcp,seval])|refine And.intro (fun h=>?_) (fun h=>?_)|refine aO ?_|(refine tA rfl rfl rfl rfl ?_;try simp only [vcd,↓vcp,seval])|refine aT ?_|fail
 refine vcC.loop (X:=Nat) (fun k=>⟨[(10,.osl 1000),(2,.d (.int .i64 (N:Int))),(4,.own 4 0),(9,.d (slK .i64 (partsN A N))),(35,.d (.int .i64 (N:Int))),(36,.d (.int .i64 k))],[(1000,rowB ((List.range k).map (planB A f N))),(4,.fix [.d (.int .i64 f),.d (.int .i64 t)])],[1000,4]⟩)
  (fun k=>k≤N∧∀ i,i<k→(shiftN f (i*12 / N)).2=0) (fun k=>N-k) 0 ⟨Nat.zero_le _,fun i hi=>absurd hi (Nat.not_lt_zero i)⟩
  ((Wk.row0 (s:=10) (k:=1000) (e:=56) (sz:=3) (f':=fun _=>[]) rfl rfl (by simp)).trans (Wk.of _ hfn rfl (by simp only [enb,vcd,↓vcp,seval]) (by simp only [rowB,List.range_zero,List.map_nil,enb,vcd,↓vcp,seval];exact OLe.row rfl (fun i hi=>absurd hi (Nat.not_lt_zero i))))) ?_
 rintro k ⟨hk,hok⟩
 have hpl:((List.range k).map (planB A f N)).length=k:=by simp
 simp only [rowB,vcd,↓vcp,seval]
 refine ⟨fun h1=>?_,fun h1=>?_⟩
 ·have hlt:k<N:=by have:=of_decide_eq_true h1;omega
  have e1:IntKind.i64.wrap ((k:Int)*12)=((k*12:Nat):Int):=(wI (by omega)).trans (by omega)
  have e2:(((k*12:Nat):Int)).tdiv (N:Int)=((k*12 / N:Nat):Int):=tdiv_nat _ _
  have hb:k*12 / N≤k*12:=Nat.div_le_self _ _
  have e3:IntKind.i64.wrap ((k*12 / N:Nat):Int)=((k*12 / N:Nat):Int):=wN (by omega)
  have cs:=sShift f (k*12 / N) (by omega)
  have hpa:=fun d=>partsN_at (a:=A) hlt d
  have hpn:=partsN_len A N
  simp only [e1,e2,e3,hpa,hpn,vcd,↓vcp,seval]
  repeat' first|((first|refine tp hP (by exact cs) ?_|refine tg hP (fun _=>by exact cs) ?_|refine tv hP rfl (by exact cs) ?_);try simp only [e1,e2,e3,hpa,hpn,vcd,↓vcp,seval])|refine And.intro (fun h=>?_) (fun h=>?_)|refine aO ?_|(refine tA rfl rfl rfl rfl ?_;try simp only [e1,e2,e3,hpa,hpn,vcd,↓vcp,seval])|refine aT ?_|fail
  ·have h':¬ (shiftN f (k*12 / N)).2=0:=by simpa using h
   rw [if_pos (fits_not hlt h')] at hq
   (refine RetK.pure (by simp only [rs13,rsb,vcd,↓vcp,seval]) (VLe.tups ?_);simp only [rs13,rsb,vcd,↓vcp,seval])
   rw [hq];exact ⟨VLe.nil rfl (by simp),VLe.refl _,trivial⟩
  ·have h':(shiftN f (k*12 / N)).2=0:=by simpa using h
   refine lopK.on (k+1) ⟨hlt,fun i hi=>?_⟩ (by omega) ?_
   ·by_cases e:i=k
    ·rw [e];exact h'
    ·exact hok i (by omega)
   simp only [rowB,plan_snoc]
   exact (Wk.snoc (k:=59) _ hfn rfl rfl rfl rfl (OLe.app1 (cells:=fun n:Bl=>[.int .i64 n.du,.int .i64 n.am,.int .i64 n.pa]) (fun i hi=>by simp only [if_pos hi]) (by simp [planB])) (by (simp only [enb,vcd,↓vcp,seval])<;>(first|exact wS (by omega)|(rw [List.length_append];exact wS (by omega))|assumption)) (by simp only [enb,vcd,↓vcp,seval]) (by simp) (by simp only [enb,vcd,↓vcp,seval]) (by simp only [enb,vcd,↓vcp,seval]))
 ·have hkl:k=N:=by have:=of_decide_eq_false h1;omega
  subst hkl
  rw [if_neg (by rw [fits_all hok];simp)] at hq
  repeat' first|refine And.intro (fun h=>?_) (fun h=>?_)|refine aO ?_|(refine tA rfl rfl rfl rfl ?_;try simp only [vcd,↓vcp,seval])|refine aT ?_|fail
  refine RetK.mk _ (Wk.pub 1000 rfl) (by simp only [rs13,rsb,vcd,↓vcp,seval]) ?_ trivial
  simp only [rs13,rsb,vcd,↓vcp,seval]
  rw [hq];exact VLe.tups ⟨VLe.refl _,VLe.refl _,trivial⟩
end Go.Proofs.YtanppabbmffokaaGreat
end
section
namespace Go.Proofs.YtanppabbmffokaaGreat
open Go.Bx
set_option maxRecDepth 10000
theorem sMust0:Ctr Tryz.prog 76 [.d (.int .i64 0)] [] (.tup []) [] []:=by
 refine ctr_pure Tryz.func76 ok76 rfl cc76 cr76 Tryz.ntmps76 (by simp) rfl rfl ?_;intro c hP hfn;simp only [kc76,vcd,↓vcp,seval]
 repeat' first|refine And.intro (fun h=>?_) (fun h=>?_)|refine aO ?_|(refine tA rfl rfl rfl rfl ?_;try simp only [vcd,↓vcp,seval])|refine aT ?_|fail
 all_goals exact RetK.pure (by simp only [rs76,rsb,vcd,↓vcp,seval]) (by (simp only [rs76,rsb,enb,vcd,↓vcp,seval])<;>(first|trivial))
theorem sMust1 (e:Int) (h:e≠0):CtrP Tryz.prog 76 [.d (.int .i64 e)] (vErr e):=by
 have h1:(e != 0)=true:=by rw [bne_iff_ne];exact h
 refine ctr_panics Tryz.func76 ok76 rfl cc76 Tryz.ntmps76 (by simp) rfl rfl ?_;intro c hP hfn hpk;simp only [kc76,h1,vcd,↓vcp,seval]
 repeat' first|refine And.intro (fun h=>?_) (fun h=>?_)|refine aO ?_|(refine tA rfl rfl rfl rfl ?_;try simp only [h1,vcd,↓vcp,seval])|refine aT ?_|fail
 refine TR.pnc rfl trivial ?_
 rw [hpk];exact VLe.refl _
theorem sIn (f t d:Int):Ctr Tryz.prog 32 [vS f t,.d (.int .i64 d)] [] (.d (.bool (decide (d≥(keptR f t).1)&&decide (d<(keptR f t).2)))) [] []:=by
 have ck:=sKept f t
 simp only [vS] at ck
 refine ctr_pure Tryz.func32 ok32 rfl cc32 cr32 Tryz.ntmps32 (by simp) rfl rfl ?_;intro c hP hfn;simp only [kc32,vS,vcd,↓vcp,seval]
 repeat' first|((first|refine tp hP (by exact ck) ?_|refine tg hP (fun _=>by exact ck) ?_|refine tv hP rfl (by exact ck) ?_);try simp only [vcd,↓vcp,seval])|refine And.intro (fun h=>?_) (fun h=>?_)|refine aO ?_|(refine tA rfl rfl rfl rfl ?_;try simp only [vcd,↓vcp,seval])|refine aT ?_|fail
 exact RetK.pure (by simp only [rs32,rsb,vcd,↓vcp,seval]) (by (simp only [rs32,rsb,enb,vcd,↓vcp,seval])<;>(first|rfl))
theorem sDay (n:Int):Ctr Tryz.prog 85 [.d (.int .i64 n)] [] (.d (.bool (decide (n≥1)&&decide (n≤292194)))) [] []:=by
 refine ctr_pure Tryz.func85 ok85 rfl cc85 cr85 Tryz.ntmps85 (by simp) rfl rfl ?_;intro c hP hfn;simp only [kc85,vcd,↓vcp,seval]
 exact RetK.pure (by simp only [rs85,rsb,vcd,↓vcp,seval]) (by (simp only [rs85,rsb,enb,vcd,↓vcp,seval])<;>(first|rfl))
def covR:Int→List Cv→Bool
 |_,[]=>true
 |last,c::r=>!(decide (c.pe≤last) || !(rightC c))&&covR c.pe r
def coversT (l:List Cv):Bool:=covR (-1) l&&(decide (1≤l.length)&&decide (l.length≤8))
theorem sCovers (l:List Cv) (hl:l.length≤9223372036854775807):Ctr Tryz.prog 132 [.d (slC l)] [] (.d (.bool (coversT l))) [] []:=by
 refine ctr_pure Tryz.func132 ok132 rfl cc132 cr132 Tryz.ntmps132 (by simp) rfl rfl ?_;intro c hP hfn;simp only [kc132,slC,vcd,↓vcp,seval]
 refine vcC.loop (X:=Nat×Int) (fun x=>⟨[(0,.d (slC l)),(3,.d (.int .i64 x.2)),(6,.d (slC l)),(7,.d (.int .i64 l.length)),(8,.d (.int .i64 x.1))],[],[]⟩)
  (fun x=>x.1≤l.length∧covR (-1) l=covR x.2 (l.drop x.1)) (fun x=>l.length-x.1) (0,-1) ⟨Nat.zero_le _,rfl⟩ (Wk.of _ hfn rfl (by simp only [slC,enb,vcd,↓vcp,seval]) (by simp only [enb,vcd,↓vcp,seval])) ?_
 rintro ⟨k,last⟩ ⟨hk,he⟩
 simp only at hk he
 by_cases hlt:k<l.length
 ·obtain ⟨c',hd,hg,-,-⟩:=drop_at hlt
  have d0:decide ((k:Int)<(l.length:Int))=true:=decide_eq_true (by omega)
  have ewk:IntKind.i64.wrap ((k:Int)+1)=((k+1:Nat):Int):=wS (by omega)
  have cc:=sCover c'
  simp only [vC,cC] at cc
  rw [hd,covR] at he
  simp only [slC,hg,d0,ewk,vcd,↓vcp,seval]
  repeat' first|((first|refine tp hP (by exact cc) ?_|refine tg hP (fun _=>by exact cc) ?_|refine tv hP rfl (by exact cc) ?_);try simp only [hg,ewk,vcd,↓vcp,seval])|refine And.intro (fun h=>?_) (fun h=>?_)|refine aO ?_|(refine tA rfl rfl rfl rfl ?_;try simp only [hg,ewk,vcd,↓vcp,seval])|refine aT ?_|fail
  ·have e:coversT l=false:=by rw [coversT,he,h];rfl
   exact RetK.pure (by simp only [rs132,rsb,vcd,↓vcp,seval]) (by (simp only [rs132,rsb,enb,vcd,↓vcp,seval])<;>(first|rw [e]))
  ·rw [h] at he
   exact lopK.on (k+1,c'.pe) ⟨hlt,by simpa using he⟩ (by simp only;omega) (Wk.of _ hfn rfl (by simp only [slC,enb,vcd,↓vcp,seval]) (by simp only [enb,vcd,↓vcp,seval]))
 ·have hkl:k=l.length:=by omega
  have d0:decide ((k:Int)<(l.length:Int))=false:=decide_eq_false (by omega)
  rw [hkl,List.drop_length,covR] at he
  have e:coversT l=(decide ((l.length:Int)≥1)&&decide ((l.length:Int)≤8)):=by
   rw [coversT,he,Bool.true_and]
   congr 1
   ·exact decide_eq_decide.2 (by omega)
   ·exact decide_eq_decide.2 (by omega)
  simp only [slC,d0,vcd,↓vcp,seval]
  repeat' first|refine And.intro (fun h=>?_) (fun h=>?_)|refine aO ?_|(refine tA rfl rfl rfl rfl ?_;try simp only [vcd,↓vcp,seval])|refine aT ?_|fail
  exact RetK.pure (by simp only [rs132,rsb,vcd,↓vcp,seval]) (by (simp only [rs132,rsb,enb,vcd,↓vcp,seval])<;>(first|rw [e]))
structure Tm where
 sf:Int
 st:Int
 rk:Rk
 cv:List Cv
instance:Inhabited Tm:=⟨⟨0,0,default,[]⟩⟩
structure Ch where
 bk:Int
 dy:Int
 kd:Int
 rk:Rk
 cv:List Cv
 wy:Int
instance:Inhabited Ch:=⟨⟨0,0,0,default,[],0⟩⟩
structure Hi where
 id:Int
 bk:Int
 tm:Tm
 ch:List Ch
def cTm (t:Tm):List V:=[.d (.int .i64 t.sf),.d (.int .i64 t.st),.d (.int .i64 t.rk.kd),.d (.int .i64 t.rk.va),.d (.int .i64 t.rk.ag),.d (.int .i64 t.rk.zo),.d (slC t.cv)]
def vTm (t:Tm):V:=.ag (cTm t)
def cCh (c:Ch):List V:=[.d (.int .i64 c.bk),.d (.int .i64 c.dy),.d (.int .i64 c.kd),.d (.int .i64 c.rk.kd),.d (.int .i64 c.rk.va),.d (.int .i64 c.rk.ag),.d (.int .i64 c.rk.zo),.d (slC c.cv),.d (.int .i64 c.wy)]
def vCh (c:Ch):V:=.ag (cCh c)
def dCh (c:Ch):List D:=[.int .i64 c.bk,.int .i64 c.dy,.int .i64 c.kd,.int .i64 c.rk.kd,.int .i64 c.rk.va,.int .i64 c.rk.ag,.int .i64 c.rk.zo,slC c.cv,.int .i64 c.wy]
def slH (l:List Ch):D:=.sl false 9 l.length (fun i=>dCh (l.getD i default))
def cHi (h:Hi):List V:=[.d (.int .i64 h.id),.d (.int .i64 h.bk),.d (.int .i64 h.tm.sf),.d (.int .i64 h.tm.st),.d (.int .i64 h.tm.rk.kd),.d (.int .i64 h.tm.rk.va),.d (.int .i64 h.tm.rk.ag),.d (.int .i64 h.tm.rk.zo),.d (slC h.tm.cv),.d (slH h.ch)]
def vHi (h:Hi):V:=.ag (cHi h)
def dayB (n:Int):Bool:=decide (n≥1)&&decide (n≤292194)
def noRk (r:Rk):Bool:=(r.kd == 0)&&((r.va == 0)&&((r.ag == 0)&&(r.zo == 0)))
def ck1 (c:Ch):Bool:=rightR c.rk&&((c.cv.length:Int) == 0)&&(c.wy == 0)
def ck2 (c:Ch):Bool:=coversT c.cv&&noRk c.rk&&(c.wy == 0)
def ck3 (c:Ch):Bool:=((c.wy == 0) || (c.wy == 1))&&((c.cv.length:Int) == 0)&&noRk c.rk
def ck4 (c:Ch):Bool:=(c.wy == 0)&&((c.cv.length:Int) == 0)&&noRk c.rk
theorem sCk1 (c:Ch):Ctr Tryz.prog 129 [vCh c] [] (.d (.bool (ck1 c))) [] []:=by
 have cr:=sRisk c.rk
 simp only [vR,cR] at cr
 refine ctr_pure Tryz.func129 ok129 rfl cc129 cr129 Tryz.ntmps129 (by simp) rfl rfl ?_;intro c hP hfn;simp only [kc129,vCh,cCh,slC,vcd,↓vcp,seval]
 repeat' first|((first|refine tp hP (by exact cr) ?_|refine tg hP (fun _=>by exact cr) ?_|refine tv hP rfl (by exact cr) ?_);try simp only [vcd,↓vcp,seval])|refine And.intro (fun h=>?_) (fun h=>?_)|refine aO ?_|(refine tA rfl rfl rfl rfl ?_;try simp only [vcd,↓vcp,seval])|refine aT ?_|fail
 exact RetK.pure (by simp only [rs129,rsb,vcd,↓vcp,seval]) (by (simp only [rs129,rsb,enb,vcd,↓vcp,seval])<;>(first|rfl))
theorem sCk2 (c:Ch) (hl:c.cv.length≤9223372036854775807):Ctr Tryz.prog 131 [vCh c] [] (.d (.bool (ck2 c))) [] []:=by
 have cr:=sCovers c.cv hl
 simp only [slC] at cr
 refine ctr_pure Tryz.func131 ok131 rfl cc131 cr131 Tryz.ntmps131 (by simp) rfl rfl ?_;intro c hP hfn;simp only [kc131,vCh,cCh,slC,vcd,↓vcp,seval]
 repeat' first|((first|refine tp hP (by exact cr) ?_|refine tg hP (fun _=>by exact cr) ?_|refine tv hP rfl (by exact cr) ?_);try simp only [vcd,↓vcp,seval])|refine And.intro (fun h=>?_) (fun h=>?_)|refine aO ?_|(refine tA rfl rfl rfl rfl ?_;try simp only [vcd,↓vcp,seval])|refine aT ?_|fail
 exact RetK.pure (by simp only [rs131,rsb,vcd,↓vcp,seval]) (by (simp only [rs131,rsb,enb,vcd,↓vcp,seval])<;>(first|rfl))
theorem sCk3 (c:Ch):Ctr Tryz.prog 133 [vCh c] [] (.d (.bool (ck3 c))) [] []:=by
 refine ctr_pure Tryz.func133 ok133 rfl cc133 cr133 Tryz.ntmps133 (by simp) rfl rfl ?_;intro c hP hfn;simp only [kc133,vCh,cCh,slC,vcd,↓vcp,seval]
 repeat' first|refine And.intro (fun h=>?_) (fun h=>?_)|refine aO ?_|(refine tA rfl rfl rfl rfl ?_;try simp only [vcd,↓vcp,seval])|refine aT ?_|fail
 exact RetK.pure (by simp only [rs133,rsb,vcd,↓vcp,seval]) (by (simp only [rs133,rsb,enb,vcd,↓vcp,seval])<;>(first|rfl))
theorem sCk4 (c:Ch):Ctr Tryz.prog 134 [vCh c] [] (.d (.bool (ck4 c))) [] []:=by
 refine ctr_pure Tryz.func134 ok134 rfl cc134 cr134 Tryz.ntmps134 (by simp) rfl rfl ?_;intro c hP hfn;simp only [kc134,vCh,cCh,slC,vcd,↓vcp,seval]
 repeat' first|refine And.intro (fun h=>?_) (fun h=>?_)|refine aO ?_|(refine tA rfl rfl rfl rfl ?_;try simp only [vcd,↓vcp,seval])|refine aT ?_|fail
 exact RetK.pure (by simp only [rs134,rsb,vcd,↓vcp,seval]) (by (simp only [rs134,rsb,enb,vcd,↓vcp,seval])<;>(first|rfl))
end Go.Proofs.YtanppabbmffokaaGreat
end
section
namespace Go.Proofs.YtanppabbmffokaaGreat
open Go.Bx
set_option maxRecDepth 10000
theorem layK_nrm {c:Ctx} {r:Dfr} {g:FuncId} {ks:List Nat} {rs:List RV} {res:V} {st:St}:layK c r g ks rs res .nrm st=vcR c false r.is st [] (fun _ st1=>layR c r g ks rs res st1):=propext ⟨fun h=>h,fun h=>h⟩
def insA (n:Int) (b:Bool) (m:Nat) (cs:List V):List (Nat×Own):=[(3,.fix [.d (.int .i64 n)]),(1,.fix [.osl 7]),(2,.fix [.d (.bool b)]),(7,.lit 38 1 m cs)]
theorem dAll (n:Int) (b:Bool) (m:Nat) (cs:List V):CtrD Tryz.prog 182 [3,1,2] none (insA n b m cs) (insA n (n == m) m cs):=by
 refine ⟨ok182,by simp [keysO,insA],by simp [keysO,insA],fun E0 β w vals pv hE hsz hv hins _=>?_⟩
 obtain ⟨v0,v1,v2,rfl⟩:∃ v0 v1 v2,vals=#[v0,v1,v2]:=by
  match vals,hsz with
  |⟨[a,b,c]⟩,_=>exact ⟨a,b,c,rfl⟩
 have ptr:∀ (v:Value) (k:Nat) (E:Nat→Prop),RelV β E w v (.own k 0)→∃ b,v=.pointer (some ⟨b,0,none⟩)∧β k=some (.pointer (some ⟨b,0,none⟩)):=fun v k E h=>by
  cases h with
  |own k off b h=>exact ⟨b,rfl,h⟩
 obtain ⟨b0,rfl,hb0⟩:=ptr _ _ _ (hv 0 v0 3 rfl rfl)
 obtain ⟨b1,rfl,hb1⟩:=ptr _ _ _ (hv 1 v1 1 rfl rfl)
 obtain ⟨b2,rfl,hb2⟩:=ptr _ _ _ (hv 2 v2 2 rfl rfl)
 obtain ⟨u0,e0,g1,g2,g3,g4⟩:=fix_at (k:=3) (x:=.d (.int .i64 n)) hins (by simp [insA]) hb0
 obtain ⟨u1,e1,q1,q2,q3,q4⟩:=fix_at (k:=1) (x:=.osl 7) hins (by simp [insA]) hb1
 obtain ⟨u2,e2,r1,r2,r3,r4⟩:=fix_at (k:=2) (x:=.d (.bool b)) hins (by simp [insA]) hb2
 obtain rfl:u0=.int .i64 n:=by cases g4 with|d _ _ h=>cases h;rfl
 obtain ⟨A,cp,rfl⟩:∃ A cp,u1=.slice A m cp:=by
  obtain ⟨v,xs,h1,⟨-,h2⟩,-⟩:=hins.ok 7 (.lit 38 1 m cs) (by simp [insA])
  cases q4 with
  |osl k v' h _ =>
   rw [h1] at h;cases h
   rcases h2 with ⟨⟨a,rfl⟩,rfl⟩|⟨g,cap,cur,rfl,-⟩
   ·exact ⟨a,0,rfl⟩
   ·exact ⟨_,cap,rfl⟩
 refine (callsDIn_of_wpSIn (R:=fun e u' w'=>e=.returned (.tuple #[])∧u'=.returning∧w'=w.setCell ⟨b2,0,none⟩ (.bool (n == m))) Tryz.func182 rfl trivial fun c₀ cs hu=>?_).mono ?_
 ·simp only [modeP] at hu
  apply wpSIn_region
  simp [wpOpsSIn,go_sem,hu,Tryz.ntmps182,g2,g3,q2,q3,r2,r3,bodyPostS,results,Tryz.results182]
  cases c₀
  simp_all
 ·rintro e' u' w' ⟨rfl,rfl,rfl⟩
  refine ⟨_,rfl,rfl,?_,set_keeps ⟨2,by simp [keysO,insA],by simp [Names.blk,hb2,blkOf]⟩⟩
  have:=own_set (k:=2) (x:=.d (.bool b)) hins (by simp [insA]) hb2 (v:=.bool (n == m)) (y:=.d (.bool (n == m))) (.d _ _ (.bool _))
  simpa [setO,insA] using this
def fnM (g:Nat) (cs:List D):V:=.fn (.func g) [] [.mem cs]
theorem retAll {c2:Ctx} (hP:c2.P=Tryz.prog) {n:Int} {fns:List V} {b:Bool} (hb:b=(n == 4)) {st:St} (h:Wk c2 st ⟨[(2,.own 2 0)],insA n false 4 fns,[3,2,1,7]⟩):RetD c2 182 [3,1,2] rs146 (.d (.bool b)) .ret st:=by
 refine ⟨_,insA n false 4 fns,insA n (n == ((4:Nat):Int)) 4 fns,h,by rw [hP];exact dAll n false 4 fns,fun k o hm=>mem_own? (by simp [keysO,insA]) hm,?_,?_⟩
 ·first|(simp only [rs146,insA,rsb,vcd,↓vcp,seval];done)|trivial
 ·simp only [rs146,insA,rsb,enb,vcd,↓vcp,seval]
  rw [hb];first|done|exact VLe.refl _
theorem sAll (cs:List D) (b0 b1 b2 b3:Bool) (h0:Ctr Tryz.prog 147 [.mem cs] [] (.d (.bool b0)) [] []) (h1:Ctr Tryz.prog 148 [.mem cs] [] (.d (.bool b1)) [] []) (h2:Ctr Tryz.prog 149 [.mem cs] [] (.d (.bool b2)) [] [])
  (h3:Ctr Tryz.prog 150 [.mem cs] [] (.d (.bool b3)) [] []):Ctr Tryz.prog 146 [.osl 7] [(7,.lit 38 1 4 [fnM 147 cs,fnM 148 cs,fnM 149 cs,fnM 150 cs])] (.d (.bool (b0&&b1&&b2&&b3))) [] []:=by
 refine ctr_deferO 182 [3,1,2] Tryz.func146 ok146 rfl cd146 cr146 Tryz.ntmps146 (by simp) rfl ?_
 intro c hP hfn
 simp only [kd146,fnM,namesL,V.names,ownNames,vcd,↓vcp,seval]
 rw [layK_nrm]
 simp only [vcd,↓vcp,seval]
 refine ⟨⟨_,_,rfl,trivial,trivial,rfl⟩,by simp [keysO],fun c2 hP2 hfn2 hrd2 hpk2=>?_⟩
 refine vcS.of ?_
 simp only [vcd,↓vcp,seval]
 refine vcC.loop (X:=Nat) (fun k=>⟨[(2,.own 2 0),(3,.own 3 0),(7,.osl 7),(8,.d (.int .i64 4)),(9,.d (.int .i64 k))],insA k false 4 [fnM 147 cs,fnM 148 cs,fnM 149 cs,fnM 150 cs],[3,2,1,7]⟩)
  (fun k=>k≤4∧∀ j,j<k→[b0,b1,b2,b3].getD j false=true) (fun k=>4-k) 0 ⟨Nat.zero_le _,fun j hj=>absurd hj (Nat.not_lt_zero j)⟩ (Wk.of _ hfn2 rfl (by simp only [enb,vcd,↓vcp,seval]) (by simp only [insA,fnM,enb,vcd,↓vcp,seval])) ?_
 rintro k ⟨hk,he⟩
 have hk4:k=0∨k=1∨k=2∨k=3∨k=4:=by omega
 have hP:=hP2.trans hP
 have w1:IntKind.i64.wrap 1=1:=wI (by omega)
 have w2:IntKind.i64.wrap 2=2:=wI (by omega)
 have w3:IntKind.i64.wrap 3=3:=wI (by omega)
 have w4:IntKind.i64.wrap 4=4:=wI (by omega)
 have n1:((1:Nat):Int)=1:=rfl
 have n2:((2:Nat):Int)=2:=rfl
 have n3:((3:Nat):Int)=3:=rfl
 have n4:((4:Nat):Int)=4:=rfl
 have n0:((0:Nat):Int)=0:=rfl
 have s1:(0:Int)+1=1:=rfl
 have s2:(1:Int)+1=2:=rfl
 have s3:(2:Int)+1=3:=rfl
 have s4:(3:Int)+1=4:=rfl
 rcases hk4 with rfl|rfl|rfl|rfl|rfl
 ·simp only [insA,fnM,n0,n1,n2,n3,n4,vcd,↓vcp,seval]
  repeat' first|((first|refine tp hP (by exact h0) ?_|refine tg hP (fun _=>by exact h0) ?_|refine tv hP rfl (by exact h0) ?_);try simp only [n0,n1,n2,n3,n4,s1,s2,s3,s4,w1,w2,w3,w4,vcd,↓vcp,seval])|refine And.intro (fun h=>?_) (fun h=>?_)|refine aO ?_|(refine tA rfl rfl rfl rfl ?_;try simp only [n0,n1,n2,n3,n4,s1,s2,s3,s4,w1,w2,w3,w4,vcd,↓vcp,seval])|refine aT ?_|fail
  ·
   have hb:b0=false:=by simpa using h
   exact retAll (n:=0) (fns:=[fnM 147 cs,fnM 148 cs,fnM 149 cs,fnM 150 cs]) hP (by rw [ hb];simp) (Wk.of _ hfn2 rfl (by simp only [enb,vcd,↓vcp,seval]) (by simp only [insA,fnM,enb,vcd,↓vcp,seval]))
  ·have hb:b0=true:=by simpa using h
   exact lopK.on 1 ⟨by decide,fun j hj=>by
    rcases Nat.lt_or_eq_of_le (Nat.le_of_lt_succ hj) with h8|h8
    ·exact he j h8
    ·subst h8;exact hb⟩ (by decide) (Wk.of _ hfn2 rfl (by simp only [n0,n1,n2,n3,n4,s1,s2,s3,s4,w1,w2,w3,w4,enb,vcd,↓vcp,seval]) (by simp only [insA,fnM,n0,n1,n2,n3,n4,s1,s2,s3,s4,w1,w2,w3,w4,enb,vcd,↓vcp,seval]))
 ·simp only [insA,fnM,n0,n1,n2,n3,n4,vcd,↓vcp,seval]
  repeat' first|((first|refine tp hP (by exact h1) ?_|refine tg hP (fun _=>by exact h1) ?_|refine tv hP rfl (by exact h1) ?_);try simp only [n0,n1,n2,n3,n4,s1,s2,s3,s4,w1,w2,w3,w4,vcd,↓vcp,seval])|refine And.intro (fun h=>?_) (fun h=>?_)|refine aO ?_|(refine tA rfl rfl rfl rfl ?_;try simp only [n0,n1,n2,n3,n4,s1,s2,s3,s4,w1,w2,w3,w4,vcd,↓vcp,seval])|refine aT ?_|fail
  ·have e0:b0=true:=he 0 (by decide)
   have hb:b1=false:=by simpa using h
   exact retAll (n:=1) (fns:=[fnM 147 cs,fnM 148 cs,fnM 149 cs,fnM 150 cs]) hP (by rw [e0,hb];simp) (Wk.of _ hfn2 rfl (by simp only [enb,vcd,↓vcp,seval]) (by simp only [insA,fnM,enb,vcd,↓vcp,seval]))
  ·have hb:b1=true:=by simpa using h
   exact lopK.on 2 ⟨by decide,fun j hj=>by
    rcases Nat.lt_or_eq_of_le (Nat.le_of_lt_succ hj) with h8|h8
    ·exact he j h8
    ·subst h8;exact hb⟩ (by decide) (Wk.of _ hfn2 rfl (by simp only [n0,n1,n2,n3,n4,s1,s2,s3,s4,w1,w2,w3,w4,enb,vcd,↓vcp,seval]) (by simp only [insA,fnM,n0,n1,n2,n3,n4,s1,s2,s3,s4,w1,w2,w3,w4,enb,vcd,↓vcp,seval]))
 ·simp only [insA,fnM,n0,n1,n2,n3,n4,vcd,↓vcp,seval]
  repeat' first|((first|refine tp hP (by exact h2) ?_|refine tg hP (fun _=>by exact h2) ?_|refine tv hP rfl (by exact h2) ?_);try simp only [n0,n1,n2,n3,n4,s1,s2,s3,s4,w1,w2,w3,w4,vcd,↓vcp,seval])|refine And.intro (fun h=>?_) (fun h=>?_)|refine aO ?_|(refine tA rfl rfl rfl rfl ?_;try simp only [n0,n1,n2,n3,n4,s1,s2,s3,s4,w1,w2,w3,w4,vcd,↓vcp,seval])|refine aT ?_|fail
  ·have e0:b0=true:=he 0 (by decide)
   have e1:b1=true:=he 1 (by decide)
   have hb:b2=false:=by simpa using h
   exact retAll (n:=2) (fns:=[fnM 147 cs,fnM 148 cs,fnM 149 cs,fnM 150 cs]) hP (by rw [e0,e1,hb];simp) (Wk.of _ hfn2 rfl (by simp only [enb,vcd,↓vcp,seval]) (by simp only [insA,fnM,enb,vcd,↓vcp,seval]))
  ·have hb:b2=true:=by simpa using h
   exact lopK.on 3 ⟨by decide,fun j hj=>by
    rcases Nat.lt_or_eq_of_le (Nat.le_of_lt_succ hj) with h8|h8
    ·exact he j h8
    ·subst h8;exact hb⟩ (by decide) (Wk.of _ hfn2 rfl (by simp only [n0,n1,n2,n3,n4,s1,s2,s3,s4,w1,w2,w3,w4,enb,vcd,↓vcp,seval]) (by simp only [insA,fnM,n0,n1,n2,n3,n4,s1,s2,s3,s4,w1,w2,w3,w4,enb,vcd,↓vcp,seval]))
 ·simp only [insA,fnM,n0,n1,n2,n3,n4,vcd,↓vcp,seval]
  repeat' first|((first|refine tp hP (by exact h3) ?_|refine tg hP (fun _=>by exact h3) ?_|refine tv hP rfl (by exact h3) ?_);try simp only [n0,n1,n2,n3,n4,s1,s2,s3,s4,w1,w2,w3,w4,vcd,↓vcp,seval])|refine And.intro (fun h=>?_) (fun h=>?_)|refine aO ?_|(refine tA rfl rfl rfl rfl ?_;try simp only [n0,n1,n2,n3,n4,s1,s2,s3,s4,w1,w2,w3,w4,vcd,↓vcp,seval])|refine aT ?_|fail
  ·have e0:b0=true:=he 0 (by decide)
   have e1:b1=true:=he 1 (by decide)
   have e2:b2=true:=he 2 (by decide)
   have hb:b3=false:=by simpa using h
   exact retAll (n:=3) (fns:=[fnM 147 cs,fnM 148 cs,fnM 149 cs,fnM 150 cs]) hP (by rw [e0,e1,e2,hb];simp) (Wk.of _ hfn2 rfl (by simp only [enb,vcd,↓vcp,seval]) (by simp only [insA,fnM,enb,vcd,↓vcp,seval]))
  ·have hb:b3=true:=by simpa using h
   exact lopK.on 4 ⟨by decide,fun j hj=>by
    rcases Nat.lt_or_eq_of_le (Nat.le_of_lt_succ hj) with h8|h8
    ·exact he j h8
    ·subst h8;exact hb⟩ (by decide) (Wk.of _ hfn2 rfl (by simp only [n0,n1,n2,n3,n4,s1,s2,s3,s4,w1,w2,w3,w4,enb,vcd,↓vcp,seval]) (by simp only [insA,fnM,n0,n1,n2,n3,n4,s1,s2,s3,s4,w1,w2,w3,w4,enb,vcd,↓vcp,seval]))
 ·simp only [insA,fnM,n0,n1,n2,n3,n4,vcd,↓vcp,seval]
  repeat' first|refine And.intro (fun h=>?_) (fun h=>?_)|refine aO ?_|(refine tA rfl rfl rfl rfl ?_;try simp only [n4,vcd,↓vcp,seval])|refine aT ?_|fail
  have e0:b0=true:=he 0 (by decide)
  have e1:b1=true:=he 1 (by decide)
  have e2:b2=true:=he 2 (by decide)
  have e3:b3=true:=he 3 (by decide)
  exact retAll (n:=4) (fns:=[fnM 147 cs,fnM 148 cs,fnM 149 cs,fnM 150 cs]) hP (by rw [e0,e1,e2,e3];simp) (Wk.of _ hfn2 rfl (by simp only [enb,vcd,↓vcp,seval]) (by simp only [insA,fnM,n4,enb,vcd,↓vcp,seval]))
end Go.Proofs.YtanppabbmffokaaGreat
end
section
namespace Go.Proofs.YtanppabbmffokaaGreat
open Go.Bx
set_option maxRecDepth 10000
def dTm (t:Tm):List D:=[.int .i64 t.sf,.int .i64 t.st,.int .i64 t.rk.kd,.int .i64 t.rk.va,.int .i64 t.rk.ag,.int .i64 t.rk.zo,slC t.cv]
theorem sTm1 (t:Tm):Ctr Tryz.prog 147 [.mem (dTm t)] [] (.d (.bool (okS t.sf t.st))) [] []:=by
 have ck:=sSpanRight t.sf t.st
 simp only [vS] at ck
 refine ctr_pure Tryz.func147 ok147 rfl cc147 cr147 Tryz.ntmps147 (by simp) rfl rfl ?_;intro c hP hfn;simp only [kc147,dTm,slC,vcd,↓vcp,seval]
 repeat' first|((first|refine tp hP (by exact ck) ?_|refine tg hP (fun _=>by exact ck) ?_|refine tv hP rfl (by exact ck) ?_);try simp only [vcd,↓vcp,seval])|refine And.intro (fun h=>?_) (fun h=>?_)|refine aO ?_|(refine tA rfl rfl rfl rfl ?_;try simp only [vcd,↓vcp,seval])|refine aT ?_|fail
 exact RetK.pure (by simp only [rs147,rsb,vcd,↓vcp,seval]) (by (simp only [rs147,rsb,enb,vcd,↓vcp,seval])<;>(first|rfl))
theorem sTm2 (t:Tm):Ctr Tryz.prog 148 [.mem (dTm t)] [] (.d (.bool (decide (manyR t.sf t.st≥1)&&decide (manyR t.sf t.st≤1100)))) [] []:=by
 have ck:=sMany t.sf t.st
 simp only [vS] at ck
 refine ctr_pure Tryz.func148 ok148 rfl cc148 cr148 Tryz.ntmps148 (by simp) rfl rfl ?_;intro c hP hfn;simp only [kc148,dTm,slC,vcd,↓vcp,seval]
 repeat' first|((first|refine tp hP (by exact ck) ?_|refine tg hP (fun _=>by exact ck) ?_|refine tv hP rfl (by exact ck) ?_);try simp only [vcd,↓vcp,seval])|refine And.intro (fun h=>?_) (fun h=>?_)|refine aO ?_|(refine tA rfl rfl rfl rfl ?_;try simp only [vcd,↓vcp,seval])|refine aT ?_|fail
 exact RetK.pure (by simp only [rs148,rsb,vcd,↓vcp,seval]) (by (simp only [rs148,rsb,enb,vcd,↓vcp,seval])<;>(first|rfl))
theorem sTm3 (t:Tm):Ctr Tryz.prog 149 [.mem (dTm t)] [] (.d (.bool (rightR t.rk))) [] []:=by
 have ck:=sRisk t.rk
 simp only [vR,cR] at ck
 refine ctr_pure Tryz.func149 ok149 rfl cc149 cr149 Tryz.ntmps149 (by simp) rfl rfl ?_;intro c hP hfn;simp only [kc149,dTm,slC,vcd,↓vcp,seval]
 repeat' first|((first|refine tp hP (by exact ck) ?_|refine tg hP (fun _=>by exact ck) ?_|refine tv hP rfl (by exact ck) ?_);try simp only [vcd,↓vcp,seval])|refine And.intro (fun h=>?_) (fun h=>?_)|refine aO ?_|(refine tA rfl rfl rfl rfl ?_;try simp only [vcd,↓vcp,seval])|refine aT ?_|fail
 exact RetK.pure (by simp only [rs149,rsb,vcd,↓vcp,seval]) (by (simp only [rs149,rsb,enb,vcd,↓vcp,seval])<;>(first|rfl))
theorem sTm4 (t:Tm) (hl:t.cv.length≤9223372036854775807):Ctr Tryz.prog 150 [.mem (dTm t)] [] (.d (.bool (coversT t.cv))) [] []:=by
 have ck:=sCovers t.cv hl
 simp only [slC] at ck
 refine ctr_pure Tryz.func150 ok150 rfl cc150 cr150 Tryz.ntmps150 (by simp) rfl rfl ?_;intro c hP hfn;simp only [kc150,dTm,slC,vcd,↓vcp,seval]
 repeat' first|((first|refine tp hP (by exact ck) ?_|refine tg hP (fun _=>by exact ck) ?_|refine tv hP rfl (by exact ck) ?_);try simp only [vcd,↓vcp,seval])|refine And.intro (fun h=>?_) (fun h=>?_)|refine aO ?_|(refine tA rfl rfl rfl rfl ?_;try simp only [vcd,↓vcp,seval])|refine aT ?_|fail
 exact RetK.pure (by simp only [rs150,rsb,vcd,↓vcp,seval]) (by (simp only [rs150,rsb,enb,vcd,↓vcp,seval])<;>(first|rfl))
def rightTm (t:Tm):Bool:=okS t.sf t.st&&(decide (manyR t.sf t.st≥1)&&decide (manyR t.sf t.st≤1100))&&rightR t.rk&&coversT t.cv
theorem sTerms (t:Tm) (hl:t.cv.length≤9223372036854775807):Ctr Tryz.prog 107 [vTm t] [] (.d (.bool (rightTm t))) [] []:=by
 have ca:=sAll (dTm t) _ _ _ _ (sTm1 t) (sTm2 t) (sTm3 t) (sTm4 t hl)
 simp only [fnM,dTm] at ca
 refine ctr_pure Tryz.func107 ok107 rfl cc107 cr107 Tryz.ntmps107 (by simp) rfl rfl ?_;intro c hP hfn;simp only [kc107,vTm,cTm,vcd,↓vcp,seval]
 refine TR.wk _ (Wk.pubF 1 rfl rfl) ?_
 simp only [vcd,↓vcp,seval]
 refine TR.call [(7,.lit 38 1 4 [.fn (.func 147) [] [.mem (dTm t)],.fn (.func 148) [] [.mem (dTm t)],.fn (.func 149) [] [.mem (dTm t)],.fn (.func 150) [] [.mem (dTm t)]])] [] _ [] (by rw [hP];exact ca) (by repeat' first|exact trivial|(intro _;assumption)|apply And.intro) (hin1 rfl) (by simp [keysO]) (by simp) ?_
 simp only [vcd,↓vcp,seval]
 repeat' first|refine And.intro (fun h=>?_) (fun h=>?_)|refine aO ?_|(refine tA rfl rfl rfl rfl ?_;try simp only [vcd,↓vcp,seval])|refine aT ?_|fail
 exact RetK.pure (by simp only [rs107,rsb,vcd,↓vcp,seval]) (by (simp only [rs107,rsb,enb,vcd,↓vcp,seval])<;>(first|rfl))
end Go.Proofs.YtanppabbmffokaaGreat
end
section
namespace Go.Proofs.YtanppabbmffokaaGreat
open Go.Bx
set_option maxRecDepth 10000
theorem TR.gpv {c:Ctx} {b:Bool} {is:List I} {st:St} {acc:List Lg} {K:List Lg→St→Prop} {P:Program} (hP:c.P=P) {d:Option Nat} {s:Nat} {want gc:Bool} {x:X} {f:Nat} {first cap:List V} {xs:List X} {res:V} (hg:gOf st.env s want=some gc)
  (hx:gc=true→evV st x=.fn (.func f) first cap) (hS:gc=true→Ctr P f (first++(evVs st xs++cap)) [] res [] []) (hsx:gc=true→evS true st x) (hs:gc=true→evSs true st xs)
  (h:vcR c b is (st.stp d { val:=.gd gc res,upd:=[],rd:=[],new:=[] }) (lgs b acc ⟨[],[]⟩) K):TR c b (⟨d,some (s,want),.callv x xs⟩::is) st acc K:=
 TR.cons { val:=.gd gc res,upd:=[],rd:=[],new:=[] } (valid_gd_pure hg fun e=>valid_callv (hx e) (by rw [hP];exact hS e) (hsx e) (hs e) (fun k o h=>by simp at h) (by simp [keysO])) (fun k hk=>by simp at hk) (vcR_ok h)
def fD (g:Nat):D:=.raw (.func (.func g) #[] #[])
def ckF (m:Int):D:=if m=4 then fD 134 else if m=3 then fD 133 else if m=2 then fD 131 else if m=1 then fD 129 else .raw .nilFunc
theorem sChecks:Ctr Tryz.prog 84 [] [] (.osl 1) [(1,.mp (.raw .nilFunc) ckF)] [1]:=by
 refine ctr_own Tryz.func84 ok84 rfl cc84 cr84 Tryz.ntmps84 (by simp) rfl ?_
 intro c hP hfn
 simp only [kc84,namesL,V.names,ownNames,vcd,↓vcp,seval]
 have hne:∀ g,¬ (D.raw (Value.func (.func g) #[] #[])=D.raw Value.nilFunc):=fun g h=>by injection h with h;cases h
 refine ⟨hne _,hne _,hne _,hne _,RetK.mk _ (Wk.refl _ _) (by simp only [rs84,rsb,vcd,↓vcp,seval]) (by simp only [rs84,rsb,enb,vcd,↓vcp,seval]) ?_⟩
 simp only [enb,vcd,↓vcp,seval]
 exact OLe.eq rfl
def rightCh (c:Ch):Bool:=decide (c.kd=1∨c.kd=2∨c.kd=3∨c.kd=4)&&dayB c.bk&&dayB c.dy&&(if c.kd=1 then ck1 c else if c.kd=2 then ck2 c else if c.kd=3 then ck3 c else ck4 c)
theorem sRightCh (c':Ch) (hl:c'.cv.length≤9223372036854775807):Ctr Tryz.prog 36 [vCh c'] [] (.d (.bool (rightCh c'))) [] []:=by
 have k1:=sCk1 c'
 have k2:=sCk2 c' hl
 have k3:=sCk3 c'
 have k4:=sCk4 c'
 have d1:=sDay
 simp only [vCh,cCh,slC] at k1 k2 k3 k4
 refine ctr_pure Tryz.func36 ok36 rfl cc36 cr36 Tryz.ntmps36 (by simp) rfl rfl ?_;intro c hP hfn;simp only [kc36,vCh,cCh,slC,vcd,↓vcp,seval]
 have cc:=(sChecks.sw 1 6)
 simp only [vcd,↓vcp,seval] at cc
 refine TR.call [] [(6,.mp (.raw .nilFunc) ckF)] (.osl 6) [6] (by rw [hP];exact cc) (by repeat' first|exact trivial|(intro _;assumption)|apply And.intro) (fun k o h=>by simp at h) (by simp [keysO]) (by simp) ?_
 clear cc
 have f1:ckF 1=fD 129:=rfl
 have f2:ckF 2=fD 131:=rfl
 have f3:ckF 3=fD 133:=rfl
 have f4:ckF 4=fD 134:=rfl
 have zA:(#[]:Array Value).size=0:=rfl
 by_cases hb:(dayB c'.bk&&dayB c'.dy)=true
 ·have hb':dayB c'.bk=true∧dayB c'.dy=true:=by simpa using hb
  have hr:c'.kd=1∨c'.kd=2∨c'.kd=3∨c'.kd=4∨(¬ c'.kd=1∧¬ c'.kd=2∧¬ c'.kd=3∧¬ c'.kd=4):=by omega
  rcases hr with e1|e1|e1|e1|⟨e1,e2,e3,e4⟩
  ·have hr:rightCh c'=ck1 c':=by simp [rightCh,e1,hb'.1,hb'.2]
   rw [hr]
   simp only [dayB] at hb
   clear hr hb'
   rw [e1] at k1 ⊢
   simp only [f1,fD,okV,zA,e1,vcd,↓vcp,seval]
   repeat' first|((first|refine tp hP (by exact d1 _) ?_|refine tg hP (fun _=>by exact d1 _) ?_|refine tv hP rfl (by exact d1 _) ?_);try simp only [hb,zA,vcd,↓vcp,seval])|refine And.intro (fun h=>?_) (fun h=>?_)|refine aO ?_|(refine tA rfl rfl rfl rfl ?_;try simp only [hb,zA,vcd,↓vcp,seval])|refine aT ?_|fail
   refine TR.gpv (gc:=true) hP rfl (fun _=>rfl) (fun _=>k1) (by intro _;simp only [vcd,↓vcp,seval]) (by intro _;simp only [vcd,↓vcp,seval]) ?_
   simp only [vcd,↓vcp,seval]
   repeat' first|refine And.intro (fun h=>?_) (fun h=>?_)|refine aO ?_|(refine tA rfl rfl rfl rfl ?_;try simp only [vcd,↓vcp,seval])|refine aT ?_|fail
   exact RetK.pure (by simp only [rs36,rsb,vcd,↓vcp,seval]) (by (simp only [rs36,rsb,enb,vcd,↓vcp,seval])<;>(first|exact VLe.refl _))
  ·have hr:rightCh c'=ck2 c':=by simp [rightCh,e1,hb'.1,hb'.2]
   rw [hr]
   simp only [dayB] at hb
   clear hr hb'
   rw [e1] at k2 ⊢
   simp only [f2,fD,okV,zA,e1,vcd,↓vcp,seval]
   repeat' first|((first|refine tp hP (by exact d1 _) ?_|refine tg hP (fun _=>by exact d1 _) ?_|refine tv hP rfl (by exact d1 _) ?_);try simp only [hb,zA,vcd,↓vcp,seval])|refine And.intro (fun h=>?_) (fun h=>?_)|refine aO ?_|(refine tA rfl rfl rfl rfl ?_;try simp only [hb,zA,vcd,↓vcp,seval])|refine aT ?_|fail
   refine TR.gpv (gc:=true) hP rfl (fun _=>rfl) (fun _=>k2) (by intro _;simp only [vcd,↓vcp,seval]) (by intro _;simp only [vcd,↓vcp,seval]) ?_
   simp only [vcd,↓vcp,seval]
   repeat' first|refine And.intro (fun h=>?_) (fun h=>?_)|refine aO ?_|(refine tA rfl rfl rfl rfl ?_;try simp only [vcd,↓vcp,seval])|refine aT ?_|fail
   exact RetK.pure (by simp only [rs36,rsb,vcd,↓vcp,seval]) (by (simp only [rs36,rsb,enb,vcd,↓vcp,seval])<;>(first|exact VLe.refl _))
  ·have hr:rightCh c'=ck3 c':=by simp [rightCh,e1,hb'.1,hb'.2]
   rw [hr]
   simp only [dayB] at hb
   clear hr hb'
   rw [e1] at k3 ⊢
   simp only [f3,fD,okV,zA,e1,vcd,↓vcp,seval]
   repeat' first|((first|refine tp hP (by exact d1 _) ?_|refine tg hP (fun _=>by exact d1 _) ?_|refine tv hP rfl (by exact d1 _) ?_);try simp only [hb,zA,vcd,↓vcp,seval])|refine And.intro (fun h=>?_) (fun h=>?_)|refine aO ?_|(refine tA rfl rfl rfl rfl ?_;try simp only [hb,zA,vcd,↓vcp,seval])|refine aT ?_|fail
   refine TR.gpv (gc:=true) hP rfl (fun _=>rfl) (fun _=>k3) (by intro _;simp only [vcd,↓vcp,seval]) (by intro _;simp only [vcd,↓vcp,seval]) ?_
   simp only [vcd,↓vcp,seval]
   repeat' first|refine And.intro (fun h=>?_) (fun h=>?_)|refine aO ?_|(refine tA rfl rfl rfl rfl ?_;try simp only [vcd,↓vcp,seval])|refine aT ?_|fail
   exact RetK.pure (by simp only [rs36,rsb,vcd,↓vcp,seval]) (by (simp only [rs36,rsb,enb,vcd,↓vcp,seval])<;>(first|exact VLe.refl _))
  ·have hr:rightCh c'=ck4 c':=by simp [rightCh,e1,hb'.1,hb'.2]
   rw [hr]
   simp only [dayB] at hb
   clear hr hb'
   rw [e1] at k4 ⊢
   simp only [f4,fD,okV,zA,e1,vcd,↓vcp,seval]
   repeat' first|((first|refine tp hP (by exact d1 _) ?_|refine tg hP (fun _=>by exact d1 _) ?_|refine tv hP rfl (by exact d1 _) ?_);try simp only [hb,zA,vcd,↓vcp,seval])|refine And.intro (fun h=>?_) (fun h=>?_)|refine aO ?_|(refine tA rfl rfl rfl rfl ?_;try simp only [hb,zA,vcd,↓vcp,seval])|refine aT ?_|fail
   refine TR.gpv (gc:=true) hP rfl (fun _=>rfl) (fun _=>k4) (by intro _;simp only [vcd,↓vcp,seval]) (by intro _;simp only [vcd,↓vcp,seval]) ?_
   simp only [vcd,↓vcp,seval]
   repeat' first|refine And.intro (fun h=>?_) (fun h=>?_)|refine aO ?_|(refine tA rfl rfl rfl rfl ?_;try simp only [vcd,↓vcp,seval])|refine aT ?_|fail
   exact RetK.pure (by simp only [rs36,rsb,vcd,↓vcp,seval]) (by (simp only [rs36,rsb,enb,vcd,↓vcp,seval])<;>(first|exact VLe.refl _))
  ·have hr:rightCh c'=false:=by simp [rightCh,e1,e2,e3,e4]
   have f0:ckF c'.kd=.raw .nilFunc:=by simp [ckF,e1,e2,e3,e4]
   rw [hr]
   simp only [f0,okV,vcd,↓vcp,seval]
   repeat' first|((first|refine tp hP (by exact d1 _) ?_|refine tg hP (fun _=>by exact d1 _) ?_|refine tv hP rfl (by exact d1 _) ?_);try simp only [vcd,↓vcp,seval])|refine And.intro (fun h=>?_) (fun h=>?_)|refine aO ?_|(refine tA rfl rfl rfl rfl ?_;try simp only [vcd,↓vcp,seval])|refine aT ?_|fail
   refine TR.gpv (gc:=false) (first:=[]) (cap:=[]) (f:=0) (res:=.d (.bool false)) hP rfl (fun h=>by cases h) (fun h=>by cases h) (fun h=>by cases h) (fun h=>by cases h) ?_
   simp only [vcd,↓vcp,seval]
   repeat' first|refine And.intro (fun h=>?_) (fun h=>?_)|refine aO ?_|(refine tA rfl rfl rfl rfl ?_;try simp only [vcd,↓vcp,seval])|refine aT ?_|fail
   exact RetK.pure (by simp only [rs36,rsb,vcd,↓vcp,seval]) (by (simp only [rs36,rsb,enb,vcd,↓vcp,seval])<;>(first|exact VLe.refl _))
 ·have hb0:(dayB c'.bk&&dayB c'.dy)=false:=by simpa using hb
  have hr:rightCh c'=false:=by
   simp only [rightCh,Bool.and_assoc]
   rw [←Bool.and_assoc (dayB c'.bk),hb0];simp
  rw [hr]
  simp only [dayB] at hb0
  have hr4:c'.kd=1∨c'.kd=2∨c'.kd=3∨c'.kd=4∨(¬ c'.kd=1∧¬ c'.kd=2∧¬ c'.kd=3∧¬ c'.kd=4):=by omega
  clear hr hb
  rcases hr4 with e1|e1|e1|e1|⟨e1,e2,e3,e4⟩
  ·simp only [f1,fD,okV,zA,e1,vcd,↓vcp,seval]
   repeat' first|((first|refine tp hP (by exact d1 _) ?_|refine tg hP (fun _=>by exact d1 _) ?_|refine tv hP rfl (by exact d1 _) ?_);try simp only [hb0,zA,vcd,↓vcp,seval])|refine And.intro (fun h=>?_) (fun h=>?_)|refine aO ?_|(refine tA rfl rfl rfl rfl ?_;try simp only [hb0,zA,vcd,↓vcp,seval])|refine aT ?_|fail
   refine TR.gpv (gc:=false) (first:=[]) (cap:=[]) (f:=0) (res:=.d (.bool false)) hP rfl (fun h=>by cases h) (fun h=>by cases h) (fun h=>by cases h) (fun h=>by cases h) ?_
   simp only [vcd,↓vcp,seval]
   repeat' first|refine And.intro (fun h=>?_) (fun h=>?_)|refine aO ?_|(refine tA rfl rfl rfl rfl ?_;try simp only [vcd,↓vcp,seval])|refine aT ?_|fail
   exact RetK.pure (by simp only [rs36,rsb,vcd,↓vcp,seval]) (by (simp only [rs36,rsb,enb,vcd,↓vcp,seval])<;>(first|exact VLe.refl _))
  ·simp only [f2,fD,okV,zA,e1,vcd,↓vcp,seval]
   repeat' first|((first|refine tp hP (by exact d1 _) ?_|refine tg hP (fun _=>by exact d1 _) ?_|refine tv hP rfl (by exact d1 _) ?_);try simp only [hb0,zA,vcd,↓vcp,seval])|refine And.intro (fun h=>?_) (fun h=>?_)|refine aO ?_|(refine tA rfl rfl rfl rfl ?_;try simp only [hb0,zA,vcd,↓vcp,seval])|refine aT ?_|fail
   refine TR.gpv (gc:=false) (first:=[]) (cap:=[]) (f:=0) (res:=.d (.bool false)) hP rfl (fun h=>by cases h) (fun h=>by cases h) (fun h=>by cases h) (fun h=>by cases h) ?_
   simp only [vcd,↓vcp,seval]
   repeat' first|refine And.intro (fun h=>?_) (fun h=>?_)|refine aO ?_|(refine tA rfl rfl rfl rfl ?_;try simp only [vcd,↓vcp,seval])|refine aT ?_|fail
   exact RetK.pure (by simp only [rs36,rsb,vcd,↓vcp,seval]) (by (simp only [rs36,rsb,enb,vcd,↓vcp,seval])<;>(first|exact VLe.refl _))
  ·simp only [f3,fD,okV,zA,e1,vcd,↓vcp,seval]
   repeat' first|((first|refine tp hP (by exact d1 _) ?_|refine tg hP (fun _=>by exact d1 _) ?_|refine tv hP rfl (by exact d1 _) ?_);try simp only [hb0,zA,vcd,↓vcp,seval])|refine And.intro (fun h=>?_) (fun h=>?_)|refine aO ?_|(refine tA rfl rfl rfl rfl ?_;try simp only [hb0,zA,vcd,↓vcp,seval])|refine aT ?_|fail
   refine TR.gpv (gc:=false) (first:=[]) (cap:=[]) (f:=0) (res:=.d (.bool false)) hP rfl (fun h=>by cases h) (fun h=>by cases h) (fun h=>by cases h) (fun h=>by cases h) ?_
   simp only [vcd,↓vcp,seval]
   repeat' first|refine And.intro (fun h=>?_) (fun h=>?_)|refine aO ?_|(refine tA rfl rfl rfl rfl ?_;try simp only [vcd,↓vcp,seval])|refine aT ?_|fail
   exact RetK.pure (by simp only [rs36,rsb,vcd,↓vcp,seval]) (by (simp only [rs36,rsb,enb,vcd,↓vcp,seval])<;>(first|exact VLe.refl _))
  ·simp only [f4,fD,okV,zA,e1,vcd,↓vcp,seval]
   repeat' first|((first|refine tp hP (by exact d1 _) ?_|refine tg hP (fun _=>by exact d1 _) ?_|refine tv hP rfl (by exact d1 _) ?_);try simp only [hb0,zA,vcd,↓vcp,seval])|refine And.intro (fun h=>?_) (fun h=>?_)|refine aO ?_|(refine tA rfl rfl rfl rfl ?_;try simp only [hb0,zA,vcd,↓vcp,seval])|refine aT ?_|fail
   refine TR.gpv (gc:=false) (first:=[]) (cap:=[]) (f:=0) (res:=.d (.bool false)) hP rfl (fun h=>by cases h) (fun h=>by cases h) (fun h=>by cases h) (fun h=>by cases h) ?_
   simp only [vcd,↓vcp,seval]
   repeat' first|refine And.intro (fun h=>?_) (fun h=>?_)|refine aO ?_|(refine tA rfl rfl rfl rfl ?_;try simp only [vcd,↓vcp,seval])|refine aT ?_|fail
   exact RetK.pure (by simp only [rs36,rsb,vcd,↓vcp,seval]) (by (simp only [rs36,rsb,enb,vcd,↓vcp,seval])<;>(first|exact VLe.refl _))
  ·have f0:ckF c'.kd=.raw .nilFunc:=by simp [ckF,e1,e2,e3,e4]
   simp only [f0,okV,vcd,↓vcp,seval]
   repeat' first|((first|refine tp hP (by exact d1 _) ?_|refine tg hP (fun _=>by exact d1 _) ?_|refine tv hP rfl (by exact d1 _) ?_);try simp only [hb0,vcd,↓vcp,seval])|refine And.intro (fun h=>?_) (fun h=>?_)|refine aO ?_|(refine tA rfl rfl rfl rfl ?_;try simp only [hb0,vcd,↓vcp,seval])|refine aT ?_|fail
   refine TR.gpv (gc:=false) (first:=[]) (cap:=[]) (f:=0) (res:=.d (.bool false)) hP rfl (fun h=>by cases h) (fun h=>by cases h) (fun h=>by cases h) (fun h=>by cases h) ?_
   simp only [vcd,↓vcp,seval]
   repeat' first|refine And.intro (fun h=>?_) (fun h=>?_)|refine aO ?_|(refine tA rfl rfl rfl rfl ?_;try simp only [vcd,↓vcp,seval])|refine aT ?_|fail
   exact RetK.pure (by simp only [rs36,rsb,vcd,↓vcp,seval]) (by (simp only [rs36,rsb,enb,vcd,↓vcp,seval])<;>(first|exact VLe.refl _))
end Go.Proofs.YtanppabbmffokaaGreat
end
section
namespace Go.Proofs.YtanppabbmffokaaGreat
open Go.Bx
set_option maxRecDepth 10000
def inT (t:Tm) (d:Int):Bool:=decide (d≥(keptR t.sf t.st).1)&&decide (d<(keptR t.sf t.st).2)
def rightHi (h:Hi):Bool:=h.ch.all (fun c=>rightCh c&&inT h.tm c.dy)&&(rightTm h.tm&&decide (h.ch.length≤2000))
structure SzHi (h:Hi):Prop where
 tc:h.tm.cv.length≤9223372036854775807
 ch:h.ch.length≤9223372036854775807
 cc:∀ c,c∈h.ch→c.cv.length≤9223372036854775807
theorem sRightHi (hh:Hi) (z:SzHi hh):Ctr Tryz.prog 64 [vHi hh] [] (.d (.bool (rightHi hh))) [] []:=by
 refine ctr_pure Tryz.func64 ok64 rfl cc64 cr64 Tryz.ntmps64 (by simp) rfl rfl ?_;intro c hP hfn;simp only [kc64,vHi,cHi,slH,vcd,↓vcp,seval]
 refine vcC.loop (X:=Nat) (fun k=>⟨[(1,.own 1 0),(6,.d (slH hh.ch)),(7,.d (.int .i64 hh.ch.length)),(8,.d (.int .i64 k))],[(1,.fix (cHi hh))],[1]⟩)
  (fun k=>k≤hh.ch.length∧hh.ch.all (fun c=>rightCh c&&inT hh.tm c.dy)=(hh.ch.drop k).all (fun c=>rightCh c&&inT hh.tm c.dy)) (fun k=>hh.ch.length-k) 0 ⟨Nat.zero_le _,rfl⟩ (Wk.of _ hfn rfl (by simp only [slH,enb,vcd,↓vcp,seval]) (by simp only [cHi,slH,enb,vcd,↓vcp,seval])) ?_
 rintro k ⟨hk,he⟩
 by_cases hlt:k<hh.ch.length
 ·obtain ⟨c',hd,hg,hm,-⟩:=drop_at hlt
  have d0:decide ((k:Int)<(hh.ch.length:Int))=true:=decide_eq_true (by have:=z.ch;omega)
  have ewk:IntKind.i64.wrap ((k:Int)+1)=((k+1:Nat):Int):=wS (by have:=z.ch;omega)
  have cc:=sRightCh c' (z.cc c' hm)
  have ci:=sIn hh.tm.sf hh.tm.st c'.dy
  simp only [vCh,cCh,slC] at cc
  simp only [vS] at ci
  rw [hd,List.all_cons] at he
  simp only [slH,dCh,slC,cHi,hg,d0,ewk,vcd,↓vcp,seval]
  repeat' first|((first|refine tp hP (by first|exact cc|exact ci) ?_|refine tg hP (fun _=>by first|exact cc|exact ci) ?_|refine tv hP rfl (by first|exact cc|exact ci) ?_);try simp only [hg,ewk,vcd,↓vcp,seval])|refine And.intro (fun h=>?_) (fun h=>?_)|refine aO ?_|(refine tA rfl rfl rfl rfl ?_;try simp only [hg,ewk,vcd,↓vcp,seval])|refine aT ?_|fail
  ·have hx:(rightCh c'&&inT hh.tm c'.dy)=false:=by
    cases h1:rightCh c' with
    |false=>rfl
    |true =>
     rw [h1] at h
     cases h2:inT hh.tm c'.dy with
     |false=>rfl
     |true=>exfalso;simp only [inT] at h2;rw [h2] at h;simp at h
   have e:rightHi hh=false:=by rw [rightHi,he,hx];rfl
   exact RetK.pure (by simp only [rs64,rsb,vcd,↓vcp,seval]) (by (simp only [rs64,rsb,enb,vcd,↓vcp,seval])<;>(first|rw [e]))
  ·have hx:(rightCh c'&&inT hh.tm c'.dy)=true:=by
    cases h1:rightCh c' with
    |false=>rw [h1] at h;simp at h
    |true =>
     rw [h1] at h
     cases h2:inT hh.tm c'.dy with
     |true=>rfl
     |false=>exfalso;simp only [inT] at h2;rw [h2] at h;simp at h
   rw [hx,Bool.true_and] at he
   exact lopK.on (k+1) ⟨hlt,he⟩ (by omega) (Wk.of _ hfn rfl (by simp only [slH,dCh,slC,enb,vcd,↓vcp,seval]) (by simp only [cHi,slH,dCh,slC,enb,vcd,↓vcp,seval]))
 ·have d0:decide ((k:Int)<(hh.ch.length:Int))=false:=decide_eq_false (by have:=z.ch;omega)
  rw [List.drop_eq_nil_of_le (by omega),List.all_nil] at he
  have ct:=sTerms hh.tm z.tc
  simp only [vTm,cTm] at ct
  have e:rightHi hh=(rightTm hh.tm&&decide ((hh.ch.length:Int)≤2000)):=by
   rw [rightHi,he,Bool.true_and]
   congr 1
   exact decide_eq_decide.2 (by omega)
  simp only [slH,cHi,d0,vcd,↓vcp,seval]
  repeat' first|((first|refine tp hP (by exact ct) ?_|refine tg hP (fun _=>by exact ct) ?_|refine tv hP rfl (by exact ct) ?_);try simp only [vcd,↓vcp,seval])|refine And.intro (fun h=>?_) (fun h=>?_)|refine aO ?_|(refine tA rfl rfl rfl rfl ?_;try simp only [vcd,↓vcp,seval])|refine aT ?_|fail
  exact RetK.pure (by simp only [rs64,rsb,vcd,↓vcp,seval]) (by (simp only [rs64,rsb,enb,vcd,↓vcp,seval])<;>(first|rw [e]))
end Go.Proofs.YtanppabbmffokaaGreat
end
section
namespace Go.Proofs.YtanppabbmffokaaGreat
open Go.Bx
set_option maxRecDepth 10000
structure Sl where
 sf:Int
 st:Int
 on:Bool
 rk:Rk
 cv:List Cv
 yr:Int
instance:Inhabited Sl:=⟨⟨0,0,false,default,[],0⟩⟩
def cSl (s:Sl):List V:=[.d (.int .i64 s.sf),.d (.int .i64 s.st),.d (.bool s.on),.d (.int .i64 s.rk.kd),.d (.int .i64 s.rk.va),.d (.int .i64 s.rk.ag),.d (.int .i64 s.rk.zo),.d (slC s.cv),.d (.int .i64 s.yr)]
def vSl (s:Sl):V:=.ag (cSl s)
def dSl (s:Sl):List D:=[.int .i64 s.sf,.int .i64 s.st,.bool s.on,.int .i64 s.rk.kd,.int .i64 s.rk.va,.int .i64 s.rk.ag,.int .i64 s.rk.zo,slC s.cv,.int .i64 s.yr]
def slS (l:List Sl):D:=.sl false 9 l.length (fun i=>dSl (l.getD i default))
def eqCv (a b:Cv):Bool:=(a.pe == b.pe)&&((a.li == b.li)&&((a.ag == b.ag)&&((a.de == b.de)&&(a.sh == b.sh))))
theorem eqCv_iff {a b:Cv}:eqCv a b=true↔a=b:=by
 obtain ⟨a1,a2,a3,a4,a5⟩:=a
 obtain ⟨b1,b2,b3,b4,b5⟩:=b
 simp [eqCv,and_assoc]
def eqRk (a b:Rk):Bool:=(a.kd == b.kd)&&((a.va == b.va)&&((a.ag == b.ag)&&(a.zo == b.zo)))
theorem eqRk_iff {a b:Rk}:eqRk a b=true↔a=b:=by
 obtain ⟨a1,a2,a3,a4⟩:=a
 obtain ⟨b1,b2,b3,b4⟩:=b
 simp [eqRk,and_assoc]
theorem sAlike (a b:List Cv) (ha:a.length≤9223372036854775806):Ctr Tryz.prog 152 [.d (slC a),.d (slC b)] [] (.d (.bool (decide (a=b)))) [] []:=by
 by_cases hl:a.length=b.length
 ·have d0:(((a.length:Int) != (b.length:Int)))=false:=by rw [bne_eq_false_iff_eq];omega
  refine ctr_pure Tryz.func152 ok152 rfl cc152 cr152 Tryz.ntmps152 (by simp) rfl rfl ?_;intro c hP hfn;simp only [kc152,slC,d0,vcd,↓vcp,seval]
  repeat' first|refine And.intro (fun h=>?_) (fun h=>?_)|refine aO ?_|(refine tA rfl rfl rfl rfl ?_;try simp only [d0,vcd,↓vcp,seval])|refine aT ?_|fail
  refine vcC.loop (X:=Nat) (fun k=>⟨[(1,.d (slC b)),(12,.d (slC a)),(13,.d (.int .i64 a.length)),(14,.d (.int .i64 k))],[],[]⟩)
   (fun k=>k≤a.length∧∀ j,j<k→a.getD j default=b.getD j default) (fun k=>a.length-k) 0 ⟨Nat.zero_le _,fun j hj=>absurd hj (Nat.not_lt_zero j)⟩ (Wk.of _ hfn rfl (by simp only [slC,enb,vcd,↓vcp,seval]) (by simp only [enb,vcd,↓vcp,seval])) ?_
  rintro k ⟨hk,he⟩
  by_cases hlt:k<a.length
  ·obtain ⟨x,hd,hg,-,-⟩:=drop_at hlt
   obtain ⟨y,hd2,hg2,-,-⟩:=drop_at (l:=b) (k:=k) (by omega)
   have b0:decide ((k:Int)<(a.length:Int))=true:=decide_eq_true (by omega)
   have ewk:IntKind.i64.wrap ((k:Int)+1)=((k+1:Nat):Int):=wS (by omega)
   simp only [slC,hg,hg2,b0,ewk,vcd,↓vcp,seval]
   repeat' first|refine And.intro (fun h=>?_) (fun h=>?_)|refine aO ?_|(refine tA rfl rfl rfl rfl ?_;try simp only [hg,hg2,ewk,vcd,↓vcp,seval])|refine aT ?_|fail
   ·have hx:eqCv x y=false:=by rw [eqCv,←Bool.not_eq_true'];exact h
    have:a≠b:=by
     intro e
     rw [eqCv_iff.2 (by rw [←hg default,←hg2 default,e])] at hx
     exact absurd hx (by decide)
    exact RetK.pure (by simp only [rs152,rsb,vcd,↓vcp,seval]) (by (simp only [rs152,rsb,enb,vcd,↓vcp,seval])<;>(first|simp [this]))
   ·have hx:x=y:=eqCv_iff.1 (by rw [eqCv,←Bool.not_eq_false'];exact h)
    refine lopK.on (k+1) ⟨hlt,fun j hj=>?_⟩ (by omega) (Wk.of _ hfn rfl (by simp only [enb,vcd,↓vcp,seval]) (by simp only [enb,vcd,↓vcp,seval]))
    rcases Nat.lt_succ_iff_lt_or_eq.1 hj with h1|h1
    ·exact he j h1
    ·rw [h1,hg,hg2,hx]
  ·have b0:decide ((k:Int)<(a.length:Int))=false:=decide_eq_false (by omega)
   have:a=b:=by
    apply List.ext_getElem hl
    intro j h1 h2
    have:=he j (by omega)
    simpa [List.getD_eq_getElem?_getD,h1,h2] using this
   simp only [slC,b0,vcd,↓vcp,seval]
   repeat' first|refine And.intro (fun h=>?_) (fun h=>?_)|refine aO ?_|(refine tA rfl rfl rfl rfl ?_;try simp only [vcd,↓vcp,seval])|refine aT ?_|fail
   exact RetK.pure (by simp only [rs152,rsb,vcd,↓vcp,seval]) (by (simp only [rs152,rsb,enb,vcd,↓vcp,seval])<;>(first|simp [this]))
 ·have d0:(((a.length:Int) != (b.length:Int)))=true:=by rw [bne_iff_ne];omega
  have:a≠b:=fun e=>hl (by rw [e])
  refine ctr_pure Tryz.func152 ok152 rfl cc152 cr152 Tryz.ntmps152 (by simp) rfl rfl ?_;intro c hP hfn;simp only [kc152,slC,d0,vcd,↓vcp,seval]
  repeat' first|refine And.intro (fun h=>?_) (fun h=>?_)|refine aO ?_|(refine tA rfl rfl rfl rfl ?_;try simp only [d0,vcd,↓vcp,seval])|refine aT ?_|fail
  exact RetK.pure (by simp only [rs152,rsb,vcd,↓vcp,seval]) (by (simp only [rs152,rsb,enb,vcd,↓vcp,seval])<;>(first|simp [this]))
def holdsS (a b:Sl):Bool:=(a.on == b.on)&&eqRk a.rk b.rk&&decide (a.cv=b.cv)
theorem sHolds (a b:Sl) (ha:a.cv.length≤9223372036854775806):Ctr Tryz.prog 110 [vSl a,vSl b] [] (.d (.bool (holdsS a b))) [] []:=by
 have ca:=sAlike a.cv b.cv ha
 simp only [slC] at ca
 refine ctr_pure Tryz.func110 ok110 rfl cc110 cr110 Tryz.ntmps110 (by simp) rfl rfl ?_;intro c hP hfn;simp only [kc110,vSl,cSl,slC,vcd,↓vcp,seval]
 repeat' first|((first|refine tp hP (by exact ca) ?_|refine tg hP (fun _=>by exact ca) ?_|refine tv hP rfl (by exact ca) ?_);try simp only [vcd,↓vcp,seval])|refine And.intro (fun h=>?_) (fun h=>?_)|refine aO ?_|(refine tA rfl rfl rfl rfl ?_;try simp only [vcd,↓vcp,seval])|refine aT ?_|fail
 exact RetK.pure (by simp only [rs110,rsb,vcd,↓vcp,seval]) (by (simp only [rs110,rsb,enb,vcd,↓vcp,seval])<;>(first|simp [holdsS,eqRk]))
end Go.Proofs.YtanppabbmffokaaGreat
end
section
namespace Go.Proofs.YtanppabbmffokaaGreat
open Go.Bx
set_option maxRecDepth 10000
def z0:Sl:=⟨0,0,false,⟨0,0,0,0⟩,[],0⟩
end Go.Proofs.YtanppabbmffokaaGreat
end
section
namespace Go.Proofs.YtanppabbmffokaaGreat
open Go.Bx
set_option maxRecDepth 10000
def dHi (h:Hi):List D:=[.int .i64 h.id,.int .i64 h.bk,.int .i64 h.tm.sf,.int .i64 h.tm.st,.int .i64 h.tm.rk.kd,.int .i64 h.tm.rk.va,.int .i64 h.tm.rk.ag,.int .i64 h.tm.rk.zo,slC h.tm.cv,slH h.ch]
def dayC (l:List Ch) (a:Int):Int:=(l.getD a.toNat default).dy
def cfC (l:List Ch) (a b:Int):Int:=cmpI (dayC l a) (dayC l b)
def okH (l:List Ch) (a:Int):Prop:=0≤a∧a<l.length
theorem cmpI_lt (a b:Int):decide (cmpI a b<0)=decide (a<b):=by
 unfold cmpI
 by_cases h:a<b
 ·simp [h]
 ·by_cases h2:b<a<;>simp [h,h2]
theorem ltC (l:List Ch) (a b:Int):ltO (cfC l) a b=decide (dayC l a<dayC l b):=cmpI_lt _ _
theorem swoC (l:List Ch):Swo (ltO (cfC l)):=⟨fun a b h=>by rw [ltC] at *;simp at *;omega,fun a b c h1 h2=>by rw [ltC] at *;simp at *;omega⟩
theorem sOrder1 (h:Hi) (a b:Int) (ha:okH h.ch a) (hb:okH h.ch b):Ctr Tryz.prog 154 [.d (.int .i64 a),.d (.int .i64 b),.mem (dHi h)] [] (.d (.int .i64 (cfC h.ch a b))) [] []:=by
 have cc:=sCmpI (dayC h.ch a) (dayC h.ch b)
 simp only [dayC] at cc
 obtain ⟨h1,h2⟩:=ha
 obtain ⟨h3,h4⟩:=hb
 refine ctr_pure Tryz.func154 ok154 rfl cc154 cr154 Tryz.ntmps154 (by simp) rfl rfl ?_;intro c hP hfn;simp only [kc154,dHi,slH,dCh,vcd,↓vcp,seval]
 repeat' first|((first|refine tp hP (by exact cc) ?_|refine tg hP (fun _=>by exact cc) ?_|refine tv hP rfl (by exact cc) ?_);try simp only [vcd,↓vcp,seval])|refine And.intro (fun h=>?_) (fun h=>?_)|refine aO ?_|(refine tA rfl rfl rfl rfl ?_;try simp only [vcd,↓vcp,seval])|refine aT ?_|fail
 exact RetK.pure (by simp only [rs154,rsb,vcd,↓vcp,seval]) (by (simp only [rs154,rsb,enb,vcd,↓vcp,seval])<;>(first|rfl))
theorem cmpOC (h:Hi):CmpO 154 (dHi h) (cfC h.ch) (okH h.ch):=⟨swoC _,fun a b ha hb=>sOrder1 h a b ha hb⟩
def intsN (n:Nat):List Int:=(List.range n).map fun k:Nat=>((k:Nat):Int)
def orderC (l:List Ch):List Int:=srt (ltO (cfC l)) [] (intsN l.length)
theorem intsN_succ (n:Nat):intsN (n+1)=intsN n++[(n:Int)]:=by simp [intsN,List.range_succ]
theorem intsN_len (n:Nat):(intsN n).length=n:=by simp [intsN]
theorem orderC_perm (l:List Ch):(orderC l).Perm (intsN l.length):=by have:=srt_perm (ltO (cfC l)) (intsN l.length) [];rwa [List.nil_append] at this
theorem orderC_len (l:List Ch):(orderC l).length=l.length:=by rw [(orderC_perm l).length_eq,intsN_len]
theorem orderC_ok (l:List Ch):∀ x,x∈orderC l→okH l x:=fun x hx=>by
 have:=(orderC_perm l).mem_iff.1 hx
 simp only [intsN,List.mem_map,List.mem_range] at this
 obtain ⟨k,hk,rfl⟩:=this
 exact ⟨by omega,by omega⟩
theorem sOrderC (hh:Hi) (hl:hh.ch.length≤1000000):Ctr Tryz.prog 111 [vHi hh] [] (.d (slK .i64 (orderC hh.ch))) [] []:=by
 refine ctr_pure Tryz.func111 ok111 rfl cc111 cr111 Tryz.ntmps111 (by simp) rfl rfl ?_;intro c hP hfn;simp only [kc111,vHi,cHi,slH,vcd,↓vcp,seval]
 refine vcC.loop (X:=Nat) (fun k=>⟨[(3,.osl 1000),(1,.mem (dHi hh)),(7,.d (.int .i64 hh.ch.length)),(8,.d (.int .i64 k))],[(1000,rowZ (intsN k))],[1000,1]⟩)
  (fun k=>k≤hh.ch.length) (fun k=>hh.ch.length-k) 0 (Nat.zero_le _) ?_ ?_
 ·refine (Wk.pubF 1 rfl rfl).trans ((Wk.row0 (s:=3) (k:=1000) (e:=3) (sz:=1) (f':=fun _=>[]) rfl rfl (by simp)).trans (Wk.of _ hfn rfl ?_ ?_))
  ·simp only [dHi,slH,slC,enb,vcd,↓vcp,seval]
  ·simp only [rowZ,enb,vcd,↓vcp,seval];exact OLe.row rfl (fun i hi=>absurd hi (Nat.not_lt_zero i))
 intro k hk
 have il:=intsN_len k
 by_cases hlt:k<hh.ch.length
 ·have d0:decide ((k:Int)<(hh.ch.length:Int))=true:=decide_eq_true (by omega)
  have w1:IntKind.i64.wrap ((k:Int)+1)=((k+1:Nat):Int):=wS (by omega)
  simp only [rowZ,d0,vcd,↓vcp,seval]
  repeat' first|refine And.intro (fun h=>?_) (fun h=>?_)|refine aO ?_|(refine tA rfl rfl rfl rfl ?_;try simp only [w1,vcd,↓vcp,seval])|refine aT ?_|fail
  refine lopK.on (k+1) (by omega) (by omega) ((Wk.sw 14 1000 _ hfn (by simp) (by simp)).trans (Wk.of _ hfn rfl (by simp only [w1,enb,vcd,↓vcp,seval]) ?_))
  simp only [rowZ,intsN_succ,enb,vcd,↓vcp,seval]
  exact OLe.app1 (fun n:Int=>[.int .i64 n]) (fun i hi=>by simp [hi]) (by simp [litRow])
 ·have d0:decide ((k:Int)<(hh.ch.length:Int))=false:=decide_eq_false (by omega)
  obtain rfl:k=hh.ch.length:=by omega
  have cc:=(sSortSt (cmpOC hh) (intsN hh.ch.length) (fun x hx=>by
   simp only [intsN,List.mem_map,List.mem_range] at hx
   obtain ⟨k,hk,rfl⟩:=hx
   exact ⟨by omega,by omega⟩) (by omega)).sw 900 1000
  simp only [rowZ,fnO,vcd,↓vcp,seval] at cc
  simp only [rowZ,d0,vcd,↓vcp,seval]
  repeat' first|refine And.intro (fun h=>?_) (fun h=>?_)|refine aO ?_|(refine tA rfl rfl rfl rfl ?_;try simp only [vcd,↓vcp,seval])|refine aT ?_|fail
  refine TR.call [(1000,rowZ (intsN hh.ch.length))] [(1000,rowZ (orderC hh.ch))] _ [] (by rw [hP];exact cc) (by repeat' first|exact trivial|(intro _;assumption)|apply And.intro) (hin1 rfl) (by simp [keysO]) (by simp) ?_
  simp only [rowZ,vcd,↓vcp,seval]
  repeat' first|refine And.intro (fun h=>?_) (fun h=>?_)|refine aO ?_|(refine tA rfl rfl rfl rfl ?_;try simp only [vcd,↓vcp,seval])|refine aT ?_|fail
  refine RetK.mk _ (Wk.pub 1000 rfl) (by simp only [rs111,rsb,vcd,↓vcp,seval]) ?_ trivial
  simp only [rs111,rsb,vcd,↓vcp,seval]
  exact VLe.refl _
end Go.Proofs.YtanppabbmffokaaGreat
end
section
namespace Go.Proofs.YtanppabbmffokaaGreat
open Go.Bx
set_option maxRecDepth 10000
def doesS (s:Sl) (c:Ch):Sl:=
 if c.kd=1 then { s with rk:=c.rk } else if c.kd=2 then { s with cv:=c.cv } else if c.kd=3 then { s with on:=false } else if c.kd=4 then { s with on:=true } else s
theorem sDoes (s:Sl) (h:Ch) (hl:h.cv.length≤1000000):Ctr Tryz.prog 112 [.own 1 0,vCh h] [(1,.fix (cSl s))] (.tup []) [(1,.fix (cSl (doesS s h)))] []:=by
 refine ctr_own Tryz.func112 ok112 rfl cc112 cr112 Tryz.ntmps112 (by simp) rfl ?_
 intro c hP hfn
 have hr:h.kd=1∨h.kd=2∨h.kd=3∨h.kd=4∨(¬ h.kd=1∧¬ h.kd=2∧¬ h.kd=3∧¬ h.kd=4):=by omega
 have n2:((2:Int) == 1)=false:=rfl
 have n3:((3:Int) == 1)=false:=rfl
 have n4:((4:Int) == 1)=false:=rfl
 have n5:((3:Int) == 2)=false:=rfl
 have n6:((4:Int) == 2)=false:=rfl
 have n7:((4:Int) == 3)=false:=rfl
 rcases hr with e1|e1|e1|e1|⟨e1,e2,e3,e4⟩
 ·have hd:doesS s h={ s with rk:=h.rk }:=by simp [doesS,e1]
  rw [hd]
  simp only [kc112,namesL,V.names,ownNames,vCh,cCh,cSl,slC,e1,vcd,↓vcp,seval]
  repeat' first|refine And.intro (fun h=>?_) (fun h=>?_)|refine aO ?_|(refine tA rfl rfl rfl rfl ?_;try simp only [e1,vcd,↓vcp,seval])|refine aT ?_|fail
  all_goals
   refine RetK.mk' _ (Wk.refl _ _) (by simp only [rs112,rsb,vcd,↓vcp,seval]) (by simp only [rs112,rsb,enb,vcd,↓vcp,seval]) ?_
   simp only [enb,vcd,↓vcp,seval]
 ·have hd:doesS s h={ s with cv:=h.cv }:=by simp [doesS,e1]
  rw [hd]
  have hb:h.cv.length*40≤140737488355328∧h.cv.length≤maxLen:=⟨by omega,by simp only [maxLen];omega⟩
  simp only [kc112,namesL,V.names,ownNames,vCh,cCh,cSl,slC,e1,n2,vcd,↓vcp,seval]
  repeat' first|refine And.intro (fun h=>?_) (fun h=>?_)|refine aO ?_|(refine tA rfl rfl rfl rfl ?_;try simp only [e1,vcd,↓vcp,seval])|refine aT ?_|fail
  all_goals
   refine RetK.mk' _ (Wk.pub 24 rfl) (by simp only [rs112,rsb,vcd,↓vcp,seval]) (by simp only [rs112,rsb,enb,vcd,↓vcp,seval]) ?_
   simp only [enb,vcd,↓vcp,seval]
 ·have hd:doesS s h={ s with on:=false }:=by simp [doesS,e1]
  rw [hd]
  simp only [kc112,namesL,V.names,ownNames,vCh,cCh,cSl,slC,e1,n3,n5,vcd,↓vcp,seval]
  repeat' first|refine And.intro (fun h=>?_) (fun h=>?_)|refine aO ?_|(refine tA rfl rfl rfl rfl ?_;try simp only [e1,vcd,↓vcp,seval])|refine aT ?_|fail
  all_goals
   refine RetK.mk' _ (Wk.refl _ _) (by simp only [rs112,rsb,vcd,↓vcp,seval]) (by simp only [rs112,rsb,enb,vcd,↓vcp,seval]) ?_
   simp only [enb,vcd,↓vcp,seval]
 ·have hd:doesS s h={ s with on:=true }:=by simp [doesS,e1]
  rw [hd]
  simp only [kc112,namesL,V.names,ownNames,vCh,cCh,cSl,slC,e1,n4,n6,n7,vcd,↓vcp,seval]
  repeat' first|refine And.intro (fun h=>?_) (fun h=>?_)|refine aO ?_|(refine tA rfl rfl rfl rfl ?_;try simp only [e1,vcd,↓vcp,seval])|refine aT ?_|fail
  all_goals
   refine RetK.mk' _ (Wk.refl _ _) (by simp only [rs112,rsb,vcd,↓vcp,seval]) (by simp only [rs112,rsb,enb,vcd,↓vcp,seval]) ?_
   simp only [enb,vcd,↓vcp,seval]
 ·have hd:doesS s h=s:=by simp [doesS,e1,e2,e3,e4]
  have m1:(h.kd == 1)=false:=beq_false_of_ne e1
  have m2:(h.kd == 2)=false:=beq_false_of_ne e2
  have m3:(h.kd == 3)=false:=beq_false_of_ne e3
  have m4:(h.kd == 4)=false:=beq_false_of_ne e4
  rw [hd]
  simp only [kc112,namesL,V.names,ownNames,vCh,cCh,cSl,slC,m1,m2,m3,m4,vcd,↓vcp,seval]
  repeat' first|refine And.intro (fun h=>?_) (fun h=>?_)|refine aO ?_|(refine tA rfl rfl rfl rfl ?_;try simp only [e1,vcd,↓vcp,seval])|refine aT ?_|fail
  all_goals
   refine RetK.mk' _ (Wk.refl _ _) (by simp only [rs112,rsb,vcd,↓vcp,seval]) (by simp only [rs112,rsb,enb,vcd,↓vcp,seval]) ?_
   simp only [enb,vcd,↓vcp,seval]
def rowS (l:List Sl):Go.Bx.Own:=.row 118 9 l.length (fun i=>dSl (l.getD i default))
def endB (now:Sl) (out:List Sl) (d:Int):Bool:=decide (0<out.length)&&holdsS (out.getD (out.length-1) default) { now with st:=d }
def endO (now:Sl) (out:List Sl) (d:Int):List Sl:=
 if now.sf=d then out else if endB now out d=true then out.set (out.length-1) { (out.getD (out.length-1) default) with st:=d } else out++[{ now with st:=d }]
theorem sEnd0 (now:Sl) (out:List Sl) (d:Int) (ho:out.length≤1000000) (hc:∀ s,s∈out→s.cv.length≤1000000) (h:now.sf=d∨endB now out d=true) :
  Ctr Tryz.prog 109 [.d (.int .i64 d),.own 901 0,.own 902 0] [(901,.fix (cSl now)),(902,.fix [.osl 1000]),(1000,rowS out)] (.tup []) [(901,.fix (cSl { now with sf:=d })),(902,.fix [.osl 1000]),(1000,rowS (endO now out d))] []:=by
 refine ctr_own Tryz.func109 ok109 rfl cc109 cr109 Tryz.ntmps109 (by simp) rfl ?_
 intro c hP hfn
 by_cases h1:now.sf=d
 ·have e:endO now out d=out:=by rw [endO,if_pos h1]
  have d0:(now.sf == d)=true:=beq_iff_eq.2 h1
  rw [e]
  simp only [kc109,namesL,V.names,ownNames,cSl,slC,rowS,dSl,d0,vcd,↓vcp,seval]
  repeat' first|refine And.intro (fun h=>?_) (fun h=>?_)|refine aO ?_|(refine tA rfl rfl rfl rfl ?_;try simp only [d0,vcd,↓vcp,seval])|refine aT ?_|fail
  refine RetK.mk' _ (Wk.refl _ _) (by simp only [rs109,rsb,vcd,↓vcp,seval]) (by simp only [rs109,rsb,enb,vcd,↓vcp,seval]) ?_
  simp only [enb,vcd,↓vcp,seval]
 ·have hb:=h.resolve_left h1
  have e:endO now out d=out.set (out.length-1) { (out.getD (out.length-1) default) with st:=d }:=by rw [endO,if_neg h1,if_pos hb]
  have d0:(now.sf == d)=false:=beq_false_of_ne h1
  simp only [endB,Bool.and_eq_true,decide_eq_true_eq] at hb
  have w1:IntKind.i64.wrap ((out.length:Int)-1)=((out.length-1:Nat):Int):=(wI (by omega)).trans (by omega)
  obtain ⟨x,hx,hxm⟩:∃ x,(∀ d,out.getD (out.length-1) d=x)∧x∈out:=by
   obtain ⟨x,-,hg,hm,-⟩:=drop_at (l:=out) (k:=out.length-1) (by omega)
   exact ⟨x,hg,hm⟩
  rw [hx] at hb e
  have d1:decide (((out.length-1:Nat):Int)≥0)=true:=decide_eq_true (by omega)
  have cc:=sHolds x { now with st:=d } (by have:=hc x hxm;omega)
  rw [hb.2] at cc
  simp only [vSl,cSl,slC] at cc
  have b1:(0:Int)≤((out.length-1:Nat):Int)∧((out.length-1:Nat):Int)<(out.length:Int):=by omega
  rw [e]
  simp only [kc109,namesL,V.names,ownNames,cSl,slC,rowS,dSl,d0,w1,d1,hx,vcd,↓vcp,seval]
  repeat' first|((first|refine tp hP (by exact cc) ?_|refine tg hP (fun _=>by exact cc) ?_|refine tv hP rfl (by exact cc) ?_);try simp only [d0,w1,d1,hx,vcd,↓vcp,seval])|refine And.intro (fun h=>?_) (fun h=>?_)|refine aO ?_|(refine tA rfl rfl rfl rfl ?_;try simp only [d0,w1,d1,hx,vcd,↓vcp,seval])|refine aT ?_|fail
  refine RetK.mk' _ (Wk.refl _ _) (by simp only [rs109,rsb,vcd,↓vcp,seval]) (by simp only [rs109,rsb,enb,vcd,↓vcp,seval]) ?_
  simp only [enb,vcd,↓vcp,seval]
  refine OLe.row (by rw [List.length_set]) fun i hi=>?_
  have hgi:(out.set (out.length-1) { x with st:=d }).getD i default=if i=out.length-1 then { x with st:=d } else out.getD i default:=by
   simp only [List.getD_eq_getElem?_getD,List.getElem?_set]
   by_cases hi2:out.length-1=i
   ·rw [if_pos hi2,if_pos (by omega),if_pos hi2.symm];rfl
   ·rw [if_neg hi2,if_neg (fun h=>hi2 h.symm)]
  rw [hgi]
  by_cases hi2:i=out.length-1
  ·rw [if_pos hi2,if_pos hi2]
   simp [putD]
  ·rw [if_neg hi2,if_neg hi2]
theorem sEnd1 (now:Sl) (out:List Sl) (d:Int) (ho:out.length≤1000000) (hc:∀ s,s∈out→s.cv.length≤1000000) (h:¬ (now.sf=d∨endB now out d=true)) :
  Ctr Tryz.prog 109 [.d (.int .i64 d),.own 901 0,.own 902 0] [(901,.fix (cSl now)),(902,.fix [.osl 1000]),(1000,rowS out)] (.tup []) [(901,.fix (cSl { now with sf:=d })),(902,.fix [.osl 1001]),(1001,rowS (endO now out d))] [1001]:=by
 refine ctr_own Tryz.func109 ok109 rfl cc109 cr109 Tryz.ntmps109 (by simp) rfl ?_
 intro c hP hfn
 have h1:¬ now.sf=d:=fun e=>h (.inl e)
 have hb:¬ endB now out d=true:=fun e=>h (.inr e)
 have e:endO now out d=out++[{ now with st:=d }]:=by rw [endO,if_neg h1,if_neg hb]
 have d0:(now.sf == d)=false:=beq_false_of_ne h1
 have hroom:(out.length+1)*88≤140737488355328∧out.length+1≤maxLen:=⟨by omega,by simp only [maxLen];omega⟩
 by_cases h0:out.length=0
 ·have w1:IntKind.i64.wrap ((out.length:Int)-1)=-1:=(wI (by omega)).trans (by omega)
  have d1:decide ((-1:Int)≥0)=false:=rfl
  rw [e]
  simp only [kc109,namesL,V.names,ownNames,cSl,slC,rowS,dSl,d0,w1,d1,vcd,↓vcp,seval]
  refine TR.gp (gc:=false) (res:=.d (.bool false)) hP rfl (fun h=>by cases h) (fun h=>by cases h) ?_
  simp only [d0,w1,d1,vcd,↓vcp,seval]
  repeat' first|refine And.intro (fun h=>?_) (fun h=>?_)|refine aO ?_|(refine tA rfl rfl rfl rfl ?_;try simp only [d0,w1,d1,vcd,↓vcp,seval])|refine aT ?_|fail
  refine RetK.mk' _ (Wk.sw 16 1001 _ hfn (by simp [namesL,V.names,ownNames,rowS,cSl]) (by simp [namesL,V.names,ownNames,rowS,cSl])) (by simp only [rs109,rsb,vcd,↓vcp,seval]) (by simp only [rs109,rsb,enb,vcd,↓vcp,seval]) ?_
  simp only [rowS,cSl,slC,dSl,enb,vcd,↓vcp,seval]
  exact OLe.app1 dSl (fun i hi=>by simp [hi,dSl,slC]) (by simp [dSl,slC,litRow])
 ·have w1:IntKind.i64.wrap ((out.length:Int)-1)=((out.length-1:Nat):Int):=(wI (by omega)).trans (by omega)
  obtain ⟨x,hx,hxm⟩:∃ x,(∀ d,out.getD (out.length-1) d=x)∧x∈out:=by
   obtain ⟨x,-,hg,hm,-⟩:=drop_at (l:=out) (k:=out.length-1) (by omega)
   exact ⟨x,hg,hm⟩
  rw [e]
  rw [endB,hx] at hb
  have hb2:holdsS x { now with st:=d }=false:=by
   cases hq:holdsS x { now with st:=d } with
   |false=>rfl
   |true=>rw [hq,decide_eq_true (by omega:0<out.length)] at hb;exact absurd rfl hb
  have d1:decide (((out.length-1:Nat):Int)≥0)=true:=decide_eq_true (by omega)
  have cc:=sHolds x { now with st:=d } (by have:=hc x hxm;omega)
  rw [hb2] at cc
  simp only [vSl,cSl,slC] at cc
  have b1:(0:Int)≤((out.length-1:Nat):Int)∧((out.length-1:Nat):Int)<(out.length:Int):=by omega
  simp only [kc109,namesL,V.names,ownNames,cSl,slC,rowS,dSl,d0,w1,d1,hx,vcd,↓vcp,seval]
  repeat' first|((first|refine tp hP (by exact cc) ?_|refine tg hP (fun _=>by exact cc) ?_|refine tv hP rfl (by exact cc) ?_);try simp only [d0,w1,d1,hx,vcd,↓vcp,seval])|refine And.intro (fun h=>?_) (fun h=>?_)|refine aO ?_|(refine tA rfl rfl rfl rfl ?_;try simp only [d0,w1,d1,hx,vcd,↓vcp,seval])|refine aT ?_|fail
  refine RetK.mk' _ (Wk.sw 16 1001 _ hfn (by simp [namesL,V.names,ownNames,rowS,cSl]) (by simp [namesL,V.names,ownNames,rowS,cSl])) (by simp only [rs109,rsb,vcd,↓vcp,seval]) (by simp only [rs109,rsb,enb,vcd,↓vcp,seval]) ?_
  simp only [rowS,cSl,slC,dSl,enb,vcd,↓vcp,seval]
  exact OLe.app1 dSl (fun i hi=>by simp [hi,dSl,slC]) (by simp [dSl,slC,litRow])
end Go.Proofs.YtanppabbmffokaaGreat
end
section
namespace Go.Proofs.YtanppabbmffokaaGreat
open Go.Bx
set_option maxRecDepth 10000
theorem hin3 {own:List (Nat×Go.Bx.Own)} {k1 k2 k3:Nat} {o1 o2 o3:Go.Bx.Own} (h1:own? own k1=some o1) (h2:own? own k2=some o2) (h3:own? own k3=some o3):∀ k' o',(k',o')∈[(k1,o1),(k2,o2),(k3,o3)]→own? own k'=some o':=fun k' o' hm=>by
 simp only [List.mem_cons,Prod.mk.injEq,List.not_mem_nil,or_false] at hm
 rcases hm with ⟨rfl,rfl⟩|⟨rfl,rfl⟩|⟨rfl,rfl⟩
 ·exact h1
 ·exact h2
 ·exact h3
def stepCut (ch:List Ch) (x:Sl×List Sl) (i:Int):Sl×List Sl:=(doesS { x.1 with sf:=(ch.getD i.toNat default).dy } (ch.getD i.toNat default),endO x.1 x.2 (ch.getD i.toNat default).dy)
def cut0 (h:Hi):Sl×List Sl:=(⟨h.tm.sf,0,true,h.tm.rk,h.tm.cv,0⟩,[])
def cutK (h:Hi) (k:Nat):Sl×List Sl:=((orderC h.ch).take k).foldl (stepCut h.ch) (cut0 h)
def cutS (h:Hi):List Sl:=endO (cutK h h.ch.length).1 (cutK h h.ch.length).2 h.tm.st
structure CutI (k:Nat) (x:Sl×List Sl):Prop where
 len:x.2.length≤k
 now:x.1.cv.length≤1000000
 cv:∀ s,s∈x.2→s.cv.length≤1000000
theorem endO_len (now:Sl) (out:List Sl) (d:Int):(endO now out d).length≤out.length+1:=by
 unfold endO
 split
 ·omega
 ·split
  ·simp
  ·simp
theorem endO_cv {now:Sl} {out:List Sl} {d:Int} (h1:now.cv.length≤1000000) (h2:∀ s,s∈out→s.cv.length≤1000000):∀ s,s∈endO now out d→s.cv.length≤1000000:=by
 unfold endO
 split
 ·exact h2
 ·split
  ·rename_i hb
   simp only [endB,Bool.and_eq_true,decide_eq_true_eq] at hb
   intro s hs
   rcases List.mem_or_eq_of_mem_set hs with h|h
   ·exact h2 s h
   ·obtain ⟨x,-,hg,hm,-⟩:=drop_at (l:=out) (k:=out.length-1) (by omega)
    rw [h,hg];exact h2 x hm
  ·intro s hs
   rcases List.mem_append.1 hs with h|h
   ·exact h2 s h
   ·rw [List.mem_singleton.1 h];exact h1
theorem doesS_cv {s:Sl} {c:Ch} (h1:s.cv.length≤1000000) (h2:c.cv.length≤1000000):(doesS s c).cv.length≤1000000:=by
 unfold doesS
 split
 ·exact h1
 ·split
  ·exact h2
  ·split
   ·exact h1
   ·split<;>exact h1
theorem CutI.step {h:Hi} (hc:∀ c,c∈h.ch→c.cv.length≤1000000) {k:Nat} {x:Sl×List Sl} (hx:CutI k x) {i:Int} (hi:okH h.ch i):CutI (k+1) (stepCut h.ch x i):=by
 obtain ⟨c,-,hg,hm,-⟩:=drop_at (l:=h.ch) (k:=i.toNat) (by have:=hi.1;have:=hi.2;omega)
 refine ⟨?_,?_,?_⟩
 ·have:=endO_len x.1 x.2 (h.ch.getD i.toNat default).dy
  have:=hx.len
  simp only [stepCut];omega
 ·simp only [stepCut];rw [hg];exact doesS_cv hx.now (hc c hm)
 ·simp only [stepCut];exact endO_cv hx.now hx.cv
theorem cutK_ok {h:Hi} (ht:h.tm.cv.length≤1000000) (hc:∀ c,c∈h.ch→c.cv.length≤1000000):∀ k,CutI k (cutK h k)
 |0=>⟨Nat.le_refl _,ht,fun s hs=>by simp [cutK,cut0] at hs⟩
 |k+1=>by
  by_cases hk:k<(orderC h.ch).length
  ·obtain ⟨x,hd,hg,hm,he⟩:=drop_at hk
   have:cutK h (k+1)=stepCut h.ch (cutK h k) x:=by rw [cutK,List.take_add_one,he,List.foldl_append];rfl
   rw [this]
   exact (cutK_ok ht hc k).step hc (orderC_ok _ x hm)
  ·have:cutK h (k+1)=cutK h k:=by rw [cutK,cutK,List.take_of_length_le (by omega),List.take_of_length_le (by omega)]
   rw [this]
   have:=cutK_ok ht hc k
   exact ⟨by have:=this.len;omega,this.now,this.cv⟩
structure SzC (h:Hi):Prop where
 t:h.tm.cv.length≤1000000
 n:h.ch.length≤100000
 c:∀ c,c∈h.ch→c.cv.length≤1000000
set_option maxHeartbeats 2000000 in
theorem sCut (hh:Hi) (z:SzC hh):Ctr Tryz.prog 66 [vHi hh] [] (.osl 7) [(7,rowS (cutS hh))] [7]:=by
 have co:=sOrderC hh (by have:=z.n;omega)
 simp only [vHi,cHi,slC,slH,dCh] at co
 have hb:hh.tm.cv.length*40≤140737488355328∧hh.tm.cv.length≤maxLen:=⟨by have:=z.t;omega,by have:=z.t;simp only [maxLen];omega⟩
 have hol:=orderC_len hh.ch
 refine ctr_own Tryz.func66 ok66 rfl cc66 cr66 Tryz.ntmps66 (by simp [vHi,cHi]) rfl ?_
 intro c hP hfn
 replace hfn:c.fn=[]:=hfn
 simp only [kc66,namesL,V.names,ownNames,vHi,cHi,slC,slH,dCh,vcd,↓vcp,seval]
 repeat' first|((first|refine tp hP (by exact co) ?_|refine tg hP (fun _=>by exact co) ?_|refine tv hP rfl (by exact co) ?_);try simp only [vcd,↓vcp,seval])|refine And.intro (fun h=>?_) (fun h=>?_)|refine aO ?_|(refine tA rfl rfl rfl rfl ?_;try simp only [vcd,↓vcp,seval])|refine aT ?_|fail
 refine vcC.loop (X:=Nat) (fun k=>⟨[(1,.mem (dHi hh)),(3,.own 3 0),(4,.own 4 0),(5,.own 5 0),(6,.fn (.func 109) [] [.own 4 0,.own 5 0]),(26,.d (slK .i64 (orderC hh.ch))),(27,.d (.int .i64 (orderC hh.ch).length)),(28,.d (.int .i64 k))],[(3,.fix [.d (.int .i64 hh.tm.sf),.d (.int .i64 hh.tm.st)]),(4,.fix (cSl (cutK hh k).1)),(5,.fix [.osl 1000]),(1000,rowS (cutK hh k).2)],[1,3,4,5,1000]⟩)
  (fun k=>k≤(orderC hh.ch).length) (fun k=>(orderC hh.ch).length-k) 0 (Nat.zero_le _) ?_ ?_
 ·refine (Wk.pubF 1 rfl rfl).trans ((Wk.pub 22 rfl).trans ((Wk.row0F 5 0 1000 118 9 (fun _=>[]) rfl rfl (by simp)).trans (Wk.of _ hfn rfl ?_ ?_)))
  ·simp only [dHi,slH,slC,dCh,enb,vcd,↓vcp,seval]
  ·simp only [rowS,cutK,cut0,cSl,slC,List.foldl_nil,enb,vcd,↓vcp,seval]
   exact OLe.row rfl (fun i hi=>absurd hi (Nat.not_lt_zero i))
 intro k hk
 have hI:=cutK_ok z.t z.c k
 by_cases hlt:k<(orderC hh.ch).length
 ·obtain ⟨i,hd,hg,hm,he⟩:=drop_at hlt
  have hi:=orderC_ok _ i hm
  obtain ⟨h1,h2⟩:=hi
  obtain ⟨c',hd',hg',hm',-⟩:=drop_at (l:=hh.ch) (k:=i.toNat) (by omega)
  have hS:cutK hh (k+1)=stepCut hh.ch (cutK hh k) i:=by rw [cutK,List.take_add_one,he,List.foldl_append];rfl
  have hS2:stepCut hh.ch (cutK hh k) i=(doesS { (cutK hh k).1 with sf:=c'.dy } c',endO (cutK hh k).1 (cutK hh k).2 c'.dy):=by rw [stepCut,hg']
  rw [hS2] at hS
  have hfin:∀ st:St,Wk c st ⟨[(1,.mem (dHi hh)),(3,.own 3 0),(4,.own 4 0),(5,.own 5 0),(6,.fn (.func 109) [] [.own 4 0,.own 5 0]),(26,.d (slK .i64 (orderC hh.ch))),(27,.d (.int .i64 (orderC hh.ch).length)),(28,.d (.int .i64 ((k+1:Nat):Int)))],[(3,.fix [.d (.int .i64 hh.tm.sf),.d (.int .i64 hh.tm.st)]),(4,.fix (cSl (doesS { (cutK hh k).1 with sf:=c'.dy } c'))),(5,.fix [.osl 1000]),(1000,rowS (endO (cutK hh k).1 (cutK hh k).2 c'.dy))],[1,3,4,5,1000]⟩→Wk c st ⟨[(1,.mem (dHi hh)),(3,.own 3 0),(4,.own 4 0),(5,.own 5 0),(6,.fn (.func 109) [] [.own 4 0,.own 5 0]),(26,.d (slK .i64 (orderC hh.ch))),(27,.d (.int .i64 (orderC hh.ch).length)),(28,.d (.int .i64 ((k+1:Nat):Int)))],[(3,.fix [.d (.int .i64 hh.tm.sf),.d (.int .i64 hh.tm.st)]),(4,.fix (cSl (cutK hh (k+1)).1)),(5,.fix [.osl 1000]),(1000,rowS (cutK hh (k+1)).2)],[1,3,4,5,1000]⟩:=fun st h=>by rw [hS];exact h
  have dc:=(sDoes { (cutK hh k).1 with sf:=c'.dy } c' (z.c c' hm')).sw 1 4
  have d0:decide ((k:Int)<((orderC hh.ch).length:Int))=true:=decide_eq_true (by omega)
  have w1:IntKind.i64.wrap ((k:Int)+1)=((k+1:Nat):Int):=wS (by have:=z.n;omega)
  generalize cutK hh k=x at *
  obtain ⟨now,out⟩:=x
  have hl:out.length≤k:=hI.len
  have hn:=z.n
  simp only [vCh,cCh,cSl,slC,vcd,↓vcp,seval] at dc
  by_cases hb:now.sf=c'.dy∨endB now out c'.dy=true
  ·have ec:=((sEnd0 now out c'.dy (by omega) hI.cv hb).sw 901 4).sw 902 5
   simp only [rowS,cSl,slC,vcd,↓vcp,seval] at ec
   simp only [dHi,slH,dCh,slC,cSl,rowS,hg,hg',d0,vcd,↓vcp,seval]
   repeat' first|refine And.intro (fun h=>?_) (fun h=>?_)|refine aO ?_|(refine tA rfl rfl rfl rfl ?_;try simp only [hg,hg',w1,vcd,↓vcp,seval])|refine aT ?_|fail
   refine TR.callv [(4,.fix (cSl now)),(5,.fix [.osl 1000]),(1000,rowS out)] [(4,.fix (cSl { now with sf:=c'.dy })),(5,.fix [.osl 1000]),(1000,rowS (endO now out c'.dy))] _ [] rfl (by rw [hP];exact ec) trivial (by repeat' first|exact trivial|(intro _;assumption)|apply And.intro) (hin3 rfl rfl rfl) (by simp [keysO]) (by simp) ?_
   simp only [hg,hg',cSl,slC,rowS,vcd,↓vcp,seval]
   repeat' first|refine And.intro (fun h=>?_) (fun h=>?_)|refine aO ?_|(refine tA rfl rfl rfl rfl ?_;try simp only [hg,hg',w1,vcd,↓vcp,seval])|refine aT ?_|fail
   refine TR.call [(4,.fix (cSl { now with sf:=c'.dy }))] [(4,.fix (cSl (doesS { now with sf:=c'.dy } c')))] _ [] (by rw [hP];exact dc) (by repeat' first|exact trivial|(intro _;assumption)|apply And.intro) (hin1 rfl) (by simp [keysO]) (by simp) ?_
   simp only [w1,cSl,slC,vcd,↓vcp,seval]
   repeat' first|refine And.intro (fun h=>?_) (fun h=>?_)|refine aO ?_|(refine tA rfl rfl rfl rfl ?_;try simp only [w1,vcd,↓vcp,seval])|refine aT ?_|fail
   refine lopK.on (k+1) hlt (by omega) (hfin _ (Wk.of _ hfn rfl (by simp only [dHi,slH,dCh,slC,w1,enb,vcd,↓vcp,seval]) (by simp only [rowS,cSl,slC,enb,vcd,↓vcp,seval])))
  ·have ec:=((((sEnd1 now out c'.dy (by omega) hI.cv hb).sw 901 4).sw 902 5))
   simp only [rowS,cSl,slC,vcd,↓vcp,seval] at ec
   simp only [dHi,slH,dCh,slC,cSl,rowS,hg,hg',d0,vcd,↓vcp,seval]
   repeat' first|refine And.intro (fun h=>?_) (fun h=>?_)|refine aO ?_|(refine tA rfl rfl rfl rfl ?_;try simp only [hg,hg',w1,vcd,↓vcp,seval])|refine aT ?_|fail
   refine TR.callv [(4,.fix (cSl now)),(5,.fix [.osl 1000]),(1000,rowS out)] [(4,.fix (cSl { now with sf:=c'.dy })),(5,.fix [.osl 1001]),(1001,rowS (endO now out c'.dy))] _ [1001] rfl (by rw [hP];exact ec) trivial (by repeat' first|exact trivial|(intro _;assumption)|apply And.intro) (hin3 rfl rfl rfl) (by simp [keysO]) (by simp) ?_
   simp only [hg,hg',cSl,slC,rowS,vcd,↓vcp,seval]
   repeat' first|refine And.intro (fun h=>?_) (fun h=>?_)|refine aO ?_|(refine tA rfl rfl rfl rfl ?_;try simp only [hg,hg',w1,vcd,↓vcp,seval])|refine aT ?_|fail
   refine TR.call [(4,.fix (cSl { now with sf:=c'.dy }))] [(4,.fix (cSl (doesS { now with sf:=c'.dy } c')))] _ [] (by rw [hP];exact dc) (by repeat' first|exact trivial|(intro _;assumption)|apply And.intro) (hin1 rfl) (by simp [keysO]) (by simp) ?_
   simp only [w1,cSl,slC,vcd,↓vcp,seval]
   repeat' first|refine And.intro (fun h=>?_) (fun h=>?_)|refine aO ?_|(refine tA rfl rfl rfl rfl ?_;try simp only [w1,vcd,↓vcp,seval])|refine aT ?_|fail
   refine lopK.on (k+1) hlt (by omega) (hfin _ ((Wk.sw 1001 1000 _ hfn (by simp) (by simp)).trans (Wk.of _ hfn rfl (by simp only [dHi,slH,dCh,slC,w1,enb,vcd,↓vcp,seval]) (by simp only [rowS,cSl,slC,enb,vcd,↓vcp,seval]))))
 ·have d0:decide ((k:Int)<((orderC hh.ch).length:Int))=false:=decide_eq_false (by omega)
  have hkn:k=hh.ch.length:=by omega
  subst hkn
  have hC:cutS hh=endO (cutK hh hh.ch.length).1 (cutK hh hh.ch.length).2 hh.tm.st:=rfl
  rw [hC]
  generalize cutK hh hh.ch.length=x at *
  obtain ⟨now,out⟩:=x
  have hl:out.length≤hh.ch.length:=hI.len
  have hn:=z.n
  by_cases hb:now.sf=hh.tm.st∨endB now out hh.tm.st=true
  ·have ec:=((sEnd0 now out hh.tm.st (by omega) hI.cv hb).sw 901 4).sw 902 5
   simp only [rowS,cSl,slC,vcd,↓vcp,seval] at ec
   simp only [dHi,slH,dCh,slC,cSl,rowS,d0,vcd,↓vcp,seval]
   repeat' first|refine And.intro (fun h=>?_) (fun h=>?_)|refine aO ?_|(refine tA rfl rfl rfl rfl ?_;try simp only [vcd,↓vcp,seval])|refine aT ?_|fail
   refine TR.callv [(4,.fix (cSl now)),(5,.fix [.osl 1000]),(1000,rowS out)] [(4,.fix (cSl { now with sf:=hh.tm.st })),(5,.fix [.osl 1000]),(1000,rowS (endO now out hh.tm.st))] _ [] rfl (by rw [hP];exact ec) trivial (by repeat' first|exact trivial|(intro _;assumption)|apply And.intro) (hin3 rfl rfl rfl) (by simp [keysO]) (by simp) ?_
   simp only [cSl,slC,rowS,vcd,↓vcp,seval]
   repeat' first|refine And.intro (fun h=>?_) (fun h=>?_)|refine aO ?_|(refine tA rfl rfl rfl rfl ?_;try simp only [vcd,↓vcp,seval])|refine aT ?_|fail
   refine RetK.mk _ (Wk.sw 1000 7 _ hfn (by simp) (by simp)) (by simp only [rs66,rsb,vcd,↓vcp,seval]) (by simp only [rs66,rsb,enb,vcd,↓vcp,seval]) ?_
   simp only [rowS,enb,vcd,↓vcp,seval]
  ·have ec:=((sEnd1 now out hh.tm.st (by omega) hI.cv hb).sw 901 4).sw 902 5
   simp only [rowS,cSl,slC,vcd,↓vcp,seval] at ec
   simp only [dHi,slH,dCh,slC,cSl,rowS,d0,vcd,↓vcp,seval]
   repeat' first|refine And.intro (fun h=>?_) (fun h=>?_)|refine aO ?_|(refine tA rfl rfl rfl rfl ?_;try simp only [vcd,↓vcp,seval])|refine aT ?_|fail
   refine TR.callv [(4,.fix (cSl now)),(5,.fix [.osl 1000]),(1000,rowS out)] [(4,.fix (cSl { now with sf:=hh.tm.st })),(5,.fix [.osl 1001]),(1001,rowS (endO now out hh.tm.st))] _ [1001] rfl (by rw [hP];exact ec) trivial (by repeat' first|exact trivial|(intro _;assumption)|apply And.intro) (hin3 rfl rfl rfl) (by simp [keysO]) (by simp) ?_
   simp only [cSl,slC,rowS,vcd,↓vcp,seval]
   repeat' first|refine And.intro (fun h=>?_) (fun h=>?_)|refine aO ?_|(refine tA rfl rfl rfl rfl ?_;try simp only [vcd,↓vcp,seval])|refine aT ?_|fail
   refine RetK.mk _ (Wk.sw 1001 7 _ hfn (by simp) (by simp)) (by simp only [rs66,rsb,vcd,↓vcp,seval]) (by simp only [rs66,rsb,enb,vcd,↓vcp,seval]) ?_
   simp only [rowS,enb,vcd,↓vcp,seval]
end Go.Proofs.YtanppabbmffokaaGreat
end
