import Derived.Test.YtanppabbmffokaaGreatXE11
set_option linter.unusedSimpArgs false
set_option linter.unusedVariables false
section
namespace Go.Proofs.YtanppabbmffokaaGreat
open Go.Bx
set_option maxRecDepth 10000
theorem ofS_len {h:Hi} {t:List Vs} (z:SzC h):(ofS h t).1.length≤9223372036854775807:=by
 have h1:=(cutS_ok z).1
 have h2:=z.n
 unfold ofS
 repeat' split
 all_goals simp
 omega
theorem sKept2 (hh:Hi) (t:List Vs) (z:SzC hh) (ht:t.length≤1000000) (hz:∀ v,v∈t→SzV v) :
  Ctr Tryz.prog 39 [vHi hh,.ag [.d (slV t)]] [] (.tup [.d (.int .i64 (keptF hh t).1),.d (.int .i64 (keptF hh t).2)]) [] []:=sKeptF hh t z ht hz fun x=>ofS_len (withOut_sz z x)
def dueF (h:Hi) (t:List Vs):Int×Int:=
 if (keptF h t).2≠0 then (0,(keptF h t).2) else
 if (uptoF (ofS h t).1 292195).2≠0 then (0,(uptoF (ofS h t).1 292195).2) else
 if (uptoF (ofS h t).1 292195).1>IntKind.i64.wrap (4000000000000000000-(keptF h t).1) then (0,5) else (IntKind.i64.wrap ((uptoF (ofS h t).1 292195).1+(keptF h t).1),0)
set_option maxHeartbeats 2000000 in
theorem sDueF (hh:Hi) (t:List Vs) (z:SzC hh) (ht:t.length≤1000000) (hz:∀ v,v∈t→SzV v) :
  Ctr Tryz.prog 11 [vHi hh,.ag [.d (slV t)]] [] (.tup [.d (.int .i64 (dueF hh t).1),.d (.int .i64 (dueF hh t).2)]) [] []:=by
 have ck:=sKept2 hh t z ht hz
 have co:=sOfS hh t z ht hz
 have cw:=sWritten (ofS hh t).1 (ofS_len z)
 rw [dueF]
 generalize keptF hh t=K at *
 generalize ofS hh t=L at *
 generalize uptoF L.1 292195=U at *
 obtain ⟨k,ke⟩:=K
 obtain ⟨L,le⟩:=L
 obtain ⟨u,ue⟩:=U
 simp only [vHi,cHi,slC,slH,dCh,slV,dVs,slB,slS,dSl] at ck co cw
 by_cases h1:ke=0
 ·subst h1
  have n0:((0:Int) != 0)=false:=rfl
  rw [if_neg (by simp)]
  by_cases h2:ue=0
  ·subst h2
   rw [if_neg (by simp)]
   generalize hw:IntKind.i64.wrap (4000000000000000000-k)=m at *
   by_cases h3:u>m
   ·have d3:decide (u>m)=true:=decide_eq_true h3
    rw [if_pos h3]
    refine ctr_pure Tryz.func11 ok11 rfl cc11 cr11 Tryz.ntmps11 (by simp) rfl rfl ?_;intro c hP hfn;simp only [kc11,vHi,cHi,slC,slH,dCh,slV,dVs,slB,vcd,↓vcp,seval]
    repeat' first|((first|refine tp hP (by first|exact ck|exact co|exact cw) ?_|refine tg hP (fun _=>by first|exact ck|exact co|exact cw) ?_|refine tv hP rfl (by first|exact ck|exact co|exact cw) ?_);try simp only [n0,hw,d3,vcd,↓vcp,seval])|refine And.intro (fun h=>?_) (fun h=>?_)|refine aO ?_|(refine tA rfl rfl rfl rfl ?_;try simp only [n0,hw,d3,vcd,↓vcp,seval])|refine aT ?_|fail
    exact RetK.pure (by simp only [rs11,rsb,vcd,↓vcp,seval]) (by (simp only [rs11,rsb,enb,vcd,↓vcp,seval])<;>(first|exact VLe.refl _))
   ·have d3:decide (u>m)=false:=decide_eq_false h3
    rw [if_neg h3]
    refine ctr_pure Tryz.func11 ok11 rfl cc11 cr11 Tryz.ntmps11 (by simp) rfl rfl ?_;intro c hP hfn;simp only [kc11,vHi,cHi,slC,slH,dCh,slV,dVs,slB,vcd,↓vcp,seval]
    repeat' first|((first|refine tp hP (by first|exact ck|exact co|exact cw) ?_|refine tg hP (fun _=>by first|exact ck|exact co|exact cw) ?_|refine tv hP rfl (by first|exact ck|exact co|exact cw) ?_);try simp only [n0,hw,d3,vcd,↓vcp,seval])|refine And.intro (fun h=>?_) (fun h=>?_)|refine aO ?_|(refine tA rfl rfl rfl rfl ?_;try simp only [n0,hw,d3,vcd,↓vcp,seval])|refine aT ?_|fail
    exact RetK.pure (by simp only [rs11,rsb,vcd,↓vcp,seval]) (by (simp only [rs11,rsb,enb,vcd,↓vcp,seval])<;>(first|exact VLe.refl _))
  ·have n1:(ue != 0)=true:=bne_iff_ne.2 h2
   rw [if_pos h2]
   refine ctr_pure Tryz.func11 ok11 rfl cc11 cr11 Tryz.ntmps11 (by simp) rfl rfl ?_;intro c hP hfn;simp only [kc11,vHi,cHi,slC,slH,dCh,slV,dVs,slB,vcd,↓vcp,seval]
   repeat' first|((first|refine tp hP (by first|exact ck|exact co|exact cw) ?_|refine tg hP (fun _=>by first|exact ck|exact co|exact cw) ?_|refine tv hP rfl (by first|exact ck|exact co|exact cw) ?_);try simp only [n0,n1,vcd,↓vcp,seval])|refine And.intro (fun h=>?_) (fun h=>?_)|refine aO ?_|(refine tA rfl rfl rfl rfl ?_;try simp only [n0,n1,vcd,↓vcp,seval])|refine aT ?_|fail
   exact RetK.pure (by simp only [rs11,rsb,vcd,↓vcp,seval]) (by (simp only [rs11,rsb,enb,vcd,↓vcp,seval])<;>(first|exact VLe.refl _))
 ·have n1:(ke != 0)=true:=bne_iff_ne.2 h1
  rw [if_pos h1]
  refine ctr_pure Tryz.func11 ok11 rfl cc11 cr11 Tryz.ntmps11 (by simp) rfl rfl ?_;intro c hP hfn;simp only [kc11,vHi,cHi,slC,slH,dCh,slV,dVs,slB,vcd,↓vcp,seval]
  repeat' first|((first|refine tp hP (by exact ck) ?_|refine tg hP (fun _=>by exact ck) ?_|refine tv hP rfl (by exact ck) ?_);try simp only [n1,vcd,↓vcp,seval])|refine And.intro (fun h=>?_) (fun h=>?_)|refine aO ?_|(refine tA rfl rfl rfl rfl ?_;try simp only [n1,vcd,↓vcp,seval])|refine aT ?_|fail
  exact RetK.pure (by simp only [rs11,rsb,vcd,↓vcp,seval]) (by (simp only [rs11,rsb,enb,vcd,↓vcp,seval])<;>(first|exact VLe.refl _))
def givenF (h:Hi) (t:List Vs) (c:Ch):Int×Int:=
 if (putC h c).2≠0 then (0,(putC h c).2) else
 if (dueF h t).2≠0 then (0,(dueF h t).2) else
 if (dueF (putC h c).1 t).2≠0 then (0,(dueF (putC h c).1 t).2) else
  (IntKind.i64.wrap ((dueF h t).1-(dueF (putC h c).1 t).1),0)
theorem putC_sz {h:Hi} {c:Ch} (z:SzC h) (hc:c.cv.length≤1000000):SzC (putC h c).1:=by
 have z0:SzC zHi:=⟨by simp [zHi],by simp [zHi],fun c h=>by simp [zHi] at h⟩
 rw [putC]
 by_cases h1:(rightCh c&&inT h.tm c.dy)=false
 ·rw [if_pos h1];exact z0
 ·rw [if_neg h1]
  by_cases h2:c.bk<lastB h
  ·rw [if_pos h2];exact z0
  ·rw [if_neg h2]
   by_cases h3:h.ch.length≥2000
   ·rw [if_pos h3];exact z0
   ·rw [if_neg h3]
    refine ⟨z.t,by simp;omega,fun x hx=>?_⟩
    simp only [List.mem_append,List.mem_singleton] at hx
    rcases hx with hx|rfl
    ·exact z.c x hx
    ·exact hc
set_option maxHeartbeats 2000000 in
theorem sGivenF (hh:Hi) (t:List Vs) (c':Ch) (z:SzC hh) (ht:t.length≤1000000) (hz:∀ v,v∈t→SzV v) (hcv:c'.cv.length≤1000000) :
  Ctr Tryz.prog 12 [vHi hh,.ag [.d (slV t)],vCh c'] [] (.tup [.d (.int .i64 (givenF hh t c').1),.d (.int .i64 (givenF hh t c').2)]) [] []:=by
 have cp:=sPutC hh c' z.t hcv (by have:=z.n;omega)
 have cd:=sDueF hh t z ht hz
 have ce:=sDueF (putC hh c').1 t (putC_sz z hcv) ht hz
 rw [givenF]
 generalize putC hh c'=X at *
 obtain ⟨X,xe⟩:=X
 simp only at ce ⊢
 generalize dueF hh t=D1 at *
 generalize dueF X t=D2 at *
 obtain ⟨d1,de1⟩:=D1
 obtain ⟨d2,de2⟩:=D2
 simp only [vHi,cHi,vCh,cCh,slC,slH,dCh,slV,dVs,slB] at cp cd ce
 by_cases h1:xe=0
 ·subst h1
  have n0:((0:Int) != 0)=false:=rfl
  rw [if_neg (by simp)]
  by_cases h2:de1=0
  ·subst h2
   rw [if_neg (by simp)]
   by_cases h3:de2=0
   ·subst h3
    rw [if_neg (by simp)]
    refine ctr_pure Tryz.func12 ok12 rfl cc12 cr12 Tryz.ntmps12 (by simp) rfl rfl ?_;intro c hP hfn;simp only [kc12,vHi,cHi,vCh,cCh,slC,slH,dCh,slV,dVs,slB,vcd,↓vcp,seval]
    repeat' first|((first|refine tp hP (by first|exact cp|exact cd|exact ce) ?_|refine tg hP (fun _=>by first|exact cp|exact cd|exact ce) ?_|refine tv hP rfl (by first|exact cp|exact cd|exact ce) ?_);try simp only [n0,vcd,↓vcp,seval])|refine And.intro (fun h=>?_) (fun h=>?_)|refine aO ?_|(refine tA rfl rfl rfl rfl ?_;try simp only [n0,vcd,↓vcp,seval])|refine aT ?_|fail
    exact RetK.pure (by simp only [rs12,rsb,vcd,↓vcp,seval]) (by (simp only [rs12,rsb,enb,vcd,↓vcp,seval])<;>(first|exact VLe.refl _))
   ·have n1:(de2 != 0)=true:=bne_iff_ne.2 h3
    rw [if_pos h3]
    refine ctr_pure Tryz.func12 ok12 rfl cc12 cr12 Tryz.ntmps12 (by simp) rfl rfl ?_;intro c hP hfn;simp only [kc12,vHi,cHi,vCh,cCh,slC,slH,dCh,slV,dVs,slB,vcd,↓vcp,seval]
    repeat' first|((first|refine tp hP (by first|exact cp|exact cd|exact ce) ?_|refine tg hP (fun _=>by first|exact cp|exact cd|exact ce) ?_|refine tv hP rfl (by first|exact cp|exact cd|exact ce) ?_);try simp only [n0,n1,vcd,↓vcp,seval])|refine And.intro (fun h=>?_) (fun h=>?_)|refine aO ?_|(refine tA rfl rfl rfl rfl ?_;try simp only [n0,n1,vcd,↓vcp,seval])|refine aT ?_|fail
    exact RetK.pure (by simp only [rs12,rsb,vcd,↓vcp,seval]) (by (simp only [rs12,rsb,enb,vcd,↓vcp,seval])<;>(first|exact VLe.refl _))
  ·have n1:(de1 != 0)=true:=bne_iff_ne.2 h2
   rw [if_pos h2]
   refine ctr_pure Tryz.func12 ok12 rfl cc12 cr12 Tryz.ntmps12 (by simp) rfl rfl ?_;intro c hP hfn;simp only [kc12,vHi,cHi,vCh,cCh,slC,slH,dCh,slV,dVs,slB,vcd,↓vcp,seval]
   repeat' first|((first|refine tp hP (by first|exact cp|exact cd) ?_|refine tg hP (fun _=>by first|exact cp|exact cd) ?_|refine tv hP rfl (by first|exact cp|exact cd) ?_);try simp only [n0,n1,vcd,↓vcp,seval])|refine And.intro (fun h=>?_) (fun h=>?_)|refine aO ?_|(refine tA rfl rfl rfl rfl ?_;try simp only [n0,n1,vcd,↓vcp,seval])|refine aT ?_|fail
   exact RetK.pure (by simp only [rs12,rsb,vcd,↓vcp,seval]) (by (simp only [rs12,rsb,enb,vcd,↓vcp,seval])<;>(first|exact VLe.refl _))
 ·have n1:(xe != 0)=true:=bne_iff_ne.2 h1
  rw [if_pos h1]
  refine ctr_pure Tryz.func12 ok12 rfl cc12 cr12 Tryz.ntmps12 (by simp) rfl rfl ?_;intro c hP hfn;simp only [kc12,vHi,cHi,vCh,cCh,slC,slH,dCh,slV,dVs,slB,vcd,↓vcp,seval]
  repeat' first|((first|refine tp hP (by exact cp) ?_|refine tg hP (fun _=>by exact cp) ?_|refine tv hP rfl (by exact cp) ?_);try simp only [n1,vcd,↓vcp,seval])|refine And.intro (fun h=>?_) (fun h=>?_)|refine aO ?_|(refine tA rfl rfl rfl rfl ?_;try simp only [n1,vcd,↓vcp,seval])|refine aT ?_|fail
  exact RetK.pure (by simp only [rs12,rsb,vcd,↓vcp,seval]) (by (simp only [rs12,rsb,enb,vcd,↓vcp,seval])<;>(first|exact VLe.refl _))
end Go.Proofs.YtanppabbmffokaaGreat
end
section
namespace Go.Proofs.YtanppabbmffokaaGreat
open Go.Bx
set_option maxRecDepth 10000
theorem sCloneO (l:List Int) (hl:l.length≤1000000):Ctr Tryz.prog 72 [.d (slK .i64 l)] [] (.osl 900) [(900,rowZ l)] [900]:=by
 have hb:l.length*8≤140737488355328∧l.length≤maxLen:=⟨by omega,by simp only [maxLen];omega⟩
 refine ctr_own Tryz.func72 ok72 rfl cc72 cr72 Tryz.ntmps72 (by simp) rfl ?_
 intro c hP hfn
 simp only [kc72,slK,namesL,V.names,ownNames,vcd,↓vcp,seval]
 refine ⟨fun h=>?_,?_⟩
 ·have h0:l=[]:=List.eq_nil_of_length_eq_zero h
  subst h0
  exact RetK.mk _ (Wk.row0 (s:=2) (k:=900) (e:=3) (sz:=1) (f':=fun i=>[.int .i64 (([]:List Int).getD i 0)]) rfl rfl (by simp)) (by simp only [rs72,rsb,vcd,↓vcp,seval]) (by simp only [rs72,rsb,enb,vcd,↓vcp,seval]) (by simp only [rowZ,enb,vcd,↓vcp,seval])
 ·repeat' first|refine And.intro (fun h=>?_) (fun h=>?_)|refine aO ?_|(refine tA rfl rfl rfl rfl ?_;try simp only [vcd,↓vcp,seval])|refine aT ?_|fail
  refine RetK.mk _ (Wk.sw 7 900 _ hfn (by simp [namesL,V.names,ownNames]) (by simp [namesL,V.names,ownNames])) (by simp only [rs72,rsb,vcd,↓vcp,seval]) (by simp only [rs72,rsb,enb,vcd,↓vcp,seval]) ?_
  simp only [rowZ,enb,vcd,↓vcp,seval]
def dP (p:Int×Int):List D:=[.int .i64 p.1,.int .i64 p.2]
def slP (l:List (Int×Int)):D:=.sl false 2 l.length (fun i=>dP (l.getD i default))
def rowP (l:List (Int×Int)):Go.Bx.Own:=.row 23 2 l.length (fun i=>dP (l.getD i default))
def cutP (t:Int):Int→List Int→List (Int×Int)×Int
 |f,[]=>([],f)
 |f,d::r=>if d>f∧d<t then ((f,d)::(cutP t d r).1,(cutP t d r).2) else cutP t f r
def daysP (at':List Int):List Int:=cmpcI (sortI at')
def partsF (a b:Int) (at':List Int):List (Int×Int):=
 if keptR a b=(0,0) then [] else (cutP b a (daysP at')).1++[((cutP b a (daysP at')).2,b)]
theorem cutP_app (t:Int):∀ (l:List Int) (f:Int) (d:Int),cutP t f (l++[d])=if d>(cutP t f l).2∧d<t then ((cutP t f l).1++[((cutP t f l).2,d)],d) else cutP t f l
 |[],f,d=>by rw [List.nil_append,cutP,cutP,cutP];rfl
 |x::l,f,d=>by
  simp only [List.cons_append,cutP]
  split
  ·rw [cutP_app t l x d];split<;>simp
  ·exact cutP_app t l f d
theorem cutP_len (t:Int):∀ (l:List Int) (f:Int),(cutP t f l).1.length≤l.length
 |[],f=>by simp [cutP]
 |x::l,f=>by
  simp only [cutP]
  split
  ·have:=cutP_len t l x;simp;omega
  ·have:=cutP_len t l f;simp;omega
theorem vle_snocP {l:List (Int×Int)} {p:Int×Int} {F:Nat→List D} (h1:∀ i,i<l.length→F i=dP (l.getD i default)) (h2:F l.length=dP p):VLe (.d (.sl false 2 (l.length+1) F)) (.d (slP (l++[p]))):=
 VLe.sl (by simp) (fun _=>rfl) id fun i hi=>by
  by_cases h:i<l.length
  ·rw [h1 i h,List.getD_eq_getElem?_getD,List.getD_eq_getElem?_getD,List.getElem?_append_left h]
  ·have:i=l.length:=by omega
   subst this
   rw [h2];simp [List.getD_eq_getElem?_getD]
set_option maxHeartbeats 2000000 in
theorem sParts (a b:Int) (l:List Int) (hl:l.length≤100000):Ctr Tryz.prog 28 [vS a b,.d (slK .i64 l)] [] (.d (slP (partsF a b l))) [] []:=by
 have ck:=sKept a b
 simp only [vS] at ck
 have hsl:(sortI l).length=l.length:=by simp [sortI]
 have cl:=sCloneO l (by omega)
 have cs:=sSortI l (by omega)
 have cc:=(sCompactI (sortI l) (by omega)).sw 7 1001
 have hdl:(daysP l).length≤l.length:=by have:=cmpcI_len (sortI l);rw [daysP];omega
 simp only [slK,rowZ,vcd,↓vcp,seval] at cl cs cc
 by_cases h0:keptR a b=(0,0)
 ·have e:partsF a b l=[]:=by rw [partsF,if_pos h0]
  rw [e]
  rw [h0] at ck
  have d0:(((0:Int) == 0)&&((0:Int) == 0))=true:=rfl
  refine ctr_pure Tryz.func28 ok28 rfl cc28 cr28 Tryz.ntmps28 (by simp) rfl rfl ?_;intro c hP hfn;simp only [kc28,vS,slK,vcd,↓vcp,seval]
  repeat' first|((first|refine tp hP (by exact ck) ?_|refine tg hP (fun _=>by exact ck) ?_|refine tv hP rfl (by exact ck) ?_);try simp only [d0,vcd,↓vcp,seval])|refine And.intro (fun h=>?_) (fun h=>?_)|refine aO ?_|(refine tA rfl rfl rfl rfl ?_;try simp only [d0,vcd,↓vcp,seval])|refine aT ?_|fail
  exact RetK.pure (by simp only [rs28,rsb,vcd,↓vcp,seval]) (by (simp only [rs28,rsb,enb,vcd,↓vcp,seval])<;>(first|exact vle_nil))
 ·have hk:keptR a b=(a,b)∧(((a == 0)&&(b == 0))=false):=by
   rw [keptR] at h0 ⊢
   split
   ·rename_i h;rw [if_pos h] at h0;exact absurd rfl h0
   ·rename_i h
    rw [if_neg h] at h0
    refine ⟨rfl,?_⟩
    rw [Bool.and_eq_false_iff,beq_eq_false_iff_ne,beq_eq_false_iff_ne]
    by_cases ha:a=0
    ·right;rintro rfl;exact h0 (by rw [ha])
    ·exact .inl ha
  have e:partsF a b l=(cutP b a (daysP l)).1++[((cutP b a (daysP l)).2,b)]:=by rw [partsF,if_neg h0]
  obtain ⟨hk1,hk2⟩:=hk
  rw [hk1] at ck
  rw [e]
  simp only [daysP] at hdl ⊢
  generalize hD:cmpcI (sortI l)=D at *
  refine ctr_pure Tryz.func28 ok28 rfl cc28 cr28 Tryz.ntmps28 (by simp) rfl rfl ?_;intro c hP hfn;simp only [kc28,vS,slK,vcd,↓vcp,seval]
  repeat' first|((first|refine tp hP (by exact ck) ?_|refine tg hP (fun _=>by exact ck) ?_|refine tv hP rfl (by exact ck) ?_);try simp only [hk2,vcd,↓vcp,seval])|refine And.intro (fun h=>?_) (fun h=>?_)|refine aO ?_|(refine tA rfl rfl rfl rfl ?_;try simp only [hk2,vcd,↓vcp,seval])|refine aT ?_|fail
  refine TR.call [] [(900,rowZ l)] (.osl 900) [900] (by rw [hP];exact cl) (by repeat' first|exact trivial|(intro _;assumption)|apply And.intro) (fun k o h=>by simp at h) (by simp [keysO]) (by simp) ?_
  simp only [rowZ,vcd,↓vcp,seval]
  repeat' first|refine And.intro (fun h=>?_) (fun h=>?_)|refine aO ?_|(refine tA rfl rfl rfl rfl ?_;try simp only [vcd,↓vcp,seval])|refine aT ?_|fail
  refine TR.call [(900,rowZ l)] [(900,rowZ (sortI l))] (.tup []) [] (by rw [hP];exact cs) (by repeat' first|exact trivial|(intro _;assumption)|apply And.intro) (hin1 rfl) (by simp [keysO]) (by simp) ?_
  simp only [rowZ,vcd,↓vcp,seval]
  repeat' first|refine And.intro (fun h=>?_) (fun h=>?_)|refine aO ?_|(refine tA rfl rfl rfl rfl ?_;try simp only [vcd,↓vcp,seval])|refine aT ?_|fail
  refine TR.call [(900,rowZ (sortI l))] [(1001,rowZ D)] (.osl 1001) [1001] (by rw [hP];exact cc) (by repeat' first|exact trivial|(intro _;assumption)|apply And.intro) (hin1 rfl) (by simp [keysO]) (by simp) ?_
  simp only [rowZ,vcd,↓vcp,seval]
  repeat' first|refine And.intro (fun h=>?_) (fun h=>?_)|refine aO ?_|(refine tA rfl rfl rfl rfl ?_;try simp only [vcd,↓vcp,seval])|refine aT ?_|fail
  have hcu:=cutP_len b
  refine vcC.loop (X:=Nat) (fun k=>⟨[(6,.osl 1000),(2,.own 2 0),(19,.osl 1001),(20,.d (.int .i64 D.length)),(21,.d (.int .i64 k))],[(1000,rowP (cutP b a (D.take k)).1),(2,.fix [.d (.int .i64 (cutP b a (D.take k)).2),.d (.int .i64 b)]),(1001,rowZ D)],[1000,2,1001]⟩)
   (fun k=>k≤D.length) (fun k=>D.length-k) 0 (Nat.zero_le _) ?_ ?_
  ·refine (Wk.row0 (s:=6) (k:=1000) (e:=23) (sz:=2) (f':=fun _=>[]) rfl rfl (by simp)).trans (Wk.of _ hfn rfl ?_ ?_)
   ·simp only [enb,vcd,↓vcp,seval]
   ·simp only [rowP,rowZ,List.take_zero,cutP,enb,vcd,↓vcp,seval];exact OLe.row rfl (fun i hi=>absurd hi (Nat.not_lt_zero i))
  intro k hkk
  by_cases hlt:k<D.length
  ·obtain ⟨d,-,hg,-,hat⟩:=drop_at hlt
   have hg:=hg 0
   have d0:decide ((k:Int)<(D.length:Int))=true:=decide_eq_true (by omega)
   have w1:IntKind.i64.wrap ((k:Int)+1)=((k+1:Nat):Int):=wS (by omega)
   have b1:(0:Int)≤(k:Int)∧(k:Int)<(D.length:Int):=by omega
   have ht:D.take (k+1)=D.take k++[d]:=by rw [List.take_add_one,hat];rfl
   have hca:=cutP_app b (D.take k) a d
   have hcl:=hcu (D.take k) a
   have htl:(D.take k).length≤100000:=by rw [List.length_take];omega
   rw [←ht] at hca
   generalize cutP b a (D.take k)=C at *
   obtain ⟨C,f⟩:=C
   simp only at hca hcl ⊢
   by_cases hc:d>f∧d<b
   ·rw [if_pos hc] at hca
    have c1:decide (d>f)=true:=decide_eq_true hc.1
    have c2:decide (d<b)=true:=decide_eq_true hc.2
    simp only [rowP,rowZ,d0,hg,c1,c2,hca,vcd,↓vcp,seval]
    repeat' first|refine And.intro (fun h=>?_) (fun h=>?_)|refine aO ?_|(refine tA rfl rfl rfl rfl ?_;try simp only [d0,hg,c1,c2,w1,vcd,↓vcp,seval])|refine aT ?_|fail
    refine lopK.on (k+1) (by omega) (by omega) ((Wk.sw 41 1000 _ hfn (by simp) (by simp)).trans (Wk.of _ hfn rfl (by simp only [w1,enb,vcd,↓vcp,seval]) ?_))
    simp only [rowP,rowZ,hca,enb,vcd,↓vcp,seval]
    exact OLe.app1 dP (fun i hi=>by simp [hi]) (by simp [litRow,dP])
   ·rw [if_neg hc] at hca
    have c1:(decide (d>f)&&decide (d<b))=false:=by rw [Bool.and_eq_false_iff,decide_eq_false_iff_not,decide_eq_false_iff_not];omega
    simp only [rowP,rowZ,d0,hg,c1,hca,vcd,↓vcp,seval]
    repeat' first|refine And.intro (fun h=>?_) (fun h=>?_)|refine aO ?_|(refine tA rfl rfl rfl rfl ?_;try simp only [d0,hg,c1,w1,vcd,↓vcp,seval])|refine aT ?_|fail
    refine lopK.on (k+1) (by omega) (by omega) (Wk.of _ hfn rfl (by simp only [w1,enb,vcd,↓vcp,seval]) ?_)
    simp only [rowP,rowZ,hca,enb,vcd,↓vcp,seval]
  ·have d0:decide ((k:Int)<(D.length:Int))=false:=decide_eq_false (by omega)
   obtain rfl:k=D.length:=by omega
   have hcl:=hcu D a
   simp only [rowP,rowZ,d0,List.take_length,vcd,↓vcp,seval]
   generalize cutP b a D=C at *
   repeat' first|refine And.intro (fun h=>?_) (fun h=>?_)|refine aO ?_|(refine tA rfl rfl rfl rfl ?_;try simp only [d0,vcd,↓vcp,seval])|refine aT ?_|fail
   refine RetK.mk _ (Wk.pub 48 rfl) (by simp only [rs28,rsb,vcd,↓vcp,seval]) ?_ trivial
   simp only [rs28,rsb,vcd,↓vcp,seval]
   exact vle_snocP (fun i hi=>by rw [if_pos hi]) (by simp [dP])
end Go.Proofs.YtanppabbmffokaaGreat
end
section
namespace Go.Proofs.YtanppabbmffokaaGreat
open Go.Bx
theorem yrAt_nn {l:List Sl} {e:Int} (h:Run e l) (d:Int):0≤yrAt l d:=by
 induction h with
 |nil=>exact Int.le_refl _
 |cons h _ ih =>
  rw [yrAt_cons]
  have:=fullSl_iff.1 h
  split
  ·exact this.2.2.2.1
  ·exact ih
theorem even_near (S:Nat) (h:S≤4000000000000000000):∃ E:Nat,ofR upE (S:Int) 1 365=((E:Int),0)∧2*(365*E)≤2*S+365∧2*S≤2*(365*E)+365:=by
 have e:=ofR_nat (up:=upE) S 1 365 (by decide)
 have e:ofR upE (S:Int) 1 365=_:=e
 rw [Nat.mul_one] at e
 rw [e,if_neg (by omega)]
 have hd:=Nat.div_add_mod S 365
 have hr:=Nat.mod_lt S (show 0<365 by decide)
 generalize S / 365=q at *
 generalize S % 365=r at *
 cases hu:upE q r 365 with
 |true =>
  rw [if_pos rfl,if_neg (by omega)]
  simp only [upE,Bool.or_eq_true,Bool.and_eq_true,decide_eq_true_eq] at hu
  exact ⟨q+1,rfl,by omega,by omega⟩
 |false =>
  simp only [Bool.false_eq_true,if_false,Nat.add_zero]
  rw [if_neg (by omega)]
  simp only [upE,Bool.or_eq_false_iff,Bool.and_eq_false_iff,decide_eq_false_iff_not] at hu
  exact ⟨q,rfl,by omega,by omega⟩
structure Good (P:List (Int×Int)):Prop where
 st:stG 0 0 P=true
 nn:∀ d,1≤d→d≤292194→0≤valS P d
theorem Good.of {l:List Sl} {P:List (Int×Int)} (h:curS l=some P):Good P:=by
 obtain ⟨h1,-,h3,h4⟩:=curS_ok h
 exact ⟨h3,fun d h5 h6=>by rw [h4 d h5 h6];exact yrAt_nn h1 d⟩
def upS (P:List (Int×Int)) (d:Int):Int:=dSum (valS P) 1 (d-1).toNat
theorem Good.sum {P:List (Int×Int)} (g:Good P) {a b:Int} (ha:1≤a) (hab:a<b) (hb:b≤292195):sumS P a b=if dSum (valS P) a (b-a).toNat>4000000000000000000 then (0,5) else (dSum (valS P) a (b-a).toNat,0):=by
 have hf:fullB a b=true:=by simp only [fullB,Bool.and_eq_true,decide_eq_true_eq];omega
 rw [sumS_eq,g.st,hf]
 have e:dSum (fun d=>max (valS P d) (-(valS P d))) a (b-a).toNat=dSum (valS P) a (b-a).toNat:=dSum_congr _ _ fun d h1 h2=>by
  have:=g.nn d (by omega) (by omega)
  omega
 rw [e];rfl
theorem upS_add {P:List (Int×Int)} {a b:Int} (ha:1≤a) (hab:a≤b):upS P b=upS P a+dSum (valS P) a (b-a).toNat:=by
 have:=dSum_add (valS P) (a-1).toNat (b-a).toNat 1
 rw [upS,upS,show (b-1).toNat=(a-1).toNat+(b-a).toNat by omega,this]
 congr 2;omega
theorem Good.mono {P:List (Int×Int)} (g:Good P) {a b:Int} (ha:1≤a) (hab:a≤b) (hb:b≤292195):0≤upS P a∧upS P a≤upS P b∧dSum (valS P) a (b-a).toNat=upS P b-upS P a:=by
 have h1:=upS_add (P:=P) ha hab
 have h2:=dSum_nonneg (g:=valS P) (b-a).toNat a fun d h3 h4=>g.nn d (by omega) (by omega)
 have h3:0≤upS P a:=dSum_nonneg (g:=valS P) (a-1).toNat 1 fun d h3 h4=>g.nn d (by omega) (by omega)
 exact ⟨h3,by omega,by omega⟩
theorem Good.upto {P:List (Int×Int)} (g:Good P) (ht:upS P 292195≤4000000000000000000) (d:Int):∃ E:Int,uptoR P d=(E,0)∧0≤E∧2*(365*E)≤2*upS P (toD d)+365∧2*upS P (toD d)≤2*(365*E)+365:=by
 have hT:1≤toD d∧toD d≤292195:=by simp only [toD];omega
 obtain ⟨m1,m2,m3⟩:=g.mono hT.1 hT.2 (Int.le_refl _)
 by_cases h1:toD d=1
 ·refine ⟨0,by rw [uptoR,if_pos h1],Int.le_refl _,by omega,?_⟩
  rw [h1];simp [upS,dSum]
 ·have hs:=g.sum (a:=1) (b:=toD d) (by omega) (by omega) hT.2
  have hu:dSum (valS P) 1 (toD d-1).toNat=upS P (toD d):=rfl
  rw [hu,if_neg (by omega)] at hs
  obtain ⟨S,hS⟩:∃ S:Nat,upS P (toD d)=(S:Int):=⟨(upS P (toD d)).toNat,by omega⟩
  obtain ⟨E,e1,e2,e3⟩:=even_near S (by omega)
  refine ⟨E,?_,by omega,by omega,by omega⟩
  rw [uptoR,if_neg h1,hs]
  simp only [ne_eq,not_true_eq_false,if_false]
  rw [hS,e1]
end Go.Proofs.YtanppabbmffokaaGreat
end
section
namespace Go.Proofs.YtanppabbmffokaaGreat
open Go.Bx
def InB (a b:Int) (s:Sl):Prop:=a≤s.sf∧s.st≤b
theorem endO_in {a b:Int} {now:Sl} {out:List Sl} {d:Int} (h1:a≤now.sf) (hd:d≤b) (h2:∀ s,s∈out→InB a b s):∀ s,s∈endO now out d→InB a b s:=by
 unfold endO
 split
 ·exact h2
 ·split
  ·rename_i hb
   simp only [endB,Bool.and_eq_true,decide_eq_true_eq] at hb
   intro s hs
   rcases List.mem_or_eq_of_mem_set hs with h|h
   ·exact h2 s h
   ·obtain ⟨x,-,hg,hm,-⟩:=drop_at (l:=out) (k:=out.length-1) (by omega)
    rw [h,hg];exact ⟨(h2 x hm).1,hd⟩
  ·intro s hs
   rcases List.mem_append.1 hs with h|h
   ·exact h2 s h
   ·rw [List.mem_singleton.1 h];exact ⟨h1,hd⟩
theorem doesS_sf (s:Sl) (c:Ch):(doesS s c).sf=s.sf:=by
 unfold doesS
 repeat' split
 all_goals rfl
theorem cutK_in {h:Hi} {a b:Int} (h0:a≤h.tm.sf) (hc:∀ c,c∈h.ch→a≤c.dy∧c.dy≤b):∀ k,a≤(cutK h k).1.sf∧∀ s,s∈(cutK h k).2→InB a b s
 |0=>⟨h0,fun s hs=>by simp [cutK,cut0] at hs⟩
 |k+1=>by
  have ih:=cutK_in h0 hc k
  by_cases hk:k<(orderC h.ch).length
  ·obtain ⟨x,hd,hg,hm,he⟩:=drop_at hk
   have hi:=orderC_ok _ x hm
   obtain ⟨c,-,hgc,hmc,-⟩:=drop_at (l:=h.ch) (k:=x.toNat) (by have:=hi.1;have:=hi.2;omega)
   have:cutK h (k+1)=stepCut h.ch (cutK h k) x:=by rw [cutK,List.take_add_one,he,List.foldl_append];rfl
   rw [this]
   simp only [stepCut,doesS_sf,hgc]
   exact ⟨(hc c hmc).1,endO_in ih.1 (hc c hmc).2 ih.2⟩
  ·have:cutK h (k+1)=cutK h k:=by rw [cutK,cutK,List.take_of_length_le (by omega),List.take_of_length_le (by omega)]
   rw [this]
   exact ih
theorem cutS_in {h:Hi} (hr:rightHi h=true):∀ s,s∈cutS h→InB h.tm.sf h.tm.st s:=by
 have hc:∀ c,c∈h.ch→h.tm.sf≤c.dy∧c.dy≤h.tm.st:=fun c hc=>by
  simp only [rightHi,Bool.and_eq_true,List.all_eq_true] at hr
  have h1:=(hr.1 c hc).2
  simp only [inT,Bool.and_eq_true,decide_eq_true_eq,keptR] at h1
  have h2:=hr.2.1
  simp only [rightTm,Bool.and_eq_true] at h2
  have h3:=okS_iff.1 h2.1.1.1
  split at h1
  ·simp at h1;omega
  ·simp at h1;omega
 obtain ⟨h1,h2⟩:=cutK_in (Int.le_refl _) hc h.ch.length
 exact endO_in h1 (Int.le_refl _) h2
theorem ofS_in {h:Hi} {t:List Vs} (e:(ofS h t).2=0):∀ s,s∈(ofS h t).1→InB h.tm.sf h.tm.st s:=by
 revert e
 rw [ofS]
 by_cases hr:rightHi h=false
 ·rw [if_pos hr];simp
 ·rw [if_neg hr]
  have hin:=cutS_in (by simpa using hr)
  cases atV t h.tm.sf with
  |none=>simp
  |some v =>
   simp only
   split
   ·intro _ s hs
    obtain ⟨s',h4,rfl⟩:=List.mem_map.1 hs
    have:=hin s' h4
    rw [mapP];split<;>exact this
   ·rename_i h5;intro h6;exact absurd h6 h5
end Go.Proofs.YtanppabbmffokaaGreat
end
section
namespace Go.Proofs.YtanppabbmffokaaGreat
open Go.Bx
theorem yrAt_out {a b d:Int} {l:List Sl} (h:∀ s,s∈l→InB a b s) (hd:d<a∨b≤d):yrAt l d=0:=by
 induction l with
 |nil=>rfl
 |cons s l ih =>
  have hs:=h s (by simp)
  simp only [InB] at hs
  rw [yrAt_cons,if_neg (by omega)]
  exact ih fun s hs=>h s (by simp [hs])
theorem total_le {P:List (Int×Int)} (g:Good P) (h:(uptoR P 292195).2=0):upS P 292195≤4000000000000000000:=by
 have e:toD 292195=292195:=by decide
 rw [uptoR,e,if_neg (by omega),g.sum (by omega) (by omega) (by omega)] at h
 have hu:dSum (valS P) 1 (292195-1:Int).toNat=upS P 292195:=rfl
 rw [hu] at h
 by_cases hc:upS P 292195>4000000000000000000
 ·rw [if_pos hc] at h;simp at h
 ·omega
theorem ends {a b:Int} {l:List Sl} {P:List (Int×Int)} (h:curS l=some P) (hin:∀ s,s∈l→InB a b s) (h1:1≤a) (h2:a<b) (h3:b≤292195):upS P a=0∧upS P b=upS P 292195:=by
 obtain ⟨-,-,-,h4⟩:=curS_ok h
 have z:∀ d,1≤d→d≤292194→(d<a∨b≤d)→valS P d=0:=fun d g1 g2 g3=>by rw [h4 d g1 g2,yrAt_out hin g3]
 refine ⟨?_,?_⟩
 ·rw [upS,dSum_const (v:=0) _ _ fun d g1 g2=>z d g1 (by omega) (by omega)];simp
 ·rw [upS_add (a:=b) (b:=292195) (by omega) h3,dSum_const (v:=0) _ _ fun d g1 g2=>z d (by omega) (by omega) (by omega)];simp
theorem part_ok {l:List Sl} {P:List (Int×Int)} (h:curS l=some P) (ht:upS P 292195≤4000000000000000000) {x y:Int} (h1:1≤x) (h2:x<y) (h3:y≤292195) :
  ∃ n cost,betF l x y=(n,0)∧sumS P x y=(cost,0)∧0≤n∧365*n-cost≤365∧cost-365*n≤365∧n=(uptoR P y).1-(uptoR P x).1∧(uptoR P y).1≤4000000000000000000∧0≤(uptoR P x).1∧0≤cost∧cost≤4000000000000000000:=by
 have g:=Good.of h
 obtain ⟨E1,a1,a2,a3,a4⟩:=g.upto ht x
 obtain ⟨E2,b1,b2,b3,b4⟩:=g.upto ht y
 have tx:toD x=x:=by simp only [toD];omega
 have ty:toD y=y:=by simp only [toD];omega
 rw [tx] at a3 a4
 rw [ty] at b3 b4
 obtain ⟨m1,m2,m3⟩:=g.mono h1 (by omega:x≤y) h3
 obtain ⟨m4,m5,m6⟩:=g.mono (by omega:1≤y) h3 (Int.le_refl _)
 have hs:=g.sum h1 h2 h3
 rw [m3,if_neg (by omega)] at hs
 have ok:okS x y=true:=okS_iff.2 ⟨h1,by omega,h3⟩
 refine ⟨E2-E1,_,?_,hs,by omega,by omega,by omega,by rw [a1,b1],by rw [b1];simp only;omega,by rw [a1];exact a2,by omega,by omega⟩
 have w:IntKind.i64.wrap (E2-E1)=E2-E1:=wI (by omega)
 rw [betF,h]
 simp only [ok,a1,b1,ne_eq,not_true_eq_false,if_false,w]
 rfl
end Go.Proofs.YtanppabbmffokaaGreat
end
section
namespace Go.Proofs.YtanppabbmffokaaGreat
open Go.Bx
inductive Chain:Int→Int→List (Int×Int)→Prop
 |nil (a:Int):Chain a a []
 |cons {a b c:Int} {l:List (Int×Int)} (h:a<b) (hl:Chain b c l):Chain a c ((a,b)::l)
theorem Chain.le {a b:Int} {l:List (Int×Int)} (h:Chain a b l):a≤b:=by
 induction h with
 |nil=>exact Int.le_refl _
 |cons h _ ih=>omega
theorem Chain.snoc {a b c:Int} {l:List (Int×Int)} (h:Chain a b l) (hc:b<c):Chain a c (l++[(b,c)]):=by
 induction h with
 |nil=>exact .cons hc (.nil _)
 |cons h _ ih=>exact .cons h (ih hc)
theorem cutP_chain (t:Int):∀ (l:List Int) (f:Int),f<t→Chain f (cutP t f l).2 (cutP t f l).1∧(cutP t f l).2<t
 |[],f,h=>⟨.nil f,h⟩
 |d::r,f,h=>by
  rw [cutP]
  split
  ·rename_i hc
   have:=cutP_chain t r d hc.2
   exact ⟨.cons hc.1 this.1,this.2⟩
  ·exact cutP_chain t r f h
theorem parts_chain {a b:Int} {l:List Int} (h1:1≤a) (h2:a<b) (h3:b≤292195):Chain a b (partsF a b l):=by
 have hk:keptR a b=(a,b):=by
  rw [keptR,if_neg]
  have:okS a b=true:=okS_iff.2 ⟨h1,by omega,h3⟩
  rw [this]
  simp;omega
 rw [partsF,hk,if_neg (by simp;omega)]
 have:=cutP_chain b (daysP l) a h2
 exact this.1.snoc this.2
theorem chain_sum {u:Int→Int} {a b:Int} {l:List (Int×Int)} (h:Chain a b l):(l.map fun p=>u p.2-u p.1).sum=u b-u a:=by
 induction h with
 |nil=>simp
 |cons h _ ih=>rw [List.map_cons,List.sum_cons,ih];simp only;omega
theorem Chain.at {a b:Int} {l:List (Int×Int)} (h:Chain a b l):∀ p,p∈l→a≤p.1∧p.1<p.2∧p.2≤b:=by
 induction h with
 |nil=>intro p hp;simp at hp
 |cons h hl ih =>
  intro p hp
  have:=hl.le
  rcases List.mem_cons.1 hp with rfl|hp
  ·exact ⟨Int.le_refl _,h,this⟩
  ·have:=ih p hp;omega
end Go.Proofs.YtanppabbmffokaaGreat
end
section
namespace Go.Proofs.YtanppabbmffokaaGreat
open Go.Bx
theorem uptoR_eq {P:List (Int×Int)} (g:Good P) (ht:upS P 292195≤4000000000000000000) (d:Int):uptoR P d=ofR upE (upS P (toD d)) 1 365:=by
 have hT:1≤toD d∧toD d≤292195:=by simp only [toD];omega
 obtain ⟨m1,m2,m3⟩:=g.mono hT.1 hT.2 (Int.le_refl _)
 by_cases h1:toD d=1
 ·rw [uptoR,if_pos h1,h1]
  have:upS P 1=0:=by simp [upS,dSum]
  rw [this];rfl
 ·have hs:=g.sum (a:=1) (b:=toD d) (by omega) (by omega) hT.2
  have hu:dSum (valS P) 1 (toD d-1).toNat=upS P (toD d):=rfl
  rw [hu,if_neg (by omega)] at hs
  rw [uptoR,if_neg h1,hs]
  simp only [ne_eq,not_true_eq_false,if_false]
def earnL (P:List (Int×Int)) (l:List (Int×Int)):Int:=(l.map fun p=>(uptoR P p.2).1-(uptoR P p.1).1).sum
theorem Chain.take {a b:Int} {l:List (Int×Int)} (h:Chain a b l):∀ k,∃ c,Chain a c (l.take k)∧a≤c∧c≤b:=by
 induction h with
 |nil a=>intro k;exact ⟨a,by rw [List.take_nil];exact .nil a,Int.le_refl _,Int.le_refl _⟩
 |cons h hl ih =>
  intro k
  have:=hl.le
  cases k with
  |zero=>exact ⟨_,.nil _,Int.le_refl _,by omega⟩
  |succ k =>
   obtain ⟨c,h1,h2,h3⟩:=ih k
   exact ⟨c,.cons h h1,by omega,h3⟩
theorem earn_all {l:List Sl} {P:List (Int×Int)} (h:curS l=some P) (ht:upS P 292195≤4000000000000000000) {a b:Int} (hin:∀ s,s∈l→InB a b s) (h1:1≤a) (h2:a<b) (h3:b≤292195) {q:List (Int×Int)} (hq:Chain a b q) :
  earnL P q=(uptoR P 292195).1∧∀ k,0≤earnL P (q.take k)∧earnL P (q.take k)≤4000000000000000000:=by
 have g:=Good.of h
 obtain ⟨e1,e2⟩:=ends h hin h1 h2 h3
 have ta:toD a=a:=by simp only [toD];omega
 have tb:toD b=b:=by simp only [toD];omega
 have tc:toD 292195=292195:=by decide
 have ua:(uptoR P a).1=0:=by rw [uptoR_eq g ht,ta,e1];rfl
 have ub:(uptoR P b).1=(uptoR P 292195).1:=by rw [uptoR_eq g ht b,uptoR_eq g ht 292195,tb,tc,e2]
 refine ⟨?_,fun k=>?_⟩
 ·have:=chain_sum (u:=fun d=>(uptoR P d).1) hq
  rw [earnL,this];omega
 ·obtain ⟨c,hc,-,-⟩:=hq.take k
  have:=chain_sum (u:=fun d=>(uptoR P d).1) hc
  obtain ⟨E,f1,f2,f3,-⟩:=g.upto ht c
  obtain ⟨m1,m2,m3⟩:=g.mono (a:=toD c) (b:=292195) (by simp only [toD];omega) (by simp only [toD];omega) (Int.le_refl _)
  rw [earnL,this]
  simp only [ua,f1]
  omega
theorem earn_succ (P:List (Int×Int)) {q:List (Int×Int)} {k:Nat} {p:Int×Int} (h:q[k]?=some p):earnL P (q.take (k+1))=earnL P (q.take k)+((uptoR P p.2).1-(uptoR P p.1).1):=by
 rw [earnL,List.take_add_one,h,List.map_append,List.sum_append]
 simp [earnL]
theorem partsF_len (a b:Int) (l:List Int):(partsF a b l).length≤l.length+1:=by
 rw [partsF]
 split
 ·simp
 ·have h1:=cutP_len b (daysP l) a
  have h2:=cmpcI_len (sortI l)
  have h3:(sortI l).length=l.length:=by simp [sortI]
  rw [List.length_append]
  simp only [daysP,List.length_cons,List.length_nil] at *
  omega
end Go.Proofs.YtanppabbmffokaaGreat
end
section
namespace Go.Proofs.YtanppabbmffokaaGreat
open Go.Bx
set_option maxRecDepth 10000
def slAt (l:List Sl) (d:Int):Option Sl:=l.find? fun s=>decide (d≥(keptR s.sf s.st).1)&&decide (d<(keptR s.sf s.st).2)
theorem slAt_cons (x:Sl) (l:List Sl) (d:Int):slAt (x::l) d=if (decide (d≥(keptR x.sf x.st).1)&&decide (d<(keptR x.sf x.st).2))=true then some x else slAt l d:=by
 rw [slAt,List.find?_cons];split<;>rename_i h<;>simp only [h]<;>rfl
structure Cl where
 id:Int
 po:Int
 pe:Int
 lo:Int
 bk:Int
 ev:Int
instance:Inhabited Cl:=⟨⟨0,0,0,0,0,0⟩⟩
end Go.Proofs.YtanppabbmffokaaGreat
end
section
namespace Go.Proofs.YtanppabbmffokaaGreat
open Go.Bx
def Cov:Int→List Sl→Int→Prop
 |a,[],b=>a=b
 |a,s::r,b=>s.sf=a∧s.sf<s.st∧Cov s.st r b∧∀ x,r.head?=some x→holdsS s x=false
theorem Cov.le {b:Int}:∀ {l:List Sl} {a:Int},Cov a l b→a≤b
 |[],a,h=>by have h:a=b:=h;omega
 |s::r,a,h=>by have:=Cov.le h.2.2.1;have:=h.1;have:=h.2.1;omega
theorem Cov.snoc {b:Int} {s:Sl} (h2:s.sf=b) (h3:b<s.st):∀ {l:List Sl} {a:Int},Cov a l b→(∀ x,l.getLast?=some x→holdsS x s=false)→Cov a (l++[s]) s.st
 |[],a,h,hn=>by
  have h:a=b:=h
  exact ⟨by omega,by omega,rfl,fun x hx=>by simp at hx⟩
 |y::r,a,h,hn=>by
  obtain ⟨g1,g2,g3,g4⟩:=h
  refine ⟨g1,g2,Cov.snoc h2 h3 g3 (fun x hx=>hn x ?_),fun x hx=>?_⟩
  ·cases r with
   |nil=>simp at hx
   |cons z r=>rw [List.getLast?_cons_cons];exact hx
  ·cases r with
   |nil=>simp at hx;subst hx;exact hn y (by simp)
   |cons z r=>exact g4 x (by simpa using hx)
theorem Cov.ext {s:Sl} {d b:Int} (hd:s.sf<d):∀ {l:List Sl} {a:Int},Cov a (l++[s]) b→Cov a (l++[{ s with st:=d }]) d
 |[],a,h=>⟨h.1,hd,rfl,fun x hx=>by simp at hx⟩
 |y::r,a,h=>by
  obtain ⟨g1,g2,g3,g4⟩:=h
  refine ⟨g1,g2,Cov.ext hd g3,fun x hx=>?_⟩
  cases r with
  |nil=>simp at hx;subst hx;exact g4 s (by simp)
  |cons z r=>exact g4 x (by simpa using hx)
theorem Cov.last {s:Sl} {b:Int}:∀ {l:List Sl} {a:Int},Cov a (l++[s]) b→s.sf<s.st∧s.st=b
 |[],a,h=>⟨h.2.1,h.2.2.1⟩
 |y::r,a,h=>Cov.last (l:=r) h.2.2.1
theorem endO_cov {a:Int} {now:Sl} {out:List Sl} {d:Int} (h:Cov a out now.sf) (hd:now.sf≤d):Cov a (endO now out d) d:=by
 unfold endO
 split
 ·rename_i e;rw [←e];exact h
 ·rename_i e
  split
  ·rename_i hb
   simp only [endB,Bool.and_eq_true,decide_eq_true_eq] at hb
   obtain ⟨l,s,rfl⟩:∃ l s,out=l++[s]:=⟨out.dropLast,out.getLast (fun h=>by rw [h] at hb;simp at hb),(List.dropLast_concat_getLast _).symm⟩
   have e1:(l++[s]).length-1=l.length:=by simp
   have:=h.last
   rw [e1,getD_mid,set_mid]
   exact h.ext (by omega)
  ·rename_i hb
   refine Cov.snoc (s:={ now with st:=d }) rfl (by simp only;omega) h fun x hx=>?_
   obtain ⟨l,rfl⟩:=List.getLast?_eq_some_iff.1 hx
   have e1:(l++[x]).length-1=l.length:=by simp
   rw [endB,e1,getD_mid,Bool.and_eq_true] at hb
   cases hh:holdsS x { now with st:=d } with
   |false=>rfl
   |true=>exact absurd ⟨decide_eq_true (by simp),hh⟩ hb
theorem fold_cov {ch:List Ch} {a:Int}:∀ (L:List Int) (x:Sl×List Sl),Cov a x.2 x.1.sf→(∀ i,i∈L→x.1.sf≤dayC ch i)→L.Pairwise (fun i j=>dayC ch i≤dayC ch j) →
  Cov a (L.foldl (stepCut ch) x).2 (L.foldl (stepCut ch) x).1.sf∧((L.foldl (stepCut ch) x).1.sf=x.1.sf∨∃ i,i∈L∧(L.foldl (stepCut ch) x).1.sf=dayC ch i)
 |[],x,h,_,_=>⟨h,.inl rfl⟩
 |i::L,x,h,hd,hp=>by
  have e:(stepCut ch x i).1.sf=dayC ch i:=by simp only [stepCut,doesS_sf,dayC]
  obtain ⟨p1,p2⟩:=List.pairwise_cons.1 hp
  have:=fold_cov L (stepCut ch x i) (by rw [e];exact endO_cov h (hd i (by simp))) (fun j hj=>by rw [e];exact p1 j hj) p2
  rw [List.foldl_cons]
  refine ⟨this.1,.inr ?_⟩
  rcases this.2 with h2|⟨j,h2,h3⟩
  ·exact ⟨i,by simp,by rw [h2,e]⟩
  ·exact ⟨j,by simp [h2],h3⟩
theorem right_days {h:Hi} (hr:rightHi h=true):1≤h.tm.sf∧h.tm.sf<h.tm.st∧h.tm.st≤292195∧∀ c,c∈h.ch→h.tm.sf≤c.dy∧c.dy≤h.tm.st:=by
 simp only [rightHi,Bool.and_eq_true,List.all_eq_true] at hr
 have h2:=hr.2.1
 simp only [rightTm,Bool.and_eq_true,decide_eq_true_eq] at h2
 have h3:=okS_iff.1 h2.1.1.1
 have h4:=h2.1.1.2.1
 have hlt:h.tm.sf<h.tm.st:=by
  rcases Int.lt_or_le h.tm.sf h.tm.st with h5|h5
  ·exact h5
  ·have h6:h.tm.sf=h.tm.st:=by omega
   rw [manyR,keptR,if_pos (by simp [h6])] at h4
   exact absurd h4 (by decide)
 refine ⟨h3.1,hlt,h3.2.2,fun c hc=>?_⟩
 have h1:=(hr.1 c hc).2
 simp only [inT,Bool.and_eq_true,decide_eq_true_eq,keptR] at h1
 split at h1
 ·simp at h1;omega
 ·simp at h1;omega
theorem orderC_sorted (ch:List Ch):(orderC ch).Pairwise (fun i j=>dayC ch i≤dayC ch j):=by
 have:=srt_sorted (lt:=ltO (cfC ch)) (swoC ch) (intsN ch.length) [] List.Pairwise.nil
 refine List.Pairwise.imp ?_ this
 intro a b h
 rw [ltC] at h
 simpa using h
theorem cutS_cov {h:Hi} (hr:rightHi h=true):Cov h.tm.sf (cutS h) h.tm.st:=by
 obtain ⟨-,h2,-,hc⟩:=right_days hr
 have hd:∀ i,i∈orderC h.ch→h.tm.sf≤dayC h.ch i∧dayC h.ch i≤h.tm.st:=fun i hi=>by
  have ho:=orderC_ok _ i hi
  obtain ⟨c,-,hg,hm,-⟩:=drop_at (l:=h.ch) (k:=i.toNat) (by have:=ho.1;have:=ho.2;omega)
  rw [dayC,hg];exact hc c hm
 have e:(orderC h.ch).take h.ch.length=orderC h.ch:=List.take_of_length_le (by rw [orderC_len];omega)
 obtain ⟨g1,g2⟩:=fold_cov (orderC h.ch) (cut0 h) (rfl:h.tm.sf=h.tm.sf) (fun i hi=>(hd i hi).1) (orderC_sorted h.ch)
 rw [cutS,cutK,e]
 refine endO_cov g1 ?_
 rcases g2 with h3|⟨i,hi,h3⟩
 ·rw [h3];exact Int.le_of_lt h2
 ·rw [h3];exact (hd i hi).2
theorem Cov.map {f:Sl→Sl} (h1:∀ s,(f s).sf=s.sf∧(f s).st=s.st) (h2:∀ s x,holdsS (f s) (f x)=holdsS s x) {b:Int}:∀ {l:List Sl} {a:Int},Cov a l b→Cov a (l.map f) b
 |[],a,h=>h
 |s::r,a,h=>by
  obtain ⟨g1,g2,g3,g4⟩:=h
  rw [List.map_cons]
  refine ⟨by rw [(h1 s).1];exact g1,by rw [(h1 s).1,(h1 s).2];exact g2,by rw [(h1 s).2];exact Cov.map h1 h2 g3,fun x hx=>?_⟩
  rw [List.head?_map] at hx
  cases hr:r.head? with
  |none=>rw [hr] at hx;simp at hx
  |some y=>rw [hr] at hx;simp at hx;subst hx;rw [h2];exact g4 y hr
theorem endO_yr {now:Sl} {out:List Sl} {d:Int} (h1:now.yr=0) (h2:∀ s,s∈out→s.yr=0):∀ s,s∈endO now out d→s.yr=0:=by
 unfold endO
 split
 ·exact h2
 ·split
  ·rename_i hb
   simp only [endB,Bool.and_eq_true,decide_eq_true_eq] at hb
   intro s hs
   rcases List.mem_or_eq_of_mem_set hs with h|h
   ·exact h2 s h
   ·obtain ⟨x,-,hg,hm,-⟩:=drop_at (l:=out) (k:=out.length-1) (by omega)
    rw [h,hg];exact h2 x hm
  ·intro s hs
   rcases List.mem_append.1 hs with h|h
   ·exact h2 s h
   ·rw [List.mem_singleton.1 h];exact h1
theorem doesS_yr (s:Sl) (c:Ch):(doesS s c).yr=s.yr:=by
 unfold doesS
 repeat' split
 all_goals rfl
theorem fold_yr {ch:List Ch}:∀ (L:List Int) (x:Sl×List Sl),x.1.yr=0→(∀ s,s∈x.2→s.yr=0)→(L.foldl (stepCut ch) x).1.yr=0∧∀ s,s∈(L.foldl (stepCut ch) x).2→s.yr=0
 |[],x,h1,h2=>⟨h1,h2⟩
 |i::L,x,h1,h2=>by
  rw [List.foldl_cons]
  exact fold_yr L (stepCut ch x i) (by simp only [stepCut,doesS_yr];exact h1) (endO_yr h1 h2)
theorem cutS_yr (h:Hi):∀ s,s∈cutS h→s.yr=0:=by
 obtain ⟨h1,h2⟩:=fold_yr (ch:=h.ch) ((orderC h.ch).take h.ch.length) (cut0 h) rfl (fun s hs=>by simp [cut0] at hs)
 exact endO_yr h1 h2
theorem yearR_bd (v:Vs) (r:Rk) (l:List Cv):0≤(yearR v r l).1∧(yearR v r l).1≤4000000000000000000:=by
 have:=sumQ_nonneg (l:=msQ v r l) fun x hx=>(msQ_pos v r l x hx).1
 unfold yearR
 split
 ·simp
 ·split
  ·simp
  ·constructor<;>simp only<;>omega
structure CovO (h:Hi) (l:List Sl):Prop where
 cov:Cov h.tm.sf l h.tm.st
 lo:1≤h.tm.sf
 lt:h.tm.sf<h.tm.st
 hi:h.tm.st≤292195
 yr:∀ s,s∈l→0≤s.yr∧s.yr≤4000000000000000000
theorem ofS_cov {h:Hi} {t:List Vs} (e:(ofS h t).2=0):CovO h (ofS h t).1:=by
 revert e
 rw [ofS]
 by_cases hr:rightHi h=false
 ·rw [if_pos hr];simp
 ·rw [if_neg hr]
  have hr:rightHi h=true:=by simpa using hr
  cases atV t h.tm.sf with
  |none=>simp
  |some v =>
   simp only
   split
   ·intro _
    obtain ⟨h1,h2,h3,-⟩:=right_days hr
    refine ⟨Cov.map (fun s=>by rw [mapP];split<;>exact ⟨rfl,rfl⟩) (fun s x=>by rw [mapP,mapP];split<;>split<;>rfl) (cutS_cov hr),h1,h2,h3,fun s hs=>?_⟩
    obtain ⟨s',h4,rfl⟩:=List.mem_map.1 hs
    rw [mapP]
    split
    ·exact yearR_bd _ _ _
    ·rw [cutS_yr h s' h4];omega
   ·rename_i h5;intro h6;exact absurd h6 h5
theorem Cov.run {b:Int} (hb:b≤292195):∀ {l:List Sl} {a e:Int},Cov a l b→e≤a→(∀ s,s∈l→0≤s.yr∧s.yr≤4000000000000000000)→Run e l
 |[],a,e,_,_,_=>.nil e
 |s::r,a,e,h,he,hy=>by
  obtain ⟨g1,g2,g3,g4⟩:=h
  have:=Cov.le g3
  have:=hy s (by simp)
  exact .cons (fullSl_iff.2 ⟨by omega,g2,by omega,by omega,by omega⟩) (Cov.run hb g3 (Int.le_refl _) fun s hs=>hy s (by simp [hs]))
theorem Cov.mem {b:Int}:∀ {l:List Sl} {a:Int},Cov a l b→∀ s,s∈l→a≤s.sf∧s.sf<s.st∧s.st≤b
 |[],a,_,s,hs=>by simp at hs
 |y::r,a,h,s,hs=>by
  obtain ⟨g1,g2,g3,g4⟩:=h
  have:=Cov.le g3
  rcases List.mem_cons.1 hs with rfl|hs
  ·omega
  ·have:=Cov.mem g3 s hs;omega
theorem Cov.ex {b d:Int} (hd:d<b):∀ {l:List Sl} {a:Int},Cov a l b→a≤d→∃ s,s∈l∧s.sf≤d∧d<s.st
 |[],a,h,ha=>by have h:a=b:=h;omega
 |s::r,a,h,ha=>by
  obtain ⟨g1,g2,g3,g4⟩:=h
  by_cases hs:d<s.st
  ·exact ⟨s,by simp,by omega,hs⟩
  ·obtain ⟨x,h1,h2⟩:=Cov.ex hd g3 (by omega)
   exact ⟨x,by simp [h1],h2⟩
theorem kept_ok {f t:Int} (h1:1≤f) (h2:f<t) (h3:t≤292195):keptR f t=(f,t):=by
 rw [keptR,if_neg]
 have:okS f t=true:=okS_iff.2 ⟨h1,by omega,h3⟩
 rw [this];simp;omega
theorem Cov.at {b:Int} (hb:b≤292195):∀ {l:List Sl} {a:Int},Cov a l b→1≤a→∀ s d,s∈l→s.sf≤d→d<s.st→slAt l d=some s∧yrAt l d=s.yr
 |[],a,h,ha,s,d,hs,_,_=>by simp at hs
 |y::r,a,h,ha,s,d,hs,h1,h2=>by
  have hm:=Cov.mem h y (by simp)
  obtain ⟨g1,g2,g3,g4⟩:=h
  rw [slAt_cons,yrAt_cons,kept_ok (by omega) hm.2.1 (by omega)]
  simp only
  rcases List.mem_cons.1 hs with rfl|hs
  ·rw [if_pos (by simp;omega),if_pos ⟨h1,h2⟩];exact ⟨rfl,rfl⟩
  ·have hm2:=Cov.mem g3 s hs
   rw [if_neg (by simp;omega),if_neg (by omega)]
   exact Cov.at hb g3 (by omega) s d hs h1 h2
end Go.Proofs.YtanppabbmffokaaGreat
end
section
namespace Go.Proofs.YtanppabbmffokaaGreat
open Go.Bx
theorem Chain.ex {a b:Int} {l:List (Int×Int)} (h:Chain a b l):∀ d,a≤d→d<b→∃ p,p∈l∧p.1≤d∧d<p.2:=by
 induction h with
 |nil=>intro d h1 h2;omega
 |cons h _ ih =>
  rename_i x y z l _
  intro d h1 h2
  by_cases hd:d<y
  ·exact ⟨(x,y),by simp,h1,hd⟩
  ·obtain ⟨p,g1,g2⟩:=ih d (by omega) h2
   exact ⟨p,by simp [g1],g2⟩
end Go.Proofs.YtanppabbmffokaaGreat
end
section
namespace Go.Proofs.YtanppabbmffokaaGreat
open Go.Bx
set_option maxRecDepth 10000
def fewC (l:List Ch):Bool:=l.all (fun c=>decide (c.cv.length≤50))
def fewV (t:List Vs):Bool:=t.all (fun v=>decide (v.age.length≤200)&&(decide (v.zn.length≤200)&&decide (v.pr.length≤200)))
def fewF (h:Hi) (t:List Vs):Bool:=decide (h.ch.length≤60)&&(decide (t.length≤100)&&(decide (h.tm.cv.length≤50)&&(fewC h.ch&&fewV t)))
theorem fewC_drop {l:List Ch} {k:Nat} {x:Ch} (h:l.drop k=x::l.drop (k+1)):fewC (l.drop k)=(decide (x.cv.length≤50)&&fewC (l.drop (k+1))):=by
 rw [h];rfl
theorem fewV_drop {l:List Vs} {k:Nat} {x:Vs} (h:l.drop k=x::l.drop (k+1)):fewV (l.drop k)=((decide (x.age.length≤200)&&(decide (x.zn.length≤200)&&decide (x.pr.length≤200)))&&fewV (l.drop (k+1))):=by
 rw [h];rfl
set_option maxHeartbeats 2000000 in
theorem sFew (hh:Hi) (t:List Vs) (h1:hh.ch.length≤9223372036854775807) (h2:t.length≤9223372036854775807):Ctr Tryz.prog 35 [vHi hh,.ag [.d (slV t)]] [] (.d (.bool (fewF hh t))) [] []:=by
 by_cases a1:hh.ch.length≤60
 ·have d1:decide (((hh.ch.length:Nat):Int)>60)=false:=decide_eq_false (by omega)
  by_cases a2:t.length≤100
  ·have d2:decide (((t.length:Nat):Int)>100)=false:=decide_eq_false (by omega)
   by_cases a3:hh.tm.cv.length≤50
   ·have d3:decide (((hh.tm.cv.length:Nat):Int)>50)=false:=decide_eq_false (by omega)
    have e:fewF hh t=(fewC hh.ch&&fewV t):=by rw [fewF,decide_eq_true a1,decide_eq_true a2,decide_eq_true a3];rfl
    rw [e]
    refine ctr_pure Tryz.func35 ok35 rfl cc35 cr35 Tryz.ntmps35 (by simp) rfl rfl ?_;intro c hP hfn;simp only [kc35,vHi,cHi,slC,slH,dCh,slV,dVs,slB,d1,d2,d3,vcd,↓vcp,seval]
    repeat' first|refine And.intro (fun h=>?_) (fun h=>?_)|refine aO ?_|(refine tA rfl rfl rfl rfl ?_;try simp only [d1,d2,d3,vcd,↓vcp,seval])|refine aT ?_|fail
    refine vcC.loop (X:=Nat) (fun k=>⟨[(2,.own 2 0),(3,.own 3 0),(5,.d (.int .i64 k))],[(2,.fix (cHi hh)),(3,.fix [.d (slV t)])],[2,3]⟩)
     (fun k=>k≤hh.ch.length∧fewC hh.ch=fewC (hh.ch.drop k)) (fun k=>hh.ch.length-k) 0 ⟨Nat.zero_le _,rfl⟩ (Wk.of _ hfn rfl (by simp only [enb,vcd,↓vcp,seval]) (by simp only [cHi,slC,slH,dCh,slV,dVs,slB,enb,vcd,↓vcp,seval])) ?_
    rintro k ⟨hk,he⟩
    by_cases hlt:k<hh.ch.length
    ·obtain ⟨x,hd,hg,-,-⟩:=drop_at hlt
     have hg:=hg default
     have b0:decide ((k:Int)<(hh.ch.length:Int))=true:=decide_eq_true (by omega)
     have b1:(0:Int)≤(k:Int)∧(k:Int)<(hh.ch.length:Int):=by omega
     have ewk:IntKind.i64.wrap ((k:Int)+1)=((k+1:Nat):Int):=wS (by omega)
     rw [fewC_drop hd] at he
     by_cases hx:x.cv.length≤50
     ·have d4:decide (((x.cv.length:Nat):Int)>50)=false:=decide_eq_false (by omega)
      rw [decide_eq_true hx,Bool.true_and] at he
      simp only [cHi,slC,slH,dCh,slV,dVs,slB,b0,hg,d4,ewk,vcd,↓vcp,seval]
      repeat' first|refine And.intro (fun h=>?_) (fun h=>?_)|refine aO ?_|(refine tA rfl rfl rfl rfl ?_;try simp only [hg,d4,ewk,vcd,↓vcp,seval])|refine aT ?_|fail
      exact lopK.on (k+1) ⟨hlt,he⟩ (by omega) (Wk.of _ hfn rfl (by simp only [ewk,enb,vcd,↓vcp,seval]) (by simp only [cHi,slC,slH,dCh,slV,dVs,slB,enb,vcd,↓vcp,seval]))
     ·have d4:decide (((x.cv.length:Nat):Int)>50)=true:=decide_eq_true (by omega)
      rw [decide_eq_false hx,Bool.false_and] at he
      simp only [cHi,slC,slH,dCh,slV,dVs,slB,b0,hg,d4,ewk,he,vcd,↓vcp,seval]
      repeat' first|refine And.intro (fun h=>?_) (fun h=>?_)|refine aO ?_|(refine tA rfl rfl rfl rfl ?_;try simp only [hg,d4,ewk,vcd,↓vcp,seval])|refine aT ?_|fail
      exact RetK.pure (by simp only [rs35,rsb,vcd,↓vcp,seval]) (by (simp only [rs35,rsb,enb,vcd,↓vcp,seval])<;>(first|exact VLe.refl _))
    ·have b0:decide ((k:Int)<(hh.ch.length:Int))=false:=decide_eq_false (by omega)
     have e1:fewC hh.ch=true:=by rw [he,List.drop_eq_nil_of_le (by omega)];rfl
     rw [e1,Bool.true_and]
     simp only [cHi,slC,slH,dCh,slV,dVs,slB,b0,vcd,↓vcp,seval]
     repeat' first|refine And.intro (fun h=>?_) (fun h=>?_)|refine aO ?_|(refine tA rfl rfl rfl rfl ?_;try simp only [b0,vcd,↓vcp,seval])|refine aT ?_|fail
     refine vcC.loop (X:=Nat) (fun k=>⟨[(3,.own 3 0),(6,.d (.int .i64 k))],[(3,.fix [.d (slV t)])],[2,3]⟩)
      (fun k=>k≤t.length∧fewV t=fewV (t.drop k)) (fun k=>t.length-k) 0 ⟨Nat.zero_le _,rfl⟩ (Wk.of _ hfn rfl (by simp only [enb,vcd,↓vcp,seval]) (by simp only [slV,dVs,slB,enb,vcd,↓vcp,seval])) ?_
     rintro k ⟨hk,he⟩
     by_cases hlt:k<t.length
     ·obtain ⟨x,hd,hg,-,-⟩:=drop_at hlt
      have hg:=hg default
      have b0:decide ((k:Int)<(t.length:Int))=true:=decide_eq_true (by omega)
      have b1:(0:Int)≤(k:Int)∧(k:Int)<(t.length:Int):=by omega
      have ewk:IntKind.i64.wrap ((k:Int)+1)=((k+1:Nat):Int):=wS (by omega)
      rw [fewV_drop hd] at he
      by_cases hx:x.age.length≤200
      ·have d4:decide (((x.age.length:Nat):Int)>200)=false:=decide_eq_false (by omega)
       by_cases hy:x.zn.length≤200
       ·have d5:decide (((x.zn.length:Nat):Int)>200)=false:=decide_eq_false (by omega)
        by_cases hz:x.pr.length≤200
        ·have d6:decide (((x.pr.length:Nat):Int)>200)=false:=decide_eq_false (by omega)
         rw [decide_eq_true hx,decide_eq_true hy,decide_eq_true hz] at he
         simp only [slK,slV,dVs,slB,b0,hg,d4,d5,d6,ewk,vcd,↓vcp,seval]
         repeat' first|refine And.intro (fun h=>?_) (fun h=>?_)|refine aO ?_|(refine tA rfl rfl rfl rfl ?_;try simp only [hg,d4,d5,d6,ewk,vcd,↓vcp,seval])|refine aT ?_|fail
         exact lopK.on (k+1) ⟨hlt,he⟩ (by omega) (Wk.of _ hfn rfl (by simp only [ewk,enb,vcd,↓vcp,seval]) (by simp only [slK,slV,dVs,slB,enb,vcd,↓vcp,seval]))
        ·have d6:decide (((x.pr.length:Nat):Int)>200)=true:=decide_eq_true (by omega)
         rw [decide_eq_true hx,decide_eq_true hy,decide_eq_false hz] at he
         rw [show fewV t=false from he]
         simp only [slK,slV,dVs,slB,b0,hg,d4,d5,d6,ewk,vcd,↓vcp,seval]
         repeat' first|refine And.intro (fun h=>?_) (fun h=>?_)|refine aO ?_|(refine tA rfl rfl rfl rfl ?_;try simp only [hg,d4,d5,d6,ewk,vcd,↓vcp,seval])|refine aT ?_|fail
         exact RetK.pure (by simp only [rs35,rsb,vcd,↓vcp,seval]) (by (simp only [rs35,rsb,enb,vcd,↓vcp,seval])<;>(first|exact VLe.refl _))
       ·have d5:decide (((x.zn.length:Nat):Int)>200)=true:=decide_eq_true (by omega)
        rw [decide_eq_true hx,decide_eq_false hy] at he
        rw [show fewV t=false from he]
        simp only [slK,slV,dVs,slB,b0,hg,d4,d5,ewk,vcd,↓vcp,seval]
        repeat' first|refine And.intro (fun h=>?_) (fun h=>?_)|refine aO ?_|(refine tA rfl rfl rfl rfl ?_;try simp only [hg,d4,d5,ewk,vcd,↓vcp,seval])|refine aT ?_|fail
        exact RetK.pure (by simp only [rs35,rsb,vcd,↓vcp,seval]) (by (simp only [rs35,rsb,enb,vcd,↓vcp,seval])<;>(first|exact VLe.refl _))
      ·have d4:decide (((x.age.length:Nat):Int)>200)=true:=decide_eq_true (by omega)
       rw [decide_eq_false hx] at he
       rw [show fewV t=false from he]
       simp only [slK,slV,dVs,slB,b0,hg,d4,ewk,vcd,↓vcp,seval]
       repeat' first|refine And.intro (fun h=>?_) (fun h=>?_)|refine aO ?_|(refine tA rfl rfl rfl rfl ?_;try simp only [hg,d4,ewk,vcd,↓vcp,seval])|refine aT ?_|fail
       exact RetK.pure (by simp only [rs35,rsb,vcd,↓vcp,seval]) (by (simp only [rs35,rsb,enb,vcd,↓vcp,seval])<;>(first|exact VLe.refl _))
     ·have b0:decide ((k:Int)<(t.length:Int))=false:=decide_eq_false (by omega)
      have e1:fewV t=true:=by rw [he,List.drop_eq_nil_of_le (by omega)];rfl
      rw [e1]
      simp only [slV,dVs,slB,b0,vcd,↓vcp,seval]
      repeat' first|refine And.intro (fun h=>?_) (fun h=>?_)|refine aO ?_|(refine tA rfl rfl rfl rfl ?_;try simp only [b0,vcd,↓vcp,seval])|refine aT ?_|fail
      exact RetK.pure (by simp only [rs35,rsb,vcd,↓vcp,seval]) (by (simp only [rs35,rsb,enb,vcd,↓vcp,seval])<;>(first|exact VLe.refl _))
   ·have d3:decide (((hh.tm.cv.length:Nat):Int)>50)=true:=decide_eq_true (by omega)
    have e:fewF hh t=false:=by rw [fewF,decide_eq_true a1,decide_eq_true a2,decide_eq_false a3];rfl
    rw [e]
    refine ctr_pure Tryz.func35 ok35 rfl cc35 cr35 Tryz.ntmps35 (by simp) rfl rfl ?_;intro c hP hfn;simp only [kc35,vHi,cHi,slC,slH,dCh,slV,dVs,slB,d1,d2,d3,vcd,↓vcp,seval]
    repeat' first|refine And.intro (fun h=>?_) (fun h=>?_)|refine aO ?_|(refine tA rfl rfl rfl rfl ?_;try simp only [d1,d2,d3,vcd,↓vcp,seval])|refine aT ?_|fail
    exact RetK.pure (by simp only [rs35,rsb,vcd,↓vcp,seval]) (by (simp only [rs35,rsb,enb,vcd,↓vcp,seval])<;>(first|exact VLe.refl _))
  ·have d2:decide (((t.length:Nat):Int)>100)=true:=decide_eq_true (by omega)
   have e:fewF hh t=false:=by rw [fewF,decide_eq_true a1,decide_eq_false a2];rfl
   rw [e]
   refine ctr_pure Tryz.func35 ok35 rfl cc35 cr35 Tryz.ntmps35 (by simp) rfl rfl ?_;intro c hP hfn;simp only [kc35,vHi,cHi,slC,slH,dCh,slV,dVs,slB,d1,d2,vcd,↓vcp,seval]
   repeat' first|refine And.intro (fun h=>?_) (fun h=>?_)|refine aO ?_|(refine tA rfl rfl rfl rfl ?_;try simp only [d1,d2,vcd,↓vcp,seval])|refine aT ?_|fail
   exact RetK.pure (by simp only [rs35,rsb,vcd,↓vcp,seval]) (by (simp only [rs35,rsb,enb,vcd,↓vcp,seval])<;>(first|exact VLe.refl _))
 ·have d1:decide (((hh.ch.length:Nat):Int)>60)=true:=decide_eq_true (by omega)
  have e:fewF hh t=false:=by rw [fewF,decide_eq_false a1];rfl
  rw [e]
  refine ctr_pure Tryz.func35 ok35 rfl cc35 cr35 Tryz.ntmps35 (by simp) rfl rfl ?_;intro c hP hfn;simp only [kc35,vHi,cHi,slC,slH,dCh,slV,dVs,slB,d1,vcd,↓vcp,seval]
  repeat' first|refine And.intro (fun h=>?_) (fun h=>?_)|refine aO ?_|(refine tA rfl rfl rfl rfl ?_;try simp only [d1,vcd,↓vcp,seval])|refine aT ?_|fail
  exact RetK.pure (by simp only [rs35,rsb,vcd,↓vcp,seval]) (by (simp only [rs35,rsb,enb,vcd,↓vcp,seval])<;>(first|exact VLe.refl _))
theorem sPFew (hh:Hi) (t:List Vs) (x:Ch) (h1:hh.ch.length≤9223372036854775807) (h2:t.length≤9223372036854775807):Ctr Tryz.prog 9 [vHi hh,.ag [.d (slV t)],vCh x] [] (.d (.bool (fewF hh t&&decide (x.cv.length≤50)))) [] []:=by
 have cf:=sFew hh t h1 h2
 simp only [vHi,cHi,slC,slH,dCh,slV,dVs,slB] at cf
 have e:decide (((x.cv.length:Nat):Int)≤50)=decide (x.cv.length≤50):=by rw [decide_eq_decide];omega
 generalize fewF hh t=f at *
 cases f <;>
 ·refine ctr_pure Tryz.func9 ok9 rfl cc9 cr9 Tryz.ntmps9 (by simp) rfl rfl ?_;intro c hP hfn;simp only [kc9,vHi,cHi,vCh,cCh,slC,slH,dCh,slV,dVs,slB,e,vcd,↓vcp,seval]
  repeat' first|((first|refine tp hP (by exact cf) ?_|refine tg hP (fun _=>by exact cf) ?_|refine tv hP rfl (by exact cf) ?_);try simp only [e,vcd,↓vcp,seval])|refine And.intro (fun h=>?_) (fun h=>?_)|refine aO ?_|(refine tA rfl rfl rfl rfl ?_;try simp only [e,vcd,↓vcp,seval])|refine aT ?_|fail
  exact RetK.pure (by simp only [rs9,rsb,vcd,↓vcp,seval]) (by (simp only [rs9,rsb,enb,vcd,↓vcp,seval])<;>(first|simp [e]))
def likeB (a b:Sl):Bool:=(a.on == b.on)&&(eqRk a.rk b.rk&&decide (a.cv=b.cv))
def same12 (a b:Sl):Bool:=((a.sf == b.sf)&&(a.st == b.st))&&((a.yr == b.yr)&&likeB a b)
theorem same12_iff {a b:Sl}:same12 a b=true↔a=b:=by
 obtain ⟨a1,a2,a3,a4,a5,a6⟩:=a
 obtain ⟨b1,b2,b3,b4,b5,b6⟩:=b
 simp only [same12,likeB,Bool.and_eq_true,eqRk_iff,beq_iff_eq,decide_eq_true_eq,Sl.mk.injEq]
 constructor
 ·rintro ⟨⟨h1,h2⟩,h3,h4,h5,h6⟩;exact ⟨h1,h2,h4,h5,h6,h3⟩
 ·rintro ⟨h1,h2,h4,h5,h6,h3⟩;exact ⟨⟨h1,h2⟩,h3,h4,h5,h6⟩
instance:DecidableEq Sl:=fun a b=>decidable_of_iff (same12 a b=true) same12_iff
end Go.Proofs.YtanppabbmffokaaGreat
end
section
namespace Go.Proofs.YtanppabbmffokaaGreat
open Go.Bx
set_option maxRecDepth 10000
def DLe (x y:D):Prop:=∀ E w v,RelD E w v x→RelD E w v y
theorem DLe.refl (x:D):DLe x x:=fun _ _ _ h=>h
theorem DLe.v {x y:D} (h:DLe x y):VLe (.d x) (.d y):=fun β E w v hv=>by
 cases hv with
 |d _ _ hv=>exact .d _ _ (h _ _ _ hv)
def DsLe:List D→List D→Prop
 |[],[]=>True
 |x::xs,y::ys=>DLe x y∧DsLe xs ys
 |_,_=>False
theorem DsLe.get:∀ {xs ys:List D},DsLe xs ys→xs.length=ys.length∧∀ (j:Nat) (y:D),ys[j]?=some y→∃ x,xs[j]?=some x∧DLe x y
 |[],[],_=>⟨rfl,fun j y h=>by simp at h⟩
 |x::xs,y::ys,h=>by
  obtain ⟨e,hr⟩:=DsLe.get h.2
  refine ⟨by simp [e],fun j b hb=>?_⟩
  cases j with
  |zero=>simp at hb;subst hb;exact ⟨x,rfl,h.1⟩
  |succ j=>simpa using hr j b (by simpa using hb)
 |[],_::_,h=>h.elim
 |_::_,[],h=>h.elim
theorem DLe.sl {full full':Bool} {sz sz' n n':Nat} {f f':Nat→List D} (hn:n=n') (hz:0<n→sz=sz') (hb:full'=true→full=true) (hf:∀ i,i<n→DsLe (f i) (f' i)):DLe (.sl full sz n f) (.sl full' sz' n' f'):=by
 subst hn
 intro E w v hv
 cases hv with
 |nil _ _ _ _=>exact .nil _ _ _ _
 |sl _ _ _ _ b off c g hc hfu hl hcell hrel =>
  rcases Nat.eq_zero_or_pos n with h0|h0
  ·subst h0
   exact .sl _ _ _ _ b off c g hc (fun h=>hfu (hb h)) (fun i hi=>by omega) (fun i j hi=>by omega) (fun i j hi=>by omega)
  ·have:=hz h0
   subst this
   refine .sl _ _ _ _ b off c g hc (fun h=>hfu (hb h)) (fun i hi=>((hf i hi).get.1).symm.trans (hl i hi)) hcell (fun i j hi hj x hx=>?_)
   obtain ⟨y,h1,h2⟩:=(hf i hi).get.2 j x hx
   exact h2 _ _ _ (hrel i j hi hj y h1)
def pV:Vs:=⟨1,10000,0,0,0,[],[10000],[10000,10000,10000,10000,10000,10000,10000,10000],0⟩
def pH:Hi:=⟨1,1,⟨1,101,⟨0,36500,0,0⟩,[⟨1,10,10,0,10000⟩]⟩,[]⟩
def pC:Ch:=⟨5,41,3,⟨0,0,0,0⟩,[],0⟩
def pS:List Sl:=[⟨1,101,true,⟨0,36500,0,0⟩,[⟨1,10,10,0,10000⟩],36500⟩]
def pB:List Bl:=[⟨1,5000,0⟩,⟨182,5000,0⟩]
theorem sPolicy:Ctr Tryz.prog 33 [] [] (.tup [vHi pH,.ag [.d (slV [pV])]]) [] []:=by
 refine ctr_pure Tryz.func33 ok33 rfl cc33 cr33 Tryz.ntmps33 (by simp) rfl rfl ?_;intro c hP hfn;simp only [kc33,vcd,↓vcp,seval]
 repeat' first|refine And.intro (fun h=>?_) (fun h=>?_)|refine aO ?_|(refine tA rfl rfl rfl rfl ?_;try simp only [vcd,↓vcp,seval])|refine aT ?_|fail
 have n0:∀ {sz:Nat} {f g:Nat→List D},DLe (.sl true 0 0 f) (.sl false sz 0 g):=DLe.sl rfl (fun h=>by omega) (fun h=>by cases h) (fun i hi=>by omega)
 refine RetK.pure (by simp only [rs33,rsb,vcd,↓vcp,seval]) ?_
 simp only [rs33,rsb,vcd,↓vcp,seval]
 refine VLe.tups ⟨VLe.ags ⟨VLe.refl _,VLe.refl _,VLe.refl _,VLe.refl _,VLe.refl _,VLe.refl _,VLe.refl _,VLe.refl _,DLe.v (DLe.sl rfl (fun _=>rfl) (fun h=>by cases h) (fun i hi=>?_)),DLe.v n0,trivial⟩,VLe.ags ⟨DLe.v (DLe.sl rfl (fun _=>rfl) (fun h=>by cases h) (fun i hi=>?_)),trivial⟩,trivial⟩
 ·obtain rfl:i=0:=by omega
  exact ⟨DLe.refl _,DLe.refl _,DLe.refl _,DLe.refl _,DLe.refl _,trivial⟩
 ·obtain rfl:i=0:=by omega
  refine ⟨DLe.refl _,DLe.refl _,DLe.refl _,DLe.refl _,DLe.refl _,n0,DLe.sl rfl (fun _=>rfl) (fun h=>by cases h) (fun i hi=>?_),DLe.sl rfl (fun _=>rfl) (fun h=>by cases h) (fun i hi=>?_),DLe.refl _,trivial⟩
  ·obtain rfl:i=0:=by omega
   exact ⟨DLe.refl _,trivial⟩
  ·rcases i with _|_|_|_|_|_|_|_|i<;>first|exact ⟨DLe.refl _,trivial⟩|omega
set_option maxHeartbeats 2000000 in
theorem sAlive:Ctr Tryz.prog 8 [] [] (.d (.bool true)) [] []:=by
 have hz:SzC pH:=⟨by decide,by decide,fun c h=>by simp [pH] at h⟩
 have hv:∀ v,v∈[pV]→SzV v:=fun v h=>by
  rw [List.mem_singleton] at h;subst h
  exact ⟨by decide,by decide,by decide⟩
 have k0:=sPolicy
 have k1:=sDueF pH [pV] hz (by decide) hv
 rw [show dueF pH [pV]=(10000,0) by decide +kernel] at k1
 have k2:=sOfS pH [pV] hz (by decide) hv
 rw [show ofS pH [pV]=(pS,0) by decide +kernel] at k2
 have k3:=sUptoF pS 41 (by decide)
 rw [show uptoF pS 41=(4000,0) by decide +kernel] at k3
 have k4:=sGivenF pH [pV] pC hz (by decide) hv (by decide)
 rw [show givenF pH [pV] pC=(6000,0) by decide +kernel] at k4
 have k5:=sPlan 10000 1 101 2
 rw [show planR 10000 1 101 2=(pB,0) by decide +kernel] at k5
 have k6:=rSame pB pB (by decide) (by decide)
 rw [decide_eq_true rfl] at k6
 have k7:Ctr Tryz.prog 34 [.d (slL pB),.d (.sl true 3 2 (litRow 3 [.int .i64 1,.int .i64 5000,.int .i64 0,.int .i64 182,.int .i64 5000,.int .i64 0]))] [] (.d (.bool true)) [] []:=
  k6.arg ⟨VLe.refl _,VLe_slL rfl (by intro i hi;rcases i with _|_|i<;>first|rfl|omega),trivial⟩
 have k8:Ctr Tryz.prog 12 [vHi pH,.ag [.d (slV [pV])],.ag [.d (.int .i64 5),.d (.int .i64 41),.d (.int .i64 3),.d (.int .i64 0),.d (.int .i64 0),.d (.int .i64 0),.d (.int .i64 0),.d (.sl true 0 0 fun _=>[]),.d (.int .i64 0)]] [] (.tup [.d (.int .i64 6000),.d (.int .i64 0)]) [] []:=
  k4.arg ⟨VLe.refl _,VLe.refl _,VLe.ags ⟨VLe.refl _,VLe.refl _,VLe.refl _,VLe.refl _,VLe.refl _,VLe.refl _,VLe.refl _,vle_nil,VLe.refl _,trivial⟩,trivial⟩
 have b1:∀ i:Int,(i == i)=true:=fun i=>by simp
 obtain ⟨h1,h2,h3,h4,h5,h6,h7⟩:pH.id=1∧pH.bk=1∧pH.tm.sf=1∧pH.tm.st=101∧pH.tm.rk=⟨0,36500,0,0⟩∧pH.tm.cv=pH.tm.cv∧pH.ch=pH.ch:=⟨rfl,rfl,rfl,rfl,rfl,rfl,rfl⟩
 simp only [vHi,cHi,h1,h2,h3,h4,h5] at k0 k1 k2 k8
 simp only [vS] at k5
 generalize slV [pV]=t at *
 generalize slH pH.ch=z at *
 generalize slC pH.tm.cv=y at *
 generalize slS pS=x at *
 refine ctr_pure Tryz.func8 ok8 rfl cc8 cr8 Tryz.ntmps8 (by simp) rfl rfl ?_;intro c hP hfn;simp only [kc8,vcd,↓vcp,seval]
 repeat' first|((first|refine tp hP (by first|exact k0|exact k1|exact k2|exact k3|exact k8|exact k5|exact k7) ?_|refine tg hP (fun _=>by first|exact k0|exact k1|exact k2|exact k3|exact k8|exact k5|exact k7) ?_|refine tv hP rfl (by first|exact k0|exact k1|exact k2|exact k3|exact k8|exact k5|exact k7) ?_);try simp only [b1,Int.reduceBEq,vcd,↓vcp,seval])|refine And.intro (fun h=>?_) (fun h=>?_)|refine aO ?_|(refine tA rfl rfl rfl rfl ?_;try simp only [b1,Int.reduceBEq,vcd,↓vcp,seval])|refine aT ?_|fail
 all_goals exact RetK.pure (by simp only [rs8,rsb,vcd,↓vcp,seval]) (by (simp only [rs8,rsb,enb,vcd,↓vcp,seval])<;>(first|exact VLe.refl _))
end Go.Proofs.YtanppabbmffokaaGreat
end
section
namespace Go.Proofs.YtanppabbmffokaaGreat
open Go.Bx
set_option maxRecDepth 10000
def zCh:Ch:=⟨0,0,0,⟨0,0,0,0⟩,[],0⟩
theorem few_sz {h:Hi} {t:List Vs} (e:fewF h t=true):SzC h∧t.length≤1000000∧∀ v,v∈t→SzV v:=by
 simp only [fewF,fewC,fewV,Bool.and_eq_true,decide_eq_true_eq,List.all_eq_true] at e
 obtain ⟨h1,h2,h3,h4,h5⟩:=e
 refine ⟨⟨by omega,by omega,fun c hc=>by have:=h4 c hc;omega⟩,by omega,fun v hv=>?_⟩
 have:=h5 v hv
 exact ⟨by omega,by omega,by omega⟩
def shL (f:Int) (k:Nat):List Int:=(List.range k).flatMap fun i=>if (shiftN f (i+1)).2=0 then [(shiftN f (i+1)).1] else []
theorem shL_succ (f:Int) (k:Nat):shL f (k+1)=shL f k++(if (shiftN f (k+1)).2=0 then [(shiftN f (k+1)).1] else []):=by
 rw [shL,List.range_succ,List.flatMap_append];simp [shL]
theorem shL_len (f:Int):∀ k,(shL f k).length≤k
 |0=>by simp [shL]
 |k+1=>by
  have:=shL_len f k
  rw [shL_succ]
  split<;>simp<;>omega
set_option maxHeartbeats 4000000 in
theorem lMonths (hh:Hi) (t:List Vs) (l:List Int) (h1:hh.ch.length≤9223372036854775807) (h2:t.length≤9223372036854775807) (h3:l.length≤9223372036854775807) :
  Ctr Tryz.prog 6 [vHi hh,.ag [.d (slV t)],.d (slK .i64 l)] [] (.d (.bool true)) [] []:=by
 have k0:=sAlive
 have kf0:=sPFew hh t zCh h1 h2
 have kf:Ctr Tryz.prog 9 [vHi hh,.ag [.d (slV t)],.ag [.d (.int .i64 0),.d (.int .i64 0),.d (.int .i64 0),.d (.int .i64 0),.d (.int .i64 0),.d (.int .i64 0),.d (.int .i64 0),.d (.sl true 0 0 fun _=>[]),.d (.int .i64 0)]] [] (.d (.bool (fewF hh t))) [] []:=by
  have e:(fewF hh t&&decide (zCh.cv.length≤50))=fewF hh t:=by simp [zCh]
  rw [e] at kf0
  exact kf0.arg ⟨VLe.refl _,VLe.refl _,VLe.ags ⟨VLe.refl _,VLe.refl _,VLe.refl _,VLe.refl _,VLe.refl _,VLe.refl _,VLe.refl _,vle_nil,VLe.refl _,trivial⟩,trivial⟩
 clear kf0
 simp only [vHi,cHi,slC,slH,dCh,slV,dVs,slB] at kf
 cases hf:fewF hh t with
 |false =>
  rw [hf] at kf
  refine ctr_pure Tryz.func6 ok6 rfl cc6 cr6 Tryz.ntmps6 (by simp) rfl rfl ?_;intro c hP hfn;simp only [kc6,vHi,cHi,slC,slH,dCh,slV,dVs,slB,slK,vcd,↓vcp,seval]
  repeat' first|((first|refine tp hP (by first|exact k0|exact kf) ?_|refine tg hP (fun _=>by first|exact k0|exact kf) ?_|refine tv hP rfl (by first|exact k0|exact kf) ?_);try simp only [vcd,↓vcp,seval])|refine And.intro (fun h=>?_) (fun h=>?_)|refine aO ?_|(refine tA rfl rfl rfl rfl ?_;try simp only [vcd,↓vcp,seval])|refine aT ?_|fail
  exact RetK.pure (by simp only [rs6,rsb,vcd,↓vcp,seval]) (by (simp only [rs6,rsb,enb,vcd,↓vcp,seval])<;>(first|exact VLe.refl _))
 |true =>
  rw [hf] at kf
  obtain ⟨z,ht,hz⟩:=few_sz hf
  by_cases hl:l.length>60
  ·have d1:decide ((l.length:Int)>60)=true:=decide_eq_true (by omega)
   refine ctr_pure Tryz.func6 ok6 rfl cc6 cr6 Tryz.ntmps6 (by simp) rfl rfl ?_;intro c hP hfn;simp only [kc6,vHi,cHi,slC,slH,dCh,slV,dVs,slB,slK,d1,vcd,↓vcp,seval]
   repeat' first|((first|refine tp hP (by first|exact k0|exact kf) ?_|refine tg hP (fun _=>by first|exact k0|exact kf) ?_|refine tv hP rfl (by first|exact k0|exact kf) ?_);try simp only [d1,vcd,↓vcp,seval])|refine And.intro (fun h=>?_) (fun h=>?_)|refine aO ?_|(refine tA rfl rfl rfl rfl ?_;try simp only [d1,vcd,↓vcp,seval])|refine aT ?_|fail
   exact RetK.pure (by simp only [rs6,rsb,vcd,↓vcp,seval]) (by (simp only [rs6,rsb,enb,vcd,↓vcp,seval])<;>(first|exact VLe.refl _))
  have d1:decide ((l.length:Int)>60)=false:=decide_eq_false (by omega)
  have ko:=sOfS hh t z ht hz
  have kw:=sWritten (ofS hh t).1 (ofS_len z)
  have n0:((0:Int) != 0)=false:=rfl
  by_cases e1:(ofS hh t).2=0
  ·by_cases e2:(uptoF (ofS hh t).1 292195).2=0
   ·obtain ⟨L,hL⟩:∃ L,L=(ofS hh t).1:=⟨_,rfl⟩
    have hin:∀ s,s∈L→InB hh.tm.sf hh.tm.st s:=by rw [hL];exact ofS_in e1
    have hcv:=ofS_cov e1
    have hLl:=ofS_len (t:=t) z
    rw [e1] at ko
    rw [←hL] at ko kw e2 hLl
    have kc:=sCurveF L hLl
    have kb:=fun a b=>sBet L a b hLl
    obtain ⟨P,hP0⟩:∃ P,curS L=some P:=by
     cases hc:curS L with
     |some P=>exact ⟨P,rfl⟩
     |none=>rw [uptoF,hc] at e2;simp at e2
    have ecf:curF L=(P,0):=by rw [curF,hP0]
    rw [ecf] at kc
    have euf:uptoF L 292195=uptoR P 292195:=by rw [uptoF,hP0]
    rw [e2] at kw
    rw [euf] at kw e2
    have g:=Good.of hP0
    have htl:=total_le g e2
    have hPl:=curS_len hP0
    obtain ⟨a1,a2,a3⟩:=And.intro hcv.lo (And.intro hcv.lt hcv.hi)
    have hea:=fun q hq=>earn_all hP0 htl hin a1 a2 a3 (q:=q) hq
    clear hL hcv
    obtain ⟨w,hw⟩:∃ w,w=(uptoR P 292195).1:=⟨_,rfl⟩
    rw [←hw] at kw hea
    clear hw
    simp only [vHi,cHi,slC,slH,dCh,slV,dVs,slB,slS,dSl,vSt,cSt,slK,List.length_map] at ko kw kc
    refine ctr_pure Tryz.func6 ok6 rfl cc6 cr6 Tryz.ntmps6 (by simp) rfl rfl ?_;intro c hP hfn;simp only [kc6,vHi,cHi,slC,slH,dCh,slV,dVs,slB,slK,d1,vcd,↓vcp,seval]
    repeat' first|((first|refine tp hP (by first|exact k0|exact kf|exact ko|exact kw|exact kc) ?_|refine tg hP (fun _=>by first|exact k0|exact kf|exact ko|exact kw|exact kc) ?_|refine tv hP rfl (by first|exact k0|exact kf|exact ko|exact kw|exact kc) ?_);try simp only [d1,n0,vcd,↓vcp,seval])|refine And.intro (fun h=>?_) (fun h=>?_)|refine aO ?_|(refine tA rfl rfl rfl rfl ?_;try simp only [d1,n0,vcd,↓vcp,seval])|refine aT ?_|fail
    refine vcC.loop (X:=Nat) (fun k=>⟨[(15,.osl 1000),(3,.own 3 0),(7,.d (.bool true)),(9,.d (slS L)),(11,.d (.int .i64 w)),(13,.own 13 0),(14,.d (.int .i64 0)),(16,.d (.int .i64 ((k+1:Nat):Int)))],[(1000,rowZ (l++shL hh.tm.sf k)),(3,.fix (cHi hh)),(13,.fix (cSt P))],[1000,3,13]⟩)
     (fun k=>k≤37) (fun k=>37-k) 0 (Nat.zero_le _) ?_ ?_
    ·refine (Wk.sw 64 1000 _ hfn (by simp) (by simp)).trans (Wk.of _ hfn rfl ?_ ?_)
     ·simp only [slS,dSl,slC,enb,vcd,↓vcp,seval]
     ·simp only [rowZ,cHi,cSt,slK,slC,slH,dCh,List.length_map,enb,vcd,↓vcp,seval]
      exact OLe.row (by simp [shL]) (fun i hi=>by simp [shL])
    ·intro k hk
     have hsl:=shL_len hh.tm.sf k
     by_cases hlt:k<37
     ·have d0:decide (((k+1:Nat):Int)≤37)=true:=decide_eq_true (by omega)
      have w1:IntKind.i64.wrap (((k+1:Nat):Int)+1)=((k+1+1:Nat):Int):=wS (by omega)
      have ks:=sShift hh.tm.sf (k+1) (by omega)
      have hsu:=shL_succ hh.tm.sf k
      obtain ⟨d,e,hs⟩:∃ d e,shiftN hh.tm.sf (k+1)=(d,e):=⟨_,_,rfl⟩
      rw [hs] at ks hsu
      simp only at ks hsu
      by_cases he:e=0
      ·subst he
       rw [if_pos rfl] at hsu
       have d2:((0:Int) == 0)=true:=rfl
       simp only [rowZ,cHi,cSt,slK,slS,dSl,slC,slH,dCh,List.length_map,d0,vcd,↓vcp,seval]
       repeat' first|((first|refine tp hP (by exact ks) ?_|refine tg hP (fun _=>by exact ks) ?_|refine tv hP rfl (by exact ks) ?_);try simp only [d0,w1,d2,vcd,↓vcp,seval])|refine And.intro (fun h=>?_) (fun h=>?_)|refine aO ?_|(refine tA rfl rfl rfl rfl ?_;try simp only [d0,w1,d2,vcd,↓vcp,seval])|refine aT ?_|fail
       have htl:(l++shL hh.tm.sf k).length≤1000:=by rw [List.length_append];omega
       have hsa:l++shL hh.tm.sf (k+1)=(l++shL hh.tm.sf k)++[d]:=by rw [hsu,List.append_assoc]
       refine ⟨⟨by omega,by simp only [maxLen];omega⟩,lopK.on (k+1) (by omega) (by omega) ((Wk.sw 83 1000 _ hfn (by simp) (by simp)).trans (Wk.of _ hfn rfl (by simp only [slS,dSl,slC,w1,enb,vcd,↓vcp,seval]) ?_))⟩
       simp only [rowZ,hsa,cHi,cSt,slK,slC,slH,dCh,List.length_map,enb,vcd,↓vcp,seval]
       exact OLe.app1 (fun n:Int=>[.int .i64 n]) (fun i hi=>by rw [if_pos hi]) (by simp [litRow])
      ·rw [if_neg he,List.append_nil] at hsu
       have d2:(e == 0)=false:=by rw [beq_eq_false_iff_ne];exact he
       simp only [rowZ,cHi,cSt,slK,slS,dSl,slC,slH,dCh,List.length_map,d0,vcd,↓vcp,seval]
       repeat' first|((first|refine tp hP (by exact ks) ?_|refine tg hP (fun _=>by exact ks) ?_|refine tv hP rfl (by exact ks) ?_);try simp only [d0,w1,d2,vcd,↓vcp,seval])|refine And.intro (fun h=>?_) (fun h=>?_)|refine aO ?_|(refine tA rfl rfl rfl rfl ?_;try simp only [d0,w1,d2,vcd,↓vcp,seval])|refine aT ?_|fail
       refine lopK.on (k+1) (by omega) (by omega) (Wk.of _ hfn rfl (by simp only [slS,dSl,slC,w1,enb,vcd,↓vcp,seval]) ?_)
       simp only [rowZ,hsu,cHi,cSt,slK,slC,slH,dCh,List.length_map,enb,vcd,↓vcp,seval]
     ·obtain rfl:k=37:=by omega
      have d0:decide (((37+1:Nat):Int)≤37)=false:=by decide
      have kp:=sParts hh.tm.sf hh.tm.st (l++shL hh.tm.sf 37) (by rw [List.length_append];omega)
      have hch:=parts_chain (l:=l++shL hh.tm.sf 37) a1 a2 a3
      have hql:=partsF_len hh.tm.sf hh.tm.st (l++shL hh.tm.sf 37)
      rw [List.length_append] at hql
      simp only [rowZ,cHi,cSt,slK,slS,dSl,slC,slH,dCh,List.length_map,d0,vcd,↓vcp,seval]
      generalize partsF hh.tm.sf hh.tm.st (l++shL hh.tm.sf 37)=Q at *
      simp only [vS,slK,slP] at kp
      repeat' first|refine And.intro (fun h=>?_) (fun h=>?_)|refine aO ?_|(refine tA rfl rfl rfl rfl ?_;try simp only [d0,vcd,↓vcp,seval])|refine aT ?_|fail
      refine TR.pub hP 1000 rfl kp (by repeat' first|exact trivial|(intro _;assumption)|apply And.intro) ?_
      obtain ⟨hall,htk⟩:=hea Q hch
      have hq0:0<Q.length:=by
       obtain ⟨p,hp,-⟩:=hch.ex hh.tm.sf (Int.le_refl _) a2
       exact List.length_pos_of_mem hp
      simp only [vcd,↓vcp,seval]
      repeat' first|refine And.intro (fun h=>?_) (fun h=>?_)|refine aO ?_|(refine tA rfl rfl rfl rfl ?_;try simp only [vcd,↓vcp,seval])|refine aT ?_|fail
      refine vcC.loop (X:=Nat) (fun j=>⟨[(7,.d (.bool true)),(9,.d (slS L)),(11,.d (.int .i64 w)),(13,.own 13 0),(14,.d (.int .i64 0)),(19,.d (slP Q)),(20,.d (.int .i64 (earnL P (Q.take j)))),(21,.d (.int .i64 j))],[(13,.fix (cSt P))],[13]⟩)
       (fun j=>j≤Q.length) (fun j=>Q.length-j) 0 (Nat.zero_le _) ?_ ?_
      ·refine Wk.of _ hfn rfl ?_ ?_
       ·simp only [slS,dSl,slC,slP,List.take_zero,earnL,List.map_nil,List.sum_nil,enb,vcd,↓vcp,seval]
       ·simp only [cSt,slK,List.length_map,enb,vcd,↓vcp,seval]
      intro j hj
      have z0:((0:Int) == 0)=true:=rfl
      by_cases hjl:j<Q.length
      ·obtain ⟨p,-,hg,hm,hat⟩:=drop_at hjl
       obtain ⟨x,y⟩:=p
       obtain ⟨b1,b2,b3⟩:=hch.at _ hm
       simp only at b1 b2 b3
       obtain ⟨n,cost,q1,q2,q3,q4,q5,q6,q7,q8,q9,q10⟩:=part_ok hP0 htl (x:=x) (y:=y) (by omega) b2 (by omega)
       have hes:=earn_succ P hat
       simp only at hes
       rw [←q6] at hes
       have t1:=htk j
       have t2:=htk (j+1)
       rw [hes] at t2
       have kb:=sBet L x y hLl
       have er:betR L x y=.tup [.d (.int .i64 n),.d (.int .i64 0)]:=by rw [betR,betV,q1];rfl
       rw [er] at kb
       have ks:=sSumS P x y (by omega)
       rw [q2] at ks
       simp only [slS,dSl,slC,vS,vSt,cSt,slK,List.length_map] at kb ks
       have hg:=hg default
       have d0:decide ((j:Int)<(Q.length:Int))=true:=decide_eq_true (by omega)
       have w1:IntKind.i64.wrap ((j:Int)+1)=((j+1:Nat):Int):=wS (by omega)
       have d3:decide (n<0)=false:=decide_eq_false (by omega)
       have d4:decide (n≥0)=true:=decide_eq_true (by omega)
       by_cases hbig:n>10928961748633879
       ·have d5:decide (n>10928961748633879)=true:=decide_eq_true hbig
        simp only [slS,dSl,slC,slP,dP,cSt,slK,List.length_map,d0,hg,vcd,↓vcp,seval]
        repeat' first|((first|refine tp hP (by first|exact kb|exact ks) ?_|refine tg hP (fun _=>by first|exact kb|exact ks) ?_|refine tv hP rfl (by first|exact kb|exact ks) ?_);try simp only [d0,hg,n0,z0,d3,d4,d5,vcd,↓vcp,seval])|refine And.intro (fun h=>?_) (fun h=>?_)|refine aO ?_|(refine tA rfl rfl rfl rfl ?_;try simp only [d0,hg,n0,z0,d3,d4,d5,vcd,↓vcp,seval])|refine aT ?_|fail
        exact RetK.pure (by simp only [rs6,rsb,vcd,↓vcp,seval]) (by (simp only [rs6,rsb,enb,vcd,↓vcp,seval])<;>(first|exact VLe.refl _))
       ·have d5:decide (n>10928961748633879)=false:=decide_eq_false hbig
        have w2:IntKind.i64.wrap (365*n)=365*n:=wI (by omega)
        have w3:IntKind.i64.wrap (365*n-cost)=365*n-cost:=wI (by omega)
        have w4:IntKind.i64.wrap (cost-365*n)=cost-365*n:=wI (by omega)
        have w5:IntKind.i64.wrap (earnL P (Q.take j)+n)=earnL P (Q.take j)+n:=wI (by omega)
        have d6:decide (365*n-cost>365)=false:=decide_eq_false (by omega)
        have d7:decide (cost-365*n>365)=false:=decide_eq_false (by omega)
        simp only [slS,dSl,slC,slP,dP,cSt,slK,List.length_map,d0,hg,vcd,↓vcp,seval]
        repeat' first|((first|refine tp hP (by first|exact kb|exact ks) ?_|refine tg hP (fun _=>by first|exact kb|exact ks) ?_|refine tv hP rfl (by first|exact kb|exact ks) ?_);try simp only [d0,hg,n0,z0,d3,d4,d5,w2,w3,w4,w5,d6,d7,w1,vcd,↓vcp,seval])|refine And.intro (fun h=>?_) (fun h=>?_)|refine aO ?_|(refine tA rfl rfl rfl rfl ?_;try simp only [d0,hg,n0,z0,d3,d4,d5,w2,w3,w4,w5,d6,d7,w1,vcd,↓vcp,seval])|refine aT ?_|fail
        refine lopK.on (j+1) (by omega) (by omega) (Wk.of _ hfn rfl (by simp only [slS,dSl,slC,slP,dP,hes,w5,w1,enb,vcd,↓vcp,seval]) (by simp only [cSt,slK,List.length_map,enb,vcd,↓vcp,seval]))
      ·obtain rfl:j=Q.length:=by omega
       have d0:decide ((Q.length:Int)<(Q.length:Int))=false:=decide_eq_false (by omega)
       have d8:decide ((Q.length:Int)>0)=true:=decide_eq_true (by omega)
       have d9:(w == w)=true:=by simp
       rw [List.take_length,hall]
       simp only [slS,dSl,slC,slP,dP,cSt,slK,List.length_map,d0,vcd,↓vcp,seval]
       repeat' first|refine And.intro (fun h=>?_) (fun h=>?_)|refine aO ?_|(refine tA rfl rfl rfl rfl ?_;try simp only [d0,d8,d9,z0,vcd,↓vcp,seval])|refine aT ?_|fail
       exact RetK.pure (by simp only [rs6,rsb,vcd,↓vcp,seval]) (by (simp only [rs6,rsb,enb,vcd,↓vcp,seval])<;>(first|exact VLe.refl _|exact d8))
   ·have n1:((uptoF (ofS hh t).1 292195).2 != 0)=true:=bne_iff_ne.2 e2
    rw [e1] at ko
    generalize ofS hh t=L at *
    generalize uptoF L.1 292195=U at *
    simp only [vHi,cHi,slC,slH,dCh,slV,dVs,slB,slS,dSl] at ko kw
    refine ctr_pure Tryz.func6 ok6 rfl cc6 cr6 Tryz.ntmps6 (by simp) rfl rfl ?_;intro c hP hfn;simp only [kc6,vHi,cHi,slC,slH,dCh,slV,dVs,slB,slK,d1,vcd,↓vcp,seval]
    repeat' first|((first|refine tp hP (by first|exact k0|exact kf|exact ko|exact kw) ?_|refine tg hP (fun _=>by first|exact k0|exact kf|exact ko|exact kw) ?_|refine tv hP rfl (by first|exact k0|exact kf|exact ko|exact kw) ?_);try simp only [d1,n0,n1,vcd,↓vcp,seval])|refine And.intro (fun h=>?_) (fun h=>?_)|refine aO ?_|(refine tA rfl rfl rfl rfl ?_;try simp only [d1,n0,n1,vcd,↓vcp,seval])|refine aT ?_|fail
    exact RetK.pure (by simp only [rs6,rsb,vcd,↓vcp,seval]) (by (simp only [rs6,rsb,enb,vcd,↓vcp,seval])<;>(first|exact VLe.refl _))
  ·have n1:((ofS hh t).2 != 0)=true:=bne_iff_ne.2 e1
   generalize ofS hh t=L at *
   simp only [vHi,cHi,slC,slH,dCh,slV,dVs,slB,slS,dSl] at ko kw
   refine ctr_pure Tryz.func6 ok6 rfl cc6 cr6 Tryz.ntmps6 (by simp) rfl rfl ?_;intro c hP hfn;simp only [kc6,vHi,cHi,slC,slH,dCh,slV,dVs,slB,slK,d1,vcd,↓vcp,seval]
   repeat' first|((first|refine tp hP (by first|exact k0|exact kf|exact ko|exact kw) ?_|refine tg hP (fun _=>by first|exact k0|exact kf|exact ko|exact kw) ?_|refine tv hP rfl (by first|exact k0|exact kf|exact ko|exact kw) ?_);try simp only [d1,n1,vcd,↓vcp,seval])|refine And.intro (fun h=>?_) (fun h=>?_)|refine aO ?_|(refine tA rfl rfl rfl rfl ?_;try simp only [d1,n1,vcd,↓vcp,seval])|refine aT ?_|fail
   exact RetK.pure (by simp only [rs6,rsb,vcd,↓vcp,seval]) (by (simp only [rs6,rsb,enb,vcd,↓vcp,seval])<;>(first|exact VLe.refl _))
end Go.Proofs.YtanppabbmffokaaGreat
end
section
namespace Go.Proofs.YtanppabbmffokaaGreat
open Go.ChangeShapes Go.WideShapes Go.ChangeAt Go.RowKit Go.Bx
set_option maxRecDepth 100000
theorem topPremiumMonths_lifted (os:Os) (started:os.Started) (H:Type) (enc:TypeId×Value→H) :
  ReturnsInHanded {} Tryz.checked os 6 .any (Rows.topPremiumMonthsSpec.pre6 enc Tryz.prog Tryz.f6 Rows.topPremiumMonthsRow.domain false) (Rows.topPremiumMonthsSpec.post enc Tryz.prog Tryz.f6 false true false false):=by
 refine returnsInHanded_of_change (C:=Tryz.checked) Tryz.own started (by kernel_rfl) Tryz.func6
  (ChangeSpec.witness6 (enc:=enc) (C:=Tryz.checked) false ⟨#[],#[.agg #[.int .i64 0,.int .i64 0,.int .i64 0,.int .i64 0,.int .i64 0,.int .i64 0,.int .i64 0,.int .i64 0,.slice none 0 0,.slice none 0 0],.agg #[.slice none 0 0],.slice none 0 0],[]⟩ 8 (by kernel_rfl) (by kernel_rfl) (by kernel_rfl) (by kernel_rfl)) ?_
 intro W base args ds gs before hval hW _ _
 refine law_calls (tb:=4) Tryz.laidOut (by kernel_rfl) (by kernel_rfl) Tryz.underlying4 rfl ?_ ?_ W base args ds gs before hval hW
 ·intro ds hd
  match ds,hd with
  |[_,_,_],_=>rfl
 ·intro W base args ds p hval hA
  rw [show Tryz.f6.params.toList=[31,34,46] by kernel_rfl] at hA
  obtain ⟨v0,v1,v2,d0,d1,d2,p0,p1,p2,rfl,rfl,_,h0,h1,h2⟩:=trodAll_three hA
  obtain ⟨h,hk,r0⟩:=history_reads.agg (by kernel_rfl) (hval 0 31 v0 rfl rfl) h0
  obtain ⟨t,tk,r1⟩:=tariff_reads.agg (by kernel_rfl) (hval 1 34 v1 rfl rfl) h1
  obtain ⟨l,lk,r2⟩:=ints_reads.cell (by kernel_rfl) (hval 2 46 v2 rfl rfl) h2
  exact ⟨[vHi h,.ag [.d (slV t)],.d (slK .i64 l)],rfl,rel3 r0 r1 r2,lMonths h t l hk.2.2.1 tk.1 lk.1⟩
theorem topPremiumMonths_holds:Rows.TopPremiumMonthsSaid:=
 OpenClaim.holds_of_wide 6 Tryz.f6 rfl rfl rfl rfl rfl rfl rfl ⟨rfl,rfl,rfl,rfl,rfl⟩ rfl rfl rfl rfl rfl (by kernel_rfl) Tryz.func6 (by kernel_rfl)
  (of_decide_eq_true (by kernel_rfl)) (by unfold Func.isWrapper;first|(rw [if_pos (by decide +kernel)];kernel_rfl)|(rw [if_neg (by decide +kernel)];exact ⟨rfl,rfl⟩))
  (fun os started H enc _=>topPremiumMonths_lifted os started H enc)
end Go.Proofs.YtanppabbmffokaaGreat
end
