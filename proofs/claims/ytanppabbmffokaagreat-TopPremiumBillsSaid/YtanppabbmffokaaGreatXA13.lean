import Derived.Test.YtanppabbmffokaaGreatXA12
section
set_option linter.unusedSimpArgs false
set_option linter.unusedVariables false
namespace Go.Proofs.YtanppabbmffokaaGreat
set_option linter.unusedSimpArgs false
set_option linter.unusedVariables false
open Go.Bx
set_option maxRecDepth 10000
def withOut (h:Hi) (x:Int):Hi:={ h with ch:=h.ch.take x.toNat++h.ch.drop (x.toNat+1) }
def keptC (h:Hi) (t:List Vs) (x:Int):Int×Int:=
 if (ofS (withOut h x) t).2≠0 then (0,(ofS (withOut h x) t).2) else
 if (betF (ofS (withOut h x) t).1 (h.ch.getD x.toNat default).dy h.tm.st).2≠0 then (0,(betF (ofS (withOut h x) t).1 (h.ch.getD x.toNat default).dy h.tm.st).2) else
  bpR (betF (ofS (withOut h x) t).1 (h.ch.getD x.toNat default).dy h.tm.st).1 1000
def keptF (h:Hi) (t:List Vs):Int×Int:=
 if (ofS h t).2≠0 then (0,(ofS h t).2) else
  match turnS h with
  |none=>(0,0)
  |some x=>if (h.ch.getD x.toNat default).kd≠3∨(h.ch.getD x.toNat default).wy≠1 then (0,0) else keptC h t x
theorem turnS_ok {h:Hi} {x:Int} (e:turnS h=some x):okH h.ch x:=orderC_ok h.ch x (turnL_mem e).1
theorem withOut_sz {h:Hi} (z:SzC h) (x:Int):SzC (withOut h x):=by
 refine ⟨z.t,?_,fun c hc=>?_⟩
 ·have:=z.n
  simp only [withOut,List.length_append,List.length_take,List.length_drop];omega
 ·simp only [withOut,List.mem_append] at hc
  rcases hc with hc|hc
  ·exact z.c c (List.mem_of_mem_take hc)
  ·exact z.c c (List.mem_of_mem_drop hc)
theorem wrap_le (x:Int):IntKind.i64.wrap x≤9223372036854775807:=by
 have h:IntKind.i64.wrap x=if x % 18446744073709551616≥9223372036854775808 then x % 18446744073709551616-18446744073709551616 else x % 18446744073709551616:=by
  simp [IntKind.wrap,IntKind.signed,IntKind.bits]
 rw [h];split<;>omega
theorem betF_le (l:List Sl) (a b:Int):(betF l a b).1≤9223372036854775807:=by
 unfold betF
 repeat' split
 all_goals first|exact wrap_le _|simp
theorem sOut (h:Hi) (x:Int) (hx:0≤x∧x<(h.ch.length:Int)) (hn:h.ch.length≤1000000) :
  Ctr Tryz.prog 87 [.d (.sl true 1 2 (litRow 1 [.sl false 9 x.toNat (fun i=>dCh (h.ch.getD i default)),.sl false 9 (h.ch.length-(x+1).toNat) (fun i=>dCh (h.ch.getD ((x+1).toNat+i) default))]))] [] (.d (slH (withOut h x).ch)) [] []:=by
 have e1:(x+1).toNat=x.toNat+1:=by omega
 have h0:x.toNat<h.ch.length:=by omega
 have lt:(h.ch.take x.toNat).length=x.toNat:=by rw [List.length_take];omega
 have ld:(h.ch.drop (x.toNat+1)).length=h.ch.length-(x.toNat+1):=by rw [List.length_drop]
 have hc:=sConcatH [h.ch.take x.toNat,h.ch.drop (x.toNat+1)] (fun _=>false) (fun i j=>if i=0 then dCh (h.ch.getD j default) else dCh (h.ch.getD ((x+1).toNat+j) default)) ?_ (by simp) ?_
 ·have ef:[h.ch.take x.toNat,h.ch.drop (x.toNat+1)].flatten=(withOut h x).ch:=by simp [withOut]
  rw [ef] at hc
  refine hc.arg ⟨VLe.sl rfl (fun _=>rfl) (fun _=>rfl) (fun i hi=>?_),trivial⟩
  have:i=0∨i=1:=by omega
  rcases this with rfl|rfl
  ·simp [litRow,lt]
  ·simp [litRow,ld,e1]
 ·intro i j hi hj
  have:i=0∨i=1:=by simp at hi;omega
  rcases this with rfl|rfl
  ·simp only [List.getD_cons_zero] at hj ⊢
   rw [lt] at hj
   rw [if_pos trivial,List.getD_eq_getElem?_getD,List.getD_eq_getElem?_getD,List.getElem?_take_of_lt hj]
  ·simp only [List.getD_cons_succ,List.getD_cons_zero] at hj ⊢
   rw [if_neg (by omega),List.getD_eq_getElem?_getD,List.getD_eq_getElem?_getD,List.getElem?_drop,e1]
 ·simp;omega
set_option maxHeartbeats 2000000 in
theorem sKeptF (hh:Hi) (t:List Vs) (z:SzC hh) (ht:t.length≤1000000) (hz:∀ v,v∈t→SzV v) (hl:∀ x,(ofS (withOut hh x) t).1.length≤9223372036854775807) :
  Ctr Tryz.prog 39 [vHi hh,.ag [.d (slV t)]] [] (.tup [.d (.int .i64 (keptF hh t).1),.d (.int .i64 (keptF hh t).2)]) [] []:=by
 have co:=sOfS hh t z ht hz
 have ct:=sTurn hh (by have:=z.n;omega)
 simp only [vHi,cHi,slC,slH,dCh,slV,dVs,slB,slS,dSl] at co ct
 by_cases h0:(ofS hh t).2=0
 ·have n0:((0:Int) != 0)=false:=rfl
  rw [h0] at co
  cases hx:turnS hh with
  |none =>
   have e:keptF hh t=(0,0):=by rw [keptF,if_neg (by simpa using h0),hx]
   rw [hx] at ct
   simp only [turnV,Option.getD_none,Option.isSome_none] at ct
   rw [e]
   refine ctr_pure Tryz.func39 ok39 rfl cc39 cr39 Tryz.ntmps39 (by simp) rfl rfl ?_;intro c hP hfn;simp only [kc39,vHi,cHi,slC,slH,dCh,slV,dVs,slB,vcd,↓vcp,seval]
   repeat' first|((first|refine tp hP (by first|exact co|exact ct) ?_|refine tg hP (fun _=>by first|exact co|exact ct) ?_|refine tv hP rfl (by first|exact co|exact ct) ?_);try simp only [n0,vcd,↓vcp,seval])|refine And.intro (fun h=>?_) (fun h=>?_)|refine aO ?_|(refine tA rfl rfl rfl rfl ?_;try simp only [n0,vcd,↓vcp,seval])|refine aT ?_|fail
   exact RetK.pure (by simp only [rs39,rsb,vcd,↓vcp,seval]) (by (simp only [rs39,rsb,enb,vcd,↓vcp,seval])<;>(first|exact VLe.refl _))
  |some x =>
   obtain ⟨hx0,hx1⟩:=turnS_ok hx
   have hn:=z.n
   rw [hx] at ct
   simp only [turnV,Option.getD_some,Option.isSome_some] at ct
   have b1:(0:Int)≤x∧x<(hh.ch.length:Int):=by omega
   by_cases hk:(hh.ch.getD x.toNat default).kd≠3∨(hh.ch.getD x.toNat default).wy≠1
   ·have e:keptF hh t=(0,0):=by rw [keptF,if_neg (by simpa using h0),hx];simp only [if_pos hk]
    rw [e]
    by_cases hk3:(hh.ch.getD x.toNat default).kd=3
    ·have d3:((hh.ch.getD x.toNat default).kd != 3)=false:=by rw [bne_eq_false_iff_eq];exact hk3
     have d1:((hh.ch.getD x.toNat default).wy != 1)=true:=by rw [bne_iff_ne];rcases hk with h|h;exact absurd hk3 h;exact h
     refine ctr_pure Tryz.func39 ok39 rfl cc39 cr39 Tryz.ntmps39 (by simp) rfl rfl ?_;intro c hP hfn;simp only [kc39,vHi,cHi,slC,slH,dCh,slV,dVs,slB,vcd,↓vcp,seval]
     repeat' first|((first|refine tp hP (by first|exact co|exact ct) ?_|refine tg hP (fun _=>by first|exact co|exact ct) ?_|refine tv hP rfl (by first|exact co|exact ct) ?_);try simp only [n0,d3,d1,vcd,↓vcp,seval])|refine And.intro (fun h=>?_) (fun h=>?_)|refine aO ?_|(refine tA rfl rfl rfl rfl ?_;try simp only [n0,d3,d1,vcd,↓vcp,seval])|refine aT ?_|fail
     exact RetK.pure (by simp only [rs39,rsb,vcd,↓vcp,seval]) (by (simp only [rs39,rsb,enb,vcd,↓vcp,seval])<;>(first|exact VLe.refl _))
    ·have d3:((hh.ch.getD x.toNat default).kd != 3)=true:=by rw [bne_iff_ne];exact hk3
     refine ctr_pure Tryz.func39 ok39 rfl cc39 cr39 Tryz.ntmps39 (by simp) rfl rfl ?_;intro c hP hfn;simp only [kc39,vHi,cHi,slC,slH,dCh,slV,dVs,slB,vcd,↓vcp,seval]
     repeat' first|((first|refine tp hP (by first|exact co|exact ct) ?_|refine tg hP (fun _=>by first|exact co|exact ct) ?_|refine tv hP rfl (by first|exact co|exact ct) ?_);try simp only [n0,d3,vcd,↓vcp,seval])|refine And.intro (fun h=>?_) (fun h=>?_)|refine aO ?_|(refine tA rfl rfl rfl rfl ?_;try simp only [n0,d3,vcd,↓vcp,seval])|refine aT ?_|fail
     exact RetK.pure (by simp only [rs39,rsb,vcd,↓vcp,seval]) (by (simp only [rs39,rsb,enb,vcd,↓vcp,seval])<;>(first|exact VLe.refl _))
   ·have e:keptF hh t=keptC hh t x:=by rw [keptF,if_neg (by simpa using h0),hx];simp only [if_neg hk]
    have hk3:(hh.ch.getD x.toNat default).kd=3:=by omega
    have hk1:(hh.ch.getD x.toNat default).wy=1:=by omega
    have d3:((hh.ch.getD x.toNat default).kd != 3)=false:=by rw [bne_eq_false_iff_eq];exact hk3
    have d1:((hh.ch.getD x.toNat default).wy != 1)=false:=by rw [bne_eq_false_iff_eq];exact hk1
    have w1:IntKind.i64.wrap (x+1)=x+1:=wI (by omega)
    rw [e]
    have cx:=sOut hh x b1 (by omega)
    have cf:=sOfS (withOut hh x) t (withOut_sz z x) ht hz
    have hl:=hl x
    rw [keptC]
    generalize hL:(ofS (withOut hh x) t).1=L at *
    generalize hE:(ofS (withOut hh x) t).2=e1 at *
    have hw:(withOut hh x).id=hh.id∧(withOut hh x).bk=hh.bk∧(withOut hh x).tm=hh.tm:=⟨rfl,rfl,rfl⟩
    generalize withOut hh x=h2 at *
    obtain ⟨w5,w6,w7⟩:=hw
    simp only [vHi,cHi,slC,slH,dCh,slV,dVs,slB,slS,dSl,w5,w6,w7] at cx cf
    by_cases h1:e1=0
    ·subst h1
     have cb:=sBet L (hh.ch.getD x.toNat default).dy hh.tm.st hl
     have hle:=betF_le L (hh.ch.getD x.toNat default).dy hh.tm.st
     rw [if_neg (by simp)]
     simp only [betR,betV] at cb
     generalize hB:betF L (hh.ch.getD x.toNat default).dy hh.tm.st=B at *
     obtain ⟨bn,be⟩:=B
     simp only at cb hle ⊢
     simp only [vHi,cHi,slC,slH,dCh,slV,dVs,slB,slS,dSl,vS] at cb
     by_cases h3:be=0
     ·subst h3
      have cp:=sBp bn 1000 hle (by omega)
      simp only [if_true] at cb
      rw [if_neg (by simp)]
      refine ctr_pure Tryz.func39 ok39 rfl cc39 cr39 Tryz.ntmps39 (by simp) rfl rfl ?_;intro c hP hfn;simp only [kc39,vHi,cHi,slC,slH,dCh,slV,dVs,slB,vcd,↓vcp,seval]
      repeat' first|((first|refine tp hP (by first|exact co|exact ct|exact cx|exact cf|exact cb|exact cp) ?_|refine tg hP (fun _=>by first|exact co|exact ct|exact cx|exact cf|exact cb|exact cp) ?_|refine tv hP rfl (by first|exact co|exact ct|exact cx|exact cf|exact cb|exact cp) ?_);try simp only [n0,d3,d1,w1,vcd,↓vcp,seval])|refine And.intro (fun h=>?_) (fun h=>?_)|refine aO ?_|(refine tA rfl rfl rfl rfl ?_;try simp only [n0,d3,d1,w1,vcd,↓vcp,seval])|refine aT ?_|fail
      exact RetK.pure (by simp only [rs39,rsb,vcd,↓vcp,seval]) (by (simp only [rs39,rsb,enb,vcd,↓vcp,seval])<;>(first|exact VLe.refl _))
     ·have n3:(be != 0)=true:=bne_iff_ne.2 h3
      simp only [if_neg h3] at cb
      rw [if_pos h3]
      refine ctr_pure Tryz.func39 ok39 rfl cc39 cr39 Tryz.ntmps39 (by simp) rfl rfl ?_;intro c hP hfn;simp only [kc39,vHi,cHi,slC,slH,dCh,slV,dVs,slB,vcd,↓vcp,seval]
      repeat' first|((first|refine tp hP (by first|exact co|exact ct|exact cx|exact cf|exact cb) ?_|refine tg hP (fun _=>by first|exact co|exact ct|exact cx|exact cf|exact cb) ?_|refine tv hP rfl (by first|exact co|exact ct|exact cx|exact cf|exact cb) ?_);try simp only [n0,d3,d1,w1,n3,vcd,↓vcp,seval])|refine And.intro (fun h=>?_) (fun h=>?_)|refine aO ?_|(refine tA rfl rfl rfl rfl ?_;try simp only [n0,d3,d1,w1,n3,vcd,↓vcp,seval])|refine aT ?_|fail
      exact RetK.pure (by simp only [rs39,rsb,vcd,↓vcp,seval]) (by (simp only [rs39,rsb,enb,vcd,↓vcp,seval])<;>(first|exact VLe.refl _))
    ·have n3:(e1 != 0)=true:=bne_iff_ne.2 h1
     rw [if_pos h1]
     refine ctr_pure Tryz.func39 ok39 rfl cc39 cr39 Tryz.ntmps39 (by simp) rfl rfl ?_;intro c hP hfn;simp only [kc39,vHi,cHi,slC,slH,dCh,slV,dVs,slB,vcd,↓vcp,seval]
     repeat' first|((first|refine tp hP (by first|exact co|exact ct|exact cx|exact cf) ?_|refine tg hP (fun _=>by first|exact co|exact ct|exact cx|exact cf) ?_|refine tv hP rfl (by first|exact co|exact ct|exact cx|exact cf) ?_);try simp only [n0,d3,d1,w1,n3,vcd,↓vcp,seval])|refine And.intro (fun h=>?_) (fun h=>?_)|refine aO ?_|(refine tA rfl rfl rfl rfl ?_;try simp only [n0,d3,d1,w1,n3,vcd,↓vcp,seval])|refine aT ?_|fail
     exact RetK.pure (by simp only [rs39,rsb,vcd,↓vcp,seval]) (by (simp only [rs39,rsb,enb,vcd,↓vcp,seval])<;>(first|exact VLe.refl _))
 ·have n1:((ofS hh t).2 != 0)=true:=bne_iff_ne.2 h0
  have e:keptF hh t=(0,(ofS hh t).2):=by rw [keptF,if_pos h0]
  rw [e]
  refine ctr_pure Tryz.func39 ok39 rfl cc39 cr39 Tryz.ntmps39 (by simp) rfl rfl ?_;intro c hP hfn;simp only [kc39,vHi,cHi,slC,slH,dCh,slV,dVs,slB,vcd,↓vcp,seval]
  repeat' first|((first|refine tp hP (by exact co) ?_|refine tg hP (fun _=>by exact co) ?_|refine tv hP rfl (by exact co) ?_);try simp only [n1,vcd,↓vcp,seval])|refine And.intro (fun h=>?_) (fun h=>?_)|refine aO ?_|(refine tA rfl rfl rfl rfl ?_;try simp only [n1,vcd,↓vcp,seval])|refine aT ?_|fail
  exact RetK.pure (by simp only [rs39,rsb,vcd,↓vcp,seval]) (by (simp only [rs39,rsb,enb,vcd,↓vcp,seval])<;>(first|exact VLe.refl _))
end Go.Proofs.YtanppabbmffokaaGreat
end
section
set_option linter.unusedSimpArgs false
set_option linter.unusedVariables false
namespace Go.Proofs.YtanppabbmffokaaGreat
set_option linter.unusedSimpArgs false
set_option linter.unusedVariables false
open Go.Bx
set_option maxRecDepth 10000
theorem ofS_len {h:Hi} {t:List Vs} (z:SzC h):(ofS h t).1.length≤9223372036854775807:=by
 have h1:=(cutS_ok z).1
 have h2:=z.n
 unfold ofS
 repeat' split
 all_goals simp
 omega
theorem sKept2 (hh:Hi) (t:List Vs) (z:SzC hh) (ht:t.length≤1000000) (hz:∀ v,v∈t→SzV v) :
  Ctr Tryz.prog 39 [vHi hh,.ag [.d (slV t)]] [] (.tup [.d (.int .i64 (keptF hh t).1),.d (.int .i64 (keptF hh t).2)]) [] []:=sKeptF hh t z ht hz fun x=>ofS_len (withOut_sz z x)
def dueF (h:Hi) (t:List Vs):Int×Int:=
 if (keptF h t).2≠0 then (0,(keptF h t).2) else
 if (uptoF (ofS h t).1 292195).2≠0 then (0,(uptoF (ofS h t).1 292195).2) else
 if (uptoF (ofS h t).1 292195).1>IntKind.i64.wrap (4000000000000000000-(keptF h t).1) then (0,5) else (IntKind.i64.wrap ((uptoF (ofS h t).1 292195).1+(keptF h t).1),0)
set_option maxHeartbeats 2000000 in
theorem sDueF (hh:Hi) (t:List Vs) (z:SzC hh) (ht:t.length≤1000000) (hz:∀ v,v∈t→SzV v) :
  Ctr Tryz.prog 11 [vHi hh,.ag [.d (slV t)]] [] (.tup [.d (.int .i64 (dueF hh t).1),.d (.int .i64 (dueF hh t).2)]) [] []:=by
 have ck:=sKept2 hh t z ht hz
 have co:=sOfS hh t z ht hz
 have cw:=sWritten (ofS hh t).1 (ofS_len z)
 rw [dueF]
 generalize keptF hh t=K at *
 generalize ofS hh t=L at *
 generalize uptoF L.1 292195=U at *
 obtain ⟨k,ke⟩:=K
 obtain ⟨L,le⟩:=L
 obtain ⟨u,ue⟩:=U
 simp only [vHi,cHi,slC,slH,dCh,slV,dVs,slB,slS,dSl] at ck co cw
 by_cases h1:ke=0
 ·subst h1
  have n0:((0:Int) != 0)=false:=rfl
  rw [if_neg (by simp)]
  by_cases h2:ue=0
  ·subst h2
   rw [if_neg (by simp)]
   generalize hw:IntKind.i64.wrap (4000000000000000000-k)=m at *
   by_cases h3:u>m
   ·have d3:decide (u>m)=true:=decide_eq_true h3
    rw [if_pos h3]
    refine ctr_pure Tryz.func11 ok11 rfl cc11 cr11 Tryz.ntmps11 (by simp) rfl rfl ?_;intro c hP hfn;simp only [kc11,vHi,cHi,slC,slH,dCh,slV,dVs,slB,vcd,↓vcp,seval]
    repeat' first|((first|refine tp hP (by first|exact ck|exact co|exact cw) ?_|refine tg hP (fun _=>by first|exact ck|exact co|exact cw) ?_|refine tv hP rfl (by first|exact ck|exact co|exact cw) ?_);try simp only [n0,hw,d3,vcd,↓vcp,seval])|refine And.intro (fun h=>?_) (fun h=>?_)|refine aO ?_|(refine tA rfl rfl rfl rfl ?_;try simp only [n0,hw,d3,vcd,↓vcp,seval])|refine aT ?_|fail
    exact RetK.pure (by simp only [rs11,rsb,vcd,↓vcp,seval]) (by (simp only [rs11,rsb,enb,vcd,↓vcp,seval])<;>(first|exact VLe.refl _))
   ·have d3:decide (u>m)=false:=decide_eq_false h3
    rw [if_neg h3]
    refine ctr_pure Tryz.func11 ok11 rfl cc11 cr11 Tryz.ntmps11 (by simp) rfl rfl ?_;intro c hP hfn;simp only [kc11,vHi,cHi,slC,slH,dCh,slV,dVs,slB,vcd,↓vcp,seval]
    repeat' first|((first|refine tp hP (by first|exact ck|exact co|exact cw) ?_|refine tg hP (fun _=>by first|exact ck|exact co|exact cw) ?_|refine tv hP rfl (by first|exact ck|exact co|exact cw) ?_);try simp only [n0,hw,d3,vcd,↓vcp,seval])|refine And.intro (fun h=>?_) (fun h=>?_)|refine aO ?_|(refine tA rfl rfl rfl rfl ?_;try simp only [n0,hw,d3,vcd,↓vcp,seval])|refine aT ?_|fail
    exact RetK.pure (by simp only [rs11,rsb,vcd,↓vcp,seval]) (by (simp only [rs11,rsb,enb,vcd,↓vcp,seval])<;>(first|exact VLe.refl _))
  ·have n1:(ue != 0)=true:=bne_iff_ne.2 h2
   rw [if_pos h2]
   refine ctr_pure Tryz.func11 ok11 rfl cc11 cr11 Tryz.ntmps11 (by simp) rfl rfl ?_;intro c hP hfn;simp only [kc11,vHi,cHi,slC,slH,dCh,slV,dVs,slB,vcd,↓vcp,seval]
   repeat' first|((first|refine tp hP (by first|exact ck|exact co|exact cw) ?_|refine tg hP (fun _=>by first|exact ck|exact co|exact cw) ?_|refine tv hP rfl (by first|exact ck|exact co|exact cw) ?_);try simp only [n0,n1,vcd,↓vcp,seval])|refine And.intro (fun h=>?_) (fun h=>?_)|refine aO ?_|(refine tA rfl rfl rfl rfl ?_;try simp only [n0,n1,vcd,↓vcp,seval])|refine aT ?_|fail
   exact RetK.pure (by simp only [rs11,rsb,vcd,↓vcp,seval]) (by (simp only [rs11,rsb,enb,vcd,↓vcp,seval])<;>(first|exact VLe.refl _))
 ·have n1:(ke != 0)=true:=bne_iff_ne.2 h1
  rw [if_pos h1]
  refine ctr_pure Tryz.func11 ok11 rfl cc11 cr11 Tryz.ntmps11 (by simp) rfl rfl ?_;intro c hP hfn;simp only [kc11,vHi,cHi,slC,slH,dCh,slV,dVs,slB,vcd,↓vcp,seval]
  repeat' first|((first|refine tp hP (by exact ck) ?_|refine tg hP (fun _=>by exact ck) ?_|refine tv hP rfl (by exact ck) ?_);try simp only [n1,vcd,↓vcp,seval])|refine And.intro (fun h=>?_) (fun h=>?_)|refine aO ?_|(refine tA rfl rfl rfl rfl ?_;try simp only [n1,vcd,↓vcp,seval])|refine aT ?_|fail
  exact RetK.pure (by simp only [rs11,rsb,vcd,↓vcp,seval]) (by (simp only [rs11,rsb,enb,vcd,↓vcp,seval])<;>(first|exact VLe.refl _))
def givenF (h:Hi) (t:List Vs) (c:Ch):Int×Int:=
 if (putC h c).2≠0 then (0,(putC h c).2) else
 if (dueF h t).2≠0 then (0,(dueF h t).2) else
 if (dueF (putC h c).1 t).2≠0 then (0,(dueF (putC h c).1 t).2) else
  (IntKind.i64.wrap ((dueF h t).1-(dueF (putC h c).1 t).1),0)
theorem putC_sz {h:Hi} {c:Ch} (z:SzC h) (hc:c.cv.length≤1000000):SzC (putC h c).1:=by
 have z0:SzC zHi:=⟨by simp [zHi],by simp [zHi],fun c h=>by simp [zHi] at h⟩
 rw [putC]
 by_cases h1:(rightCh c&&inT h.tm c.dy)=false
 ·rw [if_pos h1];exact z0
 ·rw [if_neg h1]
  by_cases h2:c.bk<lastB h
  ·rw [if_pos h2];exact z0
  ·rw [if_neg h2]
   by_cases h3:h.ch.length≥2000
   ·rw [if_pos h3];exact z0
   ·rw [if_neg h3]
    refine ⟨z.t,by simp;omega,fun x hx=>?_⟩
    simp only [List.mem_append,List.mem_singleton] at hx
    rcases hx with hx|rfl
    ·exact z.c x hx
    ·exact hc
set_option maxHeartbeats 2000000 in
theorem sGivenF (hh:Hi) (t:List Vs) (c':Ch) (z:SzC hh) (ht:t.length≤1000000) (hz:∀ v,v∈t→SzV v) (hcv:c'.cv.length≤1000000) :
  Ctr Tryz.prog 12 [vHi hh,.ag [.d (slV t)],vCh c'] [] (.tup [.d (.int .i64 (givenF hh t c').1),.d (.int .i64 (givenF hh t c').2)]) [] []:=by
 have cp:=sPutC hh c' z.t hcv (by have:=z.n;omega)
 have cd:=sDueF hh t z ht hz
 have ce:=sDueF (putC hh c').1 t (putC_sz z hcv) ht hz
 rw [givenF]
 generalize putC hh c'=X at *
 obtain ⟨X,xe⟩:=X
 simp only at ce ⊢
 generalize dueF hh t=D1 at *
 generalize dueF X t=D2 at *
 obtain ⟨d1,de1⟩:=D1
 obtain ⟨d2,de2⟩:=D2
 simp only [vHi,cHi,vCh,cCh,slC,slH,dCh,slV,dVs,slB] at cp cd ce
 by_cases h1:xe=0
 ·subst h1
  have n0:((0:Int) != 0)=false:=rfl
  rw [if_neg (by simp)]
  by_cases h2:de1=0
  ·subst h2
   rw [if_neg (by simp)]
   by_cases h3:de2=0
   ·subst h3
    rw [if_neg (by simp)]
    refine ctr_pure Tryz.func12 ok12 rfl cc12 cr12 Tryz.ntmps12 (by simp) rfl rfl ?_;intro c hP hfn;simp only [kc12,vHi,cHi,vCh,cCh,slC,slH,dCh,slV,dVs,slB,vcd,↓vcp,seval]
    repeat' first|((first|refine tp hP (by first|exact cp|exact cd|exact ce) ?_|refine tg hP (fun _=>by first|exact cp|exact cd|exact ce) ?_|refine tv hP rfl (by first|exact cp|exact cd|exact ce) ?_);try simp only [n0,vcd,↓vcp,seval])|refine And.intro (fun h=>?_) (fun h=>?_)|refine aO ?_|(refine tA rfl rfl rfl rfl ?_;try simp only [n0,vcd,↓vcp,seval])|refine aT ?_|fail
    exact RetK.pure (by simp only [rs12,rsb,vcd,↓vcp,seval]) (by (simp only [rs12,rsb,enb,vcd,↓vcp,seval])<;>(first|exact VLe.refl _))
   ·have n1:(de2 != 0)=true:=bne_iff_ne.2 h3
    rw [if_pos h3]
    refine ctr_pure Tryz.func12 ok12 rfl cc12 cr12 Tryz.ntmps12 (by simp) rfl rfl ?_;intro c hP hfn;simp only [kc12,vHi,cHi,vCh,cCh,slC,slH,dCh,slV,dVs,slB,vcd,↓vcp,seval]
    repeat' first|((first|refine tp hP (by first|exact cp|exact cd|exact ce) ?_|refine tg hP (fun _=>by first|exact cp|exact cd|exact ce) ?_|refine tv hP rfl (by first|exact cp|exact cd|exact ce) ?_);try simp only [n0,n1,vcd,↓vcp,seval])|refine And.intro (fun h=>?_) (fun h=>?_)|refine aO ?_|(refine tA rfl rfl rfl rfl ?_;try simp only [n0,n1,vcd,↓vcp,seval])|refine aT ?_|fail
    exact RetK.pure (by simp only [rs12,rsb,vcd,↓vcp,seval]) (by (simp only [rs12,rsb,enb,vcd,↓vcp,seval])<;>(first|exact VLe.refl _))
  ·have n1:(de1 != 0)=true:=bne_iff_ne.2 h2
   rw [if_pos h2]
   refine ctr_pure Tryz.func12 ok12 rfl cc12 cr12 Tryz.ntmps12 (by simp) rfl rfl ?_;intro c hP hfn;simp only [kc12,vHi,cHi,vCh,cCh,slC,slH,dCh,slV,dVs,slB,vcd,↓vcp,seval]
   repeat' first|((first|refine tp hP (by first|exact cp|exact cd) ?_|refine tg hP (fun _=>by first|exact cp|exact cd) ?_|refine tv hP rfl (by first|exact cp|exact cd) ?_);try simp only [n0,n1,vcd,↓vcp,seval])|refine And.intro (fun h=>?_) (fun h=>?_)|refine aO ?_|(refine tA rfl rfl rfl rfl ?_;try simp only [n0,n1,vcd,↓vcp,seval])|refine aT ?_|fail
   exact RetK.pure (by simp only [rs12,rsb,vcd,↓vcp,seval]) (by (simp only [rs12,rsb,enb,vcd,↓vcp,seval])<;>(first|exact VLe.refl _))
 ·have n1:(xe != 0)=true:=bne_iff_ne.2 h1
  rw [if_pos h1]
  refine ctr_pure Tryz.func12 ok12 rfl cc12 cr12 Tryz.ntmps12 (by simp) rfl rfl ?_;intro c hP hfn;simp only [kc12,vHi,cHi,vCh,cCh,slC,slH,dCh,slV,dVs,slB,vcd,↓vcp,seval]
  repeat' first|((first|refine tp hP (by exact cp) ?_|refine tg hP (fun _=>by exact cp) ?_|refine tv hP rfl (by exact cp) ?_);try simp only [n1,vcd,↓vcp,seval])|refine And.intro (fun h=>?_) (fun h=>?_)|refine aO ?_|(refine tA rfl rfl rfl rfl ?_;try simp only [n1,vcd,↓vcp,seval])|refine aT ?_|fail
  exact RetK.pure (by simp only [rs12,rsb,vcd,↓vcp,seval]) (by (simp only [rs12,rsb,enb,vcd,↓vcp,seval])<;>(first|exact VLe.refl _))
end Go.Proofs.YtanppabbmffokaaGreat
end
section
set_option linter.unusedSimpArgs false
set_option linter.unusedVariables false
namespace Go.Proofs.YtanppabbmffokaaGreat
set_option linter.unusedSimpArgs false
set_option linter.unusedVariables false
open Go.Bx
set_option maxRecDepth 10000
def fewC (l:List Ch):Bool:=l.all (fun c=>decide (c.cv.length≤50))
def fewV (t:List Vs):Bool:=t.all (fun v=>decide (v.age.length≤200)&&(decide (v.zn.length≤200)&&decide (v.pr.length≤200)))
def fewF (h:Hi) (t:List Vs):Bool:=decide (h.ch.length≤60)&&(decide (t.length≤100)&&(decide (h.tm.cv.length≤50)&&(fewC h.ch&&fewV t)))
theorem fewC_drop {l:List Ch} {k:Nat} {x:Ch} (h:l.drop k=x::l.drop (k+1)):fewC (l.drop k)=(decide (x.cv.length≤50)&&fewC (l.drop (k+1))):=by
 rw [h];rfl
theorem fewV_drop {l:List Vs} {k:Nat} {x:Vs} (h:l.drop k=x::l.drop (k+1)):fewV (l.drop k)=((decide (x.age.length≤200)&&(decide (x.zn.length≤200)&&decide (x.pr.length≤200)))&&fewV (l.drop (k+1))):=by
 rw [h];rfl
set_option maxHeartbeats 2000000 in
theorem sFew (hh:Hi) (t:List Vs) (h1:hh.ch.length≤9223372036854775807) (h2:t.length≤9223372036854775807):Ctr Tryz.prog 35 [vHi hh,.ag [.d (slV t)]] [] (.d (.bool (fewF hh t))) [] []:=by
 by_cases a1:hh.ch.length≤60
 ·have d1:decide (((hh.ch.length:Nat):Int)>60)=false:=decide_eq_false (by omega)
  by_cases a2:t.length≤100
  ·have d2:decide (((t.length:Nat):Int)>100)=false:=decide_eq_false (by omega)
   by_cases a3:hh.tm.cv.length≤50
   ·have d3:decide (((hh.tm.cv.length:Nat):Int)>50)=false:=decide_eq_false (by omega)
    have e:fewF hh t=(fewC hh.ch&&fewV t):=by rw [fewF,decide_eq_true a1,decide_eq_true a2,decide_eq_true a3];rfl
    rw [e]
    refine ctr_pure Tryz.func35 ok35 rfl cc35 cr35 Tryz.ntmps35 (by simp) rfl rfl ?_;intro c hP hfn;simp only [kc35,vHi,cHi,slC,slH,dCh,slV,dVs,slB,d1,d2,d3,vcd,↓vcp,seval]
    repeat' first|refine And.intro (fun h=>?_) (fun h=>?_)|refine aO ?_|(refine tA rfl rfl rfl rfl ?_;try simp only [d1,d2,d3,vcd,↓vcp,seval])|refine aT ?_|fail
    refine vcC.loop (X:=Nat) (fun k=>⟨[(2,.own 2 0),(3,.own 3 0),(5,.d (.int .i64 k))],[(2,.fix (cHi hh)),(3,.fix [.d (slV t)])],[2,3]⟩)
     (fun k=>k≤hh.ch.length∧fewC hh.ch=fewC (hh.ch.drop k)) (fun k=>hh.ch.length-k) 0 ⟨Nat.zero_le _,rfl⟩ (Wk.of _ hfn rfl (by simp only [enb,vcd,↓vcp,seval]) (by simp only [cHi,slC,slH,dCh,slV,dVs,slB,enb,vcd,↓vcp,seval])) ?_
    rintro k ⟨hk,he⟩
    by_cases hlt:k<hh.ch.length
    ·obtain ⟨x,hd,hg,-,-⟩:=drop_at hlt
     have hg:=hg default
     have b0:decide ((k:Int)<(hh.ch.length:Int))=true:=decide_eq_true (by omega)
     have b1:(0:Int)≤(k:Int)∧(k:Int)<(hh.ch.length:Int):=by omega
     have ewk:IntKind.i64.wrap ((k:Int)+1)=((k+1:Nat):Int):=wS (by omega)
     rw [fewC_drop hd] at he
     by_cases hx:x.cv.length≤50
     ·have d4:decide (((x.cv.length:Nat):Int)>50)=false:=decide_eq_false (by omega)
      rw [decide_eq_true hx,Bool.true_and] at he
      simp only [cHi,slC,slH,dCh,slV,dVs,slB,b0,hg,d4,ewk,vcd,↓vcp,seval]
      repeat' first|refine And.intro (fun h=>?_) (fun h=>?_)|refine aO ?_|(refine tA rfl rfl rfl rfl ?_;try simp only [hg,d4,ewk,vcd,↓vcp,seval])|refine aT ?_|fail
      exact lopK.on (k+1) ⟨hlt,he⟩ (by omega) (Wk.of _ hfn rfl (by simp only [ewk,enb,vcd,↓vcp,seval]) (by simp only [cHi,slC,slH,dCh,slV,dVs,slB,enb,vcd,↓vcp,seval]))
     ·have d4:decide (((x.cv.length:Nat):Int)>50)=true:=decide_eq_true (by omega)
      rw [decide_eq_false hx,Bool.false_and] at he
      simp only [cHi,slC,slH,dCh,slV,dVs,slB,b0,hg,d4,ewk,he,vcd,↓vcp,seval]
      repeat' first|refine And.intro (fun h=>?_) (fun h=>?_)|refine aO ?_|(refine tA rfl rfl rfl rfl ?_;try simp only [hg,d4,ewk,vcd,↓vcp,seval])|refine aT ?_|fail
      exact RetK.pure (by simp only [rs35,rsb,vcd,↓vcp,seval]) (by (simp only [rs35,rsb,enb,vcd,↓vcp,seval])<;>(first|exact VLe.refl _))
    ·have b0:decide ((k:Int)<(hh.ch.length:Int))=false:=decide_eq_false (by omega)
     have e1:fewC hh.ch=true:=by rw [he,List.drop_eq_nil_of_le (by omega)];rfl
     rw [e1,Bool.true_and]
     simp only [cHi,slC,slH,dCh,slV,dVs,slB,b0,vcd,↓vcp,seval]
     repeat' first|refine And.intro (fun h=>?_) (fun h=>?_)|refine aO ?_|(refine tA rfl rfl rfl rfl ?_;try simp only [b0,vcd,↓vcp,seval])|refine aT ?_|fail
     refine vcC.loop (X:=Nat) (fun k=>⟨[(3,.own 3 0),(6,.d (.int .i64 k))],[(3,.fix [.d (slV t)])],[2,3]⟩)
      (fun k=>k≤t.length∧fewV t=fewV (t.drop k)) (fun k=>t.length-k) 0 ⟨Nat.zero_le _,rfl⟩ (Wk.of _ hfn rfl (by simp only [enb,vcd,↓vcp,seval]) (by simp only [slV,dVs,slB,enb,vcd,↓vcp,seval])) ?_
     rintro k ⟨hk,he⟩
     by_cases hlt:k<t.length
     ·obtain ⟨x,hd,hg,-,-⟩:=drop_at hlt
      have hg:=hg default
      have b0:decide ((k:Int)<(t.length:Int))=true:=decide_eq_true (by omega)
      have b1:(0:Int)≤(k:Int)∧(k:Int)<(t.length:Int):=by omega
      have ewk:IntKind.i64.wrap ((k:Int)+1)=((k+1:Nat):Int):=wS (by omega)
      rw [fewV_drop hd] at he
      by_cases hx:x.age.length≤200
      ·have d4:decide (((x.age.length:Nat):Int)>200)=false:=decide_eq_false (by omega)
       by_cases hy:x.zn.length≤200
       ·have d5:decide (((x.zn.length:Nat):Int)>200)=false:=decide_eq_false (by omega)
        by_cases hz:x.pr.length≤200
        ·have d6:decide (((x.pr.length:Nat):Int)>200)=false:=decide_eq_false (by omega)
         rw [decide_eq_true hx,decide_eq_true hy,decide_eq_true hz] at he
         simp only [slK,slV,dVs,slB,b0,hg,d4,d5,d6,ewk,vcd,↓vcp,seval]
         repeat' first|refine And.intro (fun h=>?_) (fun h=>?_)|refine aO ?_|(refine tA rfl rfl rfl rfl ?_;try simp only [hg,d4,d5,d6,ewk,vcd,↓vcp,seval])|refine aT ?_|fail
         exact lopK.on (k+1) ⟨hlt,he⟩ (by omega) (Wk.of _ hfn rfl (by simp only [ewk,enb,vcd,↓vcp,seval]) (by simp only [slK,slV,dVs,slB,enb,vcd,↓vcp,seval]))
        ·have d6:decide (((x.pr.length:Nat):Int)>200)=true:=decide_eq_true (by omega)
         rw [decide_eq_true hx,decide_eq_true hy,decide_eq_false hz] at he
         rw [show fewV t=false from he]
         simp only [slK,slV,dVs,slB,b0,hg,d4,d5,d6,ewk,vcd,↓vcp,seval]
         repeat' first|refine And.intro (fun h=>?_) (fun h=>?_)|refine aO ?_|(refine tA rfl rfl rfl rfl ?_;try simp only [hg,d4,d5,d6,ewk,vcd,↓vcp,seval])|refine aT ?_|fail
         exact RetK.pure (by simp only [rs35,rsb,vcd,↓vcp,seval]) (by (simp only [rs35,rsb,enb,vcd,↓vcp,seval])<;>(first|exact VLe.refl _))
       ·have d5:decide (((x.zn.length:Nat):Int)>200)=true:=decide_eq_true (by omega)
        rw [decide_eq_true hx,decide_eq_false hy] at he
        rw [show fewV t=false from he]
        simp only [slK,slV,dVs,slB,b0,hg,d4,d5,ewk,vcd,↓vcp,seval]
        repeat' first|refine And.intro (fun h=>?_) (fun h=>?_)|refine aO ?_|(refine tA rfl rfl rfl rfl ?_;try simp only [hg,d4,d5,ewk,vcd,↓vcp,seval])|refine aT ?_|fail
        exact RetK.pure (by simp only [rs35,rsb,vcd,↓vcp,seval]) (by (simp only [rs35,rsb,enb,vcd,↓vcp,seval])<;>(first|exact VLe.refl _))
      ·have d4:decide (((x.age.length:Nat):Int)>200)=true:=decide_eq_true (by omega)
       rw [decide_eq_false hx] at he
       rw [show fewV t=false from he]
       simp only [slK,slV,dVs,slB,b0,hg,d4,ewk,vcd,↓vcp,seval]
       repeat' first|refine And.intro (fun h=>?_) (fun h=>?_)|refine aO ?_|(refine tA rfl rfl rfl rfl ?_;try simp only [hg,d4,ewk,vcd,↓vcp,seval])|refine aT ?_|fail
       exact RetK.pure (by simp only [rs35,rsb,vcd,↓vcp,seval]) (by (simp only [rs35,rsb,enb,vcd,↓vcp,seval])<;>(first|exact VLe.refl _))
     ·have b0:decide ((k:Int)<(t.length:Int))=false:=decide_eq_false (by omega)
      have e1:fewV t=true:=by rw [he,List.drop_eq_nil_of_le (by omega)];rfl
      rw [e1]
      simp only [slV,dVs,slB,b0,vcd,↓vcp,seval]
      repeat' first|refine And.intro (fun h=>?_) (fun h=>?_)|refine aO ?_|(refine tA rfl rfl rfl rfl ?_;try simp only [b0,vcd,↓vcp,seval])|refine aT ?_|fail
      exact RetK.pure (by simp only [rs35,rsb,vcd,↓vcp,seval]) (by (simp only [rs35,rsb,enb,vcd,↓vcp,seval])<;>(first|exact VLe.refl _))
   ·have d3:decide (((hh.tm.cv.length:Nat):Int)>50)=true:=decide_eq_true (by omega)
    have e:fewF hh t=false:=by rw [fewF,decide_eq_true a1,decide_eq_true a2,decide_eq_false a3];rfl
    rw [e]
    refine ctr_pure Tryz.func35 ok35 rfl cc35 cr35 Tryz.ntmps35 (by simp) rfl rfl ?_;intro c hP hfn;simp only [kc35,vHi,cHi,slC,slH,dCh,slV,dVs,slB,d1,d2,d3,vcd,↓vcp,seval]
    repeat' first|refine And.intro (fun h=>?_) (fun h=>?_)|refine aO ?_|(refine tA rfl rfl rfl rfl ?_;try simp only [d1,d2,d3,vcd,↓vcp,seval])|refine aT ?_|fail
    exact RetK.pure (by simp only [rs35,rsb,vcd,↓vcp,seval]) (by (simp only [rs35,rsb,enb,vcd,↓vcp,seval])<;>(first|exact VLe.refl _))
  ·have d2:decide (((t.length:Nat):Int)>100)=true:=decide_eq_true (by omega)
   have e:fewF hh t=false:=by rw [fewF,decide_eq_true a1,decide_eq_false a2];rfl
   rw [e]
   refine ctr_pure Tryz.func35 ok35 rfl cc35 cr35 Tryz.ntmps35 (by simp) rfl rfl ?_;intro c hP hfn;simp only [kc35,vHi,cHi,slC,slH,dCh,slV,dVs,slB,d1,d2,vcd,↓vcp,seval]
   repeat' first|refine And.intro (fun h=>?_) (fun h=>?_)|refine aO ?_|(refine tA rfl rfl rfl rfl ?_;try simp only [d1,d2,vcd,↓vcp,seval])|refine aT ?_|fail
   exact RetK.pure (by simp only [rs35,rsb,vcd,↓vcp,seval]) (by (simp only [rs35,rsb,enb,vcd,↓vcp,seval])<;>(first|exact VLe.refl _))
 ·have d1:decide (((hh.ch.length:Nat):Int)>60)=true:=decide_eq_true (by omega)
  have e:fewF hh t=false:=by rw [fewF,decide_eq_false a1];rfl
  rw [e]
  refine ctr_pure Tryz.func35 ok35 rfl cc35 cr35 Tryz.ntmps35 (by simp) rfl rfl ?_;intro c hP hfn;simp only [kc35,vHi,cHi,slC,slH,dCh,slV,dVs,slB,d1,vcd,↓vcp,seval]
  repeat' first|refine And.intro (fun h=>?_) (fun h=>?_)|refine aO ?_|(refine tA rfl rfl rfl rfl ?_;try simp only [d1,vcd,↓vcp,seval])|refine aT ?_|fail
  exact RetK.pure (by simp only [rs35,rsb,vcd,↓vcp,seval]) (by (simp only [rs35,rsb,enb,vcd,↓vcp,seval])<;>(first|exact VLe.refl _))
theorem sPFew (hh:Hi) (t:List Vs) (x:Ch) (h1:hh.ch.length≤9223372036854775807) (h2:t.length≤9223372036854775807):Ctr Tryz.prog 9 [vHi hh,.ag [.d (slV t)],vCh x] [] (.d (.bool (fewF hh t&&decide (x.cv.length≤50)))) [] []:=by
 have cf:=sFew hh t h1 h2
 simp only [vHi,cHi,slC,slH,dCh,slV,dVs,slB] at cf
 have e:decide (((x.cv.length:Nat):Int)≤50)=decide (x.cv.length≤50):=by rw [decide_eq_decide];omega
 generalize fewF hh t=f at *
 cases f <;>
 ·refine ctr_pure Tryz.func9 ok9 rfl cc9 cr9 Tryz.ntmps9 (by simp) rfl rfl ?_;intro c hP hfn;simp only [kc9,vHi,cHi,vCh,cCh,slC,slH,dCh,slV,dVs,slB,e,vcd,↓vcp,seval]
  repeat' first|((first|refine tp hP (by exact cf) ?_|refine tg hP (fun _=>by exact cf) ?_|refine tv hP rfl (by exact cf) ?_);try simp only [e,vcd,↓vcp,seval])|refine And.intro (fun h=>?_) (fun h=>?_)|refine aO ?_|(refine tA rfl rfl rfl rfl ?_;try simp only [e,vcd,↓vcp,seval])|refine aT ?_|fail
  exact RetK.pure (by simp only [rs9,rsb,vcd,↓vcp,seval]) (by (simp only [rs9,rsb,enb,vcd,↓vcp,seval])<;>(first|simp [e]))
def likeB (a b:Sl):Bool:=(a.on == b.on)&&(eqRk a.rk b.rk&&decide (a.cv=b.cv))
def same12 (a b:Sl):Bool:=((a.sf == b.sf)&&(a.st == b.st))&&((a.yr == b.yr)&&likeB a b)
theorem same12_iff {a b:Sl}:same12 a b=true↔a=b:=by
 obtain ⟨a1,a2,a3,a4,a5,a6⟩:=a
 obtain ⟨b1,b2,b3,b4,b5,b6⟩:=b
 simp only [same12,likeB,Bool.and_eq_true,eqRk_iff,beq_iff_eq,decide_eq_true_eq,Sl.mk.injEq]
 constructor
 ·rintro ⟨⟨h1,h2⟩,h3,h4,h5,h6⟩;exact ⟨h1,h2,h4,h5,h6,h3⟩
 ·rintro ⟨h1,h2,h4,h5,h6,h3⟩;exact ⟨⟨h1,h2⟩,h3,h4,h5,h6⟩
instance:DecidableEq Sl:=fun a b=>decidable_of_iff (same12 a b=true) same12_iff
end Go.Proofs.YtanppabbmffokaaGreat
end
section
set_option linter.unusedSimpArgs false
set_option linter.unusedVariables false
namespace Go.Proofs.YtanppabbmffokaaGreat
set_option linter.unusedSimpArgs false
set_option linter.unusedVariables false
open Go.Bx
set_option maxRecDepth 10000
def DLe (x y:D):Prop:=∀ E w v,RelD E w v x→RelD E w v y
theorem DLe.refl (x:D):DLe x x:=fun _ _ _ h=>h
theorem DLe.v {x y:D} (h:DLe x y):VLe (.d x) (.d y):=fun β E w v hv=>by
 cases hv with
 |d _ _ hv=>exact .d _ _ (h _ _ _ hv)
def DsLe:List D→List D→Prop
 |[],[]=>True
 |x::xs,y::ys=>DLe x y∧DsLe xs ys
 |_,_=>False
theorem DsLe.get:∀ {xs ys:List D},DsLe xs ys→xs.length=ys.length∧∀ (j:Nat) (y:D),ys[j]?=some y→∃ x,xs[j]?=some x∧DLe x y
 |[],[],_=>⟨rfl,fun j y h=>by simp at h⟩
 |x::xs,y::ys,h=>by
  obtain ⟨e,hr⟩:=DsLe.get h.2
  refine ⟨by simp [e],fun j b hb=>?_⟩
  cases j with
  |zero=>simp at hb;subst hb;exact ⟨x,rfl,h.1⟩
  |succ j=>simpa using hr j b (by simpa using hb)
 |[],_::_,h=>h.elim
 |_::_,[],h=>h.elim
theorem DLe.sl {full full':Bool} {sz sz' n n':Nat} {f f':Nat→List D} (hn:n=n') (hz:0<n→sz=sz') (hb:full'=true→full=true) (hf:∀ i,i<n→DsLe (f i) (f' i)):DLe (.sl full sz n f) (.sl full' sz' n' f'):=by
 subst hn
 intro E w v hv
 cases hv with
 |nil _ _ _ _=>exact .nil _ _ _ _
 |sl _ _ _ _ b off c g hc hfu hl hcell hrel =>
  rcases Nat.eq_zero_or_pos n with h0|h0
  ·subst h0
   exact .sl _ _ _ _ b off c g hc (fun h=>hfu (hb h)) (fun i hi=>by omega) (fun i j hi=>by omega) (fun i j hi=>by omega)
  ·have:=hz h0
   subst this
   refine .sl _ _ _ _ b off c g hc (fun h=>hfu (hb h)) (fun i hi=>((hf i hi).get.1).symm.trans (hl i hi)) hcell (fun i j hi hj x hx=>?_)
   obtain ⟨y,h1,h2⟩:=(hf i hi).get.2 j x hx
   exact h2 _ _ _ (hrel i j hi hj y h1)
def pV:Vs:=⟨1,10000,0,0,0,[],[10000],[10000,10000,10000,10000,10000,10000,10000,10000],0⟩
def pH:Hi:=⟨1,1,⟨1,101,⟨0,36500,0,0⟩,[⟨1,10,10,0,10000⟩]⟩,[]⟩
def pC:Ch:=⟨5,41,3,⟨0,0,0,0⟩,[],0⟩
def pS:List Sl:=[⟨1,101,true,⟨0,36500,0,0⟩,[⟨1,10,10,0,10000⟩],36500⟩]
def pB:List Bl:=[⟨1,5000,0⟩,⟨182,5000,0⟩]
theorem sPolicy:Ctr Tryz.prog 33 [] [] (.tup [vHi pH,.ag [.d (slV [pV])]]) [] []:=by
 refine ctr_pure Tryz.func33 ok33 rfl cc33 cr33 Tryz.ntmps33 (by simp) rfl rfl ?_;intro c hP hfn;simp only [kc33,vcd,↓vcp,seval]
 repeat' first|refine And.intro (fun h=>?_) (fun h=>?_)|refine aO ?_|(refine tA rfl rfl rfl rfl ?_;try simp only [vcd,↓vcp,seval])|refine aT ?_|fail
 have n0:∀ {sz:Nat} {f g:Nat→List D},DLe (.sl true 0 0 f) (.sl false sz 0 g):=DLe.sl rfl (fun h=>by omega) (fun h=>by cases h) (fun i hi=>by omega)
 refine RetK.pure (by simp only [rs33,rsb,vcd,↓vcp,seval]) ?_
 simp only [rs33,rsb,vcd,↓vcp,seval]
 refine VLe.tups ⟨VLe.ags ⟨VLe.refl _,VLe.refl _,VLe.refl _,VLe.refl _,VLe.refl _,VLe.refl _,VLe.refl _,VLe.refl _,DLe.v (DLe.sl rfl (fun _=>rfl) (fun h=>by cases h) (fun i hi=>?_)),DLe.v n0,trivial⟩,VLe.ags ⟨DLe.v (DLe.sl rfl (fun _=>rfl) (fun h=>by cases h) (fun i hi=>?_)),trivial⟩,trivial⟩
 ·obtain rfl:i=0:=by omega
  exact ⟨DLe.refl _,DLe.refl _,DLe.refl _,DLe.refl _,DLe.refl _,trivial⟩
 ·obtain rfl:i=0:=by omega
  refine ⟨DLe.refl _,DLe.refl _,DLe.refl _,DLe.refl _,DLe.refl _,n0,DLe.sl rfl (fun _=>rfl) (fun h=>by cases h) (fun i hi=>?_),DLe.sl rfl (fun _=>rfl) (fun h=>by cases h) (fun i hi=>?_),DLe.refl _,trivial⟩
  ·obtain rfl:i=0:=by omega
   exact ⟨DLe.refl _,trivial⟩
  ·rcases i with _|_|_|_|_|_|_|_|i<;>first|exact ⟨DLe.refl _,trivial⟩|omega
set_option maxHeartbeats 2000000 in
theorem sAlive:Ctr Tryz.prog 8 [] [] (.d (.bool true)) [] []:=by
 have hz:SzC pH:=⟨by decide,by decide,fun c h=>by simp [pH] at h⟩
 have hv:∀ v,v∈[pV]→SzV v:=fun v h=>by
  rw [List.mem_singleton] at h;subst h
  exact ⟨by decide,by decide,by decide⟩
 have k0:=sPolicy
 have k1:=sDueF pH [pV] hz (by decide) hv
 rw [show dueF pH [pV]=(10000,0) by decide +kernel] at k1
 have k2:=sOfS pH [pV] hz (by decide) hv
 rw [show ofS pH [pV]=(pS,0) by decide +kernel] at k2
 have k3:=sUptoF pS 41 (by decide)
 rw [show uptoF pS 41=(4000,0) by decide +kernel] at k3
 have k4:=sGivenF pH [pV] pC hz (by decide) hv (by decide)
 rw [show givenF pH [pV] pC=(6000,0) by decide +kernel] at k4
 have k5:=sPlan 10000 1 101 2
 rw [show planR 10000 1 101 2=(pB,0) by decide +kernel] at k5
 have k6:=rSame pB pB (by decide) (by decide)
 rw [decide_eq_true rfl] at k6
 have k7:Ctr Tryz.prog 34 [.d (slL pB),.d (.sl true 3 2 (litRow 3 [.int .i64 1,.int .i64 5000,.int .i64 0,.int .i64 182,.int .i64 5000,.int .i64 0]))] [] (.d (.bool true)) [] []:=
  k6.arg ⟨VLe.refl _,VLe_slL rfl (by intro i hi;rcases i with _|_|i<;>first|rfl|omega),trivial⟩
 have k8:Ctr Tryz.prog 12 [vHi pH,.ag [.d (slV [pV])],.ag [.d (.int .i64 5),.d (.int .i64 41),.d (.int .i64 3),.d (.int .i64 0),.d (.int .i64 0),.d (.int .i64 0),.d (.int .i64 0),.d (.sl true 0 0 fun _=>[]),.d (.int .i64 0)]] [] (.tup [.d (.int .i64 6000),.d (.int .i64 0)]) [] []:=
  k4.arg ⟨VLe.refl _,VLe.refl _,VLe.ags ⟨VLe.refl _,VLe.refl _,VLe.refl _,VLe.refl _,VLe.refl _,VLe.refl _,VLe.refl _,vle_nil,VLe.refl _,trivial⟩,trivial⟩
 have b1:∀ i:Int,(i == i)=true:=fun i=>by simp
 obtain ⟨h1,h2,h3,h4,h5,h6,h7⟩:pH.id=1∧pH.bk=1∧pH.tm.sf=1∧pH.tm.st=101∧pH.tm.rk=⟨0,36500,0,0⟩∧pH.tm.cv=pH.tm.cv∧pH.ch=pH.ch:=⟨rfl,rfl,rfl,rfl,rfl,rfl,rfl⟩
 simp only [vHi,cHi,h1,h2,h3,h4,h5] at k0 k1 k2 k8
 simp only [vS] at k5
 generalize slV [pV]=t at *
 generalize slH pH.ch=z at *
 generalize slC pH.tm.cv=y at *
 generalize slS pS=x at *
 refine ctr_pure Tryz.func8 ok8 rfl cc8 cr8 Tryz.ntmps8 (by simp) rfl rfl ?_;intro c hP hfn;simp only [kc8,vcd,↓vcp,seval]
 repeat' first|((first|refine tp hP (by first|exact k0|exact k1|exact k2|exact k3|exact k8|exact k5|exact k7) ?_|refine tg hP (fun _=>by first|exact k0|exact k1|exact k2|exact k3|exact k8|exact k5|exact k7) ?_|refine tv hP rfl (by first|exact k0|exact k1|exact k2|exact k3|exact k8|exact k5|exact k7) ?_);try simp only [b1,Int.reduceBEq,vcd,↓vcp,seval])|refine And.intro (fun h=>?_) (fun h=>?_)|refine aO ?_|(refine tA rfl rfl rfl rfl ?_;try simp only [b1,Int.reduceBEq,vcd,↓vcp,seval])|refine aT ?_|fail
 all_goals exact RetK.pure (by simp only [rs8,rsb,vcd,↓vcp,seval]) (by (simp only [rs8,rsb,enb,vcd,↓vcp,seval])<;>(first|exact VLe.refl _))
end Go.Proofs.YtanppabbmffokaaGreat
end
section
set_option linter.unusedSimpArgs false
set_option linter.unusedVariables false
namespace Go.Proofs.YtanppabbmffokaaGreat
set_option linter.unusedSimpArgs false
set_option linter.unusedVariables false
open Go.Bx
set_option maxRecDepth 10000
def cntL (day:Int):List Bl→Nat
 |[]=>0
 |b::r=>if b.du≤day then cntL day r else cntL day r+1
def rsL (day:Int):List Bl→Int
 |[]=>0
 |b::r=>if b.du≤day then b.am+rsL day r else rsL day r
def pdL (day:Int):List Bl→Int
 |[]=>0
 |b::r=>if b.du≤day then pdL day r else b.pa+pdL day r
def outL (day:Int) (A n:Nat):Nat→List Bl→List Bl
 |_,[]=>[]
 |i,b::r=>if b.du≤day then b::outL day A n i r else { b with am:=b.pa+(partN A n i:Nat) }::outL day A n (i+1) r
theorem all_late {day:Int}:∀ {l:List Bl},(∀ b,b∈l→day<b.du)→kD day l=0∧cntL day l=l.length∧rsL day l=0∧pdL day l=sumP l∧∀ A n i,outL day A n i l=updL A n i l
 |[],_=>⟨rfl,rfl,rfl,by simp [pdL,sumP],fun _ _ _=>rfl⟩
 |b::r,h=>by
  have hb:=h b (by simp)
  obtain ⟨h1,h2,h3,h4,h5⟩:=all_late (l:=r) (fun x hx=>h x (by simp [hx]))
  refine ⟨by rw [kD,if_neg (by omega)],by rw [cntL,if_neg (by omega),h2];simp,by rw [rsL,if_neg (by omega),h3],by rw [pdL,if_neg (by omega),h4];simp [sumP],fun A n i=>by rw [outL,if_neg (by omega),h5,updL]⟩
theorem sorted_cut {day:Int}:∀ {l:List Bl},l.Pairwise (fun a b=>a.du≤b.du)→cntL day l=l.length-kD day l∧rsL day l=sumA (l.take (kD day l))∧pdL day l=sumP (l.drop (kD day l))∧(∀ A n i,outL day A n i l=l.take (kD day l)++updL A n i (l.drop (kD day l)))∧(∀ b,b∈l.drop (kD day l)→day<b.du)∧(∀ b,b∈l.take (kD day l)→b.du≤day)
 |[],_=>by simp [cntL,rsL,pdL,sumA,sumP,outL,updL,kD]
 |b::r,h=>by
  rw [List.pairwise_cons] at h
  by_cases hb:b.du≤day
  ·obtain ⟨h1,h2,h3,h4,h5,h6⟩:=sorted_cut (day:=day) h.2
   rw [kD,if_pos hb,cntL,if_pos hb,rsL,if_pos hb,pdL,if_pos hb]
   simp only [List.take_succ_cons,List.drop_succ_cons]
   refine ⟨by rw [h1];simp,by rw [h2];simp [sumA],h3,fun A n i=>by rw [outL,if_pos hb,h4];rfl,h5,fun x hx=>?_⟩
   rcases List.mem_cons.1 hx with hx|hx
   ·rw [hx];exact hb
   ·exact h6 x hx
  ·have hall:∀ x,x∈b::r→day<x.du:=fun x hx=>by
    rcases List.mem_cons.1 hx with hx|hx
    ·rw [hx];omega
    ·have:=h.1 x hx;omega
   obtain ⟨h1,h2,h3,h4,h5⟩:=all_late hall
   rw [h1,List.take_zero,List.drop_zero]
   exact ⟨by rw [h2];omega,by rw [h3];simp [sumA],h4,fun A n i=>by rw [h5];rfl,hall,fun x hx=>by simp at hx⟩
def startM (t:Nat):Nat:=ahN (1601+t / 12)+msum (1601+t / 12) (t % 12)
theorem startM_succ (t:Nat):startM (t+1)=ahN (1601+t / 12)+msum (1601+t / 12) (t % 12+1):=by
 unfold startM
 by_cases h:t % 12=11
 ·have e1:(t+1) / 12=t / 12+1:=by omega
  have e2:(t+1) % 12=0:=by omega
  rw [e1,e2,h,show 1601+(t / 12+1)=1601+t / 12+1 by omega,ah_succ (by omega),msum12];rfl
 ·have e1:(t+1) / 12=t / 12:=by omega
  have e2:(t+1) % 12=t % 12+1:=by omega
  rw [e1,e2]
theorem startM_mono {a b:Nat} (h:a≤b):startM a≤startM b:=by
  induction b with
  | zero => have : a = 0 := by omega
            subst this;exact Nat.le_refl _
  |succ b ih =>
    by_cases e:a=b+1
    · subst e;exact Nat.le_refl _
    · have h1:=ih (by omega)
      have h2:=msum_le (1601+b / 12) (show b % 12≤b % 12+1 by omega)
      rw [startM_succ];unfold startM at h1 ⊢;omega
theorem shiftV_mono {n a b:Nat} (h1:1≤n) (h2:n≤292194) (h:a≤b):shiftV n a≤shiftV n b:=by
 have hs:=ofN_spec h1 h2
 by_cases e:a=b
 ·subst e;exact Nat.le_refl _
 ·have ha:shiftT n a+1≤shiftT n b:=by unfold shiftT;omega
  have hm:=startM_mono ha
  rw [startM_succ] at hm
  have hl:=mlen_le (1601+shiftT n b / 12) (shiftT n b % 12+1)
  have hms:msum (1601+shiftT n a / 12) (shiftT n a % 12+1)=msum (1601+shiftT n a / 12) (shiftT n a % 12)+mlen (1601+shiftT n a / 12) (shiftT n a % 12+1):=rfl
  unfold shiftV numN
  unfold startM at hm
  simp only [Nat.add_sub_cancel]
  omega
theorem shiftV_zero {n:Nat} (h1:1≤n) (h2:n≤292194):shiftV n 0=n:=by
 obtain ⟨a,b,c,d,e,f,g⟩:=ofN_spec h1 h2
 have e1:1601+shiftT n 0 / 12=(ofN n).1:=by unfold shiftT;omega
 have e2:shiftT n 0 % 12+1=(ofN n).2.1:=by unfold shiftT;omega
 unfold shiftV
 rw [e1,e2,Nat.min_eq_left f];exact g
theorem shiftV_bounds {n b:Nat} (h1:1≤n) (h2:n≤292194) (h3:shiftT n b<9600):1≤shiftV n b∧shiftV n b≤292194:=by
 have h:=shift_dy h1 h2 h3
 have:=numN_bounds h.y1 h.y2 h.m1 h.m2 h.d1 h.d2
 unfold shiftV
 omega
theorem shiftN_ok {f:Int} {b:Nat} (h:(shiftN f b).2=0):1≤f∧f≤292194∧shiftT f.toNat b<9600∧(shiftN f b).1=(shiftV f.toNat b:Nat):=by
 unfold shiftN at h ⊢
 by_cases h1:f<1∨292194<f
 ·rw [if_pos h1] at h;cases h
 ·rw [if_neg h1] at h ⊢
  by_cases h2:9600≤shiftT f.toNat b
  ·rw [if_pos h2] at h;cases h
  ·rw [if_neg h2];exact ⟨by omega,by omega,by omega,rfl⟩
theorem parts_sum {a n:Nat} (hn:0<n):∀ k,k≤n→((List.range k).map fun i=>((partN a n i:Nat):Int)).sum=((a*k / n:Nat):Int)
 |0,_=>by simp
 |k+1,h=>by
  have h1:a*k / n≤a*(k+1) / n:=Nat.div_le_div_right (Nat.mul_le_mul_left _ (by omega))
  rw [List.range_succ,List.map_append,List.sum_append,parts_sum hn k (by omega)]
  simp only [List.map_cons,List.map_nil,List.sum_cons,List.sum_nil,partN]
  generalize a*k / n=x at *
  generalize a*(k+1) / n=y at *
  omega
structure Planned (a:Nat) (f:Int) (n:Nat):Prop where
 n1:1≤n
 n12:n≤12
 a4:a≤4000000000000000000
 ok:∀ i,i<n→(shiftN f (i*12 / n)).2=0
theorem planR_ok {amt f t n:Int} (h:(planR amt f t n).2=0):Planned amt.toNat f n.toNat∧(planR amt f t n).1=planL amt.toNat f n.toNat∧0≤amt∧0≤n∧amt≤4000000000000000000∧mayP amt f t n=true:=by
 unfold planR at h ⊢
 by_cases h1:mayP amt f t n=false
 ·rw [if_pos h1] at h;cases h
 rw [if_neg h1] at h ⊢
 by_cases h2:fitsP f n.toNat=false
 ·rw [if_pos h2] at h;cases h
 rw [if_neg h2]
 have hm:=mayP_iff.1 (show mayP amt f t n=true by simpa using h1)
 refine ⟨⟨by omega,by omega,by omega,fun i hi=>?_⟩,rfl,by omega,by omega,by omega,by simpa using h1⟩
 have h3:fitsP f n.toNat=true:=by simpa using h2
 have:=List.all_eq_true.1 h3 i (List.mem_range.2 hi)
 simpa using this
theorem planL_len (a:Nat) (f:Int) (n:Nat):(planL a f n).length=n:=by simp [planL]
theorem Planned.dues {a:Nat} {f:Int} {n:Nat} (h:Planned a f n):1≤f∧f≤292194∧∀ i,i<n→(planB a f n i).du=(shiftV f.toNat (i*12 / n):Nat)∧1≤(planB a f n i).du∧(planB a f n i).du≤292194∧f≤(planB a f n i).du:=by
 have h0:=shiftN_ok (h.ok 0 h.n1)
 refine ⟨h0.1,h0.2.1,fun i hi=>?_⟩
 have h1:=shiftN_ok (h.ok i hi)
 have hb:=shiftV_bounds (n:=f.toNat) (b:=i*12 / n) (by omega) (by omega) h1.2.2.1
 have hz:=shiftV_zero (n:=f.toNat) (by omega) (by omega)
 have hm:=shiftV_mono (n:=f.toNat) (a:=0) (b:=i*12 / n) (by omega) (by omega) (Nat.zero_le _)
 simp only [planB,h1.2.2.2,true_and]
 omega
theorem Planned.right {a:Nat} {f:Int} {n:Nat} (h:Planned a f n):Rt (planL a f n)∧sumA (planL a f n)=a∧sumP (planL a f n)=0:=by
 have hd:=h.dues
 have hs:sumA (planL a f n)=a:=by
  have:=parts_sum (a:=a) (n:=n) h.n1 n (Nat.le_refl _)
  rw [Nat.mul_div_cancel _ h.n1] at this
  rw [←this,sumA,planL,List.map_map];rfl
 have hp:sumP (planL a f n)=0:=by
  rw [sumP,planL,List.map_map]
  have:∀ k,((List.range k).map ((fun x:Bl=>x.pa) ∘ planB a f n)).sum=0:=by
   intro k
   induction k with
   |zero=>rfl
   |succ k ih=>rw [List.range_succ,List.map_append,List.sum_append,ih];rfl
  exact this n
 refine ⟨⟨by rw [planL_len];have:=h.n12;omega,fun b hb=>?_,by rw [hs];have:=h.a4;omega,?_⟩,hs,hp⟩
 ·obtain ⟨i,hi,rfl⟩:=List.mem_map.1 hb
  have hi:=List.mem_range.1 hi
  have:=hd.2.2 i hi
  refine ⟨by omega,by omega,by simp [planB],by simp only [planB];omega⟩
 ·rw [planL,List.pairwise_map]
  refine List.Pairwise.imp_of_mem (R:=fun i j=>i<j) ?_ List.pairwise_lt_range
  intro i j hi hj hij
  have hi:=List.mem_range.1 hi
  have hj:=List.mem_range.1 hj
  rw [(hd.2.2 i hi).1,(hd.2.2 j hj).1]
  have:=shiftV_mono (n:=f.toNat) (a:=i*12 / n) (b:=j*12 / n) (by omega) (by omega) (Nat.div_le_div_right (Nat.mul_le_mul_right _ (by omega)))
  omega
structure Paid (a:Int) (l m:List Bl) (left:Int):Prop where
 len:m.length=l.length
 same:∀ i,i<l.length→(m.getD i default).du=(l.getD i default).du∧(m.getD i default).am=(l.getD i default).am∧(l.getD i default).pa≤(m.getD i default).pa∧(m.getD i default).pa≤(m.getD i default).am
 left0:0≤left
 lefta:left≤a
 sumA:sumA m=sumA l
 sumP:sumP m=sumP l+(a-left)
 all:left=0∨Go.Proofs.YtanppabbmffokaaGreat.sumP m=Go.Proofs.YtanppabbmffokaaGreat.sumA m
 old:∀ i j,i<j→j<l.length→(m.getD i default).pa<(m.getD i default).am→(m.getD j default).pa=(l.getD j default).pa
theorem payL_zero:∀ {l:List Bl},(∀ b,b∈l→0≤b.pa∧b.pa≤b.am)→payL 0 l=(l,0)
 |[],_=>rfl
 |b::r,h=>by
  have hb:=h b (by simp)
  have e:min 0 (b.am-b.pa)=0:=by omega
  rw [payL,e,Int.sub_zero,payL_zero (l:=r) (fun x hx=>h x (by simp [hx])),payB,e,Int.add_zero]
theorem payL_paid:∀ {l:List Bl} {a:Int},(∀ b,b∈l→0≤b.pa∧b.pa≤b.am)→0≤a→Paid a l (payL a l).1 (payL a l).2
 |[],a,_,h=>⟨rfl,fun i hi=>absurd hi (Nat.not_lt_zero i),h,Int.le_refl _,rfl,by simp [payL],.inr rfl,fun i j _ hj=>absurd hj (Nat.not_lt_zero j)⟩
 |b::r,a,h,ha=>by
  have hb:=h b (by simp)
  have hr:∀ x,x∈r→0≤x.pa∧x.pa≤x.am:=fun x hx=>h x (by simp [hx])
  have ih:=payL_paid (l:=r) (a:=a-min a (b.am-b.pa)) hr (by omega)
  rw [payL]
  simp only
  obtain ⟨i1,i2,i3,i4,i5,i6,i7,i8⟩:=ih
  refine ⟨by simp [i1],fun i hi=>?_,i3,by omega,?_,?_,?_,fun i j hij hj hsh=>?_⟩
  ·cases i with
   |zero=>simp only [List.getD_cons_zero,payB,true_and];omega
   |succ i=>simp only [List.getD_cons_succ];exact i2 i (by simpa using hi)
  ·simp only [Go.Proofs.YtanppabbmffokaaGreat.sumA,List.map_cons,List.sum_cons,payB] at i5 ⊢;omega
  ·simp only [Go.Proofs.YtanppabbmffokaaGreat.sumP,List.map_cons,List.sum_cons,payB] at i6 ⊢;omega
  ·by_cases hm:a≤b.am-b.pa
   ·left;omega
   ·rcases i7 with i7|i7
    ·exact .inl i7
    ·right
     simp only [Go.Proofs.YtanppabbmffokaaGreat.sumA,Go.Proofs.YtanppabbmffokaaGreat.sumP,List.map_cons,List.sum_cons,payB] at i7 ⊢;omega
  ·cases j with
   |zero=>omega
   |succ j =>
    cases i with
    |zero =>
     simp only [List.getD_cons_zero,List.getD_cons_succ,payB] at hsh ⊢
     have e:a-min a (b.am-b.pa)=0:=by omega
     rw [e,payL_zero hr]
    |succ i =>
     simp only [List.getD_cons_succ] at hsh ⊢
     exact i8 i j (by omega) (by simpa using hj) hsh
theorem openS_early {day:Int}:∀ {l:List Bl},(∀ b,b∈l→b.du≤day)→openS day l=sumA l-sumP l
 |[],_=>by simp [openS,sumA,sumP]
 |b::r,h=>by
  rw [openS,if_pos (h b (by simp)),openS_early (l:=r) (fun x hx=>h x (by simp [hx]))]
  simp only [sumA,sumP,List.map_cons,List.sum_cons];omega
theorem Rt.nn {l:List Bl} (h:Rt l):∀ b,b∈l→0≤b.pa∧b.pa≤b.am:=fun b hb=>(h.each b hb).2.2
theorem getD_mem {l:List Bl} {i:Nat} (h:i<l.length) (d:Bl):l.getD i d∈l:=by
 rw [List.getD_eq_getElem?_getD,List.getElem?_eq_getElem h];exact List.getElem_mem h
theorem mem_getD {l:List Bl} {b:Bl} (h:b∈l):∃ i,i<l.length∧∀ d,l.getD i d=b:=by
 obtain ⟨i,hi,e⟩:=List.getElem_of_mem h
 exact ⟨i,hi,fun d=>by rw [List.getD_eq_getElem?_getD,List.getElem?_eq_getElem hi];exact e⟩
theorem rt_of {l m:List Bl} (h:Rt l) (hlen:m.length=l.length) (hs:∀ i,i<l.length→(m.getD i default).du=(l.getD i default).du∧0≤(m.getD i default).pa∧(m.getD i default).pa≤(m.getD i default).am) (hsum:sumA m≤4000000000000000000):Rt m:=by
 refine ⟨by rw [hlen];exact h.len,fun b hb=>?_,hsum,?_⟩
 ·obtain ⟨i,hi,e⟩:=mem_getD hb
  have h1:=hs i (by omega)
  have h2:=h.each _ (getD_mem (l:=l) (i:=i) (by omega) default)
  rw [e] at h1
  omega
 ·rw [List.pairwise_iff_getElem]
  intro i j hi hj hij
  have h1:=(hs i (by omega)).1
  have h2:=(hs j (by omega)).1
  have h3:=List.pairwise_iff_getElem.1 h.ord i j (by omega) (by omega) hij
  simp only [List.getD_eq_getElem?_getD,List.getElem?_eq_getElem hi,List.getElem?_eq_getElem hj,List.getElem?_eq_getElem (show i<l.length by omega),List.getElem?_eq_getElem (show j<l.length by omega),Option.getD_some] at h1 h2
  omega
theorem pay_right {l:List Bl} {a:Int} (h:Rt l) (ha:0≤a):Rt (payL a l).1:=by
 have hp:=payL_paid h.nn ha
 refine rt_of h hp.len (fun i hi=>?_) (by rw [hp.sumA];exact h.sum)
 have h1:=hp.same i hi
 have h2:=h.each _ (getD_mem (l:=l) (i:=i) hi default)
 omega
theorem updL_at (A n:Nat):∀ (l:List Bl) (i j:Nat),j<l.length→(updL A n i l).getD j default={ (l.getD j default) with am:=(l.getD j default).pa+(partN A n (i+j):Nat) }
 |[],_,j,h=>absurd h (Nat.not_lt_zero j)
 |b::r,i,0,_=>by simp [updL]
 |b::r,i,j+1,h=>by
  simp only [updL,List.getD_cons_succ]
  rw [updL_at A n r (i+1) j (by simpa using h),show i+1+j=i+(j+1) by omega]
theorem updL_sum (A n:Nat):∀ (l:List Bl) (i:Nat),sumA (updL A n i l)=sumP l+((List.range l.length).map fun j=>((partN A n (i+j):Nat):Int)).sum∧sumP (updL A n i l)=sumP l
 |[],_=>by simp [updL,sumA,sumP]
 |b::r,i=>by
  obtain ⟨h1,h2⟩:=updL_sum A n r (i+1)
  rw [List.length_cons,List.range_succ_eq_map,List.map_cons,List.map_map,List.sum_cons]
  have e:(List.range r.length).map ((fun j=>((partN A n (i+j):Nat):Int)) ∘ Nat.succ)=(List.range r.length).map fun j=>((partN A n (i+1+j):Nat):Int):=by
   apply List.map_congr_left;intro j _;simp only [Function.comp_apply];rw [show i+j.succ=i+1+j by omega]
  rw [e]
  simp only [updL,sumA,sumP,List.map_cons,List.sum_cons,Nat.add_zero] at h1 h2 ⊢
  omega
structure Turned (l m:List Bl) (amt day:Int):Prop where
 right:Rt m
 sumA:sumA m=amt
 sumP:sumP m=sumP l
 len:m.length=l.length
 same:∀ i,i<l.length→(m.getD i default).du=(l.getD i default).du∧(m.getD i default).pa=(l.getD i default).pa∧((l.getD i default).du≤day→m.getD i default=l.getD i default)
theorem turn_ok {l:List Bl} {amt day:Int} (h:(turnR l amt day).2=0) (hR:Rt l):Turned l (turnR l amt day).1 amt day:=by
 unfold turnR at h ⊢
 by_cases h1:¬ (rightB l=true∧0≤amt∧amt≤4000000000000000000)
 ·rw [if_pos h1] at h;cases h
 rw [if_neg h1] at h ⊢
 have h1:=Classical.not_not.1 h1
 have e0:l.take (kD day l)++l.drop (kD day l)=l:=List.take_append_drop _ _
 have ea:=sumA_app (l.take (kD day l)) (l.drop (kD day l))
 rw [e0] at ea
 by_cases h2:kD day l=l.length
 ·rw [if_pos h2] at h ⊢
  by_cases h3:amt-sumA (l.take (kD day l))≠0
  ·rw [if_pos h3] at h;cases h
  rw [if_neg h3]
  have h3:=Classical.not_not.1 h3
  rw [h2,List.take_length] at h3
  exact ⟨hR,by simp only;omega,rfl,rfl,fun i hi=>⟨rfl,rfl,fun _=>rfl⟩⟩
 rw [if_neg h2] at h ⊢
 by_cases h3:amt-sumA (l.take (kD day l))<sumP (l.drop (kD day l))
 ·rw [if_pos h3] at h;cases h
 rw [if_neg h3]
 simp only
 have hkl:=kD_le day l
 obtain ⟨s1,s2,s3,s4,s5,s6⟩:=sorted_cut (day:=day) hR.ord
 have hus:=updL_sum (amt-sumA (l.take (kD day l))-sumP (l.drop (kD day l))).toNat (l.length-kD day l) (l.drop (kD day l)) 0
 have hua:=updL_at (amt-sumA (l.take (kD day l))-sumP (l.drop (kD day l))).toNat (l.length-kD day l) (l.drop (kD day l)) 0
 have hps:=parts_sum (a:=(amt-sumA (l.take (kD day l))-sumP (l.drop (kD day l))).toNat) (n:=l.length-kD day l) (by omega) (l.length-kD day l) (Nat.le_refl _)
 rw [Nat.mul_div_cancel _ (by omega)] at hps
 have hdl:(l.drop (kD day l)).length=l.length-kD day l:=List.length_drop
 simp only [hdl,Nat.zero_add] at hus hua
 rw [hps] at hus
 have hsumA:=(sumA_app (l.take (kD day l)) (updL (amt-sumA (l.take (kD day l))-sumP (l.drop (kD day l))).toNat (l.length-kD day l) 0 (l.drop (kD day l))))
 rw [hus.1,hus.2] at hsumA
 have hlen:(l.take (kD day l)++updL (amt-sumA (l.take (kD day l))-sumP (l.drop (kD day l))).toNat (l.length-kD day l) 0 (l.drop (kD day l))).length=l.length:=by
  rw [List.length_append,updL_len,←List.length_append,e0]
 have htl:(l.take (kD day l)).length=kD day l:=by simp;omega
 have hAe:=Int.toNat_of_nonneg (show 0≤amt-sumA (l.take (kD day l))-sumP (l.drop (kD day l)) by omega)
 generalize (amt-sumA (l.take (kD day l))-sumP (l.drop (kD day l))).toNat=A at *
 have hsame:∀ i,i<l.length→((l.take (kD day l)++updL A (l.length-kD day l) 0 (l.drop (kD day l))).getD i default).du=(l.getD i default).du∧((l.take (kD day l)++updL A (l.length-kD day l) 0 (l.drop (kD day l))).getD i default).pa=(l.getD i default).pa∧((l.getD i default).du≤day→(l.take (kD day l)++updL A (l.length-kD day l) 0 (l.drop (kD day l))).getD i default=l.getD i default)∧(l.getD i default).pa≤((l.take (kD day l)++updL A (l.length-kD day l) 0 (l.drop (kD day l))).getD i default).am:=by
  intro i hi
  have hb:=hR.each _ (getD_mem (l:=l) (i:=i) hi default)
  rcases Nat.lt_or_ge i (kD day l) with g|g
  ·have e:(l.take (kD day l)++updL A (l.length-kD day l) 0 (l.drop (kD day l))).getD i default=l.getD i default:=by
    rw [List.getD_eq_getElem?_getD,List.getElem?_append_left (by omega),List.getElem?_take,if_pos g,List.getD_eq_getElem?_getD]
   rw [e];exact ⟨rfl,rfl,fun _=>rfl,hb.2.2.2⟩
  ·have e:(l.take (kD day l)++updL A (l.length-kD day l) 0 (l.drop (kD day l))).getD i default={ (l.getD i default) with am:=(l.getD i default).pa+(partN A (l.length-kD day l) (i-kD day l):Nat) }:=by
    have h4:=hua (i-kD day l) (by omega)
    have h5:(l.drop (kD day l)).getD (i-kD day l) default=l.getD i default:=by
     rw [List.getD_eq_getElem?_getD,List.getElem?_drop,show kD day l+(i-kD day l)=i by omega,List.getD_eq_getElem?_getD]
    rw [h5] at h4
    rw [List.getD_eq_getElem?_getD,List.getElem?_append_right (by omega),htl,←List.getD_eq_getElem?_getD,h4]
   have hl:day<(l.getD i default).du:=by
    refine s5 _ ?_
    rw [show l.getD i default=(l.drop (kD day l)).getD (i-kD day l) default by rw [List.getD_eq_getElem?_getD,List.getD_eq_getElem?_getD,List.getElem?_drop,show kD day l+(i-kD day l)=i by omega]]
    exact getD_mem (by omega) _
   rw [e];exact ⟨rfl,rfl,fun g2=>by omega,by simp only;omega⟩
 have hA4:sumA (l.take (kD day l)++updL A (l.length-kD day l) 0 (l.drop (kD day l)))=sumA (l.take (kD day l))+(sumP (l.drop (kD day l))+A):=hsumA.1
 refine ⟨rt_of hR hlen (fun i hi=>?_) (by omega),by omega,by rw [hsumA.2];omega,hlen,fun i hi=>⟨(hsame i hi).1,(hsame i hi).2.1,(hsame i hi).2.2.1⟩⟩
 have h4:=hsame i hi
 have h5:=hR.each _ (getD_mem (l:=l) (i:=i) hi default)
 omega
end Go.Proofs.YtanppabbmffokaaGreat
end
section
set_option linter.unusedSimpArgs false
set_option linter.unusedVariables false
namespace Go.Proofs.YtanppabbmffokaaGreat
set_option linter.unusedSimpArgs false
set_option linter.unusedVariables false
open Go.Bx
set_option maxRecDepth 10000
theorem ofR_b (up:Nat→Nat→Nat→Bool) (a b c:Int):0≤(ofR up a b c).1∧(ofR up a b c).1≤4000000000000000000:=by
 rw [ofR]
 by_cases h1:a<0∨b<0∨c<0
 ·rw [if_pos h1];simp
 rw [if_neg h1]
 by_cases h2:c=0
 ·rw [if_pos h2];simp
 rw [if_neg h2]
 by_cases h3:4000000000000000000<a.toNat*b.toNat / c.toNat
 ·rw [if_pos h3];simp
 rw [if_neg h3]
 generalize (if up (a.toNat*b.toNat / c.toNat) (a.toNat*b.toNat % c.toNat) c.toNat=true then 1 else 0)=z
 by_cases h4:4000000000000000000<a.toNat*b.toNat / c.toNat+z
 ·rw [if_pos h4];simp
 rw [if_neg h4]
 simp only
 generalize a.toNat*b.toNat / c.toNat=q at *
 omega
theorem keptF_b (h:Hi) (t:List Vs):0≤(keptF h t).1∧(keptF h t).1≤4000000000000000000:=by
 rw [keptF]
 by_cases h1:(ofS h t).2≠0
 ·rw [if_pos h1];simp
 rw [if_neg h1]
 cases turnS h with
 |none=>simp
 |some x =>
  simp only
  split
  ·simp
  ·rw [keptC]
   split
   ·simp
   ·split
    ·simp
    ·exact ofR_b _ _ _ _
theorem uptoF_b (l:List Sl) (d:Int):0≤(uptoF l d).1∧(uptoF l d).1≤4000000000000000000:=by
 rw [uptoF]
 cases curS l with
 |none=>simp
 |some P =>
  simp only [uptoR]
  split
  ·simp
  ·split
   ·simp
   ·exact ofR_b _ _ _ _
theorem dueF_b (h:Hi) (t:List Vs):0≤(dueF h t).1∧(dueF h t).1≤4000000000000000000:=by
 have h1:=keptF_b h t
 have h2:=uptoF_b (ofS h t).1 292195
 rw [dueF]
 split
 ·simp
 ·split
  ·simp
  ·rw [wI (a:=4000000000000000000-(keptF h t).1) (by omega)]
   split
   ·simp
   ·rw [wI (by omega)];simp only;omega
theorem dueF_right {h:Hi} {t:List Vs} (e:(dueF h t).2=0):rightHi h=true:=by
 by_cases h1:(keptF h t).2≠0
 ·rw [dueF,if_pos h1] at e;exact absurd e h1
 ·by_cases h2:(ofS h t).2≠0
  ·rw [keptF,if_pos h2] at h1;exact absurd h2 h1
  ·cases hr:rightHi h with
   |true=>rfl
   |false=>rw [ofS,if_pos hr] at h2;simp at h2
theorem mayP_of {h:Hi} {a n:Int} (e:rightHi h=true) (ha:0≤a∧a≤4000000000000000000) (hn:n=1∨n=2∨n=4∨n=12):mayP a h.tm.sf h.tm.st n=true:=by
 refine mayP_iff.2 ⟨hn,ha.1,ha.2,fun h0=>?_⟩
 simp only [rightHi,rightTm,Bool.and_eq_true] at e
 obtain ⟨-,⟨⟨⟨-,h2,-⟩,-⟩,-⟩,-⟩:=e
 rw [h0] at h2
 exact absurd h2 (by decide)
theorem few_sz {h:Hi} {t:List Vs} (e:fewF h t=true):SzC h∧t.length≤1000000∧∀ v,v∈t→SzV v:=by
 simp only [fewF,fewC,fewV,Bool.and_eq_true,decide_eq_true_eq,List.all_eq_true] at e
 obtain ⟨h1,h2,h3,h4,h5⟩:=e
 refine ⟨⟨by omega,by omega,fun c hc=>by have:=h4 c hc;omega⟩,by omega,fun v hv=>?_⟩
 have:=h5 v hv
 exact ⟨by omega,by omega,by omega⟩
theorem turnR_err {l:List Bl} {a d:Int} (hR:Rt l) (ha:0≤a∧a≤4000000000000000000) (h:(turnR l a d).2≠0):(turnR l a d).2=2∨(turnR l a d).2=10:=by
 revert h
 rw [turnR,if_neg (by simp only [Classical.not_not];exact ⟨rightB_iff.2 hR,ha⟩)]
 repeat' split
 all_goals simp
theorem planR_err {a f t n:Int} (hm:mayP a f t n=true) (h:(planR a f t n).2≠0):(planR a f t n).2=3:=by
 revert h
 rw [planR,if_neg (by rw [hm];simp)]
 split<;>simp
set_option maxHeartbeats 4000000 in
theorem lBills (hh:Hi) (t:List Vs) (x:Ch) (m p:Int) (h1:hh.ch.length≤9223372036854775807) (h2:t.length≤9223372036854775807) (hm:0≤m∧m<256) (hp:0≤p∧p<4294967296) :
  Ctr Tryz.prog 3 [vHi hh,.ag [.d (slV t)],vCh x,.d (.int .u8 m),.d (.int .u32 p)] [] (.d (.bool true)) [] []:=by
 have k0:=sAlive
 have kf:=sPFew hh t x h1 h2
 simp only [vHi,cHi,vCh,cCh,slC,slH,dCh,slV,dVs,slB] at kf
 cases hf:(fewF hh t&&decide (x.cv.length≤50)) with
 |false =>
  rw [hf] at kf
  refine ctr_pure Tryz.func3 ok3 rfl cc3 cr3 Tryz.ntmps3 (by simp) rfl rfl ?_;intro c hP hfn;simp only [kc3,vHi,cHi,vCh,cCh,slC,slH,dCh,slV,dVs,slB,vcd,↓vcp,seval]
  repeat' first|((first|refine tp hP (by first|exact k0|exact kf) ?_|refine tg hP (fun _=>by first|exact k0|exact kf) ?_|refine tv hP rfl (by first|exact k0|exact kf) ?_);try simp only [vcd,↓vcp,seval])|refine And.intro (fun h=>?_) (fun h=>?_)|refine aO ?_|(refine tA rfl rfl rfl rfl ?_;try simp only [vcd,↓vcp,seval])|refine aT ?_|fail
  exact RetK.pure (by simp only [rs3,rsb,vcd,↓vcp,seval]) (by (simp only [rs3,rsb,enb,vcd,↓vcp,seval])<;>(first|exact VLe.refl _))
 |true =>
  rw [hf] at kf
  rw [Bool.and_eq_true,decide_eq_true_eq] at hf
  obtain ⟨z,ht,hz⟩:=few_sz hf.1
  have hcv:x.cv.length≤1000000:=by omega
  have kp:=sPutC hh x z.t hcv (by have:=z.n;omega)
  have kd:=sDueF hh t z ht hz
  have ke:=sDueF (putC hh x).1 t (putC_sz z hcv) ht hz
  have kg:=sGivenF hh t x z ht hz hcv
  have hb1:=dueF_b hh t
  have hb2:=dueF_b (putC hh x).1 t
  have hr:(dueF hh t).2=0→rightHi hh=true:=fun e=>dueF_right e
  rw [givenF] at kg
  generalize putC hh x=X at *
  obtain ⟨X,xe⟩:=X
  simp only at ke kg hb2
  generalize dueF hh t=D1 at *
  generalize dueF X t=D2 at *
  obtain ⟨d1,de1⟩:=D1
  obtain ⟨d2,de2⟩:=D2
  simp only at hb1 hb2 hr
  have hsf:∃ a b,a=hh.tm.sf∧b=hh.tm.st:=⟨_,_,rfl,rfl⟩
  obtain ⟨sf,st,esf,est⟩:=hsf
  simp only [vHi,cHi,vCh,cCh,slC,slH,dCh,slV,dVs,slB] at kp kd ke kg
  have n0:((0:Int) != 0)=false:=rfl
  by_cases e1:xe=0
  ·subst e1
   by_cases e2:de1=0
   ·subst e2
    by_cases e3:de2=0
    ·subst e3
     rw [if_neg (by simp),if_neg (by simp),if_neg (by simp)] at kg
     simp only at kg
     have hr:=hr rfl
     obtain ⟨n,hn,hq⟩:∃ n:Int,(n=1∨n=2∨n=4∨n=12)∧((m.tmod 4=0∧n=1)∨(m.tmod 4=1∧n=2)∨(m.tmod 4=2∧n=4)∨(m.tmod 4=3∧n=12)):=by
      have:m.tmod 4=m % 4:=Int.tmod_eq_emod_of_nonneg hm.1
      have h4:m % 4=0∨m % 4=1∨m % 4=2∨m % 4=3:=by omega
      rw [this]
      rcases h4 with h|h|h|h
      ·exact ⟨1,by omega,by omega⟩
      ·exact ⟨2,by omega,by omega⟩
      ·exact ⟨4,by omega,by omega⟩
      ·exact ⟨12,by omega,by omega⟩
     have kl:=sPlan d1 hh.tm.sf hh.tm.st n
     simp only [vS] at kl
     have hd1:IntKind.i64.wrap (d1-d2)=d1-d2:=wI (by omega)
     rw [hd1] at kg
     have b1:decide (d1<0)=false:=decide_eq_false (by omega)
     have b2:decide (d2<0)=false:=decide_eq_false (by omega)
     have b3:((d1-d2) != (d1-d2))=false:=by simp
     have hq1:(1≤(List.take 1 (List.drop (m.tmod 4).toNat [D.int IntKind.i64 1,D.int IntKind.i64 2,D.int IntKind.i64 4,D.int IntKind.i64 12])).length)=True:=by
      rcases hq with ⟨h,-⟩|⟨h,-⟩|⟨h,-⟩|⟨h,-⟩<;>rw [h]<;>simp
     have hq2:nthD (List.take 1 (List.drop (m.tmod 4).toNat [D.int IntKind.i64 1,D.int IntKind.i64 2,D.int IntKind.i64 4,D.int IntKind.i64 12])) 0=.d (.int .i64 n):=by
      rcases hq with ⟨h,h'⟩|⟨h,h'⟩|⟨h,h'⟩|⟨h,h'⟩<;>rw [h,h']<;>rfl
     have hm4:0≤m.tmod 4∧m.tmod 4<4:=by omega
     have hmp:=mayP_of (a:=d1) hr hb1 hn
     by_cases e4:(planR d1 hh.tm.sf hh.tm.st n).2=0
     ·obtain ⟨hP,hPe,-⟩:=planR_ok e4
      obtain ⟨hR,hsA,hsP⟩:=hP.right
      rw [←hPe] at hR hsA hsP
      rw [e4] at kl
      generalize (planR d1 hh.tm.sf hh.tm.st n).1=L at *
      have hL:=hR.len
      have ky:=sPay L p (by omega) (by omega)
      have hpay:payF L p=payL p L:=by rw [payF,if_pos ⟨rightB_iff.2 hR,hp.1⟩]
      have hpd:=payL_paid hR.nn hp.1
      have hR2:=pay_right hR hp.1
      rw [hpay] at ky
      generalize payL p L=Y at *
      obtain ⟨Y,lf⟩:=Y
      simp only at ky hpd hR2
      have hYl:=hR2.len
      have kt:=sTurned Y d2 x.bk (by omega)
      have hc:IntKind.i64.wrap p=p:=wI (by omega)
      simp only [slL] at kl ky kt
      by_cases e5:(turnR Y d2 x.bk).2=0
      ·have hT:=turn_ok e5 hR2
       rw [e5] at kt
       generalize (turnR Y d2 x.bk).1=T at *
       have ks:=rSumB T hT.right
       have ko:=sOpen T 292194 (by have:=hT.right.len;omega)
       rw [hT.sumA,hT.sumP,hpd.sumP,hsP] at ks
       have hO:openR T 292194=d2-(p-lf):=by
        rw [openR,if_pos (rightB_iff.2 hT.right),openS_early (fun b hb=>(hT.right.each b hb).2.1),hT.sumA,hT.sumP,hpd.sumP,hsP];omega
       rw [hO] at ko
       simp only [slL] at ks ko
       have hlf0:=hpd.left0
       have hlfa:=hpd.lefta
       have w1:IntKind.i64.wrap (p-lf)=p-lf:=wI (by omega)
       have w2:IntKind.i64.wrap (d2-(p-lf))=d2-(p-lf):=wI (by omega)
       have z0:(0:Int)+(p-lf)=p-lf:=by omega
       rw [z0] at ks
       have b4:(d2 != d2)=false:=by simp
       have b5:((p-lf) != (p-lf))=false:=by simp
       have b6:((d2-(p-lf)) == (d2-(p-lf)))=true:=by simp
       have hlen:=hT.len
       have b7:(((T.length:Nat):Int) != ((Y.length:Nat):Int))=false:=by rw [hlen];simp
       refine ctr_pure Tryz.func3 ok3 rfl cc3 cr3 Tryz.ntmps3 (by simp) rfl rfl ?_;intro c hP hfn;simp only [kc3,vHi,cHi,vCh,cCh,slC,slH,dCh,slV,dVs,slB,vcd,↓vcp,seval]
       repeat' first|((first|refine tp hP (by first|exact k0|exact kf|exact kp|exact kd|exact ke|exact kg|exact kl|exact ky|exact kt|exact ks) ?_|refine tg hP (fun _=>by first|exact k0|exact kf|exact kp|exact kd|exact ke|exact kg|exact kl|exact ky|exact kt|exact ks) ?_|refine tv hP rfl (by first|exact k0|exact kf|exact kp|exact kd|exact ke|exact kg|exact kl|exact ky|exact kt|exact ks) ?_);try simp only [n0,hd1,b1,b2,b3,hq1,hq2,hc,w1,b4,b5,b7,vcd,↓vcp,seval])|refine And.intro (fun h=>?_) (fun h=>?_)|refine aO ?_|(refine tA rfl rfl rfl rfl ?_;try simp only [n0,hd1,b1,b2,b3,hq1,hq2,hc,w1,b4,b5,b7,vcd,↓vcp,seval])|refine aT ?_|fail
       refine vcC.loop (X:=Nat) (fun k=>⟨[(7,.own 7 0),(11,.d (.bool true)),(17,.d (.int .i64 d2)),(24,.d (slL Y)),(26,.d (slL T)),(29,.d (.int .i64 (p-lf))),(30,.d (.int .i64 k))],[(7,.fix (cCh x))],[7]⟩)
        (fun k=>k≤Y.length) (fun k=>Y.length-k) 0 (Nat.zero_le _) (Wk.of _ hfn rfl (by simp only [slL,enb,vcd,↓vcp,seval]) (by simp only [cCh,slC,enb,vcd,↓vcp,seval])) ?_
       rintro k hk
       by_cases hlt:k<Y.length
       ·obtain ⟨y,-,hg,-,-⟩:=drop_at hlt
        obtain ⟨v,-,hg2,-,-⟩:=drop_at (l:=T) (k:=k) (by omega)
        have hsm:=(hT.same k hlt).2.2
        have hg:=hg default
        have hg2:=hg2 default
        rw [hg,hg2] at hsm
        have b0:decide ((k:Int)<(Y.length:Int))=true:=decide_eq_true (by omega)
        have ewk:IntKind.i64.wrap ((k:Int)+1)=((k+1:Nat):Int):=wS (by omega)
        by_cases hdu:y.du≤x.bk
        ·have hvy:=hsm hdu
         subst hvy
         have c1:decide (v.du≤x.bk)=true:=decide_eq_true hdu
         have c2:∀ i:Int,(i == i)=true:=fun i=>by simp
         simp only [slL,cCh,slC,b0,hg,hg2,c1,c2,ewk,vcd,↓vcp,seval]
         repeat' first|refine And.intro (fun h=>?_) (fun h=>?_)|refine aO ?_|(refine tA rfl rfl rfl rfl ?_;try simp only [hg,hg2,c1,c2,ewk,vcd,↓vcp,seval])|refine aT ?_|fail
         exact lopK.on (k+1) hlt (by omega) (Wk.of _ hfn rfl (by simp only [slL,ewk,enb,vcd,↓vcp,seval]) (by simp only [cCh,slC,enb,vcd,↓vcp,seval]))
        ·have c1:decide (y.du≤x.bk)=false:=decide_eq_false hdu
         simp only [slL,cCh,slC,b0,hg,hg2,c1,ewk,vcd,↓vcp,seval]
         repeat' first|refine And.intro (fun h=>?_) (fun h=>?_)|refine aO ?_|(refine tA rfl rfl rfl rfl ?_;try simp only [hg,hg2,c1,ewk,vcd,↓vcp,seval])|refine aT ?_|fail
         exact lopK.on (k+1) hlt (by omega) (Wk.of _ hfn rfl (by simp only [slL,ewk,enb,vcd,↓vcp,seval]) (by simp only [cCh,slC,enb,vcd,↓vcp,seval]))
       ·have b0:decide ((k:Int)<(Y.length:Int))=false:=decide_eq_false (by omega)
        simp only [slL,cCh,slC,b0,vcd,↓vcp,seval]
        repeat' first|((first|refine tp hP (by exact ko) ?_|refine tg hP (fun _=>by exact ko) ?_|refine tv hP rfl (by exact ko) ?_);try simp only [b0,w2,b6,vcd,↓vcp,seval])|refine And.intro (fun h=>?_) (fun h=>?_)|refine aO ?_|(refine tA rfl rfl rfl rfl ?_;try simp only [b0,w2,b6,vcd,↓vcp,seval])|refine aT ?_|fail
        exact RetK.pure (by simp only [rs3,rsb,vcd,↓vcp,seval]) (by (simp only [rs3,rsb,enb,vcd,↓vcp,seval])<;>(first|exact VLe.refl _))
      ·have n1:((turnR Y d2 x.bk).2 != 0)=true:=bne_iff_ne.2 e5
       rcases turnR_err hR2 hb2 e5 with h5|h5
       all_goals rw [h5] at kt n1
       ·refine ctr_pure Tryz.func3 ok3 rfl cc3 cr3 Tryz.ntmps3 (by simp) rfl rfl ?_;intro c hP hfn;simp only [kc3,vHi,cHi,vCh,cCh,slC,slH,dCh,slV,dVs,slB,vcd,↓vcp,seval]
        repeat' first|((first|refine tp hP (by first|exact k0|exact kf|exact kp|exact kd|exact ke|exact kg|exact kl|exact ky|exact kt) ?_|refine tg hP (fun _=>by first|exact k0|exact kf|exact kp|exact kd|exact ke|exact kg|exact kl|exact ky|exact kt) ?_|refine tv hP rfl (by first|exact k0|exact kf|exact kp|exact kd|exact ke|exact kg|exact kl|exact ky|exact kt) ?_);try simp only [n0,hd1,b1,b2,b3,hq1,hq2,hc,n1,Int.reduceBEq,vcd,↓vcp,seval])|refine And.intro (fun h=>?_) (fun h=>?_)|refine aO ?_|(refine tA rfl rfl rfl rfl ?_;try simp only [n0,hd1,b1,b2,b3,hq1,hq2,hc,n1,Int.reduceBEq,vcd,↓vcp,seval])|refine aT ?_|fail
        exact RetK.pure (by simp only [rs3,rsb,vcd,↓vcp,seval]) (by (simp only [rs3,rsb,enb,vcd,↓vcp,seval])<;>(first|exact VLe.refl _))
       ·refine ctr_pure Tryz.func3 ok3 rfl cc3 cr3 Tryz.ntmps3 (by simp) rfl rfl ?_;intro c hP hfn;simp only [kc3,vHi,cHi,vCh,cCh,slC,slH,dCh,slV,dVs,slB,vcd,↓vcp,seval]
        repeat' first|((first|refine tp hP (by first|exact k0|exact kf|exact kp|exact kd|exact ke|exact kg|exact kl|exact ky|exact kt) ?_|refine tg hP (fun _=>by first|exact k0|exact kf|exact kp|exact kd|exact ke|exact kg|exact kl|exact ky|exact kt) ?_|refine tv hP rfl (by first|exact k0|exact kf|exact kp|exact kd|exact ke|exact kg|exact kl|exact ky|exact kt) ?_);try simp only [n0,hd1,b1,b2,b3,hq1,hq2,hc,n1,Int.reduceBEq,vcd,↓vcp,seval])|refine And.intro (fun h=>?_) (fun h=>?_)|refine aO ?_|(refine tA rfl rfl rfl rfl ?_;try simp only [n0,hd1,b1,b2,b3,hq1,hq2,hc,n1,Int.reduceBEq,vcd,↓vcp,seval])|refine aT ?_|fail
        exact RetK.pure (by simp only [rs3,rsb,vcd,↓vcp,seval]) (by (simp only [rs3,rsb,enb,vcd,↓vcp,seval])<;>(first|exact VLe.refl _))
     ·have h3:=planR_err hmp e4
      have n1:((3:Int) != 0)=true:=rfl
      rw [h3] at kl
      simp only [slL] at kl
      refine ctr_pure Tryz.func3 ok3 rfl cc3 cr3 Tryz.ntmps3 (by simp) rfl rfl ?_;intro c hP hfn;simp only [kc3,vHi,cHi,vCh,cCh,slC,slH,dCh,slV,dVs,slB,vcd,↓vcp,seval]
      repeat' first|((first|refine tp hP (by first|exact k0|exact kf|exact kp|exact kd|exact ke|exact kg|exact kl) ?_|refine tg hP (fun _=>by first|exact k0|exact kf|exact kp|exact kd|exact ke|exact kg|exact kl) ?_|refine tv hP rfl (by first|exact k0|exact kf|exact kp|exact kd|exact ke|exact kg|exact kl) ?_);try simp only [n0,hd1,b1,b2,b3,hq1,hq2,n1,Int.reduceBEq,vcd,↓vcp,seval])|refine And.intro (fun h=>?_) (fun h=>?_)|refine aO ?_|(refine tA rfl rfl rfl rfl ?_;try simp only [n0,hd1,b1,b2,b3,hq1,hq2,n1,Int.reduceBEq,vcd,↓vcp,seval])|refine aT ?_|fail
      exact RetK.pure (by simp only [rs3,rsb,vcd,↓vcp,seval]) (by (simp only [rs3,rsb,enb,vcd,↓vcp,seval])<;>(first|exact VLe.refl _))
    ·have n1:(de2 != 0)=true:=bne_iff_ne.2 e3
     clear kg
     refine ctr_pure Tryz.func3 ok3 rfl cc3 cr3 Tryz.ntmps3 (by simp) rfl rfl ?_;intro c hP hfn;simp only [kc3,vHi,cHi,vCh,cCh,slC,slH,dCh,slV,dVs,slB,vcd,↓vcp,seval]
     repeat' first|((first|refine tp hP (by first|exact k0|exact kf|exact kp|exact kd|exact ke) ?_|refine tg hP (fun _=>by first|exact k0|exact kf|exact kp|exact kd|exact ke) ?_|refine tv hP rfl (by first|exact k0|exact kf|exact kp|exact kd|exact ke) ?_);try simp only [n0,n1,vcd,↓vcp,seval])|refine And.intro (fun h=>?_) (fun h=>?_)|refine aO ?_|(refine tA rfl rfl rfl rfl ?_;try simp only [n0,n1,vcd,↓vcp,seval])|refine aT ?_|fail
     exact RetK.pure (by simp only [rs3,rsb,vcd,↓vcp,seval]) (by (simp only [rs3,rsb,enb,vcd,↓vcp,seval])<;>(first|exact VLe.refl _))
   ·have n1:(de1 != 0)=true:=bne_iff_ne.2 e2
    clear kg
    refine ctr_pure Tryz.func3 ok3 rfl cc3 cr3 Tryz.ntmps3 (by simp) rfl rfl ?_;intro c hP hfn;simp only [kc3,vHi,cHi,vCh,cCh,slC,slH,dCh,slV,dVs,slB,vcd,↓vcp,seval]
    repeat' first|((first|refine tp hP (by first|exact k0|exact kf|exact kp|exact kd|exact ke) ?_|refine tg hP (fun _=>by first|exact k0|exact kf|exact kp|exact kd|exact ke) ?_|refine tv hP rfl (by first|exact k0|exact kf|exact kp|exact kd|exact ke) ?_);try simp only [n0,n1,vcd,↓vcp,seval])|refine And.intro (fun h=>?_) (fun h=>?_)|refine aO ?_|(refine tA rfl rfl rfl rfl ?_;try simp only [n0,n1,vcd,↓vcp,seval])|refine aT ?_|fail
    exact RetK.pure (by simp only [rs3,rsb,vcd,↓vcp,seval]) (by (simp only [rs3,rsb,enb,vcd,↓vcp,seval])<;>(first|exact VLe.refl _))
  ·have n1:(xe != 0)=true:=bne_iff_ne.2 e1
   clear kg
   refine ctr_pure Tryz.func3 ok3 rfl cc3 cr3 Tryz.ntmps3 (by simp) rfl rfl ?_;intro c hP hfn;simp only [kc3,vHi,cHi,vCh,cCh,slC,slH,dCh,slV,dVs,slB,vcd,↓vcp,seval]
   repeat' first|((first|refine tp hP (by first|exact k0|exact kf|exact kp|exact kd|exact ke) ?_|refine tg hP (fun _=>by first|exact k0|exact kf|exact kp|exact kd|exact ke) ?_|refine tv hP rfl (by first|exact k0|exact kf|exact kp|exact kd|exact ke) ?_);try simp only [n0,n1,vcd,↓vcp,seval])|refine And.intro (fun h=>?_) (fun h=>?_)|refine aO ?_|(refine tA rfl rfl rfl rfl ?_;try simp only [n0,n1,vcd,↓vcp,seval])|refine aT ?_|fail
   exact RetK.pure (by simp only [rs3,rsb,vcd,↓vcp,seval]) (by (simp only [rs3,rsb,enb,vcd,↓vcp,seval])<;>(first|exact VLe.refl _))
end Go.Proofs.YtanppabbmffokaaGreat
end
section
set_option linter.unusedSimpArgs false
set_option linter.unusedVariables false
namespace Go.Proofs.YtanppabbmffokaaGreat
set_option linter.unusedSimpArgs false
set_option linter.unusedVariables false
open Go.ChangeShapes Go.WideShapes Go.ChangeAt Go.RowKit Go.Bx
set_option maxRecDepth 100000
theorem topPremiumBills_lifted (os:Os) (started:os.Started) (H:Type) (enc:TypeId×Value→H) :
  ReturnsInHanded {} Tryz.checked os 3 .any (Rows.topPremiumBillsSpec.pre6 enc Tryz.prog Tryz.f3 Rows.topPremiumBillsRow.domain false) (Rows.topPremiumBillsSpec.post enc Tryz.prog Tryz.f3 false true false false):=by
 refine returnsInHanded_of_change (C:=Tryz.checked) Tryz.own started (by kernel_rfl) Tryz.func3
  (ChangeSpec.witness6 (enc:=enc) (C:=Tryz.checked) false ⟨#[],#[.agg #[.int .i64 0,.int .i64 0,.int .i64 0,.int .i64 0,.int .i64 0,.int .i64 0,.int .i64 0,.int .i64 0,.slice none 0 0,.slice none 0 0],.agg #[.slice none 0 0],.agg #[.int .i64 0,.int .i64 0,.int .i64 0,.int .i64 0,.int .i64 0,.int .i64 0,.int .i64 0,.slice none 0 0,.int .i64 0],.int .u8 0,.int .u32 0],[]⟩ 8 (by kernel_rfl) (by kernel_rfl) (by kernel_rfl) (by kernel_rfl)) ?_
 intro W base args ds gs before hval hW _ _
 refine law_calls (tb:=4) Tryz.laidOut (by kernel_rfl) (by kernel_rfl) Tryz.underlying4 rfl ?_ ?_ W base args ds gs before hval hW
 ·intro ds hd
  match ds,hd with
  |[_,_,_,_,_],_=>rfl
 ·intro W base args ds p hval hA
  rw [show Tryz.f3.params.toList=[31,34,36,5,37] by kernel_rfl] at hA
  obtain ⟨v0,v1,v2,v3,v4,d0,d1,d2,d3,d4,p0,p1,p2,p3,p4,rfl,rfl,_,h0,h1,h2,h3,h4⟩:=trodAll_five hA
  obtain ⟨h,hk,r0⟩:=history_reads.agg (by kernel_rfl) (hval 0 31 v0 rfl rfl) h0
  obtain ⟨t,tk,r1⟩:=tariff_reads.agg (by kernel_rfl) (hval 1 34 v1 rfl rfl) h1
  obtain ⟨x,xk,r2⟩:=change_reads.agg (by kernel_rfl) (hval 2 36 v2 rfl rfl) h2
  obtain ⟨m,mk,r3⟩:=u8_reads.cell (by kernel_rfl) (hval 3 5 v3 rfl rfl) h3
  obtain ⟨p,pk,r4⟩:=u32_reads.cell (by kernel_rfl) (hval 4 37 v4 rfl rfl) h4
  exact ⟨[vHi h,.ag [.d (slV t)],vCh x,.d (.int .u8 m),.d (.int .u32 p)],rfl,rel5 r0 r1 r2 r3 r4,lBills h t x m p hk.2.2.1 tk.1 mk pk⟩
theorem topPremiumBills_holds:Rows.TopPremiumBillsSaid:=
 OpenClaim.holds_of_wide 3 Tryz.f3 rfl rfl rfl rfl rfl rfl rfl ⟨rfl,rfl,rfl,rfl,rfl⟩ rfl rfl rfl rfl rfl (by kernel_rfl) Tryz.func3 (by kernel_rfl)
  (of_decide_eq_true (by kernel_rfl)) (by unfold Func.isWrapper;first|(rw [if_pos (by decide +kernel)];kernel_rfl)|(rw [if_neg (by decide +kernel)];exact ⟨rfl,rfl⟩))
  (fun os started H enc _=>topPremiumBills_lifted os started H enc)
end Go.Proofs.YtanppabbmffokaaGreat
end
