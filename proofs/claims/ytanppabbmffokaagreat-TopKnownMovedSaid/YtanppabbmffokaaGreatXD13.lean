import Derived.Test.YtanppabbmffokaaGreatXD12
set_option linter.unusedSimpArgs false
set_option linter.unusedVariables false
section
namespace Go.Proofs.YtanppabbmffokaaGreat
open Go.Bx
set_option maxRecDepth 10000
theorem ofS_cvM {h:Hi} {t:List Vs} (z:SzC h):∀ s,s∈(ofS h t).1→s.cv.length≤1000000:=by
 have h2:=(cutS_ok z).2
 intro s hs
 rw [ofS] at hs
 by_cases h1:rightHi h=false
 ·rw [if_pos h1] at hs;simp at hs
 ·rw [if_neg h1] at hs
  cases hv:atV t h.tm.sf with
  |none=>rw [hv] at hs;simp at hs
  |some v =>
   rw [hv] at hs
   simp only at hs
   by_cases h3:errP v (cutS h)=0
   ·rw [if_pos h3] at hs
    simp only [List.mem_map] at hs
    obtain ⟨s',h4,rfl⟩:=hs
    have:=h2 s' h4
    rw [mapP];split<;>exact this
   ·rw [if_neg h3] at hs;simp at hs
theorem sliK_szM {h:Hi} {t:List Vs} (z:SzC h) (on:Int):(sliK h t on).1.length≤h.ch.length+1∧∀ s,s∈(sliK h t on).1→s.cv.length≤1000000:=by
 have z2:=atK_sz z on
 have h1:=(cutS_ok z2).1
 rw [sliK]
 by_cases h3:(atK h on).2≠0
 ·rw [if_pos h3];simp
 ·rw [if_neg h3]
  have hl:(atK h on).1.ch.length≤h.ch.length:=by
   rw [atK]
   split
   ·simp [zHi]
   ·exact uptoL_len _ _
  refine ⟨?_,ofS_cvM z2⟩
  unfold ofS
  repeat' split
  all_goals simp
  omega
theorem atK_tm {h:Hi} {on:Int} (e:(atK h on).2=0):(atK h on).1.tm=h.tm:=by
 revert e
 rw [atK]
 split<;>simp
theorem sliK_cov {h:Hi} {t:List Vs} {on:Int} (e:(sliK h t on).2=0):CovO h (sliK h t on).1:=by
 by_cases h3:(atK h on).2=0
 ·have h4:sliK h t on=ofS (atK h on).1 t:=by rw [sliK,if_neg (by simpa using h3)]
  rw [h4] at e ⊢
  have:=ofS_cov e
  have ht:=atK_tm h3
  exact ⟨by rw [←ht];exact this.cov,by rw [←ht];exact this.lo,by rw [←ht];exact this.lt,by rw [←ht];exact this.hi,this.yr⟩
 ·rw [sliK,if_pos h3] at e
  exact absurd e h3
theorem sConcat2 (L M:List Sl) (hl:L.length≤1000000) (hm:M.length≤1000000) :
  Ctr Tryz.prog 80 [.d (.sl true 1 2 (litRow 1 [slS L,slS M]))] [] (.d (slS (L++M))) [] []:=by
 have hc:=sConcatS [L,M] (fun _=>false) (fun i j=>if i=0 then dSl (L.getD j default) else dSl (M.getD j default)) ?_ (by simp) ?_
 ·have ef:[L,M].flatten=L++M:=by simp
  rw [ef] at hc
  refine hc.arg ⟨VLe.sl rfl (fun _=>rfl) (fun _=>rfl) (fun i hi=>?_),trivial⟩
  have:i=0∨i=1:=by omega
  rcases this with rfl|rfl
  ·simp [litRow,slS]
  ·simp [litRow,slS]
 ·intro i j hi hj
  have:i=0∨i=1:=by simp at hi;omega
  rcases this with rfl|rfl
  ·simp
  ·simp
 ·simp;omega
def movK (h:Hi) (t:List Vs) (a b:Int):List (Int×Int)×Int:=
 if (sliK h t a).2≠0 then ([],(sliK h t a).2) else if (sliK h t b).2≠0 then ([],(sliK h t b).2) else (movP (sliK h t a).1 (sliK h t b).1 h.tm.sf h.tm.st,0)
set_option maxHeartbeats 4000000 in
theorem sMoved (hh:Hi) (t:List Vs) (a b:Int) (z:SzC hh) (hn:hh.ch.length≤1000) (ht:t.length≤1000000) (hz:∀ v,v∈t→SzV v) :
  Ctr Tryz.prog 31 [vHi hh,.ag [.d (slV t)],.d (.int .i64 a),.d (.int .i64 b)] [] (.tup [.d (slP (movK hh t a b).1),.d (.int .i64 (movK hh t a b).2)]) [] []:=by
 have ka:=sSlicesK hh t a z ht hz
 have kb:=sSlicesK hh t b z ht hz
 have n0:((0:Int) != 0)=false:=rfl
 by_cases e1:(sliK hh t a).2=0
 ·by_cases e2:(sliK hh t b).2=0
  ·have em:movK hh t a b=(movP (sliK hh t a).1 (sliK hh t b).1 hh.tm.sf hh.tm.st,0):=by rw [movK,if_neg (by simpa using e1),if_neg (by simpa using e2)]
   have cl:=sliK_cov e1
   obtain ⟨z1,z2⟩:=sliK_szM (t:=t) z a
   obtain ⟨z3,z4⟩:=sliK_szM (t:=t) z b
   rw [em]
   rw [e1] at ka
   rw [e2] at kb
   obtain ⟨a1,a2,a3⟩:=And.intro cl.lo (And.intro cl.lt cl.hi)
   clear cl em e1 e2
   generalize (sliK hh t a).1=L at *
   generalize (sliK hh t b).1=M at *
   have kc:=sConcat2 L M (by omega) (by omega)
   have kp:=sParts hh.tm.sf hh.tm.st ((L++M).map (·.sf)) (by rw [List.length_map,List.length_append];omega)
   have hql:=partsF_len hh.tm.sf hh.tm.st ((L++M).map (·.sf))
   rw [List.length_map,List.length_append] at hql
   obtain ⟨g1,g2⟩:=outP_ok (l:=L) (m:=M) a1 a2 a3
   have hol:(outP L M hh.tm.sf hh.tm.st).length≤1000000:=by
    have:=List.length_filter_le (fun p=>!likeS L M p.1) (partsF hh.tm.sf hh.tm.st ((L++M).map (·.sf)))
    rw [outP];omega
   have kj:=sJoin (outP L M hh.tm.sf hh.tm.st) hol g1 g2
   have hAl:(L++M).length≤10000:=by rw [List.length_append];omega
   have kl:=fun d=>sLike L M d (by omega) (by omega) z2
   rw [movP]
   simp only [vHi,cHi,slC,slH,dCh,slV,dVs,slB,slS,dSl] at ka kb
   simp only [slS,dSl,slC] at kc
   refine ctr_pure Tryz.func31 ok31 rfl cc31 cr31 Tryz.ntmps31 (by simp) rfl rfl ?_;intro c hP hfn;simp only [kc31,vHi,cHi,slC,slH,dCh,slV,dVs,slB,vcd,↓vcp,seval]
   repeat' first|((first|refine tp hP (by first|exact ka|exact kb|exact kc) ?_|refine tg hP (fun _=>by first|exact ka|exact kb|exact kc) ?_|refine tv hP rfl (by first|exact ka|exact kb|exact kc) ?_);try simp only [n0,vcd,↓vcp,seval])|refine ⟨fun h=>?_,fun h=>?_⟩|refine aO ?_|refine aT ?_|fail
   refine vcC.loop (X:=Nat) (fun k=>⟨[(13,.osl 1000),(4,.own 4 0),(10,.mem [slS L]),(12,.mem [slS M]),(43,.d (slS (L++M))),(44,.d (.int .i64 (L++M).length)),(45,.d (.int .i64 k))],[(1000,rowZ (((L++M).take k).map (·.sf))),(4,.fix (cHi hh))],[1000,4]⟩)
    (fun k=>k≤(L++M).length) (fun k=>(L++M).length-k) 0 (Nat.zero_le _) ?_ ?_
   ·refine (Wk.pubF 10 rfl rfl).trans ((Wk.pubF 12 rfl rfl).trans ((Wk.row0 (s:=13) (k:=1000) (e:=3) (sz:=1) (f':=fun _=>[]) rfl rfl (by simp)).trans (Wk.of _ hfn rfl ?_ ?_)))
    ·simp only [slS,dSl,slC,enb,vcd,↓vcp,seval]
    ·simp only [rowZ,cHi,slC,slH,dCh,List.take_zero,List.map_nil,enb,vcd,↓vcp,seval];exact OLe.row rfl (fun i hi=>absurd hi (Nat.not_lt_zero i))
   generalize hA:L++M=A at *
   intro k hk
   by_cases hlt:k<A.length
   ·obtain ⟨s,-,hg,-,hat⟩:=drop_at hlt
    have hg:=hg default
    have d0:decide ((k:Int)<(A.length:Int))=true:=decide_eq_true (by omega)
    have w1:IntKind.i64.wrap ((k:Int)+1)=((k+1:Nat):Int):=wS (by omega)
    have b1:(0:Int)≤(k:Int)∧(k:Int)<(A.length:Int):=by omega
    have hsa:(A.take (k+1)).map (·.sf)=(A.take k).map (·.sf)++[s.sf]:=by rw [List.take_add_one,hat];simp
    have hlk:((A.take k).map (·.sf)).length≤10000:=by rw [List.length_map,List.length_take];omega
    have hroom:(((A.take k).map (·.sf)).length+1)*8≤140737488355328∧((A.take k).map (·.sf)).length+1≤maxLen:=⟨by omega,by simp only [maxLen];omega⟩
    generalize (A.take k).map (·.sf)=B at *
    simp only [rowZ,cHi,slS,dSl,slC,slH,dCh,d0,hg,vcd,↓vcp,seval]
    repeat' first|refine ⟨fun h=>?_,fun h=>?_⟩|refine aO ?_|refine aT ?_|fail
    refine lopK.on (k+1) (by omega) (by omega) ((Wk.sw 54 1000 _ hfn (by simp) (by simp)).trans (Wk.of _ hfn rfl (by simp only [slS,dSl,slC,w1,enb,vcd,↓vcp,seval]) ?_))
    simp only [rowZ,hsa,cHi,slC,slH,dCh,enb,vcd,↓vcp,seval]
    exact OLe.app1 (fun n:Int=>[.int .i64 n]) (fun i hi=>by rw [if_pos hi]) (by simp [litRow])
   ·obtain rfl:k=A.length:=by omega
    have d0:decide ((A.length:Int)<(A.length:Int))=false:=decide_eq_false (by omega)
    have eo:outP L M hh.tm.sf hh.tm.st=(partsF hh.tm.sf hh.tm.st (A.map (·.sf))).filter fun p=>!likeS L M p.1:=by rw [outP,hA]
    rw [List.take_length]
    simp only [rowZ,cHi,slS,dSl,slC,slH,dCh,d0,vcd,↓vcp,seval]
    simp only [vS,slK] at kp
    repeat' first|refine ⟨fun h=>?_,fun h=>?_⟩|refine aO ?_|refine aT ?_|fail
    refine TR.pub hP 1000 rfl kp (by repeat' first|exact trivial|(intro _;assumption)|apply And.intro) ?_
    rw [eo] at kj ⊢
    generalize partsF hh.tm.sf hh.tm.st (A.map (·.sf))=Q at *
    simp only [slP,dP,vcd,↓vcp,seval]
    repeat' first|refine ⟨fun h=>?_,fun h=>?_⟩|refine aO ?_|refine aT ?_|fail
    refine vcC.loop (X:=Nat) (fun k=>⟨[(17,.osl 1001),(16,.fn (.func 81) [] [.mem [slS L],.mem [slS M]]),(61,.d (slP Q)),(62,.d (.int .i64 Q.length)),(63,.d (.int .i64 k))],[(1001,rowP ((Q.take k).filter fun p=>!likeS L M p.1))],[1001]⟩)
     (fun k=>k≤Q.length) (fun k=>Q.length-k) 0 (Nat.zero_le _) ?_ ?_
    ·refine (Wk.row0 (s:=17) (k:=1001) (e:=23) (sz:=2) (f':=fun _=>[]) rfl rfl (by simp)).trans (Wk.of _ hfn rfl ?_ ?_)
     ·simp only [slP,dP,slS,dSl,slC,enb,vcd,↓vcp,seval]
     ·simp only [rowP,dP,List.take_zero,List.filter_nil,enb,vcd,↓vcp,seval];exact OLe.row rfl (fun i hi=>absurd hi (Nat.not_lt_zero i))
    intro k hk
    by_cases hlt:k<Q.length
    ·obtain ⟨p,-,hg,-,hat⟩:=drop_at hlt
     have hg:=hg default
     have d0:decide ((k:Int)<(Q.length:Int))=true:=decide_eq_true (by omega)
     have w1:IntKind.i64.wrap ((k:Int)+1)=((k+1:Nat):Int):=wS (by omega)
     have b1:(0:Int)≤(k:Int)∧(k:Int)<(Q.length:Int):=by omega
     have kll:=kl p.1
     simp only [slS,dSl,slC] at kll
     have hfl:((Q.take k).filter fun p=>!likeS L M p.1).length≤10000:=by
      have:=List.length_filter_le (fun p=>!likeS L M p.1) (Q.take k)
      rw [List.length_take] at this;omega
     have hsa:(Q.take (k+1)).filter (fun p=>!likeS L M p.1)=(Q.take k).filter (fun p=>!likeS L M p.1)++(if likeS L M p.1=true then [] else [p]):=by
      rw [List.take_add_one,hat,List.filter_append]
      congr 1
      cases h:likeS L M p.1<;>simp [h]
     cases hlk:likeS L M p.1 with
     |true =>
      rw [hlk] at kll hsa
      rw [if_pos rfl,List.append_nil] at hsa
      simp only [rowP,slP,dP,slS,dSl,slC,d0,hg,vcd,↓vcp,seval]
      repeat' first|((first|refine tp hP (by exact kll) ?_|refine tg hP (fun _=>by exact kll) ?_|refine tv hP rfl (by exact kll) ?_);try simp only [d0,hg,w1,vcd,↓vcp,seval])|refine ⟨fun h=>?_,fun h=>?_⟩|refine aO ?_|refine aT ?_|fail
      refine lopK.on (k+1) (by omega) (by omega) (Wk.of _ hfn rfl (by simp only [slP,dP,slS,dSl,slC,w1,enb,vcd,↓vcp,seval]) ?_)
      simp only [rowP,dP,hsa,enb,vcd,↓vcp,seval]
     |false =>
      rw [hlk] at kll hsa
      rw [if_neg (by simp)] at hsa
      generalize (Q.take k).filter (fun p=>!likeS L M p.1)=B at *
      have hroom:(B.length+1)*16≤140737488355328∧B.length+1≤maxLen:=⟨by omega,by simp only [maxLen];omega⟩
      simp only [rowP,slP,dP,slS,dSl,slC,d0,hg,vcd,↓vcp,seval]
      repeat' first|((first|refine tp hP (by exact kll) ?_|refine tg hP (fun _=>by exact kll) ?_|refine tv hP rfl (by exact kll) ?_);try simp only [d0,hg,w1,vcd,↓vcp,seval])|refine ⟨fun h=>?_,fun h=>?_⟩|refine aO ?_|refine aT ?_|fail
      refine lopK.on (k+1) (by omega) (by omega) ((Wk.sw 75 1001 _ hfn (by simp) (by simp)).trans (Wk.of _ hfn rfl (by simp only [slP,dP,slS,dSl,slC,w1,enb,vcd,↓vcp,seval]) ?_))
      simp only [rowP,dP,hsa,enb,vcd,↓vcp,seval]
      exact OLe.app1 dP (fun i hi=>by simp [hi,dP]) (by simp [litRow,dP])
    ·have d0:decide ((k:Int)<(Q.length:Int))=false:=decide_eq_false (by omega)
     obtain rfl:k=Q.length:=by omega
     rw [List.take_length]
     simp only [rowP,slP,dP,slS,dSl,slC,d0,vcd,↓vcp,seval]
     simp only [slP] at kj
     repeat' first|refine ⟨fun h=>?_,fun h=>?_⟩|refine aO ?_|refine aT ?_|fail
     refine TR.pub hP 1001 rfl kj (by repeat' first|exact trivial|(intro _;assumption)|apply And.intro) ?_
     simp only [vcd,↓vcp,seval]
     repeat' first|refine ⟨fun h=>?_,fun h=>?_⟩|refine aO ?_|refine aT ?_|fail
     exact RetK.pure (by simp only [rs31,rsb,vcd,↓vcp,seval]) (by (simp only [rs31,rsb,enb,vcd,↓vcp,seval])<;>(first|exact VLe.refl _))
  ·have n1:((sliK hh t b).2 != 0)=true:=bne_iff_ne.2 e2
   have em:movK hh t a b=([],(sliK hh t b).2):=by rw [movK,if_neg (by simpa using e1),if_pos e2]
   rw [em]
   rw [e1] at ka
   generalize sliK hh t a=A at *
   generalize sliK hh t b=B at *
   simp only [vHi,cHi,slC,slH,dCh,slV,dVs,slB,slS,dSl] at ka kb
   refine ctr_pure Tryz.func31 ok31 rfl cc31 cr31 Tryz.ntmps31 (by simp) rfl rfl ?_;intro c hP hfn;simp only [kc31,vHi,cHi,slC,slH,dCh,slV,dVs,slB,vcd,↓vcp,seval]
   repeat' first|((first|refine tp hP (by first|exact ka|exact kb) ?_|refine tg hP (fun _=>by first|exact ka|exact kb) ?_|refine tv hP rfl (by first|exact ka|exact kb) ?_);try simp only [n0,n1,vcd,↓vcp,seval])|refine ⟨fun h=>?_,fun h=>?_⟩|refine aO ?_|refine aT ?_|fail
   refine RetK.pure (by simp only [rs31,rsb,vcd,↓vcp,seval]) ?_
   simp only [rs31,rsb,vcd,↓vcp,seval]
   exact VLe.tups ⟨vle_nil,VLe.refl _,trivial⟩
 ·have n1:((sliK hh t a).2 != 0)=true:=bne_iff_ne.2 e1
  have em:movK hh t a b=([],(sliK hh t a).2):=by rw [movK,if_pos e1]
  rw [em]
  generalize sliK hh t a=A at *
  simp only [vHi,cHi,slC,slH,dCh,slV,dVs,slB,slS,dSl] at ka
  refine ctr_pure Tryz.func31 ok31 rfl cc31 cr31 Tryz.ntmps31 (by simp) rfl rfl ?_;intro c hP hfn;simp only [kc31,vHi,cHi,slC,slH,dCh,slV,dVs,slB,vcd,↓vcp,seval]
  repeat' first|((first|refine tp hP (by exact ka) ?_|refine tg hP (fun _=>by exact ka) ?_|refine tv hP rfl (by exact ka) ?_);try simp only [n1,vcd,↓vcp,seval])|refine ⟨fun h=>?_,fun h=>?_⟩|refine aO ?_|refine aT ?_|fail
  refine RetK.pure (by simp only [rs31,rsb,vcd,↓vcp,seval]) ?_
  simp only [rs31,rsb,vcd,↓vcp,seval]
  exact VLe.tups ⟨vle_nil,VLe.refl _,trivial⟩
end Go.Proofs.YtanppabbmffokaaGreat
end
section
namespace Go.Proofs.YtanppabbmffokaaGreat
open Go.Bx
set_option maxRecDepth 10000
def fewC (l:List Ch):Bool:=l.all (fun c=>decide (c.cv.length≤50))
def fewV (t:List Vs):Bool:=t.all (fun v=>decide (v.age.length≤200)&&(decide (v.zn.length≤200)&&decide (v.pr.length≤200)))
def fewF (h:Hi) (t:List Vs):Bool:=decide (h.ch.length≤60)&&(decide (t.length≤100)&&(decide (h.tm.cv.length≤50)&&(fewC h.ch&&fewV t)))
theorem fewC_drop {l:List Ch} {k:Nat} {x:Ch} (h:l.drop k=x::l.drop (k+1)):fewC (l.drop k)=(decide (x.cv.length≤50)&&fewC (l.drop (k+1))):=by
 rw [h];rfl
theorem fewV_drop {l:List Vs} {k:Nat} {x:Vs} (h:l.drop k=x::l.drop (k+1)):fewV (l.drop k)=((decide (x.age.length≤200)&&(decide (x.zn.length≤200)&&decide (x.pr.length≤200)))&&fewV (l.drop (k+1))):=by
 rw [h];rfl
set_option maxHeartbeats 2000000 in
theorem sFew (hh:Hi) (t:List Vs) (h1:hh.ch.length≤9223372036854775807) (h2:t.length≤9223372036854775807):Ctr Tryz.prog 35 [vHi hh,.ag [.d (slV t)]] [] (.d (.bool (fewF hh t))) [] []:=by
 by_cases a1:hh.ch.length≤60
 ·have d1:decide (((hh.ch.length:Nat):Int)>60)=false:=decide_eq_false (by omega)
  by_cases a2:t.length≤100
  ·have d2:decide (((t.length:Nat):Int)>100)=false:=decide_eq_false (by omega)
   by_cases a3:hh.tm.cv.length≤50
   ·have d3:decide (((hh.tm.cv.length:Nat):Int)>50)=false:=decide_eq_false (by omega)
    have e:fewF hh t=(fewC hh.ch&&fewV t):=by rw [fewF,decide_eq_true a1,decide_eq_true a2,decide_eq_true a3];rfl
    rw [e]
    refine ctr_pure Tryz.func35 ok35 rfl cc35 cr35 Tryz.ntmps35 (by simp) rfl rfl ?_;intro c hP hfn;simp only [kc35,vHi,cHi,slC,slH,dCh,slV,dVs,slB,d1,d2,d3,vcd,↓vcp,seval]
    repeat' first|refine ⟨fun h=>?_,fun h=>?_⟩|refine aO ?_|refine aT ?_|fail
    refine vcC.loop (X:=Nat) (fun k=>⟨[(2,.own 2 0),(3,.own 3 0),(5,.d (.int .i64 k))],[(2,.fix (cHi hh)),(3,.fix [.d (slV t)])],[2,3]⟩)
     (fun k=>k≤hh.ch.length∧fewC hh.ch=fewC (hh.ch.drop k)) (fun k=>hh.ch.length-k) 0 ⟨Nat.zero_le _,rfl⟩ (Wk.of _ hfn rfl (by simp only [enb,vcd,↓vcp,seval]) (by simp only [cHi,slC,slH,dCh,slV,dVs,slB,enb,vcd,↓vcp,seval])) ?_
    rintro k ⟨hk,he⟩
    by_cases hlt:k<hh.ch.length
    ·obtain ⟨x,hd,hg,-,-⟩:=drop_at hlt
     have hg:=hg default
     have b0:decide ((k:Int)<(hh.ch.length:Int))=true:=decide_eq_true (by omega)
     have b1:(0:Int)≤(k:Int)∧(k:Int)<(hh.ch.length:Int):=by omega
     have ewk:IntKind.i64.wrap ((k:Int)+1)=((k+1:Nat):Int):=wS (by omega)
     rw [fewC_drop hd] at he
     by_cases hx:x.cv.length≤50
     ·have d4:decide (((x.cv.length:Nat):Int)>50)=false:=decide_eq_false (by omega)
      rw [decide_eq_true hx,Bool.true_and] at he
      simp only [cHi,slC,slH,dCh,slV,dVs,slB,b0,hg,d4,ewk,vcd,↓vcp,seval]
      repeat' first|refine ⟨fun h=>?_,fun h=>?_⟩|refine aO ?_|refine aT ?_|fail
      exact lopK.on (k+1) ⟨hlt,he⟩ (by omega) (Wk.of _ hfn rfl (by simp only [ewk,enb,vcd,↓vcp,seval]) (by simp only [cHi,slC,slH,dCh,slV,dVs,slB,enb,vcd,↓vcp,seval]))
     ·have d4:decide (((x.cv.length:Nat):Int)>50)=true:=decide_eq_true (by omega)
      rw [decide_eq_false hx,Bool.false_and] at he
      simp only [cHi,slC,slH,dCh,slV,dVs,slB,b0,hg,d4,ewk,he,vcd,↓vcp,seval]
      repeat' first|refine ⟨fun h=>?_,fun h=>?_⟩|refine aO ?_|refine aT ?_|fail
      exact RetK.pure (by simp only [rs35,rsb,vcd,↓vcp,seval]) (by (simp only [rs35,rsb,enb,vcd,↓vcp,seval])<;>(first|exact VLe.refl _))
    ·have b0:decide ((k:Int)<(hh.ch.length:Int))=false:=decide_eq_false (by omega)
     have e1:fewC hh.ch=true:=by rw [he,List.drop_eq_nil_of_le (by omega)];rfl
     rw [e1,Bool.true_and]
     simp only [cHi,slC,slH,dCh,slV,dVs,slB,b0,vcd,↓vcp,seval]
     repeat' first|refine ⟨fun h=>?_,fun h=>?_⟩|refine aO ?_|refine aT ?_|fail
     refine vcC.loop (X:=Nat) (fun k=>⟨[(3,.own 3 0),(6,.d (.int .i64 k))],[(3,.fix [.d (slV t)])],[2,3]⟩)
      (fun k=>k≤t.length∧fewV t=fewV (t.drop k)) (fun k=>t.length-k) 0 ⟨Nat.zero_le _,rfl⟩ (Wk.of _ hfn rfl (by simp only [enb,vcd,↓vcp,seval]) (by simp only [slV,dVs,slB,enb,vcd,↓vcp,seval])) ?_
     rintro k ⟨hk,he⟩
     by_cases hlt:k<t.length
     ·obtain ⟨x,hd,hg,-,-⟩:=drop_at hlt
      have hg:=hg default
      have b0:decide ((k:Int)<(t.length:Int))=true:=decide_eq_true (by omega)
      have b1:(0:Int)≤(k:Int)∧(k:Int)<(t.length:Int):=by omega
      have ewk:IntKind.i64.wrap ((k:Int)+1)=((k+1:Nat):Int):=wS (by omega)
      rw [fewV_drop hd] at he
      by_cases hx:x.age.length≤200
      ·have d4:decide (((x.age.length:Nat):Int)>200)=false:=decide_eq_false (by omega)
       by_cases hy:x.zn.length≤200
       ·have d5:decide (((x.zn.length:Nat):Int)>200)=false:=decide_eq_false (by omega)
        by_cases hz:x.pr.length≤200
        ·have d6:decide (((x.pr.length:Nat):Int)>200)=false:=decide_eq_false (by omega)
         rw [decide_eq_true hx,decide_eq_true hy,decide_eq_true hz] at he
         simp only [slK,slV,dVs,slB,b0,hg,d4,d5,d6,ewk,vcd,↓vcp,seval]
         repeat' first|refine ⟨fun h=>?_,fun h=>?_⟩|refine aO ?_|refine aT ?_|fail
         exact lopK.on (k+1) ⟨hlt,he⟩ (by omega) (Wk.of _ hfn rfl (by simp only [ewk,enb,vcd,↓vcp,seval]) (by simp only [slK,slV,dVs,slB,enb,vcd,↓vcp,seval]))
        ·have d6:decide (((x.pr.length:Nat):Int)>200)=true:=decide_eq_true (by omega)
         rw [decide_eq_true hx,decide_eq_true hy,decide_eq_false hz] at he
         rw [show fewV t=false from he]
         simp only [slK,slV,dVs,slB,b0,hg,d4,d5,d6,ewk,vcd,↓vcp,seval]
         repeat' first|refine ⟨fun h=>?_,fun h=>?_⟩|refine aO ?_|refine aT ?_|fail
         exact RetK.pure (by simp only [rs35,rsb,vcd,↓vcp,seval]) (by (simp only [rs35,rsb,enb,vcd,↓vcp,seval])<;>(first|exact VLe.refl _))
       ·have d5:decide (((x.zn.length:Nat):Int)>200)=true:=decide_eq_true (by omega)
        rw [decide_eq_true hx,decide_eq_false hy] at he
        rw [show fewV t=false from he]
        simp only [slK,slV,dVs,slB,b0,hg,d4,d5,ewk,vcd,↓vcp,seval]
        repeat' first|refine ⟨fun h=>?_,fun h=>?_⟩|refine aO ?_|refine aT ?_|fail
        exact RetK.pure (by simp only [rs35,rsb,vcd,↓vcp,seval]) (by (simp only [rs35,rsb,enb,vcd,↓vcp,seval])<;>(first|exact VLe.refl _))
      ·have d4:decide (((x.age.length:Nat):Int)>200)=true:=decide_eq_true (by omega)
       rw [decide_eq_false hx] at he
       rw [show fewV t=false from he]
       simp only [slK,slV,dVs,slB,b0,hg,d4,ewk,vcd,↓vcp,seval]
       repeat' first|refine ⟨fun h=>?_,fun h=>?_⟩|refine aO ?_|refine aT ?_|fail
       exact RetK.pure (by simp only [rs35,rsb,vcd,↓vcp,seval]) (by (simp only [rs35,rsb,enb,vcd,↓vcp,seval])<;>(first|exact VLe.refl _))
     ·have b0:decide ((k:Int)<(t.length:Int))=false:=decide_eq_false (by omega)
      have e1:fewV t=true:=by rw [he,List.drop_eq_nil_of_le (by omega)];rfl
      rw [e1]
      simp only [slV,dVs,slB,b0,vcd,↓vcp,seval]
      repeat' first|refine ⟨fun h=>?_,fun h=>?_⟩|refine aO ?_|refine aT ?_|fail
      exact RetK.pure (by simp only [rs35,rsb,vcd,↓vcp,seval]) (by (simp only [rs35,rsb,enb,vcd,↓vcp,seval])<;>(first|exact VLe.refl _))
   ·have d3:decide (((hh.tm.cv.length:Nat):Int)>50)=true:=decide_eq_true (by omega)
    have e:fewF hh t=false:=by rw [fewF,decide_eq_true a1,decide_eq_true a2,decide_eq_false a3];rfl
    rw [e]
    refine ctr_pure Tryz.func35 ok35 rfl cc35 cr35 Tryz.ntmps35 (by simp) rfl rfl ?_;intro c hP hfn;simp only [kc35,vHi,cHi,slC,slH,dCh,slV,dVs,slB,d1,d2,d3,vcd,↓vcp,seval]
    repeat' first|refine ⟨fun h=>?_,fun h=>?_⟩|refine aO ?_|refine aT ?_|fail
    exact RetK.pure (by simp only [rs35,rsb,vcd,↓vcp,seval]) (by (simp only [rs35,rsb,enb,vcd,↓vcp,seval])<;>(first|exact VLe.refl _))
  ·have d2:decide (((t.length:Nat):Int)>100)=true:=decide_eq_true (by omega)
   have e:fewF hh t=false:=by rw [fewF,decide_eq_true a1,decide_eq_false a2];rfl
   rw [e]
   refine ctr_pure Tryz.func35 ok35 rfl cc35 cr35 Tryz.ntmps35 (by simp) rfl rfl ?_;intro c hP hfn;simp only [kc35,vHi,cHi,slC,slH,dCh,slV,dVs,slB,d1,d2,vcd,↓vcp,seval]
   repeat' first|refine ⟨fun h=>?_,fun h=>?_⟩|refine aO ?_|refine aT ?_|fail
   exact RetK.pure (by simp only [rs35,rsb,vcd,↓vcp,seval]) (by (simp only [rs35,rsb,enb,vcd,↓vcp,seval])<;>(first|exact VLe.refl _))
 ·have d1:decide (((hh.ch.length:Nat):Int)>60)=true:=decide_eq_true (by omega)
  have e:fewF hh t=false:=by rw [fewF,decide_eq_false a1];rfl
  rw [e]
  refine ctr_pure Tryz.func35 ok35 rfl cc35 cr35 Tryz.ntmps35 (by simp) rfl rfl ?_;intro c hP hfn;simp only [kc35,vHi,cHi,slC,slH,dCh,slV,dVs,slB,d1,vcd,↓vcp,seval]
  repeat' first|refine ⟨fun h=>?_,fun h=>?_⟩|refine aO ?_|refine aT ?_|fail
  exact RetK.pure (by simp only [rs35,rsb,vcd,↓vcp,seval]) (by (simp only [rs35,rsb,enb,vcd,↓vcp,seval])<;>(first|exact VLe.refl _))
theorem sPFew (hh:Hi) (t:List Vs) (x:Ch) (h1:hh.ch.length≤9223372036854775807) (h2:t.length≤9223372036854775807):Ctr Tryz.prog 9 [vHi hh,.ag [.d (slV t)],vCh x] [] (.d (.bool (fewF hh t&&decide (x.cv.length≤50)))) [] []:=by
 have cf:=sFew hh t h1 h2
 simp only [vHi,cHi,slC,slH,dCh,slV,dVs,slB] at cf
 have e:decide (((x.cv.length:Nat):Int)≤50)=decide (x.cv.length≤50):=by rw [decide_eq_decide];omega
 generalize fewF hh t=f at *
 cases f <;>
 ·refine ctr_pure Tryz.func9 ok9 rfl cc9 cr9 Tryz.ntmps9 (by simp) rfl rfl ?_;intro c hP hfn;simp only [kc9,vHi,cHi,vCh,cCh,slC,slH,dCh,slV,dVs,slB,e,vcd,↓vcp,seval]
  repeat' first|((first|refine tp hP (by exact cf) ?_|refine tg hP (fun _=>by exact cf) ?_|refine tv hP rfl (by exact cf) ?_);try simp only [e,vcd,↓vcp,seval])|refine ⟨fun h=>?_,fun h=>?_⟩|refine aO ?_|refine aT ?_|fail
  exact RetK.pure (by simp only [rs9,rsb,vcd,↓vcp,seval]) (by (simp only [rs9,rsb,enb,vcd,↓vcp,seval])<;>(first|simp [e]))
set_option maxHeartbeats 2000000 in
theorem rSame10 (a b:List Cv) (ha:a.length≤9223372036854775806):Ctr Tryz.prog 141 [.d (slC a),.d (slC b)] [] (.d (.bool (decide (a=b)))) [] []:=by
 by_cases hl:a.length=b.length
 ·have d0:(((a.length:Int) != (b.length:Int)))=false:=by rw [bne_eq_false_iff_eq];omega
  refine ctr_pure Tryz.func141 ok141 rfl cc141 cr141 Tryz.ntmps141 (by simp) rfl rfl ?_;intro c hP hfn;simp only [kc141,slC,d0,vcd,↓vcp,seval]
  repeat' first|refine ⟨fun h=>?_,fun h=>?_⟩|refine aO ?_|refine aT ?_|fail
  refine vcC.loop (X:=Nat) (fun k=>⟨[(0,.d (slC a)),(1,.d (slC b)),(5,.d (.int .i64 k))],[],[]⟩)
   (fun k=>k≤a.length∧∀ j,j<k→a.getD j default=b.getD j default) (fun k=>a.length-k) 0 ⟨Nat.zero_le _,fun j hj=>absurd hj (Nat.not_lt_zero j)⟩ (Wk.of _ hfn rfl (by simp only [slC,enb,vcd,↓vcp,seval]) (by simp only [enb,vcd,↓vcp,seval])) ?_
  rintro k ⟨hk,he⟩
  by_cases hlt:k<a.length
  ·obtain ⟨x,hd,hg,-,-⟩:=drop_at hlt
   obtain ⟨y,hd2,hg2,-,-⟩:=drop_at (l:=b) (k:=k) (by omega)
   have b0:decide ((k:Int)<(a.length:Int))=true:=decide_eq_true (by omega)
   have ewk:IntKind.i64.wrap ((k:Int)+1)=((k+1:Nat):Int):=wS (by omega)
   simp only [slC,hg,hg2,b0,ewk,vcd,↓vcp,seval]
   repeat' first|refine ⟨fun h=>?_,fun h=>?_⟩|refine aO ?_|refine aT ?_|fail
   ·have hx:eqCv x y=false:=by rw [eqCv,←Bool.not_eq_true'];exact h
    have:a≠b:=by
     intro e
     rw [eqCv_iff.2 (by rw [←hg default,←hg2 default,e])] at hx
     exact absurd hx (by decide)
    exact RetK.pure (by simp only [rs141,rsb,vcd,↓vcp,seval]) (by (simp only [rs141,rsb,enb,vcd,↓vcp,seval])<;>(first|simp [this]))
   ·have hx:x=y:=eqCv_iff.1 (by rw [eqCv,←Bool.not_eq_false'];exact h)
    refine lopK.on (k+1) ⟨hlt,fun j hj=>?_⟩ (by omega) (Wk.of _ hfn rfl (by simp only [enb,vcd,↓vcp,seval]) (by simp only [enb,vcd,↓vcp,seval]))
    rcases Nat.lt_succ_iff_lt_or_eq.1 hj with h1|h1
    ·exact he j h1
    ·rw [h1,hg,hg2,hx]
  ·have b0:decide ((k:Int)<(a.length:Int))=false:=decide_eq_false (by omega)
   have:a=b:=by
    apply List.ext_getElem hl
    intro j h1 h2
    have:=he j (by omega)
    simpa [List.getD_eq_getElem?_getD,h1,h2] using this
   simp only [slC,b0,vcd,↓vcp,seval]
   repeat' first|refine ⟨fun h=>?_,fun h=>?_⟩|refine aO ?_|refine aT ?_|fail
   exact RetK.pure (by simp only [rs141,rsb,vcd,↓vcp,seval]) (by (simp only [rs141,rsb,enb,vcd,↓vcp,seval])<;>(first|simp [this]))
 ·have d0:(((a.length:Int) != (b.length:Int)))=true:=by rw [bne_iff_ne];omega
  have:a≠b:=fun e=>hl (by rw [e])
  refine ctr_pure Tryz.func141 ok141 rfl cc141 cr141 Tryz.ntmps141 (by simp) rfl rfl ?_;intro c hP hfn;simp only [kc141,slC,d0,vcd,↓vcp,seval]
  repeat' first|refine ⟨fun h=>?_,fun h=>?_⟩|refine aO ?_|refine aT ?_|fail
  exact RetK.pure (by simp only [rs141,rsb,vcd,↓vcp,seval]) (by (simp only [rs141,rsb,enb,vcd,↓vcp,seval])<;>(first|simp [this]))
def likeB (a b:Sl):Bool:=(a.on == b.on)&&(eqRk a.rk b.rk&&decide (a.cv=b.cv))
theorem rLike12 (a b:Sl) (ha:a.cv.length≤9223372036854775806):Ctr Tryz.prog 99 [vSl a,vSl b] [] (.d (.bool (likeB a b))) [] []:=by
 have cs:=rSame10 a.cv b.cv ha
 simp only [slC] at cs
 rw [likeB]
 generalize decide (a.cv=b.cv)=f at *
 by_cases h1:a.on=b.on
 ·have d1:(a.on == b.on)=true:=by rw [beq_iff_eq];exact h1
  by_cases h2:eqRk a.rk b.rk=true
  ·have d2:=h2
   rw [eqRk] at d2
   refine ctr_pure Tryz.func99 ok99 rfl cc99 cr99 Tryz.ntmps99 (by simp) rfl rfl ?_;intro c hP hfn;simp only [kc99,vSl,cSl,slC,d1,d2,vcd,↓vcp,seval]
   repeat' first|((first|refine tp hP (by exact cs) ?_|refine tg hP (fun _=>by exact cs) ?_|refine tv hP rfl (by exact cs) ?_);try simp only [d1,d2,vcd,↓vcp,seval])|refine ⟨fun h=>?_,fun h=>?_⟩|refine aO ?_|refine aT ?_|fail
   exact RetK.pure (by simp only [rs99,rsb,vcd,↓vcp,seval]) (by (simp only [rs99,rsb,enb,vcd,↓vcp,seval])<;>(first|simp [h1,h2]))
  ·have d2:eqRk a.rk b.rk=false:=by simpa using h2
   have h2:=d2
   rw [eqRk] at d2
   refine ctr_pure Tryz.func99 ok99 rfl cc99 cr99 Tryz.ntmps99 (by simp) rfl rfl ?_;intro c hP hfn;simp only [kc99,vSl,cSl,slC,d1,d2,vcd,↓vcp,seval]
   repeat' first|((first|refine tp hP (by exact cs) ?_|refine tg hP (fun _=>by exact cs) ?_|refine tv hP rfl (by exact cs) ?_);try simp only [d1,d2,vcd,↓vcp,seval])|refine ⟨fun h=>?_,fun h=>?_⟩|refine aO ?_|refine aT ?_|fail
   exact RetK.pure (by simp only [rs99,rsb,vcd,↓vcp,seval]) (by (simp only [rs99,rsb,enb,vcd,↓vcp,seval])<;>(first|simp [h1,h2]))
 ·have d1:(a.on == b.on)=false:=by rw [beq_eq_false_iff_ne];exact h1
  refine ctr_pure Tryz.func99 ok99 rfl cc99 cr99 Tryz.ntmps99 (by simp) rfl rfl ?_;intro c hP hfn;simp only [kc99,vSl,cSl,slC,d1,vcd,↓vcp,seval]
  repeat' first|((first|refine tp hP (by exact cs) ?_|refine tg hP (fun _=>by exact cs) ?_|refine tv hP rfl (by exact cs) ?_);try simp only [d1,vcd,↓vcp,seval])|refine ⟨fun h=>?_,fun h=>?_⟩|refine aO ?_|refine aT ?_|fail
  exact RetK.pure (by simp only [rs99,rsb,vcd,↓vcp,seval]) (by (simp only [rs99,rsb,enb,vcd,↓vcp,seval])<;>(first|simp [h1]))
def same12 (a b:Sl):Bool:=((a.sf == b.sf)&&(a.st == b.st))&&((a.yr == b.yr)&&likeB a b)
theorem rSame12 (a b:Sl) (ha:a.cv.length≤9223372036854775806):Ctr Tryz.prog 56 [vSl a,vSl b] [] (.d (.bool (same12 a b))) [] []:=by
 have cs:=rLike12 a b ha
 simp only [vSl,cSl,slC] at cs
 rw [same12]
 generalize likeB a b=f at *
 cases d1:((a.sf == b.sf)&&(a.st == b.st)) with
 |false =>
  refine ctr_pure Tryz.func56 ok56 rfl cc56 cr56 Tryz.ntmps56 (by simp) rfl rfl ?_;intro c hP hfn;simp only [kc56,vSl,cSl,slC,d1,vcd,↓vcp,seval]
  repeat' first|((first|refine tp hP (by exact cs) ?_|refine tg hP (fun _=>by exact cs) ?_|refine tv hP rfl (by exact cs) ?_);try simp only [d1,vcd,↓vcp,seval])|refine ⟨fun h=>?_,fun h=>?_⟩|refine aO ?_|refine aT ?_|fail
  exact RetK.pure (by simp only [rs56,rsb,vcd,↓vcp,seval]) (by (simp only [rs56,rsb,enb,vcd,↓vcp,seval])<;>(first|simp))
 |true =>
  cases d2:(a.yr == b.yr) with
  |false =>
   refine ctr_pure Tryz.func56 ok56 rfl cc56 cr56 Tryz.ntmps56 (by simp) rfl rfl ?_;intro c hP hfn;simp only [kc56,vSl,cSl,slC,d1,d2,vcd,↓vcp,seval]
   repeat' first|((first|refine tp hP (by exact cs) ?_|refine tg hP (fun _=>by exact cs) ?_|refine tv hP rfl (by exact cs) ?_);try simp only [d1,d2,vcd,↓vcp,seval])|refine ⟨fun h=>?_,fun h=>?_⟩|refine aO ?_|refine aT ?_|fail
   exact RetK.pure (by simp only [rs56,rsb,vcd,↓vcp,seval]) (by (simp only [rs56,rsb,enb,vcd,↓vcp,seval])<;>(first|simp))
  |true =>
   refine ctr_pure Tryz.func56 ok56 rfl cc56 cr56 Tryz.ntmps56 (by simp) rfl rfl ?_;intro c hP hfn;simp only [kc56,vSl,cSl,slC,d1,d2,vcd,↓vcp,seval]
   repeat' first|((first|refine tp hP (by exact cs) ?_|refine tg hP (fun _=>by exact cs) ?_|refine tv hP rfl (by exact cs) ?_);try simp only [d1,d2,vcd,↓vcp,seval])|refine ⟨fun h=>?_,fun h=>?_⟩|refine aO ?_|refine aT ?_|fail
   exact RetK.pure (by simp only [rs56,rsb,vcd,↓vcp,seval]) (by (simp only [rs56,rsb,enb,vcd,↓vcp,seval])<;>(first|simp))
theorem same12_iff {a b:Sl}:same12 a b=true↔a=b:=by
 obtain ⟨a1,a2,a3,a4,a5,a6⟩:=a
 obtain ⟨b1,b2,b3,b4,b5,b6⟩:=b
 simp only [same12,likeB,Bool.and_eq_true,eqRk_iff,beq_iff_eq,decide_eq_true_eq,Sl.mk.injEq]
 constructor
 ·rintro ⟨⟨h1,h2⟩,h3,h4,h5,h6⟩;exact ⟨h1,h2,h4,h5,h6,h3⟩
 ·rintro ⟨h1,h2,h4,h5,h6,h3⟩;exact ⟨⟨h1,h2⟩,h3,h4,h5,h6⟩
instance:DecidableEq Sl:=fun a b=>decidable_of_iff (same12 a b=true) same12_iff
set_option maxHeartbeats 2000000 in
theorem rAll (a b:List Sl) (ha:a.length≤9223372036854775806) (hc:∀ s,s∈a→s.cv.length≤9223372036854775806):Ctr Tryz.prog 22 [.d (slS a),.d (slS b)] [] (.d (.bool (decide (a=b)))) [] []:=by
 by_cases hl:a.length=b.length
 ·have d0:(((a.length:Int) != (b.length:Int)))=false:=by rw [bne_eq_false_iff_eq];omega
  refine ctr_pure Tryz.func22 ok22 rfl cc22 cr22 Tryz.ntmps22 (by simp) rfl rfl ?_;intro c hP hfn;simp only [kc22,slS,dSl,slC,d0,vcd,↓vcp,seval]
  repeat' first|refine ⟨fun h=>?_,fun h=>?_⟩|refine aO ?_|refine aT ?_|fail
  refine vcC.loop (X:=Nat) (fun k=>⟨[(0,.d (slS a)),(1,.d (slS b)),(5,.d (.int .i64 k))],[],[]⟩)
   (fun k=>k≤a.length∧∀ j,j<k→a.getD j default=b.getD j default) (fun k=>a.length-k) 0 ⟨Nat.zero_le _,fun j hj=>absurd hj (Nat.not_lt_zero j)⟩ (Wk.of _ hfn rfl (by simp only [slS,dSl,slC,enb,vcd,↓vcp,seval]) (by simp only [enb,vcd,↓vcp,seval])) ?_
  rintro k ⟨hk,he⟩
  by_cases hlt:k<a.length
  ·obtain ⟨x,hd,hg,hm,-⟩:=drop_at hlt
   obtain ⟨y,hd2,hg2,-,-⟩:=drop_at (l:=b) (k:=k) (by omega)
   have b0:decide ((k:Int)<(a.length:Int))=true:=decide_eq_true (by omega)
   have ewk:IntKind.i64.wrap ((k:Int)+1)=((k+1:Nat):Int):=wS (by omega)
   have cs:=rSame12 x y (hc x hm)
   simp only [vSl,cSl,slC] at cs
   by_cases hx:x=y
   ·rw [same12_iff.2 hx] at cs
    simp only [slS,dSl,slC,hg,hg2,b0,ewk,vcd,↓vcp,seval]
    repeat' first|((first|refine tp hP (by exact cs) ?_|refine tg hP (fun _=>by exact cs) ?_|refine tv hP rfl (by exact cs) ?_);try simp only [hg,hg2,ewk,vcd,↓vcp,seval])|refine ⟨fun h=>?_,fun h=>?_⟩|refine aO ?_|refine aT ?_|fail
    refine lopK.on (k+1) ⟨hlt,fun j hj=>?_⟩ (by omega) (Wk.of _ hfn rfl (by simp only [slS,dSl,slC,ewk,enb,vcd,↓vcp,seval]) (by simp only [enb,vcd,↓vcp,seval]))
    rcases Nat.lt_succ_iff_lt_or_eq.1 hj with h1|h1
    ·exact he j h1
    ·rw [h1,hg,hg2,hx]
   ·have hx2:same12 x y=false:=by rw [←Bool.not_eq_true,same12_iff];exact hx
    rw [hx2] at cs
    have:a≠b:=by
     intro e
     exact hx (by rw [←hg default,←hg2 default,e])
    simp only [slS,dSl,slC,hg,hg2,b0,ewk,vcd,↓vcp,seval]
    repeat' first|((first|refine tp hP (by exact cs) ?_|refine tg hP (fun _=>by exact cs) ?_|refine tv hP rfl (by exact cs) ?_);try simp only [hg,hg2,ewk,vcd,↓vcp,seval])|refine ⟨fun h=>?_,fun h=>?_⟩|refine aO ?_|refine aT ?_|fail
    exact RetK.pure (by simp only [rs22,rsb,vcd,↓vcp,seval]) (by (simp only [rs22,rsb,enb,vcd,↓vcp,seval])<;>(first|simp [this]))
  ·have b0:decide ((k:Int)<(a.length:Int))=false:=decide_eq_false (by omega)
   have:a=b:=by
    apply List.ext_getElem hl
    intro j h1 h2
    have:=he j (by omega)
    simpa [List.getD_eq_getElem?_getD,h1,h2] using this
   simp only [slS,dSl,slC,b0,vcd,↓vcp,seval]
   repeat' first|refine ⟨fun h=>?_,fun h=>?_⟩|refine aO ?_|refine aT ?_|fail
   exact RetK.pure (by simp only [rs22,rsb,vcd,↓vcp,seval]) (by (simp only [rs22,rsb,enb,vcd,↓vcp,seval])<;>(first|simp [this]))
 ·have d0:(((a.length:Int) != (b.length:Int)))=true:=by rw [bne_iff_ne];omega
  have:a≠b:=fun e=>hl (by rw [e])
  refine ctr_pure Tryz.func22 ok22 rfl cc22 cr22 Tryz.ntmps22 (by simp) rfl rfl ?_;intro c hP hfn;simp only [kc22,slS,dSl,slC,d0,vcd,↓vcp,seval]
  repeat' first|refine ⟨fun h=>?_,fun h=>?_⟩|refine aO ?_|refine aT ?_|fail
  exact RetK.pure (by simp only [rs22,rsb,vcd,↓vcp,seval]) (by (simp only [rs22,rsb,enb,vcd,↓vcp,seval])<;>(first|simp [this]))
end Go.Proofs.YtanppabbmffokaaGreat
end
section
namespace Go.Proofs.YtanppabbmffokaaGreat
open Go.Bx
set_option maxRecDepth 10000
def DLe (x y:D):Prop:=∀ E w v,RelD E w v x→RelD E w v y
theorem DLe.refl (x:D):DLe x x:=fun _ _ _ h=>h
theorem DLe.v {x y:D} (h:DLe x y):VLe (.d x) (.d y):=fun β E w v hv=>by
 cases hv with
 |d _ _ hv=>exact .d _ _ (h _ _ _ hv)
def DsLe:List D→List D→Prop
 |[],[]=>True
 |x::xs,y::ys=>DLe x y∧DsLe xs ys
 |_,_=>False
theorem DsLe.get:∀ {xs ys:List D},DsLe xs ys→xs.length=ys.length∧∀ (j:Nat) (y:D),ys[j]?=some y→∃ x,xs[j]?=some x∧DLe x y
 |[],[],_=>⟨rfl,fun j y h=>by simp at h⟩
 |x::xs,y::ys,h=>by
  obtain ⟨e,hr⟩:=DsLe.get h.2
  refine ⟨by simp [e],fun j b hb=>?_⟩
  cases j with
  |zero=>simp at hb;subst hb;exact ⟨x,rfl,h.1⟩
  |succ j=>simpa using hr j b (by simpa using hb)
 |[],_::_,h=>h.elim
 |_::_,[],h=>h.elim
theorem DLe.sl {full full':Bool} {sz sz' n n':Nat} {f f':Nat→List D} (hn:n=n') (hz:0<n→sz=sz') (hb:full'=true→full=true) (hf:∀ i,i<n→DsLe (f i) (f' i)):DLe (.sl full sz n f) (.sl full' sz' n' f'):=by
 subst hn
 intro E w v hv
 cases hv with
 |nil _ _ _ _=>exact .nil _ _ _ _
 |sl _ _ _ _ b off c g hc hfu hl hcell hrel =>
  rcases Nat.eq_zero_or_pos n with h0|h0
  ·subst h0
   exact .sl _ _ _ _ b off c g hc (fun h=>hfu (hb h)) (fun i hi=>by omega) (fun i j hi=>by omega) (fun i j hi=>by omega)
  ·have:=hz h0
   subst this
   refine .sl _ _ _ _ b off c g hc (fun h=>hfu (hb h)) (fun i hi=>((hf i hi).get.1).symm.trans (hl i hi)) hcell (fun i j hi hj x hx=>?_)
   obtain ⟨y,h1,h2⟩:=(hf i hi).get.2 j x hx
   exact h2 _ _ _ (hrel i j hi hj y h1)
def pV:Vs:=⟨1,10000,0,0,0,[],[10000],[10000,10000,10000,10000,10000,10000,10000,10000],0⟩
def pH:Hi:=⟨1,1,⟨1,101,⟨0,36500,0,0⟩,[⟨1,10,10,0,10000⟩]⟩,[]⟩
def pC:Ch:=⟨5,41,3,⟨0,0,0,0⟩,[],0⟩
def pS:List Sl:=[⟨1,101,true,⟨0,36500,0,0⟩,[⟨1,10,10,0,10000⟩],36500⟩]
def pB:List Bl:=[⟨1,5000,0⟩,⟨182,5000,0⟩]
theorem sPolicy:Ctr Tryz.prog 33 [] [] (.tup [vHi pH,.ag [.d (slV [pV])]]) [] []:=by
 refine ctr_pure Tryz.func33 ok33 rfl cc33 cr33 Tryz.ntmps33 (by simp) rfl rfl ?_;intro c hP hfn;simp only [kc33,vcd,↓vcp,seval]
 repeat' first|refine ⟨fun h=>?_,fun h=>?_⟩|refine aO ?_|refine aT ?_|fail
 have n0:∀ {sz:Nat} {f g:Nat→List D},DLe (.sl true 0 0 f) (.sl false sz 0 g):=DLe.sl rfl (fun h=>by omega) (fun h=>by cases h) (fun i hi=>by omega)
 refine RetK.pure (by simp only [rs33,rsb,vcd,↓vcp,seval]) ?_
 simp only [rs33,rsb,vcd,↓vcp,seval]
 refine VLe.tups ⟨VLe.ags ⟨VLe.refl _,VLe.refl _,VLe.refl _,VLe.refl _,VLe.refl _,VLe.refl _,VLe.refl _,VLe.refl _,DLe.v (DLe.sl rfl (fun _=>rfl) (fun h=>by cases h) (fun i hi=>?_)),DLe.v n0,trivial⟩,VLe.ags ⟨DLe.v (DLe.sl rfl (fun _=>rfl) (fun h=>by cases h) (fun i hi=>?_)),trivial⟩,trivial⟩
 ·obtain rfl:i=0:=by omega
  exact ⟨DLe.refl _,DLe.refl _,DLe.refl _,DLe.refl _,DLe.refl _,trivial⟩
 ·obtain rfl:i=0:=by omega
  refine ⟨DLe.refl _,DLe.refl _,DLe.refl _,DLe.refl _,DLe.refl _,n0,DLe.sl rfl (fun _=>rfl) (fun h=>by cases h) (fun i hi=>?_),DLe.sl rfl (fun _=>rfl) (fun h=>by cases h) (fun i hi=>?_),DLe.refl _,trivial⟩
  ·obtain rfl:i=0:=by omega
   exact ⟨DLe.refl _,trivial⟩
  ·rcases i with _|_|_|_|_|_|_|_|i<;>first|exact ⟨DLe.refl _,trivial⟩|omega
set_option maxHeartbeats 2000000 in
theorem sAlive:Ctr Tryz.prog 8 [] [] (.d (.bool true)) [] []:=by
 have hz:SzC pH:=⟨by decide,by decide,fun c h=>by simp [pH] at h⟩
 have hv:∀ v,v∈[pV]→SzV v:=fun v h=>by
  rw [List.mem_singleton] at h;subst h
  exact ⟨by decide,by decide,by decide⟩
 have k0:=sPolicy
 have k1:=sDueF pH [pV] hz (by decide) hv
 rw [show dueF pH [pV]=(10000,0) by decide +kernel] at k1
 have k2:=sOfS pH [pV] hz (by decide) hv
 rw [show ofS pH [pV]=(pS,0) by decide +kernel] at k2
 have k3:=sUptoF pS 41 (by decide)
 rw [show uptoF pS 41=(4000,0) by decide +kernel] at k3
 have k4:=sGivenF pH [pV] pC hz (by decide) hv (by decide)
 rw [show givenF pH [pV] pC=(6000,0) by decide +kernel] at k4
 have k5:=sPlan 10000 1 101 2
 rw [show planR 10000 1 101 2=(pB,0) by decide +kernel] at k5
 have k6:=rSame pB pB (by decide) (by decide)
 rw [decide_eq_true rfl] at k6
 have k7:Ctr Tryz.prog 34 [.d (slL pB),.d (.sl true 3 2 (litRow 3 [.int .i64 1,.int .i64 5000,.int .i64 0,.int .i64 182,.int .i64 5000,.int .i64 0]))] [] (.d (.bool true)) [] []:=
  k6.arg ⟨VLe.refl _,VLe_slL rfl (by intro i hi;rcases i with _|_|i<;>first|rfl|omega),trivial⟩
 have k8:Ctr Tryz.prog 12 [vHi pH,.ag [.d (slV [pV])],.ag [.d (.int .i64 5),.d (.int .i64 41),.d (.int .i64 3),.d (.int .i64 0),.d (.int .i64 0),.d (.int .i64 0),.d (.int .i64 0),.d (.sl true 0 0 fun _=>[]),.d (.int .i64 0)]] [] (.tup [.d (.int .i64 6000),.d (.int .i64 0)]) [] []:=
  k4.arg ⟨VLe.refl _,VLe.refl _,VLe.ags ⟨VLe.refl _,VLe.refl _,VLe.refl _,VLe.refl _,VLe.refl _,VLe.refl _,VLe.refl _,vle_nil,VLe.refl _,trivial⟩,trivial⟩
 have b1:∀ i:Int,(i == i)=true:=fun i=>by simp
 obtain ⟨h1,h2,h3,h4,h5,h6,h7⟩:pH.id=1∧pH.bk=1∧pH.tm.sf=1∧pH.tm.st=101∧pH.tm.rk=⟨0,36500,0,0⟩∧pH.tm.cv=pH.tm.cv∧pH.ch=pH.ch:=⟨rfl,rfl,rfl,rfl,rfl,rfl,rfl⟩
 simp only [vHi,cHi,h1,h2,h3,h4,h5] at k0 k1 k2 k8
 simp only [vS] at k5
 generalize slV [pV]=t at *
 generalize slH pH.ch=z at *
 generalize slC pH.tm.cv=y at *
 generalize slS pS=x at *
 refine ctr_pure Tryz.func8 ok8 rfl cc8 cr8 Tryz.ntmps8 (by simp) rfl rfl ?_;intro c hP hfn;simp only [kc8,vcd,↓vcp,seval]
 repeat' first|((first|refine tp hP (by first|exact k0|exact k1|exact k2|exact k3|exact k8|exact k5|exact k7) ?_|refine tg hP (fun _=>by first|exact k0|exact k1|exact k2|exact k3|exact k8|exact k5|exact k7) ?_|refine tv hP rfl (by first|exact k0|exact k1|exact k2|exact k3|exact k8|exact k5|exact k7) ?_);try simp only [b1,Int.reduceBEq,vcd,↓vcp,seval])|refine ⟨fun h=>?_,fun h=>?_⟩|refine aO ?_|refine aT ?_|fail
 all_goals exact RetK.pure (by simp only [rs8,rsb,vcd,↓vcp,seval]) (by (simp only [rs8,rsb,enb,vcd,↓vcp,seval])<;>(first|exact VLe.refl _))
end Go.Proofs.YtanppabbmffokaaGreat
end
section
namespace Go.Proofs.YtanppabbmffokaaGreat
open Go.Bx
set_option maxRecDepth 10000
def zChM:Ch:=⟨0,0,0,⟨0,0,0,0⟩,[],0⟩
theorem few_szM {h:Hi} {t:List Vs} (e:fewF h t=true):SzC h∧h.ch.length≤60∧t.length≤1000000∧∀ v,v∈t→SzV v:=by
 simp only [fewF,fewC,fewV,Bool.and_eq_true,decide_eq_true_eq,List.all_eq_true] at e
 obtain ⟨h1,h2,h3,h4,h5⟩:=e
 refine ⟨⟨by omega,by omega,fun c hc=>by have:=h4 c hc;omega⟩,h1,by omega,fun v hv=>?_⟩
 have:=h5 v hv
 exact ⟨by omega,by omega,by omega⟩
theorem movP_len (L M:List Sl) (a b:Int):(movP L M a b).length≤L.length+M.length+1:=by
 have h1:=joinP_len (outP L M a b) (outP L M a b).length
 rw [List.take_length] at h1
 have h2:=List.length_filter_le (fun p=>!likeS L M p.1) (partsF a b ((L++M).map (·.sf)))
 have h3:=partsF_len a b ((L++M).map (·.sf))
 rw [List.length_map,List.length_append] at h3
 have h4:(movP L M a b).length≤(outP L M a b).length:=h1
 have h5:(outP L M a b).length≤_:=h2
 omega
theorem cutsP_len (M:List (Int×Int)):(cutsP M).length=2*M.length:=by
 induction M with
 |nil=>rfl
 |cons x l ih=>simp only [cutsP,List.flatMap_cons,List.length_append,List.length_cons,List.length_nil] at *;omega
theorem cov_cur {h:Hi} {l:List Sl} (c:CovO h l) (hl:l.length≤2000):∃ P,curS l=some P:=
 curS_run (Cov.run c.hi c.cov c.lo c.yr) hl
set_option maxHeartbeats 8000000 in
theorem lMoved (hh:Hi) (t:List Vs) (one two:Int) (h1:hh.ch.length≤9223372036854775807) (h2:t.length≤9223372036854775807) :
  Ctr Tryz.prog 7 [vHi hh,.ag [.d (slV t)],.d (.int .i64 one),.d (.int .i64 two)] [] (.d (.bool true)) [] []:=by
 have k0:=sAlive
 have kf0:=sPFew hh t zChM h1 h2
 have kf:Ctr Tryz.prog 9 [vHi hh,.ag [.d (slV t)],.ag [.d (.int .i64 0),.d (.int .i64 0),.d (.int .i64 0),.d (.int .i64 0),.d (.int .i64 0),.d (.int .i64 0),.d (.int .i64 0),.d (.sl true 0 0 fun _=>[]),.d (.int .i64 0)]] [] (.d (.bool (fewF hh t))) [] []:=by
  have e:(fewF hh t&&decide (zChM.cv.length≤50))=fewF hh t:=by simp [zChM]
  rw [e] at kf0
  exact kf0.arg ⟨VLe.refl _,VLe.refl _,VLe.ags ⟨VLe.refl _,VLe.refl _,VLe.refl _,VLe.refl _,VLe.refl _,VLe.refl _,VLe.refl _,vle_nil,VLe.refl _,trivial⟩,trivial⟩
 clear kf0
 simp only [vHi,cHi,slC,slH,dCh,slV,dVs,slB] at kf
 cases hf:fewF hh t with
 |false =>
  rw [hf] at kf
  refine ctr_pure Tryz.func7 ok7 rfl cc7 cr7 Tryz.ntmps7 (by simp) rfl rfl ?_;intro c hP hfn;simp only [kc7,vHi,cHi,slC,slH,dCh,slV,dVs,slB,vcd,↓vcp,seval]
  repeat' first|((first|refine tp hP (by first|exact k0|exact kf) ?_|refine tg hP (fun _=>by first|exact k0|exact kf) ?_|refine tv hP rfl (by first|exact k0|exact kf) ?_);try simp only [vcd,↓vcp,seval])|refine ⟨fun h=>?_,fun h=>?_⟩|refine aO ?_|refine aT ?_|fail
  exact RetK.pure (by simp only [rs7,rsb,vcd,↓vcp,seval]) (by (simp only [rs7,rsb,enb,vcd,↓vcp,seval])<;>(first|exact VLe.refl _))
 |true =>
  rw [hf] at kf
  obtain ⟨z,hn,ht,hz⟩:=few_szM hf
  have km:=sMoved hh t one two z (by omega) ht hz
  have ka:=sSlicesK hh t one z ht hz
  have kb:=sSlicesK hh t two z ht hz
  have n0:((0:Int) != 0)=false:=rfl
  by_cases e0:(movK hh t one two).2=0
  ·have e1:(sliK hh t one).2=0:=by
    by_cases h:(sliK hh t one).2=0
    ·exact h
    ·rw [movK,if_pos h] at e0;exact e0
   have e2:(sliK hh t two).2=0:=by
    by_cases h:(sliK hh t two).2=0
    ·exact h
    ·rw [movK,if_neg (by simpa using e1),if_pos h] at e0;exact e0
   have em:movK hh t one two=(movP (sliK hh t one).1 (sliK hh t two).1 hh.tm.sf hh.tm.st,0):=by rw [movK,if_neg (by simpa using e1),if_neg (by simpa using e2)]
   have cl:=sliK_cov e1
   have cm:=sliK_cov e2
   obtain ⟨z1,z2⟩:=sliK_szM (t:=t) z one
   obtain ⟨z3,z4⟩:=sliK_szM (t:=t) z two
   rw [em] at km
   rw [e1] at ka
   rw [e2] at kb
   clear em e0 e1 e2
   generalize (sliK hh t one).1=L at *
   generalize (sliK hh t two).1=L2 at *
   obtain ⟨P,hP1⟩:=cov_cur cl (by omega)
   obtain ⟨P2,hP2⟩:=cov_cur cm (by omega)
   obtain ⟨a1,a2,a3⟩:=And.intro cl.lo (And.intro cl.lt cl.hi)
   obtain ⟨hsum,heq⟩:=moved_ok cl.cov cm.cov a1 a2 a3 hP1 hP2
   have hml:=movP_len L L2 hh.tm.sf hh.tm.st
   have kc1:=sCurveF L (by omega)
   have kc2:=sCurveF L2 (by omega)
   have ef1:curF L=(P,0):=by rw [curF,hP1]
   have ef2:curF L2=(P2,0):=by rw [curF,hP2]
   have hPl:=curS_len hP1
   have hPl2:=curS_len hP2
   rw [ef1] at kc1
   rw [ef2] at kc2
   have kr:=rAll L L2 (by omega) (fun s hs=>by have:=z2 s hs;omega)
   clear ef1 ef2 hP1 hP2 cl cm z2 z4
   generalize movP L L2 hh.tm.sf hh.tm.st=M at *
   have kp:=sParts hh.tm.sf hh.tm.st (cutsP M) (by rw [cutsP_len];omega)
   have hql:=partsF_len hh.tm.sf hh.tm.st (cutsP M)
   rw [cutsP_len] at hql
   simp only [vHi,cHi,slC,slH,dCh,slV,dVs,slB,slS,dSl,slP,dP,vSt,cSt,slK,List.length_map] at km ka kb kc1 kc2 kr
   refine ctr_pure Tryz.func7 ok7 rfl cc7 cr7 Tryz.ntmps7 (by simp) rfl rfl ?_;intro c hP hfn;simp only [kc7,vHi,cHi,slC,slH,dCh,slV,dVs,slB,vcd,↓vcp,seval]
   repeat' first|((first|refine tp hP (by first|exact k0|exact kf|exact km|exact ka|exact kb|exact kc1|exact kc2) ?_|refine tg hP (fun _=>by first|exact k0|exact kf|exact km|exact ka|exact kb|exact kc1|exact kc2) ?_|refine tv hP rfl (by first|exact k0|exact kf|exact km|exact ka|exact kb|exact kc1|exact kc2) ?_);try simp only [n0,vcd,↓vcp,seval])|refine ⟨fun h=>?_,fun h=>?_⟩|refine aO ?_|refine aT ?_|fail
   refine vcC.loop (X:=Nat) (fun k=>⟨[(21,.osl 1000),(4,.own 4 0),(9,.d (.bool true)),(11,.d (slP M)),(13,.d (slS L)),(15,.d (slS L2)),(17,.own 17 0),(19,.own 19 0),(22,.d (.int .i64 k))],[(1000,rowZ (cutsP (M.take k))),(4,.fix (cHi hh)),(17,.fix (cSt P)),(19,.fix (cSt P2))],[1000,4,17,19]⟩)
    (fun k=>k≤M.length) (fun k=>M.length-k) 0 (Nat.zero_le _) ?_ ?_
   ·refine (Wk.row0 (s:=21) (k:=1000) (e:=3) (sz:=1) (f':=fun _=>[]) rfl rfl (by simp)).trans (Wk.of _ hfn rfl ?_ ?_)
    ·simp only [slP,dP,slS,dSl,slC,enb,vcd,↓vcp,seval]
    ·simp only [rowZ,cHi,cSt,slK,slC,slH,dCh,List.length_map,List.take_zero,cutsP,List.flatMap_nil,enb,vcd,↓vcp,seval];exact OLe.row rfl (fun i hi=>absurd hi (Nat.not_lt_zero i))
   intro k hk
   by_cases hlt:k<M.length
   ·obtain ⟨m,-,hg,-,hat⟩:=drop_at hlt
    have hg:=hg default
    have d0:decide ((k:Int)<(M.length:Int))=true:=decide_eq_true (by omega)
    have w1:IntKind.i64.wrap ((k:Int)+1)=((k+1:Nat):Int):=wS (by omega)
    have b1:(0:Int)≤(k:Int)∧(k:Int)<(M.length:Int):=by omega
    have hsa:cutsP (M.take (k+1))=cutsP (M.take k)++[m.1,m.2]:=by rw [cutsP,List.take_add_one,hat,List.flatMap_append];simp [cutsP]
    have hlk:(cutsP (M.take k)).length≤10000:=by rw [cutsP_len,List.length_take];omega
    generalize cutsP (M.take k)=B at *
    have hroom:(B.length+2)*8≤140737488355328∧B.length+2≤maxLen:=⟨by omega,by simp only [maxLen];omega⟩
    simp only [rowZ,cHi,cSt,slK,slP,dP,slS,dSl,slC,slH,dCh,List.length_map,d0,hg,vcd,↓vcp,seval]
    repeat' first|refine ⟨fun h=>?_,fun h=>?_⟩|refine aO ?_|refine aT ?_|fail
    refine lopK.on (k+1) (by omega) (by omega) ((Wk.sw 115 1000 _ hfn (by simp) (by simp)).trans (Wk.of _ hfn rfl (by simp only [slP,dP,slS,dSl,slC,w1,enb,vcd,↓vcp,seval]) ?_))
    simp only [rowZ,hsa,cHi,cSt,slK,slC,slH,dCh,List.length_map,enb,vcd,↓vcp,seval]
    exact OLe.appL (fun n:Int=>[.int .i64 n]) rfl (fun i hi=>by rw [if_pos hi]) (fun i hi=>by
     simp only [List.length_cons,List.length_nil] at hi
     rw [if_neg (by omega)]
     have:i=0∨i=1:=by omega
     rcases this with rfl|rfl
     ·simp [litRow]
     ·simp [litRow])
   ·obtain rfl:k=M.length:=by omega
    have d0:decide ((M.length:Int)<(M.length:Int))=false:=decide_eq_false (by omega)
    rw [List.take_length]
    simp only [vS,slK] at kp
    simp only [rowZ,cHi,cSt,slK,slP,dP,slS,dSl,slC,slH,dCh,List.length_map,d0,vcd,↓vcp,seval]
    repeat' first|refine ⟨fun h=>?_,fun h=>?_⟩|refine aO ?_|refine aT ?_|fail
    refine TR.pub hP 1000 rfl kp (by repeat' first|exact trivial|(intro _;assumption)|apply And.intro) ?_
    generalize partsF hh.tm.sf hh.tm.st (cutsP M)=Q at *
    simp only [slP,dP,vcd,↓vcp,seval]
    repeat' first|refine ⟨fun h=>?_,fun h=>?_⟩|refine aO ?_|refine aT ?_|fail
    refine vcC.loop (X:=Nat) (fun k=>⟨[(9,.d (.bool true)),(11,.d (slP M)),(13,.d (slS L)),(15,.d (slS L2)),(17,.own 17 0),(19,.own 19 0),(23,.d (slP Q)),(24,.d (.int .i64 k))],[(17,.fix (cSt P)),(19,.fix (cSt P2))],[17,19]⟩)
     (fun k=>k≤Q.length) (fun k=>Q.length-k) 0 (Nat.zero_le _) ?_ ?_
    ·refine Wk.of _ hfn rfl ?_ ?_
     ·simp only [slP,dP,slS,dSl,slC,enb,vcd,↓vcp,seval]
     ·simp only [cSt,slK,List.length_map,enb,vcd,↓vcp,seval]
    intro k hk
    by_cases hlt:k<Q.length
    ·obtain ⟨q,-,hgq,hmq,-⟩:=drop_at hlt
     have hgq:=hgq default
     have dq:decide ((k:Int)<(Q.length:Int))=true:=decide_eq_true (by omega)
     have w1:IntKind.i64.wrap ((k:Int)+1)=((k+1:Nat):Int):=wS (by omega)
     have bq:(0:Int)≤(k:Int)∧(k:Int)<(Q.length:Int):=by omega
     have hsq:=hsum q hmq
     simp only [cSt,slK,slP,dP,slS,dSl,slC,List.length_map,dq,vcd,↓vcp,seval]
     repeat' first|refine ⟨fun h=>?_,fun h=>?_⟩|refine aO ?_|refine aT ?_|fail
     refine vcC.loop (X:=Nat) (fun o=>⟨[(9,.d (.bool true)),(11,.d (slP M)),(13,.d (slS L)),(15,.d (slS L2)),(17,.own 17 0),(19,.own 19 0),(23,.d (slP Q)),(24,.d (.int .i64 k)),(25,.d (.bool ((M.take o).any fun m=>inP m q.1))),(26,.d (.int .i64 o))],[(17,.fix (cSt P)),(19,.fix (cSt P2))],[17,19]⟩)
      (fun o=>o≤M.length) (fun o=>M.length-o) 0 (Nat.zero_le _) ?_ ?_
     ·refine Wk.of _ hfn rfl ?_ ?_
      ·simp only [slP,dP,slS,dSl,slC,List.take_zero,List.any_nil,enb,vcd,↓vcp,seval]
      ·simp only [cSt,slK,List.length_map,enb,vcd,↓vcp,seval]
     intro o ho
     by_cases hol:o<M.length
     ·obtain ⟨m,-,hgm,-,hat⟩:=drop_at hol
      have hgm:=hgm default
      have d0:decide ((o:Int)<(M.length:Int))=true:=decide_eq_true (by omega)
      have wo:IntKind.i64.wrap ((o:Int)+1)=((o+1:Nat):Int):=wS (by omega)
      have bo:(0:Int)≤(o:Int)∧(o:Int)<(M.length:Int):=by omega
      have hsa:(M.take (o+1)).any (fun m=>inP m q.1)=((M.take o).any (fun m=>inP m q.1) || inP m q.1):=by rw [List.take_add_one,hat,List.any_append];simp
      have kin:Ctr Tryz.prog 32 [vS m.1 m.2,.d (.int .i64 q.1)] [] (.d (.bool (inP m q.1))) [] []:=sIn m.1 m.2 q.1
      simp only [vS] at kin
      cases hb:(M.take o).any (fun m=>inP m q.1) with
      |true =>
       rw [hb,Bool.true_or] at hsa
       simp only [cSt,slK,slP,dP,slS,dSl,slC,List.length_map,d0,hgm,hgq,vcd,↓vcp,seval]
       repeat' first|refine ⟨fun h=>?_,fun h=>?_⟩|refine aO ?_|refine aT ?_|fail
       refine TR.gp (gc:=false) (res:=.d (.bool false)) hP rfl (fun h=>by cases h) (fun h=>by cases h) ?_
       simp only [d0,hgm,hgq,wo,vcd,↓vcp,seval]
       repeat' first|refine ⟨fun h=>?_,fun h=>?_⟩|refine aO ?_|refine aT ?_|fail
       refine lopK.on (o+1) (by omega) (by omega) (Wk.of _ hfn rfl (by simp only [slP,dP,slS,dSl,slC,wo,hsa,enb,vcd,↓vcp,seval]) (by simp only [cSt,slK,List.length_map,enb,vcd,↓vcp,seval]))
      |false =>
       rw [hb,Bool.false_or] at hsa
       simp only [cSt,slK,slP,dP,slS,dSl,slC,List.length_map,d0,hgm,hgq,vcd,↓vcp,seval]
       repeat' first|((first|refine tp hP (by exact kin) ?_|refine tg hP (fun _=>by exact kin) ?_|refine tv hP rfl (by exact kin) ?_);try simp only [d0,hgm,hgq,wo,vcd,↓vcp,seval])|refine ⟨fun h=>?_,fun h=>?_⟩|refine aO ?_|refine aT ?_|fail
       refine lopK.on (o+1) (by omega) (by omega) (Wk.of _ hfn rfl (by simp only [slP,dP,slS,dSl,slC,wo,hsa,enb,vcd,↓vcp,seval]) (by simp only [cSt,slK,List.length_map,enb,vcd,↓vcp,seval]))
     ·obtain rfl:o=M.length:=by omega
      have d0:decide ((M.length:Int)<(M.length:Int))=false:=decide_eq_false (by omega)
      have c3:∀ i:Int,(i != i)=false:=fun i=>by simp
      have k1:=sSumS P q.1 q.2 (by omega)
      have k2:=sSumS P2 q.1 q.2 (by omega)
      rw [List.take_length]
      cases hb:M.any (fun m=>inP m q.1) with
      |false =>
       have he:=hsq fun x hx=>by
        have:=List.any_eq_false.1 hb x hx
        simpa using this
       rw [←he] at k2
       generalize sumS P q.1 q.2=S at *
       simp only [vS,vSt,cSt,slK,List.length_map] at k1 k2
       simp only [cSt,slK,slP,dP,slS,dSl,slC,List.length_map,d0,hgq,vcd,↓vcp,seval]
       repeat' first|((first|refine tp hP (by first|exact k1|exact k2) ?_|refine tg hP (fun _=>by first|exact k1|exact k2) ?_|refine tv hP rfl (by first|exact k1|exact k2) ?_);try simp only [d0,hgq,c3,w1,vcd,↓vcp,seval])|refine ⟨fun h=>?_,fun h=>?_⟩|refine aO ?_|refine aT ?_|fail
       refine lopK.on (k+1) (by omega) (by omega) (Wk.of _ hfn rfl (by simp only [slP,dP,slS,dSl,slC,w1,enb,vcd,↓vcp,seval]) (by simp only [cSt,slK,List.length_map,enb,vcd,↓vcp,seval]))
      |true =>
       generalize sumS P q.1 q.2=S at *
       generalize sumS P2 q.1 q.2=S2 at *
       simp only [vS,vSt,cSt,slK,List.length_map] at k1 k2
       simp only [cSt,slK,slP,dP,slS,dSl,slC,List.length_map,d0,hgq,vcd,↓vcp,seval]
       repeat' first|((first|refine tp hP (by first|exact k1|exact k2) ?_|refine tg hP (fun _=>by first|exact k1|exact k2) ?_|refine tv hP rfl (by first|exact k1|exact k2) ?_);try simp only [d0,hgq,w1,vcd,↓vcp,seval])|refine ⟨fun h=>?_,fun h=>?_⟩|refine aO ?_|refine aT ?_|fail
       refine lopK.on (k+1) (by omega) (by omega) (Wk.of _ hfn rfl (by simp only [slP,dP,slS,dSl,slC,w1,enb,vcd,↓vcp,seval]) (by simp only [cSt,slK,List.length_map,enb,vcd,↓vcp,seval]))
    ·obtain rfl:k=Q.length:=by omega
     have dq:decide ((Q.length:Int)<(Q.length:Int))=false:=decide_eq_false (by omega)
     by_cases hM:0<M.length
     ·have d8:decide ((M.length:Int)>0)=true:=decide_eq_true (by omega)
      simp only [cSt,slK,slP,dP,slS,dSl,slC,List.length_map,dq,d8,vcd,↓vcp,seval]
      repeat' first|refine ⟨fun h=>?_,fun h=>?_⟩|refine aO ?_|refine aT ?_|fail
      refine TR.gp (gc:=false) (res:=.d (.bool false)) hP rfl (fun h=>by cases h) (fun h=>by cases h) ?_
      simp only [dq,d8,vcd,↓vcp,seval]
      repeat' first|refine ⟨fun h=>?_,fun h=>?_⟩|refine aO ?_|refine aT ?_|fail
      exact RetK.pure (by simp only [rs7,rsb,vcd,↓vcp,seval]) (by (simp only [rs7,rsb,enb,vcd,↓vcp,seval])<;>(first|exact VLe.refl _))
     ·have d8:decide ((M.length:Int)>0)=false:=decide_eq_false (by omega)
      have he:=heq (List.eq_nil_of_length_eq_zero (by omega))
      rw [decide_eq_true he] at kr
      simp only [cSt,slK,slP,dP,slS,dSl,slC,List.length_map,dq,d8,vcd,↓vcp,seval]
      repeat' first|((first|refine tp hP (by exact kr) ?_|refine tg hP (fun _=>by exact kr) ?_|refine tv hP rfl (by exact kr) ?_);try simp only [dq,d8,vcd,↓vcp,seval])|refine ⟨fun h=>?_,fun h=>?_⟩|refine aO ?_|refine aT ?_|fail
      exact RetK.pure (by simp only [rs7,rsb,vcd,↓vcp,seval]) (by (simp only [rs7,rsb,enb,vcd,↓vcp,seval])<;>(first|exact VLe.refl _))
  ·have n1:((movK hh t one two).2 != 0)=true:=bne_iff_ne.2 e0
   have hm:(movK hh t one two).1=[]:=by
    revert e0
    rw [movK]
    repeat' split
    all_goals simp
   have z0:(((0:Nat):Int) == 0)=true:=rfl
   generalize movK hh t one two=X at *
   obtain ⟨X,e⟩:=X
   simp only at hm n1 km
   subst hm
   generalize sliK hh t one=A at *
   generalize sliK hh t two=B at *
   simp only [vHi,cHi,slC,slH,dCh,slV,dVs,slB,slS,dSl,slP,List.length_nil] at km ka kb
   refine ctr_pure Tryz.func7 ok7 rfl cc7 cr7 Tryz.ntmps7 (by simp) rfl rfl ?_;intro c hP hfn;simp only [kc7,vHi,cHi,slC,slH,dCh,slV,dVs,slB,vcd,↓vcp,seval]
   repeat' first|((first|refine tp hP (by first|exact k0|exact kf|exact km|exact ka|exact kb) ?_|refine tg hP (fun _=>by first|exact k0|exact kf|exact km|exact ka|exact kb) ?_|refine tv hP rfl (by first|exact k0|exact kf|exact km|exact ka|exact kb) ?_);try simp only [n1,z0,vcd,↓vcp,seval])|refine ⟨fun h=>?_,fun h=>?_⟩|refine aO ?_|refine aT ?_|fail
   exact RetK.pure (by simp only [rs7,rsb,vcd,↓vcp,seval]) (by (simp only [rs7,rsb,enb,vcd,↓vcp,seval])<;>(first|exact VLe.refl _))
end Go.Proofs.YtanppabbmffokaaGreat
end
section
namespace Go.Proofs.YtanppabbmffokaaGreat
open Go.ChangeShapes Go.WideShapes Go.ChangeAt Go.RowKit Go.Bx
set_option maxRecDepth 100000
theorem topKnownMoved_lifted (os:Os) (started:os.Started) (H:Type) (enc:TypeId×Value→H) :
  ReturnsInHanded {} Tryz.checked os 7 .any (Rows.topKnownMovedSpec.pre6 enc Tryz.prog Tryz.f7 Rows.topKnownMovedRow.domain false) (Rows.topKnownMovedSpec.post enc Tryz.prog Tryz.f7 false true false false):=by
 refine returnsInHanded_of_change (C:=Tryz.checked) Tryz.own started (by kernel_rfl) Tryz.func7
  (ChangeSpec.witness6 (enc:=enc) (C:=Tryz.checked) false ⟨#[],#[.agg #[.int .i64 0,.int .i64 0,.int .i64 0,.int .i64 0,.int .i64 0,.int .i64 0,.int .i64 0,.int .i64 0,.slice none 0 0,.slice none 0 0],.agg #[.slice none 0 0],.int .i64 0,.int .i64 0],[]⟩ 8 (by kernel_rfl) (by kernel_rfl) (by kernel_rfl) (by kernel_rfl)) ?_
 intro W base args ds gs before hval hW _ _
 refine law_calls (tb:=4) Tryz.laidOut (by kernel_rfl) (by kernel_rfl) Tryz.underlying4 rfl ?_ ?_ W base args ds gs before hval hW
 ·intro ds hd
  match ds,hd with
  |[_,_,_,_],_=>rfl
 ·intro W base args ds p hval hA
  rw [show Tryz.f7.params.toList=[31,34,3,3] by kernel_rfl] at hA
  obtain ⟨v0,v1,v2,v3,d0,d1,d2,d3,p0,p1,p2,p3,rfl,rfl,_,h0,h1,h2,h3⟩:=trodAll_four hA
  obtain ⟨h,hk,r0⟩:=history_reads.agg (by kernel_rfl) (hval 0 31 v0 rfl rfl) h0
  obtain ⟨t,tk,r1⟩:=tariff_reads.agg (by kernel_rfl) (hval 1 34 v1 rfl rfl) h1
  obtain ⟨one,onek,r2⟩:=int_reads.cell (by kernel_rfl) (hval 2 3 v2 rfl rfl) h2
  obtain ⟨two,twok,r3⟩:=int_reads.cell (by kernel_rfl) (hval 3 3 v3 rfl rfl) h3
  exact ⟨[vHi h,.ag [.d (slV t)],.d (.int .i64 one),.d (.int .i64 two)],rfl,rel4 r0 r1 r2 r3,lMoved h t one two hk.2.2.1 tk.1⟩
theorem topKnownMoved_holds:Rows.TopKnownMovedSaid:=
 OpenClaim.holds_of_wide 7 Tryz.f7 rfl rfl rfl rfl rfl rfl rfl ⟨rfl,rfl,rfl,rfl,rfl⟩ rfl rfl rfl rfl rfl (by kernel_rfl) Tryz.func7 (by kernel_rfl)
  (of_decide_eq_true (by kernel_rfl)) (by unfold Func.isWrapper;first|(rw [if_pos (by decide +kernel)];kernel_rfl)|(rw [if_neg (by decide +kernel)];exact ⟨rfl,rfl⟩))
  (fun os started H enc _=>topKnownMoved_lifted os started H enc)
end Go.Proofs.YtanppabbmffokaaGreat
end
