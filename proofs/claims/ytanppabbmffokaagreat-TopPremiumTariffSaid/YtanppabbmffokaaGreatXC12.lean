import Derived.Test.YtanppabbmffokaaGreatXC11
set_option linter.unusedSimpArgs false
set_option linter.unusedVariables false
section
namespace Go.Proofs.YtanppabbmffokaaGreat
open Go.Bx
set_option maxRecDepth 10000
theorem dSum_le {g g':Int→Int}:∀ (n:Nat) (a:Int),(∀ d,g d≤g' d)→dSum g a n≤dSum g' a n
 |0,a,_=>Int.le_refl _
 |n+1,a,h=>by
  have h1:=h a
  have h2:=dSum_le n (a+1) h
  rw [dSum,dSum];omega
theorem sumS_le (P:List (Int×Int)) (a b:Int):(sumS P a b).1≤4000000000000000000:=by
 rw [sumS_eq]
 split
 ·split
  ·simp
  ·rename_i h
   have:=dSum_le (g:=valS P) (g':=fun d=>max (valS P d) (-(valS P d))) (b-a).toNat a (fun d=>by omega)
   simp only;omega
 ·simp
def toD (day:Int):Int:=min (max day 1) 292195
def uptoR (P:List (Int×Int)) (day:Int):Int×Int:=
 if toD day=1 then (0,0) else if (sumS P 1 (toD day)).2≠0 then (0,(sumS P 1 (toD day)).2) else ofR upE (sumS P 1 (toD day)).1 1 365
theorem ofR_err {up:Nat→Nat→Nat→Bool} {a b c:Int} (h:(ofR up a b c).2≠0):(ofR up a b c).1=0:=by
 revert h
 unfold ofR
 repeat' split
 all_goals simp
theorem uptoR_err {P:List (Int×Int)} {day:Int} (h:(uptoR P day).2≠0):(uptoR P day).1=0:=by
 unfold uptoR at h ⊢
 split at h
 ·simp at h
 ·split at h
  ·rename_i h1 h2;rw [if_neg h1,if_pos h2]
  ·rename_i h1 h2;rw [if_neg h1,if_neg h2];exact ofR_err h
theorem sUptoR (P:List (Int×Int)) (day:Int) (hl:P.length≤1000000) (h:(uptoR P day).2=0):Ctr Tryz.prog 54 [vSt P,.d (.int .i64 day)] [] (.d (.int .i64 (uptoR P day).1)) [] []:=by
 have cs:=sSumS P 1 (toD day) hl
 have ce:=sEven (sumS P 1 (toD day)).1 1 365 (by have:=sumS_le P 1 (toD day);omega) (by omega) (by omega)
 simp only [vSt,cSt,slK,List.length_map,vS] at cs
 by_cases h1:toD day=1
 ·have d0:(min (max day 1) 292195 == 1)=true:=beq_iff_eq.2 h1
  have e:uptoR P day=(0,0):=by rw [uptoR,if_pos h1]
  rw [e]
  refine ctr_pure Tryz.func54 ok54 rfl cc54 cr54 Tryz.ntmps54 (by simp) rfl rfl ?_;intro c hP hfn;simp only [kc54,vSt,cSt,slK,List.length_map,d0,vcd,↓vcp,seval]
  repeat' first|refine ⟨fun h=>?_,fun h=>?_⟩|refine aO ?_|refine aT ?_|fail
  exact RetK.pure (by simp only [rs54,rsb,vcd,↓vcp,seval]) (by (simp only [rs54,rsb,enb,vcd,↓vcp,seval])<;>(first|rfl))
 ·have d0:(min (max day 1) 292195 == 1)=false:=beq_false_of_ne h1
  have n0:((0:Int) != 0)=false:=rfl
  by_cases h2:(sumS P 1 (toD day)).2=0
  ·have e:uptoR P day=ofR upE (sumS P 1 (toD day)).1 1 365:=by rw [uptoR,if_neg h1,if_neg (by simpa using h2)]
   rw [e] at h ⊢
   rw [h2] at cs
   rw [h] at ce
   simp only [toD] at cs ce ⊢
   refine ctr_pure Tryz.func54 ok54 rfl cc54 cr54 Tryz.ntmps54 (by simp) rfl rfl ?_;intro c hP hfn;simp only [kc54,vSt,cSt,slK,List.length_map,d0,vcd,↓vcp,seval]
   repeat' first|((first|refine tp hP (by first|exact cs|exact ce|exact sMust0) ?_|refine tg hP (fun _=>by first|exact cs|exact ce|exact sMust0) ?_|refine tv hP rfl (by first|exact cs|exact ce|exact sMust0) ?_);try simp only [d0,vcd,↓vcp,seval])|refine ⟨fun h=>?_,fun h=>?_⟩|refine aO ?_|refine aT ?_|fail
   exact RetK.pure (by simp only [rs54,rsb,vcd,↓vcp,seval]) (by (simp only [rs54,rsb,enb,vcd,↓vcp,seval])<;>(first|exact VLe.refl _))
  ·have e:uptoR P day=(0,(sumS P 1 (toD day)).2):=by rw [uptoR,if_neg h1,if_pos h2]
   rw [e] at h
   exact absurd h h2
theorem sUptoP (P:List (Int×Int)) (day:Int) (hl:P.length≤1000000) (h:(uptoR P day).2≠0):CtrP Tryz.prog 54 [vSt P,.d (.int .i64 day)] (vErr (uptoR P day).2):=by
 have cs:=sSumS P 1 (toD day) hl
 have ce:=sEven (sumS P 1 (toD day)).1 1 365 (by have:=sumS_le P 1 (toD day);omega) (by omega) (by omega)
 simp only [vSt,cSt,slK,List.length_map,vS] at cs
 by_cases h1:toD day=1
 ·have e:uptoR P day=(0,0):=by rw [uptoR,if_pos h1]
  rw [e] at h
  exact absurd rfl h
 ·have d0:(min (max day 1) 292195 == 1)=false:=beq_false_of_ne h1
  by_cases h2:(sumS P 1 (toD day)).2=0
  ·have e:uptoR P day=ofR upE (sumS P 1 (toD day)).1 1 365:=by rw [uptoR,if_neg h1,if_neg (by simpa using h2)]
   rw [e] at h ⊢
   rw [h2] at cs
   simp only [toD] at cs ce h ⊢
   refine ctr_panics Tryz.func54 ok54 rfl cc54 Tryz.ntmps54 (by simp) rfl rfl ?_;intro c hP hfn hpk;simp only [kc54,vSt,cSt,slK,List.length_map,d0,vcd,↓vcp,seval]
   repeat' first|((first|refine tp hP (by first|exact cs|exact ce|exact sMust0) ?_|refine tg hP (fun _=>by first|exact cs|exact ce|exact sMust0) ?_|refine tv hP rfl (by first|exact cs|exact ce|exact sMust0) ?_);try simp only [d0,vcd,↓vcp,seval])|refine ⟨fun h=>?_,fun h=>?_⟩|refine aO ?_|refine aT ?_|fail
   exact TR.cpan hP (sMust1 _ h) (by repeat' first|exact trivial|(intro _;assumption)|apply And.intro) (by rw [hpk];exact VLe.refl _)
  ·have e:uptoR P day=(0,(sumS P 1 (toD day)).2):=by rw [uptoR,if_neg h1,if_pos h2]
   rw [e]
   simp only [toD] at cs h2 ⊢
   refine ctr_panics Tryz.func54 ok54 rfl cc54 Tryz.ntmps54 (by simp) rfl rfl ?_;intro c hP hfn hpk;simp only [kc54,vSt,cSt,slK,List.length_map,d0,vcd,↓vcp,seval]
   repeat' first|((first|refine tp hP (by exact cs) ?_|refine tg hP (fun _=>by exact cs) ?_|refine tv hP rfl (by exact cs) ?_);try simp only [d0,vcd,↓vcp,seval])|refine ⟨fun h=>?_,fun h=>?_⟩|refine aO ?_|refine aT ?_|fail
   exact TR.cpan hP (sMust1 _ h2) (by repeat' first|exact trivial|(intro _;assumption)|apply And.intro) (by rw [hpk];exact VLe.refl _)
theorem curS_len {l:List Sl} {P:List (Int×Int)} (h:curS l=some P):P.length≤10000:=by
 have:∀ (l:List Sl) (P Q:List (Int×Int)) (e:Int),curG P e l=some Q→Q.length≤P.length+2*l.length:=by
  intro l
  induction l with
  |nil=>intro P Q e h;simp only [curG,Option.some.injEq] at h;subst h;simp
  |cons s l ih =>
   intro P Q e h
   rw [curG] at h
   split at h
   ·have h1:=ih _ _ _ h
    have h2:=addP_len (addP P s.sf s.yr) s.st 0
    have h3:=addP_len P s.sf s.yr
    rw [List.length_cons];omega
   ·cases h
 have h1:=(curS_ok h).2.1
 rw [curS,if_neg (by omega)] at h
 have:=this _ _ _ _ h
 simp only [List.length_nil] at this
 omega
def uptoF (l:List Sl) (day:Int):Int×Int:=match curS l with|none=>(0,1)|some P=>uptoR P day
theorem sUptoF (l:List Sl) (day:Int) (hl:l.length≤9223372036854775807):Ctr Tryz.prog 21 [.d (slS l),.d (.int .i64 day)] [] (.tup [.d (.int .i64 (uptoF l day).1),.d (.int .i64 (uptoF l day).2)]) [] []:=by
 cases hc:curS l with
 |none =>
  have e:uptoF l day=(0,1):=by rw [uptoF,hc]
  have cp:=sCurveP l hc hl
  simp only [slS,dSl,slC] at cp
  rw [e]
  refine ctr_defer 53 [5] Tryz.func21 ok21 rfl cd21 cr21 Tryz.ntmps21 (by simp) rfl rfl ?_;intro c hP hfn;simp only [kd21,slS,dSl,slC,vcd,↓vcp,seval]
  rw [layK_nrm]
  simp only [vcd,↓vcp,seval]
  refine ⟨⟨_,_,rfl,trivial,by simp only [vcd,↓vcp,seval],rfl⟩,by simp [keysO],fun c2 hP2 hfn2 hrd2 hpk2=>?_⟩
  refine vcS.of ?_
  simp only [vcd,↓vcp,seval]
  refine TR.cpan (hP2.trans hP) cp (by repeat' first|exact trivial|(intro _;assumption)|apply And.intro) ?_
  rw [hpk2]
  refine ⟨[(5,.fix [.d (.int .i64 0)])],[(5,.fix [.d (.int .i64 1)])],by rw [hP];exact dTold1 5 0 1,fun k o hm=>mem_own? (by simp [keysO]) hm,?_,?_⟩
  ·first|(simp only [rs21,rsb,vcd,↓vcp,seval];done)|trivial
  ·simp only [rs21,rsb,enb,vcd,↓vcp,seval]
 |some P =>
  have hPl:=curS_len hc
  have cc:=sCurve l P hc
  simp only [slS,dSl,slC] at cc
  have e:uptoF l day=uptoR P day:=by rw [uptoF,hc]
  rw [e]
  by_cases h:(uptoR P day).2=0
  ·have cu:=sUptoR P day (by omega) h
   rw [h]
   refine ctr_defer 53 [5] Tryz.func21 ok21 rfl cd21 cr21 Tryz.ntmps21 (by simp) rfl rfl ?_;intro c hP hfn;simp only [kd21,slS,dSl,slC,vcd,↓vcp,seval]
   rw [layK_nrm]
   simp only [vcd,↓vcp,seval]
   refine ⟨⟨_,_,rfl,trivial,by simp only [vcd,↓vcp,seval],rfl⟩,by simp [keysO],fun c2 hP2 hfn2 hrd2 hpk2=>?_⟩
   refine vcS.of ?_
   have hP:=hP2.trans hP
   simp only [vcd,↓vcp,seval]
   repeat' first|((first|refine tp hP (by first|exact cc|exact cu) ?_|refine tg hP (fun _=>by first|exact cc|exact cu) ?_|refine tv hP rfl (by first|exact cc|exact cu) ?_);try simp only [vcd,↓vcp,seval])|refine ⟨fun h=>?_,fun h=>?_⟩|refine aO ?_|refine aT ?_|fail
   refine ⟨_,[(5,.fix [.d (.int .i64 0)])],[(5,.fix [.d (.int .i64 0)])],Wk.refl _ _,by rw [hP];exact dTold0 5 0,fun k o hm=>mem_own? (by simp [keysO]) hm,?_,?_⟩
   ·first|(simp only [rs21,rsb,vcd,↓vcp,seval];done)|trivial
   ·simp only [rs21,rsb,enb,vcd,↓vcp,seval]
  ·have cu:=sUptoP P day (by omega) h
   have e0:=uptoR_err h
   rw [e0]
   refine ctr_defer 53 [5] Tryz.func21 ok21 rfl cd21 cr21 Tryz.ntmps21 (by simp) rfl rfl ?_;intro c hP hfn;simp only [kd21,slS,dSl,slC,vcd,↓vcp,seval]
   rw [layK_nrm]
   simp only [vcd,↓vcp,seval]
   refine ⟨⟨_,_,rfl,trivial,by simp only [vcd,↓vcp,seval],rfl⟩,by simp [keysO],fun c2 hP2 hfn2 hrd2 hpk2=>?_⟩
   refine vcS.of ?_
   have hP:=hP2.trans hP
   simp only [vcd,↓vcp,seval]
   repeat' first|((first|refine tp hP (by exact cc) ?_|refine tg hP (fun _=>by exact cc) ?_|refine tv hP rfl (by exact cc) ?_);try simp only [vcd,↓vcp,seval])|refine ⟨fun h=>?_,fun h=>?_⟩|refine aO ?_|refine aT ?_|fail
   refine TR.cpan hP cu (by repeat' first|exact trivial|(intro _;assumption)|apply And.intro) ?_
   rw [hpk2]
   refine ⟨[(5,.fix [.d (.int .i64 0)])],[(5,.fix [.d (.int .i64 (uptoR P day).2)])],by rw [←hP2,hP];exact dTold1 5 0 _,fun k o hm=>mem_own? (by simp [keysO]) hm,?_,?_⟩
   ·first|(simp only [rs21,rsb,vcd,↓vcp,seval];done)|trivial
   ·simp only [rs21,rsb,enb,vcd,↓vcp,seval]
end Go.Proofs.YtanppabbmffokaaGreat
end
section
namespace Go.Proofs.YtanppabbmffokaaGreat
open Go.Bx
set_option maxRecDepth 10000
theorem sWritten (l:List Sl) (hl:l.length≤9223372036854775807):Ctr Tryz.prog 25 [.d (slS l)] [] (.tup [.d (.int .i64 (uptoF l 292195).1),.d (.int .i64 (uptoF l 292195).2)]) [] []:=by
 have cu:=sUptoF l 292195 hl
 simp only [slS,dSl,slC] at cu
 refine ctr_pure Tryz.func25 ok25 rfl cc25 cr25 Tryz.ntmps25 (by simp) rfl rfl ?_;intro c hP hfn;simp only [kc25,slS,dSl,slC,vcd,↓vcp,seval]
 repeat' first|((first|refine tp hP (by exact cu) ?_|refine tg hP (fun _=>by exact cu) ?_|refine tv hP rfl (by exact cu) ?_);try simp only [vcd,↓vcp,seval])|refine ⟨fun h=>?_,fun h=>?_⟩|refine aO ?_|refine aT ?_|fail
 exact RetK.pure (by simp only [rs25,rsb,vcd,↓vcp,seval]) (by (simp only [rs25,rsb,enb,vcd,↓vcp,seval])<;>(first|exact VLe.refl _))
def betF (l:List Sl) (a b:Int):Int×Int:=
 match curS l with
 |none=>(0,1)
 |some P=>if okS a b=false then (0,1) else if (uptoR P b).2≠0 then (0,(uptoR P b).2) else if (uptoR P a).2≠0 then (0,(uptoR P a).2) else (IntKind.i64.wrap ((uptoR P b).1-(uptoR P a).1),0)
def betV (l:List Sl) (a b:Int):V:=if (betF l a b).2=0 then .d (.int .i64 (betF l a b).1) else .un
theorem pan5 {st1:St} (h1:own? st1.own 5=some (.fix [.d (.int .i64 0)])) (h2:Go.Bx.get st1.env 5=.own 5 0) (e:Int):panD Tryz.prog 53 [5] [.tmp 4,.cell 5 1 false] (.tup [.un,.d (.int .i64 e)]) (vErr e) st1:=by
 have ho:own? (applyU st1.own (callU [(5,Go.Bx.Own.fix [.d (.int .i64 0)])] [(5,.fix [.d (.int .i64 e)])])) 5=some (.fix [.d (.int .i64 e)]):=by
  simp only [callU,List.map_cons,List.map_nil,List.append_nil,applyU,own?_setO,vcd,↓vcp,seval]
 refine ⟨[(5,.fix [.d (.int .i64 0)])],[(5,.fix [.d (.int .i64 e)])],dTold1 5 0 e,fun k o hm=>?_,?_,?_⟩
 ·simp only [List.mem_cons,Prod.mk.injEq,List.not_mem_nil,or_false] at hm
  obtain ⟨rfl,rfl⟩:=hm
  exact h1
 ·simp only [ressS,resS,h2,ho]
  simp
 ·simp only [retV,ressV,resV,h2,ho]
  exact VLe.tups ⟨VLe.un _,VLe.refl _,trivial⟩
end Go.Proofs.YtanppabbmffokaaGreat
end
section
namespace Go.Proofs.YtanppabbmffokaaGreat
open Go.Bx
set_option maxRecDepth 10000
def rowH (l:List Ch):Go.Bx.Own:=.row 36 9 l.length (fun i=>dCh (l.getD i default))
theorem sGrowH (n:Nat) (hn:n≤1000000000000):Ctr Tryz.prog 135 [.d (.sl true 0 0 fun _=>[]),.d (.int .i64 (n:Int))] [] (.osl 903) [(903,rowH [])] [903]:=by
 refine ctr_own Tryz.func135 ok135 rfl cc135 cr135 Tryz.ntmps135 (by simp) rfl ?_
 intro c hP hfn
 have e1:IntKind.i64.wrap ((0:Int)-0)=0:=wI (by omega)
 have e0:IntKind.i64.wrap 0=0:=wI (by omega)
 have e2:IntKind.i64.wrap ((n:Int)-0)=(n:Int):=(wI (by omega)).trans (by omega)
 simp only [kc135,namesL,V.names,ownNames,e0,e1,e2,vcd,↓vcp,seval]
 repeat' first|refine ⟨fun h=>?_,fun h=>?_⟩|refine aO ?_|refine aT ?_|fail
 ·exfalso;have:=of_decide_eq_true h;omega
 ·exact RetK.mk _ (Wk.shr 22 903 0 rfl (Nat.zero_le _) (by simp)) (by simp only [rs135,rsb,vcd,↓vcp,seval]) (by simp only [rs135,rsb,enb,vcd,↓vcp,seval]) (by simp only [rowH,enb,vcd,↓vcp,seval];exact OLe.row rfl (fun i hi=>absurd hi (Nat.not_lt_zero i)))
 ·exact RetK.mk _ (Wk.row0 (s:=4) (k:=903) (e:=36) (sz:=9) (f':=fun i=>dCh (([]:List Ch).getD i default)) rfl rfl (by simp)) (by simp only [rs135,rsb,vcd,↓vcp,seval]) (by simp only [rs135,rsb,enb,vcd,↓vcp,seval]) (by simp only [rowH,enb,vcd,↓vcp,seval])
def gH (G:List (List Ch)) (bs:Nat→Bool) (g:Nat→Nat→List D):D:=.sl true 1 G.length (fun i=>[.sl (bs i) 9 (G.getD i []).length (g i)])
theorem flatH_take {G:List (List Ch)} {k:Nat} {g:List Ch} (h:G[k]?=some g):(G.take (k+1)).flatten=(G.take k).flatten++g:=by
 rw [List.take_add_one,h];simp
theorem flatH_le (G:List (List Ch)) (k:Nat):(G.take k).flatten.length≤G.flatten.length:=by
 conv=>rhs;rw [←List.take_append_drop k G,List.flatten_append,List.length_append]
 omega
set_option maxHeartbeats 2000000 in
theorem sConcatH (G:List (List Ch)) (bs:Nat→Bool) (g:Nat→Nat→List D) (hg':∀ i j,i<G.length→j<(G.getD i []).length→g i j=dCh ((G.getD i []).getD j default)) (hG:G.length≤1000000) (hF:G.flatten.length≤1000000000) :
  Ctr Tryz.prog 87 [.d (gH G bs g)] [] (.d (slH G.flatten)) [] []:=by
 refine ctr_pure Tryz.func87 ok87 rfl cc87 cr87 Tryz.ntmps87 (by simp) rfl rfl ?_;intro c hP hfn;simp only [kc87,gH,vcd,↓vcp,seval]
 refine vcC.loop (X:=Nat) (fun k=>⟨[(0,.d (gH G bs g)),(3,.d (.int .i64 (G.take k).flatten.length)),(9,.d (gH G bs g)),(10,.d (.int .i64 G.length)),(11,.d (.int .i64 k))],[],[]⟩)
  (fun k=>k≤G.length) (fun k=>G.length-k) 0 (Nat.zero_le _) (Wk.of _ hfn rfl (by simp only [gH,List.take_zero,List.flatten_nil,enb,vcd,↓vcp,seval]) (by simp only [enb,vcd,↓vcp,seval])) ?_
 rintro k hk
 have hle:=flatH_le G k
 by_cases hlt:k<G.length
 ·obtain ⟨q,hd,hq,hgm,hat⟩:=drop_at hlt
  have hq:=hq []
  have d0:decide ((k:Int)<(G.length:Int))=true:=decide_eq_true (by omega)
  have w1:IntKind.i64.wrap ((k:Int)+1)=((k+1:Nat):Int):=wS (by omega)
  have hfl:=flatH_take hat
  have hle2:=flatH_le G (k+1)
  have hlen:((G.take (k+1)).flatten.length:Int)=(G.take k).flatten.length+q.length:=by rw [hfl,List.length_append];omega
  have ew:IntKind.i64.wrap (((G.take k).flatten.length:Int)+(q.length:Int))=((G.take (k+1)).flatten.length:Int):=by rw [hlen];exact wI (by omega)
  have d1:decide (((G.take (k+1)).flatten.length:Int)<0)=false:=decide_eq_false (by omega)
  simp only [gH,d0,hq,ew,d1,vcd,↓vcp,seval]
  repeat' first|refine ⟨fun h=>?_,fun h=>?_⟩|refine aO ?_|refine aT ?_|fail
  exact lopK.on (k+1) hlt (by omega) (Wk.of _ hfn rfl (by simp only [gH,w1,enb,vcd,↓vcp,seval]) (by simp only [enb,vcd,↓vcp,seval]))
 ·have d0:decide ((k:Int)<(G.length:Int))=false:=decide_eq_false (by omega)
  obtain rfl:k=G.length:=by omega
  have cg:=sGrowH G.flatten.length (by omega)
  simp only [rowH,vcd,↓vcp,seval] at cg
  simp only [gH,d0,List.take_length,vcd,↓vcp,seval]
  repeat' first|refine ⟨fun h=>?_,fun h=>?_⟩|refine aO ?_|refine aT ?_|fail
  refine TR.call [] [(903,rowH [])] _ [903] (by rw [hP];exact cg) (by repeat' first|exact trivial|(intro _;assumption)|apply And.intro) (by simp) (by simp [keysO]) (by simp) ?_
  simp only [rowH,vcd,↓vcp,seval]
  repeat' first|refine ⟨fun h=>?_,fun h=>?_⟩|refine aO ?_|refine aT ?_|fail
  refine vcC.loop (X:=Nat) (fun k=>⟨[(6,.osl 903),(25,.d (gH G bs g)),(26,.d (.int .i64 G.length)),(27,.d (.int .i64 k))],[(903,rowH (G.take k).flatten)],[903]⟩)
   (fun k=>k≤G.length) (fun k=>G.length-k) 0 (Nat.zero_le _) (Wk.of _ hfn rfl (by simp only [gH,enb,vcd,↓vcp,seval]) (by simp only [rowH,List.take_zero,List.flatten_nil,enb,vcd,↓vcp,seval])) ?_
  rintro k hk
  have hle:=flatH_le G k
  by_cases hlt:k<G.length
  ·obtain ⟨q,hd,hq,hgm,hat⟩:=drop_at hlt
   have hq:=hq []
   have hgq:∀ j,j<q.length→g k j=dCh (q.getD j default):=fun j hj=>by have:=hg' k j hlt (by rw [hq];exact hj);rw [hq] at this;exact this
   have d1:decide ((k:Int)<(G.length:Int))=true:=decide_eq_true (by omega)
   have w1:IntKind.i64.wrap ((k:Int)+1)=((k+1:Nat):Int):=wS (by omega)
   have hfl:=flatH_take hat
   have hle2:=flatH_le G (k+1)
   have hlen:(G.take (k+1)).flatten.length=(G.take k).flatten.length+q.length:=by rw [hfl,List.length_append]
   have hroom:((G.take k).flatten.length+q.length)*88≤140737488355328∧(G.take k).flatten.length+q.length≤maxLen:=⟨by omega,by simp only [maxLen];omega⟩
   simp only [gH,rowH,d1,hq,vcd,↓vcp,seval]
   repeat' first|refine ⟨fun h=>?_,fun h=>?_⟩|refine aO ?_|refine aT ?_|fail
   exact lopK.on (k+1) hlt (by omega) ((Wk.sw 33 903 _ hfn (by simp) (by simp)).trans (Wk.of _ hfn rfl (by simp only [gH,w1,enb,vcd,↓vcp,seval]) (by simp only [rowH,hfl,enb,vcd,↓vcp,seval];exact OLe.appL dCh rfl (fun i hi=>by rw [if_pos hi]) (fun i hi=>by rw [if_neg (by omega),Nat.add_sub_cancel_left];exact hgq i hi))))
  ·have d1:decide ((k:Int)<(G.length:Int))=false:=decide_eq_false (by omega)
   obtain rfl:k=G.length:=by omega
   simp only [gH,rowH,d1,List.take_length,vcd,↓vcp,seval]
   repeat' first|refine ⟨fun h=>?_,fun h=>?_⟩|refine aO ?_|refine aT ?_|fail
   refine RetK.mk _ (Wk.pub 903 rfl) (by simp only [rs87,rsb,vcd,↓vcp,seval]) ?_ trivial
   simp only [rs87,rsb,vcd,↓vcp,seval,slH,enb,vcd,↓vcp,seval]
end Go.Proofs.YtanppabbmffokaaGreat
end
section
namespace Go.Proofs.YtanppabbmffokaaGreat
open Go.Bx
set_option maxRecDepth 10000
def betR (l:List Sl) (a b:Int):V:=.tup [betV l a b,.d (.int .i64 (betF l a b).2)]
theorem own_vac {E0:Nat→Prop} {β:Names} {w:World} {own:List (Nat×Go.Bx.Own)} {k:Nat} (h:OwnsOk E0 β w own) (hk:own? own k=some (.fix [vNo])):False:=by
 obtain ⟨b,arr,e,_,_,hsz,hv⟩:=h.ok k _ (own?_mem hk)
 have h0:0<arr.size:=by rw [hsz];simp
 exact vNo_no (hv 0 arr[0] vNo (Array.getElem?_eq_getElem h0) rfl)
theorem TRQ.panU {c:Ctx} {K0:Kont} {IS:List I} {s0:St} {d:Option Nat} {f:Nat} {xs:List X} {is:List I} {K:List Lg→St→Prop} {st:St} {acc:List Lg} {P:Program} (hP:c.P=P) {x:V} (k:Nat) (hS:CtrP P f (evVs st xs) x) (hs:evSs true st xs)
  (hk:∀ st1:St,(∀ j,j∈[k]→own? st1.own j=own? st.own j)→(∀ k,(∀ ii,ii∈IS→ii.dst≠some k)→get st1.env k=get s0.env k)→c.pk x st1)
  (h:TRQ c (PostX c K0) IS s0 is (st.stp d { val:=vNo,upd:=[(k,some (.fix [vNo]))],rd:=[k],new:=[] }) (acc++[⟨[k],[k]⟩]) K):TRQ c (PostX c K0) IS s0 (⟨d,none,.call f xs⟩::is) st acc K:=by
 refine TRQ.cons { val:=vNo,upd:=[(k,some (.fix [vNo]))],rd:=[k],new:=[] } (fun st1 h1 h2 _ h4 ops o hc β a w H K hK=>?_) (fun k hk=>by simp at hk) h
 have hsl:∀ k,k∈xsSlots xs→get st1.env k=get st.env k:=fun k hk=>h1 k (gslots_call k hk)
 have hS':CtrP c.P f (evVs st1 xs) x:=by rw [evVs_congr hsl,hP];exact hS
 have hs':evSs true st1 xs:=by rw [evSs_congr hsl];exact hs
 obtain ⟨q1,q2⟩:=panics_call (d:=d) hS' hs' ops o hc β a w H (PostX c K0) K (fun β' a' w' v H' hv=>.inr ⟨_,rfl,β',st1,v,x,rfl,hk st1 h2 h4,H',hv⟩)
 rw [if_pos q1]
 exact q2
theorem TRQ.vacO {c:Ctx} {Q:Exit→Act→World→Prop} {IS:List I} {s0:St} {i:I} {is:List I} {K:List Lg→St→Prop} {st:St} {acc:List Lg} (k:Nat) (hg:own? st.own k=some (.fix [vNo])) (h:TRQ c Q IS s0 is (st.stp i.dst { val:=vNo,upd:=[],rd:=[k],new:=[] }) (acc++[⟨[k],[]⟩]) K):TRQ c Q IS s0 (i::is) st acc K:=by
 refine TRQ.cons { val:=vNo,upd:=[],rd:=[k],new:=[] } (fun st1 _ h2 _ _ ops o hc β a w H K hK=>?_) (fun k hk=>by simp at hk) h
 exact (own_vac H.own (by rw [h2 k (by simp),hg])).elim
def betS (P:List (Int×Int)) (a b:Int):St:=⟨[(3,.own 3 0),(5,.own 5 0),(6,.own 6 0)],[(3,.fix [.d (.int .i64 a),.d (.int .i64 b)]),(5,.fix [.d (.int .i64 0)]),(6,.fix (cSt P))],[3,5,6]⟩
set_option maxHeartbeats 2000000 in
theorem sBet (l:List Sl) (a b:Int) (hl:l.length≤9223372036854775807):Ctr Tryz.prog 29 [.d (slS l),vS a b] [] (betR l a b) [] []:=by
 cases hc:curS l with
 |none =>
  have e:betF l a b=(0,1):=by rw [betF,hc]
  have cp:=sCurveP l hc hl
  simp only [slS,dSl,slC] at cp
  rw [betR,betV,e]
  refine ctr_defer 53 [5] Tryz.func29 ok29 rfl cd29 cr29 Tryz.ntmps29 (by simp) rfl rfl ?_;intro c hP hfn;simp only [kd29,slS,dSl,slC,vS,vcd,↓vcp,seval]
  rw [layK_nrm]
  simp only [vcd,↓vcp,seval]
  refine ⟨⟨_,_,rfl,trivial,by simp only [vcd,↓vcp,seval],rfl⟩,by simp [keysO],fun c2 hP2 hfn2 hrd2 hpk2=>?_⟩
  refine vcS.of ?_
  simp only [vcd,↓vcp,seval]
  refine TR.cpan (hP2.trans hP) cp (by repeat' first|exact trivial|(intro _;assumption)|apply And.intro) ?_
  rw [hpk2]
  refine ⟨[(5,.fix [.d (.int .i64 0)])],[(5,.fix [.d (.int .i64 1)])],by rw [hP];exact dTold1 5 0 1,fun k o hm=>mem_own? (by simp [keysO]) (List.mem_cons_of_mem _ hm),?_,?_⟩
  ·first|(simp only [rs29,rsb,vcd,↓vcp,seval];done)|trivial
  ·simp only [rs29,rsb,enb,vcd,↓vcp,seval]
   exact VLe.tups ⟨VLe.un _,VLe.refl _,trivial⟩
 |some P =>
  have hPl:=curS_len hc
  have cc:=sCurve l P hc
  have cr:=sSpanRight a b
  simp only [slS,dSl,slC,vSt,cSt,slK,List.length_map] at cc
  simp only [vS] at cr
  cases ho:okS a b with
  |false =>
   have e:betF l a b=(0,1):=by rw [betF,hc];simp only [ho,if_true]
   rw [ho] at cr
   rw [betR,betV,e]
   refine ctr_defer 53 [5] Tryz.func29 ok29 rfl cd29 cr29 Tryz.ntmps29 (by simp) rfl rfl ?_;intro c hP hfn;simp only [kd29,slS,dSl,slC,vS,vcd,↓vcp,seval]
   rw [layK_nrm]
   simp only [vcd,↓vcp,seval]
   refine ⟨⟨_,_,rfl,trivial,by simp only [vcd,↓vcp,seval],rfl⟩,by simp [keysO],fun c2 hP2 hfn2 hrd2 hpk2=>?_⟩
   refine vcS.of ?_
   have hP:=hP2.trans hP
   simp only [vcd,↓vcp,seval]
   repeat' first|((first|refine tp hP (by first|exact cc|exact cr) ?_|refine tg hP (fun _=>by first|exact cc|exact cr) ?_|refine tv hP rfl (by first|exact cc|exact cr) ?_);try simp only [vcd,↓vcp,seval])|refine ⟨fun h=>?_,fun h=>?_⟩|refine aO ?_|refine aT ?_|fail
   refine TR.cpan hP (sMust1 1 (by decide)) (by repeat' first|exact trivial|(intro _;assumption)|apply And.intro) ?_
   rw [hpk2]
   refine ⟨[(5,.fix [.d (.int .i64 0)])],[(5,.fix [.d (.int .i64 1)])],by rw [←hP2,hP];exact dTold1 5 0 1,fun k o hm=>mem_own? (by simp [keysO]) (by simp only [List.mem_cons,List.not_mem_nil,or_false] at hm;simp [hm]),?_,?_⟩
   ·first|(simp only [rs29,rsb,vcd,↓vcp,seval];done)|trivial
   ·simp only [rs29,rsb,enb,vcd,↓vcp,seval]
    exact VLe.tups ⟨VLe.un _,VLe.refl _,trivial⟩
  |true =>
   rw [ho] at cr
   have e:betF l a b=if (uptoR P b).2≠0 then (0,(uptoR P b).2) else if (uptoR P a).2≠0 then (0,(uptoR P a).2) else (IntKind.i64.wrap ((uptoR P b).1-(uptoR P a).1),0):=by rw [betF,hc];simp only [ho,if_neg (show ¬ (true=false) by simp)]
   by_cases h1:(uptoR P b).2=0
   ·by_cases h2:(uptoR P a).2=0
    ·have e1:betF l a b=(IntKind.i64.wrap ((uptoR P b).1-(uptoR P a).1),0):=by rw [e,if_neg (by simpa using h1),if_neg (by simpa using h2)]
     have u1:=sUptoR P b (by omega) h1
     have u2:=sUptoR P a (by omega) h2
     simp only [vSt,cSt,slK,List.length_map] at u1 u2
     rw [betR,betV,e1]
     refine ctr_defer 53 [5] Tryz.func29 ok29 rfl cd29 cr29 Tryz.ntmps29 (by simp) rfl rfl ?_;intro c hP hfn;simp only [kd29,slS,dSl,slC,vS,vcd,↓vcp,seval]
     rw [layK_nrm]
     simp only [vcd,↓vcp,seval]
     refine ⟨⟨_,_,rfl,trivial,by simp only [vcd,↓vcp,seval],rfl⟩,by simp [keysO],fun c2 hP2 hfn2 hrd2 hpk2=>?_⟩
     refine vcS.of ?_
     have hP:=hP2.trans hP
     simp only [vcd,↓vcp,seval]
     repeat' first|((first|refine tp hP (by first|exact cc|exact cr|exact u1|exact u2) ?_|refine tg hP (fun _=>by first|exact cc|exact cr|exact u1|exact u2) ?_|refine tv hP rfl (by first|exact cc|exact cr|exact u1|exact u2) ?_);try simp only [vcd,↓vcp,seval])|refine ⟨fun h=>?_,fun h=>?_⟩|refine aO ?_|refine aT ?_|fail
     refine ⟨_,[(5,.fix [.d (.int .i64 0)])],[(5,.fix [.d (.int .i64 0)])],Wk.refl _ _,by rw [hP];exact dTold0 5 0,fun k o hm=>mem_own? (by simp [keysO]) (by simp only [List.mem_cons,List.not_mem_nil,or_false] at hm;simp [hm]),?_,?_⟩
     ·first|(simp only [rs29,rsb,vcd,↓vcp,seval];done)|trivial
     ·simp only [rs29,rsb,enb,vcd,↓vcp,seval]
    ·have e1:betF l a b=(0,(uptoR P a).2):=by rw [e,if_neg (by simpa using h1),if_pos h2]
     have u1:=sUptoR P b (by omega) h1
     have u2:=sUptoP P a (by omega) h2
     simp only [vSt,cSt,slK,List.length_map] at u1 u2
     rw [betR,betV,e1,if_neg h2]
     refine ctr_defer 53 [5] Tryz.func29 ok29 rfl cd29 cr29 Tryz.ntmps29 (by simp) rfl rfl ?_;intro c hP hfn;simp only [kd29,slS,dSl,slC,vS,vcd,↓vcp,seval]
     rw [layK_nrm]
     simp only [vcd,↓vcp,seval]
     refine ⟨⟨_,_,rfl,trivial,by simp only [vcd,↓vcp,seval],rfl⟩,by simp [keysO],fun c2 hP2 hfn2 hrd2 hpk2=>?_⟩
     have hP0:=hP
     have hP:=hP2.trans hP
     refine vcS.seq (K1:=fun e st'=>e=.nrm∧Wk c2 st' (betS P a b)) (vcS.of ?_) (fun st' h=>⟨betS P a b,h.2,?_⟩) (fun i st' h=>by cases h.1) (fun st' h=>by cases h.1)
     ·simp only [vcd,↓vcp,seval]
      repeat' first|((first|refine tp hP (by exact cc) ?_|refine tg hP (fun _=>by exact cc) ?_|refine tv hP rfl (by exact cc) ?_);try simp only [vcd,↓vcp,seval])|refine ⟨fun h=>?_,fun h=>?_⟩|refine aO ?_|refine aT ?_|fail
      exact Wk.of _ hfn2 rfl (by simp only [betS,enb,vcd,↓vcp,seval]) (by simp only [betS,cSt,slK,List.length_map,enb,vcd,↓vcp,seval])
     refine vcS.seq (K1:=fun e st'=>e=.nrm∧Wk c2 st' (betS P a b)) (vcS.of ?_) (fun st' h=>⟨betS P a b,h.2,?_⟩) (fun i st' h=>by cases h.1) (fun st' h=>by cases h.1)
     ·simp only [betS,cSt,vcd,↓vcp,seval]
      repeat' first|((first|refine tp hP (by exact cr) ?_|refine tg hP (fun _=>by exact cr) ?_|refine tv hP rfl (by exact cr) ?_);try simp only [vcd,↓vcp,seval])|refine ⟨fun h=>?_,fun h=>?_⟩|refine aO ?_|refine aT ?_|fail
      exact Wk.of _ hfn2 rfl (by simp only [betS,enb,vcd,↓vcp,seval]) (by simp only [betS,cSt,enb,vcd,↓vcp,seval])
     refine vcS.seq (K1:=fun _ _=>False) (vcS.drw ?_) (fun st' h=>h.elim) (fun i st' h=>h.elim) (fun st' h=>h.elim)
     refine TRQ.app (pre:=[_,_,_,_,_,_,_]) ?_
     refine vcR_ok ?_
     simp only [betS,cSt,slK,List.length_map,vcd,↓vcp,seval]
     repeat' first|((first|refine tp hP (by exact u1) ?_|refine tg hP (fun _=>by exact u1) ?_|refine tv hP rfl (by exact u1) ?_);try simp only [vcd,↓vcp,seval])|refine ⟨fun h=>?_,fun h=>?_⟩|refine aO ?_|refine aT ?_|fail
     refine TRQ.panU hP 5 u2 (by simp only [vcd,↓vcp,seval]) (fun st1 h1 h2=>by rw [hpk2,hP0];exact pan5 (h1 5 (by simp)) (h2 5 (by simp)) _) ?_
     refine TRQ.vacO 5 (by simp only [St.stp,applyU,vcd,↓vcp,seval]) ?_
     refine TRQ.vacO 5 (by simp only [St.stp,applyU,vcd,↓vcp,seval]) ?_
     refine TRQ.vacO 5 (by simp only [St.stp,applyU,vcd,↓vcp,seval]) ?_
     refine ⟨[],_,.nil _,?_,?_⟩
     ·rfl
     ·intro β a w H
      exact own_vac (k:=5) H.own (by simp only [St.stp,applyU,vcd,↓vcp,seval])
   ·have e1:betF l a b=(0,(uptoR P b).2):=by rw [e,if_pos h1]
    have u1:=sUptoP P b (by omega) h1
    simp only [vSt,cSt,slK,List.length_map] at u1
    rw [betR,betV,e1,if_neg h1]
    refine ctr_defer 53 [5] Tryz.func29 ok29 rfl cd29 cr29 Tryz.ntmps29 (by simp) rfl rfl ?_;intro c hP hfn;simp only [kd29,slS,dSl,slC,vS,vcd,↓vcp,seval]
    rw [layK_nrm]
    simp only [vcd,↓vcp,seval]
    refine ⟨⟨_,_,rfl,trivial,by simp only [vcd,↓vcp,seval],rfl⟩,by simp [keysO],fun c2 hP2 hfn2 hrd2 hpk2=>?_⟩
    have hP0:=hP
    have hP:=hP2.trans hP
    refine vcS.seq (K1:=fun e st'=>e=.nrm∧Wk c2 st' (betS P a b)) (vcS.of ?_) (fun st' h=>⟨betS P a b,h.2,?_⟩) (fun i st' h=>by cases h.1) (fun st' h=>by cases h.1)
    ·simp only [vcd,↓vcp,seval]
     repeat' first|((first|refine tp hP (by exact cc) ?_|refine tg hP (fun _=>by exact cc) ?_|refine tv hP rfl (by exact cc) ?_);try simp only [vcd,↓vcp,seval])|refine ⟨fun h=>?_,fun h=>?_⟩|refine aO ?_|refine aT ?_|fail
     exact Wk.of _ hfn2 rfl (by simp only [betS,enb,vcd,↓vcp,seval]) (by simp only [betS,cSt,slK,List.length_map,enb,vcd,↓vcp,seval])
    refine vcS.seq (K1:=fun e st'=>e=.nrm∧Wk c2 st' (betS P a b)) (vcS.of ?_) (fun st' h=>⟨betS P a b,h.2,?_⟩) (fun i st' h=>by cases h.1) (fun st' h=>by cases h.1)
    ·simp only [betS,cSt,vcd,↓vcp,seval]
     repeat' first|((first|refine tp hP (by exact cr) ?_|refine tg hP (fun _=>by exact cr) ?_|refine tv hP rfl (by exact cr) ?_);try simp only [vcd,↓vcp,seval])|refine ⟨fun h=>?_,fun h=>?_⟩|refine aO ?_|refine aT ?_|fail
     exact Wk.of _ hfn2 rfl (by simp only [betS,enb,vcd,↓vcp,seval]) (by simp only [betS,cSt,enb,vcd,↓vcp,seval])
    refine vcS.seq (K1:=fun _ _=>False) (vcS.drw ?_) (fun st' h=>h.elim) (fun i st' h=>h.elim) (fun st' h=>h.elim)
    refine TRQ.app (pre:=[_,_,_]) ?_
    refine vcR_ok ?_
    simp only [betS,cSt,slK,List.length_map,vcd,↓vcp,seval]
    refine TRQ.panU hP 5 u1 (by simp only [vcd,↓vcp,seval]) (fun st1 h1 h2=>by rw [hpk2,hP0];exact pan5 (h1 5 (by simp)) (h2 5 (by simp)) _) ?_
    refine TRQ.app (pre:=[_,_,_]) ?_
    refine vcR_ok ?_
    simp only [vcd,↓vcp,seval]
    refine TRQ.vacO 5 (by simp only [vcd,↓vcp,seval]) ?_
    refine TRQ.vacO 5 (by simp only [St.stp,applyU,vcd,↓vcp,seval]) ?_
    refine TRQ.vacO 5 (by simp only [St.stp,applyU,vcd,↓vcp,seval]) ?_
    refine TRQ.vacO 5 (by simp only [St.stp,applyU,vcd,↓vcp,seval]) ?_
    refine ⟨[],_,.nil _,?_,?_⟩
    ·rfl
    ·intro β a w H
     exact own_vac (k:=5) H.own (by simp only [St.stp,applyU,vcd,↓vcp,seval])
end Go.Proofs.YtanppabbmffokaaGreat
end
section
namespace Go.Proofs.YtanppabbmffokaaGreat
open Go.Bx
set_option maxRecDepth 10000
def withOut (h:Hi) (x:Int):Hi:={ h with ch:=h.ch.take x.toNat++h.ch.drop (x.toNat+1) }
def keptC (h:Hi) (t:List Vs) (x:Int):Int×Int:=
 if (ofS (withOut h x) t).2≠0 then (0,(ofS (withOut h x) t).2) else
 if (betF (ofS (withOut h x) t).1 (h.ch.getD x.toNat default).dy h.tm.st).2≠0 then (0,(betF (ofS (withOut h x) t).1 (h.ch.getD x.toNat default).dy h.tm.st).2) else
  bpR (betF (ofS (withOut h x) t).1 (h.ch.getD x.toNat default).dy h.tm.st).1 1000
def keptF (h:Hi) (t:List Vs):Int×Int:=
 if (ofS h t).2≠0 then (0,(ofS h t).2) else
  match turnS h with
  |none=>(0,0)
  |some x=>if (h.ch.getD x.toNat default).kd≠3∨(h.ch.getD x.toNat default).wy≠1 then (0,0) else keptC h t x
theorem turnS_ok {h:Hi} {x:Int} (e:turnS h=some x):okH h.ch x:=orderC_ok h.ch x (turnL_mem e).1
theorem withOut_sz {h:Hi} (z:SzC h) (x:Int):SzC (withOut h x):=by
 refine ⟨z.t,?_,fun c hc=>?_⟩
 ·have:=z.n
  simp only [withOut,List.length_append,List.length_take,List.length_drop];omega
 ·simp only [withOut,List.mem_append] at hc
  rcases hc with hc|hc
  ·exact z.c c (List.mem_of_mem_take hc)
  ·exact z.c c (List.mem_of_mem_drop hc)
theorem wrap_le (x:Int):IntKind.i64.wrap x≤9223372036854775807:=by
 have h:IntKind.i64.wrap x=if x % 18446744073709551616≥9223372036854775808 then x % 18446744073709551616-18446744073709551616 else x % 18446744073709551616:=by
  simp [IntKind.wrap,IntKind.signed,IntKind.bits]
 rw [h];split<;>omega
theorem betF_le (l:List Sl) (a b:Int):(betF l a b).1≤9223372036854775807:=by
 unfold betF
 repeat' split
 all_goals first|exact wrap_le _|simp
theorem sOut (h:Hi) (x:Int) (hx:0≤x∧x<(h.ch.length:Int)) (hn:h.ch.length≤1000000) :
  Ctr Tryz.prog 87 [.d (.sl true 1 2 (litRow 1 [.sl false 9 x.toNat (fun i=>dCh (h.ch.getD i default)),.sl false 9 (h.ch.length-(x+1).toNat) (fun i=>dCh (h.ch.getD ((x+1).toNat+i) default))]))] [] (.d (slH (withOut h x).ch)) [] []:=by
 have e1:(x+1).toNat=x.toNat+1:=by omega
 have h0:x.toNat<h.ch.length:=by omega
 have lt:(h.ch.take x.toNat).length=x.toNat:=by rw [List.length_take];omega
 have ld:(h.ch.drop (x.toNat+1)).length=h.ch.length-(x.toNat+1):=by rw [List.length_drop]
 have hc:=sConcatH [h.ch.take x.toNat,h.ch.drop (x.toNat+1)] (fun _=>false) (fun i j=>if i=0 then dCh (h.ch.getD j default) else dCh (h.ch.getD ((x+1).toNat+j) default)) ?_ (by simp) ?_
 ·have ef:[h.ch.take x.toNat,h.ch.drop (x.toNat+1)].flatten=(withOut h x).ch:=by simp [withOut]
  rw [ef] at hc
  refine hc.arg ⟨VLe.sl rfl (fun _=>rfl) (fun _=>rfl) (fun i hi=>?_),trivial⟩
  have:i=0∨i=1:=by omega
  rcases this with rfl|rfl
  ·simp [litRow,lt]
  ·simp [litRow,ld,e1]
 ·intro i j hi hj
  have:i=0∨i=1:=by simp at hi;omega
  rcases this with rfl|rfl
  ·simp only [List.getD_cons_zero] at hj ⊢
   rw [lt] at hj
   rw [if_pos trivial,List.getD_eq_getElem?_getD,List.getD_eq_getElem?_getD,List.getElem?_take_of_lt hj]
  ·simp only [List.getD_cons_succ,List.getD_cons_zero] at hj ⊢
   rw [if_neg (by omega),List.getD_eq_getElem?_getD,List.getD_eq_getElem?_getD,List.getElem?_drop,e1]
 ·simp;omega
set_option maxHeartbeats 2000000 in
theorem sKeptF (hh:Hi) (t:List Vs) (z:SzC hh) (ht:t.length≤1000000) (hz:∀ v,v∈t→SzV v) (hl:∀ x,(ofS (withOut hh x) t).1.length≤9223372036854775807) :
  Ctr Tryz.prog 39 [vHi hh,.ag [.d (slV t)]] [] (.tup [.d (.int .i64 (keptF hh t).1),.d (.int .i64 (keptF hh t).2)]) [] []:=by
 have co:=sOfS hh t z ht hz
 have ct:=sTurn hh (by have:=z.n;omega)
 simp only [vHi,cHi,slC,slH,dCh,slV,dVs,slB,slS,dSl] at co ct
 by_cases h0:(ofS hh t).2=0
 ·have n0:((0:Int) != 0)=false:=rfl
  rw [h0] at co
  cases hx:turnS hh with
  |none =>
   have e:keptF hh t=(0,0):=by rw [keptF,if_neg (by simpa using h0),hx]
   rw [hx] at ct
   simp only [turnV,Option.getD_none,Option.isSome_none] at ct
   rw [e]
   refine ctr_pure Tryz.func39 ok39 rfl cc39 cr39 Tryz.ntmps39 (by simp) rfl rfl ?_;intro c hP hfn;simp only [kc39,vHi,cHi,slC,slH,dCh,slV,dVs,slB,vcd,↓vcp,seval]
   repeat' first|((first|refine tp hP (by first|exact co|exact ct) ?_|refine tg hP (fun _=>by first|exact co|exact ct) ?_|refine tv hP rfl (by first|exact co|exact ct) ?_);try simp only [n0,vcd,↓vcp,seval])|refine ⟨fun h=>?_,fun h=>?_⟩|refine aO ?_|refine aT ?_|fail
   exact RetK.pure (by simp only [rs39,rsb,vcd,↓vcp,seval]) (by (simp only [rs39,rsb,enb,vcd,↓vcp,seval])<;>(first|exact VLe.refl _))
  |some x =>
   obtain ⟨hx0,hx1⟩:=turnS_ok hx
   have hn:=z.n
   rw [hx] at ct
   simp only [turnV,Option.getD_some,Option.isSome_some] at ct
   have b1:(0:Int)≤x∧x<(hh.ch.length:Int):=by omega
   by_cases hk:(hh.ch.getD x.toNat default).kd≠3∨(hh.ch.getD x.toNat default).wy≠1
   ·have e:keptF hh t=(0,0):=by rw [keptF,if_neg (by simpa using h0),hx];simp only [if_pos hk]
    rw [e]
    by_cases hk3:(hh.ch.getD x.toNat default).kd=3
    ·have d3:((hh.ch.getD x.toNat default).kd != 3)=false:=by rw [bne_eq_false_iff_eq];exact hk3
     have d1:((hh.ch.getD x.toNat default).wy != 1)=true:=by rw [bne_iff_ne];rcases hk with h|h;exact absurd hk3 h;exact h
     refine ctr_pure Tryz.func39 ok39 rfl cc39 cr39 Tryz.ntmps39 (by simp) rfl rfl ?_;intro c hP hfn;simp only [kc39,vHi,cHi,slC,slH,dCh,slV,dVs,slB,vcd,↓vcp,seval]
     repeat' first|((first|refine tp hP (by first|exact co|exact ct) ?_|refine tg hP (fun _=>by first|exact co|exact ct) ?_|refine tv hP rfl (by first|exact co|exact ct) ?_);try simp only [n0,d3,d1,vcd,↓vcp,seval])|refine ⟨fun h=>?_,fun h=>?_⟩|refine aO ?_|refine aT ?_|fail
     exact RetK.pure (by simp only [rs39,rsb,vcd,↓vcp,seval]) (by (simp only [rs39,rsb,enb,vcd,↓vcp,seval])<;>(first|exact VLe.refl _))
    ·have d3:((hh.ch.getD x.toNat default).kd != 3)=true:=by rw [bne_iff_ne];exact hk3
     refine ctr_pure Tryz.func39 ok39 rfl cc39 cr39 Tryz.ntmps39 (by simp) rfl rfl ?_;intro c hP hfn;simp only [kc39,vHi,cHi,slC,slH,dCh,slV,dVs,slB,vcd,↓vcp,seval]
     repeat' first|((first|refine tp hP (by first|exact co|exact ct) ?_|refine tg hP (fun _=>by first|exact co|exact ct) ?_|refine tv hP rfl (by first|exact co|exact ct) ?_);try simp only [n0,d3,vcd,↓vcp,seval])|refine ⟨fun h=>?_,fun h=>?_⟩|refine aO ?_|refine aT ?_|fail
     exact RetK.pure (by simp only [rs39,rsb,vcd,↓vcp,seval]) (by (simp only [rs39,rsb,enb,vcd,↓vcp,seval])<;>(first|exact VLe.refl _))
   ·have e:keptF hh t=keptC hh t x:=by rw [keptF,if_neg (by simpa using h0),hx];simp only [if_neg hk]
    have hk3:(hh.ch.getD x.toNat default).kd=3:=by omega
    have hk1:(hh.ch.getD x.toNat default).wy=1:=by omega
    have d3:((hh.ch.getD x.toNat default).kd != 3)=false:=by rw [bne_eq_false_iff_eq];exact hk3
    have d1:((hh.ch.getD x.toNat default).wy != 1)=false:=by rw [bne_eq_false_iff_eq];exact hk1
    have w1:IntKind.i64.wrap (x+1)=x+1:=wI (by omega)
    rw [e]
    have cx:=sOut hh x b1 (by omega)
    have cf:=sOfS (withOut hh x) t (withOut_sz z x) ht hz
    have hl:=hl x
    rw [keptC]
    generalize hL:(ofS (withOut hh x) t).1=L at *
    generalize hE:(ofS (withOut hh x) t).2=e1 at *
    have hw:(withOut hh x).id=hh.id∧(withOut hh x).bk=hh.bk∧(withOut hh x).tm=hh.tm:=⟨rfl,rfl,rfl⟩
    generalize withOut hh x=h2 at *
    obtain ⟨w5,w6,w7⟩:=hw
    simp only [vHi,cHi,slC,slH,dCh,slV,dVs,slB,slS,dSl,w5,w6,w7] at cx cf
    by_cases h1:e1=0
    ·subst h1
     have cb:=sBet L (hh.ch.getD x.toNat default).dy hh.tm.st hl
     have hle:=betF_le L (hh.ch.getD x.toNat default).dy hh.tm.st
     rw [if_neg (by simp)]
     simp only [betR,betV] at cb
     generalize hB:betF L (hh.ch.getD x.toNat default).dy hh.tm.st=B at *
     obtain ⟨bn,be⟩:=B
     simp only at cb hle ⊢
     simp only [vHi,cHi,slC,slH,dCh,slV,dVs,slB,slS,dSl,vS] at cb
     by_cases h3:be=0
     ·subst h3
      have cp:=sBp bn 1000 hle (by omega)
      simp only [if_true] at cb
      rw [if_neg (by simp)]
      refine ctr_pure Tryz.func39 ok39 rfl cc39 cr39 Tryz.ntmps39 (by simp) rfl rfl ?_;intro c hP hfn;simp only [kc39,vHi,cHi,slC,slH,dCh,slV,dVs,slB,vcd,↓vcp,seval]
      repeat' first|((first|refine tp hP (by first|exact co|exact ct|exact cx|exact cf|exact cb|exact cp) ?_|refine tg hP (fun _=>by first|exact co|exact ct|exact cx|exact cf|exact cb|exact cp) ?_|refine tv hP rfl (by first|exact co|exact ct|exact cx|exact cf|exact cb|exact cp) ?_);try simp only [n0,d3,d1,w1,vcd,↓vcp,seval])|refine ⟨fun h=>?_,fun h=>?_⟩|refine aO ?_|refine aT ?_|fail
      exact RetK.pure (by simp only [rs39,rsb,vcd,↓vcp,seval]) (by (simp only [rs39,rsb,enb,vcd,↓vcp,seval])<;>(first|exact VLe.refl _))
     ·have n3:(be != 0)=true:=bne_iff_ne.2 h3
      simp only [if_neg h3] at cb
      rw [if_pos h3]
      refine ctr_pure Tryz.func39 ok39 rfl cc39 cr39 Tryz.ntmps39 (by simp) rfl rfl ?_;intro c hP hfn;simp only [kc39,vHi,cHi,slC,slH,dCh,slV,dVs,slB,vcd,↓vcp,seval]
      repeat' first|((first|refine tp hP (by first|exact co|exact ct|exact cx|exact cf|exact cb) ?_|refine tg hP (fun _=>by first|exact co|exact ct|exact cx|exact cf|exact cb) ?_|refine tv hP rfl (by first|exact co|exact ct|exact cx|exact cf|exact cb) ?_);try simp only [n0,d3,d1,w1,n3,vcd,↓vcp,seval])|refine ⟨fun h=>?_,fun h=>?_⟩|refine aO ?_|refine aT ?_|fail
      exact RetK.pure (by simp only [rs39,rsb,vcd,↓vcp,seval]) (by (simp only [rs39,rsb,enb,vcd,↓vcp,seval])<;>(first|exact VLe.refl _))
    ·have n3:(e1 != 0)=true:=bne_iff_ne.2 h1
     rw [if_pos h1]
     refine ctr_pure Tryz.func39 ok39 rfl cc39 cr39 Tryz.ntmps39 (by simp) rfl rfl ?_;intro c hP hfn;simp only [kc39,vHi,cHi,slC,slH,dCh,slV,dVs,slB,vcd,↓vcp,seval]
     repeat' first|((first|refine tp hP (by first|exact co|exact ct|exact cx|exact cf) ?_|refine tg hP (fun _=>by first|exact co|exact ct|exact cx|exact cf) ?_|refine tv hP rfl (by first|exact co|exact ct|exact cx|exact cf) ?_);try simp only [n0,d3,d1,w1,n3,vcd,↓vcp,seval])|refine ⟨fun h=>?_,fun h=>?_⟩|refine aO ?_|refine aT ?_|fail
     exact RetK.pure (by simp only [rs39,rsb,vcd,↓vcp,seval]) (by (simp only [rs39,rsb,enb,vcd,↓vcp,seval])<;>(first|exact VLe.refl _))
 ·have n1:((ofS hh t).2 != 0)=true:=bne_iff_ne.2 h0
  have e:keptF hh t=(0,(ofS hh t).2):=by rw [keptF,if_pos h0]
  rw [e]
  refine ctr_pure Tryz.func39 ok39 rfl cc39 cr39 Tryz.ntmps39 (by simp) rfl rfl ?_;intro c hP hfn;simp only [kc39,vHi,cHi,slC,slH,dCh,slV,dVs,slB,vcd,↓vcp,seval]
  repeat' first|((first|refine tp hP (by exact co) ?_|refine tg hP (fun _=>by exact co) ?_|refine tv hP rfl (by exact co) ?_);try simp only [n1,vcd,↓vcp,seval])|refine ⟨fun h=>?_,fun h=>?_⟩|refine aO ?_|refine aT ?_|fail
  exact RetK.pure (by simp only [rs39,rsb,vcd,↓vcp,seval]) (by (simp only [rs39,rsb,enb,vcd,↓vcp,seval])<;>(first|exact VLe.refl _))
end Go.Proofs.YtanppabbmffokaaGreat
end
section
namespace Go.Proofs.YtanppabbmffokaaGreat
open Go.Bx
set_option maxRecDepth 10000
theorem sCloneVO (l:List Vs) (hl:l.length≤1000000):Ctr Tryz.prog 62 [.d (slV l)] [] (.osl 900) [(900,rowVs l)] [900]:=by
 have hb:l.length*120≤140737488355328∧l.length≤maxLen:=⟨by omega,by simp only [maxLen];omega⟩
 refine ctr_own Tryz.func62 ok62 rfl cc62 cr62 Tryz.ntmps62 (by simp) rfl ?_
 intro c hP hfn
 simp only [kc62,slV,namesL,V.names,ownNames,vcd,↓vcp,seval]
 refine ⟨fun h=>?_,?_⟩
 ·have h0:l=[]:=List.eq_nil_of_length_eq_zero h
  subst h0
  exact RetK.mk _ (Wk.row0 (s:=2) (k:=900) (e:=75) (sz:=9) (f':=fun i=>dVs (([]:List Vs).getD i default)) rfl rfl (by simp)) (by simp only [rs62,rsb,vcd,↓vcp,seval]) (by simp only [rs62,rsb,enb,vcd,↓vcp,seval]) (by simp only [rowVs,enb,vcd,↓vcp,seval])
 ·repeat' first|refine ⟨fun h=>?_,fun h=>?_⟩|refine aO ?_|refine aT ?_|fail
  refine RetK.mk _ (Wk.sw 7 900 _ hfn (by simp [namesL,V.names,ownNames]) (by simp [namesL,V.names,ownNames])) (by simp only [rs62,rsb,vcd,↓vcp,seval]) (by simp only [rs62,rsb,enb,vcd,↓vcp,seval]) ?_
  simp only [rowVs,enb,vcd,↓vcp,seval]
theorem sInsEnd (l:List Vs) (v:Vs) (hl:l.length≤1000) :
  Ctr Tryz.prog 61 [.osl 900,.d (.int .i64 (l.length:Int)),.d (.sl true 9 1 (litRow 9 (dVs v)))] [(900,rowVs l)] (.osl 7) [(7,rowVs (insV l l.length v))] [7]:=by
 have hroom:(l.length+1)*120≤140737488355328∧l.length+1≤maxLen:=⟨by omega,by simp only [maxLen];omega⟩
 have e:insV l l.length v=l++[v]:=by simp [insV]
 rw [e]
 refine ctr_own Tryz.func61 ok61 rfl cc61 cr61 Tryz.ntmps61 (by simp) rfl ?_
 intro c hP hfn
 have n1:((1:Int) == 0)=false:=rfl
 have n2:((l.length:Int) == (l.length:Int))=true:=by simp
 simp only [kc61,rowVs,namesL,V.names,ownNames,n1,n2,vcd,↓vcp,seval]
 repeat' first|refine ⟨fun h=>?_,fun h=>?_⟩|refine aO ?_|refine aT ?_|fail
 refine RetK.mk _ (Wk.sw 25 7 _ hfn (by simp [namesL,V.names,ownNames,rowVs]) (by simp [namesL,V.names,ownNames,rowVs])) (by simp only [rs61,rsb,vcd,↓vcp,seval]) (by simp only [rs61,rsb,enb,vcd,↓vcp,seval]) ?_
 simp only [enb,vcd,↓vcp,seval]
 exact OLe.app1 dVs (fun i hi=>by rw [if_pos hi]) (by simp [litRow,dVs])
theorem sInsV (l:List Vs) (v:Vs) (k:Nat) (hk:k≤l.length) (hl:l.length≤1000) :
  Ctr Tryz.prog 61 [.osl 900,.d (.int .i64 (k:Int)),.d (.sl true 9 1 (litRow 9 (dVs v)))] [(900,rowVs l)] (.osl 7) [(7,rowVs (insV l k v))] [7]:=by
 by_cases h:k<l.length
 ·exact sInsLo l v k h hl
 ·obtain rfl:k=l.length:=by omega
  exact sInsEnd l v hl
def plV (l:List Vs) (v:Vs):Nat:=bsW (cmpV l v.fr) 0 l.length
def thV (l:List Vs) (v:Vs):Bool:=decide (plV l v<l.length)&&(cmpV l v.fr (plV l v) == 0)
def putT (l:List Vs) (v:Vs):List Vs×Int:=
 if rightT l=false∨rightV v=false then ([],1) else if thV l v=true then ([],8) else if l.length=100 then ([],2) else (insV l (plV l v) v,0)
set_option maxHeartbeats 2000000 in
theorem sPutT (l:List Vs) (v:Vs) (hl:l.length≤100) (hz:∀ v,v∈l→SzV v) (hv:SzV v) :
  Ctr Tryz.prog 23 [.ag [.d (slV l)],vV v] [] (.tup [.ag [.d (slV (putT l v).1)],.d (.int .i64 (putT l v).2)]) [] []:=by
 have cr:=sRightT l hl hz
 have cv:=sVersion v hv.short
 have ng:(true=false)=False:=by simp
 simp only [slV,dVs] at cr
 simp only [vV,cV,slB,slK] at cv
 cases hr:rightT l with
 |false =>
  have e:putT l v=([],1):=by rw [putT,if_pos (.inl hr)]
  rw [e]
  rw [hr] at cr
  refine ctr_pure Tryz.func23 ok23 rfl cc23 cr23 Tryz.ntmps23 (by simp) rfl rfl ?_;intro c hP hfn;simp only [kc23,slV,dVs,vV,cV,slB,slK,vcd,↓vcp,seval]
  repeat' first|((first|refine tp hP (by exact cr) ?_|refine tg hP (fun _=>by exact cr) ?_|refine tv hP rfl (by exact cr) ?_);try simp only [vcd,↓vcp,seval])|refine ⟨fun h=>?_,fun h=>?_⟩|refine aO ?_|refine aT ?_|fail
  refine TR.gp (gc:=false) (res:=.d (.bool false)) hP rfl (fun h=>by cases h) (fun h=>by cases h) ?_
  simp only [vcd,↓vcp,seval]
  repeat' first|refine ⟨fun h=>?_,fun h=>?_⟩|refine aO ?_|refine aT ?_|fail
  refine RetK.pure (by simp only [rs23,rsb,vcd,↓vcp,seval]) ?_
  simp only [rs23,rsb,vcd,↓vcp,seval]
  exact VLe.tups ⟨VLe.ags ⟨vle_nil,trivial⟩,VLe.refl _,trivial⟩
 |true =>
 rw [hr] at cr
 cases hrv:rightV v with
 |false =>
  have e:putT l v=([],1):=by rw [putT,if_pos (.inr hrv)]
  rw [e]
  rw [hrv] at cv
  refine ctr_pure Tryz.func23 ok23 rfl cc23 cr23 Tryz.ntmps23 (by simp) rfl rfl ?_;intro c hP hfn;simp only [kc23,slV,dVs,vV,cV,slB,slK,vcd,↓vcp,seval]
  repeat' first|((first|refine tp hP (by first|exact cr|exact cv) ?_|refine tg hP (fun _=>by first|exact cr|exact cv) ?_|refine tv hP rfl (by first|exact cr|exact cv) ?_);try simp only [vcd,↓vcp,seval])|refine ⟨fun h=>?_,fun h=>?_⟩|refine aO ?_|refine aT ?_|fail
  refine RetK.pure (by simp only [rs23,rsb,vcd,↓vcp,seval]) ?_
  simp only [rs23,rsb,vcd,↓vcp,seval]
  exact VLe.tups ⟨VLe.ags ⟨vle_nil,trivial⟩,VLe.refl _,trivial⟩
 |true =>
 rw [hrv] at cv
 have cs:=sSearchV l v.fr (by omega)
 have e1:bsW (cmpV l v.fr) 0 l.length=plV l v:=rfl
 rw [e1] at cs
 have e2:(decide (plV l v<l.length)&&(cmpV l v.fr (plV l v) == 0))=thV l v:=rfl
 rw [e2] at cs
 simp only [slV,dVs,slB,slK] at cs
 have hK:=bsW_le (cmpV l v.fr) l.length 0 l.length (by omega) (Nat.zero_le _)
 rw [e1] at hK
 cases ht:thV l v with
 |true =>
  have e:putT l v=([],8):=by rw [putT,if_neg (by rw [hr,hrv];simp),if_pos ht]
  rw [e]
  rw [ht] at cs
  refine ctr_pure Tryz.func23 ok23 rfl cc23 cr23 Tryz.ntmps23 (by simp) rfl rfl ?_;intro c hP hfn;simp only [kc23,slV,dVs,vV,cV,slB,slK,vcd,↓vcp,seval]
  repeat' first|((first|refine tp hP (by first|exact cr|exact cv|exact cs) ?_|refine tg hP (fun _=>by first|exact cr|exact cv|exact cs) ?_|refine tv hP rfl (by first|exact cr|exact cv|exact cs) ?_);try simp only [vcd,↓vcp,seval])|refine ⟨fun h=>?_,fun h=>?_⟩|refine aO ?_|refine aT ?_|fail
  refine RetK.pure (by simp only [rs23,rsb,vcd,↓vcp,seval]) ?_
  simp only [rs23,rsb,vcd,↓vcp,seval]
  exact VLe.tups ⟨VLe.ags ⟨vle_nil,trivial⟩,VLe.refl _,trivial⟩
 |false =>
 rw [ht] at cs
 by_cases h100:l.length=100
 ·have e:putT l v=([],2):=by rw [putT,if_neg (by rw [hr,hrv];simp),if_neg (by rw [ht];simp),if_pos h100]
  have d0:((l.length:Int) == 100)=true:=by rw [beq_iff_eq];omega
  rw [e]
  refine ctr_pure Tryz.func23 ok23 rfl cc23 cr23 Tryz.ntmps23 (by simp) rfl rfl ?_;intro c hP hfn;simp only [kc23,slV,dVs,vV,cV,slB,slK,vcd,↓vcp,seval]
  repeat' first|((first|refine tp hP (by first|exact cr|exact cv|exact cs) ?_|refine tg hP (fun _=>by first|exact cr|exact cv|exact cs) ?_|refine tv hP rfl (by first|exact cr|exact cv|exact cs) ?_);try simp only [d0,vcd,↓vcp,seval])|refine ⟨fun h=>?_,fun h=>?_⟩|refine aO ?_|refine aT ?_|fail
  refine RetK.pure (by simp only [rs23,rsb,vcd,↓vcp,seval]) ?_
  simp only [rs23,rsb,vcd,↓vcp,seval]
  exact VLe.tups ⟨VLe.ags ⟨vle_nil,trivial⟩,VLe.refl _,trivial⟩
 ·have e:putT l v=(insV l (plV l v) v,0):=by rw [putT,if_neg (by rw [hr,hrv];simp),if_neg (by rw [ht];simp),if_neg h100]
  have d0:((l.length:Int) == 100)=false:=by rw [beq_eq_false_iff_ne];omega
  have cc:=sCloneVO l (by omega)
  have ci:=(sInsV l v (plV l v) hK.2 (by omega)).sw 7 1001
  have hil:=insV_len (v:=v) hK.2
  have hiz:∀ x,x∈insV l (plV l v) v→SzV x:=fun x hx=>by
   rw [insV] at hx
   rcases List.mem_append.1 hx with h|h
   ·exact hz x (List.mem_of_mem_take h)
   ·rcases List.mem_cons.1 h with rfl|h
    ·exact hv
    ·exact hz x (List.mem_of_mem_drop h)
  rw [e]
  generalize plV l v=K at *
  generalize insV l K v=L at *
  simp only [slV,dVs,slB,slK,rowVs,vcd,↓vcp,seval] at cc ci
  refine ctr_pure Tryz.func23 ok23 rfl cc23 cr23 Tryz.ntmps23 (by simp) rfl rfl ?_;intro c hP hfn;simp only [kc23,slV,dVs,vV,cV,slB,slK,vcd,↓vcp,seval]
  repeat' first|((first|refine tp hP (by first|exact cr|exact cv|exact cs) ?_|refine tg hP (fun _=>by first|exact cr|exact cv|exact cs) ?_|refine tv hP rfl (by first|exact cr|exact cv|exact cs) ?_);try simp only [d0,vcd,↓vcp,seval])|refine ⟨fun h=>?_,fun h=>?_⟩|refine aO ?_|refine aT ?_|fail
  refine TR.call [] [(900,rowVs l)] (.osl 900) [900] (by rw [hP];exact cc) (by repeat' first|exact trivial|(intro _;assumption)|apply And.intro) (fun k o h=>by simp at h) (by simp [keysO]) (by simp) ?_
  simp only [rowVs,dVs,slB,slK,vcd,↓vcp,seval]
  repeat' first|refine ⟨fun h=>?_,fun h=>?_⟩|refine aO ?_|refine aT ?_|fail
  refine TR.call [(900,rowVs l)] [(1001,rowVs L)] (.osl 1001) [1001] (by rw [hP];exact ci) (by repeat' first|exact trivial|(intro _;assumption)|apply And.intro) (hin1 rfl) (by simp [keysO]) (by simp) ?_
  simp only [rowVs,dVs,slB,slK,vcd,↓vcp,seval]
  repeat' first|refine ⟨fun h=>?_,fun h=>?_⟩|refine aO ?_|refine aT ?_|fail
  refine vcC.loop (X:=Nat) (fun k=>⟨[(8,.osl 1000),(4,.own 4 0),(43,.osl 1001),(44,.d (.int .i64 L.length)),(45,.d (.int .i64 k))],[(1000,rowVs (L.take k)),(4,.fix [.d (.sl true 0 0 fun _=>[])]),(1001,rowVs L)],[1000,4,1001]⟩)
   (fun k=>k≤L.length) (fun k=>L.length-k) 0 (Nat.zero_le _) ?_ ?_
  ·refine (Wk.row0 (s:=8) (k:=1000) (e:=75) (sz:=9) (f':=fun _=>[]) rfl rfl (by simp)).trans (Wk.of _ hfn rfl ?_ ?_)
   ·simp only [enb,vcd,↓vcp,seval]
   ·simp only [rowVs,dVs,slB,slK,List.take_zero,enb,vcd,↓vcp,seval];exact OLe.row rfl (fun i hi=>absurd hi (Nat.not_lt_zero i))
  intro k hk
  by_cases hlt:k<L.length
  ·obtain ⟨x,-,hg,hm,hat⟩:=drop_at hlt
   have hg:=hg default
   have d1:decide ((k:Int)<(L.length:Int))=true:=decide_eq_true (by omega)
   have w1:IntKind.i64.wrap ((k:Int)+1)=((k+1:Nat):Int):=wS (by omega)
   have b1:(0:Int)≤(k:Int)∧(k:Int)<(L.length:Int):=by omega
   have co:=sOwnV x (hiz x hm)
   simp only [vV,cV,slB,slK] at co
   have htl:(L.take k).length≤1000:=by rw [List.length_take];omega
   have hroom:((L.take k).length+1)*120≤140737488355328∧(L.take k).length+1≤maxLen:=⟨by omega,by simp only [maxLen];omega⟩
   have hsa:L.take (k+1)=L.take k++[x]:=by rw [List.take_add_one,hat];rfl
   generalize L.take k=B at *
   simp only [rowVs,dVs,slB,slK,d1,hg,vcd,↓vcp,seval]
   repeat' first|((first|refine tp hP (by exact co) ?_|refine tg hP (fun _=>by exact co) ?_|refine tv hP rfl (by exact co) ?_);try simp only [d1,hg,w1,vcd,↓vcp,seval])|refine ⟨fun h=>?_,fun h=>?_⟩|refine aO ?_|refine aT ?_|fail
   refine lopK.on (k+1) (by omega) (by omega) ((Wk.sw 53 1000 _ hfn (by simp) (by simp)).trans (Wk.of _ hfn rfl (by simp only [w1,enb,vcd,↓vcp,seval]) ?_))
   simp only [rowVs,dVs,slB,slK,hsa,enb,vcd,↓vcp,seval]
   exact OLe.app1 dVs (fun i hi=>by rw [if_pos hi];rfl) (by simp [litRow,dVs,slB,slK])
  ·obtain rfl:k=L.length:=by omega
   have d1:decide ((L.length:Int)<(L.length:Int))=false:=decide_eq_false (by omega)
   rw [List.take_length]
   simp only [rowVs,dVs,slB,slK,d1,vcd,↓vcp,seval]
   repeat' first|refine ⟨fun h=>?_,fun h=>?_⟩|refine aO ?_|refine aT ?_|fail
   refine RetK.mk _ (Wk.pub 1000 rfl) (by simp only [rs23,rsb,vcd,↓vcp,seval]) ?_ trivial
   simp only [rs23,rsb,vcd,↓vcp,seval]
   exact VLe.refl _
end Go.Proofs.YtanppabbmffokaaGreat
end
section
namespace Go.Proofs.YtanppabbmffokaaGreat
open Go.Bx
set_option maxRecDepth 10000
theorem ofS_len {h:Hi} {t:List Vs} (z:SzC h):(ofS h t).1.length≤9223372036854775807:=by
 have h1:=(cutS_ok z).1
 have h2:=z.n
 unfold ofS
 repeat' split
 all_goals simp
 omega
theorem sKept2 (hh:Hi) (t:List Vs) (z:SzC hh) (ht:t.length≤1000000) (hz:∀ v,v∈t→SzV v) :
  Ctr Tryz.prog 39 [vHi hh,.ag [.d (slV t)]] [] (.tup [.d (.int .i64 (keptF hh t).1),.d (.int .i64 (keptF hh t).2)]) [] []:=sKeptF hh t z ht hz fun x=>ofS_len (withOut_sz z x)
def dueF (h:Hi) (t:List Vs):Int×Int:=
 if (keptF h t).2≠0 then (0,(keptF h t).2) else
 if (uptoF (ofS h t).1 292195).2≠0 then (0,(uptoF (ofS h t).1 292195).2) else
 if (uptoF (ofS h t).1 292195).1>IntKind.i64.wrap (4000000000000000000-(keptF h t).1) then (0,5) else (IntKind.i64.wrap ((uptoF (ofS h t).1 292195).1+(keptF h t).1),0)
set_option maxHeartbeats 2000000 in
theorem sDueF (hh:Hi) (t:List Vs) (z:SzC hh) (ht:t.length≤1000000) (hz:∀ v,v∈t→SzV v) :
  Ctr Tryz.prog 11 [vHi hh,.ag [.d (slV t)]] [] (.tup [.d (.int .i64 (dueF hh t).1),.d (.int .i64 (dueF hh t).2)]) [] []:=by
 have ck:=sKept2 hh t z ht hz
 have co:=sOfS hh t z ht hz
 have cw:=sWritten (ofS hh t).1 (ofS_len z)
 rw [dueF]
 generalize keptF hh t=K at *
 generalize ofS hh t=L at *
 generalize uptoF L.1 292195=U at *
 obtain ⟨k,ke⟩:=K
 obtain ⟨L,le⟩:=L
 obtain ⟨u,ue⟩:=U
 simp only [vHi,cHi,slC,slH,dCh,slV,dVs,slB,slS,dSl] at ck co cw
 by_cases h1:ke=0
 ·subst h1
  have n0:((0:Int) != 0)=false:=rfl
  rw [if_neg (by simp)]
  by_cases h2:ue=0
  ·subst h2
   rw [if_neg (by simp)]
   generalize hw:IntKind.i64.wrap (4000000000000000000-k)=m at *
   by_cases h3:u>m
   ·have d3:decide (u>m)=true:=decide_eq_true h3
    rw [if_pos h3]
    refine ctr_pure Tryz.func11 ok11 rfl cc11 cr11 Tryz.ntmps11 (by simp) rfl rfl ?_;intro c hP hfn;simp only [kc11,vHi,cHi,slC,slH,dCh,slV,dVs,slB,vcd,↓vcp,seval]
    repeat' first|((first|refine tp hP (by first|exact ck|exact co|exact cw) ?_|refine tg hP (fun _=>by first|exact ck|exact co|exact cw) ?_|refine tv hP rfl (by first|exact ck|exact co|exact cw) ?_);try simp only [n0,hw,d3,vcd,↓vcp,seval])|refine ⟨fun h=>?_,fun h=>?_⟩|refine aO ?_|refine aT ?_|fail
    exact RetK.pure (by simp only [rs11,rsb,vcd,↓vcp,seval]) (by (simp only [rs11,rsb,enb,vcd,↓vcp,seval])<;>(first|exact VLe.refl _))
   ·have d3:decide (u>m)=false:=decide_eq_false h3
    rw [if_neg h3]
    refine ctr_pure Tryz.func11 ok11 rfl cc11 cr11 Tryz.ntmps11 (by simp) rfl rfl ?_;intro c hP hfn;simp only [kc11,vHi,cHi,slC,slH,dCh,slV,dVs,slB,vcd,↓vcp,seval]
    repeat' first|((first|refine tp hP (by first|exact ck|exact co|exact cw) ?_|refine tg hP (fun _=>by first|exact ck|exact co|exact cw) ?_|refine tv hP rfl (by first|exact ck|exact co|exact cw) ?_);try simp only [n0,hw,d3,vcd,↓vcp,seval])|refine ⟨fun h=>?_,fun h=>?_⟩|refine aO ?_|refine aT ?_|fail
    exact RetK.pure (by simp only [rs11,rsb,vcd,↓vcp,seval]) (by (simp only [rs11,rsb,enb,vcd,↓vcp,seval])<;>(first|exact VLe.refl _))
  ·have n1:(ue != 0)=true:=bne_iff_ne.2 h2
   rw [if_pos h2]
   refine ctr_pure Tryz.func11 ok11 rfl cc11 cr11 Tryz.ntmps11 (by simp) rfl rfl ?_;intro c hP hfn;simp only [kc11,vHi,cHi,slC,slH,dCh,slV,dVs,slB,vcd,↓vcp,seval]
   repeat' first|((first|refine tp hP (by first|exact ck|exact co|exact cw) ?_|refine tg hP (fun _=>by first|exact ck|exact co|exact cw) ?_|refine tv hP rfl (by first|exact ck|exact co|exact cw) ?_);try simp only [n0,n1,vcd,↓vcp,seval])|refine ⟨fun h=>?_,fun h=>?_⟩|refine aO ?_|refine aT ?_|fail
   exact RetK.pure (by simp only [rs11,rsb,vcd,↓vcp,seval]) (by (simp only [rs11,rsb,enb,vcd,↓vcp,seval])<;>(first|exact VLe.refl _))
 ·have n1:(ke != 0)=true:=bne_iff_ne.2 h1
  rw [if_pos h1]
  refine ctr_pure Tryz.func11 ok11 rfl cc11 cr11 Tryz.ntmps11 (by simp) rfl rfl ?_;intro c hP hfn;simp only [kc11,vHi,cHi,slC,slH,dCh,slV,dVs,slB,vcd,↓vcp,seval]
  repeat' first|((first|refine tp hP (by exact ck) ?_|refine tg hP (fun _=>by exact ck) ?_|refine tv hP rfl (by exact ck) ?_);try simp only [n1,vcd,↓vcp,seval])|refine ⟨fun h=>?_,fun h=>?_⟩|refine aO ?_|refine aT ?_|fail
  exact RetK.pure (by simp only [rs11,rsb,vcd,↓vcp,seval]) (by (simp only [rs11,rsb,enb,vcd,↓vcp,seval])<;>(first|exact VLe.refl _))
def givenF (h:Hi) (t:List Vs) (c:Ch):Int×Int:=
 if (putC h c).2≠0 then (0,(putC h c).2) else
 if (dueF h t).2≠0 then (0,(dueF h t).2) else
 if (dueF (putC h c).1 t).2≠0 then (0,(dueF (putC h c).1 t).2) else
  (IntKind.i64.wrap ((dueF h t).1-(dueF (putC h c).1 t).1),0)
theorem putC_sz {h:Hi} {c:Ch} (z:SzC h) (hc:c.cv.length≤1000000):SzC (putC h c).1:=by
 have z0:SzC zHi:=⟨by simp [zHi],by simp [zHi],fun c h=>by simp [zHi] at h⟩
 rw [putC]
 by_cases h1:(rightCh c&&inT h.tm c.dy)=false
 ·rw [if_pos h1];exact z0
 ·rw [if_neg h1]
  by_cases h2:c.bk<lastB h
  ·rw [if_pos h2];exact z0
  ·rw [if_neg h2]
   by_cases h3:h.ch.length≥2000
   ·rw [if_pos h3];exact z0
   ·rw [if_neg h3]
    refine ⟨z.t,by simp;omega,fun x hx=>?_⟩
    simp only [List.mem_append,List.mem_singleton] at hx
    rcases hx with hx|rfl
    ·exact z.c x hx
    ·exact hc
set_option maxHeartbeats 2000000 in
theorem sGivenF (hh:Hi) (t:List Vs) (c':Ch) (z:SzC hh) (ht:t.length≤1000000) (hz:∀ v,v∈t→SzV v) (hcv:c'.cv.length≤1000000) :
  Ctr Tryz.prog 12 [vHi hh,.ag [.d (slV t)],vCh c'] [] (.tup [.d (.int .i64 (givenF hh t c').1),.d (.int .i64 (givenF hh t c').2)]) [] []:=by
 have cp:=sPutC hh c' z.t hcv (by have:=z.n;omega)
 have cd:=sDueF hh t z ht hz
 have ce:=sDueF (putC hh c').1 t (putC_sz z hcv) ht hz
 rw [givenF]
 generalize putC hh c'=X at *
 obtain ⟨X,xe⟩:=X
 simp only at ce ⊢
 generalize dueF hh t=D1 at *
 generalize dueF X t=D2 at *
 obtain ⟨d1,de1⟩:=D1
 obtain ⟨d2,de2⟩:=D2
 simp only [vHi,cHi,vCh,cCh,slC,slH,dCh,slV,dVs,slB] at cp cd ce
 by_cases h1:xe=0
 ·subst h1
  have n0:((0:Int) != 0)=false:=rfl
  rw [if_neg (by simp)]
  by_cases h2:de1=0
  ·subst h2
   rw [if_neg (by simp)]
   by_cases h3:de2=0
   ·subst h3
    rw [if_neg (by simp)]
    refine ctr_pure Tryz.func12 ok12 rfl cc12 cr12 Tryz.ntmps12 (by simp) rfl rfl ?_;intro c hP hfn;simp only [kc12,vHi,cHi,vCh,cCh,slC,slH,dCh,slV,dVs,slB,vcd,↓vcp,seval]
    repeat' first|((first|refine tp hP (by first|exact cp|exact cd|exact ce) ?_|refine tg hP (fun _=>by first|exact cp|exact cd|exact ce) ?_|refine tv hP rfl (by first|exact cp|exact cd|exact ce) ?_);try simp only [n0,vcd,↓vcp,seval])|refine ⟨fun h=>?_,fun h=>?_⟩|refine aO ?_|refine aT ?_|fail
    exact RetK.pure (by simp only [rs12,rsb,vcd,↓vcp,seval]) (by (simp only [rs12,rsb,enb,vcd,↓vcp,seval])<;>(first|exact VLe.refl _))
   ·have n1:(de2 != 0)=true:=bne_iff_ne.2 h3
    rw [if_pos h3]
    refine ctr_pure Tryz.func12 ok12 rfl cc12 cr12 Tryz.ntmps12 (by simp) rfl rfl ?_;intro c hP hfn;simp only [kc12,vHi,cHi,vCh,cCh,slC,slH,dCh,slV,dVs,slB,vcd,↓vcp,seval]
    repeat' first|((first|refine tp hP (by first|exact cp|exact cd|exact ce) ?_|refine tg hP (fun _=>by first|exact cp|exact cd|exact ce) ?_|refine tv hP rfl (by first|exact cp|exact cd|exact ce) ?_);try simp only [n0,n1,vcd,↓vcp,seval])|refine ⟨fun h=>?_,fun h=>?_⟩|refine aO ?_|refine aT ?_|fail
    exact RetK.pure (by simp only [rs12,rsb,vcd,↓vcp,seval]) (by (simp only [rs12,rsb,enb,vcd,↓vcp,seval])<;>(first|exact VLe.refl _))
  ·have n1:(de1 != 0)=true:=bne_iff_ne.2 h2
   rw [if_pos h2]
   refine ctr_pure Tryz.func12 ok12 rfl cc12 cr12 Tryz.ntmps12 (by simp) rfl rfl ?_;intro c hP hfn;simp only [kc12,vHi,cHi,vCh,cCh,slC,slH,dCh,slV,dVs,slB,vcd,↓vcp,seval]
   repeat' first|((first|refine tp hP (by first|exact cp|exact cd) ?_|refine tg hP (fun _=>by first|exact cp|exact cd) ?_|refine tv hP rfl (by first|exact cp|exact cd) ?_);try simp only [n0,n1,vcd,↓vcp,seval])|refine ⟨fun h=>?_,fun h=>?_⟩|refine aO ?_|refine aT ?_|fail
   exact RetK.pure (by simp only [rs12,rsb,vcd,↓vcp,seval]) (by (simp only [rs12,rsb,enb,vcd,↓vcp,seval])<;>(first|exact VLe.refl _))
 ·have n1:(xe != 0)=true:=bne_iff_ne.2 h1
  rw [if_pos h1]
  refine ctr_pure Tryz.func12 ok12 rfl cc12 cr12 Tryz.ntmps12 (by simp) rfl rfl ?_;intro c hP hfn;simp only [kc12,vHi,cHi,vCh,cCh,slC,slH,dCh,slV,dVs,slB,vcd,↓vcp,seval]
  repeat' first|((first|refine tp hP (by exact cp) ?_|refine tg hP (fun _=>by exact cp) ?_|refine tv hP rfl (by exact cp) ?_);try simp only [n1,vcd,↓vcp,seval])|refine ⟨fun h=>?_,fun h=>?_⟩|refine aO ?_|refine aT ?_|fail
  exact RetK.pure (by simp only [rs12,rsb,vcd,↓vcp,seval]) (by (simp only [rs12,rsb,enb,vcd,↓vcp,seval])<;>(first|exact VLe.refl _))
end Go.Proofs.YtanppabbmffokaaGreat
end
section
namespace Go.Proofs.YtanppabbmffokaaGreat
open Go.Bx
set_option maxRecDepth 10000
def fewC (l:List Ch):Bool:=l.all (fun c=>decide (c.cv.length≤50))
def fewV (t:List Vs):Bool:=t.all (fun v=>decide (v.age.length≤200)&&(decide (v.zn.length≤200)&&decide (v.pr.length≤200)))
def fewF (h:Hi) (t:List Vs):Bool:=decide (h.ch.length≤60)&&(decide (t.length≤100)&&(decide (h.tm.cv.length≤50)&&(fewC h.ch&&fewV t)))
theorem fewC_drop {l:List Ch} {k:Nat} {x:Ch} (h:l.drop k=x::l.drop (k+1)):fewC (l.drop k)=(decide (x.cv.length≤50)&&fewC (l.drop (k+1))):=by
 rw [h];rfl
theorem fewV_drop {l:List Vs} {k:Nat} {x:Vs} (h:l.drop k=x::l.drop (k+1)):fewV (l.drop k)=((decide (x.age.length≤200)&&(decide (x.zn.length≤200)&&decide (x.pr.length≤200)))&&fewV (l.drop (k+1))):=by
 rw [h];rfl
set_option maxHeartbeats 2000000 in
theorem sFew (hh:Hi) (t:List Vs) (h1:hh.ch.length≤9223372036854775807) (h2:t.length≤9223372036854775807):Ctr Tryz.prog 35 [vHi hh,.ag [.d (slV t)]] [] (.d (.bool (fewF hh t))) [] []:=by
 by_cases a1:hh.ch.length≤60
 ·have d1:decide (((hh.ch.length:Nat):Int)>60)=false:=decide_eq_false (by omega)
  by_cases a2:t.length≤100
  ·have d2:decide (((t.length:Nat):Int)>100)=false:=decide_eq_false (by omega)
   by_cases a3:hh.tm.cv.length≤50
   ·have d3:decide (((hh.tm.cv.length:Nat):Int)>50)=false:=decide_eq_false (by omega)
    have e:fewF hh t=(fewC hh.ch&&fewV t):=by rw [fewF,decide_eq_true a1,decide_eq_true a2,decide_eq_true a3];rfl
    rw [e]
    refine ctr_pure Tryz.func35 ok35 rfl cc35 cr35 Tryz.ntmps35 (by simp) rfl rfl ?_;intro c hP hfn;simp only [kc35,vHi,cHi,slC,slH,dCh,slV,dVs,slB,d1,d2,d3,vcd,↓vcp,seval]
    repeat' first|refine ⟨fun h=>?_,fun h=>?_⟩|refine aO ?_|refine aT ?_|fail
    refine vcC.loop (X:=Nat) (fun k=>⟨[(2,.own 2 0),(3,.own 3 0),(5,.d (.int .i64 k))],[(2,.fix (cHi hh)),(3,.fix [.d (slV t)])],[2,3]⟩)
     (fun k=>k≤hh.ch.length∧fewC hh.ch=fewC (hh.ch.drop k)) (fun k=>hh.ch.length-k) 0 ⟨Nat.zero_le _,rfl⟩ (Wk.of _ hfn rfl (by simp only [enb,vcd,↓vcp,seval]) (by simp only [cHi,slC,slH,dCh,slV,dVs,slB,enb,vcd,↓vcp,seval])) ?_
    rintro k ⟨hk,he⟩
    by_cases hlt:k<hh.ch.length
    ·obtain ⟨x,hd,hg,-,-⟩:=drop_at hlt
     have hg:=hg default
     have b0:decide ((k:Int)<(hh.ch.length:Int))=true:=decide_eq_true (by omega)
     have b1:(0:Int)≤(k:Int)∧(k:Int)<(hh.ch.length:Int):=by omega
     have ewk:IntKind.i64.wrap ((k:Int)+1)=((k+1:Nat):Int):=wS (by omega)
     rw [fewC_drop hd] at he
     by_cases hx:x.cv.length≤50
     ·have d4:decide (((x.cv.length:Nat):Int)>50)=false:=decide_eq_false (by omega)
      rw [decide_eq_true hx,Bool.true_and] at he
      simp only [cHi,slC,slH,dCh,slV,dVs,slB,b0,hg,d4,ewk,vcd,↓vcp,seval]
      repeat' first|refine ⟨fun h=>?_,fun h=>?_⟩|refine aO ?_|refine aT ?_|fail
      exact lopK.on (k+1) ⟨hlt,he⟩ (by omega) (Wk.of _ hfn rfl (by simp only [ewk,enb,vcd,↓vcp,seval]) (by simp only [cHi,slC,slH,dCh,slV,dVs,slB,enb,vcd,↓vcp,seval]))
     ·have d4:decide (((x.cv.length:Nat):Int)>50)=true:=decide_eq_true (by omega)
      rw [decide_eq_false hx,Bool.false_and] at he
      simp only [cHi,slC,slH,dCh,slV,dVs,slB,b0,hg,d4,ewk,he,vcd,↓vcp,seval]
      repeat' first|refine ⟨fun h=>?_,fun h=>?_⟩|refine aO ?_|refine aT ?_|fail
      exact RetK.pure (by simp only [rs35,rsb,vcd,↓vcp,seval]) (by (simp only [rs35,rsb,enb,vcd,↓vcp,seval])<;>(first|exact VLe.refl _))
    ·have b0:decide ((k:Int)<(hh.ch.length:Int))=false:=decide_eq_false (by omega)
     have e1:fewC hh.ch=true:=by rw [he,List.drop_eq_nil_of_le (by omega)];rfl
     rw [e1,Bool.true_and]
     simp only [cHi,slC,slH,dCh,slV,dVs,slB,b0,vcd,↓vcp,seval]
     repeat' first|refine ⟨fun h=>?_,fun h=>?_⟩|refine aO ?_|refine aT ?_|fail
     refine vcC.loop (X:=Nat) (fun k=>⟨[(3,.own 3 0),(6,.d (.int .i64 k))],[(3,.fix [.d (slV t)])],[2,3]⟩)
      (fun k=>k≤t.length∧fewV t=fewV (t.drop k)) (fun k=>t.length-k) 0 ⟨Nat.zero_le _,rfl⟩ (Wk.of _ hfn rfl (by simp only [enb,vcd,↓vcp,seval]) (by simp only [slV,dVs,slB,enb,vcd,↓vcp,seval])) ?_
     rintro k ⟨hk,he⟩
     by_cases hlt:k<t.length
     ·obtain ⟨x,hd,hg,-,-⟩:=drop_at hlt
      have hg:=hg default
      have b0:decide ((k:Int)<(t.length:Int))=true:=decide_eq_true (by omega)
      have b1:(0:Int)≤(k:Int)∧(k:Int)<(t.length:Int):=by omega
      have ewk:IntKind.i64.wrap ((k:Int)+1)=((k+1:Nat):Int):=wS (by omega)
      rw [fewV_drop hd] at he
      by_cases hx:x.age.length≤200
      ·have d4:decide (((x.age.length:Nat):Int)>200)=false:=decide_eq_false (by omega)
       by_cases hy:x.zn.length≤200
       ·have d5:decide (((x.zn.length:Nat):Int)>200)=false:=decide_eq_false (by omega)
        by_cases hz:x.pr.length≤200
        ·have d6:decide (((x.pr.length:Nat):Int)>200)=false:=decide_eq_false (by omega)
         rw [decide_eq_true hx,decide_eq_true hy,decide_eq_true hz] at he
         simp only [slK,slV,dVs,slB,b0,hg,d4,d5,d6,ewk,vcd,↓vcp,seval]
         repeat' first|refine ⟨fun h=>?_,fun h=>?_⟩|refine aO ?_|refine aT ?_|fail
         exact lopK.on (k+1) ⟨hlt,he⟩ (by omega) (Wk.of _ hfn rfl (by simp only [ewk,enb,vcd,↓vcp,seval]) (by simp only [slK,slV,dVs,slB,enb,vcd,↓vcp,seval]))
        ·have d6:decide (((x.pr.length:Nat):Int)>200)=true:=decide_eq_true (by omega)
         rw [decide_eq_true hx,decide_eq_true hy,decide_eq_false hz] at he
         rw [show fewV t=false from he]
         simp only [slK,slV,dVs,slB,b0,hg,d4,d5,d6,ewk,vcd,↓vcp,seval]
         repeat' first|refine ⟨fun h=>?_,fun h=>?_⟩|refine aO ?_|refine aT ?_|fail
         exact RetK.pure (by simp only [rs35,rsb,vcd,↓vcp,seval]) (by (simp only [rs35,rsb,enb,vcd,↓vcp,seval])<;>(first|exact VLe.refl _))
       ·have d5:decide (((x.zn.length:Nat):Int)>200)=true:=decide_eq_true (by omega)
        rw [decide_eq_true hx,decide_eq_false hy] at he
        rw [show fewV t=false from he]
        simp only [slK,slV,dVs,slB,b0,hg,d4,d5,ewk,vcd,↓vcp,seval]
        repeat' first|refine ⟨fun h=>?_,fun h=>?_⟩|refine aO ?_|refine aT ?_|fail
        exact RetK.pure (by simp only [rs35,rsb,vcd,↓vcp,seval]) (by (simp only [rs35,rsb,enb,vcd,↓vcp,seval])<;>(first|exact VLe.refl _))
      ·have d4:decide (((x.age.length:Nat):Int)>200)=true:=decide_eq_true (by omega)
       rw [decide_eq_false hx] at he
       rw [show fewV t=false from he]
       simp only [slK,slV,dVs,slB,b0,hg,d4,ewk,vcd,↓vcp,seval]
       repeat' first|refine ⟨fun h=>?_,fun h=>?_⟩|refine aO ?_|refine aT ?_|fail
       exact RetK.pure (by simp only [rs35,rsb,vcd,↓vcp,seval]) (by (simp only [rs35,rsb,enb,vcd,↓vcp,seval])<;>(first|exact VLe.refl _))
     ·have b0:decide ((k:Int)<(t.length:Int))=false:=decide_eq_false (by omega)
      have e1:fewV t=true:=by rw [he,List.drop_eq_nil_of_le (by omega)];rfl
      rw [e1]
      simp only [slV,dVs,slB,b0,vcd,↓vcp,seval]
      repeat' first|refine ⟨fun h=>?_,fun h=>?_⟩|refine aO ?_|refine aT ?_|fail
      exact RetK.pure (by simp only [rs35,rsb,vcd,↓vcp,seval]) (by (simp only [rs35,rsb,enb,vcd,↓vcp,seval])<;>(first|exact VLe.refl _))
   ·have d3:decide (((hh.tm.cv.length:Nat):Int)>50)=true:=decide_eq_true (by omega)
    have e:fewF hh t=false:=by rw [fewF,decide_eq_true a1,decide_eq_true a2,decide_eq_false a3];rfl
    rw [e]
    refine ctr_pure Tryz.func35 ok35 rfl cc35 cr35 Tryz.ntmps35 (by simp) rfl rfl ?_;intro c hP hfn;simp only [kc35,vHi,cHi,slC,slH,dCh,slV,dVs,slB,d1,d2,d3,vcd,↓vcp,seval]
    repeat' first|refine ⟨fun h=>?_,fun h=>?_⟩|refine aO ?_|refine aT ?_|fail
    exact RetK.pure (by simp only [rs35,rsb,vcd,↓vcp,seval]) (by (simp only [rs35,rsb,enb,vcd,↓vcp,seval])<;>(first|exact VLe.refl _))
  ·have d2:decide (((t.length:Nat):Int)>100)=true:=decide_eq_true (by omega)
   have e:fewF hh t=false:=by rw [fewF,decide_eq_true a1,decide_eq_false a2];rfl
   rw [e]
   refine ctr_pure Tryz.func35 ok35 rfl cc35 cr35 Tryz.ntmps35 (by simp) rfl rfl ?_;intro c hP hfn;simp only [kc35,vHi,cHi,slC,slH,dCh,slV,dVs,slB,d1,d2,vcd,↓vcp,seval]
   repeat' first|refine ⟨fun h=>?_,fun h=>?_⟩|refine aO ?_|refine aT ?_|fail
   exact RetK.pure (by simp only [rs35,rsb,vcd,↓vcp,seval]) (by (simp only [rs35,rsb,enb,vcd,↓vcp,seval])<;>(first|exact VLe.refl _))
 ·have d1:decide (((hh.ch.length:Nat):Int)>60)=true:=decide_eq_true (by omega)
  have e:fewF hh t=false:=by rw [fewF,decide_eq_false a1];rfl
  rw [e]
  refine ctr_pure Tryz.func35 ok35 rfl cc35 cr35 Tryz.ntmps35 (by simp) rfl rfl ?_;intro c hP hfn;simp only [kc35,vHi,cHi,slC,slH,dCh,slV,dVs,slB,d1,vcd,↓vcp,seval]
  repeat' first|refine ⟨fun h=>?_,fun h=>?_⟩|refine aO ?_|refine aT ?_|fail
  exact RetK.pure (by simp only [rs35,rsb,vcd,↓vcp,seval]) (by (simp only [rs35,rsb,enb,vcd,↓vcp,seval])<;>(first|exact VLe.refl _))
theorem sPFew (hh:Hi) (t:List Vs) (x:Ch) (h1:hh.ch.length≤9223372036854775807) (h2:t.length≤9223372036854775807):Ctr Tryz.prog 9 [vHi hh,.ag [.d (slV t)],vCh x] [] (.d (.bool (fewF hh t&&decide (x.cv.length≤50)))) [] []:=by
 have cf:=sFew hh t h1 h2
 simp only [vHi,cHi,slC,slH,dCh,slV,dVs,slB] at cf
 have e:decide (((x.cv.length:Nat):Int)≤50)=decide (x.cv.length≤50):=by rw [decide_eq_decide];omega
 generalize fewF hh t=f at *
 cases f <;>
 ·refine ctr_pure Tryz.func9 ok9 rfl cc9 cr9 Tryz.ntmps9 (by simp) rfl rfl ?_;intro c hP hfn;simp only [kc9,vHi,cHi,vCh,cCh,slC,slH,dCh,slV,dVs,slB,e,vcd,↓vcp,seval]
  repeat' first|((first|refine tp hP (by exact cf) ?_|refine tg hP (fun _=>by exact cf) ?_|refine tv hP rfl (by exact cf) ?_);try simp only [e,vcd,↓vcp,seval])|refine ⟨fun h=>?_,fun h=>?_⟩|refine aO ?_|refine aT ?_|fail
  exact RetK.pure (by simp only [rs9,rsb,vcd,↓vcp,seval]) (by (simp only [rs9,rsb,enb,vcd,↓vcp,seval])<;>(first|simp [e]))
set_option maxHeartbeats 2000000 in
theorem rSame10 (a b:List Cv) (ha:a.length≤9223372036854775806):Ctr Tryz.prog 141 [.d (slC a),.d (slC b)] [] (.d (.bool (decide (a=b)))) [] []:=by
 by_cases hl:a.length=b.length
 ·have d0:(((a.length:Int) != (b.length:Int)))=false:=by rw [bne_eq_false_iff_eq];omega
  refine ctr_pure Tryz.func141 ok141 rfl cc141 cr141 Tryz.ntmps141 (by simp) rfl rfl ?_;intro c hP hfn;simp only [kc141,slC,d0,vcd,↓vcp,seval]
  repeat' first|refine ⟨fun h=>?_,fun h=>?_⟩|refine aO ?_|refine aT ?_|fail
  refine vcC.loop (X:=Nat) (fun k=>⟨[(0,.d (slC a)),(1,.d (slC b)),(5,.d (.int .i64 k))],[],[]⟩)
   (fun k=>k≤a.length∧∀ j,j<k→a.getD j default=b.getD j default) (fun k=>a.length-k) 0 ⟨Nat.zero_le _,fun j hj=>absurd hj (Nat.not_lt_zero j)⟩ (Wk.of _ hfn rfl (by simp only [slC,enb,vcd,↓vcp,seval]) (by simp only [enb,vcd,↓vcp,seval])) ?_
  rintro k ⟨hk,he⟩
  by_cases hlt:k<a.length
  ·obtain ⟨x,hd,hg,-,-⟩:=drop_at hlt
   obtain ⟨y,hd2,hg2,-,-⟩:=drop_at (l:=b) (k:=k) (by omega)
   have b0:decide ((k:Int)<(a.length:Int))=true:=decide_eq_true (by omega)
   have ewk:IntKind.i64.wrap ((k:Int)+1)=((k+1:Nat):Int):=wS (by omega)
   simp only [slC,hg,hg2,b0,ewk,vcd,↓vcp,seval]
   repeat' first|refine ⟨fun h=>?_,fun h=>?_⟩|refine aO ?_|refine aT ?_|fail
   ·have hx:eqCv x y=false:=by rw [eqCv,←Bool.not_eq_true'];exact h
    have:a≠b:=by
     intro e
     rw [eqCv_iff.2 (by rw [←hg default,←hg2 default,e])] at hx
     exact absurd hx (by decide)
    exact RetK.pure (by simp only [rs141,rsb,vcd,↓vcp,seval]) (by (simp only [rs141,rsb,enb,vcd,↓vcp,seval])<;>(first|simp [this]))
   ·have hx:x=y:=eqCv_iff.1 (by rw [eqCv,←Bool.not_eq_false'];exact h)
    refine lopK.on (k+1) ⟨hlt,fun j hj=>?_⟩ (by omega) (Wk.of _ hfn rfl (by simp only [enb,vcd,↓vcp,seval]) (by simp only [enb,vcd,↓vcp,seval]))
    rcases Nat.lt_succ_iff_lt_or_eq.1 hj with h1|h1
    ·exact he j h1
    ·rw [h1,hg,hg2,hx]
  ·have b0:decide ((k:Int)<(a.length:Int))=false:=decide_eq_false (by omega)
   have:a=b:=by
    apply List.ext_getElem hl
    intro j h1 h2
    have:=he j (by omega)
    simpa [List.getD_eq_getElem?_getD,h1,h2] using this
   simp only [slC,b0,vcd,↓vcp,seval]
   repeat' first|refine ⟨fun h=>?_,fun h=>?_⟩|refine aO ?_|refine aT ?_|fail
   exact RetK.pure (by simp only [rs141,rsb,vcd,↓vcp,seval]) (by (simp only [rs141,rsb,enb,vcd,↓vcp,seval])<;>(first|simp [this]))
 ·have d0:(((a.length:Int) != (b.length:Int)))=true:=by rw [bne_iff_ne];omega
  have:a≠b:=fun e=>hl (by rw [e])
  refine ctr_pure Tryz.func141 ok141 rfl cc141 cr141 Tryz.ntmps141 (by simp) rfl rfl ?_;intro c hP hfn;simp only [kc141,slC,d0,vcd,↓vcp,seval]
  repeat' first|refine ⟨fun h=>?_,fun h=>?_⟩|refine aO ?_|refine aT ?_|fail
  exact RetK.pure (by simp only [rs141,rsb,vcd,↓vcp,seval]) (by (simp only [rs141,rsb,enb,vcd,↓vcp,seval])<;>(first|simp [this]))
def likeB (a b:Sl):Bool:=(a.on == b.on)&&(eqRk a.rk b.rk&&decide (a.cv=b.cv))
theorem rLike12 (a b:Sl) (ha:a.cv.length≤9223372036854775806):Ctr Tryz.prog 99 [vSl a,vSl b] [] (.d (.bool (likeB a b))) [] []:=by
 have cs:=rSame10 a.cv b.cv ha
 simp only [slC] at cs
 rw [likeB]
 generalize decide (a.cv=b.cv)=f at *
 by_cases h1:a.on=b.on
 ·have d1:(a.on == b.on)=true:=by rw [beq_iff_eq];exact h1
  by_cases h2:eqRk a.rk b.rk=true
  ·have d2:=h2
   rw [eqRk] at d2
   refine ctr_pure Tryz.func99 ok99 rfl cc99 cr99 Tryz.ntmps99 (by simp) rfl rfl ?_;intro c hP hfn;simp only [kc99,vSl,cSl,slC,d1,d2,vcd,↓vcp,seval]
   repeat' first|((first|refine tp hP (by exact cs) ?_|refine tg hP (fun _=>by exact cs) ?_|refine tv hP rfl (by exact cs) ?_);try simp only [d1,d2,vcd,↓vcp,seval])|refine ⟨fun h=>?_,fun h=>?_⟩|refine aO ?_|refine aT ?_|fail
   exact RetK.pure (by simp only [rs99,rsb,vcd,↓vcp,seval]) (by (simp only [rs99,rsb,enb,vcd,↓vcp,seval])<;>(first|simp [h1,h2]))
  ·have d2:eqRk a.rk b.rk=false:=by simpa using h2
   have h2:=d2
   rw [eqRk] at d2
   refine ctr_pure Tryz.func99 ok99 rfl cc99 cr99 Tryz.ntmps99 (by simp) rfl rfl ?_;intro c hP hfn;simp only [kc99,vSl,cSl,slC,d1,d2,vcd,↓vcp,seval]
   repeat' first|((first|refine tp hP (by exact cs) ?_|refine tg hP (fun _=>by exact cs) ?_|refine tv hP rfl (by exact cs) ?_);try simp only [d1,d2,vcd,↓vcp,seval])|refine ⟨fun h=>?_,fun h=>?_⟩|refine aO ?_|refine aT ?_|fail
   exact RetK.pure (by simp only [rs99,rsb,vcd,↓vcp,seval]) (by (simp only [rs99,rsb,enb,vcd,↓vcp,seval])<;>(first|simp [h1,h2]))
 ·have d1:(a.on == b.on)=false:=by rw [beq_eq_false_iff_ne];exact h1
  refine ctr_pure Tryz.func99 ok99 rfl cc99 cr99 Tryz.ntmps99 (by simp) rfl rfl ?_;intro c hP hfn;simp only [kc99,vSl,cSl,slC,d1,vcd,↓vcp,seval]
  repeat' first|((first|refine tp hP (by exact cs) ?_|refine tg hP (fun _=>by exact cs) ?_|refine tv hP rfl (by exact cs) ?_);try simp only [d1,vcd,↓vcp,seval])|refine ⟨fun h=>?_,fun h=>?_⟩|refine aO ?_|refine aT ?_|fail
  exact RetK.pure (by simp only [rs99,rsb,vcd,↓vcp,seval]) (by (simp only [rs99,rsb,enb,vcd,↓vcp,seval])<;>(first|simp [h1]))
def same12 (a b:Sl):Bool:=((a.sf == b.sf)&&(a.st == b.st))&&((a.yr == b.yr)&&likeB a b)
theorem rSame12 (a b:Sl) (ha:a.cv.length≤9223372036854775806):Ctr Tryz.prog 56 [vSl a,vSl b] [] (.d (.bool (same12 a b))) [] []:=by
 have cs:=rLike12 a b ha
 simp only [vSl,cSl,slC] at cs
 rw [same12]
 generalize likeB a b=f at *
 cases d1:((a.sf == b.sf)&&(a.st == b.st)) with
 |false =>
  refine ctr_pure Tryz.func56 ok56 rfl cc56 cr56 Tryz.ntmps56 (by simp) rfl rfl ?_;intro c hP hfn;simp only [kc56,vSl,cSl,slC,d1,vcd,↓vcp,seval]
  repeat' first|((first|refine tp hP (by exact cs) ?_|refine tg hP (fun _=>by exact cs) ?_|refine tv hP rfl (by exact cs) ?_);try simp only [d1,vcd,↓vcp,seval])|refine ⟨fun h=>?_,fun h=>?_⟩|refine aO ?_|refine aT ?_|fail
  exact RetK.pure (by simp only [rs56,rsb,vcd,↓vcp,seval]) (by (simp only [rs56,rsb,enb,vcd,↓vcp,seval])<;>(first|simp))
 |true =>
  cases d2:(a.yr == b.yr) with
  |false =>
   refine ctr_pure Tryz.func56 ok56 rfl cc56 cr56 Tryz.ntmps56 (by simp) rfl rfl ?_;intro c hP hfn;simp only [kc56,vSl,cSl,slC,d1,d2,vcd,↓vcp,seval]
   repeat' first|((first|refine tp hP (by exact cs) ?_|refine tg hP (fun _=>by exact cs) ?_|refine tv hP rfl (by exact cs) ?_);try simp only [d1,d2,vcd,↓vcp,seval])|refine ⟨fun h=>?_,fun h=>?_⟩|refine aO ?_|refine aT ?_|fail
   exact RetK.pure (by simp only [rs56,rsb,vcd,↓vcp,seval]) (by (simp only [rs56,rsb,enb,vcd,↓vcp,seval])<;>(first|simp))
  |true =>
   refine ctr_pure Tryz.func56 ok56 rfl cc56 cr56 Tryz.ntmps56 (by simp) rfl rfl ?_;intro c hP hfn;simp only [kc56,vSl,cSl,slC,d1,d2,vcd,↓vcp,seval]
   repeat' first|((first|refine tp hP (by exact cs) ?_|refine tg hP (fun _=>by exact cs) ?_|refine tv hP rfl (by exact cs) ?_);try simp only [d1,d2,vcd,↓vcp,seval])|refine ⟨fun h=>?_,fun h=>?_⟩|refine aO ?_|refine aT ?_|fail
   exact RetK.pure (by simp only [rs56,rsb,vcd,↓vcp,seval]) (by (simp only [rs56,rsb,enb,vcd,↓vcp,seval])<;>(first|simp))
theorem same12_iff {a b:Sl}:same12 a b=true↔a=b:=by
 obtain ⟨a1,a2,a3,a4,a5,a6⟩:=a
 obtain ⟨b1,b2,b3,b4,b5,b6⟩:=b
 simp only [same12,likeB,Bool.and_eq_true,eqRk_iff,beq_iff_eq,decide_eq_true_eq,Sl.mk.injEq]
 constructor
 ·rintro ⟨⟨h1,h2⟩,h3,h4,h5,h6⟩;exact ⟨h1,h2,h4,h5,h6,h3⟩
 ·rintro ⟨h1,h2,h4,h5,h6,h3⟩;exact ⟨⟨h1,h2⟩,h3,h4,h5,h6⟩
instance:DecidableEq Sl:=fun a b=>decidable_of_iff (same12 a b=true) same12_iff
set_option maxHeartbeats 2000000 in
theorem rAll (a b:List Sl) (ha:a.length≤9223372036854775806) (hc:∀ s,s∈a→s.cv.length≤9223372036854775806):Ctr Tryz.prog 22 [.d (slS a),.d (slS b)] [] (.d (.bool (decide (a=b)))) [] []:=by
 by_cases hl:a.length=b.length
 ·have d0:(((a.length:Int) != (b.length:Int)))=false:=by rw [bne_eq_false_iff_eq];omega
  refine ctr_pure Tryz.func22 ok22 rfl cc22 cr22 Tryz.ntmps22 (by simp) rfl rfl ?_;intro c hP hfn;simp only [kc22,slS,dSl,slC,d0,vcd,↓vcp,seval]
  repeat' first|refine ⟨fun h=>?_,fun h=>?_⟩|refine aO ?_|refine aT ?_|fail
  refine vcC.loop (X:=Nat) (fun k=>⟨[(0,.d (slS a)),(1,.d (slS b)),(5,.d (.int .i64 k))],[],[]⟩)
   (fun k=>k≤a.length∧∀ j,j<k→a.getD j default=b.getD j default) (fun k=>a.length-k) 0 ⟨Nat.zero_le _,fun j hj=>absurd hj (Nat.not_lt_zero j)⟩ (Wk.of _ hfn rfl (by simp only [slS,dSl,slC,enb,vcd,↓vcp,seval]) (by simp only [enb,vcd,↓vcp,seval])) ?_
  rintro k ⟨hk,he⟩
  by_cases hlt:k<a.length
  ·obtain ⟨x,hd,hg,hm,-⟩:=drop_at hlt
   obtain ⟨y,hd2,hg2,-,-⟩:=drop_at (l:=b) (k:=k) (by omega)
   have b0:decide ((k:Int)<(a.length:Int))=true:=decide_eq_true (by omega)
   have ewk:IntKind.i64.wrap ((k:Int)+1)=((k+1:Nat):Int):=wS (by omega)
   have cs:=rSame12 x y (hc x hm)
   simp only [vSl,cSl,slC] at cs
   by_cases hx:x=y
   ·rw [same12_iff.2 hx] at cs
    simp only [slS,dSl,slC,hg,hg2,b0,ewk,vcd,↓vcp,seval]
    repeat' first|((first|refine tp hP (by exact cs) ?_|refine tg hP (fun _=>by exact cs) ?_|refine tv hP rfl (by exact cs) ?_);try simp only [hg,hg2,ewk,vcd,↓vcp,seval])|refine ⟨fun h=>?_,fun h=>?_⟩|refine aO ?_|refine aT ?_|fail
    refine lopK.on (k+1) ⟨hlt,fun j hj=>?_⟩ (by omega) (Wk.of _ hfn rfl (by simp only [slS,dSl,slC,ewk,enb,vcd,↓vcp,seval]) (by simp only [enb,vcd,↓vcp,seval]))
    rcases Nat.lt_succ_iff_lt_or_eq.1 hj with h1|h1
    ·exact he j h1
    ·rw [h1,hg,hg2,hx]
   ·have hx2:same12 x y=false:=by rw [←Bool.not_eq_true,same12_iff];exact hx
    rw [hx2] at cs
    have:a≠b:=by
     intro e
     exact hx (by rw [←hg default,←hg2 default,e])
    simp only [slS,dSl,slC,hg,hg2,b0,ewk,vcd,↓vcp,seval]
    repeat' first|((first|refine tp hP (by exact cs) ?_|refine tg hP (fun _=>by exact cs) ?_|refine tv hP rfl (by exact cs) ?_);try simp only [hg,hg2,ewk,vcd,↓vcp,seval])|refine ⟨fun h=>?_,fun h=>?_⟩|refine aO ?_|refine aT ?_|fail
    exact RetK.pure (by simp only [rs22,rsb,vcd,↓vcp,seval]) (by (simp only [rs22,rsb,enb,vcd,↓vcp,seval])<;>(first|simp [this]))
  ·have b0:decide ((k:Int)<(a.length:Int))=false:=decide_eq_false (by omega)
   have:a=b:=by
    apply List.ext_getElem hl
    intro j h1 h2
    have:=he j (by omega)
    simpa [List.getD_eq_getElem?_getD,h1,h2] using this
   simp only [slS,dSl,slC,b0,vcd,↓vcp,seval]
   repeat' first|refine ⟨fun h=>?_,fun h=>?_⟩|refine aO ?_|refine aT ?_|fail
   exact RetK.pure (by simp only [rs22,rsb,vcd,↓vcp,seval]) (by (simp only [rs22,rsb,enb,vcd,↓vcp,seval])<;>(first|simp [this]))
 ·have d0:(((a.length:Int) != (b.length:Int)))=true:=by rw [bne_iff_ne];omega
  have:a≠b:=fun e=>hl (by rw [e])
  refine ctr_pure Tryz.func22 ok22 rfl cc22 cr22 Tryz.ntmps22 (by simp) rfl rfl ?_;intro c hP hfn;simp only [kc22,slS,dSl,slC,d0,vcd,↓vcp,seval]
  repeat' first|refine ⟨fun h=>?_,fun h=>?_⟩|refine aO ?_|refine aT ?_|fail
  exact RetK.pure (by simp only [rs22,rsb,vcd,↓vcp,seval]) (by (simp only [rs22,rsb,enb,vcd,↓vcp,seval])<;>(first|simp [this]))
end Go.Proofs.YtanppabbmffokaaGreat
end
section
namespace Go.Proofs.YtanppabbmffokaaGreat
open Go.Bx
set_option maxRecDepth 10000
def DLe (x y:D):Prop:=∀ E w v,RelD E w v x→RelD E w v y
theorem DLe.refl (x:D):DLe x x:=fun _ _ _ h=>h
theorem DLe.v {x y:D} (h:DLe x y):VLe (.d x) (.d y):=fun β E w v hv=>by
 cases hv with
 |d _ _ hv=>exact .d _ _ (h _ _ _ hv)
def DsLe:List D→List D→Prop
 |[],[]=>True
 |x::xs,y::ys=>DLe x y∧DsLe xs ys
 |_,_=>False
theorem DsLe.get:∀ {xs ys:List D},DsLe xs ys→xs.length=ys.length∧∀ (j:Nat) (y:D),ys[j]?=some y→∃ x,xs[j]?=some x∧DLe x y
 |[],[],_=>⟨rfl,fun j y h=>by simp at h⟩
 |x::xs,y::ys,h=>by
  obtain ⟨e,hr⟩:=DsLe.get h.2
  refine ⟨by simp [e],fun j b hb=>?_⟩
  cases j with
  |zero=>simp at hb;subst hb;exact ⟨x,rfl,h.1⟩
  |succ j=>simpa using hr j b (by simpa using hb)
 |[],_::_,h=>h.elim
 |_::_,[],h=>h.elim
theorem DLe.sl {full full':Bool} {sz sz' n n':Nat} {f f':Nat→List D} (hn:n=n') (hz:0<n→sz=sz') (hb:full'=true→full=true) (hf:∀ i,i<n→DsLe (f i) (f' i)):DLe (.sl full sz n f) (.sl full' sz' n' f'):=by
 subst hn
 intro E w v hv
 cases hv with
 |nil _ _ _ _=>exact .nil _ _ _ _
 |sl _ _ _ _ b off c g hc hfu hl hcell hrel =>
  rcases Nat.eq_zero_or_pos n with h0|h0
  ·subst h0
   exact .sl _ _ _ _ b off c g hc (fun h=>hfu (hb h)) (fun i hi=>by omega) (fun i j hi=>by omega) (fun i j hi=>by omega)
  ·have:=hz h0
   subst this
   refine .sl _ _ _ _ b off c g hc (fun h=>hfu (hb h)) (fun i hi=>((hf i hi).get.1).symm.trans (hl i hi)) hcell (fun i j hi hj x hx=>?_)
   obtain ⟨y,h1,h2⟩:=(hf i hi).get.2 j x hx
   exact h2 _ _ _ (hrel i j hi hj y h1)
def pV:Vs:=⟨1,10000,0,0,0,[],[10000],[10000,10000,10000,10000,10000,10000,10000,10000],0⟩
def pH:Hi:=⟨1,1,⟨1,101,⟨0,36500,0,0⟩,[⟨1,10,10,0,10000⟩]⟩,[]⟩
def pC:Ch:=⟨5,41,3,⟨0,0,0,0⟩,[],0⟩
def pS:List Sl:=[⟨1,101,true,⟨0,36500,0,0⟩,[⟨1,10,10,0,10000⟩],36500⟩]
def pB:List Bl:=[⟨1,5000,0⟩,⟨182,5000,0⟩]
theorem sPolicy:Ctr Tryz.prog 33 [] [] (.tup [vHi pH,.ag [.d (slV [pV])]]) [] []:=by
 refine ctr_pure Tryz.func33 ok33 rfl cc33 cr33 Tryz.ntmps33 (by simp) rfl rfl ?_;intro c hP hfn;simp only [kc33,vcd,↓vcp,seval]
 repeat' first|refine ⟨fun h=>?_,fun h=>?_⟩|refine aO ?_|refine aT ?_|fail
 have n0:∀ {sz:Nat} {f g:Nat→List D},DLe (.sl true 0 0 f) (.sl false sz 0 g):=DLe.sl rfl (fun h=>by omega) (fun h=>by cases h) (fun i hi=>by omega)
 refine RetK.pure (by simp only [rs33,rsb,vcd,↓vcp,seval]) ?_
 simp only [rs33,rsb,vcd,↓vcp,seval]
 refine VLe.tups ⟨VLe.ags ⟨VLe.refl _,VLe.refl _,VLe.refl _,VLe.refl _,VLe.refl _,VLe.refl _,VLe.refl _,VLe.refl _,DLe.v (DLe.sl rfl (fun _=>rfl) (fun h=>by cases h) (fun i hi=>?_)),DLe.v n0,trivial⟩,VLe.ags ⟨DLe.v (DLe.sl rfl (fun _=>rfl) (fun h=>by cases h) (fun i hi=>?_)),trivial⟩,trivial⟩
 ·obtain rfl:i=0:=by omega
  exact ⟨DLe.refl _,DLe.refl _,DLe.refl _,DLe.refl _,DLe.refl _,trivial⟩
 ·obtain rfl:i=0:=by omega
  refine ⟨DLe.refl _,DLe.refl _,DLe.refl _,DLe.refl _,DLe.refl _,n0,DLe.sl rfl (fun _=>rfl) (fun h=>by cases h) (fun i hi=>?_),DLe.sl rfl (fun _=>rfl) (fun h=>by cases h) (fun i hi=>?_),DLe.refl _,trivial⟩
  ·obtain rfl:i=0:=by omega
   exact ⟨DLe.refl _,trivial⟩
  ·rcases i with _|_|_|_|_|_|_|_|i<;>first|exact ⟨DLe.refl _,trivial⟩|omega
set_option maxHeartbeats 2000000 in
theorem sAlive:Ctr Tryz.prog 8 [] [] (.d (.bool true)) [] []:=by
 have hz:SzC pH:=⟨by decide,by decide,fun c h=>by simp [pH] at h⟩
 have hv:∀ v,v∈[pV]→SzV v:=fun v h=>by
  rw [List.mem_singleton] at h;subst h
  exact ⟨by decide,by decide,by decide⟩
 have k0:=sPolicy
 have k1:=sDueF pH [pV] hz (by decide) hv
 rw [show dueF pH [pV]=(10000,0) by decide +kernel] at k1
 have k2:=sOfS pH [pV] hz (by decide) hv
 rw [show ofS pH [pV]=(pS,0) by decide +kernel] at k2
 have k3:=sUptoF pS 41 (by decide)
 rw [show uptoF pS 41=(4000,0) by decide +kernel] at k3
 have k4:=sGivenF pH [pV] pC hz (by decide) hv (by decide)
 rw [show givenF pH [pV] pC=(6000,0) by decide +kernel] at k4
 have k5:=sPlan 10000 1 101 2
 rw [show planR 10000 1 101 2=(pB,0) by decide +kernel] at k5
 have k6:=rSame pB pB (by decide) (by decide)
 rw [decide_eq_true rfl] at k6
 have k7:Ctr Tryz.prog 34 [.d (slL pB),.d (.sl true 3 2 (litRow 3 [.int .i64 1,.int .i64 5000,.int .i64 0,.int .i64 182,.int .i64 5000,.int .i64 0]))] [] (.d (.bool true)) [] []:=
  k6.arg ⟨VLe.refl _,VLe_slL rfl (by intro i hi;rcases i with _|_|i<;>first|rfl|omega),trivial⟩
 have k8:Ctr Tryz.prog 12 [vHi pH,.ag [.d (slV [pV])],.ag [.d (.int .i64 5),.d (.int .i64 41),.d (.int .i64 3),.d (.int .i64 0),.d (.int .i64 0),.d (.int .i64 0),.d (.int .i64 0),.d (.sl true 0 0 fun _=>[]),.d (.int .i64 0)]] [] (.tup [.d (.int .i64 6000),.d (.int .i64 0)]) [] []:=
  k4.arg ⟨VLe.refl _,VLe.refl _,VLe.ags ⟨VLe.refl _,VLe.refl _,VLe.refl _,VLe.refl _,VLe.refl _,VLe.refl _,VLe.refl _,vle_nil,VLe.refl _,trivial⟩,trivial⟩
 have b1:∀ i:Int,(i == i)=true:=fun i=>by simp
 obtain ⟨h1,h2,h3,h4,h5,h6,h7⟩:pH.id=1∧pH.bk=1∧pH.tm.sf=1∧pH.tm.st=101∧pH.tm.rk=⟨0,36500,0,0⟩∧pH.tm.cv=pH.tm.cv∧pH.ch=pH.ch:=⟨rfl,rfl,rfl,rfl,rfl,rfl,rfl⟩
 simp only [vHi,cHi,h1,h2,h3,h4,h5] at k0 k1 k2 k8
 simp only [vS] at k5
 generalize slV [pV]=t at *
 generalize slH pH.ch=z at *
 generalize slC pH.tm.cv=y at *
 generalize slS pS=x at *
 refine ctr_pure Tryz.func8 ok8 rfl cc8 cr8 Tryz.ntmps8 (by simp) rfl rfl ?_;intro c hP hfn;simp only [kc8,vcd,↓vcp,seval]
 repeat' first|((first|refine tp hP (by first|exact k0|exact k1|exact k2|exact k3|exact k8|exact k5|exact k7) ?_|refine tg hP (fun _=>by first|exact k0|exact k1|exact k2|exact k3|exact k8|exact k5|exact k7) ?_|refine tv hP rfl (by first|exact k0|exact k1|exact k2|exact k3|exact k8|exact k5|exact k7) ?_);try simp only [b1,Int.reduceBEq,vcd,↓vcp,seval])|refine ⟨fun h=>?_,fun h=>?_⟩|refine aO ?_|refine aT ?_|fail
 all_goals exact RetK.pure (by simp only [rs8,rsb,vcd,↓vcp,seval]) (by (simp only [rs8,rsb,enb,vcd,↓vcp,seval])<;>(first|exact VLe.refl _))
end Go.Proofs.YtanppabbmffokaaGreat
end
section
namespace Go.Proofs.YtanppabbmffokaaGreat
open Go.Bx
set_option maxRecDepth 10000
def zChT:Ch:=⟨0,0,0,⟨0,0,0,0⟩,[],0⟩
theorem few_szT {h:Hi} {t:List Vs} (e:fewF h t=true):SzC h∧t.length≤100∧∀ v,v∈t→SzV v:=by
 simp only [fewF,fewC,fewV,Bool.and_eq_true,decide_eq_true_eq,List.all_eq_true] at e
 obtain ⟨h1,h2,h3,h4,h5⟩:=e
 refine ⟨⟨by omega,by omega,fun c hc=>by have:=h4 c hc;omega⟩,h2,fun v hv=>?_⟩
 have:=h5 v hv
 exact ⟨by omega,by omega,by omega⟩
theorem atV_ins {l:List Vs} {k:Nat} {v:Vs} {d:Int} (h:d<v.fr):atV (insV l k v) d=atV l d:=by
 have e:l.reverse=(l.drop k).reverse++(l.take k).reverse:=by rw [←List.reverse_append,List.take_append_drop]
 have hv:decide (v.fr≤d)=false:=decide_eq_false (by omega)
 rw [atV,atV,e,insV,List.reverse_append,List.reverse_cons,List.find?_append,List.find?_append,List.find?_append]
 simp [hv]
theorem ofS_ins {h:Hi} {l:List Vs} {k:Nat} {v:Vs} (hv:h.tm.sf<v.fr):ofS h (insV l k v)=ofS h l:=by
 rw [ofS,ofS,atV_ins hv]
theorem keptF_ins {h:Hi} {l:List Vs} {k:Nat} {v:Vs} (hv:h.tm.sf<v.fr):keptF h (insV l k v)=keptF h l:=by
 have e:∀ x,ofS (withOut h x) (insV l k v)=ofS (withOut h x) l:=fun x=>ofS_ins (h:=withOut h x) hv
 simp only [keptF,keptC,ofS_ins hv,e]
theorem dueF_ins {h:Hi} {l:List Vs} {k:Nat} {v:Vs} (hv:h.tm.sf<v.fr):dueF h (insV l k v)=dueF h l:=by
 rw [dueF,dueF,keptF_ins hv,ofS_ins hv]
theorem ofS_cvT {h:Hi} {t:List Vs} (z:SzC h):∀ s,s∈(ofS h t).1→s.cv.length≤1000000:=by
 have h2:=(cutS_ok z).2
 intro s hs
 rw [ofS] at hs
 by_cases h1:rightHi h=false
 ·rw [if_pos h1] at hs;simp at hs
 ·rw [if_neg h1] at hs
  cases hv:atV t h.tm.sf with
  |none=>rw [hv] at hs;simp at hs
  |some v =>
   rw [hv] at hs
   simp only at hs
   by_cases h3:errP v (cutS h)=0
   ·rw [if_pos h3] at hs
    simp only [List.mem_map] at hs
    obtain ⟨s',h4,rfl⟩:=hs
    have:=h2 s' h4
    rw [mapP];split<;>exact this
   ·rw [if_neg h3] at hs;simp at hs
theorem ofS_lenT {h:Hi} {t:List Vs} (z:SzC h):(ofS h t).1.length≤200000:=by
 have h1:=(cutS_ok z).1
 have h2:=z.n
 unfold ofS
 repeat' split
 all_goals simp
 omega
set_option maxHeartbeats 4000000 in
theorem lTariff (hh:Hi) (t:List Vs) (v:Vs) (dd:Int) (h1:hh.ch.length≤9223372036854775807) (h2:t.length≤9223372036854775807) (h3:v.age.length≤9223372036854775807) (h4:v.zn.length≤9223372036854775807) (h5:v.pr.length≤9223372036854775807) :
  Ctr Tryz.prog 5 [vHi hh,.ag [.d (slV t)],vV v,.d (.int .i64 dd)] [] (.d (.bool true)) [] []:=by
 have k0:=sAlive
 have kf0:=sPFew hh t zChT h1 h2
 have kf:Ctr Tryz.prog 9 [vHi hh,.ag [.d (slV t)],.ag [.d (.int .i64 0),.d (.int .i64 0),.d (.int .i64 0),.d (.int .i64 0),.d (.int .i64 0),.d (.int .i64 0),.d (.int .i64 0),.d (.sl true 0 0 fun _=>[]),.d (.int .i64 0)]] [] (.d (.bool (fewF hh t))) [] []:=by
  have e:(fewF hh t&&decide (zChT.cv.length≤50))=fewF hh t:=by simp [zChT]
  rw [e] at kf0
  exact kf0.arg ⟨VLe.refl _,VLe.refl _,VLe.ags ⟨VLe.refl _,VLe.refl _,VLe.refl _,VLe.refl _,VLe.refl _,VLe.refl _,VLe.refl _,vle_nil,VLe.refl _,trivial⟩,trivial⟩
 clear kf0
 simp only [vHi,cHi,slC,slH,dCh,slV,dVs,slB] at kf
 cases hf:fewF hh t with
 |false =>
  rw [hf] at kf
  refine ctr_pure Tryz.func5 ok5 rfl cc5 cr5 Tryz.ntmps5 (by simp) rfl rfl ?_;intro c hP hfn;simp only [kc5,vHi,cHi,slC,slH,dCh,slV,dVs,slB,vV,cV,slK,vcd,↓vcp,seval]
  repeat' first|((first|refine tp hP (by first|exact k0|exact kf) ?_|refine tg hP (fun _=>by first|exact k0|exact kf) ?_|refine tv hP rfl (by first|exact k0|exact kf) ?_);try simp only [vcd,↓vcp,seval])|refine ⟨fun h=>?_,fun h=>?_⟩|refine aO ?_|refine aT ?_|fail
  exact RetK.pure (by simp only [rs5,rsb,vcd,↓vcp,seval]) (by (simp only [rs5,rsb,enb,vcd,↓vcp,seval])<;>(first|exact VLe.refl _))
 |true =>
  rw [hf] at kf
  obtain ⟨z,ht,hz⟩:=few_szT hf
  by_cases g1:v.age.length>200
  ·have d1:decide ((v.age.length:Int)>200)=true:=decide_eq_true (by omega)
   refine ctr_pure Tryz.func5 ok5 rfl cc5 cr5 Tryz.ntmps5 (by simp) rfl rfl ?_;intro c hP hfn;simp only [kc5,vHi,cHi,slC,slH,dCh,slV,dVs,slB,vV,cV,slK,d1,vcd,↓vcp,seval]
   repeat' first|((first|refine tp hP (by first|exact k0|exact kf) ?_|refine tg hP (fun _=>by first|exact k0|exact kf) ?_|refine tv hP rfl (by first|exact k0|exact kf) ?_);try simp only [d1,vcd,↓vcp,seval])|refine ⟨fun h=>?_,fun h=>?_⟩|refine aO ?_|refine aT ?_|fail
   exact RetK.pure (by simp only [rs5,rsb,vcd,↓vcp,seval]) (by (simp only [rs5,rsb,enb,vcd,↓vcp,seval])<;>(first|exact VLe.refl _))
  have d1:decide ((v.age.length:Int)>200)=false:=decide_eq_false (by omega)
  by_cases g2:v.zn.length>200
  ·have d2:decide ((v.zn.length:Int)>200)=true:=decide_eq_true (by omega)
   refine ctr_pure Tryz.func5 ok5 rfl cc5 cr5 Tryz.ntmps5 (by simp) rfl rfl ?_;intro c hP hfn;simp only [kc5,vHi,cHi,slC,slH,dCh,slV,dVs,slB,vV,cV,slK,d1,d2,vcd,↓vcp,seval]
   repeat' first|((first|refine tp hP (by first|exact k0|exact kf) ?_|refine tg hP (fun _=>by first|exact k0|exact kf) ?_|refine tv hP rfl (by first|exact k0|exact kf) ?_);try simp only [d1,d2,vcd,↓vcp,seval])|refine ⟨fun h=>?_,fun h=>?_⟩|refine aO ?_|refine aT ?_|fail
   exact RetK.pure (by simp only [rs5,rsb,vcd,↓vcp,seval]) (by (simp only [rs5,rsb,enb,vcd,↓vcp,seval])<;>(first|exact VLe.refl _))
  have d2:decide ((v.zn.length:Int)>200)=false:=decide_eq_false (by omega)
  by_cases g3:v.pr.length>200
  ·have d3:decide ((v.pr.length:Int)>200)=true:=decide_eq_true (by omega)
   refine ctr_pure Tryz.func5 ok5 rfl cc5 cr5 Tryz.ntmps5 (by simp) rfl rfl ?_;intro c hP hfn;simp only [kc5,vHi,cHi,slC,slH,dCh,slV,dVs,slB,vV,cV,slK,d1,d2,d3,vcd,↓vcp,seval]
   repeat' first|((first|refine tp hP (by first|exact k0|exact kf) ?_|refine tg hP (fun _=>by first|exact k0|exact kf) ?_|refine tv hP rfl (by first|exact k0|exact kf) ?_);try simp only [d1,d2,d3,vcd,↓vcp,seval])|refine ⟨fun h=>?_,fun h=>?_⟩|refine aO ?_|refine aT ?_|fail
   exact RetK.pure (by simp only [rs5,rsb,vcd,↓vcp,seval]) (by (simp only [rs5,rsb,enb,vcd,↓vcp,seval])<;>(first|exact VLe.refl _))
  have d3:decide ((v.pr.length:Int)>200)=false:=decide_eq_false (by omega)
  by_cases g4:v.fr≤hh.tm.sf
  ·have d4:decide (v.fr≤hh.tm.sf)=true:=decide_eq_true g4
   refine ctr_pure Tryz.func5 ok5 rfl cc5 cr5 Tryz.ntmps5 (by simp) rfl rfl ?_;intro c hP hfn;simp only [kc5,vHi,cHi,slC,slH,dCh,slV,dVs,slB,vV,cV,slK,d1,d2,d3,d4,vcd,↓vcp,seval]
   repeat' first|((first|refine tp hP (by first|exact k0|exact kf) ?_|refine tg hP (fun _=>by first|exact k0|exact kf) ?_|refine tv hP rfl (by first|exact k0|exact kf) ?_);try simp only [d1,d2,d3,d4,vcd,↓vcp,seval])|refine ⟨fun h=>?_,fun h=>?_⟩|refine aO ?_|refine aT ?_|fail
   exact RetK.pure (by simp only [rs5,rsb,vcd,↓vcp,seval]) (by (simp only [rs5,rsb,enb,vcd,↓vcp,seval])<;>(first|exact VLe.refl _))
  have d4:decide (v.fr≤hh.tm.sf)=false:=decide_eq_false g4
  have hv:SzV v:=⟨by omega,by omega,by omega⟩
  have kp:=sPutT t v ht hz hv
  have n0:((0:Int) != 0)=false:=rfl
  by_cases e1:(putT t v).2=0
  ·have ep:(putT t v).1=insV t (plV t v) v:=by
    revert e1
    rw [putT]
    repeat' split
    all_goals simp
   have hK:=bsW_le (cmpV t v.fr) t.length 0 t.length (by omega) (Nat.zero_le _)
   have hil:=insV_len (v:=v) hK.2
   have hiz:∀ x,x∈insV t (plV t v) v→SzV x:=fun x hx=>by
    rw [insV] at hx
    rcases List.mem_append.1 hx with h|h
    ·exact hz x (List.mem_of_mem_take h)
    ·rcases List.mem_cons.1 h with rfl|h
     ·exact hv
     ·exact hz x (List.mem_of_mem_drop h)
   have hfr:hh.tm.sf<v.fr:=by omega
   have hpl:plV t v=bsW (cmpV t v.fr) 0 t.length:=rfl
   rw [←hpl] at hK hil
   rw [e1,ep] at kp
   have kd1:=sDueF hh t z (by omega) hz
   have kd2:=sDueF hh (insV t (plV t v) v) z (by omega) hiz
   have ko1:=sOfS hh t z (by omega) hz
   have ko2:=sOfS hh (insV t (plV t v) v) z (by omega) hiz
   rw [dueF_ins hfr] at kd2
   rw [ofS_ins hfr] at ko2
   have hL:=ofS_lenT (t:=t) z
   have kr:=rAll (ofS hh t).1 (ofS hh t).1 (by omega) (fun s hs=>by have:=ofS_cvT z s hs;omega)
   rw [decide_eq_true rfl] at kr
   have ku:=sUptoF (ofS hh t).1 dd (by omega)
   have c3:∀ i:Int,(i != i)=false:=fun i=>by simp
   have c2:∀ i:Int,(i == i)=true:=fun i=>by simp
   clear hiz hK hil hpl ep e1 hL
   generalize insV t (plV t v) v=T at *
   generalize ofS hh t=L at *
   generalize dueF hh t=D at *
   generalize uptoF L.1 dd=U at *
   simp only [vHi,cHi,slC,slH,dCh,slV,dVs,slB,slS,dSl,vV,cV,slK] at kp kd1 kd2 ko1 ko2 kr ku
   refine ctr_pure Tryz.func5 ok5 rfl cc5 cr5 Tryz.ntmps5 (by simp) rfl rfl ?_;intro c hP hfn;simp only [kc5,vHi,cHi,slC,slH,dCh,slV,dVs,slB,vV,cV,slK,d1,d2,d3,d4,vcd,↓vcp,seval]
   repeat' first|((first|refine tp hP (by first|exact k0|exact kf|exact kp|exact kd1|exact kd2|exact ko1|exact ko2|exact kr|exact ku) ?_|refine tg hP (fun _=>by first|exact k0|exact kf|exact kp|exact kd1|exact kd2|exact ko1|exact ko2|exact kr|exact ku) ?_|refine tv hP rfl (by first|exact k0|exact kf|exact kp|exact kd1|exact kd2|exact ko1|exact ko2|exact kr|exact ku) ?_);try simp only [d1,d2,d3,d4,n0,c2,c3,vcd,↓vcp,seval])|refine ⟨fun h=>?_,fun h=>?_⟩|refine aO ?_|refine aT ?_|fail
   exact RetK.pure (by simp only [rs5,rsb,vcd,↓vcp,seval]) (by (simp only [rs5,rsb,enb,vcd,↓vcp,seval])<;>(first|exact VLe.refl _))
  ·have n1:((putT t v).2 != 0)=true:=bne_iff_ne.2 e1
   generalize putT t v=X at *
   simp only [slV,dVs,slB,vV,cV,slK] at kp
   refine ctr_pure Tryz.func5 ok5 rfl cc5 cr5 Tryz.ntmps5 (by simp) rfl rfl ?_;intro c hP hfn;simp only [kc5,vHi,cHi,slC,slH,dCh,slV,dVs,slB,vV,cV,slK,d1,d2,d3,d4,vcd,↓vcp,seval]
   repeat' first|((first|refine tp hP (by first|exact k0|exact kf|exact kp) ?_|refine tg hP (fun _=>by first|exact k0|exact kf|exact kp) ?_|refine tv hP rfl (by first|exact k0|exact kf|exact kp) ?_);try simp only [d1,d2,d3,d4,n1,vcd,↓vcp,seval])|refine ⟨fun h=>?_,fun h=>?_⟩|refine aO ?_|refine aT ?_|fail
   exact RetK.pure (by simp only [rs5,rsb,vcd,↓vcp,seval]) (by (simp only [rs5,rsb,enb,vcd,↓vcp,seval])<;>(first|exact VLe.refl _))
end Go.Proofs.YtanppabbmffokaaGreat
end
section
namespace Go.Proofs.YtanppabbmffokaaGreat
open Go.ChangeShapes Go.WideShapes Go.ChangeAt Go.RowKit Go.Bx
set_option maxRecDepth 100000
theorem topPremiumTariff_lifted (os:Os) (started:os.Started) (H:Type) (enc:TypeId×Value→H) :
  ReturnsInHanded {} Tryz.checked os 5 .any (Rows.topPremiumTariffSpec.pre6 enc Tryz.prog Tryz.f5 Rows.topPremiumTariffRow.domain false) (Rows.topPremiumTariffSpec.post enc Tryz.prog Tryz.f5 false true false false):=by
 refine returnsInHanded_of_change (C:=Tryz.checked) Tryz.own started (by kernel_rfl) Tryz.func5
  (ChangeSpec.witness6 (enc:=enc) (C:=Tryz.checked) false ⟨#[],#[.agg #[.int .i64 0,.int .i64 0,.int .i64 0,.int .i64 0,.int .i64 0,.int .i64 0,.int .i64 0,.int .i64 0,.slice none 0 0,.slice none 0 0],.agg #[.slice none 0 0],.agg #[.int .i64 0,.int .i64 0,.int .i64 0,.int .i64 0,.int .i64 0,.slice none 0 0,.slice none 0 0,.slice none 0 0,.int .i64 0],.int .i64 0],[]⟩ 8 (by kernel_rfl) (by kernel_rfl) (by kernel_rfl) (by kernel_rfl)) ?_
 intro W base args ds gs before hval hW _ _
 refine law_calls (tb:=4) Tryz.laidOut (by kernel_rfl) (by kernel_rfl) Tryz.underlying4 rfl ?_ ?_ W base args ds gs before hval hW
 ·intro ds hd
  match ds,hd with
  |[_,_,_,_],_=>rfl
 ·intro W base args ds p hval hA
  rw [show Tryz.f5.params.toList=[31,34,75,3] by kernel_rfl] at hA
  obtain ⟨v0,v1,v2,v3,d0,d1,d2,d3,p0,p1,p2,p3,rfl,rfl,_,h0,h1,h2,h3⟩:=trodAll_four hA
  obtain ⟨h,hk,r0⟩:=history_reads.agg (by kernel_rfl) (hval 0 31 v0 rfl rfl) h0
  obtain ⟨t,tk,r1⟩:=tariff_reads.agg (by kernel_rfl) (hval 1 34 v1 rfl rfl) h1
  obtain ⟨v,vk,r2⟩:=version_reads.agg (by kernel_rfl) (hval 2 75 v2 rfl rfl) h2
  obtain ⟨dd,ddk,r3⟩:=int_reads.cell (by kernel_rfl) (hval 3 3 v3 rfl rfl) h3
  exact ⟨[vHi h,.ag [.d (slV t)],vV v,.d (.int .i64 dd)],rfl,rel4 r0 r1 r2 r3,lTariff h t v dd hk.2.2.1 tk.1 vk.2.1 vk.2.2.1 vk.2.2.2⟩
theorem topPremiumTariff_holds:Rows.TopPremiumTariffSaid:=
 OpenClaim.holds_of_wide 5 Tryz.f5 rfl rfl rfl rfl rfl rfl rfl ⟨rfl,rfl,rfl,rfl,rfl⟩ rfl rfl rfl rfl rfl (by kernel_rfl) Tryz.func5 (by kernel_rfl)
  (of_decide_eq_true (by kernel_rfl)) (by unfold Func.isWrapper;first|(rw [if_pos (by decide +kernel)];kernel_rfl)|(rw [if_neg (by decide +kernel)];exact ⟨rfl,rfl⟩))
  (fun os started H enc _=>topPremiumTariff_lifted os started H enc)
end Go.Proofs.YtanppabbmffokaaGreat
end
