import Derived.Test.YtanppabbmffokaaGreatXB12
set_option linter.unusedSimpArgs false
set_option linter.unusedVariables false
section
namespace Go.Proofs.YtanppabbmffokaaGreat
open Go.Bx
set_option maxRecDepth 10000
theorem ctr_ownL {P:Program} {f:FuncId} {fn:Func} {code:Code} {cc:C} {rs:List RV} {args:List V} {ins outs:List (Nat×Go.Bx.Own)} {res:V} {new:List Nat} {nt:Nat}
  (hf:P.funcs[f]?=some fn) (hok:okF P f=true) (hb:fn.body=some code) (hcc:cCode P fn.ntmps code=some cc) (hrs:cRess P fn.results.toList=some rs) (hnt:fn.ntmps=nt) (hlen:args.length≤nt)
  (hB:ctrB args ins res outs new=true) (h:∀ c:Ctx,c.P=P→c.fn=namesL args++ownNames ins→c.rd=none→vcC c cc ⟨initE 0 args,ins,namesL args++ownNames ins⟩ (RetK c rs res outs)):Ctr P f args ins res outs new:=by
 simp only [ctrB,Bool.and_eq_true,List.all_eq_true,Bool.or_eq_true,List.contains_iff_mem] at hB
 obtain ⟨h1,h2,h3,h4⟩:=hB
 exact spec_of_vcL hf hok hb hcc hrs (hnt▸hlen) h1 h2 (nodupB_ok h3) h4 (fun c e1 _ e2 e3=>h c e1 e2 e3)
def apO (L:List Ch) (k:Nat):List (Nat×Go.Bx.Own):=[(2,.fix [.osl 900]),(900,rowH (L.take k))]
def apO1 (L:List Ch) (k:Nat):List (Nat×Go.Bx.Own):=[(5,.fix (cCh (L.getD k default))),(2,.fix [.osl 900]),(900,rowH (L.take k))]
def apE (gf:Nat) (caps:List V):List (Nat×V):=[(2,.own 2 0),(6,.fn (.func gf) [] caps)]
def apE1:List (Nat×V):=[(2,.own 2 0),(5,.own 5 0)]
theorem ap_cli (L:List Ch):CliO [2] (apO L):=by
 refine ⟨fun k=>by simp [apO,keysO],fun k n hn=>?_,fun k n hn=>by simp at hn;simp [apO,keysO,hn]⟩
 simp only [apO,rowH,ownNames,namesL,V.names,List.append_nil,List.nil_append] at hn
 simpa [apO,keysO] using hn
theorem ap_cli1 (L:List Ch):CliO [2] (apO1 L):=by
 refine ⟨fun k=>by simp [apO1,keysO],fun k n hn=>?_,fun k n hn=>?_⟩
 ·simp only [apO1,rowH,cCh,ownNames,namesL,V.names,List.append_nil,List.nil_append] at hn
  simpa [apO1,keysO] using hn
 ·simp only [List.mem_cons,List.not_mem_nil,or_false] at hn
  simp [apO1,keysO,hn]
theorem ap_env (gf:Nat) (caps:List V) (hcp:namesL caps=[]):∀ s n,n∈(Go.Bx.get (apE gf caps) s).names→n∈[2]:=env_names fun s y hm n hn=>by
 simp only [apE,List.mem_cons,Prod.mk.injEq,List.not_mem_nil,or_false] at hm
 rcases hm with ⟨rfl,rfl⟩|⟨rfl,rfl⟩<;>simp [V.names,namesL,hcp] at hn ⊢<;>simp [hn]
set_option maxHeartbeats 2000000 in
theorem sAppendSeqH (gf:Nat) (caps:List V) (hcp:namesL caps=[]) (L:List Ch) (hL:L.length≤1000000) (hI:IterC Tryz.prog gf caps (fun k=>[vCh (L.getD k default)]) L.length) :
  Ctr Tryz.prog 92 [.d (.sl true 0 0 fun _=>[]),.fn (.func gf) [] caps] [] (.osl 7) [(7,rowH L)] [7]:=by
 refine ctr_ownL Tryz.func92 ok92 rfl cc92 cr92 Tryz.ntmps92 (by simp) (by simp [ctrB,hcp,namesL,V.names,ownNames,keysO,rowH];decide) ?_
 intro c hP hfn hrd
 have hfn:c.fn=[]:=by rw [hfn];simp [namesL,V.names,hcp,ownNames]
 simp only [kc92,namesL,V.names,ownNames,hcp,vcd,↓vcp,seval]
 repeat' first|refine And.intro (fun h=>?_) (fun h=>?_)|refine aO ?_|(refine tA rfl rfl rfl rfl ?_;try simp only [vcd,↓vcp,seval])|refine aT ?_|fail
 rw [←hP] at hI
 refine vcC.rfnAll hI (apE gf caps) [2] (apO L) (apO1 L) (fun _=>apE1) ?_ rfl trivial
  ⟨hrd,ap_cli L,ap_cli1 L,fun n hn=>(by rw [hfn] at hn;cases hn),ap_env gf caps hcp,hcp,fun _=>rfl,fun _=>rfl,fun _=>rfl,fun h=>absurd rfl h,fun h=>(by cases h)⟩ ?_ ?_ ?_
 ·refine (Wk.row0F 2 0 900 36 9 (fun i=>dCh ((L.take 0).getD i default)) rfl rfl (by simp)).trans (Wk.of (b:=⟨apE gf caps,apO L 0,[2,900]⟩) _ hfn ?_ ?_ ?_)
  ·simp [wkB,apE,apO,rowH,envNames,oNames,V.names,namesL,hcp,nodupB,keysO]
  ·simp only [apE,enb,vcd,↓vcp,seval]
  ·simp only [apO,rowH,enb,vcd,↓vcp,seval]
 ·intro k hk cB hPB hfB
  simp only [setPs,vCh,cCh,apO,apE,vcd,↓vcp,seval]
  rw [rfnA_nrm]
  refine Wk.of (b:=⟨apE1,apO1 L k,[5,2,900]⟩) _ hfB rfl ?_ ?_
  ·simp only [apE1,enb,vcd,↓vcp,seval]
  ·simp only [apO1,cCh,enb,vcd,↓vcp,seval]
 ·intro k hk cB hPB hfB
  simp only [apO1,apE1,rowH,cCh,vcd,↓vcp,seval]
  repeat' first|refine And.intro (fun h=>?_) (fun h=>?_)|refine aO ?_|(refine tA rfl rfl rfl rfl ?_;try simp only [vcd,↓vcp,seval])|refine aT ?_|fail
  have hlk:(L.take k).length=k:=by rw [List.length_take];omega
  obtain ⟨x,-,hg,-,hx⟩:=drop_at hk
  have hg:=hg default
  have htk:L.take (k+1)=L.take k++[x]:=by rw [List.take_add_one,hx];rfl
  refine ⟨⟨by omega,by simp only [maxLen];omega⟩,?_⟩
  rw [rfnB_nrm]
  refine ⟨rfl,(Wk.sw 11 900 _ hfB (by simp) (by simp)).trans (Wk.of (b:=⟨[],apO L (k+1),[2,900]⟩) _ hfB rfl (by simp only [enb,vcd,↓vcp,seval]) ?_)⟩
  rw [apO,htk]
  simp only [rowH,hg,enb,vcd,↓vcp,seval]
  exact OLe.appL dCh rfl (fun i hi=>by rw [if_pos hi]) (fun i hi=>by
   simp only [List.length_singleton] at hi
   rw [if_neg (by omega)]
   obtain rfl:i=0:=by omega
   simp [dCh,List.getD_eq_getElem?_getD])
 ·simp only [apE,apO,rowH,List.take_length,vcd,↓vcp,seval]
  repeat' first|refine And.intro (fun h=>?_) (fun h=>?_)|refine aO ?_|(refine tA rfl rfl rfl rfl ?_;try simp only [vcd,↓vcp,seval])|refine aT ?_|fail
  refine RetK.mk _ (Wk.sw 900 7 _ hfn (by simp) (by simp)) (by simp only [rs92,rsb,vcd,↓vcp,seval]) (by simp only [rs92,rsb,enb,vcd,↓vcp,seval]) (by simp only [rowH,enb,vcd,↓vcp,seval])
theorem sCollectH (gf:Nat) (caps:List V) (hcp:namesL caps=[]) (L:List Ch) (hL:L.length≤1000000) (hI:IterC Tryz.prog gf caps (fun k=>[vCh (L.getD k default)]) L.length) :
  Ctr Tryz.prog 46 [.fn (.func gf) [] caps] [] (.osl 7) [(7,rowH L)] [7]:=by
 have ca:=sAppendSeqH gf caps hcp L hL hI
 refine ctr_ownL Tryz.func46 ok46 rfl cc46 cr46 Tryz.ntmps46 (by simp) (by simp [ctrB,hcp,namesL,V.names,ownNames,keysO,rowH];decide) ?_
 intro c hP hfn hrd
 have hfn:c.fn=[]:=by rw [hfn];simp [namesL,V.names,hcp,ownNames]
 simp only [kc46,namesL,V.names,ownNames,hcp,vcd,↓vcp,seval]
 repeat' first|refine And.intro (fun h=>?_) (fun h=>?_)|refine aO ?_|(refine tA rfl rfl rfl rfl ?_;try simp only [vcd,↓vcp,seval])|refine aT ?_|fail
 refine TR.call [] [(7,rowH L)] (.osl 7) [7] (by rw [hP];exact ca) (by repeat' first|exact trivial|(intro _;assumption)|apply And.intro) (fun k o h=>by simp at h) (by simp [keysO]) (by simp) ?_
 simp only [rowH,vcd,↓vcp,seval]
 repeat' first|refine And.intro (fun h=>?_) (fun h=>?_)|refine aO ?_|(refine tA rfl rfl rfl rfl ?_;try simp only [vcd,↓vcp,seval])|refine aT ?_|fail
 exact RetK.mk _ (Wk.refl _ _) (by simp only [rs46,rsb,vcd,↓vcp,seval]) (by simp only [rs46,rsb,enb,vcd,↓vcp,seval]) (by simp only [rowH,enb,vcd,↓vcp,seval])
def uptoL (l:List Ch) (on:Int):List Ch:=l.filter fun c=>decide (c.bk≤on)
theorem uptoL_cons (x:Ch) (r:List Ch) (on:Int):uptoL (x::r) on=if x.bk≤on then x::uptoL r on else uptoL r on:=by
 simp only [uptoL,List.filter_cons,decide_eq_true_eq]
def utC (h:Hi) (on:Int):List V:=[.mem (dHi h),.mem [.int .i64 on]]
theorem sUptoK (h:Hi) (on:Int):Ctr Tryz.prog 47 [vHi h,.d (.int .i64 on)] [] (.fn (.func 93) [] (utC h on)) [] []:=by
 refine ctr_pure Tryz.func47 ok47 rfl cc47 cr47 Tryz.ntmps47 (by simp) rfl rfl ?_;intro c hP hfn;simp only [kc47,vHi,cHi,slC,slH,dCh,vcd,↓vcp,seval]
 repeat' first|refine And.intro (fun h=>?_) (fun h=>?_)|refine aO ?_|(refine tA rfl rfl rfl rfl ?_;try simp only [vcd,↓vcp,seval])|refine aT ?_|fail
 exact RetK.mk _ ((Wk.pubF 2 rfl rfl).trans (Wk.pubF 3 rfl rfl)) (by simp only [rs47,rsb,vcd,↓vcp,seval]) (by simp only [rs47,utC,dHi,slC,slH,dCh,rsb,enb,vcd,↓vcp,seval]) trivial
def ukE (h:Hi) (on:Int) (x:Ch) (l' k:Nat):List (Nat×V):=[(21,.fn (.yield l') [] []),(22,vCh x),(0,.fn (.yield l') [] []),(2,.mem [.int .i64 on]),(7,.d (slH h.ch)),(8,.d (.int .i64 h.ch.length)),(9,.d (.int .i64 (k:Nat)))]
theorem it_known (h:Hi) (on:Int) (hl:h.ch.length≤1000000) (hc:∀ c,c∈h.ch→c.cv.length≤1000000):IterC Tryz.prog 93 (utC h on) (fun k=>[vCh ((uptoL h.ch on).getD k default)]) (uptoL h.ch on).length:=by
 refine iter_of_vc Tryz.func93 ok93 rfl cc93 cr93 (by simp only [Tryz.ntmps93,List.length_cons,List.length_nil,utC];decide) rfl (fun _=>rfl) ?_
 intro c l' T stop Z hP _ hZ hT hT' hY
 have hbk:∀ k n o,(n,o)∈Z k→own? ([]++Z k) n=some o:=fun k n o hm=>mem_own? (hZ.nodup k) hm
 simp only [kc93,utC,dHi,slC,slH,dCh,vcd,↓vcp,seval]
 refine vcC.loop (X:=Nat×Nat) (fun x=>⟨[(0,.fn (.yield l') [] []),(2,.mem [.int .i64 on]),(7,.d (slH h.ch)),(8,.d (.int .i64 h.ch.length)),(9,.d (.int .i64 (x.1:Nat)))],[]++Z x.2,[]++keysO (Z x.2)⟩)
  (fun x=>x.1≤h.ch.length∧(uptoL h.ch on).drop x.2=uptoL (h.ch.drop x.1) on∧x.2≤T∧(stop=true→x.2<T)) (fun x=>h.ch.length-x.1) (0,0)
  ⟨Nat.zero_le _,rfl,Nat.zero_le _,fun h=>(hT' h).1⟩ (Wk.ofZ hZ rfl 0 (own:=[]) (nm:=[]) rfl rfl (by simp only [slC,slH,dCh,enb,vcd,↓vcp,seval]) (by simp only [enb,vcd,↓vcp,seval]) (hbk 0)) ?_
 rintro ⟨k,m⟩ ⟨hk,hd,hm,hms⟩
 simp only at hk hd hm hms
 by_cases hlt:k<h.ch.length
 ·obtain ⟨x,hdx,hgx,hmx,-⟩:=drop_at hlt
  have hgx:=hgx default
  have d0:decide ((k:Int)<(h.ch.length:Int))=true:=decide_eq_true (by omega)
  have w1:IntKind.i64.wrap ((k:Int)+1)=((k+1:Nat):Int):=wS (by omega)
  have b1:(0:Int)≤(k:Int)∧(k:Int)<(h.ch.length:Int):=by omega
  have hx5:(5∈List.map (fun x=>x.fst) (Z m))=False:=eq_false fun h=>by have:=hZ.ge m 5 h;omega
  have cc:=pCloneC x.cv (by have:=hc x hmx;omega)
  simp only [slC] at cc
  rw [hdx,uptoL_cons] at hd
  by_cases hb:x.bk≤on
  ·have d1:decide (x.bk>on)=false:=decide_eq_false (by omega)
   rw [if_pos hb] at hd
   simp only [slC,slH,dCh,d0,hgx,d1,hx5,own?_setO,vcd,↓vcp,seval]
   repeat' first|((first|refine tp hP (by exact cc) ?_|refine tg hP (fun _=>by exact cc) ?_|refine tv hP rfl (by exact cc) ?_);try simp only [d0,hgx,w1,d1,hx5,own?_setO,vcd,↓vcp,seval])|refine And.intro (fun h=>?_) (fun h=>?_)|refine aO ?_|(refine tA rfl rfl rfl rfl ?_;try simp only [d0,hgx,w1,d1,hx5,own?_setO,vcd,↓vcp,seval])|refine aT ?_|fail
   have hr5:∀ n o (a b c':Go.Bx.Own),(n,o)∈Z m→own? (setO (setO (setO (Z m) 5 a) 5 b) 5 c') n=some o:=fun n o a b c' hm'=>by
    have:=hZ.ge m n (mem_keys hm')
    rw [own?_setO,if_neg (by omega),own?_setO,if_neg (by omega),own?_setO,if_neg (by omega)]
    exact mem_own? (hZ.nodup m) hm'
   have hlT:m<T:=by
    cases hst:stop with
    |true=>exact hms hst
    |false =>
     rw [hT hst]
     have:=congrArg List.length hd
     rw [List.length_drop,List.length_cons] at this
     omega
   have hga:(uptoL h.ch on).getD m default=x:=by
    have h9:=congrArg (fun l:List Ch=>l.getD 0 default) hd
    simp only [List.getD_cons_zero] at h9
    rw [←h9,List.getD_eq_getElem?_getD,List.getD_eq_getElem?_getD,List.getElem?_drop];rfl
   have hd2:(uptoL h.ch on).drop (m+1)=uptoL (h.ch.drop (k+1)) on:=by
    have h9:=congrArg (fun l:List Ch=>l.drop 1) hd
    simp only [List.drop_drop,List.drop_succ_cons,List.drop_zero] at h9
    exact h9
   refine TR.wk _ (Wk.ofZ (env:=ukE h on x l' k) hZ rfl m (own:=[]) (nm:=[]) rfl rfl (by simp only [ukE,slC,slH,dCh,vCh,cCh,enb,vcd,↓vcp,seval]) (by simp only [enb,vcd,↓vcp,seval]) (fun n o hm'=>hr5 n o _ _ _ hm')) ?_
   refine TR.yield hZ rfl (hY m hlT) (own:=[]) (nm:=[]) rfl rfl rfl trivial (by simp only [ukE,hga,vCh,cCh,vcd,↓vcp,seval]) (by simp only [ukE,vCh,cCh,vcd,↓vcp,seval]) ?_
   simp only [ukE,vcd,↓vcp,seval]
   refine ⟨fun hg=>?_,fun hg=>?_⟩
   ·have hT1:T=m+1:=by
     simp [goAt] at hg
     have:=hms hg.2
     omega
    subst hT1
    exact IterK.mk _ (Wk.refl _ _) (OwnLe.of fun n o hm=>⟨o,mem_own? (hZ.nodup (m+1)) hm,OLe.refl o⟩)
   ·have hg':m+1<T∨stop=false:=by
     simp [goAt] at hg
     by_cases h9:m+1<T
     ·exact .inl h9
     ·exact .inr (hg (by omega))
    simp only [w1,vcd,↓vcp,seval]
    exact lopK.on (k+1,m+1) ⟨hlt,hd2,hlT,fun h=>hg'.resolve_right (by rw [h];simp)⟩ (by simp only;omega) (Wk.ofZ hZ rfl (m+1) (own:=[]) (nm:=[]) rfl rfl (by simp only [slC,slH,dCh,w1,enb,vcd,↓vcp,seval]) (by simp only [enb,vcd,↓vcp,seval]) (hbk (m+1)))
  ·have d1:decide (x.bk>on)=true:=decide_eq_true (by omega)
   rw [if_neg hb] at hd
   simp only [slC,slH,dCh,d0,hgx,d1,hx5,own?_setO,vcd,↓vcp,seval]
   repeat' first|((first|refine tp hP (by exact cc) ?_|refine tg hP (fun _=>by exact cc) ?_|refine tv hP rfl (by exact cc) ?_);try simp only [d0,hgx,w1,d1,hx5,own?_setO,vcd,↓vcp,seval])|refine And.intro (fun h=>?_) (fun h=>?_)|refine aO ?_|(refine tA rfl rfl rfl rfl ?_;try simp only [d0,hgx,w1,d1,hx5,own?_setO,vcd,↓vcp,seval])|refine aT ?_|fail
   have hr2:∀ n o (a b:Go.Bx.Own),(n,o)∈Z m→own? (setO (setO (Z m) 5 a) 5 b) n=some o:=fun n o a b hm'=>by
    have:=hZ.ge m n (mem_keys hm')
    rw [own?_setO,if_neg (by omega),own?_setO,if_neg (by omega)]
    exact mem_own? (hZ.nodup m) hm'
   exact lopK.on (k+1,m) ⟨hlt,hd,hm,hms⟩ (by simp only;omega) (Wk.ofZ hZ rfl m (own:=[]) (nm:=[]) rfl rfl (by simp only [slC,slH,dCh,w1,enb,vcd,↓vcp,seval]) (by simp only [enb,vcd,↓vcp,seval]) (fun n o hm'=>hr2 n o _ _ hm'))
 ·have hkl:k=h.ch.length:=by omega
  rw [hkl,List.drop_length] at hd
  have hml:(uptoL h.ch on).length≤m:=List.drop_eq_nil_iff.1 hd
  have hst:stop=false:=by
   cases hst:stop with
   |false=>rfl
   |true=>have:=hms hst;have:=(hT' hst).2;omega
  have hTm:T=m:=by have:=hT hst;omega
  have d0:decide ((k:Int)<(h.ch.length:Int))=false:=decide_eq_false (by omega)
  simp only [d0,vcd,↓vcp,seval]
  repeat' first|refine And.intro (fun h=>?_) (fun h=>?_)|refine aO ?_|(refine tA rfl rfl rfl rfl ?_;try simp only [vcd,↓vcp,seval])|refine aT ?_|fail
  rw [hTm]
  exact IterK.mk' _ (Wk.refl _ _) (OwnLe.of fun n o hm=>⟨o,mem_own? (hZ.nodup m) hm,OLe.refl o⟩)
end Go.Proofs.YtanppabbmffokaaGreat
end
section
namespace Go.Proofs.YtanppabbmffokaaGreat
open Go.Bx
set_option maxRecDepth 10000
def atK (h:Hi) (on:Int):Hi×Int:=if h.bk>on then (zHi,7) else ({ h with ch:=uptoL h.ch on },0)
theorem uptoL_len (l:List Ch) (on:Int):(uptoL l on).length≤l.length:=List.length_filter_le _ _
set_option maxHeartbeats 1000000 in
theorem sAtK (hh:Hi) (on:Int) (z:SzC hh):Ctr Tryz.prog 18 [vHi hh,.d (.int .i64 on)] [] (.tup [vHi (atK hh on).1,.d (.int .i64 (atK hh on).2)]) [] []:=by
 have hn:=z.n
 by_cases hb:hh.bk>on
 ·have e:atK hh on=(zHi,7):=by rw [atK,if_pos hb]
  have d0:decide (hh.bk>on)=true:=decide_eq_true hb
  rw [e]
  refine ctr_pure Tryz.func18 ok18 rfl cc18 cr18 Tryz.ntmps18 (by simp) rfl rfl ?_;intro c hP hfn;simp only [kc18,vHi,cHi,slC,slH,dCh,d0,vcd,↓vcp,seval]
  repeat' first|refine And.intro (fun h=>?_) (fun h=>?_)|refine aO ?_|(refine tA rfl rfl rfl rfl ?_;try simp only [d0,vcd,↓vcp,seval])|refine aT ?_|fail
  refine RetK.pure (by simp only [rs18,rsb,vcd,↓vcp,seval]) ?_
  simp only [rs18,rsb,vcd,↓vcp,seval]
  exact VLe.tups ⟨vle_zHi,VLe.refl _,trivial⟩
 ·have e:atK hh on=({ hh with ch:=uptoL hh.ch on },0):=by rw [atK,if_neg hb]
  have d0:decide (hh.bk>on)=false:=decide_eq_false hb
  have hll:=uptoL_len hh.ch on
  have cc:=pCloneC hh.tm.cv (by have:=z.t;omega)
  have cu:=sUptoK hh on
  have cl:=sCollectH 93 (utC hh on) rfl (uptoL hh.ch on) (by omega) (it_known hh on (by omega) z.c)
  simp only [slC] at cc
  simp only [vHi,cHi,slC,slH,dCh] at cu
  rw [e]
  generalize uptoL hh.ch on=L at *
  refine ctr_pureL Tryz.func18 ok18 rfl cc18 cr18 Tryz.ntmps18 (by simp) rfl rfl ?_;intro c hP hfn hrd;simp only [kc18,vHi,cHi,slC,slH,dCh,d0,vcd,↓vcp,seval]
  repeat' first|((first|refine tp hP (by first|exact cc|exact cu) ?_|refine tg hP (fun _=>by first|exact cc|exact cu) ?_|refine tv hP rfl (by first|exact cc|exact cu) ?_);try simp only [d0,vcd,↓vcp,seval])|refine And.intro (fun h=>?_) (fun h=>?_)|refine aO ?_|(refine tA rfl rfl rfl rfl ?_;try simp only [d0,vcd,↓vcp,seval])|refine aT ?_|fail
  refine TR.call [] [(7,rowH L)] (.osl 7) [7] (by rw [hP];exact cl) (by repeat' first|exact trivial|(intro _;assumption)|apply And.intro) (fun k o h=>by simp at h) (by simp [keysO]) (by simp) ?_
  simp only [rowH,vcd,↓vcp,seval]
  repeat' first|refine And.intro (fun h=>?_) (fun h=>?_)|refine aO ?_|(refine tA rfl rfl rfl rfl ?_;try simp only [vcd,↓vcp,seval])|refine aT ?_|fail
  refine RetK.mk _ (Wk.pub 7 rfl) (by simp only [rs18,rsb,vcd,↓vcp,seval]) ?_ trivial
  simp only [rs18,vHi,cHi,slH,slC,dCh,rsb,enb,vcd,↓vcp,seval]
def sliK (h:Hi) (t:List Vs) (on:Int):List Sl×Int:=if (atK h on).2≠0 then ([],(atK h on).2) else ofS (atK h on).1 t
theorem atK_sz {h:Hi} (z:SzC h) (on:Int):SzC (atK h on).1:=by
 rw [atK]
 by_cases hb:h.bk>on
 ·rw [if_pos hb];exact ⟨by simp [zHi],by simp [zHi],fun c h=>by simp [zHi] at h⟩
 ·rw [if_neg hb]
  have:=uptoL_len h.ch on
  have:=z.n
  exact ⟨z.t,by simp only;omega,fun c hc=>z.c c (List.mem_filter.1 hc).1⟩
theorem sSlicesK (hh:Hi) (t:List Vs) (on:Int) (z:SzC hh) (ht:t.length≤1000000) (hz:∀ v,v∈t→SzV v):Ctr Tryz.prog 20 [vHi hh,.ag [.d (slV t)],.d (.int .i64 on)] [] (.tup [.d (slS (sliK hh t on).1),.d (.int .i64 (sliK hh t on).2)]) [] []:=by
 have ca:=sAtK hh on z
 have co:=sOfS (atK hh on).1 t (atK_sz z on) ht hz
 rw [sliK]
 generalize atK hh on=A at *
 obtain ⟨A,e⟩:=A
 simp only at ca co ⊢
 simp only [vHi,cHi,slC,slH,dCh,slV,dVs,slB,slS,dSl] at ca co
 by_cases h1:e=0
 ·subst h1
  have n0:((0:Int) != 0)=false:=rfl
  rw [if_neg (by simp)]
  refine ctr_pure Tryz.func20 ok20 rfl cc20 cr20 Tryz.ntmps20 (by simp) rfl rfl ?_;intro c hP hfn;simp only [kc20,vHi,cHi,slC,slH,dCh,slV,dVs,slB,vcd,↓vcp,seval]
  repeat' first|((first|refine tp hP (by first|exact ca|exact co) ?_|refine tg hP (fun _=>by first|exact ca|exact co) ?_|refine tv hP rfl (by first|exact ca|exact co) ?_);try simp only [n0,vcd,↓vcp,seval])|refine And.intro (fun h=>?_) (fun h=>?_)|refine aO ?_|(refine tA rfl rfl rfl rfl ?_;try simp only [n0,vcd,↓vcp,seval])|refine aT ?_|fail
  exact RetK.pure (by simp only [rs20,rsb,vcd,↓vcp,seval]) (by (simp only [rs20,rsb,enb,vcd,↓vcp,seval])<;>(first|exact VLe.refl _))
 ·have n1:(e != 0)=true:=bne_iff_ne.2 h1
  rw [if_pos h1]
  refine ctr_pure Tryz.func20 ok20 rfl cc20 cr20 Tryz.ntmps20 (by simp) rfl rfl ?_;intro c hP hfn;simp only [kc20,vHi,cHi,slC,slH,dCh,slV,dVs,slB,vcd,↓vcp,seval]
  repeat' first|((first|refine tp hP (by exact ca) ?_|refine tg hP (fun _=>by exact ca) ?_|refine tv hP rfl (by exact ca) ?_);try simp only [n1,vcd,↓vcp,seval])|refine And.intro (fun h=>?_) (fun h=>?_)|refine aO ?_|(refine tA rfl rfl rfl rfl ?_;try simp only [n1,vcd,↓vcp,seval])|refine aT ?_|fail
  refine RetK.pure (by simp only [rs20,rsb,vcd,↓vcp,seval]) ?_
  simp only [rs20,rsb,vcd,↓vcp,seval]
  exact VLe.tups ⟨vle_nil,VLe.refl _,trivial⟩
end Go.Proofs.YtanppabbmffokaaGreat
end
section
namespace Go.Proofs.YtanppabbmffokaaGreat
open Go.Bx
set_option maxRecDepth 10000
def slAt (l:List Sl) (d:Int):Option Sl:=l.find? fun s=>decide (d≥(keptR s.sf s.st).1)&&decide (d<(keptR s.sf s.st).2)
def zSr:Sl:=⟨0,0,false,⟨0,0,0,0⟩,[],0⟩
theorem vle_zSr {g:Nat→List D}:VLe (.ag [.d (.int .i64 0),.d (.int .i64 0),.d (.bool false),.d (.int .i64 0),.d (.int .i64 0),.d (.int .i64 0),.d (.int .i64 0),.d (.sl true 0 0 g),.d (.int .i64 0)]) (vSl zSr):=
 VLe.ags ⟨VLe.refl _,VLe.refl _,VLe.refl _,VLe.refl _,VLe.refl _,VLe.refl _,VLe.refl _,vle_nil,VLe.refl _,trivial⟩
def zCs:List V:=[.d (.int .i64 0),.d (.int .i64 0),.d (.bool false),.d (.int .i64 0),.d (.int .i64 0),.d (.int .i64 0),.d (.int .i64 0),.d (.sl true 0 0 fun _=>[]),.d (.int .i64 0)]
theorem slAt_cons (x:Sl) (l:List Sl) (d:Int):slAt (x::l) d=if (decide (d≥(keptR x.sf x.st).1)&&decide (d<(keptR x.sf x.st).2))=true then some x else slAt l d:=by
 rw [slAt,List.find?_cons];split<;>rename_i h<;>simp only [h]<;>rfl
theorem sSlAt (l:List Sl) (d:Int) (hl:l.length≤9223372036854775807):Ctr Tryz.prog 51 [.d (slS l),.d (.int .i64 d)] [] (.tup [vSl ((slAt l d).getD zSr),.d (.bool (slAt l d).isSome)]) [] []:=by
 refine ctr_pure Tryz.func51 ok51 rfl cc51 cr51 Tryz.ntmps51 (by simp) rfl rfl ?_;intro c hP hfn;simp only [kc51,slS,dSl,slC,vcd,↓vcp,seval]
 refine vcC.loop (X:=Nat) (fun k=>⟨[(1,.d (.int .i64 d)),(4,.own 4 0),(8,.d (slS l)),(9,.d (.int .i64 l.length)),(10,.d (.int .i64 k))],[(4,.fix zCs)],[4]⟩)
  (fun k=>k≤l.length∧slAt l d=slAt (l.drop k) d) (fun k=>l.length-k) 0 ⟨Nat.zero_le _,rfl⟩ (Wk.of _ hfn rfl (by simp only [slS,dSl,slC,enb,vcd,↓vcp,seval]) (by simp only [zCs,enb,vcd,↓vcp,seval])) ?_
 rintro k ⟨hk,he⟩
 by_cases hlt:k<l.length
 ·obtain ⟨x,hd,hg,-,-⟩:=drop_at hlt
  have hg:=hg default
  have d0:decide ((k:Int)<(l.length:Int))=true:=decide_eq_true (by omega)
  have w1:IntKind.i64.wrap ((k:Int)+1)=((k+1:Nat):Int):=wS (by omega)
  have b1:(0:Int)≤(k:Int)∧(k:Int)<(l.length:Int):=by omega
  have ci:=sIn x.sf x.st d
  simp only [vS] at ci
  rw [hd,slAt_cons] at he
  cases hq:(decide (d≥(keptR x.sf x.st).1)&&decide (d<(keptR x.sf x.st).2)) with
  |true =>
   rw [hq] at ci
   rw [hq,if_pos rfl] at he
   rw [he]
   simp only [slS,dSl,slC,zCs,d0,hg,vcd,↓vcp,seval]
   repeat' first|((first|refine tp hP (by exact ci) ?_|refine tg hP (fun _=>by exact ci) ?_|refine tv hP rfl (by exact ci) ?_);try simp only [d0,hg,w1,vcd,↓vcp,seval])|refine And.intro (fun h=>?_) (fun h=>?_)|refine aO ?_|(refine tA rfl rfl rfl rfl ?_;try simp only [d0,hg,w1,vcd,↓vcp,seval])|refine aT ?_|fail
   exact RetK.pure (by simp only [rs51,rsb,vcd,↓vcp,seval]) (by (simp only [rs51,rsb,enb,vcd,↓vcp,seval])<;>(first|exact VLe.refl _))
  |false =>
   rw [hq] at ci
   rw [hq,if_neg (by simp)] at he
   simp only [slS,dSl,slC,zCs,d0,hg,vcd,↓vcp,seval]
   repeat' first|((first|refine tp hP (by exact ci) ?_|refine tg hP (fun _=>by exact ci) ?_|refine tv hP rfl (by exact ci) ?_);try simp only [d0,hg,w1,vcd,↓vcp,seval])|refine And.intro (fun h=>?_) (fun h=>?_)|refine aO ?_|(refine tA rfl rfl rfl rfl ?_;try simp only [d0,hg,w1,vcd,↓vcp,seval])|refine aT ?_|fail
   exact lopK.on (k+1) ⟨hlt,he⟩ (by omega) (Wk.of _ hfn rfl (by simp only [slS,dSl,slC,w1,enb,vcd,↓vcp,seval]) (by simp only [zCs,enb,vcd,↓vcp,seval]))
 ·have d0:decide ((k:Int)<(l.length:Int))=false:=decide_eq_false (by omega)
  have e:slAt l d=none:=by rw [he,List.drop_eq_nil_of_le (by omega)];rfl
  rw [e]
  simp only [slS,dSl,slC,zCs,d0,vcd,↓vcp,seval]
  repeat' first|refine And.intro (fun h=>?_) (fun h=>?_)|refine aO ?_|(refine tA rfl rfl rfl rfl ?_;try simp only [d0,vcd,↓vcp,seval])|refine aT ?_|fail
  refine RetK.pure (by simp only [rs51,rsb,vcd,↓vcp,seval]) ?_
  simp only [rs51,rsb,vcd,↓vcp,seval]
  exact VLe.tups ⟨vle_zSr,VLe.refl _,trivial⟩
def cvAt (l:List Cv) (p:Int):Option Cv:=l.find? fun c=>c.pe == p
def cCv (c:Cv):List V:=[.d (.int .i64 c.pe),.d (.int .i64 c.li),.d (.int .i64 c.ag),.d (.int .i64 c.de),.d (.int .i64 c.sh)]
def zCv:Cv:=⟨0,0,0,0,0⟩
theorem cvAt_cons (x:Cv) (l:List Cv) (p:Int):cvAt (x::l) p=if (x.pe == p)=true then some x else cvAt l p:=by
 rw [cvAt,List.find?_cons];split<;>rename_i h<;>simp only [h]<;>rfl
theorem sFind (l:List Cv) (p:Int) (hl:l.length≤9223372036854775807):Ctr Tryz.prog 52 [.d (slC l),.d (.int .i64 p)] [] (.tup [.ag (cCv ((cvAt l p).getD zCv)),.d (.bool (cvAt l p).isSome)]) [] []:=by
 refine ctr_pure Tryz.func52 ok52 rfl cc52 cr52 Tryz.ntmps52 (by simp) rfl rfl ?_;intro c hP hfn;simp only [kc52,slC,vcd,↓vcp,seval]
 refine vcC.loop (X:=Nat) (fun k=>⟨[(1,.d (.int .i64 p)),(4,.own 4 0),(8,.d (slC l)),(9,.d (.int .i64 l.length)),(10,.d (.int .i64 k))],[(4,.fix (cCv zCv))],[4]⟩)
  (fun k=>k≤l.length∧cvAt l p=cvAt (l.drop k) p) (fun k=>l.length-k) 0 ⟨Nat.zero_le _,rfl⟩ (Wk.of _ hfn rfl (by simp only [slC,enb,vcd,↓vcp,seval]) (by simp only [cCv,zCv,enb,vcd,↓vcp,seval])) ?_
 rintro k ⟨hk,he⟩
 by_cases hlt:k<l.length
 ·obtain ⟨x,hd,hg,-,-⟩:=drop_at hlt
  have hg:=hg default
  have d0:decide ((k:Int)<(l.length:Int))=true:=decide_eq_true (by omega)
  have w1:IntKind.i64.wrap ((k:Int)+1)=((k+1:Nat):Int):=wS (by omega)
  have b1:(0:Int)≤(k:Int)∧(k:Int)<(l.length:Int):=by omega
  rw [hd,cvAt_cons] at he
  cases hq:(x.pe == p) with
  |true =>
   rw [hq,if_pos rfl] at he
   rw [he]
   simp only [slC,cCv,zCv,d0,hg,hq,vcd,↓vcp,seval]
   repeat' first|refine And.intro (fun h=>?_) (fun h=>?_)|refine aO ?_|(refine tA rfl rfl rfl rfl ?_;try simp only [d0,hg,w1,hq,vcd,↓vcp,seval])|refine aT ?_|fail
   exact RetK.pure (by simp only [rs52,rsb,vcd,↓vcp,seval]) (by (simp only [rs52,rsb,enb,vcd,↓vcp,seval])<;>(first|exact VLe.refl _))
  |false =>
   rw [hq,if_neg (by simp)] at he
   simp only [slC,cCv,zCv,d0,hg,hq,vcd,↓vcp,seval]
   repeat' first|refine And.intro (fun h=>?_) (fun h=>?_)|refine aO ?_|(refine tA rfl rfl rfl rfl ?_;try simp only [d0,hg,w1,hq,vcd,↓vcp,seval])|refine aT ?_|fail
   exact lopK.on (k+1) ⟨hlt,he⟩ (by omega) (Wk.of _ hfn rfl (by simp only [slC,w1,enb,vcd,↓vcp,seval]) (by simp only [cCv,zCv,enb,vcd,↓vcp,seval]))
 ·have d0:decide ((k:Int)<(l.length:Int))=false:=decide_eq_false (by omega)
  have e:cvAt l p=none:=by rw [he,List.drop_eq_nil_of_le (by omega)];rfl
  rw [e]
  simp only [slC,cCv,zCv,d0,vcd,↓vcp,seval]
  repeat' first|refine And.intro (fun h=>?_) (fun h=>?_)|refine aO ?_|(refine tA rfl rfl rfl rfl ?_;try simp only [d0,vcd,↓vcp,seval])|refine aT ?_|fail
  exact RetK.pure (by simp only [rs52,rsb,vcd,↓vcp,seval]) (by (simp only [rs52,rsb,enb,vcd,↓vcp,seval])<;>(first|exact VLe.refl _))
structure Cl where
 id:Int
 po:Int
 pe:Int
 lo:Int
 bk:Int
 ev:Int
instance:Inhabited Cl:=⟨⟨0,0,0,0,0,0⟩⟩
def cCl (c:Cl):List V:=[.d (.int .i64 c.id),.d (.int .i64 c.po),.d (.int .i64 c.pe),.d (.int .i64 c.lo),.d (.int .i64 c.bk),.d (.int .i64 c.ev)]
def vCl (c:Cl):V:=.ag (cCl c)
def numB (n:Int):Bool:=decide (n≥1)&&decide (n≤1000000000)
theorem sNum (n:Int):Ctr Tryz.prog 94 [.d (.int .i64 n)] [] (.d (.bool (numB n))) [] []:=by
 refine ctr_pure Tryz.func94 ok94 rfl cc94 cr94 Tryz.ntmps94 (by simp) rfl rfl ?_;intro c hP hfn;simp only [kc94,vcd,↓vcp,seval]
 repeat' first|refine And.intro (fun h=>?_) (fun h=>?_)|refine aO ?_|(refine tA rfl rfl rfl rfl ?_;try simp only [vcd,↓vcp,seval])|refine aT ?_|fail
 exact RetK.pure (by simp only [rs94,rsb,vcd,↓vcp,seval]) (by (simp only [rs94,rsb,enb,vcd,↓vcp,seval])<;>(first|rfl))
theorem sDayN (n:Int):Ctr Tryz.prog 95 [.d (.int .i64 n)] [] (.d (.bool (dayB n))) [] []:=by
 refine ctr_pure Tryz.func95 ok95 rfl cc95 cr95 Tryz.ntmps95 (by simp) rfl rfl ?_;intro c hP hfn;simp only [kc95,vcd,↓vcp,seval]
 repeat' first|refine And.intro (fun h=>?_) (fun h=>?_)|refine aO ?_|(refine tA rfl rfl rfl rfl ?_;try simp only [vcd,↓vcp,seval])|refine aT ?_|fail
 exact RetK.pure (by simp only [rs95,rsb,vcd,↓vcp,seval]) (by (simp only [rs95,rsb,enb,vcd,↓vcp,seval])<;>(first|rfl))
def rightCl (c:Cl):Bool:=numB c.id&&(numB c.po&&(((c.ev == 0) || numB c.ev)&&(decide (c.pe≥0)&&(decide (c.pe≤7)&&(dayB c.lo&&dayB c.bk)))))
theorem sUnless0 (e:Int):Ctr Tryz.prog 49 [.d (.bool true),.d (.int .i64 e)] [] (.tup []) [] []:=by
 refine ctr_pure Tryz.func49 ok49 rfl cc49 cr49 Tryz.ntmps49 (by simp) rfl rfl ?_;intro c hP hfn;simp only [kc49,vcd,↓vcp,seval]
 repeat' first|refine And.intro (fun h=>?_) (fun h=>?_)|refine aO ?_|(refine tA rfl rfl rfl rfl ?_;try simp only [vcd,↓vcp,seval])|refine aT ?_|fail
 exact RetK.pure (by simp only [rs49,rsb,vcd,↓vcp,seval]) (by (simp only [rs49,rsb,enb,vcd,↓vcp,seval])<;>(first|exact VLe.refl _))
def vRef (e:Int):V:=.ifc 114 (.ag [.d (.int .i64 e)])
theorem sUnless1 (e:Int):CtrP Tryz.prog 49 [.d (.bool false),.d (.int .i64 e)] (vRef e):=by
 refine ctr_panics Tryz.func49 ok49 rfl cc49 Tryz.ntmps49 (by simp) rfl rfl ?_;intro c hP hfn hpk;simp only [kc49,vcd,↓vcp,seval]
 repeat' first|refine And.intro (fun h=>?_) (fun h=>?_)|refine aO ?_|(refine tA rfl rfl rfl rfl ?_;try simp only [vcd,↓vcp,seval])|refine aT ?_|fail
 exact TR.pnc rfl (by simp only [vcd,↓vcp,seval]) (by rw [hpk];exact VLe.refl _)
end Go.Proofs.YtanppabbmffokaaGreat
end
section
namespace Go.Proofs.YtanppabbmffokaaGreat
open Go.Bx
set_option maxRecDepth 10000
theorem gpN {c:Ctx} {b:Bool} {is:List I} {st:St} {acc:List Lg} {K:List Lg→St→Prop} {P:Program} (hP:c.P=P) {d:Option Nat} {s:Nat} {want gc:Bool} {x:X} {f:Nat} {first cap:List V} {xs:List X} {res:V} (hS:gc=true→Ctr P f (first++(evVs st xs++cap)) [] res [] [])
  (h:vcR c b is (st.stp d { val:=.gd gc res,upd:=[],rd:=[],new:=[] }) (lgs b acc ⟨[],[]⟩) K) (hg:gOf st.env s want=some gc:=by rfl)
  (hx:gc=true→evV st x=.fn (.func f) first cap:=by intro _;rfl) (hsx:gc=true→evS true st x:=by intro _;repeat' first|exact trivial|(intro _;assumption)|apply And.intro) (hs:gc=true→evSs true st xs:=by intro _;repeat' first|exact trivial|(intro _;assumption)|apply And.intro):TR c b (⟨d,some (s,want),.callv x xs⟩::is) st acc K:=
 TR.gpv hP hg hx hS hsx hs h
theorem sRightN (x:Cl):Ctr Tryz.prog 50 [vCl x] [] (.d (.bool (rightCl x))) [] []:=by
 refine ctr_pure Tryz.func50 ok50 rfl cc50 cr50 Tryz.ntmps50 (by simp) rfl rfl ?_;intro c hP hfn;simp only [kc50,vCl,cCl,vcd,↓vcp,seval]
 repeat' first|((first|refine tp hP (by exact sNum _) ?_|refine tg hP (fun _=>by exact sNum _) ?_|refine tv hP rfl (by exact sNum _) ?_);try simp only [vcd,↓vcp,seval])|refine And.intro (fun h=>?_) (fun h=>?_)|refine aO ?_|(refine tA rfl rfl rfl rfl ?_;try simp only [vcd,↓vcp,seval])|refine aT ?_|(refine gpN hP (f:=94) (first:=[]) (cap:=[]) (fun _=>sNum _) ?_;try simp only [vcd,↓vcp,seval])|(refine gpN hP (f:=95) (first:=[]) (cap:=[]) (fun _=>sDayN _) ?_;try simp only [vcd,↓vcp,seval])|fail
 exact RetK.pure (by simp only [rs50,rsb,vcd,↓vcp,seval]) (by (simp only [rs50,rsb,enb,vcd,↓vcp,seval])<;>(first|simp [rightCl,Bool.and_assoc]))
def calmR:Result Next→Prop
 |.ok (.value _) _=>True
 |.ok .skip _=>True
 |.halt (.panic _) _=>True
 |.ok _ _=>False
 |_=>True
theorem put_def (a:Act) (d:Option Nat) (v:Value):(a.put d v).defers=a.defers:=by cases d<;>rfl
theorem upon_keep {F:Fence} {n:Nat} {P:Program} {o:Oper} {a:Act} {K K':Act→World→Prop} {Q Q':Exit→Act→World→Prop} {r:Result Next} (h:o.uponIn F n P a K Q r) (hc:calmR r) (hK:∀ a' w',a'.defers=a.defers→K a' w'→K' a' w') (hQ:∀ e w',Q e a w'→Q' e a w'):o.uponIn F n P a K' Q' r:=by
 cases r with
 |ok x w'=>cases x<;>simp only [calmR] at hc<;>simp only [Oper.uponIn] at h ⊢<;>exact hK _ _ (put_def _ _ _) h
 |halt x w'=>cases x<;>simp only [Oper.uponIn] at h ⊢<;>first|exact hQ _ _ h|exact h
theorem wpAny_keep {F:Fence} {P:Program} {ops:Array Oper} {Q:Exit→Act→World→Prop} {d0:List Deferred} (hc:∀ (i:Nat) (o:Oper),ops[i]?=some o→∀ (ρ:Operand→Value) (w:World),calmR ((o.semAt F.round ρ).run P w)) :
  ∀ (fuel:Nat) (listed:Array Bool) (a:Act) (w:World),a.defers=d0→wpAnyIn F 0 P .any ops Q fuel listed a w→wpAnyIn F 0 P .any ops (fun e a' w'=>Q e a' w'∧a'.defers=d0) fuel listed a w
 |0,listed,a,w,hd,h=>⟨h.1,h.2,hd⟩
 |fuel+1,listed,a,w,hd,h=>by
  refine ⟨fun hr=>⟨h.1 hr,hd⟩,fun i hi=>?_⟩
  have hh:=h.2 i hi
  unfold wpOpIn at hh ⊢
  cases ho:ops[i]? with
  |none=>simp only [ho] at hh ⊢;exact wpAny_keep hc fuel _ _ _ hd hh
  |some o =>
   simp only [ho] at hh ⊢
   split
   ·rename_i hw
    simp only [hw,if_true] at hh
    exact ⟨hh.1,upon_keep hh.2 (hc i o ho _ _) (fun a' w' e h'=>wpAny_keep hc fuel _ _ _ (e.trans hd) h') (fun e w' h'=>⟨h',hd⟩)⟩
   ·rename_i hw
    simp only [hw] at hh
    exact ⟨hh.1,wpAny_keep hc fuel _ _ _ ((put_def _ _ _).trans hd) hh.2⟩
theorem calm_v {P:Program} {w:World} (s:Sem Value):calmR ((do pure (Next.value (←s)):Sem Next).run P w):=by
 simp only [Sem.run_bind]
 cases s.run P w with
 |ok v w'=>exact trivial
 |halt x w'=>cases x<;>exact trivial
theorem calm_u {P:Program} {w:World} (s:Sem Unit):calmR ((do s;pure Next.skip:Sem Next).run P w):=by
 simp only [Sem.run_bind]
 cases s.run P w with
 |ok v w'=>exact trivial
 |halt x w'=>cases x<;>exact trivial
theorem drwD {c:Ctx} {anc:List Nat} {is:List I} {st:St} {K:Kont} (h:TRQ c (PostX c K) is st is st [] (fun lg st'=>ownOk lg anc=true∧∀ β a w,Holds c β st' a w→K .nrm st')) (n:Nat) (code:Code) (hc:cCodeF c.P c.nt n code=some (.drw anc is))
  (hcalm:∀ id ops dr,code=.region id ops dr→∀ (i:Nat) (o:Oper),ops[i]?=some o→∀ (ρ:Operand→Value) (w:World),calmR ((o.semAt c.F.round ρ).run c.P w)) (β:Names) (a:Act) (w:World) (H:Holds c β st a w) :
  code.wpIn c.F 0 c.P (fun e a' w'=>PostX c K e a' w'∧a'.defers=a.defers) a w:=by
 cases n with
 |zero=>simp [cCodeF] at hc
 |succ n =>
 cases code with
 |region id ops draw =>
  simp only [cCodeF] at hc
  split at hc
  ·rename_i is' his
   obtain ⟨hl,hcmp⟩:=cRegion_ok his
   split at hc
   ·cases hc
   ·rename_i hd
    have hd:draw=true:=by simpa using hd
    subst hd
    split at hc
    ·rename_i hh
     cases hc
     obtain ⟨ss,st',hT,hk⟩:=h
     simp only [List.nil_append] at hk
     refine wpIn_region_any hh.1 (wpAny_keep (hcalm _ _ _ rfl) _ _ _ _ rfl ?_)
     have hr0:runS (fun j=>(Array.replicate ops.size false).getD j false) 0 ((is.map (·.dst)).zip ss) st=st:=by
      have:∀ (l:List (Option Nat×Stp)) (j:Nat),runS (fun j=>(Array.replicate ops.size false).getD j false) j l st=st:=by
       intro l
       induction l with
       |nil=>intro _;rfl
       |cons p l ih =>
        intro j
        obtain ⟨d,s⟩:=p
        simp only [runS]
        have:(Array.replicate ops.size false).getD j false=false:=by
         simp only [Array.getD_eq_getD_getElem?,Array.getElem?_replicate]
         split<;>rfl
        rw [if_neg (by rw [this];simp)]
        exact ih (j+1)
      exact this _ 0
     refine wp_anyQ (c:=c) hT (by simpa using hl) (fun j o i ho hi=>hcmp j o i (by simpa using ho) hi) hh.2.1 hh.2.2 hk.1 (fun β a w H'=>.inl ⟨.nrm,rfl,β,st',hk.2 β a w H',H'⟩) H.own.nodup ops.size _ β a _ (by simp) ?_ ?_ (by rw [hr0];exact H.drew _)
     ·have:(List.range ops.size).countP (fun j=>(Array.replicate ops.size false).getD j false)=0:=by
       rw [List.countP_eq_zero]
       intro j hj
       have:=List.mem_range.1 hj
       simp [this]
      omega
     ·intro j o ho hj
      have hjl:=(Array.getElem?_eq_some_iff.1 ho).1
      simp [hjl] at hj
    ·cases hc
  ·cases hc
 |seq x y=>simp only [cCodeF] at hc;split at hc<;>cases hc
 |cond x a b=>simp only [cCodeF] at hc;split at hc<;>cases hc
 |block id a=>simp only [cCodeF,Option.map_eq_some_iff] at hc;obtain ⟨_,_,h⟩:=hc;cases h
 |loop a=>simp only [cCodeF,Option.map_eq_some_iff] at hc;obtain ⟨_,_,h⟩:=hc;cases h
 |scope a =>
  simp only [cCodeF] at hc
  split at hc
  ·split at hc
   ·split at hc<;>cases hc
   ·cases hc
  ·cases hc
 |rangeFunc g ps asg body =>
  simp only [cCodeF] at hc
  split at hc
  ·split at hc<;>cases hc
  ·cases hc
 |_=>simp [cCodeF] at hc
def covI (a b c d e n:Int):List (Nat×Go.Bx.Own):=[(6,.fix [.d (.int .i64 a),.d (.int .i64 b),.d (.int .i64 c),.d (.int .i64 d),.d (.int .i64 e)]),(7,.fix [.d (.int .i64 n)])]
theorem dCov0 (ins:List (Nat×Go.Bx.Own)) (hk:keysO ins=[6,7]):CtrD Tryz.prog 48 [6,7] none ins ins:=by
 refine ⟨ok48,by rw [hk];simp,fun k h=>h,fun E0 β w vals pv hE hsz hv hins _=>?_⟩
 obtain ⟨v,v',rfl⟩:∃ v v',vals=#[v,v']:=by
  match vals,hsz with
  |⟨[v,v']⟩,_=>exact ⟨v,v',rfl⟩
 refine (callsDIn_of_wpSIn (R:=fun e u' w'=>e=.returned (.tuple #[])∧u'=.returning∧w'=w) Tryz.func48 rfl trivial fun c₀ cs hu=>?_).mono ?_
 ·simp only [modeP] at hu
  apply wpSIn_seq
  apply wpSIn_region
  simp [wpOpsSIn,go_sem,recoverD,hu,Tryz.ntmps48,Exit.thenS]
  apply wpSIn_seq
  apply wpSIn_region
  simp [wpOpsSIn,go_sem,Tryz.ntmps48,Exit.thenS]
  refine wpSIn_cond (t:=false) (by simp [Act.eval,Array.replicate]) ?_
  simp only [Bool.false_eq_true,if_false]
  refine wpSIn_of_wpIn rfl (wpIn_skip ?_)
  cases c₀
  simp_all [bodyPostS,results,Tryz.results48]
 ·rintro e u' w' ⟨rfl,rfl,rfl⟩
  exact ⟨_,rfl,rfl,hins,Keeps.refl _ _⟩
def cvD:C:=match kc48 with
 |.seq _ (.seq _ (.cond _ x _))=>x
 |x=>x
def cvA:List Nat:=match cvD with|.drw a _=>a|_=>[]
def cvI:List I:=match cvD with|.drw _ l=>l|_=>[]
def covS (a b c d e m n:Int):St:=⟨initE 0 [.own 6 0,.own 7 0,vRef n,vRef n,vRef n,.d (.bool true)],covI a b c d e m,namesL [.own 6 0,.own 7 0,vRef n,vRef n,vRef n,.d (.bool true)]++ownNames (covI a b c d e m)⟩
theorem int_move {β β1:Names} {E E':Nat→Prop} {w:World} {v:Value} {x:V} (h:RelV β1 E w v x) (hx:∃ n,x=.d (.int .i64 n)):RelV β E' w v x:=by
 obtain ⟨n,rfl⟩:=hx
 cases h with
 |d _ _ h=>cases h;exact .d _ _ (.int _ _)
theorem own_move {E0:Nat→Prop} {β β1:Names} {w:World} {a b c d e n:Int} {own:List (Nat×Go.Bx.Own)} (h0:OwnsOk E0 β1 w own) (hl:OwnLe own (covI a b c d e n)) (h6:β1 6=β 6) (h7:β1 7=β 7):OwnsOk E0 β w (covI a b c d e n):=by
 have h:=h0.sub hl (by simp [covI,keysO])
 have hb:∀ k,k∈keysO (covI a b c d e n)→β.blk k=β1.blk k:=fun k hk=>by
  simp only [covI,keysO,List.map_cons,List.map_nil,List.mem_cons,List.not_mem_nil,or_false] at hk
  rcases hk with rfl|rfl
  ·simp [Names.blk,h6]
  ·simp [Names.blk,h7]
 refine ⟨fun k o hm=>?_,h.nodup,fun k k' hk hk' hne b hb1 hb2=>?_,fun k hk b hb1=>?_⟩
 ·obtain hok:=h.ok k o hm
  simp only [covI,List.mem_cons,Prod.mk.injEq,List.not_mem_nil,or_false] at hm
  rcases hm with ⟨rfl,rfl⟩|⟨rfl,rfl⟩
  ·obtain ⟨b',arr,e',g1,g2,g3,g4⟩:=hok
   refine ⟨b',arr,e',h6▸g1,g2,g3,fun j v x hj hx=>?_⟩
   exact int_move (g4 j v x hj hx) (by have:=List.mem_of_getElem? hx;simp at this;rcases this with rfl|rfl|rfl|rfl|rfl<;>exact ⟨_,rfl⟩)
  ·obtain ⟨b',arr,e',g1,g2,g3,g4⟩:=hok
   refine ⟨b',arr,e',h7▸g1,g2,g3,fun j v x hj hx=>?_⟩
   exact int_move (g4 j v x hj hx) (by have:=List.mem_of_getElem? hx;simp at this;exact ⟨_,this⟩)
 ·rw [hb k hk] at hb1
  rw [hb k' hk'] at hb2
  exact h.apart k k' hk hk' hne b hb1 hb2
 ·rw [hb k hk] at hb1
  exact h.lt k hk b hb1
theorem dCov1 (a b c d e m n:Int):CtrD Tryz.prog 48 [6,7] (some (vRef n)) (covI a b c d e m) (covI 0 0 0 0 0 n):=by
 refine ⟨ok48,by simp [covI,keysO],by simp [covI,keysO],fun E0 β w vals pv hE hsz hv hins hp=>?_⟩
 obtain ⟨v,v',rfl⟩:∃ v v',vals=#[v,v']:=by
  match vals,hsz with
  |⟨[v,v']⟩,_=>exact ⟨v,v',rfl⟩
 obtain rfl:pv=.iface 114 (.agg #[.int .i64 n]):=by
  have:=hp _ rfl
  cases this with
  |ifc t v x h =>
   cases h with
   |ag arr _ h1 r1 =>
    match arr,h1 with
    |⟨[u]⟩,_ =>
     have:=r1 0 u (.d (.int .i64 n)) rfl rfl
     cases this with
     |d _ _ h=>cases h;rfl
 have hpv:=hp _ rfl
 refine (callsDIn_of_wpSIn (R:=fun q u' w'=>q=.returned (.tuple #[])∧u'=.panicking [{ v:=.iface 114 (.agg #[.int .i64 n]),recovered:=true }]∧OwnsOk E0 β w' (covI 0 0 0 0 0 n)∧Keeps (ownB β (covI a b c d e m)) w w') Tryz.func48 rfl trivial fun c₀ cs hu=>?_).mono ?_
 ·simp only [modeP] at hu
  apply wpSIn_seq
  apply wpSIn_region
  simp [wpOpsSIn,go_sem,recoverD,hu,Tryz.ntmps48,Exit.thenS]
  apply wpSIn_seq
  apply wpSIn_region
  simp [wpOpsSIn,go_sem,Tryz.ntmps48,Exit.thenS]
  refine wpSIn_cond (t:=true) (by simp [Act.eval,Array.replicate]) ?_
  simp only [if_true]
  refine wpSIn_of_wpIn rfl ?_
  obtain ⟨cx,βc,e1,e2,e3,e4,e5,e6,e7,e8,e9,H⟩:=enter_own (P:=Tryz.prog) (fn:=Tryz.f48) (args:=[.own 6 0,.own 7 0,vRef n,vRef n,vRef n,.d (.bool true)]) (ins:=covI a b c d e m) (by simp only [List.length_cons,List.length_nil,Tryz.ntmps48];decide) (fun _ _=>False) hE
   (vals:=#[v,v',.iface 114 (.agg #[.int .i64 n]),.iface 114 (.agg #[.int .i64 n]),.iface 114 (.agg #[.int .i64 n]),.bool true]) rfl (fun j u y hj hy=>by
    match j,hj,hy with
    |0,hj,hy=>cases hj;cases hy;exact hv 0 _ _ rfl rfl
    |1,hj,hy=>cases hj;cases hy;exact hv 1 _ _ rfl rfl
    |2,hj,hy=>cases hj;cases hy;exact hpv
    |3,hj,hy=>cases hj;cases hy;exact hpv
    |4,hj,hy=>cases hj;cases hy;exact hpv
    |5,hj,hy=>cases hj;cases hy;exact .d _ _ (.bool _)
    |j+6,hj,hy=>simp at hj) hins
  have hF:cx.F=Fence.wide:=by simp only [Ctx.F,e7];rfl
  have hvc:TRQ cx (PostX cx (fun ex st'=>ex=.nrm∧OwnLe st'.own (covI 0 0 0 0 0 n))) cvI (covS a b c d e m n) cvI (covS a b c d e m n) [] (fun lg st'=>ownOk lg cvA=true∧∀ β a w,Holds cx β st' a w→(Ex.nrm=.nrm∧OwnLe st'.own (covI 0 0 0 0 0 n))):=by
   refine TRQ.of (vcR_ok ?_)
   simp only [cvI,cvA,cvD,covS,kc48,covI,vRef,namesL,V.names,ownNames,vcd,↓vcp,seval]
   exact ⟨rfl,fun _ _ _ _=>by simp only [enb,vcd,↓vcp,seval]⟩
  have hw:∀ code,cCodeF Tryz.prog Tryz.f48.ntmps 10 code=some (.drw cvA cvI)→(∀ id ops dr,code=.region id ops dr→∀ (i:Nat) (o:Oper),ops[i]?=some o→∀ (ρ:Operand→Value) (w:World),calmR ((o.semAt cx.F.round ρ).run cx.P w))→_:=fun code hc hcalm=>drwD hvc 10 code (by rw [e1,e5];exact hc) hcalm βc _ w H
  rw [hF,e1] at hw
  refine wpIn_mono (hw _ (by kernel_rfl) ?_) ?_
  ·intro id ops dr e0 i o ho ρ w
   injection e0 with e0 e01 e02
   subst e01
   rcases i with _|_|_|_|_|_|i<;>simp at ho<;>subst ho<;>(rw [Oper.semAt_eq _ _ _ (by intro c h;cases h)];first|exact calm_v _|exact calm_u _|exact trivial)
  rintro ex a' w' ⟨⟨ex',hx,β',st',hk,H'⟩|⟨ch,rfl,hpan⟩,hd⟩
  rotate_left
  ·obtain ⟨β1,st1,v1,y,rfl,hk,H1,hr⟩:=hpan
   rw [e9] at hk
   exact hk.elim
  obtain ⟨rfl,hle⟩:=hk
  cases ex<;>simp at hx
  have hn6:6∈cx.fn:=by rw [e6];simp [namesL,V.names]
  have hn7:7∈cx.fn:=by rw [e6];simp [namesL,V.names]
  have g:∀ (u:Value) (k:Nat) (E:Nat→Prop) (b1:Names) (W:World),RelV b1 E W u (.own k 0)→b1 k=some u:=fun u k E b1 W h=>by
   cases h with
   |own k off b h=>exact h
  have h60:βc 6=β 6:=(g v 6 _ _ _ (H.env 0)).trans (g v 6 _ _ _ (hv 0 v 6 rfl rfl)).symm
  have h70:βc 7=β 7:=(g v' 7 _ _ _ (H.env 1)).trans (g v' 7 _ _ _ (hv 1 v' 7 rfl rfl)).symm
  have h6:β' 6=β 6:=((H'.fx 6 hn6).2.trans (H.fx 6 hn6).2.symm).trans h60
  have h7:β' 7=β 7:=((H'.fx 7 hn7).2.trans (H.fx 7 hn7).2.symm).trans h70
  have hown:=own_move H'.own hle h6 h7
  rw [e2] at hown
  have hkp:=H'.kp
  rw [e3,e4] at hkp
  exact ⟨hd,_,rfl,.tuple #[],by simp [results,Tryz.results48],rfl,rfl,hown,hkp⟩
 ·rintro e' u' w' ⟨rfl,rfl,h1,h2⟩
  exact ⟨_,rfl,rfl,h1,h2⟩
end Go.Proofs.YtanppabbmffokaaGreat
end
section
namespace Go.Proofs.YtanppabbmffokaaGreat
open Go.Bx
set_option maxRecDepth 10000
def covF (h:Hi) (t:List Vs) (x:Cl):Cv×Int:=
 if rightCl x=false then (zCv,1) else if x.bk<x.lo then (zCv,4) else if x.po≠h.id then (zCv,7) else
 if (sliK h t x.bk).2≠0 then (zCv,(sliK h t x.bk).2) else
 if ((slAt (sliK h t x.bk).1 x.lo).isSome&&((slAt (sliK h t x.bk).1 x.lo).getD zSr).on)=false then (zCv,11) else
 match cvAt ((slAt (sliK h t x.bk).1 x.lo).getD zSr).cv x.pe with
 |none=>(zCv,11)
 |some c=>(c,0)
set_option maxHeartbeats 4000000 in
theorem sCovered (hh:Hi) (t:List Vs) (x:Cl) (z:SzC hh) (ht:t.length≤1000000) (hz:∀ v,v∈t→SzV v) (hsl:(sliK hh t x.bk).1.length≤9223372036854775807) (hcv:((slAt (sliK hh t x.bk).1 x.lo).getD zSr).cv.length≤9223372036854775807) :
  Ctr Tryz.prog 19 [vHi hh,.ag [.d (slV t)],vCl x] [] (.tup [.ag (cCv (covF hh t x).1),.d (.int .i64 (covF hh t x).2)]) [] []:=by
 have cr:=sRightN x
 have ck:=sSlicesK hh t x.bk z ht hz
 rw [covF]
 generalize sliK hh t x.bk=L at *
 obtain ⟨L,e⟩:=L
 simp only at ck hsl hcv ⊢
 have ca:=sSlAt L x.lo hsl
 generalize slAt L x.lo=A at *
 have cf:=sFind (A.getD zSr).cv x.pe hcv
 simp only [vHi,cHi,vCl,cCl,vSl,cSl,slC,slH,dCh,slV,dVs,slB,slS,dSl] at cr ck ca cf
 have hu:=sUnless0
 by_cases h1:rightCl x=true
 ·rw [if_neg (by rw [h1];simp)]
  rw [h1] at cr
  by_cases h2:x.bk<x.lo
  ·rw [if_pos h2]
   have d2:decide (x.bk≥x.lo)=false:=decide_eq_false (by omega)
   refine ctr_defer 48 [6,7] Tryz.func19 ok19 rfl cd19 cr19 Tryz.ntmps19 (by simp) rfl rfl ?_;intro c hP hfn;simp only [kd19,vHi,cHi,vCl,cCl,slC,slH,dCh,slV,dVs,slB,vcd,↓vcp,seval]
   rw [layK_nrm]
   simp only [vcd,↓vcp,seval]
   refine ⟨⟨_,_,rfl,trivial,by simp only [vcd,↓vcp,seval],rfl⟩,by simp [keysO],fun c2 hP2 hfn2 hrd2 hpk2=>?_⟩
   refine vcS.of ?_
   have hP0:=hP
   have hP:=hP2.trans hP
   simp only [vcd,↓vcp,seval]
   repeat' first|((first|refine tp hP (by first|exact cr|exact hu _) ?_|refine tg hP (fun _=>by first|exact cr|exact hu _) ?_|refine tv hP rfl (by first|exact cr|exact hu _) ?_);try simp only [d2,vcd,↓vcp,seval])|refine And.intro (fun h=>?_) (fun h=>?_)|refine aO ?_|(refine tA rfl rfl rfl rfl ?_;try simp only [d2,vcd,↓vcp,seval])|refine aT ?_|fail
   refine TR.cpan hP (sUnless1 4) (by repeat' first|exact trivial|(intro _;assumption)|apply And.intro) ?_
   rw [hpk2]
   refine ⟨covI 0 0 0 0 0 0,covI 0 0 0 0 0 4,by rw [hP0];exact dCov1 0 0 0 0 0 0 4,fun k o hm=>mem_own? (by simp [keysO]) (by simp only [covI,List.mem_cons,Prod.mk.injEq,List.not_mem_nil,or_false] at hm;rcases hm with ⟨rfl,rfl⟩|⟨rfl,rfl⟩<;>simp),?_,?_⟩
   ·first|(simp only [rs19,covI,rsb,vcd,↓vcp,seval];done)|trivial
   ·simp only [rs19,covI,cCv,zCv,rsb,enb,vcd,↓vcp,seval]
  ·rw [if_neg h2]
   have d2:decide (x.bk≥x.lo)=true:=decide_eq_true (by omega)
   by_cases h3:x.po=hh.id
   ·rw [if_neg (by simpa using h3)]
    have d3:(x.po == hh.id)=true:=by rw [beq_iff_eq];exact h3
    by_cases h4:e=0
    ·subst h4
     rw [if_neg (by simp)]
     have d4:((0:Int) == 0)=true:=rfl
     cases h5:(A.isSome&&(A.getD zSr).on) with
     |false =>
      rw [if_pos rfl]
      refine ctr_defer 48 [6,7] Tryz.func19 ok19 rfl cd19 cr19 Tryz.ntmps19 (by simp) rfl rfl ?_;intro c hP hfn;simp only [kd19,vHi,cHi,vCl,cCl,slC,slH,dCh,slV,dVs,slB,vcd,↓vcp,seval]
      rw [layK_nrm]
      simp only [vcd,↓vcp,seval]
      refine ⟨⟨_,_,rfl,trivial,by simp only [vcd,↓vcp,seval],rfl⟩,by simp [keysO],fun c2 hP2 hfn2 hrd2 hpk2=>?_⟩
      refine vcS.of ?_
      have hP0:=hP
      have hP:=hP2.trans hP
      simp only [vcd,↓vcp,seval]
      repeat' first|((first|refine tp hP (by first|exact cr|exact hu _|exact ck|exact ca) ?_|refine tg hP (fun _=>by first|exact cr|exact hu _|exact ck|exact ca) ?_|refine tv hP rfl (by first|exact cr|exact hu _|exact ck|exact ca) ?_);try simp only [d2,d3,d4,h5,vcd,↓vcp,seval])|refine And.intro (fun h=>?_) (fun h=>?_)|refine aO ?_|(refine tA rfl rfl rfl rfl ?_;try simp only [d2,d3,d4,h5,vcd,↓vcp,seval])|refine aT ?_|fail
      refine TR.cpan hP (sUnless1 11) (by repeat' first|exact trivial|(intro _;assumption)|apply And.intro) ?_
      rw [hpk2]
      refine ⟨covI 0 0 0 0 0 0,covI 0 0 0 0 0 11,by rw [hP0];exact dCov1 0 0 0 0 0 0 11,fun k o hm=>mem_own? (by simp [keysO]) (by simp only [covI,List.mem_cons,Prod.mk.injEq,List.not_mem_nil,or_false] at hm;rcases hm with ⟨rfl,rfl⟩|⟨rfl,rfl⟩<;>simp),?_,?_⟩
      ·first|(simp only [rs19,covI,rsb,vcd,↓vcp,seval];done)|trivial
      ·simp only [rs19,covI,cCv,zCv,rsb,enb,vcd,↓vcp,seval]
     |true =>
      rw [if_neg (by simp)]
      generalize hC:cvAt (A.getD zSr).cv x.pe=C at *
      cases C with
      |none =>
       simp only [Option.getD_none,Option.isSome_none,cCv,zCv] at cf ⊢
       refine ctr_defer 48 [6,7] Tryz.func19 ok19 rfl cd19 cr19 Tryz.ntmps19 (by simp) rfl rfl ?_;intro c hP hfn;simp only [kd19,vHi,cHi,vCl,cCl,slC,slH,dCh,slV,dVs,slB,vcd,↓vcp,seval]
       rw [layK_nrm]
       simp only [vcd,↓vcp,seval]
       refine ⟨⟨_,_,rfl,trivial,by simp only [vcd,↓vcp,seval],rfl⟩,by simp [keysO],fun c2 hP2 hfn2 hrd2 hpk2=>?_⟩
       refine vcS.of ?_
       have hP0:=hP
       have hP:=hP2.trans hP
       simp only [vcd,↓vcp,seval]
       repeat' first|((first|refine tp hP (by first|exact cr|exact hu _|exact ck|exact ca|exact cf) ?_|refine tg hP (fun _=>by first|exact cr|exact hu _|exact ck|exact ca|exact cf) ?_|refine tv hP rfl (by first|exact cr|exact hu _|exact ck|exact ca|exact cf) ?_);try simp only [d2,d3,d4,h5,vcd,↓vcp,seval])|refine And.intro (fun h=>?_) (fun h=>?_)|refine aO ?_|(refine tA rfl rfl rfl rfl ?_;try simp only [d2,d3,d4,h5,vcd,↓vcp,seval])|refine aT ?_|fail
       refine TR.cpan hP (sUnless1 11) (by repeat' first|exact trivial|(intro _;assumption)|apply And.intro) ?_
       rw [hpk2]
       refine ⟨covI 0 0 0 0 0 0,covI 0 0 0 0 0 11,by rw [hP0];exact dCov1 0 0 0 0 0 0 11,fun k o hm=>mem_own? (by simp [keysO]) (by simp only [covI,List.mem_cons,Prod.mk.injEq,List.not_mem_nil,or_false] at hm;rcases hm with ⟨rfl,rfl⟩|⟨rfl,rfl⟩<;>simp),?_,?_⟩
       ·first|(simp only [rs19,covI,rsb,vcd,↓vcp,seval];done)|trivial
       ·simp only [rs19,covI,cCv,zCv,rsb,enb,vcd,↓vcp,seval]
      |some cv =>
       simp only [Option.getD_some,Option.isSome_some,cCv] at cf ⊢
       refine ctr_defer 48 [6,7] Tryz.func19 ok19 rfl cd19 cr19 Tryz.ntmps19 (by simp) rfl rfl ?_;intro c hP hfn;simp only [kd19,vHi,cHi,vCl,cCl,slC,slH,dCh,slV,dVs,slB,vcd,↓vcp,seval]
       rw [layK_nrm]
       simp only [vcd,↓vcp,seval]
       refine ⟨⟨_,_,rfl,trivial,by simp only [vcd,↓vcp,seval],rfl⟩,by simp [keysO],fun c2 hP2 hfn2 hrd2 hpk2=>?_⟩
       refine vcS.of ?_
       have hP0:=hP
       have hP:=hP2.trans hP
       simp only [vcd,↓vcp,seval]
       repeat' first|((first|refine tp hP (by first|exact cr|exact hu _|exact ck|exact ca|exact cf) ?_|refine tg hP (fun _=>by first|exact cr|exact hu _|exact ck|exact ca|exact cf) ?_|refine tv hP rfl (by first|exact cr|exact hu _|exact ck|exact ca|exact cf) ?_);try simp only [d2,d3,d4,h5,vcd,↓vcp,seval])|refine And.intro (fun h=>?_) (fun h=>?_)|refine aO ?_|(refine tA rfl rfl rfl rfl ?_;try simp only [d2,d3,d4,h5,vcd,↓vcp,seval])|refine aT ?_|fail
       refine ⟨_,covI cv.pe cv.li cv.ag cv.de cv.sh 0,covI cv.pe cv.li cv.ag cv.de cv.sh 0,Wk.refl _ _,by rw [hP];exact dCov0 _ rfl,fun k o hm=>mem_own? (by simp [keysO]) (by simp only [covI,List.mem_cons,Prod.mk.injEq,List.not_mem_nil,or_false] at hm;rcases hm with ⟨rfl,rfl⟩|⟨rfl,rfl⟩<;>simp),?_,?_⟩
       ·first|(simp only [rs19,covI,rsb,vcd,↓vcp,seval];done)|trivial
       ·simp only [rs19,covI,rsb,enb,vcd,↓vcp,seval]
    ·rw [if_pos h4]
     have d4:(e == 0)=false:=by rw [beq_eq_false_iff_ne];exact h4
     refine ctr_defer 48 [6,7] Tryz.func19 ok19 rfl cd19 cr19 Tryz.ntmps19 (by simp) rfl rfl ?_;intro c hP hfn;simp only [kd19,vHi,cHi,vCl,cCl,slC,slH,dCh,slV,dVs,slB,vcd,↓vcp,seval]
     rw [layK_nrm]
     simp only [vcd,↓vcp,seval]
     refine ⟨⟨_,_,rfl,trivial,by simp only [vcd,↓vcp,seval],rfl⟩,by simp [keysO],fun c2 hP2 hfn2 hrd2 hpk2=>?_⟩
     refine vcS.of ?_
     have hP0:=hP
     have hP:=hP2.trans hP
     simp only [vcd,↓vcp,seval]
     repeat' first|((first|refine tp hP (by first|exact cr|exact hu _|exact ck) ?_|refine tg hP (fun _=>by first|exact cr|exact hu _|exact ck) ?_|refine tv hP rfl (by first|exact cr|exact hu _|exact ck) ?_);try simp only [d2,d3,d4,vcd,↓vcp,seval])|refine And.intro (fun h=>?_) (fun h=>?_)|refine aO ?_|(refine tA rfl rfl rfl rfl ?_;try simp only [d2,d3,d4,vcd,↓vcp,seval])|refine aT ?_|fail
     refine TR.cpan hP (sUnless1 e) (by repeat' first|exact trivial|(intro _;assumption)|apply And.intro) ?_
     rw [hpk2]
     refine ⟨covI 0 0 0 0 0 0,covI 0 0 0 0 0 e,by rw [hP0];exact dCov1 0 0 0 0 0 0 e,fun k o hm=>mem_own? (by simp [keysO]) (by simp only [covI,List.mem_cons,Prod.mk.injEq,List.not_mem_nil,or_false] at hm;rcases hm with ⟨rfl,rfl⟩|⟨rfl,rfl⟩<;>simp),?_,?_⟩
     ·first|(simp only [rs19,covI,rsb,vcd,↓vcp,seval];done)|trivial
     ·simp only [rs19,covI,cCv,zCv,rsb,enb,vcd,↓vcp,seval]
   ·rw [if_pos h3]
    have d3:(x.po == hh.id)=false:=by rw [beq_eq_false_iff_ne];exact h3
    refine ctr_defer 48 [6,7] Tryz.func19 ok19 rfl cd19 cr19 Tryz.ntmps19 (by simp) rfl rfl ?_;intro c hP hfn;simp only [kd19,vHi,cHi,vCl,cCl,slC,slH,dCh,slV,dVs,slB,vcd,↓vcp,seval]
    rw [layK_nrm]
    simp only [vcd,↓vcp,seval]
    refine ⟨⟨_,_,rfl,trivial,by simp only [vcd,↓vcp,seval],rfl⟩,by simp [keysO],fun c2 hP2 hfn2 hrd2 hpk2=>?_⟩
    refine vcS.of ?_
    have hP0:=hP
    have hP:=hP2.trans hP
    simp only [vcd,↓vcp,seval]
    repeat' first|((first|refine tp hP (by first|exact cr|exact hu _) ?_|refine tg hP (fun _=>by first|exact cr|exact hu _) ?_|refine tv hP rfl (by first|exact cr|exact hu _) ?_);try simp only [d2,d3,vcd,↓vcp,seval])|refine And.intro (fun h=>?_) (fun h=>?_)|refine aO ?_|(refine tA rfl rfl rfl rfl ?_;try simp only [d2,d3,vcd,↓vcp,seval])|refine aT ?_|fail
    refine TR.cpan hP (sUnless1 7) (by repeat' first|exact trivial|(intro _;assumption)|apply And.intro) ?_
    rw [hpk2]
    refine ⟨covI 0 0 0 0 0 0,covI 0 0 0 0 0 7,by rw [hP0];exact dCov1 0 0 0 0 0 0 7,fun k o hm=>mem_own? (by simp [keysO]) (by simp only [covI,List.mem_cons,Prod.mk.injEq,List.not_mem_nil,or_false] at hm;rcases hm with ⟨rfl,rfl⟩|⟨rfl,rfl⟩<;>simp),?_,?_⟩
    ·first|(simp only [rs19,covI,rsb,vcd,↓vcp,seval];done)|trivial
    ·simp only [rs19,covI,cCv,zCv,rsb,enb,vcd,↓vcp,seval]
 ·have h1:rightCl x=false:=by simpa using h1
  rw [if_pos h1]
  rw [h1] at cr
  refine ctr_defer 48 [6,7] Tryz.func19 ok19 rfl cd19 cr19 Tryz.ntmps19 (by simp) rfl rfl ?_;intro c hP hfn;simp only [kd19,vHi,cHi,vCl,cCl,slC,slH,dCh,slV,dVs,slB,vcd,↓vcp,seval]
  rw [layK_nrm]
  simp only [vcd,↓vcp,seval]
  refine ⟨⟨_,_,rfl,trivial,by simp only [vcd,↓vcp,seval],rfl⟩,by simp [keysO],fun c2 hP2 hfn2 hrd2 hpk2=>?_⟩
  refine vcS.of ?_
  have hP0:=hP
  have hP:=hP2.trans hP
  simp only [vcd,↓vcp,seval]
  repeat' first|((first|refine tp hP (by exact cr) ?_|refine tg hP (fun _=>by exact cr) ?_|refine tv hP rfl (by exact cr) ?_);try simp only [vcd,↓vcp,seval])|refine And.intro (fun h=>?_) (fun h=>?_)|refine aO ?_|(refine tA rfl rfl rfl rfl ?_;try simp only [vcd,↓vcp,seval])|refine aT ?_|fail
  refine TR.cpan hP (sUnless1 1) (by repeat' first|exact trivial|(intro _;assumption)|apply And.intro) ?_
  rw [hpk2]
  refine ⟨covI 0 0 0 0 0 0,covI 0 0 0 0 0 1,by rw [hP0];exact dCov1 0 0 0 0 0 0 1,fun k o hm=>mem_own? (by simp [keysO]) (by simp only [covI,List.mem_cons,Prod.mk.injEq,List.not_mem_nil,or_false] at hm;rcases hm with ⟨rfl,rfl⟩|⟨rfl,rfl⟩<;>simp),?_,?_⟩
  ·first|(simp only [rs19,covI,rsb,vcd,↓vcp,seval];done)|trivial
  ·simp only [rs19,covI,cCv,zCv,rsb,enb,vcd,↓vcp,seval]
end Go.Proofs.YtanppabbmffokaaGreat
end
section
namespace Go.Proofs.YtanppabbmffokaaGreat
open Go.Bx
set_option maxRecDepth 10000
def fewC (l:List Ch):Bool:=l.all (fun c=>decide (c.cv.length≤50))
def fewV (t:List Vs):Bool:=t.all (fun v=>decide (v.age.length≤200)&&(decide (v.zn.length≤200)&&decide (v.pr.length≤200)))
def fewF (h:Hi) (t:List Vs):Bool:=decide (h.ch.length≤60)&&(decide (t.length≤100)&&(decide (h.tm.cv.length≤50)&&(fewC h.ch&&fewV t)))
theorem fewC_drop {l:List Ch} {k:Nat} {x:Ch} (h:l.drop k=x::l.drop (k+1)):fewC (l.drop k)=(decide (x.cv.length≤50)&&fewC (l.drop (k+1))):=by
 rw [h];rfl
theorem fewV_drop {l:List Vs} {k:Nat} {x:Vs} (h:l.drop k=x::l.drop (k+1)):fewV (l.drop k)=((decide (x.age.length≤200)&&(decide (x.zn.length≤200)&&decide (x.pr.length≤200)))&&fewV (l.drop (k+1))):=by
 rw [h];rfl
set_option maxHeartbeats 2000000 in
theorem sFew (hh:Hi) (t:List Vs) (h1:hh.ch.length≤9223372036854775807) (h2:t.length≤9223372036854775807):Ctr Tryz.prog 35 [vHi hh,.ag [.d (slV t)]] [] (.d (.bool (fewF hh t))) [] []:=by
 by_cases a1:hh.ch.length≤60
 ·have d1:decide (((hh.ch.length:Nat):Int)>60)=false:=decide_eq_false (by omega)
  by_cases a2:t.length≤100
  ·have d2:decide (((t.length:Nat):Int)>100)=false:=decide_eq_false (by omega)
   by_cases a3:hh.tm.cv.length≤50
   ·have d3:decide (((hh.tm.cv.length:Nat):Int)>50)=false:=decide_eq_false (by omega)
    have e:fewF hh t=(fewC hh.ch&&fewV t):=by rw [fewF,decide_eq_true a1,decide_eq_true a2,decide_eq_true a3];rfl
    rw [e]
    refine ctr_pure Tryz.func35 ok35 rfl cc35 cr35 Tryz.ntmps35 (by simp) rfl rfl ?_;intro c hP hfn;simp only [kc35,vHi,cHi,slC,slH,dCh,slV,dVs,slB,d1,d2,d3,vcd,↓vcp,seval]
    repeat' first|refine And.intro (fun h=>?_) (fun h=>?_)|refine aO ?_|(refine tA rfl rfl rfl rfl ?_;try simp only [d1,d2,d3,vcd,↓vcp,seval])|refine aT ?_|fail
    refine vcC.loop (X:=Nat) (fun k=>⟨[(2,.own 2 0),(3,.own 3 0),(5,.d (.int .i64 k))],[(2,.fix (cHi hh)),(3,.fix [.d (slV t)])],[2,3]⟩)
     (fun k=>k≤hh.ch.length∧fewC hh.ch=fewC (hh.ch.drop k)) (fun k=>hh.ch.length-k) 0 ⟨Nat.zero_le _,rfl⟩ (Wk.of _ hfn rfl (by simp only [enb,vcd,↓vcp,seval]) (by simp only [cHi,slC,slH,dCh,slV,dVs,slB,enb,vcd,↓vcp,seval])) ?_
    rintro k ⟨hk,he⟩
    by_cases hlt:k<hh.ch.length
    ·obtain ⟨x,hd,hg,-,-⟩:=drop_at hlt
     have hg:=hg default
     have b0:decide ((k:Int)<(hh.ch.length:Int))=true:=decide_eq_true (by omega)
     have b1:(0:Int)≤(k:Int)∧(k:Int)<(hh.ch.length:Int):=by omega
     have ewk:IntKind.i64.wrap ((k:Int)+1)=((k+1:Nat):Int):=wS (by omega)
     rw [fewC_drop hd] at he
     by_cases hx:x.cv.length≤50
     ·have d4:decide (((x.cv.length:Nat):Int)>50)=false:=decide_eq_false (by omega)
      rw [decide_eq_true hx,Bool.true_and] at he
      simp only [cHi,slC,slH,dCh,slV,dVs,slB,b0,hg,d4,ewk,vcd,↓vcp,seval]
      repeat' first|refine And.intro (fun h=>?_) (fun h=>?_)|refine aO ?_|(refine tA rfl rfl rfl rfl ?_;try simp only [hg,d4,ewk,vcd,↓vcp,seval])|refine aT ?_|fail
      exact lopK.on (k+1) ⟨hlt,he⟩ (by omega) (Wk.of _ hfn rfl (by simp only [ewk,enb,vcd,↓vcp,seval]) (by simp only [cHi,slC,slH,dCh,slV,dVs,slB,enb,vcd,↓vcp,seval]))
     ·have d4:decide (((x.cv.length:Nat):Int)>50)=true:=decide_eq_true (by omega)
      rw [decide_eq_false hx,Bool.false_and] at he
      simp only [cHi,slC,slH,dCh,slV,dVs,slB,b0,hg,d4,ewk,he,vcd,↓vcp,seval]
      repeat' first|refine And.intro (fun h=>?_) (fun h=>?_)|refine aO ?_|(refine tA rfl rfl rfl rfl ?_;try simp only [hg,d4,ewk,vcd,↓vcp,seval])|refine aT ?_|fail
      exact RetK.pure (by simp only [rs35,rsb,vcd,↓vcp,seval]) (by (simp only [rs35,rsb,enb,vcd,↓vcp,seval])<;>(first|exact VLe.refl _))
    ·have b0:decide ((k:Int)<(hh.ch.length:Int))=false:=decide_eq_false (by omega)
     have e1:fewC hh.ch=true:=by rw [he,List.drop_eq_nil_of_le (by omega)];rfl
     rw [e1,Bool.true_and]
     simp only [cHi,slC,slH,dCh,slV,dVs,slB,b0,vcd,↓vcp,seval]
     repeat' first|refine And.intro (fun h=>?_) (fun h=>?_)|refine aO ?_|(refine tA rfl rfl rfl rfl ?_;try simp only [b0,vcd,↓vcp,seval])|refine aT ?_|fail
     refine vcC.loop (X:=Nat) (fun k=>⟨[(3,.own 3 0),(6,.d (.int .i64 k))],[(3,.fix [.d (slV t)])],[2,3]⟩)
      (fun k=>k≤t.length∧fewV t=fewV (t.drop k)) (fun k=>t.length-k) 0 ⟨Nat.zero_le _,rfl⟩ (Wk.of _ hfn rfl (by simp only [enb,vcd,↓vcp,seval]) (by simp only [slV,dVs,slB,enb,vcd,↓vcp,seval])) ?_
     rintro k ⟨hk,he⟩
     by_cases hlt:k<t.length
     ·obtain ⟨x,hd,hg,-,-⟩:=drop_at hlt
      have hg:=hg default
      have b0:decide ((k:Int)<(t.length:Int))=true:=decide_eq_true (by omega)
      have b1:(0:Int)≤(k:Int)∧(k:Int)<(t.length:Int):=by omega
      have ewk:IntKind.i64.wrap ((k:Int)+1)=((k+1:Nat):Int):=wS (by omega)
      rw [fewV_drop hd] at he
      by_cases hx:x.age.length≤200
      ·have d4:decide (((x.age.length:Nat):Int)>200)=false:=decide_eq_false (by omega)
       by_cases hy:x.zn.length≤200
       ·have d5:decide (((x.zn.length:Nat):Int)>200)=false:=decide_eq_false (by omega)
        by_cases hz:x.pr.length≤200
        ·have d6:decide (((x.pr.length:Nat):Int)>200)=false:=decide_eq_false (by omega)
         rw [decide_eq_true hx,decide_eq_true hy,decide_eq_true hz] at he
         simp only [slK,slV,dVs,slB,b0,hg,d4,d5,d6,ewk,vcd,↓vcp,seval]
         repeat' first|refine And.intro (fun h=>?_) (fun h=>?_)|refine aO ?_|(refine tA rfl rfl rfl rfl ?_;try simp only [hg,d4,d5,d6,ewk,vcd,↓vcp,seval])|refine aT ?_|fail
         exact lopK.on (k+1) ⟨hlt,he⟩ (by omega) (Wk.of _ hfn rfl (by simp only [ewk,enb,vcd,↓vcp,seval]) (by simp only [slK,slV,dVs,slB,enb,vcd,↓vcp,seval]))
        ·have d6:decide (((x.pr.length:Nat):Int)>200)=true:=decide_eq_true (by omega)
         rw [decide_eq_true hx,decide_eq_true hy,decide_eq_false hz] at he
         rw [show fewV t=false from he]
         simp only [slK,slV,dVs,slB,b0,hg,d4,d5,d6,ewk,vcd,↓vcp,seval]
         repeat' first|refine And.intro (fun h=>?_) (fun h=>?_)|refine aO ?_|(refine tA rfl rfl rfl rfl ?_;try simp only [hg,d4,d5,d6,ewk,vcd,↓vcp,seval])|refine aT ?_|fail
         exact RetK.pure (by simp only [rs35,rsb,vcd,↓vcp,seval]) (by (simp only [rs35,rsb,enb,vcd,↓vcp,seval])<;>(first|exact VLe.refl _))
       ·have d5:decide (((x.zn.length:Nat):Int)>200)=true:=decide_eq_true (by omega)
        rw [decide_eq_true hx,decide_eq_false hy] at he
        rw [show fewV t=false from he]
        simp only [slK,slV,dVs,slB,b0,hg,d4,d5,ewk,vcd,↓vcp,seval]
        repeat' first|refine And.intro (fun h=>?_) (fun h=>?_)|refine aO ?_|(refine tA rfl rfl rfl rfl ?_;try simp only [hg,d4,d5,ewk,vcd,↓vcp,seval])|refine aT ?_|fail
        exact RetK.pure (by simp only [rs35,rsb,vcd,↓vcp,seval]) (by (simp only [rs35,rsb,enb,vcd,↓vcp,seval])<;>(first|exact VLe.refl _))
      ·have d4:decide (((x.age.length:Nat):Int)>200)=true:=decide_eq_true (by omega)
       rw [decide_eq_false hx] at he
       rw [show fewV t=false from he]
       simp only [slK,slV,dVs,slB,b0,hg,d4,ewk,vcd,↓vcp,seval]
       repeat' first|refine And.intro (fun h=>?_) (fun h=>?_)|refine aO ?_|(refine tA rfl rfl rfl rfl ?_;try simp only [hg,d4,ewk,vcd,↓vcp,seval])|refine aT ?_|fail
       exact RetK.pure (by simp only [rs35,rsb,vcd,↓vcp,seval]) (by (simp only [rs35,rsb,enb,vcd,↓vcp,seval])<;>(first|exact VLe.refl _))
     ·have b0:decide ((k:Int)<(t.length:Int))=false:=decide_eq_false (by omega)
      have e1:fewV t=true:=by rw [he,List.drop_eq_nil_of_le (by omega)];rfl
      rw [e1]
      simp only [slV,dVs,slB,b0,vcd,↓vcp,seval]
      repeat' first|refine And.intro (fun h=>?_) (fun h=>?_)|refine aO ?_|(refine tA rfl rfl rfl rfl ?_;try simp only [b0,vcd,↓vcp,seval])|refine aT ?_|fail
      exact RetK.pure (by simp only [rs35,rsb,vcd,↓vcp,seval]) (by (simp only [rs35,rsb,enb,vcd,↓vcp,seval])<;>(first|exact VLe.refl _))
   ·have d3:decide (((hh.tm.cv.length:Nat):Int)>50)=true:=decide_eq_true (by omega)
    have e:fewF hh t=false:=by rw [fewF,decide_eq_true a1,decide_eq_true a2,decide_eq_false a3];rfl
    rw [e]
    refine ctr_pure Tryz.func35 ok35 rfl cc35 cr35 Tryz.ntmps35 (by simp) rfl rfl ?_;intro c hP hfn;simp only [kc35,vHi,cHi,slC,slH,dCh,slV,dVs,slB,d1,d2,d3,vcd,↓vcp,seval]
    repeat' first|refine And.intro (fun h=>?_) (fun h=>?_)|refine aO ?_|(refine tA rfl rfl rfl rfl ?_;try simp only [d1,d2,d3,vcd,↓vcp,seval])|refine aT ?_|fail
    exact RetK.pure (by simp only [rs35,rsb,vcd,↓vcp,seval]) (by (simp only [rs35,rsb,enb,vcd,↓vcp,seval])<;>(first|exact VLe.refl _))
  ·have d2:decide (((t.length:Nat):Int)>100)=true:=decide_eq_true (by omega)
   have e:fewF hh t=false:=by rw [fewF,decide_eq_true a1,decide_eq_false a2];rfl
   rw [e]
   refine ctr_pure Tryz.func35 ok35 rfl cc35 cr35 Tryz.ntmps35 (by simp) rfl rfl ?_;intro c hP hfn;simp only [kc35,vHi,cHi,slC,slH,dCh,slV,dVs,slB,d1,d2,vcd,↓vcp,seval]
   repeat' first|refine And.intro (fun h=>?_) (fun h=>?_)|refine aO ?_|(refine tA rfl rfl rfl rfl ?_;try simp only [d1,d2,vcd,↓vcp,seval])|refine aT ?_|fail
   exact RetK.pure (by simp only [rs35,rsb,vcd,↓vcp,seval]) (by (simp only [rs35,rsb,enb,vcd,↓vcp,seval])<;>(first|exact VLe.refl _))
 ·have d1:decide (((hh.ch.length:Nat):Int)>60)=true:=decide_eq_true (by omega)
  have e:fewF hh t=false:=by rw [fewF,decide_eq_false a1];rfl
  rw [e]
  refine ctr_pure Tryz.func35 ok35 rfl cc35 cr35 Tryz.ntmps35 (by simp) rfl rfl ?_;intro c hP hfn;simp only [kc35,vHi,cHi,slC,slH,dCh,slV,dVs,slB,d1,vcd,↓vcp,seval]
  repeat' first|refine And.intro (fun h=>?_) (fun h=>?_)|refine aO ?_|(refine tA rfl rfl rfl rfl ?_;try simp only [d1,vcd,↓vcp,seval])|refine aT ?_|fail
  exact RetK.pure (by simp only [rs35,rsb,vcd,↓vcp,seval]) (by (simp only [rs35,rsb,enb,vcd,↓vcp,seval])<;>(first|exact VLe.refl _))
theorem sPFew (hh:Hi) (t:List Vs) (x:Ch) (h1:hh.ch.length≤9223372036854775807) (h2:t.length≤9223372036854775807):Ctr Tryz.prog 9 [vHi hh,.ag [.d (slV t)],vCh x] [] (.d (.bool (fewF hh t&&decide (x.cv.length≤50)))) [] []:=by
 have cf:=sFew hh t h1 h2
 simp only [vHi,cHi,slC,slH,dCh,slV,dVs,slB] at cf
 have e:decide (((x.cv.length:Nat):Int)≤50)=decide (x.cv.length≤50):=by rw [decide_eq_decide];omega
 generalize fewF hh t=f at *
 cases f <;>
 ·refine ctr_pure Tryz.func9 ok9 rfl cc9 cr9 Tryz.ntmps9 (by simp) rfl rfl ?_;intro c hP hfn;simp only [kc9,vHi,cHi,vCh,cCh,slC,slH,dCh,slV,dVs,slB,e,vcd,↓vcp,seval]
  repeat' first|((first|refine tp hP (by exact cf) ?_|refine tg hP (fun _=>by exact cf) ?_|refine tv hP rfl (by exact cf) ?_);try simp only [e,vcd,↓vcp,seval])|refine And.intro (fun h=>?_) (fun h=>?_)|refine aO ?_|(refine tA rfl rfl rfl rfl ?_;try simp only [e,vcd,↓vcp,seval])|refine aT ?_|fail
  exact RetK.pure (by simp only [rs9,rsb,vcd,↓vcp,seval]) (by (simp only [rs9,rsb,enb,vcd,↓vcp,seval])<;>(first|simp [e]))
set_option maxHeartbeats 2000000 in
theorem rSame10 (a b:List Cv) (ha:a.length≤9223372036854775806):Ctr Tryz.prog 141 [.d (slC a),.d (slC b)] [] (.d (.bool (decide (a=b)))) [] []:=by
 by_cases hl:a.length=b.length
 ·have d0:(((a.length:Int) != (b.length:Int)))=false:=by rw [bne_eq_false_iff_eq];omega
  refine ctr_pure Tryz.func141 ok141 rfl cc141 cr141 Tryz.ntmps141 (by simp) rfl rfl ?_;intro c hP hfn;simp only [kc141,slC,d0,vcd,↓vcp,seval]
  repeat' first|refine And.intro (fun h=>?_) (fun h=>?_)|refine aO ?_|(refine tA rfl rfl rfl rfl ?_;try simp only [d0,vcd,↓vcp,seval])|refine aT ?_|fail
  refine vcC.loop (X:=Nat) (fun k=>⟨[(0,.d (slC a)),(1,.d (slC b)),(5,.d (.int .i64 k))],[],[]⟩)
   (fun k=>k≤a.length∧∀ j,j<k→a.getD j default=b.getD j default) (fun k=>a.length-k) 0 ⟨Nat.zero_le _,fun j hj=>absurd hj (Nat.not_lt_zero j)⟩ (Wk.of _ hfn rfl (by simp only [slC,enb,vcd,↓vcp,seval]) (by simp only [enb,vcd,↓vcp,seval])) ?_
  rintro k ⟨hk,he⟩
  by_cases hlt:k<a.length
  ·obtain ⟨x,hd,hg,-,-⟩:=drop_at hlt
   obtain ⟨y,hd2,hg2,-,-⟩:=drop_at (l:=b) (k:=k) (by omega)
   have b0:decide ((k:Int)<(a.length:Int))=true:=decide_eq_true (by omega)
   have ewk:IntKind.i64.wrap ((k:Int)+1)=((k+1:Nat):Int):=wS (by omega)
   simp only [slC,hg,hg2,b0,ewk,vcd,↓vcp,seval]
   repeat' first|refine And.intro (fun h=>?_) (fun h=>?_)|refine aO ?_|(refine tA rfl rfl rfl rfl ?_;try simp only [hg,hg2,ewk,vcd,↓vcp,seval])|refine aT ?_|fail
   ·have hx:eqCv x y=false:=by rw [eqCv,←Bool.not_eq_true'];exact h
    have:a≠b:=by
     intro e
     rw [eqCv_iff.2 (by rw [←hg default,←hg2 default,e])] at hx
     exact absurd hx (by decide)
    exact RetK.pure (by simp only [rs141,rsb,vcd,↓vcp,seval]) (by (simp only [rs141,rsb,enb,vcd,↓vcp,seval])<;>(first|simp [this]))
   ·have hx:x=y:=eqCv_iff.1 (by rw [eqCv,←Bool.not_eq_false'];exact h)
    refine lopK.on (k+1) ⟨hlt,fun j hj=>?_⟩ (by omega) (Wk.of _ hfn rfl (by simp only [enb,vcd,↓vcp,seval]) (by simp only [enb,vcd,↓vcp,seval]))
    rcases Nat.lt_succ_iff_lt_or_eq.1 hj with h1|h1
    ·exact he j h1
    ·rw [h1,hg,hg2,hx]
  ·have b0:decide ((k:Int)<(a.length:Int))=false:=decide_eq_false (by omega)
   have:a=b:=by
    apply List.ext_getElem hl
    intro j h1 h2
    have:=he j (by omega)
    simpa [List.getD_eq_getElem?_getD,h1,h2] using this
   simp only [slC,b0,vcd,↓vcp,seval]
   repeat' first|refine And.intro (fun h=>?_) (fun h=>?_)|refine aO ?_|(refine tA rfl rfl rfl rfl ?_;try simp only [b0,vcd,↓vcp,seval])|refine aT ?_|fail
   exact RetK.pure (by simp only [rs141,rsb,vcd,↓vcp,seval]) (by (simp only [rs141,rsb,enb,vcd,↓vcp,seval])<;>(first|simp [this]))
 ·have d0:(((a.length:Int) != (b.length:Int)))=true:=by rw [bne_iff_ne];omega
  have:a≠b:=fun e=>hl (by rw [e])
  refine ctr_pure Tryz.func141 ok141 rfl cc141 cr141 Tryz.ntmps141 (by simp) rfl rfl ?_;intro c hP hfn;simp only [kc141,slC,d0,vcd,↓vcp,seval]
  repeat' first|refine And.intro (fun h=>?_) (fun h=>?_)|refine aO ?_|(refine tA rfl rfl rfl rfl ?_;try simp only [d0,vcd,↓vcp,seval])|refine aT ?_|fail
  exact RetK.pure (by simp only [rs141,rsb,vcd,↓vcp,seval]) (by (simp only [rs141,rsb,enb,vcd,↓vcp,seval])<;>(first|simp [this]))
def likeB (a b:Sl):Bool:=(a.on == b.on)&&(eqRk a.rk b.rk&&decide (a.cv=b.cv))
theorem rLike12 (a b:Sl) (ha:a.cv.length≤9223372036854775806):Ctr Tryz.prog 99 [vSl a,vSl b] [] (.d (.bool (likeB a b))) [] []:=by
 have cs:=rSame10 a.cv b.cv ha
 simp only [slC] at cs
 rw [likeB]
 generalize decide (a.cv=b.cv)=f at *
 by_cases h1:a.on=b.on
 ·have d1:(a.on == b.on)=true:=by rw [beq_iff_eq];exact h1
  by_cases h2:eqRk a.rk b.rk=true
  ·have d2:=h2
   rw [eqRk] at d2
   refine ctr_pure Tryz.func99 ok99 rfl cc99 cr99 Tryz.ntmps99 (by simp) rfl rfl ?_;intro c hP hfn;simp only [kc99,vSl,cSl,slC,d1,d2,vcd,↓vcp,seval]
   repeat' first|((first|refine tp hP (by exact cs) ?_|refine tg hP (fun _=>by exact cs) ?_|refine tv hP rfl (by exact cs) ?_);try simp only [d1,d2,vcd,↓vcp,seval])|refine And.intro (fun h=>?_) (fun h=>?_)|refine aO ?_|(refine tA rfl rfl rfl rfl ?_;try simp only [d1,d2,vcd,↓vcp,seval])|refine aT ?_|fail
   exact RetK.pure (by simp only [rs99,rsb,vcd,↓vcp,seval]) (by (simp only [rs99,rsb,enb,vcd,↓vcp,seval])<;>(first|simp [h1,h2]))
  ·have d2:eqRk a.rk b.rk=false:=by simpa using h2
   have h2:=d2
   rw [eqRk] at d2
   refine ctr_pure Tryz.func99 ok99 rfl cc99 cr99 Tryz.ntmps99 (by simp) rfl rfl ?_;intro c hP hfn;simp only [kc99,vSl,cSl,slC,d1,d2,vcd,↓vcp,seval]
   repeat' first|((first|refine tp hP (by exact cs) ?_|refine tg hP (fun _=>by exact cs) ?_|refine tv hP rfl (by exact cs) ?_);try simp only [d1,d2,vcd,↓vcp,seval])|refine And.intro (fun h=>?_) (fun h=>?_)|refine aO ?_|(refine tA rfl rfl rfl rfl ?_;try simp only [d1,d2,vcd,↓vcp,seval])|refine aT ?_|fail
   exact RetK.pure (by simp only [rs99,rsb,vcd,↓vcp,seval]) (by (simp only [rs99,rsb,enb,vcd,↓vcp,seval])<;>(first|simp [h1,h2]))
 ·have d1:(a.on == b.on)=false:=by rw [beq_eq_false_iff_ne];exact h1
  refine ctr_pure Tryz.func99 ok99 rfl cc99 cr99 Tryz.ntmps99 (by simp) rfl rfl ?_;intro c hP hfn;simp only [kc99,vSl,cSl,slC,d1,vcd,↓vcp,seval]
  repeat' first|((first|refine tp hP (by exact cs) ?_|refine tg hP (fun _=>by exact cs) ?_|refine tv hP rfl (by exact cs) ?_);try simp only [d1,vcd,↓vcp,seval])|refine And.intro (fun h=>?_) (fun h=>?_)|refine aO ?_|(refine tA rfl rfl rfl rfl ?_;try simp only [d1,vcd,↓vcp,seval])|refine aT ?_|fail
  exact RetK.pure (by simp only [rs99,rsb,vcd,↓vcp,seval]) (by (simp only [rs99,rsb,enb,vcd,↓vcp,seval])<;>(first|simp [h1]))
def same12 (a b:Sl):Bool:=((a.sf == b.sf)&&(a.st == b.st))&&((a.yr == b.yr)&&likeB a b)
theorem rSame12 (a b:Sl) (ha:a.cv.length≤9223372036854775806):Ctr Tryz.prog 56 [vSl a,vSl b] [] (.d (.bool (same12 a b))) [] []:=by
 have cs:=rLike12 a b ha
 simp only [vSl,cSl,slC] at cs
 rw [same12]
 generalize likeB a b=f at *
 cases d1:((a.sf == b.sf)&&(a.st == b.st)) with
 |false =>
  refine ctr_pure Tryz.func56 ok56 rfl cc56 cr56 Tryz.ntmps56 (by simp) rfl rfl ?_;intro c hP hfn;simp only [kc56,vSl,cSl,slC,d1,vcd,↓vcp,seval]
  repeat' first|((first|refine tp hP (by exact cs) ?_|refine tg hP (fun _=>by exact cs) ?_|refine tv hP rfl (by exact cs) ?_);try simp only [d1,vcd,↓vcp,seval])|refine And.intro (fun h=>?_) (fun h=>?_)|refine aO ?_|(refine tA rfl rfl rfl rfl ?_;try simp only [d1,vcd,↓vcp,seval])|refine aT ?_|fail
  exact RetK.pure (by simp only [rs56,rsb,vcd,↓vcp,seval]) (by (simp only [rs56,rsb,enb,vcd,↓vcp,seval])<;>(first|simp))
 |true =>
  cases d2:(a.yr == b.yr) with
  |false =>
   refine ctr_pure Tryz.func56 ok56 rfl cc56 cr56 Tryz.ntmps56 (by simp) rfl rfl ?_;intro c hP hfn;simp only [kc56,vSl,cSl,slC,d1,d2,vcd,↓vcp,seval]
   repeat' first|((first|refine tp hP (by exact cs) ?_|refine tg hP (fun _=>by exact cs) ?_|refine tv hP rfl (by exact cs) ?_);try simp only [d1,d2,vcd,↓vcp,seval])|refine And.intro (fun h=>?_) (fun h=>?_)|refine aO ?_|(refine tA rfl rfl rfl rfl ?_;try simp only [d1,d2,vcd,↓vcp,seval])|refine aT ?_|fail
   exact RetK.pure (by simp only [rs56,rsb,vcd,↓vcp,seval]) (by (simp only [rs56,rsb,enb,vcd,↓vcp,seval])<;>(first|simp))
  |true =>
   refine ctr_pure Tryz.func56 ok56 rfl cc56 cr56 Tryz.ntmps56 (by simp) rfl rfl ?_;intro c hP hfn;simp only [kc56,vSl,cSl,slC,d1,d2,vcd,↓vcp,seval]
   repeat' first|((first|refine tp hP (by exact cs) ?_|refine tg hP (fun _=>by exact cs) ?_|refine tv hP rfl (by exact cs) ?_);try simp only [d1,d2,vcd,↓vcp,seval])|refine And.intro (fun h=>?_) (fun h=>?_)|refine aO ?_|(refine tA rfl rfl rfl rfl ?_;try simp only [d1,d2,vcd,↓vcp,seval])|refine aT ?_|fail
   exact RetK.pure (by simp only [rs56,rsb,vcd,↓vcp,seval]) (by (simp only [rs56,rsb,enb,vcd,↓vcp,seval])<;>(first|simp))
theorem same12_iff {a b:Sl}:same12 a b=true↔a=b:=by
 obtain ⟨a1,a2,a3,a4,a5,a6⟩:=a
 obtain ⟨b1,b2,b3,b4,b5,b6⟩:=b
 simp only [same12,likeB,Bool.and_eq_true,eqRk_iff,beq_iff_eq,decide_eq_true_eq,Sl.mk.injEq]
 constructor
 ·rintro ⟨⟨h1,h2⟩,h3,h4,h5,h6⟩;exact ⟨h1,h2,h4,h5,h6,h3⟩
 ·rintro ⟨h1,h2,h4,h5,h6,h3⟩;exact ⟨⟨h1,h2⟩,h3,h4,h5,h6⟩
instance:DecidableEq Sl:=fun a b=>decidable_of_iff (same12 a b=true) same12_iff
set_option maxHeartbeats 2000000 in
theorem rAll (a b:List Sl) (ha:a.length≤9223372036854775806) (hc:∀ s,s∈a→s.cv.length≤9223372036854775806):Ctr Tryz.prog 22 [.d (slS a),.d (slS b)] [] (.d (.bool (decide (a=b)))) [] []:=by
 by_cases hl:a.length=b.length
 ·have d0:(((a.length:Int) != (b.length:Int)))=false:=by rw [bne_eq_false_iff_eq];omega
  refine ctr_pure Tryz.func22 ok22 rfl cc22 cr22 Tryz.ntmps22 (by simp) rfl rfl ?_;intro c hP hfn;simp only [kc22,slS,dSl,slC,d0,vcd,↓vcp,seval]
  repeat' first|refine And.intro (fun h=>?_) (fun h=>?_)|refine aO ?_|(refine tA rfl rfl rfl rfl ?_;try simp only [d0,vcd,↓vcp,seval])|refine aT ?_|fail
  refine vcC.loop (X:=Nat) (fun k=>⟨[(0,.d (slS a)),(1,.d (slS b)),(5,.d (.int .i64 k))],[],[]⟩)
   (fun k=>k≤a.length∧∀ j,j<k→a.getD j default=b.getD j default) (fun k=>a.length-k) 0 ⟨Nat.zero_le _,fun j hj=>absurd hj (Nat.not_lt_zero j)⟩ (Wk.of _ hfn rfl (by simp only [slS,dSl,slC,enb,vcd,↓vcp,seval]) (by simp only [enb,vcd,↓vcp,seval])) ?_
  rintro k ⟨hk,he⟩
  by_cases hlt:k<a.length
  ·obtain ⟨x,hd,hg,hm,-⟩:=drop_at hlt
   obtain ⟨y,hd2,hg2,-,-⟩:=drop_at (l:=b) (k:=k) (by omega)
   have b0:decide ((k:Int)<(a.length:Int))=true:=decide_eq_true (by omega)
   have ewk:IntKind.i64.wrap ((k:Int)+1)=((k+1:Nat):Int):=wS (by omega)
   have cs:=rSame12 x y (hc x hm)
   simp only [vSl,cSl,slC] at cs
   by_cases hx:x=y
   ·rw [same12_iff.2 hx] at cs
    simp only [slS,dSl,slC,hg,hg2,b0,ewk,vcd,↓vcp,seval]
    repeat' first|((first|refine tp hP (by exact cs) ?_|refine tg hP (fun _=>by exact cs) ?_|refine tv hP rfl (by exact cs) ?_);try simp only [hg,hg2,ewk,vcd,↓vcp,seval])|refine And.intro (fun h=>?_) (fun h=>?_)|refine aO ?_|(refine tA rfl rfl rfl rfl ?_;try simp only [hg,hg2,ewk,vcd,↓vcp,seval])|refine aT ?_|fail
    refine lopK.on (k+1) ⟨hlt,fun j hj=>?_⟩ (by omega) (Wk.of _ hfn rfl (by simp only [slS,dSl,slC,ewk,enb,vcd,↓vcp,seval]) (by simp only [enb,vcd,↓vcp,seval]))
    rcases Nat.lt_succ_iff_lt_or_eq.1 hj with h1|h1
    ·exact he j h1
    ·rw [h1,hg,hg2,hx]
   ·have hx2:same12 x y=false:=by rw [←Bool.not_eq_true,same12_iff];exact hx
    rw [hx2] at cs
    have:a≠b:=by
     intro e
     exact hx (by rw [←hg default,←hg2 default,e])
    simp only [slS,dSl,slC,hg,hg2,b0,ewk,vcd,↓vcp,seval]
    repeat' first|((first|refine tp hP (by exact cs) ?_|refine tg hP (fun _=>by exact cs) ?_|refine tv hP rfl (by exact cs) ?_);try simp only [hg,hg2,ewk,vcd,↓vcp,seval])|refine And.intro (fun h=>?_) (fun h=>?_)|refine aO ?_|(refine tA rfl rfl rfl rfl ?_;try simp only [hg,hg2,ewk,vcd,↓vcp,seval])|refine aT ?_|fail
    exact RetK.pure (by simp only [rs22,rsb,vcd,↓vcp,seval]) (by (simp only [rs22,rsb,enb,vcd,↓vcp,seval])<;>(first|simp [this]))
  ·have b0:decide ((k:Int)<(a.length:Int))=false:=decide_eq_false (by omega)
   have:a=b:=by
    apply List.ext_getElem hl
    intro j h1 h2
    have:=he j (by omega)
    simpa [List.getD_eq_getElem?_getD,h1,h2] using this
   simp only [slS,dSl,slC,b0,vcd,↓vcp,seval]
   repeat' first|refine And.intro (fun h=>?_) (fun h=>?_)|refine aO ?_|(refine tA rfl rfl rfl rfl ?_;try simp only [b0,vcd,↓vcp,seval])|refine aT ?_|fail
   exact RetK.pure (by simp only [rs22,rsb,vcd,↓vcp,seval]) (by (simp only [rs22,rsb,enb,vcd,↓vcp,seval])<;>(first|simp [this]))
 ·have d0:(((a.length:Int) != (b.length:Int)))=true:=by rw [bne_iff_ne];omega
  have:a≠b:=fun e=>hl (by rw [e])
  refine ctr_pure Tryz.func22 ok22 rfl cc22 cr22 Tryz.ntmps22 (by simp) rfl rfl ?_;intro c hP hfn;simp only [kc22,slS,dSl,slC,d0,vcd,↓vcp,seval]
  repeat' first|refine And.intro (fun h=>?_) (fun h=>?_)|refine aO ?_|(refine tA rfl rfl rfl rfl ?_;try simp only [d0,vcd,↓vcp,seval])|refine aT ?_|fail
  exact RetK.pure (by simp only [rs22,rsb,vcd,↓vcp,seval]) (by (simp only [rs22,rsb,enb,vcd,↓vcp,seval])<;>(first|simp [this]))
end Go.Proofs.YtanppabbmffokaaGreat
end
section
namespace Go.Proofs.YtanppabbmffokaaGreat
open Go.Bx
set_option maxRecDepth 10000
def DLe (x y:D):Prop:=∀ E w v,RelD E w v x→RelD E w v y
theorem DLe.refl (x:D):DLe x x:=fun _ _ _ h=>h
theorem DLe.v {x y:D} (h:DLe x y):VLe (.d x) (.d y):=fun β E w v hv=>by
 cases hv with
 |d _ _ hv=>exact .d _ _ (h _ _ _ hv)
def DsLe:List D→List D→Prop
 |[],[]=>True
 |x::xs,y::ys=>DLe x y∧DsLe xs ys
 |_,_=>False
theorem DsLe.get:∀ {xs ys:List D},DsLe xs ys→xs.length=ys.length∧∀ (j:Nat) (y:D),ys[j]?=some y→∃ x,xs[j]?=some x∧DLe x y
 |[],[],_=>⟨rfl,fun j y h=>by simp at h⟩
 |x::xs,y::ys,h=>by
  obtain ⟨e,hr⟩:=DsLe.get h.2
  refine ⟨by simp [e],fun j b hb=>?_⟩
  cases j with
  |zero=>simp at hb;subst hb;exact ⟨x,rfl,h.1⟩
  |succ j=>simpa using hr j b (by simpa using hb)
 |[],_::_,h=>h.elim
 |_::_,[],h=>h.elim
theorem DLe.sl {full full':Bool} {sz sz' n n':Nat} {f f':Nat→List D} (hn:n=n') (hz:0<n→sz=sz') (hb:full'=true→full=true) (hf:∀ i,i<n→DsLe (f i) (f' i)):DLe (.sl full sz n f) (.sl full' sz' n' f'):=by
 subst hn
 intro E w v hv
 cases hv with
 |nil _ _ _ _=>exact .nil _ _ _ _
 |sl _ _ _ _ b off c g hc hfu hl hcell hrel =>
  rcases Nat.eq_zero_or_pos n with h0|h0
  ·subst h0
   exact .sl _ _ _ _ b off c g hc (fun h=>hfu (hb h)) (fun i hi=>by omega) (fun i j hi=>by omega) (fun i j hi=>by omega)
  ·have:=hz h0
   subst this
   refine .sl _ _ _ _ b off c g hc (fun h=>hfu (hb h)) (fun i hi=>((hf i hi).get.1).symm.trans (hl i hi)) hcell (fun i j hi hj x hx=>?_)
   obtain ⟨y,h1,h2⟩:=(hf i hi).get.2 j x hx
   exact h2 _ _ _ (hrel i j hi hj y h1)
def pV:Vs:=⟨1,10000,0,0,0,[],[10000],[10000,10000,10000,10000,10000,10000,10000,10000],0⟩
def pH:Hi:=⟨1,1,⟨1,101,⟨0,36500,0,0⟩,[⟨1,10,10,0,10000⟩]⟩,[]⟩
def pC:Ch:=⟨5,41,3,⟨0,0,0,0⟩,[],0⟩
def pS:List Sl:=[⟨1,101,true,⟨0,36500,0,0⟩,[⟨1,10,10,0,10000⟩],36500⟩]
def pB:List Bl:=[⟨1,5000,0⟩,⟨182,5000,0⟩]
theorem sPolicy:Ctr Tryz.prog 33 [] [] (.tup [vHi pH,.ag [.d (slV [pV])]]) [] []:=by
 refine ctr_pure Tryz.func33 ok33 rfl cc33 cr33 Tryz.ntmps33 (by simp) rfl rfl ?_;intro c hP hfn;simp only [kc33,vcd,↓vcp,seval]
 repeat' first|refine And.intro (fun h=>?_) (fun h=>?_)|refine aO ?_|(refine tA rfl rfl rfl rfl ?_;try simp only [vcd,↓vcp,seval])|refine aT ?_|fail
 have n0:∀ {sz:Nat} {f g:Nat→List D},DLe (.sl true 0 0 f) (.sl false sz 0 g):=DLe.sl rfl (fun h=>by omega) (fun h=>by cases h) (fun i hi=>by omega)
 refine RetK.pure (by simp only [rs33,rsb,vcd,↓vcp,seval]) ?_
 simp only [rs33,rsb,vcd,↓vcp,seval]
 refine VLe.tups ⟨VLe.ags ⟨VLe.refl _,VLe.refl _,VLe.refl _,VLe.refl _,VLe.refl _,VLe.refl _,VLe.refl _,VLe.refl _,DLe.v (DLe.sl rfl (fun _=>rfl) (fun h=>by cases h) (fun i hi=>?_)),DLe.v n0,trivial⟩,VLe.ags ⟨DLe.v (DLe.sl rfl (fun _=>rfl) (fun h=>by cases h) (fun i hi=>?_)),trivial⟩,trivial⟩
 ·obtain rfl:i=0:=by omega
  exact ⟨DLe.refl _,DLe.refl _,DLe.refl _,DLe.refl _,DLe.refl _,trivial⟩
 ·obtain rfl:i=0:=by omega
  refine ⟨DLe.refl _,DLe.refl _,DLe.refl _,DLe.refl _,DLe.refl _,n0,DLe.sl rfl (fun _=>rfl) (fun h=>by cases h) (fun i hi=>?_),DLe.sl rfl (fun _=>rfl) (fun h=>by cases h) (fun i hi=>?_),DLe.refl _,trivial⟩
  ·obtain rfl:i=0:=by omega
   exact ⟨DLe.refl _,trivial⟩
  ·rcases i with _|_|_|_|_|_|_|_|i<;>first|exact ⟨DLe.refl _,trivial⟩|omega
set_option maxHeartbeats 2000000 in
theorem sAlive:Ctr Tryz.prog 8 [] [] (.d (.bool true)) [] []:=by
 have hz:SzC pH:=⟨by decide,by decide,fun c h=>by simp [pH] at h⟩
 have hv:∀ v,v∈[pV]→SzV v:=fun v h=>by
  rw [List.mem_singleton] at h;subst h
  exact ⟨by decide,by decide,by decide⟩
 have k0:=sPolicy
 have k1:=sDueF pH [pV] hz (by decide) hv
 rw [show dueF pH [pV]=(10000,0) by decide +kernel] at k1
 have k2:=sOfS pH [pV] hz (by decide) hv
 rw [show ofS pH [pV]=(pS,0) by decide +kernel] at k2
 have k3:=sUptoF pS 41 (by decide)
 rw [show uptoF pS 41=(4000,0) by decide +kernel] at k3
 have k4:=sGivenF pH [pV] pC hz (by decide) hv (by decide)
 rw [show givenF pH [pV] pC=(6000,0) by decide +kernel] at k4
 have k5:=sPlan 10000 1 101 2
 rw [show planR 10000 1 101 2=(pB,0) by decide +kernel] at k5
 have k6:=rSame pB pB (by decide) (by decide)
 rw [decide_eq_true rfl] at k6
 have k7:Ctr Tryz.prog 34 [.d (slL pB),.d (.sl true 3 2 (litRow 3 [.int .i64 1,.int .i64 5000,.int .i64 0,.int .i64 182,.int .i64 5000,.int .i64 0]))] [] (.d (.bool true)) [] []:=
  k6.arg ⟨VLe.refl _,VLe_slL rfl (by intro i hi;rcases i with _|_|i<;>first|rfl|omega),trivial⟩
 have k8:Ctr Tryz.prog 12 [vHi pH,.ag [.d (slV [pV])],.ag [.d (.int .i64 5),.d (.int .i64 41),.d (.int .i64 3),.d (.int .i64 0),.d (.int .i64 0),.d (.int .i64 0),.d (.int .i64 0),.d (.sl true 0 0 fun _=>[]),.d (.int .i64 0)]] [] (.tup [.d (.int .i64 6000),.d (.int .i64 0)]) [] []:=
  k4.arg ⟨VLe.refl _,VLe.refl _,VLe.ags ⟨VLe.refl _,VLe.refl _,VLe.refl _,VLe.refl _,VLe.refl _,VLe.refl _,VLe.refl _,vle_nil,VLe.refl _,trivial⟩,trivial⟩
 have b1:∀ i:Int,(i == i)=true:=fun i=>by simp
 obtain ⟨h1,h2,h3,h4,h5,h6,h7⟩:pH.id=1∧pH.bk=1∧pH.tm.sf=1∧pH.tm.st=101∧pH.tm.rk=⟨0,36500,0,0⟩∧pH.tm.cv=pH.tm.cv∧pH.ch=pH.ch:=⟨rfl,rfl,rfl,rfl,rfl,rfl,rfl⟩
 simp only [vHi,cHi,h1,h2,h3,h4,h5] at k0 k1 k2 k8
 simp only [vS] at k5
 generalize slV [pV]=t at *
 generalize slH pH.ch=z at *
 generalize slC pH.tm.cv=y at *
 generalize slS pS=x at *
 refine ctr_pure Tryz.func8 ok8 rfl cc8 cr8 Tryz.ntmps8 (by simp) rfl rfl ?_;intro c hP hfn;simp only [kc8,vcd,↓vcp,seval]
 repeat' first|((first|refine tp hP (by first|exact k0|exact k1|exact k2|exact k3|exact k8|exact k5|exact k7) ?_|refine tg hP (fun _=>by first|exact k0|exact k1|exact k2|exact k3|exact k8|exact k5|exact k7) ?_|refine tv hP rfl (by first|exact k0|exact k1|exact k2|exact k3|exact k8|exact k5|exact k7) ?_);try simp only [b1,Int.reduceBEq,vcd,↓vcp,seval])|refine And.intro (fun h=>?_) (fun h=>?_)|refine aO ?_|(refine tA rfl rfl rfl rfl ?_;try simp only [b1,Int.reduceBEq,vcd,↓vcp,seval])|refine aT ?_|fail
 all_goals exact RetK.pure (by simp only [rs8,rsb,vcd,↓vcp,seval]) (by (simp only [rs8,rsb,enb,vcd,↓vcp,seval])<;>(first|exact VLe.refl _))
end Go.Proofs.YtanppabbmffokaaGreat
end
section
namespace Go.Proofs.YtanppabbmffokaaGreat
open Go.Bx
set_option maxRecDepth 10000
theorem few_sz {h:Hi} {t:List Vs} (e:fewF h t=true):SzC h∧t.length≤1000000∧∀ v,v∈t→SzV v:=by
 simp only [fewF,fewC,fewV,Bool.and_eq_true,decide_eq_true_eq,List.all_eq_true] at e
 obtain ⟨h1,h2,h3,h4,h5⟩:=e
 refine ⟨⟨by omega,by omega,fun c hc=>by have:=h4 c hc;omega⟩,by omega,fun v hv=>?_⟩
 have:=h5 v hv
 exact ⟨by omega,by omega,by omega⟩
theorem putC_ok {h:Hi} {c:Ch} (e:(putC h c).2=0):(putC h c).1={ h with ch:=h.ch++[c] }:=by
 revert e
 rw [putC]
 by_cases h1:(rightCh c&&inT h.tm c.dy)=false
 ·rw [if_pos h1];simp
 ·rw [if_neg h1]
  by_cases h2:c.bk<lastB h
  ·rw [if_pos h2];simp
  ·rw [if_neg h2]
   by_cases h3:h.ch.length≥2000
   ·rw [if_pos h3];simp
   ·rw [if_neg h3];simp
theorem atK_app {h:Hi} {c:Ch} {on:Int} (hb:on<c.bk):atK { h with ch:=h.ch++[c] } on=atK h on:=by
 have e:uptoL (h.ch++[c]) on=uptoL h.ch on:=by
  rw [uptoL,List.filter_append]
  have:List.filter (fun c=>decide (c.bk≤on)) [c]=[]:=by simp;omega
  rw [this,List.append_nil];rfl
 rw [atK,atK]
 by_cases h1:h.bk>on
 ·rw [if_pos h1,if_pos h1]
 ·rw [if_neg h1,if_neg h1]
  simp only [e]
theorem sliK_app {h:Hi} {c:Ch} {t:List Vs} {on:Int} (hb:on<c.bk):sliK { h with ch:=h.ch++[c] } t on=sliK h t on:=by
 rw [sliK,sliK,atK_app hb]
theorem covF_app {h:Hi} {c:Ch} {t:List Vs} {x:Cl} (hb:x.bk<c.bk):covF { h with ch:=h.ch++[c] } t x=covF h t x:=by
 rw [covF,covF,sliK_app hb]
theorem ofS_cv {h:Hi} {t:List Vs} (z:SzC h):∀ s,s∈(ofS h t).1→s.cv.length≤1000000:=by
 have h2:=(cutS_ok z).2
 intro s hs
 rw [ofS] at hs
 by_cases h1:rightHi h=false
 ·rw [if_pos h1] at hs;simp at hs
 ·rw [if_neg h1] at hs
  cases hv:atV t h.tm.sf with
  |none=>rw [hv] at hs;simp at hs
  |some v =>
   rw [hv] at hs
   simp only at hs
   by_cases h3:errP v (cutS h)=0
   ·rw [if_pos h3] at hs
    simp only [List.mem_map] at hs
    obtain ⟨s',h4,rfl⟩:=hs
    have:=h2 s' h4
    rw [mapP];split<;>exact this
   ·rw [if_neg h3] at hs;simp at hs
theorem sliK_sz {h:Hi} {t:List Vs} (z:SzC h) (on:Int):(sliK h t on).1.length≤200000∧∀ s,s∈(sliK h t on).1→s.cv.length≤1000000:=by
 have z2:=atK_sz z on
 have h1:=(cutS_ok z2).1
 have h2:=z2.n
 rw [sliK]
 by_cases h3:(atK h on).2≠0
 ·rw [if_pos h3];simp
 ·rw [if_neg h3]
  refine ⟨?_,ofS_cv z2⟩
  unfold ofS
  repeat' split
  all_goals simp
  omega
theorem slAt_cv {l:List Sl} {d:Int} (h:∀ s,s∈l→s.cv.length≤1000000):((slAt l d).getD zSr).cv.length≤9223372036854775807:=by
 cases e:slAt l d with
 |none=>simp [zSr]
 |some s =>
  have:=h s (List.mem_of_find?_eq_some e)
  simp only [Option.getD_some];omega
set_option maxHeartbeats 4000000 in
theorem lNever (hh:Hi) (t:List Vs) (x:Ch) (cl:Cl) (on by':Int) (h1:hh.ch.length≤9223372036854775807) (h2:t.length≤9223372036854775807) :
  Ctr Tryz.prog 4 [vHi hh,.ag [.d (slV t)],vCh x,vCl cl,.d (.int .i64 on),.d (.int .i64 by')] [] (.d (.bool true)) [] []:=by
 have k0:=sAlive
 have kf:=sPFew hh t x h1 h2
 simp only [vHi,cHi,vCh,cCh,slC,slH,dCh,slV,dVs,slB] at kf
 cases hf:(fewF hh t&&decide (x.cv.length≤50)) with
 |false =>
  rw [hf] at kf
  refine ctr_pure Tryz.func4 ok4 rfl cc4 cr4 Tryz.ntmps4 (by simp) rfl rfl ?_;intro c hP hfn;simp only [kc4,vHi,cHi,vCh,cCh,vCl,cCl,slC,slH,dCh,slV,dVs,slB,vcd,↓vcp,seval]
  repeat' first|((first|refine tp hP (by first|exact k0|exact kf) ?_|refine tg hP (fun _=>by first|exact k0|exact kf) ?_|refine tv hP rfl (by first|exact k0|exact kf) ?_);try simp only [vcd,↓vcp,seval])|refine And.intro (fun h=>?_) (fun h=>?_)|refine aO ?_|(refine tA rfl rfl rfl rfl ?_;try simp only [vcd,↓vcp,seval])|refine aT ?_|fail
  exact RetK.pure (by simp only [rs4,rsb,vcd,↓vcp,seval]) (by (simp only [rs4,rsb,enb,vcd,↓vcp,seval])<;>(first|exact VLe.refl _))
 |true =>
  rw [hf] at kf
  rw [Bool.and_eq_true,decide_eq_true_eq] at hf
  obtain ⟨z,ht,hz⟩:=few_sz hf.1
  by_cases hb:x.bk≤on
  ·have d1:decide (x.bk≤on)=true:=decide_eq_true hb
   refine ctr_pure Tryz.func4 ok4 rfl cc4 cr4 Tryz.ntmps4 (by simp) rfl rfl ?_;intro c hP hfn;simp only [kc4,vHi,cHi,vCh,cCh,vCl,cCl,slC,slH,dCh,slV,dVs,slB,d1,vcd,↓vcp,seval]
   repeat' first|((first|refine tp hP (by first|exact k0|exact kf) ?_|refine tg hP (fun _=>by first|exact k0|exact kf) ?_|refine tv hP rfl (by first|exact k0|exact kf) ?_);try simp only [d1,vcd,↓vcp,seval])|refine And.intro (fun h=>?_) (fun h=>?_)|refine aO ?_|(refine tA rfl rfl rfl rfl ?_;try simp only [d1,vcd,↓vcp,seval])|refine aT ?_|fail
   exact RetK.pure (by simp only [rs4,rsb,vcd,↓vcp,seval]) (by (simp only [rs4,rsb,enb,vcd,↓vcp,seval])<;>(first|exact VLe.refl _))
  have d1:decide (x.bk≤on)=false:=decide_eq_false hb
  have hb:on<x.bk:=by omega
  have hcv:x.cv.length≤1000000:=by omega
  have kp:=sPutC hh x z.t hcv (by have:=z.n;omega)
  have zX:=putC_sz z hcv
  have n0:((0:Int) != 0)=false:=rfl
  by_cases e1:(putC hh x).2=0
  ·have hX:=putC_ok e1
   rw [e1] at kp
   have ka:=sAtK hh on z
   have ka2:=sAtK (putC hh x).1 on zX
   have ks:=sSlicesK hh t on z ht hz
   have ks2:=sSlicesK (putC hh x).1 t on zX ht hz
   have hs:=sliK_sz (t:=t) z on
   have kd:=sDueF (atK hh on).1 t (atK_sz z on) ht hz
   have ku:=sUptoF (sliK hh t on).1 by' (by omega)
   have kr:=rAll (sliK hh t on).1 (sliK hh t on).1 (by omega) (fun s hs'=>by have:=hs.2 s hs';omega)
   rw [decide_eq_true rfl] at kr
   have hsc:=sliK_sz (t:=t) z cl.bk
   have hsc2:=sliK_sz (t:=t) zX cl.bk
   have kc:=sCovered hh t cl z ht hz (by omega) (slAt_cv hsc.2)
   have kc2:=sCovered (putC hh x).1 t cl zX ht hz (by omega) (slAt_cv hsc2.2)
   have ec:cl.bk≤on→covF (putC hh x).1 t cl=covF hh t cl:=fun g=>by rw [hX];exact covF_app (by omega)
   rw [hX,atK_app hb] at ka2
   rw [hX,sliK_app hb] at ks2
   rw [←hX] at ka2 ks2
   have c2:∀ i:Int,(i == i)=true:=fun i=>by simp
   have c3:∀ i:Int,(i != i)=false:=fun i=>by simp
   clear hs hsc hsc2 h1 h2 zX hcv hX
   generalize putC hh x=X at *
   obtain ⟨X,xe⟩:=X
   simp only at ka2 ks2 kc2 kp ec
   generalize atK hh on=A at *
   obtain ⟨A,ae⟩:=A
   generalize sliK hh t on=S at *
   obtain ⟨S,se⟩:=S
   simp only at ka ka2 ks ks2 kd ku kr
   generalize dueF A t=D at *
   obtain ⟨dv,de⟩:=D
   generalize uptoF S by'=U at *
   obtain ⟨uv,ue⟩:=U
   simp only [vHi,cHi,vCh,cCh,vCl,cCl,slC,slH,dCh,slV,dVs,slB,slS,dSl] at ka ka2 ks ks2 kd ku kr kc kc2 kp
   by_cases hcl:cl.bk≤on
   ·have d2:decide (cl.bk≤on)=true:=decide_eq_true hcl
    rw [ec hcl] at kc2
    generalize covF hh t cl=C at *
    obtain ⟨C,ce⟩:=C
    simp only [cCv] at kc kc2
    by_cases e2:ae=0
    ·subst e2
     refine ctr_pure Tryz.func4 ok4 rfl cc4 cr4 Tryz.ntmps4 (by simp) rfl rfl ?_;intro c hP hfn;simp only [kc4,vHi,cHi,vCh,cCh,vCl,cCl,slC,slH,dCh,slV,dVs,slB,d1,vcd,↓vcp,seval]
     repeat' first|((first|refine tp hP (by first|exact k0|exact kf|exact kp|exact ka|exact ka2|exact kc|exact kc2|exact ks|exact ks2|exact kd|exact ku|exact kr) ?_|refine tg hP (fun _=>by first|exact k0|exact kf|exact kp|exact ka|exact ka2|exact kc|exact kc2|exact ks|exact ks2|exact kd|exact ku|exact kr) ?_|refine tv hP rfl (by first|exact k0|exact kf|exact kp|exact ka|exact ka2|exact kc|exact kc2|exact ks|exact ks2|exact kd|exact ku|exact kr) ?_);try simp only [d1,d2,n0,c2,c3,vcd,↓vcp,seval])|refine And.intro (fun h=>?_) (fun h=>?_)|refine aO ?_|(refine tA rfl rfl rfl rfl ?_;try simp only [d1,d2,n0,c2,c3,vcd,↓vcp,seval])|refine aT ?_|fail
     exact RetK.pure (by simp only [rs4,rsb,vcd,↓vcp,seval]) (by (simp only [rs4,rsb,enb,vcd,↓vcp,seval])<;>(first|exact VLe.refl _))
    ·have n1:(ae != 0)=true:=bne_iff_ne.2 e2
     refine ctr_pure Tryz.func4 ok4 rfl cc4 cr4 Tryz.ntmps4 (by simp) rfl rfl ?_;intro c hP hfn;simp only [kc4,vHi,cHi,vCh,cCh,vCl,cCl,slC,slH,dCh,slV,dVs,slB,d1,vcd,↓vcp,seval]
     repeat' first|((first|refine tp hP (by first|exact k0|exact kf|exact kp|exact ka|exact ka2|exact kc|exact kc2) ?_|refine tg hP (fun _=>by first|exact k0|exact kf|exact kp|exact ka|exact ka2|exact kc|exact kc2) ?_|refine tv hP rfl (by first|exact k0|exact kf|exact kp|exact ka|exact ka2|exact kc|exact kc2) ?_);try simp only [d1,d2,n0,n1,c2,c3,vcd,↓vcp,seval])|refine And.intro (fun h=>?_) (fun h=>?_)|refine aO ?_|(refine tA rfl rfl rfl rfl ?_;try simp only [d1,d2,n0,n1,c2,c3,vcd,↓vcp,seval])|refine aT ?_|fail
     exact RetK.pure (by simp only [rs4,rsb,vcd,↓vcp,seval]) (by (simp only [rs4,rsb,enb,vcd,↓vcp,seval])<;>(first|exact VLe.refl _))
   ·have d2:decide (cl.bk≤on)=false:=decide_eq_false hcl
    clear kc kc2
    by_cases e2:ae=0
    ·subst e2
     refine ctr_pure Tryz.func4 ok4 rfl cc4 cr4 Tryz.ntmps4 (by simp) rfl rfl ?_;intro c hP hfn;simp only [kc4,vHi,cHi,vCh,cCh,vCl,cCl,slC,slH,dCh,slV,dVs,slB,d1,vcd,↓vcp,seval]
     repeat' first|((first|refine tp hP (by first|exact k0|exact kf|exact kp|exact ka|exact ka2|exact ks|exact ks2|exact kd|exact ku|exact kr) ?_|refine tg hP (fun _=>by first|exact k0|exact kf|exact kp|exact ka|exact ka2|exact ks|exact ks2|exact kd|exact ku|exact kr) ?_|refine tv hP rfl (by first|exact k0|exact kf|exact kp|exact ka|exact ka2|exact ks|exact ks2|exact kd|exact ku|exact kr) ?_);try simp only [d1,d2,n0,c2,c3,vcd,↓vcp,seval])|refine And.intro (fun h=>?_) (fun h=>?_)|refine aO ?_|(refine tA rfl rfl rfl rfl ?_;try simp only [d1,d2,n0,c2,c3,vcd,↓vcp,seval])|refine aT ?_|fail
     exact RetK.pure (by simp only [rs4,rsb,vcd,↓vcp,seval]) (by (simp only [rs4,rsb,enb,vcd,↓vcp,seval])<;>(first|exact VLe.refl _))
    ·have n1:(ae != 0)=true:=bne_iff_ne.2 e2
     refine ctr_pure Tryz.func4 ok4 rfl cc4 cr4 Tryz.ntmps4 (by simp) rfl rfl ?_;intro c hP hfn;simp only [kc4,vHi,cHi,vCh,cCh,vCl,cCl,slC,slH,dCh,slV,dVs,slB,d1,vcd,↓vcp,seval]
     repeat' first|((first|refine tp hP (by first|exact k0|exact kf|exact kp|exact ka|exact ka2) ?_|refine tg hP (fun _=>by first|exact k0|exact kf|exact kp|exact ka|exact ka2) ?_|refine tv hP rfl (by first|exact k0|exact kf|exact kp|exact ka|exact ka2) ?_);try simp only [d1,d2,n0,n1,c2,c3,vcd,↓vcp,seval])|refine And.intro (fun h=>?_) (fun h=>?_)|refine aO ?_|(refine tA rfl rfl rfl rfl ?_;try simp only [d1,d2,n0,n1,c2,c3,vcd,↓vcp,seval])|refine aT ?_|fail
     exact RetK.pure (by simp only [rs4,rsb,vcd,↓vcp,seval]) (by (simp only [rs4,rsb,enb,vcd,↓vcp,seval])<;>(first|exact VLe.refl _))
  ·have n1:((putC hh x).2 != 0)=true:=bne_iff_ne.2 e1
   generalize putC hh x=X at *
   obtain ⟨X,xe⟩:=X
   simp only at n1 kp
   simp only [vHi,cHi,vCh,cCh,slC,slH,dCh,slV,dVs,slB] at kp
   refine ctr_pure Tryz.func4 ok4 rfl cc4 cr4 Tryz.ntmps4 (by simp) rfl rfl ?_;intro c hP hfn;simp only [kc4,vHi,cHi,vCh,cCh,vCl,cCl,slC,slH,dCh,slV,dVs,slB,d1,vcd,↓vcp,seval]
   repeat' first|((first|refine tp hP (by first|exact k0|exact kf|exact kp) ?_|refine tg hP (fun _=>by first|exact k0|exact kf|exact kp) ?_|refine tv hP rfl (by first|exact k0|exact kf|exact kp) ?_);try simp only [d1,n1,vcd,↓vcp,seval])|refine And.intro (fun h=>?_) (fun h=>?_)|refine aO ?_|(refine tA rfl rfl rfl rfl ?_;try simp only [d1,n1,vcd,↓vcp,seval])|refine aT ?_|fail
   exact RetK.pure (by simp only [rs4,rsb,vcd,↓vcp,seval]) (by (simp only [rs4,rsb,enb,vcd,↓vcp,seval])<;>(first|exact VLe.refl _))
end Go.Proofs.YtanppabbmffokaaGreat
end
section
namespace Go.Proofs.YtanppabbmffokaaGreat
open Go.ChangeShapes Go.WideShapes Go.ChangeAt Go.RowKit Go.Bx
theorem claim_reads:Reads Tryz.prog 60 6 (fun x:Cl=>[.int .i64 x.id,.int .i64 x.po,.int .i64 x.pe,.int .i64 x.lo,.int .i64 x.bk,.int .i64 x.ev]) (fun _=>True):=
 (Reads.struct Tryz.underlying60 (FR.cons rfl int_reads (FR.cons rfl int_reads (FR.cons rfl int_reads (FR.cons rfl int_reads (FR.cons rfl int_reads (FR.cons rfl int_reads FR.nil)))))) (by kernel_rfl)).map (fun x=>⟨x.1,x.2.1,x.2.2.1,x.2.2.2.1,x.2.2.2.2.1,x.2.2.2.2.2.1⟩) _ _ (fun _=>rfl) (fun _=>rfl) (fun _ _=>trivial)
end Go.Proofs.YtanppabbmffokaaGreat
end
section
namespace Go.Proofs.YtanppabbmffokaaGreat
open Go.ChangeShapes Go.WideShapes Go.ChangeAt Go.RowKit Go.Bx
set_option maxRecDepth 100000
theorem topKnownNever_lifted (os:Os) (started:os.Started) (H:Type) (enc:TypeId×Value→H) :
  ReturnsInHanded {} Tryz.checked os 4 .any (Rows.topKnownNeverSpec.pre6 enc Tryz.prog Tryz.f4 Rows.topKnownNeverRow.domain false) (Rows.topKnownNeverSpec.post enc Tryz.prog Tryz.f4 false true false false):=by
 refine returnsInHanded_of_change (C:=Tryz.checked) Tryz.own started (by kernel_rfl) Tryz.func4
  (ChangeSpec.witness6 (enc:=enc) (C:=Tryz.checked) false ⟨#[],#[.agg #[.int .i64 0,.int .i64 0,.int .i64 0,.int .i64 0,.int .i64 0,.int .i64 0,.int .i64 0,.int .i64 0,.slice none 0 0,.slice none 0 0],.agg #[.slice none 0 0],.agg #[.int .i64 0,.int .i64 0,.int .i64 0,.int .i64 0,.int .i64 0,.int .i64 0,.int .i64 0,.slice none 0 0,.int .i64 0],.agg #[.int .i64 0,.int .i64 0,.int .i64 0,.int .i64 0,.int .i64 0,.int .i64 0],.int .i64 0,.int .i64 0],[]⟩ 8 (by kernel_rfl) (by kernel_rfl) (by kernel_rfl) (by kernel_rfl)) ?_
 intro W base args ds gs before hval hW _ _
 refine law_calls (tb:=4) Tryz.laidOut (by kernel_rfl) (by kernel_rfl) Tryz.underlying4 rfl ?_ ?_ W base args ds gs before hval hW
 ·intro ds hd
  match ds,hd with
  |[_,_,_,_,_,_],_=>rfl
 ·intro W base args ds p hval hA
  rw [show Tryz.f4.params.toList=[31,34,36,60,3,3] by kernel_rfl] at hA
  obtain ⟨v0,v1,v2,v3,v4,v5,d0,d1,d2,d3,d4,d5,p0,p1,p2,p3,p4,p5,rfl,rfl,_,h0,h1,h2,h3,h4,h5⟩:=trodAll_six hA
  obtain ⟨h,hk,r0⟩:=history_reads.agg (by kernel_rfl) (hval 0 31 v0 rfl rfl) h0
  obtain ⟨t,tk,r1⟩:=tariff_reads.agg (by kernel_rfl) (hval 1 34 v1 rfl rfl) h1
  obtain ⟨x,xk,r2⟩:=change_reads.agg (by kernel_rfl) (hval 2 36 v2 rfl rfl) h2
  obtain ⟨cl,clk,r3⟩:=claim_reads.agg (by kernel_rfl) (hval 3 60 v3 rfl rfl) h3
  obtain ⟨on,onk,r4⟩:=int_reads.cell (by kernel_rfl) (hval 4 3 v4 rfl rfl) h4
  obtain ⟨bb,bbk,r5⟩:=int_reads.cell (by kernel_rfl) (hval 5 3 v5 rfl rfl) h5
  exact ⟨[vHi h,.ag [.d (slV t)],vCh x,vCl cl,.d (.int .i64 on),.d (.int .i64 bb)],rfl,rel6 r0 r1 r2 r3 r4 r5,lNever h t x cl on bb hk.2.2.1 tk.1⟩
theorem topKnownNever_holds:Rows.TopKnownNeverSaid:=
 OpenClaim.holds_of_wide 4 Tryz.f4 rfl rfl rfl rfl rfl rfl rfl ⟨rfl,rfl,rfl,rfl,rfl⟩ rfl rfl rfl rfl rfl (by kernel_rfl) Tryz.func4 (by kernel_rfl)
  (of_decide_eq_true (by kernel_rfl)) (by unfold Func.isWrapper;first|(rw [if_pos (by decide +kernel)];kernel_rfl)|(rw [if_neg (by decide +kernel)];exact ⟨rfl,rfl⟩))
  (fun os started H enc _=>topKnownNever_lifted os started H enc)
end Go.Proofs.YtanppabbmffokaaGreat
end
