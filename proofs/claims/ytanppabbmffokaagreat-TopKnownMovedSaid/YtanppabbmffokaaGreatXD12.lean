import Derived.Test.YtanppabbmffokaaGreatXD11
import Derived.Shelf.SlSortCmp.NoneTotal
import Derived.Shelf.SlicesG.Cmp
import Derived.Ground.SlsfProg
import Derived.Ground.SlgcProg
import Derived.Ground.NamesProg
set_option linter.unusedSimpArgs false
set_option linter.unusedVariables false
section
namespace Go.Proofs.YtanppabbmffokaaGreat
open Go.Bx
set_option maxRecDepth 10000
def betR (l:List Sl) (a b:Int):V:=.tup [betV l a b,.d (.int .i64 (betF l a b).2)]
theorem own_vac {E0:Nat→Prop} {β:Names} {w:World} {own:List (Nat×Go.Bx.Own)} {k:Nat} (h:OwnsOk E0 β w own) (hk:own? own k=some (.fix [vNo])):False:=by
 obtain ⟨b,arr,e,_,_,hsz,hv⟩:=h.ok k _ (own?_mem hk)
 have h0:0<arr.size:=by rw [hsz];simp
 exact vNo_no (hv 0 arr[0] vNo (Array.getElem?_eq_getElem h0) rfl)
theorem TRQ.panU {c:Ctx} {K0:Kont} {IS:List I} {s0:St} {d:Option Nat} {f:Nat} {xs:List X} {is:List I} {K:List Lg→St→Prop} {st:St} {acc:List Lg} {P:Program} (hP:c.P=P) {x:V} (k:Nat) (hS:CtrP P f (evVs st xs) x) (hs:evSs true st xs)
  (hk:∀ st1:St,(∀ j,j∈[k]→own? st1.own j=own? st.own j)→(∀ k,(∀ ii,ii∈IS→ii.dst≠some k)→get st1.env k=get s0.env k)→c.pk x st1)
  (h:TRQ c (PostX c K0) IS s0 is (st.stp d { val:=vNo,upd:=[(k,some (.fix [vNo]))],rd:=[k],new:=[] }) (acc++[⟨[k],[k]⟩]) K):TRQ c (PostX c K0) IS s0 (⟨d,none,.call f xs⟩::is) st acc K:=by
 refine TRQ.cons { val:=vNo,upd:=[(k,some (.fix [vNo]))],rd:=[k],new:=[] } (fun st1 h1 h2 _ h4 ops o hc β a w H K hK=>?_) (fun k hk=>by simp at hk) h
 have hsl:∀ k,k∈xsSlots xs→get st1.env k=get st.env k:=fun k hk=>h1 k (gslots_call k hk)
 have hS':CtrP c.P f (evVs st1 xs) x:=by rw [evVs_congr hsl,hP];exact hS
 have hs':evSs true st1 xs:=by rw [evSs_congr hsl];exact hs
 obtain ⟨q1,q2⟩:=panics_call (d:=d) hS' hs' ops o hc β a w H (PostX c K0) K (fun β' a' w' v H' hv=>.inr ⟨_,rfl,β',st1,v,x,rfl,hk st1 h2 h4,H',hv⟩)
 rw [if_pos q1]
 exact q2
theorem TRQ.vacO {c:Ctx} {Q:Exit→Act→World→Prop} {IS:List I} {s0:St} {i:I} {is:List I} {K:List Lg→St→Prop} {st:St} {acc:List Lg} (k:Nat) (hg:own? st.own k=some (.fix [vNo])) (h:TRQ c Q IS s0 is (st.stp i.dst { val:=vNo,upd:=[],rd:=[k],new:=[] }) (acc++[⟨[k],[]⟩]) K):TRQ c Q IS s0 (i::is) st acc K:=by
 refine TRQ.cons { val:=vNo,upd:=[],rd:=[k],new:=[] } (fun st1 _ h2 _ _ ops o hc β a w H K hK=>?_) (fun k hk=>by simp at hk) h
 exact (own_vac H.own (by rw [h2 k (by simp),hg])).elim
def betS (P:List (Int×Int)) (a b:Int):St:=⟨[(3,.own 3 0),(5,.own 5 0),(6,.own 6 0)],[(3,.fix [.d (.int .i64 a),.d (.int .i64 b)]),(5,.fix [.d (.int .i64 0)]),(6,.fix (cSt P))],[3,5,6]⟩
set_option maxHeartbeats 2000000 in
theorem sBet (l:List Sl) (a b:Int) (hl:l.length≤9223372036854775807):Ctr Tryz.prog 29 [.d (slS l),vS a b] [] (betR l a b) [] []:=by
 cases hc:curS l with
 |none =>
  have e:betF l a b=(0,1):=by rw [betF,hc]
  have cp:=sCurveP l hc hl
  simp only [slS,dSl,slC] at cp
  rw [betR,betV,e]
  refine ctr_defer 53 [5] Tryz.func29 ok29 rfl cd29 cr29 Tryz.ntmps29 (by simp) rfl rfl ?_;intro c hP hfn;simp only [kd29,slS,dSl,slC,vS,vcd,↓vcp,seval]
  rw [layK_nrm]
  simp only [vcd,↓vcp,seval]
  refine ⟨⟨_,_,rfl,trivial,by simp only [vcd,↓vcp,seval],rfl⟩,by simp [keysO],fun c2 hP2 hfn2 hrd2 hpk2=>?_⟩
  refine vcS.of ?_
  simp only [vcd,↓vcp,seval]
  refine TR.cpan (hP2.trans hP) cp (by repeat' first|exact trivial|(intro _;assumption)|apply And.intro) ?_
  rw [hpk2]
  refine ⟨[(5,.fix [.d (.int .i64 0)])],[(5,.fix [.d (.int .i64 1)])],by rw [hP];exact dTold1 5 0 1,fun k o hm=>mem_own? (by simp [keysO]) (List.mem_cons_of_mem _ hm),?_,?_⟩
  ·first|(simp only [rs29,rsb,vcd,↓vcp,seval];done)|trivial
  ·simp only [rs29,rsb,enb,vcd,↓vcp,seval]
   exact VLe.tups ⟨VLe.un _,VLe.refl _,trivial⟩
 |some P =>
  have hPl:=curS_len hc
  have cc:=sCurve l P hc
  have cr:=sSpanRight a b
  simp only [slS,dSl,slC,vSt,cSt,slK,List.length_map] at cc
  simp only [vS] at cr
  cases ho:okS a b with
  |false =>
   have e:betF l a b=(0,1):=by rw [betF,hc];simp only [ho,if_true]
   rw [ho] at cr
   rw [betR,betV,e]
   refine ctr_defer 53 [5] Tryz.func29 ok29 rfl cd29 cr29 Tryz.ntmps29 (by simp) rfl rfl ?_;intro c hP hfn;simp only [kd29,slS,dSl,slC,vS,vcd,↓vcp,seval]
   rw [layK_nrm]
   simp only [vcd,↓vcp,seval]
   refine ⟨⟨_,_,rfl,trivial,by simp only [vcd,↓vcp,seval],rfl⟩,by simp [keysO],fun c2 hP2 hfn2 hrd2 hpk2=>?_⟩
   refine vcS.of ?_
   have hP:=hP2.trans hP
   simp only [vcd,↓vcp,seval]
   repeat' first|((first|refine tp hP (by first|exact cc|exact cr) ?_|refine tg hP (fun _=>by first|exact cc|exact cr) ?_|refine tv hP rfl (by first|exact cc|exact cr) ?_);try simp only [vcd,↓vcp,seval])|refine ⟨fun h=>?_,fun h=>?_⟩|refine aO ?_|refine aT ?_|fail
   refine TR.cpan hP (sMust1 1 (by decide)) (by repeat' first|exact trivial|(intro _;assumption)|apply And.intro) ?_
   rw [hpk2]
   refine ⟨[(5,.fix [.d (.int .i64 0)])],[(5,.fix [.d (.int .i64 1)])],by rw [←hP2,hP];exact dTold1 5 0 1,fun k o hm=>mem_own? (by simp [keysO]) (by simp only [List.mem_cons,List.not_mem_nil,or_false] at hm;simp [hm]),?_,?_⟩
   ·first|(simp only [rs29,rsb,vcd,↓vcp,seval];done)|trivial
   ·simp only [rs29,rsb,enb,vcd,↓vcp,seval]
    exact VLe.tups ⟨VLe.un _,VLe.refl _,trivial⟩
  |true =>
   rw [ho] at cr
   have e:betF l a b=if (uptoR P b).2≠0 then (0,(uptoR P b).2) else if (uptoR P a).2≠0 then (0,(uptoR P a).2) else (IntKind.i64.wrap ((uptoR P b).1-(uptoR P a).1),0):=by rw [betF,hc];simp only [ho,if_neg (show ¬ (true=false) by simp)]
   by_cases h1:(uptoR P b).2=0
   ·by_cases h2:(uptoR P a).2=0
    ·have e1:betF l a b=(IntKind.i64.wrap ((uptoR P b).1-(uptoR P a).1),0):=by rw [e,if_neg (by simpa using h1),if_neg (by simpa using h2)]
     have u1:=sUptoR P b (by omega) h1
     have u2:=sUptoR P a (by omega) h2
     simp only [vSt,cSt,slK,List.length_map] at u1 u2
     rw [betR,betV,e1]
     refine ctr_defer 53 [5] Tryz.func29 ok29 rfl cd29 cr29 Tryz.ntmps29 (by simp) rfl rfl ?_;intro c hP hfn;simp only [kd29,slS,dSl,slC,vS,vcd,↓vcp,seval]
     rw [layK_nrm]
     simp only [vcd,↓vcp,seval]
     refine ⟨⟨_,_,rfl,trivial,by simp only [vcd,↓vcp,seval],rfl⟩,by simp [keysO],fun c2 hP2 hfn2 hrd2 hpk2=>?_⟩
     refine vcS.of ?_
     have hP:=hP2.trans hP
     simp only [vcd,↓vcp,seval]
     repeat' first|((first|refine tp hP (by first|exact cc|exact cr|exact u1|exact u2) ?_|refine tg hP (fun _=>by first|exact cc|exact cr|exact u1|exact u2) ?_|refine tv hP rfl (by first|exact cc|exact cr|exact u1|exact u2) ?_);try simp only [vcd,↓vcp,seval])|refine ⟨fun h=>?_,fun h=>?_⟩|refine aO ?_|refine aT ?_|fail
     refine ⟨_,[(5,.fix [.d (.int .i64 0)])],[(5,.fix [.d (.int .i64 0)])],Wk.refl _ _,by rw [hP];exact dTold0 5 0,fun k o hm=>mem_own? (by simp [keysO]) (by simp only [List.mem_cons,List.not_mem_nil,or_false] at hm;simp [hm]),?_,?_⟩
     ·first|(simp only [rs29,rsb,vcd,↓vcp,seval];done)|trivial
     ·simp only [rs29,rsb,enb,vcd,↓vcp,seval]
    ·have e1:betF l a b=(0,(uptoR P a).2):=by rw [e,if_neg (by simpa using h1),if_pos h2]
     have u1:=sUptoR P b (by omega) h1
     have u2:=sUptoP P a (by omega) h2
     simp only [vSt,cSt,slK,List.length_map] at u1 u2
     rw [betR,betV,e1,if_neg h2]
     refine ctr_defer 53 [5] Tryz.func29 ok29 rfl cd29 cr29 Tryz.ntmps29 (by simp) rfl rfl ?_;intro c hP hfn;simp only [kd29,slS,dSl,slC,vS,vcd,↓vcp,seval]
     rw [layK_nrm]
     simp only [vcd,↓vcp,seval]
     refine ⟨⟨_,_,rfl,trivial,by simp only [vcd,↓vcp,seval],rfl⟩,by simp [keysO],fun c2 hP2 hfn2 hrd2 hpk2=>?_⟩
     have hP0:=hP
     have hP:=hP2.trans hP
     refine vcS.seq (K1:=fun e st'=>e=.nrm∧Wk c2 st' (betS P a b)) (vcS.of ?_) (fun st' h=>⟨betS P a b,h.2,?_⟩) (fun i st' h=>by cases h.1) (fun st' h=>by cases h.1)
     ·simp only [vcd,↓vcp,seval]
      repeat' first|((first|refine tp hP (by exact cc) ?_|refine tg hP (fun _=>by exact cc) ?_|refine tv hP rfl (by exact cc) ?_);try simp only [vcd,↓vcp,seval])|refine ⟨fun h=>?_,fun h=>?_⟩|refine aO ?_|refine aT ?_|fail
      exact Wk.of _ hfn2 rfl (by simp only [betS,enb,vcd,↓vcp,seval]) (by simp only [betS,cSt,slK,List.length_map,enb,vcd,↓vcp,seval])
     refine vcS.seq (K1:=fun e st'=>e=.nrm∧Wk c2 st' (betS P a b)) (vcS.of ?_) (fun st' h=>⟨betS P a b,h.2,?_⟩) (fun i st' h=>by cases h.1) (fun st' h=>by cases h.1)
     ·simp only [betS,cSt,vcd,↓vcp,seval]
      repeat' first|((first|refine tp hP (by exact cr) ?_|refine tg hP (fun _=>by exact cr) ?_|refine tv hP rfl (by exact cr) ?_);try simp only [vcd,↓vcp,seval])|refine ⟨fun h=>?_,fun h=>?_⟩|refine aO ?_|refine aT ?_|fail
      exact Wk.of _ hfn2 rfl (by simp only [betS,enb,vcd,↓vcp,seval]) (by simp only [betS,cSt,enb,vcd,↓vcp,seval])
     refine vcS.seq (K1:=fun _ _=>False) (vcS.drw ?_) (fun st' h=>h.elim) (fun i st' h=>h.elim) (fun st' h=>h.elim)
     refine TRQ.app (pre:=[_,_,_,_,_,_,_]) ?_
     refine vcR_ok ?_
     simp only [betS,cSt,slK,List.length_map,vcd,↓vcp,seval]
     repeat' first|((first|refine tp hP (by exact u1) ?_|refine tg hP (fun _=>by exact u1) ?_|refine tv hP rfl (by exact u1) ?_);try simp only [vcd,↓vcp,seval])|refine ⟨fun h=>?_,fun h=>?_⟩|refine aO ?_|refine aT ?_|fail
     refine TRQ.panU hP 5 u2 (by simp only [vcd,↓vcp,seval]) (fun st1 h1 h2=>by rw [hpk2,hP0];exact pan5 (h1 5 (by simp)) (h2 5 (by simp)) _) ?_
     refine TRQ.vacO 5 (by simp only [St.stp,applyU,vcd,↓vcp,seval]) ?_
     refine TRQ.vacO 5 (by simp only [St.stp,applyU,vcd,↓vcp,seval]) ?_
     refine TRQ.vacO 5 (by simp only [St.stp,applyU,vcd,↓vcp,seval]) ?_
     refine ⟨[],_,.nil _,?_,?_⟩
     ·rfl
     ·intro β a w H
      exact own_vac (k:=5) H.own (by simp only [St.stp,applyU,vcd,↓vcp,seval])
   ·have e1:betF l a b=(0,(uptoR P b).2):=by rw [e,if_pos h1]
    have u1:=sUptoP P b (by omega) h1
    simp only [vSt,cSt,slK,List.length_map] at u1
    rw [betR,betV,e1,if_neg h1]
    refine ctr_defer 53 [5] Tryz.func29 ok29 rfl cd29 cr29 Tryz.ntmps29 (by simp) rfl rfl ?_;intro c hP hfn;simp only [kd29,slS,dSl,slC,vS,vcd,↓vcp,seval]
    rw [layK_nrm]
    simp only [vcd,↓vcp,seval]
    refine ⟨⟨_,_,rfl,trivial,by simp only [vcd,↓vcp,seval],rfl⟩,by simp [keysO],fun c2 hP2 hfn2 hrd2 hpk2=>?_⟩
    have hP0:=hP
    have hP:=hP2.trans hP
    refine vcS.seq (K1:=fun e st'=>e=.nrm∧Wk c2 st' (betS P a b)) (vcS.of ?_) (fun st' h=>⟨betS P a b,h.2,?_⟩) (fun i st' h=>by cases h.1) (fun st' h=>by cases h.1)
    ·simp only [vcd,↓vcp,seval]
     repeat' first|((first|refine tp hP (by exact cc) ?_|refine tg hP (fun _=>by exact cc) ?_|refine tv hP rfl (by exact cc) ?_);try simp only [vcd,↓vcp,seval])|refine ⟨fun h=>?_,fun h=>?_⟩|refine aO ?_|refine aT ?_|fail
     exact Wk.of _ hfn2 rfl (by simp only [betS,enb,vcd,↓vcp,seval]) (by simp only [betS,cSt,slK,List.length_map,enb,vcd,↓vcp,seval])
    refine vcS.seq (K1:=fun e st'=>e=.nrm∧Wk c2 st' (betS P a b)) (vcS.of ?_) (fun st' h=>⟨betS P a b,h.2,?_⟩) (fun i st' h=>by cases h.1) (fun st' h=>by cases h.1)
    ·simp only [betS,cSt,vcd,↓vcp,seval]
     repeat' first|((first|refine tp hP (by exact cr) ?_|refine tg hP (fun _=>by exact cr) ?_|refine tv hP rfl (by exact cr) ?_);try simp only [vcd,↓vcp,seval])|refine ⟨fun h=>?_,fun h=>?_⟩|refine aO ?_|refine aT ?_|fail
     exact Wk.of _ hfn2 rfl (by simp only [betS,enb,vcd,↓vcp,seval]) (by simp only [betS,cSt,enb,vcd,↓vcp,seval])
    refine vcS.seq (K1:=fun _ _=>False) (vcS.drw ?_) (fun st' h=>h.elim) (fun i st' h=>h.elim) (fun st' h=>h.elim)
    refine TRQ.app (pre:=[_,_,_]) ?_
    refine vcR_ok ?_
    simp only [betS,cSt,slK,List.length_map,vcd,↓vcp,seval]
    refine TRQ.panU hP 5 u1 (by simp only [vcd,↓vcp,seval]) (fun st1 h1 h2=>by rw [hpk2,hP0];exact pan5 (h1 5 (by simp)) (h2 5 (by simp)) _) ?_
    refine TRQ.app (pre:=[_,_,_]) ?_
    refine vcR_ok ?_
    simp only [vcd,↓vcp,seval]
    refine TRQ.vacO 5 (by simp only [vcd,↓vcp,seval]) ?_
    refine TRQ.vacO 5 (by simp only [St.stp,applyU,vcd,↓vcp,seval]) ?_
    refine TRQ.vacO 5 (by simp only [St.stp,applyU,vcd,↓vcp,seval]) ?_
    refine TRQ.vacO 5 (by simp only [St.stp,applyU,vcd,↓vcp,seval]) ?_
    refine ⟨[],_,.nil _,?_,?_⟩
    ·rfl
    ·intro β a w H
     exact own_vac (k:=5) H.own (by simp only [St.stp,applyU,vcd,↓vcp,seval])
end Go.Proofs.YtanppabbmffokaaGreat
end
section
namespace Go.Proofs.YtanppabbmffokaaGreat
open Go.Bx
set_option maxRecDepth 10000
def withOut (h:Hi) (x:Int):Hi:={ h with ch:=h.ch.take x.toNat++h.ch.drop (x.toNat+1) }
def keptC (h:Hi) (t:List Vs) (x:Int):Int×Int:=
 if (ofS (withOut h x) t).2≠0 then (0,(ofS (withOut h x) t).2) else
 if (betF (ofS (withOut h x) t).1 (h.ch.getD x.toNat default).dy h.tm.st).2≠0 then (0,(betF (ofS (withOut h x) t).1 (h.ch.getD x.toNat default).dy h.tm.st).2) else
  bpR (betF (ofS (withOut h x) t).1 (h.ch.getD x.toNat default).dy h.tm.st).1 1000
def keptF (h:Hi) (t:List Vs):Int×Int:=
 if (ofS h t).2≠0 then (0,(ofS h t).2) else
  match turnS h with
  |none=>(0,0)
  |some x=>if (h.ch.getD x.toNat default).kd≠3∨(h.ch.getD x.toNat default).wy≠1 then (0,0) else keptC h t x
theorem turnS_ok {h:Hi} {x:Int} (e:turnS h=some x):okH h.ch x:=orderC_ok h.ch x (turnL_mem e).1
theorem withOut_sz {h:Hi} (z:SzC h) (x:Int):SzC (withOut h x):=by
 refine ⟨z.t,?_,fun c hc=>?_⟩
 ·have:=z.n
  simp only [withOut,List.length_append,List.length_take,List.length_drop];omega
 ·simp only [withOut,List.mem_append] at hc
  rcases hc with hc|hc
  ·exact z.c c (List.mem_of_mem_take hc)
  ·exact z.c c (List.mem_of_mem_drop hc)
theorem wrap_le (x:Int):IntKind.i64.wrap x≤9223372036854775807:=by
 have h:IntKind.i64.wrap x=if x % 18446744073709551616≥9223372036854775808 then x % 18446744073709551616-18446744073709551616 else x % 18446744073709551616:=by
  simp [IntKind.wrap,IntKind.signed,IntKind.bits]
 rw [h];split<;>omega
theorem betF_le (l:List Sl) (a b:Int):(betF l a b).1≤9223372036854775807:=by
 unfold betF
 repeat' split
 all_goals first|exact wrap_le _|simp
theorem sOut (h:Hi) (x:Int) (hx:0≤x∧x<(h.ch.length:Int)) (hn:h.ch.length≤1000000) :
  Ctr Tryz.prog 87 [.d (.sl true 1 2 (litRow 1 [.sl false 9 x.toNat (fun i=>dCh (h.ch.getD i default)),.sl false 9 (h.ch.length-(x+1).toNat) (fun i=>dCh (h.ch.getD ((x+1).toNat+i) default))]))] [] (.d (slH (withOut h x).ch)) [] []:=by
 have e1:(x+1).toNat=x.toNat+1:=by omega
 have h0:x.toNat<h.ch.length:=by omega
 have lt:(h.ch.take x.toNat).length=x.toNat:=by rw [List.length_take];omega
 have ld:(h.ch.drop (x.toNat+1)).length=h.ch.length-(x.toNat+1):=by rw [List.length_drop]
 have hc:=sConcatH [h.ch.take x.toNat,h.ch.drop (x.toNat+1)] (fun _=>false) (fun i j=>if i=0 then dCh (h.ch.getD j default) else dCh (h.ch.getD ((x+1).toNat+j) default)) ?_ (by simp) ?_
 ·have ef:[h.ch.take x.toNat,h.ch.drop (x.toNat+1)].flatten=(withOut h x).ch:=by simp [withOut]
  rw [ef] at hc
  refine hc.arg ⟨VLe.sl rfl (fun _=>rfl) (fun _=>rfl) (fun i hi=>?_),trivial⟩
  have:i=0∨i=1:=by omega
  rcases this with rfl|rfl
  ·simp [litRow,lt]
  ·simp [litRow,ld,e1]
 ·intro i j hi hj
  have:i=0∨i=1:=by simp at hi;omega
  rcases this with rfl|rfl
  ·simp only [List.getD_cons_zero] at hj ⊢
   rw [lt] at hj
   rw [if_pos trivial,List.getD_eq_getElem?_getD,List.getD_eq_getElem?_getD,List.getElem?_take_of_lt hj]
  ·simp only [List.getD_cons_succ,List.getD_cons_zero] at hj ⊢
   rw [if_neg (by omega),List.getD_eq_getElem?_getD,List.getD_eq_getElem?_getD,List.getElem?_drop,e1]
 ·simp;omega
set_option maxHeartbeats 2000000 in
theorem sKeptF (hh:Hi) (t:List Vs) (z:SzC hh) (ht:t.length≤1000000) (hz:∀ v,v∈t→SzV v) (hl:∀ x,(ofS (withOut hh x) t).1.length≤9223372036854775807) :
  Ctr Tryz.prog 39 [vHi hh,.ag [.d (slV t)]] [] (.tup [.d (.int .i64 (keptF hh t).1),.d (.int .i64 (keptF hh t).2)]) [] []:=by
 have co:=sOfS hh t z ht hz
 have ct:=sTurn hh (by have:=z.n;omega)
 simp only [vHi,cHi,slC,slH,dCh,slV,dVs,slB,slS,dSl] at co ct
 by_cases h0:(ofS hh t).2=0
 ·have n0:((0:Int) != 0)=false:=rfl
  rw [h0] at co
  cases hx:turnS hh with
  |none =>
   have e:keptF hh t=(0,0):=by rw [keptF,if_neg (by simpa using h0),hx]
   rw [hx] at ct
   simp only [turnV,Option.getD_none,Option.isSome_none] at ct
   rw [e]
   refine ctr_pure Tryz.func39 ok39 rfl cc39 cr39 Tryz.ntmps39 (by simp) rfl rfl ?_;intro c hP hfn;simp only [kc39,vHi,cHi,slC,slH,dCh,slV,dVs,slB,vcd,↓vcp,seval]
   repeat' first|((first|refine tp hP (by first|exact co|exact ct) ?_|refine tg hP (fun _=>by first|exact co|exact ct) ?_|refine tv hP rfl (by first|exact co|exact ct) ?_);try simp only [n0,vcd,↓vcp,seval])|refine ⟨fun h=>?_,fun h=>?_⟩|refine aO ?_|refine aT ?_|fail
   exact RetK.pure (by simp only [rs39,rsb,vcd,↓vcp,seval]) (by (simp only [rs39,rsb,enb,vcd,↓vcp,seval])<;>(first|exact VLe.refl _))
  |some x =>
   obtain ⟨hx0,hx1⟩:=turnS_ok hx
   have hn:=z.n
   rw [hx] at ct
   simp only [turnV,Option.getD_some,Option.isSome_some] at ct
   have b1:(0:Int)≤x∧x<(hh.ch.length:Int):=by omega
   by_cases hk:(hh.ch.getD x.toNat default).kd≠3∨(hh.ch.getD x.toNat default).wy≠1
   ·have e:keptF hh t=(0,0):=by rw [keptF,if_neg (by simpa using h0),hx];simp only [if_pos hk]
    rw [e]
    by_cases hk3:(hh.ch.getD x.toNat default).kd=3
    ·have d3:((hh.ch.getD x.toNat default).kd != 3)=false:=by rw [bne_eq_false_iff_eq];exact hk3
     have d1:((hh.ch.getD x.toNat default).wy != 1)=true:=by rw [bne_iff_ne];rcases hk with h|h;exact absurd hk3 h;exact h
     refine ctr_pure Tryz.func39 ok39 rfl cc39 cr39 Tryz.ntmps39 (by simp) rfl rfl ?_;intro c hP hfn;simp only [kc39,vHi,cHi,slC,slH,dCh,slV,dVs,slB,vcd,↓vcp,seval]
     repeat' first|((first|refine tp hP (by first|exact co|exact ct) ?_|refine tg hP (fun _=>by first|exact co|exact ct) ?_|refine tv hP rfl (by first|exact co|exact ct) ?_);try simp only [n0,d3,d1,vcd,↓vcp,seval])|refine ⟨fun h=>?_,fun h=>?_⟩|refine aO ?_|refine aT ?_|fail
     exact RetK.pure (by simp only [rs39,rsb,vcd,↓vcp,seval]) (by (simp only [rs39,rsb,enb,vcd,↓vcp,seval])<;>(first|exact VLe.refl _))
    ·have d3:((hh.ch.getD x.toNat default).kd != 3)=true:=by rw [bne_iff_ne];exact hk3
     refine ctr_pure Tryz.func39 ok39 rfl cc39 cr39 Tryz.ntmps39 (by simp) rfl rfl ?_;intro c hP hfn;simp only [kc39,vHi,cHi,slC,slH,dCh,slV,dVs,slB,vcd,↓vcp,seval]
     repeat' first|((first|refine tp hP (by first|exact co|exact ct) ?_|refine tg hP (fun _=>by first|exact co|exact ct) ?_|refine tv hP rfl (by first|exact co|exact ct) ?_);try simp only [n0,d3,vcd,↓vcp,seval])|refine ⟨fun h=>?_,fun h=>?_⟩|refine aO ?_|refine aT ?_|fail
     exact RetK.pure (by simp only [rs39,rsb,vcd,↓vcp,seval]) (by (simp only [rs39,rsb,enb,vcd,↓vcp,seval])<;>(first|exact VLe.refl _))
   ·have e:keptF hh t=keptC hh t x:=by rw [keptF,if_neg (by simpa using h0),hx];simp only [if_neg hk]
    have hk3:(hh.ch.getD x.toNat default).kd=3:=by omega
    have hk1:(hh.ch.getD x.toNat default).wy=1:=by omega
    have d3:((hh.ch.getD x.toNat default).kd != 3)=false:=by rw [bne_eq_false_iff_eq];exact hk3
    have d1:((hh.ch.getD x.toNat default).wy != 1)=false:=by rw [bne_eq_false_iff_eq];exact hk1
    have w1:IntKind.i64.wrap (x+1)=x+1:=wI (by omega)
    rw [e]
    have cx:=sOut hh x b1 (by omega)
    have cf:=sOfS (withOut hh x) t (withOut_sz z x) ht hz
    have hl:=hl x
    rw [keptC]
    generalize hL:(ofS (withOut hh x) t).1=L at *
    generalize hE:(ofS (withOut hh x) t).2=e1 at *
    have hw:(withOut hh x).id=hh.id∧(withOut hh x).bk=hh.bk∧(withOut hh x).tm=hh.tm:=⟨rfl,rfl,rfl⟩
    generalize withOut hh x=h2 at *
    obtain ⟨w5,w6,w7⟩:=hw
    simp only [vHi,cHi,slC,slH,dCh,slV,dVs,slB,slS,dSl,w5,w6,w7] at cx cf
    by_cases h1:e1=0
    ·subst h1
     have cb:=sBet L (hh.ch.getD x.toNat default).dy hh.tm.st hl
     have hle:=betF_le L (hh.ch.getD x.toNat default).dy hh.tm.st
     rw [if_neg (by simp)]
     simp only [betR,betV] at cb
     generalize hB:betF L (hh.ch.getD x.toNat default).dy hh.tm.st=B at *
     obtain ⟨bn,be⟩:=B
     simp only at cb hle ⊢
     simp only [vHi,cHi,slC,slH,dCh,slV,dVs,slB,slS,dSl,vS] at cb
     by_cases h3:be=0
     ·subst h3
      have cp:=sBp bn 1000 hle (by omega)
      simp only [if_true] at cb
      rw [if_neg (by simp)]
      refine ctr_pure Tryz.func39 ok39 rfl cc39 cr39 Tryz.ntmps39 (by simp) rfl rfl ?_;intro c hP hfn;simp only [kc39,vHi,cHi,slC,slH,dCh,slV,dVs,slB,vcd,↓vcp,seval]
      repeat' first|((first|refine tp hP (by first|exact co|exact ct|exact cx|exact cf|exact cb|exact cp) ?_|refine tg hP (fun _=>by first|exact co|exact ct|exact cx|exact cf|exact cb|exact cp) ?_|refine tv hP rfl (by first|exact co|exact ct|exact cx|exact cf|exact cb|exact cp) ?_);try simp only [n0,d3,d1,w1,vcd,↓vcp,seval])|refine ⟨fun h=>?_,fun h=>?_⟩|refine aO ?_|refine aT ?_|fail
      exact RetK.pure (by simp only [rs39,rsb,vcd,↓vcp,seval]) (by (simp only [rs39,rsb,enb,vcd,↓vcp,seval])<;>(first|exact VLe.refl _))
     ·have n3:(be != 0)=true:=bne_iff_ne.2 h3
      simp only [if_neg h3] at cb
      rw [if_pos h3]
      refine ctr_pure Tryz.func39 ok39 rfl cc39 cr39 Tryz.ntmps39 (by simp) rfl rfl ?_;intro c hP hfn;simp only [kc39,vHi,cHi,slC,slH,dCh,slV,dVs,slB,vcd,↓vcp,seval]
      repeat' first|((first|refine tp hP (by first|exact co|exact ct|exact cx|exact cf|exact cb) ?_|refine tg hP (fun _=>by first|exact co|exact ct|exact cx|exact cf|exact cb) ?_|refine tv hP rfl (by first|exact co|exact ct|exact cx|exact cf|exact cb) ?_);try simp only [n0,d3,d1,w1,n3,vcd,↓vcp,seval])|refine ⟨fun h=>?_,fun h=>?_⟩|refine aO ?_|refine aT ?_|fail
      exact RetK.pure (by simp only [rs39,rsb,vcd,↓vcp,seval]) (by (simp only [rs39,rsb,enb,vcd,↓vcp,seval])<;>(first|exact VLe.refl _))
    ·have n3:(e1 != 0)=true:=bne_iff_ne.2 h1
     rw [if_pos h1]
     refine ctr_pure Tryz.func39 ok39 rfl cc39 cr39 Tryz.ntmps39 (by simp) rfl rfl ?_;intro c hP hfn;simp only [kc39,vHi,cHi,slC,slH,dCh,slV,dVs,slB,vcd,↓vcp,seval]
     repeat' first|((first|refine tp hP (by first|exact co|exact ct|exact cx|exact cf) ?_|refine tg hP (fun _=>by first|exact co|exact ct|exact cx|exact cf) ?_|refine tv hP rfl (by first|exact co|exact ct|exact cx|exact cf) ?_);try simp only [n0,d3,d1,w1,n3,vcd,↓vcp,seval])|refine ⟨fun h=>?_,fun h=>?_⟩|refine aO ?_|refine aT ?_|fail
     exact RetK.pure (by simp only [rs39,rsb,vcd,↓vcp,seval]) (by (simp only [rs39,rsb,enb,vcd,↓vcp,seval])<;>(first|exact VLe.refl _))
 ·have n1:((ofS hh t).2 != 0)=true:=bne_iff_ne.2 h0
  have e:keptF hh t=(0,(ofS hh t).2):=by rw [keptF,if_pos h0]
  rw [e]
  refine ctr_pure Tryz.func39 ok39 rfl cc39 cr39 Tryz.ntmps39 (by simp) rfl rfl ?_;intro c hP hfn;simp only [kc39,vHi,cHi,slC,slH,dCh,slV,dVs,slB,vcd,↓vcp,seval]
  repeat' first|((first|refine tp hP (by exact co) ?_|refine tg hP (fun _=>by exact co) ?_|refine tv hP rfl (by exact co) ?_);try simp only [n1,vcd,↓vcp,seval])|refine ⟨fun h=>?_,fun h=>?_⟩|refine aO ?_|refine aT ?_|fail
  exact RetK.pure (by simp only [rs39,rsb,vcd,↓vcp,seval]) (by (simp only [rs39,rsb,enb,vcd,↓vcp,seval])<;>(first|exact VLe.refl _))
end Go.Proofs.YtanppabbmffokaaGreat
end
section
namespace Go.Proofs.YtanppabbmffokaaGreat
open Go.Bx
set_option maxRecDepth 10000
theorem ofS_len {h:Hi} {t:List Vs} (z:SzC h):(ofS h t).1.length≤9223372036854775807:=by
 have h1:=(cutS_ok z).1
 have h2:=z.n
 unfold ofS
 repeat' split
 all_goals simp
 omega
theorem sKept2 (hh:Hi) (t:List Vs) (z:SzC hh) (ht:t.length≤1000000) (hz:∀ v,v∈t→SzV v) :
  Ctr Tryz.prog 39 [vHi hh,.ag [.d (slV t)]] [] (.tup [.d (.int .i64 (keptF hh t).1),.d (.int .i64 (keptF hh t).2)]) [] []:=sKeptF hh t z ht hz fun x=>ofS_len (withOut_sz z x)
def dueF (h:Hi) (t:List Vs):Int×Int:=
 if (keptF h t).2≠0 then (0,(keptF h t).2) else
 if (uptoF (ofS h t).1 292195).2≠0 then (0,(uptoF (ofS h t).1 292195).2) else
 if (uptoF (ofS h t).1 292195).1>IntKind.i64.wrap (4000000000000000000-(keptF h t).1) then (0,5) else (IntKind.i64.wrap ((uptoF (ofS h t).1 292195).1+(keptF h t).1),0)
set_option maxHeartbeats 2000000 in
theorem sDueF (hh:Hi) (t:List Vs) (z:SzC hh) (ht:t.length≤1000000) (hz:∀ v,v∈t→SzV v) :
  Ctr Tryz.prog 11 [vHi hh,.ag [.d (slV t)]] [] (.tup [.d (.int .i64 (dueF hh t).1),.d (.int .i64 (dueF hh t).2)]) [] []:=by
 have ck:=sKept2 hh t z ht hz
 have co:=sOfS hh t z ht hz
 have cw:=sWritten (ofS hh t).1 (ofS_len z)
 rw [dueF]
 generalize keptF hh t=K at *
 generalize ofS hh t=L at *
 generalize uptoF L.1 292195=U at *
 obtain ⟨k,ke⟩:=K
 obtain ⟨L,le⟩:=L
 obtain ⟨u,ue⟩:=U
 simp only [vHi,cHi,slC,slH,dCh,slV,dVs,slB,slS,dSl] at ck co cw
 by_cases h1:ke=0
 ·subst h1
  have n0:((0:Int) != 0)=false:=rfl
  rw [if_neg (by simp)]
  by_cases h2:ue=0
  ·subst h2
   rw [if_neg (by simp)]
   generalize hw:IntKind.i64.wrap (4000000000000000000-k)=m at *
   by_cases h3:u>m
   ·have d3:decide (u>m)=true:=decide_eq_true h3
    rw [if_pos h3]
    refine ctr_pure Tryz.func11 ok11 rfl cc11 cr11 Tryz.ntmps11 (by simp) rfl rfl ?_;intro c hP hfn;simp only [kc11,vHi,cHi,slC,slH,dCh,slV,dVs,slB,vcd,↓vcp,seval]
    repeat' first|((first|refine tp hP (by first|exact ck|exact co|exact cw) ?_|refine tg hP (fun _=>by first|exact ck|exact co|exact cw) ?_|refine tv hP rfl (by first|exact ck|exact co|exact cw) ?_);try simp only [n0,hw,d3,vcd,↓vcp,seval])|refine ⟨fun h=>?_,fun h=>?_⟩|refine aO ?_|refine aT ?_|fail
    exact RetK.pure (by simp only [rs11,rsb,vcd,↓vcp,seval]) (by (simp only [rs11,rsb,enb,vcd,↓vcp,seval])<;>(first|exact VLe.refl _))
   ·have d3:decide (u>m)=false:=decide_eq_false h3
    rw [if_neg h3]
    refine ctr_pure Tryz.func11 ok11 rfl cc11 cr11 Tryz.ntmps11 (by simp) rfl rfl ?_;intro c hP hfn;simp only [kc11,vHi,cHi,slC,slH,dCh,slV,dVs,slB,vcd,↓vcp,seval]
    repeat' first|((first|refine tp hP (by first|exact ck|exact co|exact cw) ?_|refine tg hP (fun _=>by first|exact ck|exact co|exact cw) ?_|refine tv hP rfl (by first|exact ck|exact co|exact cw) ?_);try simp only [n0,hw,d3,vcd,↓vcp,seval])|refine ⟨fun h=>?_,fun h=>?_⟩|refine aO ?_|refine aT ?_|fail
    exact RetK.pure (by simp only [rs11,rsb,vcd,↓vcp,seval]) (by (simp only [rs11,rsb,enb,vcd,↓vcp,seval])<;>(first|exact VLe.refl _))
  ·have n1:(ue != 0)=true:=bne_iff_ne.2 h2
   rw [if_pos h2]
   refine ctr_pure Tryz.func11 ok11 rfl cc11 cr11 Tryz.ntmps11 (by simp) rfl rfl ?_;intro c hP hfn;simp only [kc11,vHi,cHi,slC,slH,dCh,slV,dVs,slB,vcd,↓vcp,seval]
   repeat' first|((first|refine tp hP (by first|exact ck|exact co|exact cw) ?_|refine tg hP (fun _=>by first|exact ck|exact co|exact cw) ?_|refine tv hP rfl (by first|exact ck|exact co|exact cw) ?_);try simp only [n0,n1,vcd,↓vcp,seval])|refine ⟨fun h=>?_,fun h=>?_⟩|refine aO ?_|refine aT ?_|fail
   exact RetK.pure (by simp only [rs11,rsb,vcd,↓vcp,seval]) (by (simp only [rs11,rsb,enb,vcd,↓vcp,seval])<;>(first|exact VLe.refl _))
 ·have n1:(ke != 0)=true:=bne_iff_ne.2 h1
  rw [if_pos h1]
  refine ctr_pure Tryz.func11 ok11 rfl cc11 cr11 Tryz.ntmps11 (by simp) rfl rfl ?_;intro c hP hfn;simp only [kc11,vHi,cHi,slC,slH,dCh,slV,dVs,slB,vcd,↓vcp,seval]
  repeat' first|((first|refine tp hP (by exact ck) ?_|refine tg hP (fun _=>by exact ck) ?_|refine tv hP rfl (by exact ck) ?_);try simp only [n1,vcd,↓vcp,seval])|refine ⟨fun h=>?_,fun h=>?_⟩|refine aO ?_|refine aT ?_|fail
  exact RetK.pure (by simp only [rs11,rsb,vcd,↓vcp,seval]) (by (simp only [rs11,rsb,enb,vcd,↓vcp,seval])<;>(first|exact VLe.refl _))
def givenF (h:Hi) (t:List Vs) (c:Ch):Int×Int:=
 if (putC h c).2≠0 then (0,(putC h c).2) else
 if (dueF h t).2≠0 then (0,(dueF h t).2) else
 if (dueF (putC h c).1 t).2≠0 then (0,(dueF (putC h c).1 t).2) else
  (IntKind.i64.wrap ((dueF h t).1-(dueF (putC h c).1 t).1),0)
theorem putC_sz {h:Hi} {c:Ch} (z:SzC h) (hc:c.cv.length≤1000000):SzC (putC h c).1:=by
 have z0:SzC zHi:=⟨by simp [zHi],by simp [zHi],fun c h=>by simp [zHi] at h⟩
 rw [putC]
 by_cases h1:(rightCh c&&inT h.tm c.dy)=false
 ·rw [if_pos h1];exact z0
 ·rw [if_neg h1]
  by_cases h2:c.bk<lastB h
  ·rw [if_pos h2];exact z0
  ·rw [if_neg h2]
   by_cases h3:h.ch.length≥2000
   ·rw [if_pos h3];exact z0
   ·rw [if_neg h3]
    refine ⟨z.t,by simp;omega,fun x hx=>?_⟩
    simp only [List.mem_append,List.mem_singleton] at hx
    rcases hx with hx|rfl
    ·exact z.c x hx
    ·exact hc
set_option maxHeartbeats 2000000 in
theorem sGivenF (hh:Hi) (t:List Vs) (c':Ch) (z:SzC hh) (ht:t.length≤1000000) (hz:∀ v,v∈t→SzV v) (hcv:c'.cv.length≤1000000) :
  Ctr Tryz.prog 12 [vHi hh,.ag [.d (slV t)],vCh c'] [] (.tup [.d (.int .i64 (givenF hh t c').1),.d (.int .i64 (givenF hh t c').2)]) [] []:=by
 have cp:=sPutC hh c' z.t hcv (by have:=z.n;omega)
 have cd:=sDueF hh t z ht hz
 have ce:=sDueF (putC hh c').1 t (putC_sz z hcv) ht hz
 rw [givenF]
 generalize putC hh c'=X at *
 obtain ⟨X,xe⟩:=X
 simp only at ce ⊢
 generalize dueF hh t=D1 at *
 generalize dueF X t=D2 at *
 obtain ⟨d1,de1⟩:=D1
 obtain ⟨d2,de2⟩:=D2
 simp only [vHi,cHi,vCh,cCh,slC,slH,dCh,slV,dVs,slB] at cp cd ce
 by_cases h1:xe=0
 ·subst h1
  have n0:((0:Int) != 0)=false:=rfl
  rw [if_neg (by simp)]
  by_cases h2:de1=0
  ·subst h2
   rw [if_neg (by simp)]
   by_cases h3:de2=0
   ·subst h3
    rw [if_neg (by simp)]
    refine ctr_pure Tryz.func12 ok12 rfl cc12 cr12 Tryz.ntmps12 (by simp) rfl rfl ?_;intro c hP hfn;simp only [kc12,vHi,cHi,vCh,cCh,slC,slH,dCh,slV,dVs,slB,vcd,↓vcp,seval]
    repeat' first|((first|refine tp hP (by first|exact cp|exact cd|exact ce) ?_|refine tg hP (fun _=>by first|exact cp|exact cd|exact ce) ?_|refine tv hP rfl (by first|exact cp|exact cd|exact ce) ?_);try simp only [n0,vcd,↓vcp,seval])|refine ⟨fun h=>?_,fun h=>?_⟩|refine aO ?_|refine aT ?_|fail
    exact RetK.pure (by simp only [rs12,rsb,vcd,↓vcp,seval]) (by (simp only [rs12,rsb,enb,vcd,↓vcp,seval])<;>(first|exact VLe.refl _))
   ·have n1:(de2 != 0)=true:=bne_iff_ne.2 h3
    rw [if_pos h3]
    refine ctr_pure Tryz.func12 ok12 rfl cc12 cr12 Tryz.ntmps12 (by simp) rfl rfl ?_;intro c hP hfn;simp only [kc12,vHi,cHi,vCh,cCh,slC,slH,dCh,slV,dVs,slB,vcd,↓vcp,seval]
    repeat' first|((first|refine tp hP (by first|exact cp|exact cd|exact ce) ?_|refine tg hP (fun _=>by first|exact cp|exact cd|exact ce) ?_|refine tv hP rfl (by first|exact cp|exact cd|exact ce) ?_);try simp only [n0,n1,vcd,↓vcp,seval])|refine ⟨fun h=>?_,fun h=>?_⟩|refine aO ?_|refine aT ?_|fail
    exact RetK.pure (by simp only [rs12,rsb,vcd,↓vcp,seval]) (by (simp only [rs12,rsb,enb,vcd,↓vcp,seval])<;>(first|exact VLe.refl _))
  ·have n1:(de1 != 0)=true:=bne_iff_ne.2 h2
   rw [if_pos h2]
   refine ctr_pure Tryz.func12 ok12 rfl cc12 cr12 Tryz.ntmps12 (by simp) rfl rfl ?_;intro c hP hfn;simp only [kc12,vHi,cHi,vCh,cCh,slC,slH,dCh,slV,dVs,slB,vcd,↓vcp,seval]
   repeat' first|((first|refine tp hP (by first|exact cp|exact cd) ?_|refine tg hP (fun _=>by first|exact cp|exact cd) ?_|refine tv hP rfl (by first|exact cp|exact cd) ?_);try simp only [n0,n1,vcd,↓vcp,seval])|refine ⟨fun h=>?_,fun h=>?_⟩|refine aO ?_|refine aT ?_|fail
   exact RetK.pure (by simp only [rs12,rsb,vcd,↓vcp,seval]) (by (simp only [rs12,rsb,enb,vcd,↓vcp,seval])<;>(first|exact VLe.refl _))
 ·have n1:(xe != 0)=true:=bne_iff_ne.2 h1
  rw [if_pos h1]
  refine ctr_pure Tryz.func12 ok12 rfl cc12 cr12 Tryz.ntmps12 (by simp) rfl rfl ?_;intro c hP hfn;simp only [kc12,vHi,cHi,vCh,cCh,slC,slH,dCh,slV,dVs,slB,vcd,↓vcp,seval]
  repeat' first|((first|refine tp hP (by exact cp) ?_|refine tg hP (fun _=>by exact cp) ?_|refine tv hP rfl (by exact cp) ?_);try simp only [n1,vcd,↓vcp,seval])|refine ⟨fun h=>?_,fun h=>?_⟩|refine aO ?_|refine aT ?_|fail
  exact RetK.pure (by simp only [rs12,rsb,vcd,↓vcp,seval]) (by (simp only [rs12,rsb,enb,vcd,↓vcp,seval])<;>(first|exact VLe.refl _))
end Go.Proofs.YtanppabbmffokaaGreat
end
section
namespace Go.Proofs.YtanppabbmffokaaGreat
open Go.Bx
set_option maxRecDepth 10000
theorem sCloneO (l:List Int) (hl:l.length≤1000000):Ctr Tryz.prog 72 [.d (slK .i64 l)] [] (.osl 900) [(900,rowZ l)] [900]:=by
 have hb:l.length*8≤140737488355328∧l.length≤maxLen:=⟨by omega,by simp only [maxLen];omega⟩
 refine ctr_own Tryz.func72 ok72 rfl cc72 cr72 Tryz.ntmps72 (by simp) rfl ?_
 intro c hP hfn
 simp only [kc72,slK,namesL,V.names,ownNames,vcd,↓vcp,seval]
 refine ⟨fun h=>?_,?_⟩
 ·have h0:l=[]:=List.eq_nil_of_length_eq_zero h
  subst h0
  exact RetK.mk _ (Wk.row0 (s:=2) (k:=900) (e:=3) (sz:=1) (f':=fun i=>[.int .i64 (([]:List Int).getD i 0)]) rfl rfl (by simp)) (by simp only [rs72,rsb,vcd,↓vcp,seval]) (by simp only [rs72,rsb,enb,vcd,↓vcp,seval]) (by simp only [rowZ,enb,vcd,↓vcp,seval])
 ·repeat' first|refine ⟨fun h=>?_,fun h=>?_⟩|refine aO ?_|refine aT ?_|fail
  refine RetK.mk _ (Wk.sw 7 900 _ hfn (by simp [namesL,V.names,ownNames]) (by simp [namesL,V.names,ownNames])) (by simp only [rs72,rsb,vcd,↓vcp,seval]) (by simp only [rs72,rsb,enb,vcd,↓vcp,seval]) ?_
  simp only [rowZ,enb,vcd,↓vcp,seval]
def dP (p:Int×Int):List D:=[.int .i64 p.1,.int .i64 p.2]
def slP (l:List (Int×Int)):D:=.sl false 2 l.length (fun i=>dP (l.getD i default))
def rowP (l:List (Int×Int)):Go.Bx.Own:=.row 23 2 l.length (fun i=>dP (l.getD i default))
def cutP (t:Int):Int→List Int→List (Int×Int)×Int
 |f,[]=>([],f)
 |f,d::r=>if d>f∧d<t then ((f,d)::(cutP t d r).1,(cutP t d r).2) else cutP t f r
def daysP (at':List Int):List Int:=cmpcI (sortI at')
def partsF (a b:Int) (at':List Int):List (Int×Int):=
 if keptR a b=(0,0) then [] else (cutP b a (daysP at')).1++[((cutP b a (daysP at')).2,b)]
theorem cutP_app (t:Int):∀ (l:List Int) (f:Int) (d:Int),cutP t f (l++[d])=if d>(cutP t f l).2∧d<t then ((cutP t f l).1++[((cutP t f l).2,d)],d) else cutP t f l
 |[],f,d=>by rw [List.nil_append,cutP,cutP,cutP];rfl
 |x::l,f,d=>by
  simp only [List.cons_append,cutP]
  split
  ·rw [cutP_app t l x d];split<;>simp
  ·exact cutP_app t l f d
theorem cutP_len (t:Int):∀ (l:List Int) (f:Int),(cutP t f l).1.length≤l.length
 |[],f=>by simp [cutP]
 |x::l,f=>by
  simp only [cutP]
  split
  ·have:=cutP_len t l x;simp;omega
  ·have:=cutP_len t l f;simp;omega
theorem vle_snocP {l:List (Int×Int)} {p:Int×Int} {F:Nat→List D} (h1:∀ i,i<l.length→F i=dP (l.getD i default)) (h2:F l.length=dP p):VLe (.d (.sl false 2 (l.length+1) F)) (.d (slP (l++[p]))):=
 VLe.sl (by simp) (fun _=>rfl) id fun i hi=>by
  by_cases h:i<l.length
  ·rw [h1 i h,List.getD_eq_getElem?_getD,List.getD_eq_getElem?_getD,List.getElem?_append_left h]
  ·have:i=l.length:=by omega
   subst this
   rw [h2];simp [List.getD_eq_getElem?_getD]
set_option maxHeartbeats 2000000 in
theorem sParts (a b:Int) (l:List Int) (hl:l.length≤100000):Ctr Tryz.prog 28 [vS a b,.d (slK .i64 l)] [] (.d (slP (partsF a b l))) [] []:=by
 have ck:=sKept a b
 simp only [vS] at ck
 have hsl:(sortI l).length=l.length:=by simp [sortI]
 have cl:=sCloneO l (by omega)
 have cs:=sSortI l (by omega)
 have cc:=(sCompactI (sortI l) (by omega)).sw 7 1001
 have hdl:(daysP l).length≤l.length:=by have:=cmpcI_len (sortI l);rw [daysP];omega
 simp only [slK,rowZ,vcd,↓vcp,seval] at cl cs cc
 by_cases h0:keptR a b=(0,0)
 ·have e:partsF a b l=[]:=by rw [partsF,if_pos h0]
  rw [e]
  rw [h0] at ck
  have d0:(((0:Int) == 0)&&((0:Int) == 0))=true:=rfl
  refine ctr_pure Tryz.func28 ok28 rfl cc28 cr28 Tryz.ntmps28 (by simp) rfl rfl ?_;intro c hP hfn;simp only [kc28,vS,slK,vcd,↓vcp,seval]
  repeat' first|((first|refine tp hP (by exact ck) ?_|refine tg hP (fun _=>by exact ck) ?_|refine tv hP rfl (by exact ck) ?_);try simp only [d0,vcd,↓vcp,seval])|refine ⟨fun h=>?_,fun h=>?_⟩|refine aO ?_|refine aT ?_|fail
  exact RetK.pure (by simp only [rs28,rsb,vcd,↓vcp,seval]) (by (simp only [rs28,rsb,enb,vcd,↓vcp,seval])<;>(first|exact vle_nil))
 ·have hk:keptR a b=(a,b)∧(((a == 0)&&(b == 0))=false):=by
   rw [keptR] at h0 ⊢
   split
   ·rename_i h;rw [if_pos h] at h0;exact absurd rfl h0
   ·rename_i h
    rw [if_neg h] at h0
    refine ⟨rfl,?_⟩
    rw [Bool.and_eq_false_iff,beq_eq_false_iff_ne,beq_eq_false_iff_ne]
    by_cases ha:a=0
    ·right;rintro rfl;exact h0 (by rw [ha])
    ·exact .inl ha
  have e:partsF a b l=(cutP b a (daysP l)).1++[((cutP b a (daysP l)).2,b)]:=by rw [partsF,if_neg h0]
  obtain ⟨hk1,hk2⟩:=hk
  rw [hk1] at ck
  rw [e]
  simp only [daysP] at hdl ⊢
  generalize hD:cmpcI (sortI l)=D at *
  refine ctr_pure Tryz.func28 ok28 rfl cc28 cr28 Tryz.ntmps28 (by simp) rfl rfl ?_;intro c hP hfn;simp only [kc28,vS,slK,vcd,↓vcp,seval]
  repeat' first|((first|refine tp hP (by exact ck) ?_|refine tg hP (fun _=>by exact ck) ?_|refine tv hP rfl (by exact ck) ?_);try simp only [hk2,vcd,↓vcp,seval])|refine ⟨fun h=>?_,fun h=>?_⟩|refine aO ?_|refine aT ?_|fail
  refine TR.call [] [(900,rowZ l)] (.osl 900) [900] (by rw [hP];exact cl) (by repeat' first|exact trivial|(intro _;assumption)|apply And.intro) (fun k o h=>by simp at h) (by simp [keysO]) (by simp) ?_
  simp only [rowZ,vcd,↓vcp,seval]
  repeat' first|refine ⟨fun h=>?_,fun h=>?_⟩|refine aO ?_|refine aT ?_|fail
  refine TR.call [(900,rowZ l)] [(900,rowZ (sortI l))] (.tup []) [] (by rw [hP];exact cs) (by repeat' first|exact trivial|(intro _;assumption)|apply And.intro) (hin1 rfl) (by simp [keysO]) (by simp) ?_
  simp only [rowZ,vcd,↓vcp,seval]
  repeat' first|refine ⟨fun h=>?_,fun h=>?_⟩|refine aO ?_|refine aT ?_|fail
  refine TR.call [(900,rowZ (sortI l))] [(1001,rowZ D)] (.osl 1001) [1001] (by rw [hP];exact cc) (by repeat' first|exact trivial|(intro _;assumption)|apply And.intro) (hin1 rfl) (by simp [keysO]) (by simp) ?_
  simp only [rowZ,vcd,↓vcp,seval]
  repeat' first|refine ⟨fun h=>?_,fun h=>?_⟩|refine aO ?_|refine aT ?_|fail
  have hcu:=cutP_len b
  refine vcC.loop (X:=Nat) (fun k=>⟨[(6,.osl 1000),(2,.own 2 0),(19,.osl 1001),(20,.d (.int .i64 D.length)),(21,.d (.int .i64 k))],[(1000,rowP (cutP b a (D.take k)).1),(2,.fix [.d (.int .i64 (cutP b a (D.take k)).2),.d (.int .i64 b)]),(1001,rowZ D)],[1000,2,1001]⟩)
   (fun k=>k≤D.length) (fun k=>D.length-k) 0 (Nat.zero_le _) ?_ ?_
  ·refine (Wk.row0 (s:=6) (k:=1000) (e:=23) (sz:=2) (f':=fun _=>[]) rfl rfl (by simp)).trans (Wk.of _ hfn rfl ?_ ?_)
   ·simp only [enb,vcd,↓vcp,seval]
   ·simp only [rowP,rowZ,List.take_zero,cutP,enb,vcd,↓vcp,seval];exact OLe.row rfl (fun i hi=>absurd hi (Nat.not_lt_zero i))
  intro k hkk
  by_cases hlt:k<D.length
  ·obtain ⟨d,-,hg,-,hat⟩:=drop_at hlt
   have hg:=hg 0
   have d0:decide ((k:Int)<(D.length:Int))=true:=decide_eq_true (by omega)
   have w1:IntKind.i64.wrap ((k:Int)+1)=((k+1:Nat):Int):=wS (by omega)
   have b1:(0:Int)≤(k:Int)∧(k:Int)<(D.length:Int):=by omega
   have ht:D.take (k+1)=D.take k++[d]:=by rw [List.take_add_one,hat];rfl
   have hca:=cutP_app b (D.take k) a d
   have hcl:=hcu (D.take k) a
   have htl:(D.take k).length≤100000:=by rw [List.length_take];omega
   rw [←ht] at hca
   generalize cutP b a (D.take k)=C at *
   obtain ⟨C,f⟩:=C
   simp only at hca hcl ⊢
   by_cases hc:d>f∧d<b
   ·rw [if_pos hc] at hca
    have c1:decide (d>f)=true:=decide_eq_true hc.1
    have c2:decide (d<b)=true:=decide_eq_true hc.2
    simp only [rowP,rowZ,d0,hg,c1,c2,hca,vcd,↓vcp,seval]
    repeat' first|refine ⟨fun h=>?_,fun h=>?_⟩|refine aO ?_|refine aT ?_|fail
    refine lopK.on (k+1) (by omega) (by omega) ((Wk.sw 41 1000 _ hfn (by simp) (by simp)).trans (Wk.of _ hfn rfl (by simp only [w1,enb,vcd,↓vcp,seval]) ?_))
    simp only [rowP,rowZ,hca,enb,vcd,↓vcp,seval]
    exact OLe.app1 dP (fun i hi=>by simp [hi]) (by simp [litRow,dP])
   ·rw [if_neg hc] at hca
    have c1:(decide (d>f)&&decide (d<b))=false:=by rw [Bool.and_eq_false_iff,decide_eq_false_iff_not,decide_eq_false_iff_not];omega
    simp only [rowP,rowZ,d0,hg,c1,hca,vcd,↓vcp,seval]
    repeat' first|refine ⟨fun h=>?_,fun h=>?_⟩|refine aO ?_|refine aT ?_|fail
    refine lopK.on (k+1) (by omega) (by omega) (Wk.of _ hfn rfl (by simp only [w1,enb,vcd,↓vcp,seval]) ?_)
    simp only [rowP,rowZ,hca,enb,vcd,↓vcp,seval]
  ·have d0:decide ((k:Int)<(D.length:Int))=false:=decide_eq_false (by omega)
   obtain rfl:k=D.length:=by omega
   have hcl:=hcu D a
   simp only [rowP,rowZ,d0,List.take_length,vcd,↓vcp,seval]
   generalize cutP b a D=C at *
   repeat' first|refine ⟨fun h=>?_,fun h=>?_⟩|refine aO ?_|refine aT ?_|fail
   refine RetK.mk _ (Wk.pub 48 rfl) (by simp only [rs28,rsb,vcd,↓vcp,seval]) ?_ trivial
   simp only [rs28,rsb,vcd,↓vcp,seval]
   exact vle_snocP (fun i hi=>by rw [if_pos hi]) (by simp [dP])
end Go.Proofs.YtanppabbmffokaaGreat
end
section
namespace Go.Proofs.YtanppabbmffokaaGreat
open Go.Bx
theorem yrAt_nn {l:List Sl} {e:Int} (h:Run e l) (d:Int):0≤yrAt l d:=by
 induction h with
 |nil=>exact Int.le_refl _
 |cons h _ ih =>
  rw [yrAt_cons]
  have:=fullSl_iff.1 h
  split
  ·exact this.2.2.2.1
  ·exact ih
theorem even_near (S:Nat) (h:S≤4000000000000000000):∃ E:Nat,ofR upE (S:Int) 1 365=((E:Int),0)∧2*(365*E)≤2*S+365∧2*S≤2*(365*E)+365:=by
 have e:=ofR_nat (up:=upE) S 1 365 (by decide)
 have e:ofR upE (S:Int) 1 365=_:=e
 rw [Nat.mul_one] at e
 rw [e,if_neg (by omega)]
 have hd:=Nat.div_add_mod S 365
 have hr:=Nat.mod_lt S (show 0<365 by decide)
 generalize S / 365=q at *
 generalize S % 365=r at *
 cases hu:upE q r 365 with
 |true =>
  rw [if_pos rfl,if_neg (by omega)]
  simp only [upE,Bool.or_eq_true,Bool.and_eq_true,decide_eq_true_eq] at hu
  exact ⟨q+1,rfl,by omega,by omega⟩
 |false =>
  simp only [Bool.false_eq_true,if_false,Nat.add_zero]
  rw [if_neg (by omega)]
  simp only [upE,Bool.or_eq_false_iff,Bool.and_eq_false_iff,decide_eq_false_iff_not] at hu
  exact ⟨q,rfl,by omega,by omega⟩
structure Good (P:List (Int×Int)):Prop where
 st:stG 0 0 P=true
 nn:∀ d,1≤d→d≤292194→0≤valS P d
theorem Good.of {l:List Sl} {P:List (Int×Int)} (h:curS l=some P):Good P:=by
 obtain ⟨h1,-,h3,h4⟩:=curS_ok h
 exact ⟨h3,fun d h5 h6=>by rw [h4 d h5 h6];exact yrAt_nn h1 d⟩
def upS (P:List (Int×Int)) (d:Int):Int:=dSum (valS P) 1 (d-1).toNat
theorem Good.sum {P:List (Int×Int)} (g:Good P) {a b:Int} (ha:1≤a) (hab:a<b) (hb:b≤292195):sumS P a b=if dSum (valS P) a (b-a).toNat>4000000000000000000 then (0,5) else (dSum (valS P) a (b-a).toNat,0):=by
 have hf:fullB a b=true:=by simp only [fullB,Bool.and_eq_true,decide_eq_true_eq];omega
 rw [sumS_eq,g.st,hf]
 have e:dSum (fun d=>max (valS P d) (-(valS P d))) a (b-a).toNat=dSum (valS P) a (b-a).toNat:=dSum_congr _ _ fun d h1 h2=>by
  have:=g.nn d (by omega) (by omega)
  omega
 rw [e];rfl
theorem upS_add {P:List (Int×Int)} {a b:Int} (ha:1≤a) (hab:a≤b):upS P b=upS P a+dSum (valS P) a (b-a).toNat:=by
 have:=dSum_add (valS P) (a-1).toNat (b-a).toNat 1
 rw [upS,upS,show (b-1).toNat=(a-1).toNat+(b-a).toNat by omega,this]
 congr 2;omega
theorem Good.mono {P:List (Int×Int)} (g:Good P) {a b:Int} (ha:1≤a) (hab:a≤b) (hb:b≤292195):0≤upS P a∧upS P a≤upS P b∧dSum (valS P) a (b-a).toNat=upS P b-upS P a:=by
 have h1:=upS_add (P:=P) ha hab
 have h2:=dSum_nonneg (g:=valS P) (b-a).toNat a fun d h3 h4=>g.nn d (by omega) (by omega)
 have h3:0≤upS P a:=dSum_nonneg (g:=valS P) (a-1).toNat 1 fun d h3 h4=>g.nn d (by omega) (by omega)
 exact ⟨h3,by omega,by omega⟩
theorem Good.upto {P:List (Int×Int)} (g:Good P) (ht:upS P 292195≤4000000000000000000) (d:Int):∃ E:Int,uptoR P d=(E,0)∧0≤E∧2*(365*E)≤2*upS P (toD d)+365∧2*upS P (toD d)≤2*(365*E)+365:=by
 have hT:1≤toD d∧toD d≤292195:=by simp only [toD];omega
 obtain ⟨m1,m2,m3⟩:=g.mono hT.1 hT.2 (Int.le_refl _)
 by_cases h1:toD d=1
 ·refine ⟨0,by rw [uptoR,if_pos h1],Int.le_refl _,by omega,?_⟩
  rw [h1];simp [upS,dSum]
 ·have hs:=g.sum (a:=1) (b:=toD d) (by omega) (by omega) hT.2
  have hu:dSum (valS P) 1 (toD d-1).toNat=upS P (toD d):=rfl
  rw [hu,if_neg (by omega)] at hs
  obtain ⟨S,hS⟩:∃ S:Nat,upS P (toD d)=(S:Int):=⟨(upS P (toD d)).toNat,by omega⟩
  obtain ⟨E,e1,e2,e3⟩:=even_near S (by omega)
  refine ⟨E,?_,by omega,by omega,by omega⟩
  rw [uptoR,if_neg h1,hs]
  simp only [ne_eq,not_true_eq_false,if_false]
  rw [hS,e1]
end Go.Proofs.YtanppabbmffokaaGreat
end
section
namespace Go.Proofs.YtanppabbmffokaaGreat
open Go.Bx
def InB (a b:Int) (s:Sl):Prop:=a≤s.sf∧s.st≤b
theorem doesS_sf (s:Sl) (c:Ch):(doesS s c).sf=s.sf:=by
 unfold doesS
 repeat' split
 all_goals rfl
end Go.Proofs.YtanppabbmffokaaGreat
end
section
namespace Go.Proofs.YtanppabbmffokaaGreat
open Go.Bx
theorem yrAt_out {a b d:Int} {l:List Sl} (h:∀ s,s∈l→InB a b s) (hd:d<a∨b≤d):yrAt l d=0:=by
 induction l with
 |nil=>rfl
 |cons s l ih =>
  have hs:=h s (by simp)
  simp only [InB] at hs
  rw [yrAt_cons,if_neg (by omega)]
  exact ih fun s hs=>h s (by simp [hs])
theorem ends {a b:Int} {l:List Sl} {P:List (Int×Int)} (h:curS l=some P) (hin:∀ s,s∈l→InB a b s) (h1:1≤a) (h2:a<b) (h3:b≤292195):upS P a=0∧upS P b=upS P 292195:=by
 obtain ⟨-,-,-,h4⟩:=curS_ok h
 have z:∀ d,1≤d→d≤292194→(d<a∨b≤d)→valS P d=0:=fun d g1 g2 g3=>by rw [h4 d g1 g2,yrAt_out hin g3]
 refine ⟨?_,?_⟩
 ·rw [upS,dSum_const (v:=0) _ _ fun d g1 g2=>z d g1 (by omega) (by omega)];simp
 ·rw [upS_add (a:=b) (b:=292195) (by omega) h3,dSum_const (v:=0) _ _ fun d g1 g2=>z d (by omega) (by omega) (by omega)];simp
theorem part_ok {l:List Sl} {P:List (Int×Int)} (h:curS l=some P) (ht:upS P 292195≤4000000000000000000) {x y:Int} (h1:1≤x) (h2:x<y) (h3:y≤292195) :
  ∃ n cost,betF l x y=(n,0)∧sumS P x y=(cost,0)∧0≤n∧365*n-cost≤365∧cost-365*n≤365∧n=(uptoR P y).1-(uptoR P x).1∧(uptoR P y).1≤4000000000000000000∧0≤(uptoR P x).1∧0≤cost∧cost≤4000000000000000000:=by
 have g:=Good.of h
 obtain ⟨E1,a1,a2,a3,a4⟩:=g.upto ht x
 obtain ⟨E2,b1,b2,b3,b4⟩:=g.upto ht y
 have tx:toD x=x:=by simp only [toD];omega
 have ty:toD y=y:=by simp only [toD];omega
 rw [tx] at a3 a4
 rw [ty] at b3 b4
 obtain ⟨m1,m2,m3⟩:=g.mono h1 (by omega:x≤y) h3
 obtain ⟨m4,m5,m6⟩:=g.mono (by omega:1≤y) h3 (Int.le_refl _)
 have hs:=g.sum h1 h2 h3
 rw [m3,if_neg (by omega)] at hs
 have ok:okS x y=true:=okS_iff.2 ⟨h1,by omega,h3⟩
 refine ⟨E2-E1,_,?_,hs,by omega,by omega,by omega,by rw [a1,b1],by rw [b1];simp only;omega,by rw [a1];exact a2,by omega,by omega⟩
 have w:IntKind.i64.wrap (E2-E1)=E2-E1:=wI (by omega)
 rw [betF,h]
 simp only [ok,a1,b1,ne_eq,not_true_eq_false,if_false,w]
 rfl
end Go.Proofs.YtanppabbmffokaaGreat
end
section
namespace Go.Proofs.YtanppabbmffokaaGreat
open Go.Bx
inductive Chain:Int→Int→List (Int×Int)→Prop
 |nil (a:Int):Chain a a []
 |cons {a b c:Int} {l:List (Int×Int)} (h:a<b) (hl:Chain b c l):Chain a c ((a,b)::l)
theorem Chain.le {a b:Int} {l:List (Int×Int)} (h:Chain a b l):a≤b:=by
 induction h with
 |nil=>exact Int.le_refl _
 |cons h _ ih=>omega
theorem Chain.snoc {a b c:Int} {l:List (Int×Int)} (h:Chain a b l) (hc:b<c):Chain a c (l++[(b,c)]):=by
 induction h with
 |nil=>exact .cons hc (.nil _)
 |cons h _ ih=>exact .cons h (ih hc)
theorem cutP_chain (t:Int):∀ (l:List Int) (f:Int),f<t→Chain f (cutP t f l).2 (cutP t f l).1∧(cutP t f l).2<t
 |[],f,h=>⟨.nil f,h⟩
 |d::r,f,h=>by
  rw [cutP]
  split
  ·rename_i hc
   have:=cutP_chain t r d hc.2
   exact ⟨.cons hc.1 this.1,this.2⟩
  ·exact cutP_chain t r f h
theorem parts_chain {a b:Int} {l:List Int} (h1:1≤a) (h2:a<b) (h3:b≤292195):Chain a b (partsF a b l):=by
 have hk:keptR a b=(a,b):=by
  rw [keptR,if_neg]
  have:okS a b=true:=okS_iff.2 ⟨h1,by omega,h3⟩
  rw [this]
  simp;omega
 rw [partsF,hk,if_neg (by simp;omega)]
 have:=cutP_chain b (daysP l) a h2
 exact this.1.snoc this.2
theorem Chain.at {a b:Int} {l:List (Int×Int)} (h:Chain a b l):∀ p,p∈l→a≤p.1∧p.1<p.2∧p.2≤b:=by
 induction h with
 |nil=>intro p hp;simp at hp
 |cons h hl ih =>
  intro p hp
  have:=hl.le
  rcases List.mem_cons.1 hp with rfl|hp
  ·exact ⟨Int.le_refl _,h,this⟩
  ·have:=ih p hp;omega
end Go.Proofs.YtanppabbmffokaaGreat
end
section
namespace Go.Proofs.YtanppabbmffokaaGreat
open Go.Bx
theorem Chain.take {a b:Int} {l:List (Int×Int)} (h:Chain a b l):∀ k,∃ c,Chain a c (l.take k)∧a≤c∧c≤b:=by
 induction h with
 |nil a=>intro k;exact ⟨a,by rw [List.take_nil];exact .nil a,Int.le_refl _,Int.le_refl _⟩
 |cons h hl ih =>
  intro k
  have:=hl.le
  cases k with
  |zero=>exact ⟨_,.nil _,Int.le_refl _,by omega⟩
  |succ k =>
   obtain ⟨c,h1,h2,h3⟩:=ih k
   exact ⟨c,.cons h h1,by omega,h3⟩
theorem partsF_len (a b:Int) (l:List Int):(partsF a b l).length≤l.length+1:=by
 rw [partsF]
 split
 ·simp
 ·have h1:=cutP_len b (daysP l) a
  have h2:=cmpcI_len (sortI l)
  have h3:(sortI l).length=l.length:=by simp [sortI]
  rw [List.length_append]
  simp only [daysP,List.length_cons,List.length_nil] at *
  omega
end Go.Proofs.YtanppabbmffokaaGreat
end
section
namespace Go.Proofs.YtanppabbmffokaaGreat
open Go.Bx
set_option maxRecDepth 10000
theorem ctr_ownL {P:Program} {f:FuncId} {fn:Func} {code:Code} {cc:C} {rs:List RV} {args:List V} {ins outs:List (Nat×Go.Bx.Own)} {res:V} {new:List Nat} {nt:Nat}
  (hf:P.funcs[f]?=some fn) (hok:okF P f=true) (hb:fn.body=some code) (hcc:cCode P fn.ntmps code=some cc) (hrs:cRess P fn.results.toList=some rs) (hnt:fn.ntmps=nt) (hlen:args.length≤nt)
  (hB:ctrB args ins res outs new=true) (h:∀ c:Ctx,c.P=P→c.fn=namesL args++ownNames ins→c.rd=none→vcC c cc ⟨initE 0 args,ins,namesL args++ownNames ins⟩ (RetK c rs res outs)):Ctr P f args ins res outs new:=by
 simp only [ctrB,Bool.and_eq_true,List.all_eq_true,Bool.or_eq_true,List.contains_iff_mem] at hB
 obtain ⟨h1,h2,h3,h4⟩:=hB
 exact spec_of_vcL hf hok hb hcc hrs (hnt▸hlen) h1 h2 (nodupB_ok h3) h4 (fun c e1 _ e2 e3=>h c e1 e2 e3)
def apO (L:List Ch) (k:Nat):List (Nat×Go.Bx.Own):=[(2,.fix [.osl 900]),(900,rowH (L.take k))]
def apO1 (L:List Ch) (k:Nat):List (Nat×Go.Bx.Own):=[(5,.fix (cCh (L.getD k default))),(2,.fix [.osl 900]),(900,rowH (L.take k))]
def apE (gf:Nat) (caps:List V):List (Nat×V):=[(2,.own 2 0),(6,.fn (.func gf) [] caps)]
def apE1:List (Nat×V):=[(2,.own 2 0),(5,.own 5 0)]
theorem ap_cli (L:List Ch):CliO [2] (apO L):=by
 refine ⟨fun k=>by simp [apO,keysO],fun k n hn=>?_,fun k n hn=>by simp at hn;simp [apO,keysO,hn]⟩
 simp only [apO,rowH,ownNames,namesL,V.names,List.append_nil,List.nil_append] at hn
 simpa [apO,keysO] using hn
theorem ap_cli1 (L:List Ch):CliO [2] (apO1 L):=by
 refine ⟨fun k=>by simp [apO1,keysO],fun k n hn=>?_,fun k n hn=>?_⟩
 ·simp only [apO1,rowH,cCh,ownNames,namesL,V.names,List.append_nil,List.nil_append] at hn
  simpa [apO1,keysO] using hn
 ·simp only [List.mem_cons,List.not_mem_nil,or_false] at hn
  simp [apO1,keysO,hn]
theorem ap_env (gf:Nat) (caps:List V) (hcp:namesL caps=[]):∀ s n,n∈(Go.Bx.get (apE gf caps) s).names→n∈[2]:=env_names fun s y hm n hn=>by
 simp only [apE,List.mem_cons,Prod.mk.injEq,List.not_mem_nil,or_false] at hm
 rcases hm with ⟨rfl,rfl⟩|⟨rfl,rfl⟩<;>simp [V.names,namesL,hcp] at hn ⊢<;>simp [hn]
set_option maxHeartbeats 2000000 in
theorem sAppendSeqH (gf:Nat) (caps:List V) (hcp:namesL caps=[]) (L:List Ch) (hL:L.length≤1000000) (hI:IterC Tryz.prog gf caps (fun k=>[vCh (L.getD k default)]) L.length) :
  Ctr Tryz.prog 92 [.d (.sl true 0 0 fun _=>[]),.fn (.func gf) [] caps] [] (.osl 7) [(7,rowH L)] [7]:=by
 refine ctr_ownL Tryz.func92 ok92 rfl cc92 cr92 Tryz.ntmps92 (by simp) (by simp [ctrB,hcp,namesL,V.names,ownNames,keysO,rowH];decide) ?_
 intro c hP hfn hrd
 have hfn:c.fn=[]:=by rw [hfn];simp [namesL,V.names,hcp,ownNames]
 simp only [kc92,namesL,V.names,ownNames,hcp,vcd,↓vcp,seval]
 repeat' first|refine ⟨fun h=>?_,fun h=>?_⟩|refine aO ?_|refine aT ?_|fail
 rw [←hP] at hI
 refine vcC.rfnAll hI (apE gf caps) [2] (apO L) (apO1 L) (fun _=>apE1) ?_ rfl trivial
  ⟨hrd,ap_cli L,ap_cli1 L,fun n hn=>(by rw [hfn] at hn;cases hn),ap_env gf caps hcp,hcp,fun _=>rfl,fun _=>rfl,fun _=>rfl,fun h=>absurd rfl h,fun h=>(by cases h)⟩ ?_ ?_ ?_
 ·refine (Wk.row0F 2 0 900 36 9 (fun i=>dCh ((L.take 0).getD i default)) rfl rfl (by simp)).trans (Wk.of (b:=⟨apE gf caps,apO L 0,[2,900]⟩) _ hfn ?_ ?_ ?_)
  ·simp [wkB,apE,apO,rowH,envNames,oNames,V.names,namesL,hcp,nodupB,keysO]
  ·simp only [apE,enb,vcd,↓vcp,seval]
  ·simp only [apO,rowH,enb,vcd,↓vcp,seval]
 ·intro k hk cB hPB hfB
  simp only [setPs,vCh,cCh,apO,apE,vcd,↓vcp,seval]
  rw [rfnA_nrm]
  refine Wk.of (b:=⟨apE1,apO1 L k,[5,2,900]⟩) _ hfB rfl ?_ ?_
  ·simp only [apE1,enb,vcd,↓vcp,seval]
  ·simp only [apO1,cCh,enb,vcd,↓vcp,seval]
 ·intro k hk cB hPB hfB
  simp only [apO1,apE1,rowH,cCh,vcd,↓vcp,seval]
  repeat' first|refine ⟨fun h=>?_,fun h=>?_⟩|refine aO ?_|refine aT ?_|fail
  have hlk:(L.take k).length=k:=by rw [List.length_take];omega
  obtain ⟨x,-,hg,-,hx⟩:=drop_at hk
  have hg:=hg default
  have htk:L.take (k+1)=L.take k++[x]:=by rw [List.take_add_one,hx];rfl
  refine ⟨⟨by omega,by simp only [maxLen];omega⟩,?_⟩
  rw [rfnB_nrm]
  refine ⟨rfl,(Wk.sw 11 900 _ hfB (by simp) (by simp)).trans (Wk.of (b:=⟨[],apO L (k+1),[2,900]⟩) _ hfB rfl (by simp only [enb,vcd,↓vcp,seval]) ?_)⟩
  rw [apO,htk]
  simp only [rowH,hg,enb,vcd,↓vcp,seval]
  exact OLe.appL dCh rfl (fun i hi=>by rw [if_pos hi]) (fun i hi=>by
   simp only [List.length_singleton] at hi
   rw [if_neg (by omega)]
   obtain rfl:i=0:=by omega
   simp [dCh,List.getD_eq_getElem?_getD])
 ·simp only [apE,apO,rowH,List.take_length,vcd,↓vcp,seval]
  repeat' first|refine ⟨fun h=>?_,fun h=>?_⟩|refine aO ?_|refine aT ?_|fail
  refine RetK.mk _ (Wk.sw 900 7 _ hfn (by simp) (by simp)) (by simp only [rs92,rsb,vcd,↓vcp,seval]) (by simp only [rs92,rsb,enb,vcd,↓vcp,seval]) (by simp only [rowH,enb,vcd,↓vcp,seval])
theorem sCollectH (gf:Nat) (caps:List V) (hcp:namesL caps=[]) (L:List Ch) (hL:L.length≤1000000) (hI:IterC Tryz.prog gf caps (fun k=>[vCh (L.getD k default)]) L.length) :
  Ctr Tryz.prog 46 [.fn (.func gf) [] caps] [] (.osl 7) [(7,rowH L)] [7]:=by
 have ca:=sAppendSeqH gf caps hcp L hL hI
 refine ctr_ownL Tryz.func46 ok46 rfl cc46 cr46 Tryz.ntmps46 (by simp) (by simp [ctrB,hcp,namesL,V.names,ownNames,keysO,rowH];decide) ?_
 intro c hP hfn hrd
 have hfn:c.fn=[]:=by rw [hfn];simp [namesL,V.names,hcp,ownNames]
 simp only [kc46,namesL,V.names,ownNames,hcp,vcd,↓vcp,seval]
 repeat' first|refine ⟨fun h=>?_,fun h=>?_⟩|refine aO ?_|refine aT ?_|fail
 refine TR.call [] [(7,rowH L)] (.osl 7) [7] (by rw [hP];exact ca) (by repeat' first|exact trivial|(intro _;assumption)|apply And.intro) (fun k o h=>by simp at h) (by simp [keysO]) (by simp) ?_
 simp only [rowH,vcd,↓vcp,seval]
 repeat' first|refine ⟨fun h=>?_,fun h=>?_⟩|refine aO ?_|refine aT ?_|fail
 exact RetK.mk _ (Wk.refl _ _) (by simp only [rs46,rsb,vcd,↓vcp,seval]) (by simp only [rs46,rsb,enb,vcd,↓vcp,seval]) (by simp only [rowH,enb,vcd,↓vcp,seval])
def uptoL (l:List Ch) (on:Int):List Ch:=l.filter fun c=>decide (c.bk≤on)
theorem uptoL_cons (x:Ch) (r:List Ch) (on:Int):uptoL (x::r) on=if x.bk≤on then x::uptoL r on else uptoL r on:=by
 simp only [uptoL,List.filter_cons,decide_eq_true_eq]
def utC (h:Hi) (on:Int):List V:=[.mem (dHi h),.mem [.int .i64 on]]
theorem sUptoK (h:Hi) (on:Int):Ctr Tryz.prog 47 [vHi h,.d (.int .i64 on)] [] (.fn (.func 93) [] (utC h on)) [] []:=by
 refine ctr_pure Tryz.func47 ok47 rfl cc47 cr47 Tryz.ntmps47 (by simp) rfl rfl ?_;intro c hP hfn;simp only [kc47,vHi,cHi,slC,slH,dCh,vcd,↓vcp,seval]
 repeat' first|refine ⟨fun h=>?_,fun h=>?_⟩|refine aO ?_|refine aT ?_|fail
 exact RetK.mk _ ((Wk.pubF 2 rfl rfl).trans (Wk.pubF 3 rfl rfl)) (by simp only [rs47,rsb,vcd,↓vcp,seval]) (by simp only [rs47,utC,dHi,slC,slH,dCh,rsb,enb,vcd,↓vcp,seval]) trivial
def ukE (h:Hi) (on:Int) (x:Ch) (l' k:Nat):List (Nat×V):=[(21,.fn (.yield l') [] []),(22,vCh x),(0,.fn (.yield l') [] []),(2,.mem [.int .i64 on]),(7,.d (slH h.ch)),(8,.d (.int .i64 h.ch.length)),(9,.d (.int .i64 (k:Nat)))]
theorem it_known (h:Hi) (on:Int) (hl:h.ch.length≤1000000) (hc:∀ c,c∈h.ch→c.cv.length≤1000000):IterC Tryz.prog 93 (utC h on) (fun k=>[vCh ((uptoL h.ch on).getD k default)]) (uptoL h.ch on).length:=by
 refine iter_of_vc Tryz.func93 ok93 rfl cc93 cr93 (by simp only [Tryz.ntmps93,List.length_cons,List.length_nil,utC];decide) rfl (fun _=>rfl) ?_
 intro c l' T stop Z hP _ hZ hT hT' hY
 have hbk:∀ k n o,(n,o)∈Z k→own? ([]++Z k) n=some o:=fun k n o hm=>mem_own? (hZ.nodup k) hm
 simp only [kc93,utC,dHi,slC,slH,dCh,vcd,↓vcp,seval]
 refine vcC.loop (X:=Nat×Nat) (fun x=>⟨[(0,.fn (.yield l') [] []),(2,.mem [.int .i64 on]),(7,.d (slH h.ch)),(8,.d (.int .i64 h.ch.length)),(9,.d (.int .i64 (x.1:Nat)))],[]++Z x.2,[]++keysO (Z x.2)⟩)
  (fun x=>x.1≤h.ch.length∧(uptoL h.ch on).drop x.2=uptoL (h.ch.drop x.1) on∧x.2≤T∧(stop=true→x.2<T)) (fun x=>h.ch.length-x.1) (0,0)
  ⟨Nat.zero_le _,rfl,Nat.zero_le _,fun h=>(hT' h).1⟩ (Wk.ofZ hZ rfl 0 (own:=[]) (nm:=[]) rfl rfl (by simp only [slC,slH,dCh,enb,vcd,↓vcp,seval]) (by simp only [enb,vcd,↓vcp,seval]) (hbk 0)) ?_
 rintro ⟨k,m⟩ ⟨hk,hd,hm,hms⟩
 simp only at hk hd hm hms
 by_cases hlt:k<h.ch.length
 ·obtain ⟨x,hdx,hgx,hmx,-⟩:=drop_at hlt
  have hgx:=hgx default
  have d0:decide ((k:Int)<(h.ch.length:Int))=true:=decide_eq_true (by omega)
  have w1:IntKind.i64.wrap ((k:Int)+1)=((k+1:Nat):Int):=wS (by omega)
  have b1:(0:Int)≤(k:Int)∧(k:Int)<(h.ch.length:Int):=by omega
  have hx5:(5∈List.map (fun x=>x.fst) (Z m))=False:=eq_false fun h=>by have:=hZ.ge m 5 h;omega
  have cc:=pCloneC x.cv (by have:=hc x hmx;omega)
  simp only [slC] at cc
  rw [hdx,uptoL_cons] at hd
  by_cases hb:x.bk≤on
  ·have d1:decide (x.bk>on)=false:=decide_eq_false (by omega)
   rw [if_pos hb] at hd
   simp only [slC,slH,dCh,d0,hgx,d1,hx5,own?_setO,vcd,↓vcp,seval]
   repeat' first|((first|refine tp hP (by exact cc) ?_|refine tg hP (fun _=>by exact cc) ?_|refine tv hP rfl (by exact cc) ?_);try simp only [d0,hgx,w1,d1,hx5,own?_setO,vcd,↓vcp,seval])|refine ⟨fun h=>?_,fun h=>?_⟩|refine aO ?_|refine aT ?_|fail
   have hr5:∀ n o (a b c':Go.Bx.Own),(n,o)∈Z m→own? (setO (setO (setO (Z m) 5 a) 5 b) 5 c') n=some o:=fun n o a b c' hm'=>by
    have:=hZ.ge m n (mem_keys hm')
    rw [own?_setO,if_neg (by omega),own?_setO,if_neg (by omega),own?_setO,if_neg (by omega)]
    exact mem_own? (hZ.nodup m) hm'
   have hlT:m<T:=by
    cases hst:stop with
    |true=>exact hms hst
    |false =>
     rw [hT hst]
     have:=congrArg List.length hd
     rw [List.length_drop,List.length_cons] at this
     omega
   have hga:(uptoL h.ch on).getD m default=x:=by
    have h9:=congrArg (fun l:List Ch=>l.getD 0 default) hd
    simp only [List.getD_cons_zero] at h9
    rw [←h9,List.getD_eq_getElem?_getD,List.getD_eq_getElem?_getD,List.getElem?_drop];rfl
   have hd2:(uptoL h.ch on).drop (m+1)=uptoL (h.ch.drop (k+1)) on:=by
    have h9:=congrArg (fun l:List Ch=>l.drop 1) hd
    simp only [List.drop_drop,List.drop_succ_cons,List.drop_zero] at h9
    exact h9
   refine TR.wk _ (Wk.ofZ (env:=ukE h on x l' k) hZ rfl m (own:=[]) (nm:=[]) rfl rfl (by simp only [ukE,slC,slH,dCh,vCh,cCh,enb,vcd,↓vcp,seval]) (by simp only [enb,vcd,↓vcp,seval]) (fun n o hm'=>hr5 n o _ _ _ hm')) ?_
   refine TR.yield hZ rfl (hY m hlT) (own:=[]) (nm:=[]) rfl rfl rfl trivial (by simp only [ukE,hga,vCh,cCh,vcd,↓vcp,seval]) (by simp only [ukE,vCh,cCh,vcd,↓vcp,seval]) ?_
   simp only [ukE,vcd,↓vcp,seval]
   refine ⟨fun hg=>?_,fun hg=>?_⟩
   ·have hT1:T=m+1:=by
     simp [goAt] at hg
     have:=hms hg.2
     omega
    subst hT1
    exact IterK.mk _ (Wk.refl _ _) (OwnLe.of fun n o hm=>⟨o,mem_own? (hZ.nodup (m+1)) hm,OLe.refl o⟩)
   ·have hg':m+1<T∨stop=false:=by
     simp [goAt] at hg
     by_cases h9:m+1<T
     ·exact .inl h9
     ·exact .inr (hg (by omega))
    simp only [w1,vcd,↓vcp,seval]
    exact lopK.on (k+1,m+1) ⟨hlt,hd2,hlT,fun h=>hg'.resolve_right (by rw [h];simp)⟩ (by simp only;omega) (Wk.ofZ hZ rfl (m+1) (own:=[]) (nm:=[]) rfl rfl (by simp only [slC,slH,dCh,w1,enb,vcd,↓vcp,seval]) (by simp only [enb,vcd,↓vcp,seval]) (hbk (m+1)))
  ·have d1:decide (x.bk>on)=true:=decide_eq_true (by omega)
   rw [if_neg hb] at hd
   simp only [slC,slH,dCh,d0,hgx,d1,hx5,own?_setO,vcd,↓vcp,seval]
   repeat' first|((first|refine tp hP (by exact cc) ?_|refine tg hP (fun _=>by exact cc) ?_|refine tv hP rfl (by exact cc) ?_);try simp only [d0,hgx,w1,d1,hx5,own?_setO,vcd,↓vcp,seval])|refine ⟨fun h=>?_,fun h=>?_⟩|refine aO ?_|refine aT ?_|fail
   have hr2:∀ n o (a b:Go.Bx.Own),(n,o)∈Z m→own? (setO (setO (Z m) 5 a) 5 b) n=some o:=fun n o a b hm'=>by
    have:=hZ.ge m n (mem_keys hm')
    rw [own?_setO,if_neg (by omega),own?_setO,if_neg (by omega)]
    exact mem_own? (hZ.nodup m) hm'
   exact lopK.on (k+1,m) ⟨hlt,hd,hm,hms⟩ (by simp only;omega) (Wk.ofZ hZ rfl m (own:=[]) (nm:=[]) rfl rfl (by simp only [slC,slH,dCh,w1,enb,vcd,↓vcp,seval]) (by simp only [enb,vcd,↓vcp,seval]) (fun n o hm'=>hr2 n o _ _ hm'))
 ·have hkl:k=h.ch.length:=by omega
  rw [hkl,List.drop_length] at hd
  have hml:(uptoL h.ch on).length≤m:=List.drop_eq_nil_iff.1 hd
  have hst:stop=false:=by
   cases hst:stop with
   |false=>rfl
   |true=>have:=hms hst;have:=(hT' hst).2;omega
  have hTm:T=m:=by have:=hT hst;omega
  have d0:decide ((k:Int)<(h.ch.length:Int))=false:=decide_eq_false (by omega)
  simp only [d0,vcd,↓vcp,seval]
  repeat' first|refine ⟨fun h=>?_,fun h=>?_⟩|refine aO ?_|refine aT ?_|fail
  rw [hTm]
  exact IterK.mk' _ (Wk.refl _ _) (OwnLe.of fun n o hm=>⟨o,mem_own? (hZ.nodup m) hm,OLe.refl o⟩)
end Go.Proofs.YtanppabbmffokaaGreat
end
section
namespace Go.Proofs.YtanppabbmffokaaGreat
open Go.Bx
set_option maxRecDepth 10000
def atK (h:Hi) (on:Int):Hi×Int:=if h.bk>on then (zHi,7) else ({ h with ch:=uptoL h.ch on },0)
theorem uptoL_len (l:List Ch) (on:Int):(uptoL l on).length≤l.length:=List.length_filter_le _ _
set_option maxHeartbeats 1000000 in
theorem sAtK (hh:Hi) (on:Int) (z:SzC hh):Ctr Tryz.prog 18 [vHi hh,.d (.int .i64 on)] [] (.tup [vHi (atK hh on).1,.d (.int .i64 (atK hh on).2)]) [] []:=by
 have hn:=z.n
 by_cases hb:hh.bk>on
 ·have e:atK hh on=(zHi,7):=by rw [atK,if_pos hb]
  have d0:decide (hh.bk>on)=true:=decide_eq_true hb
  rw [e]
  refine ctr_pure Tryz.func18 ok18 rfl cc18 cr18 Tryz.ntmps18 (by simp) rfl rfl ?_;intro c hP hfn;simp only [kc18,vHi,cHi,slC,slH,dCh,d0,vcd,↓vcp,seval]
  repeat' first|refine ⟨fun h=>?_,fun h=>?_⟩|refine aO ?_|refine aT ?_|fail
  refine RetK.pure (by simp only [rs18,rsb,vcd,↓vcp,seval]) ?_
  simp only [rs18,rsb,vcd,↓vcp,seval]
  exact VLe.tups ⟨vle_zHi,VLe.refl _,trivial⟩
 ·have e:atK hh on=({ hh with ch:=uptoL hh.ch on },0):=by rw [atK,if_neg hb]
  have d0:decide (hh.bk>on)=false:=decide_eq_false hb
  have hll:=uptoL_len hh.ch on
  have cc:=pCloneC hh.tm.cv (by have:=z.t;omega)
  have cu:=sUptoK hh on
  have cl:=sCollectH 93 (utC hh on) rfl (uptoL hh.ch on) (by omega) (it_known hh on (by omega) z.c)
  simp only [slC] at cc
  simp only [vHi,cHi,slC,slH,dCh] at cu
  rw [e]
  generalize uptoL hh.ch on=L at *
  refine ctr_pureL Tryz.func18 ok18 rfl cc18 cr18 Tryz.ntmps18 (by simp) rfl rfl ?_;intro c hP hfn hrd;simp only [kc18,vHi,cHi,slC,slH,dCh,d0,vcd,↓vcp,seval]
  repeat' first|((first|refine tp hP (by first|exact cc|exact cu) ?_|refine tg hP (fun _=>by first|exact cc|exact cu) ?_|refine tv hP rfl (by first|exact cc|exact cu) ?_);try simp only [d0,vcd,↓vcp,seval])|refine ⟨fun h=>?_,fun h=>?_⟩|refine aO ?_|refine aT ?_|fail
  refine TR.call [] [(7,rowH L)] (.osl 7) [7] (by rw [hP];exact cl) (by repeat' first|exact trivial|(intro _;assumption)|apply And.intro) (fun k o h=>by simp at h) (by simp [keysO]) (by simp) ?_
  simp only [rowH,vcd,↓vcp,seval]
  repeat' first|refine ⟨fun h=>?_,fun h=>?_⟩|refine aO ?_|refine aT ?_|fail
  refine RetK.mk _ (Wk.pub 7 rfl) (by simp only [rs18,rsb,vcd,↓vcp,seval]) ?_ trivial
  simp only [rs18,vHi,cHi,slH,slC,dCh,rsb,enb,vcd,↓vcp,seval]
def sliK (h:Hi) (t:List Vs) (on:Int):List Sl×Int:=if (atK h on).2≠0 then ([],(atK h on).2) else ofS (atK h on).1 t
theorem atK_sz {h:Hi} (z:SzC h) (on:Int):SzC (atK h on).1:=by
 rw [atK]
 by_cases hb:h.bk>on
 ·rw [if_pos hb];exact ⟨by simp [zHi],by simp [zHi],fun c h=>by simp [zHi] at h⟩
 ·rw [if_neg hb]
  have:=uptoL_len h.ch on
  have:=z.n
  exact ⟨z.t,by simp only;omega,fun c hc=>z.c c (List.mem_filter.1 hc).1⟩
theorem sSlicesK (hh:Hi) (t:List Vs) (on:Int) (z:SzC hh) (ht:t.length≤1000000) (hz:∀ v,v∈t→SzV v):Ctr Tryz.prog 20 [vHi hh,.ag [.d (slV t)],.d (.int .i64 on)] [] (.tup [.d (slS (sliK hh t on).1),.d (.int .i64 (sliK hh t on).2)]) [] []:=by
 have ca:=sAtK hh on z
 have co:=sOfS (atK hh on).1 t (atK_sz z on) ht hz
 rw [sliK]
 generalize atK hh on=A at *
 obtain ⟨A,e⟩:=A
 simp only at ca co ⊢
 simp only [vHi,cHi,slC,slH,dCh,slV,dVs,slB,slS,dSl] at ca co
 by_cases h1:e=0
 ·subst h1
  have n0:((0:Int) != 0)=false:=rfl
  rw [if_neg (by simp)]
  refine ctr_pure Tryz.func20 ok20 rfl cc20 cr20 Tryz.ntmps20 (by simp) rfl rfl ?_;intro c hP hfn;simp only [kc20,vHi,cHi,slC,slH,dCh,slV,dVs,slB,vcd,↓vcp,seval]
  repeat' first|((first|refine tp hP (by first|exact ca|exact co) ?_|refine tg hP (fun _=>by first|exact ca|exact co) ?_|refine tv hP rfl (by first|exact ca|exact co) ?_);try simp only [n0,vcd,↓vcp,seval])|refine ⟨fun h=>?_,fun h=>?_⟩|refine aO ?_|refine aT ?_|fail
  exact RetK.pure (by simp only [rs20,rsb,vcd,↓vcp,seval]) (by (simp only [rs20,rsb,enb,vcd,↓vcp,seval])<;>(first|exact VLe.refl _))
 ·have n1:(e != 0)=true:=bne_iff_ne.2 h1
  rw [if_pos h1]
  refine ctr_pure Tryz.func20 ok20 rfl cc20 cr20 Tryz.ntmps20 (by simp) rfl rfl ?_;intro c hP hfn;simp only [kc20,vHi,cHi,slC,slH,dCh,slV,dVs,slB,vcd,↓vcp,seval]
  repeat' first|((first|refine tp hP (by exact ca) ?_|refine tg hP (fun _=>by exact ca) ?_|refine tv hP rfl (by exact ca) ?_);try simp only [n1,vcd,↓vcp,seval])|refine ⟨fun h=>?_,fun h=>?_⟩|refine aO ?_|refine aT ?_|fail
  refine RetK.pure (by simp only [rs20,rsb,vcd,↓vcp,seval]) ?_
  simp only [rs20,rsb,vcd,↓vcp,seval]
  exact VLe.tups ⟨vle_nil,VLe.refl _,trivial⟩
end Go.Proofs.YtanppabbmffokaaGreat
end
section
namespace Go.Proofs.YtanppabbmffokaaGreat
open Go.Bx
set_option maxRecDepth 10000
def slAt (l:List Sl) (d:Int):Option Sl:=l.find? fun s=>decide (d≥(keptR s.sf s.st).1)&&decide (d<(keptR s.sf s.st).2)
def zSr:Sl:=⟨0,0,false,⟨0,0,0,0⟩,[],0⟩
theorem vle_zSr {g:Nat→List D}:VLe (.ag [.d (.int .i64 0),.d (.int .i64 0),.d (.bool false),.d (.int .i64 0),.d (.int .i64 0),.d (.int .i64 0),.d (.int .i64 0),.d (.sl true 0 0 g),.d (.int .i64 0)]) (vSl zSr):=
 VLe.ags ⟨VLe.refl _,VLe.refl _,VLe.refl _,VLe.refl _,VLe.refl _,VLe.refl _,VLe.refl _,vle_nil,VLe.refl _,trivial⟩
def zCs:List V:=[.d (.int .i64 0),.d (.int .i64 0),.d (.bool false),.d (.int .i64 0),.d (.int .i64 0),.d (.int .i64 0),.d (.int .i64 0),.d (.sl true 0 0 fun _=>[]),.d (.int .i64 0)]
theorem slAt_cons (x:Sl) (l:List Sl) (d:Int):slAt (x::l) d=if (decide (d≥(keptR x.sf x.st).1)&&decide (d<(keptR x.sf x.st).2))=true then some x else slAt l d:=by
 rw [slAt,List.find?_cons];split<;>rename_i h<;>simp only [h]<;>rfl
theorem sSlAt (l:List Sl) (d:Int) (hl:l.length≤9223372036854775807):Ctr Tryz.prog 51 [.d (slS l),.d (.int .i64 d)] [] (.tup [vSl ((slAt l d).getD zSr),.d (.bool (slAt l d).isSome)]) [] []:=by
 refine ctr_pure Tryz.func51 ok51 rfl cc51 cr51 Tryz.ntmps51 (by simp) rfl rfl ?_;intro c hP hfn;simp only [kc51,slS,dSl,slC,vcd,↓vcp,seval]
 refine vcC.loop (X:=Nat) (fun k=>⟨[(1,.d (.int .i64 d)),(4,.own 4 0),(8,.d (slS l)),(9,.d (.int .i64 l.length)),(10,.d (.int .i64 k))],[(4,.fix zCs)],[4]⟩)
  (fun k=>k≤l.length∧slAt l d=slAt (l.drop k) d) (fun k=>l.length-k) 0 ⟨Nat.zero_le _,rfl⟩ (Wk.of _ hfn rfl (by simp only [slS,dSl,slC,enb,vcd,↓vcp,seval]) (by simp only [zCs,enb,vcd,↓vcp,seval])) ?_
 rintro k ⟨hk,he⟩
 by_cases hlt:k<l.length
 ·obtain ⟨x,hd,hg,-,-⟩:=drop_at hlt
  have hg:=hg default
  have d0:decide ((k:Int)<(l.length:Int))=true:=decide_eq_true (by omega)
  have w1:IntKind.i64.wrap ((k:Int)+1)=((k+1:Nat):Int):=wS (by omega)
  have b1:(0:Int)≤(k:Int)∧(k:Int)<(l.length:Int):=by omega
  have ci:=sIn x.sf x.st d
  simp only [vS] at ci
  rw [hd,slAt_cons] at he
  cases hq:(decide (d≥(keptR x.sf x.st).1)&&decide (d<(keptR x.sf x.st).2)) with
  |true =>
   rw [hq] at ci
   rw [hq,if_pos rfl] at he
   rw [he]
   simp only [slS,dSl,slC,zCs,d0,hg,vcd,↓vcp,seval]
   repeat' first|((first|refine tp hP (by exact ci) ?_|refine tg hP (fun _=>by exact ci) ?_|refine tv hP rfl (by exact ci) ?_);try simp only [d0,hg,w1,vcd,↓vcp,seval])|refine ⟨fun h=>?_,fun h=>?_⟩|refine aO ?_|refine aT ?_|fail
   exact RetK.pure (by simp only [rs51,rsb,vcd,↓vcp,seval]) (by (simp only [rs51,rsb,enb,vcd,↓vcp,seval])<;>(first|exact VLe.refl _))
  |false =>
   rw [hq] at ci
   rw [hq,if_neg (by simp)] at he
   simp only [slS,dSl,slC,zCs,d0,hg,vcd,↓vcp,seval]
   repeat' first|((first|refine tp hP (by exact ci) ?_|refine tg hP (fun _=>by exact ci) ?_|refine tv hP rfl (by exact ci) ?_);try simp only [d0,hg,w1,vcd,↓vcp,seval])|refine ⟨fun h=>?_,fun h=>?_⟩|refine aO ?_|refine aT ?_|fail
   exact lopK.on (k+1) ⟨hlt,he⟩ (by omega) (Wk.of _ hfn rfl (by simp only [slS,dSl,slC,w1,enb,vcd,↓vcp,seval]) (by simp only [zCs,enb,vcd,↓vcp,seval]))
 ·have d0:decide ((k:Int)<(l.length:Int))=false:=decide_eq_false (by omega)
  have e:slAt l d=none:=by rw [he,List.drop_eq_nil_of_le (by omega)];rfl
  rw [e]
  simp only [slS,dSl,slC,zCs,d0,vcd,↓vcp,seval]
  repeat' first|refine ⟨fun h=>?_,fun h=>?_⟩|refine aO ?_|refine aT ?_|fail
  refine RetK.pure (by simp only [rs51,rsb,vcd,↓vcp,seval]) ?_
  simp only [rs51,rsb,vcd,↓vcp,seval]
  exact VLe.tups ⟨vle_zSr,VLe.refl _,trivial⟩
structure Cl where
 id:Int
 po:Int
 pe:Int
 lo:Int
 bk:Int
 ev:Int
instance:Inhabited Cl:=⟨⟨0,0,0,0,0,0⟩⟩
end Go.Proofs.YtanppabbmffokaaGreat
end
section
namespace Go.Proofs.YtanppabbmffokaaGreat
open Go.Bx
def Cov:Int→List Sl→Int→Prop
 |a,[],b=>a=b
 |a,s::r,b=>s.sf=a∧s.sf<s.st∧Cov s.st r b∧∀ x,r.head?=some x→holdsS s x=false
theorem Cov.le {b:Int}:∀ {l:List Sl} {a:Int},Cov a l b→a≤b
 |[],a,h=>by have h:a=b:=h;omega
 |s::r,a,h=>by have:=Cov.le h.2.2.1;have:=h.1;have:=h.2.1;omega
theorem Cov.snoc {b:Int} {s:Sl} (h2:s.sf=b) (h3:b<s.st):∀ {l:List Sl} {a:Int},Cov a l b→(∀ x,l.getLast?=some x→holdsS x s=false)→Cov a (l++[s]) s.st
 |[],a,h,hn=>by
  have h:a=b:=h
  exact ⟨by omega,by omega,rfl,fun x hx=>by simp at hx⟩
 |y::r,a,h,hn=>by
  obtain ⟨g1,g2,g3,g4⟩:=h
  refine ⟨g1,g2,Cov.snoc h2 h3 g3 (fun x hx=>hn x ?_),fun x hx=>?_⟩
  ·cases r with
   |nil=>simp at hx
   |cons z r=>rw [List.getLast?_cons_cons];exact hx
  ·cases r with
   |nil=>simp at hx;subst hx;exact hn y (by simp)
   |cons z r=>exact g4 x (by simpa using hx)
theorem Cov.ext {s:Sl} {d b:Int} (hd:s.sf<d):∀ {l:List Sl} {a:Int},Cov a (l++[s]) b→Cov a (l++[{ s with st:=d }]) d
 |[],a,h=>⟨h.1,hd,rfl,fun x hx=>by simp at hx⟩
 |y::r,a,h=>by
  obtain ⟨g1,g2,g3,g4⟩:=h
  refine ⟨g1,g2,Cov.ext hd g3,fun x hx=>?_⟩
  cases r with
  |nil=>simp at hx;subst hx;exact g4 s (by simp)
  |cons z r=>exact g4 x (by simpa using hx)
theorem Cov.last {s:Sl} {b:Int}:∀ {l:List Sl} {a:Int},Cov a (l++[s]) b→s.sf<s.st∧s.st=b
 |[],a,h=>⟨h.2.1,h.2.2.1⟩
 |y::r,a,h=>Cov.last (l:=r) h.2.2.1
theorem endO_cov {a:Int} {now:Sl} {out:List Sl} {d:Int} (h:Cov a out now.sf) (hd:now.sf≤d):Cov a (endO now out d) d:=by
 unfold endO
 split
 ·rename_i e;rw [←e];exact h
 ·rename_i e
  split
  ·rename_i hb
   simp only [endB,Bool.and_eq_true,decide_eq_true_eq] at hb
   obtain ⟨l,s,rfl⟩:∃ l s,out=l++[s]:=⟨out.dropLast,out.getLast (fun h=>by rw [h] at hb;simp at hb),(List.dropLast_concat_getLast _).symm⟩
   have e1:(l++[s]).length-1=l.length:=by simp
   have:=h.last
   rw [e1,getD_mid,set_mid]
   exact h.ext (by omega)
  ·rename_i hb
   refine Cov.snoc (s:={ now with st:=d }) rfl (by simp only;omega) h fun x hx=>?_
   obtain ⟨l,rfl⟩:=List.getLast?_eq_some_iff.1 hx
   have e1:(l++[x]).length-1=l.length:=by simp
   rw [endB,e1,getD_mid,Bool.and_eq_true] at hb
   cases hh:holdsS x { now with st:=d } with
   |false=>rfl
   |true=>exact absurd ⟨decide_eq_true (by simp),hh⟩ hb
theorem fold_cov {ch:List Ch} {a:Int}:∀ (L:List Int) (x:Sl×List Sl),Cov a x.2 x.1.sf→(∀ i,i∈L→x.1.sf≤dayC ch i)→L.Pairwise (fun i j=>dayC ch i≤dayC ch j) →
  Cov a (L.foldl (stepCut ch) x).2 (L.foldl (stepCut ch) x).1.sf∧((L.foldl (stepCut ch) x).1.sf=x.1.sf∨∃ i,i∈L∧(L.foldl (stepCut ch) x).1.sf=dayC ch i)
 |[],x,h,_,_=>⟨h,.inl rfl⟩
 |i::L,x,h,hd,hp=>by
  have e:(stepCut ch x i).1.sf=dayC ch i:=by simp only [stepCut,doesS_sf,dayC]
  obtain ⟨p1,p2⟩:=List.pairwise_cons.1 hp
  have:=fold_cov L (stepCut ch x i) (by rw [e];exact endO_cov h (hd i (by simp))) (fun j hj=>by rw [e];exact p1 j hj) p2
  rw [List.foldl_cons]
  refine ⟨this.1,.inr ?_⟩
  rcases this.2 with h2|⟨j,h2,h3⟩
  ·exact ⟨i,by simp,by rw [h2,e]⟩
  ·exact ⟨j,by simp [h2],h3⟩
theorem right_days {h:Hi} (hr:rightHi h=true):1≤h.tm.sf∧h.tm.sf<h.tm.st∧h.tm.st≤292195∧∀ c,c∈h.ch→h.tm.sf≤c.dy∧c.dy≤h.tm.st:=by
 simp only [rightHi,Bool.and_eq_true,List.all_eq_true] at hr
 have h2:=hr.2.1
 simp only [rightTm,Bool.and_eq_true,decide_eq_true_eq] at h2
 have h3:=okS_iff.1 h2.1.1.1
 have h4:=h2.1.1.2.1
 have hlt:h.tm.sf<h.tm.st:=by
  rcases Int.lt_or_le h.tm.sf h.tm.st with h5|h5
  ·exact h5
  ·have h6:h.tm.sf=h.tm.st:=by omega
   rw [manyR,keptR,if_pos (by simp [h6])] at h4
   exact absurd h4 (by decide)
 refine ⟨h3.1,hlt,h3.2.2,fun c hc=>?_⟩
 have h1:=(hr.1 c hc).2
 simp only [inT,Bool.and_eq_true,decide_eq_true_eq,keptR] at h1
 split at h1
 ·simp at h1;omega
 ·simp at h1;omega
theorem orderC_sorted (ch:List Ch):(orderC ch).Pairwise (fun i j=>dayC ch i≤dayC ch j):=by
 have:=srt_sorted (lt:=ltO (cfC ch)) (swoC ch) (intsN ch.length) [] List.Pairwise.nil
 refine List.Pairwise.imp ?_ this
 intro a b h
 rw [ltC] at h
 simpa using h
theorem cutS_cov {h:Hi} (hr:rightHi h=true):Cov h.tm.sf (cutS h) h.tm.st:=by
 obtain ⟨-,h2,-,hc⟩:=right_days hr
 have hd:∀ i,i∈orderC h.ch→h.tm.sf≤dayC h.ch i∧dayC h.ch i≤h.tm.st:=fun i hi=>by
  have ho:=orderC_ok _ i hi
  obtain ⟨c,-,hg,hm,-⟩:=drop_at (l:=h.ch) (k:=i.toNat) (by have:=ho.1;have:=ho.2;omega)
  rw [dayC,hg];exact hc c hm
 have e:(orderC h.ch).take h.ch.length=orderC h.ch:=List.take_of_length_le (by rw [orderC_len];omega)
 obtain ⟨g1,g2⟩:=fold_cov (orderC h.ch) (cut0 h) (rfl:h.tm.sf=h.tm.sf) (fun i hi=>(hd i hi).1) (orderC_sorted h.ch)
 rw [cutS,cutK,e]
 refine endO_cov g1 ?_
 rcases g2 with h3|⟨i,hi,h3⟩
 ·rw [h3];exact Int.le_of_lt h2
 ·rw [h3];exact (hd i hi).2
theorem Cov.map {f:Sl→Sl} (h1:∀ s,(f s).sf=s.sf∧(f s).st=s.st) (h2:∀ s x,holdsS (f s) (f x)=holdsS s x) {b:Int}:∀ {l:List Sl} {a:Int},Cov a l b→Cov a (l.map f) b
 |[],a,h=>h
 |s::r,a,h=>by
  obtain ⟨g1,g2,g3,g4⟩:=h
  rw [List.map_cons]
  refine ⟨by rw [(h1 s).1];exact g1,by rw [(h1 s).1,(h1 s).2];exact g2,by rw [(h1 s).2];exact Cov.map h1 h2 g3,fun x hx=>?_⟩
  rw [List.head?_map] at hx
  cases hr:r.head? with
  |none=>rw [hr] at hx;simp at hx
  |some y=>rw [hr] at hx;simp at hx;subst hx;rw [h2];exact g4 y hr
theorem endO_yr {now:Sl} {out:List Sl} {d:Int} (h1:now.yr=0) (h2:∀ s,s∈out→s.yr=0):∀ s,s∈endO now out d→s.yr=0:=by
 unfold endO
 split
 ·exact h2
 ·split
  ·rename_i hb
   simp only [endB,Bool.and_eq_true,decide_eq_true_eq] at hb
   intro s hs
   rcases List.mem_or_eq_of_mem_set hs with h|h
   ·exact h2 s h
   ·obtain ⟨x,-,hg,hm,-⟩:=drop_at (l:=out) (k:=out.length-1) (by omega)
    rw [h,hg];exact h2 x hm
  ·intro s hs
   rcases List.mem_append.1 hs with h|h
   ·exact h2 s h
   ·rw [List.mem_singleton.1 h];exact h1
theorem doesS_yr (s:Sl) (c:Ch):(doesS s c).yr=s.yr:=by
 unfold doesS
 repeat' split
 all_goals rfl
theorem fold_yr {ch:List Ch}:∀ (L:List Int) (x:Sl×List Sl),x.1.yr=0→(∀ s,s∈x.2→s.yr=0)→(L.foldl (stepCut ch) x).1.yr=0∧∀ s,s∈(L.foldl (stepCut ch) x).2→s.yr=0
 |[],x,h1,h2=>⟨h1,h2⟩
 |i::L,x,h1,h2=>by
  rw [List.foldl_cons]
  exact fold_yr L (stepCut ch x i) (by simp only [stepCut,doesS_yr];exact h1) (endO_yr h1 h2)
theorem cutS_yr (h:Hi):∀ s,s∈cutS h→s.yr=0:=by
 obtain ⟨h1,h2⟩:=fold_yr (ch:=h.ch) ((orderC h.ch).take h.ch.length) (cut0 h) rfl (fun s hs=>by simp [cut0] at hs)
 exact endO_yr h1 h2
theorem yearR_bd (v:Vs) (r:Rk) (l:List Cv):0≤(yearR v r l).1∧(yearR v r l).1≤4000000000000000000:=by
 have:=sumQ_nonneg (l:=msQ v r l) fun x hx=>(msQ_pos v r l x hx).1
 unfold yearR
 split
 ·simp
 ·split
  ·simp
  ·constructor<;>simp only<;>omega
structure CovO (h:Hi) (l:List Sl):Prop where
 cov:Cov h.tm.sf l h.tm.st
 lo:1≤h.tm.sf
 lt:h.tm.sf<h.tm.st
 hi:h.tm.st≤292195
 yr:∀ s,s∈l→0≤s.yr∧s.yr≤4000000000000000000
theorem ofS_cov {h:Hi} {t:List Vs} (e:(ofS h t).2=0):CovO h (ofS h t).1:=by
 revert e
 rw [ofS]
 by_cases hr:rightHi h=false
 ·rw [if_pos hr];simp
 ·rw [if_neg hr]
  have hr:rightHi h=true:=by simpa using hr
  cases atV t h.tm.sf with
  |none=>simp
  |some v =>
   simp only
   split
   ·intro _
    obtain ⟨h1,h2,h3,-⟩:=right_days hr
    refine ⟨Cov.map (fun s=>by rw [mapP];split<;>exact ⟨rfl,rfl⟩) (fun s x=>by rw [mapP,mapP];split<;>split<;>rfl) (cutS_cov hr),h1,h2,h3,fun s hs=>?_⟩
    obtain ⟨s',h4,rfl⟩:=List.mem_map.1 hs
    rw [mapP]
    split
    ·exact yearR_bd _ _ _
    ·rw [cutS_yr h s' h4];omega
   ·rename_i h5;intro h6;exact absurd h6 h5
theorem Cov.run {b:Int} (hb:b≤292195):∀ {l:List Sl} {a e:Int},Cov a l b→e≤a→(∀ s,s∈l→0≤s.yr∧s.yr≤4000000000000000000)→Run e l
 |[],a,e,_,_,_=>.nil e
 |s::r,a,e,h,he,hy=>by
  obtain ⟨g1,g2,g3,g4⟩:=h
  have:=Cov.le g3
  have:=hy s (by simp)
  exact .cons (fullSl_iff.2 ⟨by omega,g2,by omega,by omega,by omega⟩) (Cov.run hb g3 (Int.le_refl _) fun s hs=>hy s (by simp [hs]))
theorem Cov.mem {b:Int}:∀ {l:List Sl} {a:Int},Cov a l b→∀ s,s∈l→a≤s.sf∧s.sf<s.st∧s.st≤b
 |[],a,_,s,hs=>by simp at hs
 |y::r,a,h,s,hs=>by
  obtain ⟨g1,g2,g3,g4⟩:=h
  have:=Cov.le g3
  rcases List.mem_cons.1 hs with rfl|hs
  ·omega
  ·have:=Cov.mem g3 s hs;omega
theorem Cov.ex {b d:Int} (hd:d<b):∀ {l:List Sl} {a:Int},Cov a l b→a≤d→∃ s,s∈l∧s.sf≤d∧d<s.st
 |[],a,h,ha=>by have h:a=b:=h;omega
 |s::r,a,h,ha=>by
  obtain ⟨g1,g2,g3,g4⟩:=h
  by_cases hs:d<s.st
  ·exact ⟨s,by simp,by omega,hs⟩
  ·obtain ⟨x,h1,h2⟩:=Cov.ex hd g3 (by omega)
   exact ⟨x,by simp [h1],h2⟩
theorem kept_ok {f t:Int} (h1:1≤f) (h2:f<t) (h3:t≤292195):keptR f t=(f,t):=by
 rw [keptR,if_neg]
 have:okS f t=true:=okS_iff.2 ⟨h1,by omega,h3⟩
 rw [this];simp;omega
theorem Cov.at {b:Int} (hb:b≤292195):∀ {l:List Sl} {a:Int},Cov a l b→1≤a→∀ s d,s∈l→s.sf≤d→d<s.st→slAt l d=some s∧yrAt l d=s.yr
 |[],a,h,ha,s,d,hs,_,_=>by simp at hs
 |y::r,a,h,ha,s,d,hs,h1,h2=>by
  have hm:=Cov.mem h y (by simp)
  obtain ⟨g1,g2,g3,g4⟩:=h
  rw [slAt_cons,yrAt_cons,kept_ok (by omega) hm.2.1 (by omega)]
  simp only
  rcases List.mem_cons.1 hs with rfl|hs
  ·rw [if_pos (by simp;omega),if_pos ⟨h1,h2⟩];exact ⟨rfl,rfl⟩
  ·have hm2:=Cov.mem g3 s hs
   rw [if_neg (by simp;omega),if_neg (by omega)]
   exact Cov.at hb g3 (by omega) s d hs h1 h2
def likeS (l m:List Sl) (d:Int):Bool:=sameS { (slAt l d).getD zSr with sf:=0,st:=0 } { (slAt m d).getD zSr with sf:=0,st:=0 }
theorem like_iff {l m:List Sl} {d:Int} {x y:Sl} (h1:slAt l d=some x) (h2:slAt m d=some y):likeS l m d=true↔x.yr=y.yr∧holdsS x y=true:=by
 rw [likeS,h1,h2,sameS]
 show (((((0:Int) == 0)&&((0:Int) == 0))&&(x.yr == y.yr))&&holdsS x y)=true↔_
 simp
theorem holds_iff {x y:Sl}:holdsS x y=true↔x.on=y.on∧x.rk=y.rk∧x.cv=y.cv:=by
 rw [holdsS,Bool.and_eq_true,Bool.and_eq_true,eqRk_iff,beq_iff_eq,decide_eq_true_eq,and_assoc]
theorem cov_eq {b:Int} (hb:b≤292195):∀ {l m:List Sl} {a:Int},1≤a→Cov a l b→Cov a m b→(∀ d,a≤d→d<b→∃ x y,x∈l∧y∈m∧x.sf≤d∧d<x.st∧y.sf≤d∧d<y.st∧x.yr=y.yr∧holdsS x y=true)→l=m
 |[],[],a,_,_,_,_=>rfl
 |[],y::m,a,_,h1,h2,_=>by
  have h1:a=b:=h1
  have:=Cov.mem h2 y (by simp);omega
 |x::l,[],a,_,h1,h2,_=>by
  have h2:a=b:=h2
  have:=Cov.mem h1 x (by simp);omega
 |x::l,y::m,a,ha,h1,h2,hl=>by
  have m1:=Cov.mem h1 x (by simp)
  have m2:=Cov.mem h2 y (by simp)
  have M1:=fun s hs=>Cov.mem h1 s hs
  have M2:=fun s hs=>Cov.mem h2 s hs
  obtain ⟨g1,g2,g3,g4⟩:=h1
  obtain ⟨f1,f2,f3,f4⟩:=h2
  have at1:∀ d s,s∈x::l→s.sf≤d→d<s.st→d<x.st→s=x:=fun d s hs h3 h4 h5=>by
   rcases List.mem_cons.1 hs with h|h
   ·exact h
   ·have:=Cov.mem g3 s h;omega
  have at2:∀ d s,s∈y::m→s.sf≤d→d<s.st→d<y.st→s=y:=fun d s hs h3 h4 h5=>by
   rcases List.mem_cons.1 hs with h|h
   ·exact h
   ·have:=Cov.mem f3 s h;omega
  obtain ⟨x',y',q1,q2,q3,q4,q5,q6,q7,q8⟩:=hl a (Int.le_refl _) (by omega)
  obtain rfl:=at1 a x' q1 q3 q4 (by omega)
  obtain rfl:=at2 a y' q2 q5 q6 (by omega)
  have hst:x'.st=y'.st:=by
   rcases Int.lt_trichotomy x'.st y'.st with h|h|h
   ·exfalso
    obtain ⟨u,v,p1,p2,p3,p4,p5,p6,p7,p8⟩:=hl x'.st (by omega) (by omega)
    obtain rfl:=at2 _ v p2 p5 p6 h
    have hu:u∈l:=by
     rcases List.mem_cons.1 p1 with h|h
     ·rw [h] at p4;omega
     ·exact h
    cases l with
    |nil=>simp at hu
    |cons z l =>
     have hz:u=z:=by
      rcases List.mem_cons.1 hu with h|h
      ·exact h
      ·have:=Cov.mem g3.2.2.1 u h;have:=g3.1;have:=g3.2.1;omega
     have h9:=g4 z rfl
     have h10:holdsS x' z=true:=by
      rw [holds_iff] at *
      subst hz
      exact ⟨q8.1.trans p8.1.symm,q8.2.1.trans p8.2.1.symm,q8.2.2.trans p8.2.2.symm⟩
     rw [h9] at h10;cases h10
   ·exact h
   ·exfalso
    obtain ⟨u,v,p1,p2,p3,p4,p5,p6,p7,p8⟩:=hl y'.st (by omega) (by omega)
    obtain rfl:=at1 _ u p1 p3 p4 h
    have hu:v∈m:=by
     rcases List.mem_cons.1 p2 with h|h
     ·rw [h] at p6;omega
     ·exact h
    cases m with
    |nil=>simp at hu
    |cons z m =>
     have hz:v=z:=by
      rcases List.mem_cons.1 hu with h|h
      ·exact h
      ·have:=Cov.mem f3.2.2.1 v h;have:=f3.1;have:=f3.2.1;omega
     have h9:=f4 z rfl
     have h10:holdsS y' z=true:=by
      rw [holds_iff] at *
      subst hz
      exact ⟨q8.1.symm.trans p8.1,q8.2.1.symm.trans p8.2.1,q8.2.2.symm.trans p8.2.2⟩
     rw [h9] at h10;cases h10
  have hxy:x'=y':=by
   have:=holds_iff.1 q8
   cases x';cases y'
   simp only at *
   simp only [Sl.mk.injEq]
   exact ⟨by omega,hst,this.1,this.2.1,this.2.2,q7⟩
  subst hxy
  rw [cov_eq hb (by omega) g3 f3 fun d h3 h4=>by
   obtain ⟨u,v,p1,p2,p3,p4,p5,p6,p7,p8⟩:=hl d (by omega) h4
   refine ⟨u,v,?_,?_,p3,p4,p5,p6,p7,p8⟩
   ·rcases List.mem_cons.1 p1 with h|h
    ·rw [h] at p4;omega
    ·exact h
   ·rcases List.mem_cons.1 p2 with h|h
    ·rw [h] at p6;omega
    ·exact h]
end Go.Proofs.YtanppabbmffokaaGreat
end
section
namespace Go.Proofs.YtanppabbmffokaaGreat
open Go.Bx
theorem mem_compact_iff {zs:List Int} {x:Int}:x∈cmpcI zs↔x∈zs:=by
 have key:∀ (d:Array Int) (m:Nat),m≤d.size→∀ i,i<m→d[i]!∈Go.Lib.compactUpTo d m:=by
  intro d m
  induction m with
  |zero=>intro _ i hi;omega
  |succ m ih =>
   intro hm i hi
   rw [Go.Lib.compactUpTo_succ]
   by_cases him:i=m
   ·subst him
    by_cases hk:Go.Lib.keeps d i=true
    ·rw [if_pos hk];simp
    ·have h2:¬ (i=0∨d[i]!≠d[i-1]!):=by simpa [Go.Lib.keeps] using hk
     have h3:d[i]! = d[i-1]!:=by
      rcases Classical.em (d[i]! = d[i-1]!) with h|h
      ·exact h
      ·exact absurd (.inr h) h2
     have h4:i≠0:=fun h=>h2 (.inl h)
     rw [h3]
     exact List.mem_append_left _ (ih (by omega) (i-1) (by omega))
   ·exact List.mem_append_left _ (ih (by omega) i (by omega))
 constructor
 ·intro h
  unfold cmpcI Go.Lib.compact Go.Lib.compactUpTo at h
  obtain ⟨i,hi,rfl⟩:=List.mem_map.1 h
  have hi':i<zs.length:=List.mem_range.1 (List.mem_filter.1 hi).1
  simp [getElem!_pos,hi']
 ·intro h
  obtain ⟨i,hi,rfl⟩:=List.getElem_of_mem h
  have:=key zs.toArray zs.length (by simp) i hi
  show zs[i]∈Go.Lib.compactUpTo zs.toArray zs.length
  simpa [getElem!_pos,hi] using this
theorem compact_sub (zs:List Int):(cmpcI zs).Sublist zs:=by
 have h1:=(List.filter_sublist (p:=Go.Lib.keeps zs.toArray) (l:=List.range zs.length)).map (zs.toArray[·]!)
 have h2:=Go.Lib.range_map_get zs.toArray
 simp only [List.size_toArray] at h2
 rw [h2] at h1
 exact h1
theorem days_mem {l:List Int} {c:Int}:c∈daysP l↔c∈l:=by
 rw [daysP,mem_compact_iff,sortI]
 exact (List.mergeSort_perm _ _).mem_iff
theorem days_sorted (l:List Int):(daysP l).Pairwise (·≤·):=by
 have:=List.pairwise_mergeSort (le:=fun x y:Int=>decide (x≤y)) (fun a b c h1 h2=>by simp at *;omega) (fun a b=>by simp;omega) l
 exact ((this.sublist (compact_sub _)).imp fun h=>by simpa using h)
theorem cutP_no (t:Int):∀ (D:List Int) (f:Int),f<t→D.Pairwise (·≤·)→∀ p,p∈(cutP t f D).1++[((cutP t f D).2,t)]→(f≤p.1∧p.2≤t)∧∀ c,c∈D→¬ (p.1<c∧c<p.2)
 |[],f,hf,_,p,hp=>by
  simp only [cutP,List.nil_append,List.mem_singleton] at hp
  subst hp
  exact ⟨⟨Int.le_refl _,Int.le_refl _⟩,fun c hc=>by simp at hc⟩
 |d::r,f,hf,hD,p,hp=>by
  obtain ⟨h1,h2⟩:=List.pairwise_cons.1 hD
  rw [cutP] at hp
  split at hp
  ·rename_i hc
   rw [List.cons_append] at hp
   rcases List.mem_cons.1 hp with rfl|hp
   ·refine ⟨⟨Int.le_refl _,Int.le_of_lt hc.2⟩,fun c hcm=>?_⟩
    rcases List.mem_cons.1 hcm with rfl|hcm
    ·simp only;omega
    ·have:=h1 c hcm;simp only;omega
   ·obtain ⟨g1,g2⟩:=cutP_no t r d hc.2 h2 p hp
    refine ⟨⟨by omega,g1.2⟩,fun c hcm=>?_⟩
    rcases List.mem_cons.1 hcm with rfl|hcm
    ·omega
    ·exact g2 c hcm
  ·rename_i hc
   obtain ⟨g1,g2⟩:=cutP_no t r f hf h2 p hp
   refine ⟨g1,fun c hcm=>?_⟩
   rcases List.mem_cons.1 hcm with rfl|hcm
   ·omega
   ·exact g2 c hcm
theorem parts_no {a b:Int} {l:List Int} (h1:1≤a) (h2:a<b) (h3:b≤292195) {p:Int×Int} (hp:p∈partsF a b l) {c:Int} (hc:c∈l):¬ (p.1<c∧c<p.2):=by
 rw [partsF,kept_ok h1 h2 h3,if_neg (by simp;omega)] at hp
 exact (cutP_no b (daysP l) a h2 (days_sorted l) p hp).2 c (days_mem.2 hc)
theorem Chain.ex {a b:Int} {l:List (Int×Int)} (h:Chain a b l):∀ d,a≤d→d<b→∃ p,p∈l∧p.1≤d∧d<p.2:=by
 induction h with
 |nil=>intro d h1 h2;omega
 |cons h _ ih =>
  rename_i x y z l _
  intro d h1 h2
  by_cases hd:d<y
  ·exact ⟨(x,y),by simp,h1,hd⟩
  ·obtain ⟨p,g1,g2⟩:=ih d (by omega) h2
   exact ⟨p,by simp [g1],g2⟩
def OkP (p:Int×Int):Prop:=1≤p.1∧p.1<p.2∧p.2≤292195
def stepJ (out:List (Int×Int)) (s:Int×Int):List (Int×Int):=
 if 0<out.length∧s.1≤(out.getD (out.length-1) default).2 then out.set (out.length-1) ((out.getD (out.length-1) default).1,max (out.getD (out.length-1) default).2 s.2) else out++[s]
def joinP (l:List (Int×Int)):List (Int×Int):=l.foldl stepJ []
theorem stepJ_ok {out:List (Int×Int)} {s:Int×Int} (hs:OkP s) (ho:∀ m,m∈out→OkP m∧m.1≤s.1):(∀ m,m∈stepJ out s→OkP m∧m.1≤s.1)∧(∀ d,(∃ m,m∈out∧m.1≤d∧d<m.2)∨(s.1≤d∧d<s.2)→∃ m,m∈stepJ out s∧m.1≤d∧d<m.2):=by
 unfold stepJ
 split
 ·rename_i h
  obtain ⟨l,q,rfl⟩:∃ l q,out=l++[q]:=⟨out.dropLast,out.getLast (fun h'=>by rw [h'] at h;simp at h),(List.dropLast_concat_getLast _).symm⟩
  have e1:(l++[q]).length-1=l.length:=by simp
  rw [e1,getD_mid] at h ⊢
  rw [set_mid]
  have hq:=ho q (by simp)
  obtain ⟨hq1,hq2⟩:=hq
  simp only [OkP] at hs hq1
  refine ⟨fun m hm=>?_,fun d hd=>?_⟩
  ·rcases List.mem_append.1 hm with hm|hm
   ·exact ho m (by simp [hm])
   ·rw [List.mem_singleton.1 hm];simp only [OkP];omega
  ·rcases hd with ⟨m,hm,h4⟩|h4
   ·rcases List.mem_append.1 hm with hm|hm
    ·exact ⟨m,by simp [hm],h4⟩
    ·rw [List.mem_singleton.1 hm] at h4
     exact ⟨(q.1,max q.2 s.2),by simp,by simp only;omega,by simp only;omega⟩
   ·exact ⟨(q.1,max q.2 s.2),by simp,by simp only;omega,by simp only;omega⟩
 ·refine ⟨fun m hm=>?_,fun d hd=>?_⟩
  ·rcases List.mem_append.1 hm with hm|hm
   ·exact ho m hm
   ·rw [List.mem_singleton.1 hm];exact ⟨hs,Int.le_refl _⟩
  ·rcases hd with ⟨m,hm,h4⟩|h4
   ·exact ⟨m,by simp [hm],h4⟩
   ·exact ⟨s,by simp,h4⟩
theorem foldJ_ok:∀ (l:List (Int×Int)) (out:List (Int×Int)),(∀ p,p∈l→OkP p)→l.Pairwise (fun p q=>p.1≤q.1)→(∀ m,m∈out→OkP m∧∀ p,p∈l→m.1≤p.1) →
  (∀ m,m∈l.foldl stepJ out→OkP m)∧∀ d,(∃ m,m∈out∧m.1≤d∧d<m.2)∨(∃ p,p∈l∧p.1≤d∧d<p.2)→∃ m,m∈l.foldl stepJ out∧m.1≤d∧d<m.2
 |[],out,_,_,ho=>⟨fun m hm=>(ho m hm).1,fun d hd=>by
  rcases hd with h|⟨p,hp,-⟩
  ·exact h
  ·simp at hp⟩
 |s::r,out,hl,hp,ho=>by
  obtain ⟨p1,p2⟩:=List.pairwise_cons.1 hp
  obtain ⟨h1,h2⟩:=stepJ_ok (hl s (by simp)) fun m hm=>⟨(ho m hm).1,(ho m hm).2 s (by simp)⟩
  obtain ⟨h3,h4⟩:=foldJ_ok r (stepJ out s) (fun p hp=>hl p (by simp [hp])) p2 fun m hm=>⟨(h1 m hm).1,fun p hp=>by have:=(h1 m hm).2;have:=p1 p hp;omega⟩
  rw [List.foldl_cons]
  refine ⟨h3,fun d hd=>h4 d ?_⟩
  rcases hd with h|⟨p,hp,h⟩
  ·exact .inl (h2 d (.inl h))
  ·rcases List.mem_cons.1 hp with rfl|hp
   ·exact .inl (h2 d (.inr h))
   ·exact .inr ⟨p,hp,h⟩
theorem chain_sorted {a b:Int} {l:List (Int×Int)} (h:Chain a b l):l.Pairwise (fun p q=>p.1<q.1):=by
 induction h with
 |nil=>exact .nil
 |cons h hl ih =>
  refine List.pairwise_cons.2 ⟨fun q hq=>?_,ih⟩
  have:=hl.at q hq
  simp only;omega
def inP (m:Int×Int) (d:Int):Bool:=decide (d≥(keptR m.1 m.2).1)&&decide (d<(keptR m.1 m.2).2)
theorem inP_iff {m:Int×Int} {d:Int} (h:OkP m):inP m d=true↔m.1≤d∧d<m.2:=by
 rw [inP,kept_ok h.1 h.2.1 h.2.2];simp
def outP (l m:List Sl) (a b:Int):List (Int×Int):=(partsF a b ((l++m).map (·.sf))).filter fun p=>!likeS l m p.1
def movP (l m:List Sl) (a b:Int):List (Int×Int):=joinP (outP l m a b)
def cutsP (M:List (Int×Int)):List Int:=M.flatMap fun m=>[m.1,m.2]
theorem outP_ok {l m:List Sl} {a b:Int} (h1:1≤a) (h2:a<b) (h3:b≤292195):(∀ p,p∈outP l m a b→OkP p)∧(outP l m a b).Pairwise (fun p q=>p.1<q.1):=by
 have hc:=parts_chain (l:=(l++m).map (·.sf)) h1 h2 h3
 refine ⟨fun p hp=>?_,(chain_sorted hc).sublist List.filter_sublist⟩
 have:=hc.at p (List.mem_filter.1 hp).1
 exact ⟨by omega,by omega,by omega⟩
theorem movP_ok {l m:List Sl} {a b:Int} (h1:1≤a) (h2:a<b) (h3:b≤292195):(∀ p,p∈movP l m a b→OkP p)∧∀ p,p∈outP l m a b→∀ d,p.1≤d→d<p.2→∃ q,q∈movP l m a b∧q.1≤d∧d<q.2:=by
 obtain ⟨g1,g2⟩:=outP_ok (l:=l) (m:=m) h1 h2 h3
 obtain ⟨g3,g4⟩:=foldJ_ok (outP l m a b) [] g1 (g2.imp fun h=>Int.le_of_lt h) (fun m hm=>by simp at hm)
 exact ⟨g3,fun p hp d h4 h5=>g4 d (.inr ⟨p,hp,h4,h5⟩)⟩
theorem still {l m:List Sl} {a b:Int} (cl:Cov a l b) (cm:Cov a m b) (h1:1≤a) (h2:a<b) (h3:b≤292195) {d:Int} (ha:a≤d) (hb:d<b) (hn:∀ q,q∈movP l m a b→¬ (q.1≤d∧d<q.2)) :
  ∃ x y,x∈l∧y∈m∧x.sf≤d∧d<x.st∧y.sf≤d∧d<y.st∧x.yr=y.yr∧holdsS x y=true:=by
 have hc:=parts_chain (l:=(l++m).map (·.sf)) h1 h2 h3
 obtain ⟨p,hp,p1,p2⟩:=hc.ex d ha hb
 have hlk:likeS l m p.1=true:=by
  cases hh:likeS l m p.1 with
  |true=>rfl
  |false =>
   obtain ⟨q,hq,q1,q2⟩:=(movP_ok h1 h2 h3).2 p (List.mem_filter.2 ⟨hp,by rw [hh];rfl⟩) d p1 p2
   exact absurd ⟨q1,q2⟩ (hn q hq)
 obtain ⟨x,hx,x1,x2⟩:=cl.ex hb ha
 obtain ⟨y,hy,y1,y2⟩:=cm.ex hb ha
 have n1:=parts_no h1 h2 h3 hp (c:=x.sf) (List.mem_map.2 ⟨x,by simp [hx],rfl⟩)
 have n2:=parts_no h1 h2 h3 hp (c:=y.sf) (List.mem_map.2 ⟨y,by simp [hy],rfl⟩)
 have:=(like_iff (cl.at h3 h1 x p.1 hx (by omega) (by omega)).1 (cm.at h3 h1 y p.1 hy (by omega) (by omega)).1).1 hlk
 exact ⟨x,y,hx,hy,x1,x2,y1,y2,this.1,this.2⟩
theorem moved_ok {l m:List Sl} {a b:Int} (cl:Cov a l b) (cm:Cov a m b) (h1:1≤a) (h2:a<b) (h3:b≤292195) {P Q:List (Int×Int)} (hP:curS l=some P) (hQ:curS m=some Q) :
  (∀ q,q∈partsF a b (cutsP (movP l m a b))→(∀ x,x∈movP l m a b→inP x q.1=false)→sumS P q.1 q.2=sumS Q q.1 q.2)∧(movP l m a b=[]→l=m):=by
 obtain ⟨-,-,sP,vP⟩:=curS_ok hP
 obtain ⟨-,-,sQ,vQ⟩:=curS_ok hQ
 have hok:=(movP_ok (l:=l) (m:=m) h1 h2 h3).1
 refine ⟨fun q hq hn=>?_,fun h=>cov_eq h3 h1 cl cm fun d h4 h5=>still cl cm h1 h2 h3 h4 h5 fun q hq=>by rw [h] at hq;simp at hq⟩
 have hch:=(parts_chain (l:=cutsP (movP l m a b)) h1 h2 h3).at q hq
 have hv:∀ d,q.1≤d→d<q.2→valS P d=valS Q d:=fun d d1 d2=>by
  obtain ⟨x,y,hx,hy,x1,x2,y1,y2,e,-⟩:=still cl cm h1 h2 h3 (d:=d) (by omega) (by omega) fun r hr h=>by
   have g1:=parts_no h1 h2 h3 hq (c:=r.1) (List.mem_flatMap.2 ⟨r,hr,by simp⟩)
   have g2:=hn r hr
   have g3:¬ (r.1≤q.1∧q.1<r.2):=fun h'=>by rw [(inP_iff (hok r hr)).2 h'] at g2;cases g2
   omega
  rw [vP d (by omega) (by omega),vQ d (by omega) (by omega),(cl.at h3 h1 x d hx x1 x2).2,(cm.at h3 h1 y d hy y1 y2).2,e]
 rw [sumS_eq,sumS_eq,sP,sQ,dSum_congr (g:=valS P) (g':=valS Q) _ _ fun d d1 d2=>hv d d1 (by omega),dSum_congr (g:=fun d=>max (valS P d) (-(valS P d))) (g':=fun d=>max (valS Q d) (-(valS Q d))) _ _ fun d d1 d2=>by rw [hv d d1 (by omega)]]
end Go.Proofs.YtanppabbmffokaaGreat
end
section
namespace Go.Proofs.YtanppabbmffokaaGreat
open Go.Bx
set_option maxRecDepth 10000
theorem sGrowS (n:Nat) (hn:n≤1000000000000):Ctr Tryz.prog 124 [.d (.sl true 0 0 fun _=>[]),.d (.int .i64 (n:Int))] [] (.osl 903) [(903,rowS [])] [903]:=by
 refine ctr_own Tryz.func124 ok124 rfl cc124 cr124 Tryz.ntmps124 (by simp) rfl ?_
 intro c hP hfn
 have e1:IntKind.i64.wrap ((0:Int)-0)=0:=wI (by omega)
 have e0:IntKind.i64.wrap 0=0:=wI (by omega)
 have e2:IntKind.i64.wrap ((n:Int)-0)=(n:Int):=(wI (by omega)).trans (by omega)
 simp only [kc124,namesL,V.names,ownNames,e0,e1,e2,vcd,↓vcp,seval]
 repeat' first|refine ⟨fun h=>?_,fun h=>?_⟩|refine aO ?_|refine aT ?_|fail
 ·exfalso;have:=of_decide_eq_true h;omega
 ·exact RetK.mk _ (Wk.shr 22 903 0 rfl (Nat.zero_le _) (by simp)) (by simp only [rs124,rsb,vcd,↓vcp,seval]) (by simp only [rs124,rsb,enb,vcd,↓vcp,seval]) (by simp only [rowS,enb,vcd,↓vcp,seval];exact OLe.row rfl (fun i hi=>absurd hi (Nat.not_lt_zero i)))
 ·exact RetK.mk _ (Wk.row0 (s:=4) (k:=903) (e:=118) (sz:=9) (f':=fun i=>dSl (([]:List Sl).getD i default)) rfl rfl (by simp)) (by simp only [rs124,rsb,vcd,↓vcp,seval]) (by simp only [rs124,rsb,enb,vcd,↓vcp,seval]) (by simp only [rowS,enb,vcd,↓vcp,seval])
def gS (G:List (List Sl)) (bs:Nat→Bool) (g:Nat→Nat→List D):D:=.sl true 1 G.length (fun i=>[.sl (bs i) 9 (G.getD i []).length (g i)])
theorem flatS_take {G:List (List Sl)} {k:Nat} {g:List Sl} (h:G[k]?=some g):(G.take (k+1)).flatten=(G.take k).flatten++g:=by
 rw [List.take_add_one,h];simp
theorem flatS_le (G:List (List Sl)) (k:Nat):(G.take k).flatten.length≤G.flatten.length:=by
 conv=>rhs;rw [←List.take_append_drop k G,List.flatten_append,List.length_append]
 omega
set_option maxHeartbeats 2000000 in
theorem sConcatS (G:List (List Sl)) (bs:Nat→Bool) (g:Nat→Nat→List D) (hg':∀ i j,i<G.length→j<(G.getD i []).length→g i j=dSl ((G.getD i []).getD j default)) (hG:G.length≤1000000) (hF:G.flatten.length≤1000000000) :
  Ctr Tryz.prog 80 [.d (gS G bs g)] [] (.d (slS G.flatten)) [] []:=by
 refine ctr_pure Tryz.func80 ok80 rfl cc80 cr80 Tryz.ntmps80 (by simp) rfl rfl ?_;intro c hP hfn;simp only [kc80,gS,vcd,↓vcp,seval]
 refine vcC.loop (X:=Nat) (fun k=>⟨[(0,.d (gS G bs g)),(3,.d (.int .i64 (G.take k).flatten.length)),(9,.d (gS G bs g)),(10,.d (.int .i64 G.length)),(11,.d (.int .i64 k))],[],[]⟩)
  (fun k=>k≤G.length) (fun k=>G.length-k) 0 (Nat.zero_le _) (Wk.of _ hfn rfl (by simp only [gS,List.take_zero,List.flatten_nil,enb,vcd,↓vcp,seval]) (by simp only [enb,vcd,↓vcp,seval])) ?_
 rintro k hk
 have hle:=flatS_le G k
 by_cases hlt:k<G.length
 ·obtain ⟨q,hd,hq,hgm,hat⟩:=drop_at hlt
  have hq:=hq []
  have d0:decide ((k:Int)<(G.length:Int))=true:=decide_eq_true (by omega)
  have w1:IntKind.i64.wrap ((k:Int)+1)=((k+1:Nat):Int):=wS (by omega)
  have hfl:=flatS_take hat
  have hle2:=flatS_le G (k+1)
  have hlen:((G.take (k+1)).flatten.length:Int)=(G.take k).flatten.length+q.length:=by rw [hfl,List.length_append];omega
  have ew:IntKind.i64.wrap (((G.take k).flatten.length:Int)+(q.length:Int))=((G.take (k+1)).flatten.length:Int):=by rw [hlen];exact wI (by omega)
  have d1:decide (((G.take (k+1)).flatten.length:Int)<0)=false:=decide_eq_false (by omega)
  simp only [gS,d0,hq,ew,d1,vcd,↓vcp,seval]
  repeat' first|refine ⟨fun h=>?_,fun h=>?_⟩|refine aO ?_|refine aT ?_|fail
  exact lopK.on (k+1) hlt (by omega) (Wk.of _ hfn rfl (by simp only [gS,w1,enb,vcd,↓vcp,seval]) (by simp only [enb,vcd,↓vcp,seval]))
 ·have d0:decide ((k:Int)<(G.length:Int))=false:=decide_eq_false (by omega)
  obtain rfl:k=G.length:=by omega
  have cg:=sGrowS G.flatten.length (by omega)
  simp only [rowS,vcd,↓vcp,seval] at cg
  simp only [gS,d0,List.take_length,vcd,↓vcp,seval]
  repeat' first|refine ⟨fun h=>?_,fun h=>?_⟩|refine aO ?_|refine aT ?_|fail
  refine TR.call [] [(903,rowS [])] _ [903] (by rw [hP];exact cg) (by repeat' first|exact trivial|(intro _;assumption)|apply And.intro) (by simp) (by simp [keysO]) (by simp) ?_
  simp only [rowS,vcd,↓vcp,seval]
  repeat' first|refine ⟨fun h=>?_,fun h=>?_⟩|refine aO ?_|refine aT ?_|fail
  refine vcC.loop (X:=Nat) (fun k=>⟨[(6,.osl 903),(25,.d (gS G bs g)),(26,.d (.int .i64 G.length)),(27,.d (.int .i64 k))],[(903,rowS (G.take k).flatten)],[903]⟩)
   (fun k=>k≤G.length) (fun k=>G.length-k) 0 (Nat.zero_le _) (Wk.of _ hfn rfl (by simp only [gS,enb,vcd,↓vcp,seval]) (by simp only [rowS,List.take_zero,List.flatten_nil,enb,vcd,↓vcp,seval])) ?_
  rintro k hk
  have hle:=flatS_le G k
  by_cases hlt:k<G.length
  ·obtain ⟨q,hd,hq,hgm,hat⟩:=drop_at hlt
   have hq:=hq []
   have hgq:∀ j,j<q.length→g k j=dSl (q.getD j default):=fun j hj=>by have:=hg' k j hlt (by rw [hq];exact hj);rw [hq] at this;exact this
   have d1:decide ((k:Int)<(G.length:Int))=true:=decide_eq_true (by omega)
   have w1:IntKind.i64.wrap ((k:Int)+1)=((k+1:Nat):Int):=wS (by omega)
   have hfl:=flatS_take hat
   have hle2:=flatS_le G (k+1)
   have hlen:(G.take (k+1)).flatten.length=(G.take k).flatten.length+q.length:=by rw [hfl,List.length_append]
   have hroom:((G.take k).flatten.length+q.length)*88≤140737488355328∧(G.take k).flatten.length+q.length≤maxLen:=⟨by omega,by simp only [maxLen];omega⟩
   simp only [gS,rowS,d1,hq,vcd,↓vcp,seval]
   repeat' first|refine ⟨fun h=>?_,fun h=>?_⟩|refine aO ?_|refine aT ?_|fail
   exact lopK.on (k+1) hlt (by omega) ((Wk.sw 33 903 _ hfn (by simp) (by simp)).trans (Wk.of _ hfn rfl (by simp only [gS,w1,enb,vcd,↓vcp,seval]) (by simp only [rowS,hfl,enb,vcd,↓vcp,seval];exact OLe.appL dSl rfl (fun i hi=>by rw [if_pos hi]) (fun i hi=>by rw [if_neg (by omega),Nat.add_sub_cancel_left];exact hgq i hi))))
  ·have d1:decide ((k:Int)<(G.length:Int))=false:=decide_eq_false (by omega)
   obtain rfl:k=G.length:=by omega
   simp only [gS,rowS,d1,List.take_length,vcd,↓vcp,seval]
   repeat' first|refine ⟨fun h=>?_,fun h=>?_⟩|refine aO ?_|refine aT ?_|fail
   refine RetK.mk _ (Wk.pub 903 rfl) (by simp only [rs80,rsb,vcd,↓vcp,seval]) ?_ trivial
   simp only [rs80,rsb,vcd,↓vcp,seval,slS,enb,vcd,↓vcp,seval]
theorem sLike (l m:List Sl) (d:Int) (hl:l.length≤1000000) (hm:m.length≤1000000) (hc:∀ s,s∈l→s.cv.length≤1000000) :
  Ctr Tryz.prog 81 [.d (.int .i64 d),.mem [slS l],.mem [slS m]] [] (.d (.bool (likeS l m d))) [] []:=by
 have hz:((slAt l d).getD zSr).cv.length≤1000000:=by
  cases e:slAt l d with
  |none=>simp [zSr]
  |some s=>exact hc s (List.mem_of_find?_eq_some e)
 have a1:=sSlAt l d (by omega)
 have a2:=sSlAt m d (by omega)
 have ks:=sSameS { (slAt l d).getD zSr with sf:=0,st:=0 } { (slAt m d).getD zSr with sf:=0,st:=0 } (by simp only;omega)
 have e:likeS l m d=sameS { (slAt l d).getD zSr with sf:=0,st:=0 } { (slAt m d).getD zSr with sf:=0,st:=0 }:=rfl
 rw [e]
 clear hz e
 generalize (slAt l d).getD zSr=x at *
 generalize (slAt m d).getD zSr=y at *
 simp only [slS,dSl,slC,vSl,cSl] at a1 a2 ks
 refine ctr_pure Tryz.func81 ok81 rfl cc81 cr81 Tryz.ntmps81 (by simp) rfl rfl ?_;intro c hP hfn;simp only [kc81,slS,dSl,slC,vcd,↓vcp,seval]
 repeat' first|((first|refine tp hP (by first|exact a1|exact a2|exact ks) ?_|refine tg hP (fun _=>by first|exact a1|exact a2|exact ks) ?_|refine tv hP rfl (by first|exact a1|exact a2|exact ks) ?_);try simp only [vcd,↓vcp,seval])|refine ⟨fun h=>?_,fun h=>?_⟩|refine aO ?_|refine aT ?_|fail
 exact RetK.pure (by simp only [rs81,rsb,vcd,↓vcp,seval]) (by (simp only [rs81,rsb,enb,vcd,↓vcp,seval])<;>(first|exact VLe.refl _))
end Go.Proofs.YtanppabbmffokaaGreat
end
section
namespace Go.Proofs.YtanppabbmffokaaGreat
open Go.Bx
set_option maxRecDepth 10000
theorem TR.yieldG {gs:Nat} {want:Bool} {c:Ctx} {fn:List Nat} {Z:Nat→List (Nat×Go.Bx.Own)} (hZ:CliZ fn Z) (hfn:c.fn=fn) {k l:Nat} {go:Bool} {args:List V} (hY:YR c l args (Z k) (Z (k+1)) go) {env:List (Nat×V)} {own:List (Nat×Go.Bx.Own)} {nm:List Nat} (hB:wkB [] ⟨env,own,nm⟩=true) (hnm:(nm.all fun n=>decide (n<1000000))=true)
  {d:Option Nat} {x:X} {xs:List X} {is:List I} {acc:List Lg} {K:List Lg→St→Prop} (hx:evV ⟨env,own++Z k,nm++keysO (Z k)⟩ x=.fn (.yield l) [] []) (hsx:evS true ⟨env,own++Z k,nm++keysO (Z k)⟩ x) (ha:evVs ⟨env,own++Z k,nm++keysO (Z k)⟩ xs=args) (hgo:gOf env gs want=some true) (hs:evSs true ⟨env,own++Z k,nm++keysO (Z k)⟩ xs)
  (h:vcR c false is ⟨setE env d (.d (.bool go)),own++Z (k+1),nm++keysO (Z (k+1))⟩ acc K):TR c false (⟨d,some (gs,want),.callv x xs⟩::is) ⟨env,own++Z k,nm++keysO (Z k)⟩ acc K:=by
 have hB':=hB
 simp only [wkB,Bool.and_eq_true,List.all_eq_true,List.contains_iff_mem] at hB'
 obtain ⟨-,h2,h3,h4⟩:=hB'
 have hk:∀ n,n∈keysO own→n∈nm:=fun n hk=>by obtain ⟨o,ho'⟩:=keys_mem hk;exact h4 n (oNames_in ho').1
 have hlt:∀ n,n∈nm→n<1000000:=fun n hn=>by simpa using List.all_eq_true.1 hnm n hn
 have hnd:(keysO (own++Z k)).Nodup:=by
  rw [keysO_app,List.nodup_append]
  exact ⟨nodupB_ok h2,hZ.nodup k,fun a ha b hb e=>by have:=hlt a (hk a ha);have:=hZ.ge k b hb;omega⟩
 have hin:∀ n o,(n,o)∈Z k→own? (own++Z k) n=some o:=fun n o hm=>mem_own? hnd (List.mem_append_right _ hm)
 refine TR.cons _ (valid_on hgo (hY d x xs _ hx hsx ha hs hin)) (fun n hn h5=>?_) ?_
 ·obtain ⟨h6,h7⟩:=List.mem_filter.1 hn
  rcases List.mem_append.1 h5 with h5|h5
  ·have:=hlt n h5;have:=hZ.ge _ n h6;omega
  ·simp only [Bool.not_eq_true',List.contains_eq_mem,decide_eq_false_iff_not] at h7
   exact h7 h5
 ·simp only [lgs,Bool.false_eq_true,if_false]
  refine TR.wk ⟨setE env d (.d (.bool go)),own++Z (k+1),nm++keysO (Z (k+1))⟩ ?_ (vcR_ok h)
  have hcall:=fun n=>own?_call (ins:=Z k) (outs:=Z (k+1)) hnd (hZ.nodup (k+1)) n
  have hwk:=Wk.ofZ0 (c:=c) (st:=St.stp ⟨env,own++Z k,nm++keysO (Z k)⟩ d { val:=.d (.bool go),upd:=callU (Z k) (Z (k+1)),rd:=keysO (Z k),new:=(keysO (Z (k+1))).filter fun n=>!(keysO (Z k)).contains n }) hZ hfn (k+1) (env:=setE env d (.d (.bool go))) (own:=own) (nm:=nm) ?_ hnm ?_ ?_ ?_
  ·exact hwk
  ·simp only [wkB,List.all_nil,Bool.true_and,Bool.and_eq_true,List.all_eq_true,List.contains_iff_mem] at hB ⊢
   refine ⟨hB.1,fun n hn=>?_,hB.2.2⟩
   cases d with
   |none=>exact hB.2.1 n hn
   |some d =>
    simp only [setE,envNames,V.names,List.nil_append] at hn
    exact hB.2.1 n hn
  ·exact fun s=>VLe.refl _
  ·refine OwnLe.of fun n o hm=>⟨o,?_,OLe.refl o⟩
   have hn:=hlt n (hk n (mem_keys hm))
   show own? (applyU (own++Z k) (callU (Z k) (Z (k+1)))) n=some o
   rw [hcall,own?_Z hZ hn]
   simp only
   rw [if_neg (fun h=>by have:=hZ.ge k n h;omega)]
   exact mem_own? hnd (List.mem_append_left _ hm)
  ·intro n o hm
   show own? (applyU (own++Z k) (callU (Z k) (Z (k+1)))) n=some o
   rw [hcall,mem_own? (hZ.nodup (k+1)) hm]
theorem VLe.gdT (x:V):VLe (.gd true x) x:=fun _ _ _ _ h=>by
 cases h with
 |gd _ _ _ h _=>exact h rfl
theorem sSome (l:List (Int×Int)):Ctr Tryz.prog 125 [.d (slP l)] [] (.fn (.func 171) [] [.mem [slP l]]) [] []:=by
 refine ctr_pure Tryz.func125 ok125 rfl cc125 cr125 Tryz.ntmps125 (by simp) rfl rfl ?_;intro c hP hfn;simp only [kc125,slP,dP,vcd,↓vcp,seval]
 repeat' first|refine ⟨fun h=>?_,fun h=>?_⟩|refine aO ?_|refine aT ?_|fail
 exact RetK.mk _ (Wk.pubF 1 rfl rfl) (by simp only [rs125,rsb,vcd,↓vcp,seval]) (by simp only [rs125,slP,dP,rsb,enb,vcd,↓vcp,seval]) trivial
def smE (l:List (Int×Int)) (x:Int×Int) (l' k:Nat):List (Nat×V):=[(16,.d (.bool true)),(17,.fn (.yield l') [] []),(18,.ag [.d (.int .i64 x.1),.d (.int .i64 x.2)]),(0,.fn (.yield l') [] []),(5,.d (slP l)),(6,.d (.int .i64 l.length)),(7,.d (.int .i64 (k:Nat)))]
theorem it_some (l:List (Int×Int)) (hl:l.length≤1000000) (hk0:∀ p,p∈l→OkP p):IterC Tryz.prog 171 [.mem [slP l]] (fun k=>[vS (l.getD k default).1 (l.getD k default).2]) l.length:=by
 refine iter_of_vc Tryz.func171 ok171 rfl cc171 cr171 (by simp only [Tryz.ntmps171,List.length_cons,List.length_nil];decide) rfl (fun _=>rfl) ?_
 intro c l' T stop Z hP _ hZ hT hT' hY
 have hbk:∀ k n o,(n,o)∈Z k→own? ([]++Z k) n=some o:=fun k n o hm=>mem_own? (hZ.nodup k) hm
 simp only [kc171,slP,dP,vcd,↓vcp,seval]
 refine vcC.loop (X:=Nat) (fun k=>⟨[(0,.fn (.yield l') [] []),(5,.d (slP l)),(6,.d (.int .i64 l.length)),(7,.d (.int .i64 (k:Nat)))],[]++Z k,[]++keysO (Z k)⟩)
  (fun k=>k≤l.length∧k≤T∧(stop=true→k<T)) (fun k=>l.length-k) 0
  ⟨Nat.zero_le _,Nat.zero_le _,fun h=>(hT' h).1⟩ (Wk.ofZ hZ rfl 0 (own:=[]) (nm:=[]) rfl rfl (by simp only [slP,dP,enb,vcd,↓vcp,seval]) (by simp only [enb,vcd,↓vcp,seval]) (hbk 0)) ?_
 rintro k ⟨hk,hm,hms⟩
 by_cases hlt:k<l.length
 ·obtain ⟨x,-,hgx,hmx,-⟩:=drop_at hlt
  have hgx:=hgx default
  have hok:=hk0 x hmx
  have ck:=sKept x.1 x.2
  rw [kept_ok hok.1 hok.2.1 hok.2.2] at ck
  simp only [vS] at ck
  have e0:((x.1 == 0)&&(x.2 == 0))=false:=by
   have:=hok.1
   rw [Bool.and_eq_false_iff,beq_eq_false_iff_ne,beq_eq_false_iff_ne];left;omega
  have d0:decide ((k:Int)<(l.length:Int))=true:=decide_eq_true (by omega)
  have w1:IntKind.i64.wrap ((k:Int)+1)=((k+1:Nat):Int):=wS (by omega)
  have b1:(0:Int)≤(k:Int)∧(k:Int)<(l.length:Int):=by omega
  have hx4:(4∈List.map (fun x=>x.fst) (Z k))=False:=eq_false fun h=>by have:=hZ.ge k 4 h;omega
  simp only [slP,dP,d0,hgx,hx4,own?_setO,vcd,↓vcp,seval]
  repeat' first|((first|refine tp hP (by exact ck) ?_|refine tg hP (fun _=>by exact ck) ?_|refine tv hP rfl (by exact ck) ?_);try simp only [d0,hgx,w1,hx4,e0,own?_setO,vcd,↓vcp,seval])|refine ⟨fun h=>?_,fun h=>?_⟩|refine aO ?_|refine aT ?_|fail
  have hr4:∀ n o (a b c':Go.Bx.Own),(n,o)∈Z k→own? (setO (setO (setO (Z k) 4 a) 4 b) 4 c') n=some o:=fun n o a b c' hm'=>by
   have:=hZ.ge k n (mem_keys hm')
   rw [own?_setO,if_neg (by omega),own?_setO,if_neg (by omega),own?_setO,if_neg (by omega)]
   exact mem_own? (hZ.nodup k) hm'
  have hlT:k<T:=by
   cases hst:stop with
   |true=>exact hms hst
   |false=>rw [hT hst];exact hlt
  refine TR.wk _ (Wk.ofZ (env:=smE l x l' k) hZ rfl k (own:=[]) (nm:=[]) rfl rfl (by simp only [smE,slP,dP,enb,vcd,↓vcp,seval];exact ⟨VLe.gdT _,VLe.gdT _⟩) (by simp only [enb,vcd,↓vcp,seval]) (fun n o hm'=>hr4 n o _ _ _ hm')) ?_
  refine TR.yieldG hZ rfl (hY k hlT) (own:=[]) (nm:=[]) rfl rfl rfl trivial (by simp only [smE,hgx,vS,vcd,↓vcp,seval]) rfl (by simp only [smE,vcd,↓vcp,seval]) ?_
  simp only [smE,vcd,↓vcp,seval]
  refine ⟨fun hg=>?_,fun hg=>?_⟩
  ·have hT1:T=k+1:=by
    simp [goAt] at hg
    have:=hms hg.2
    omega
   subst hT1
   exact IterK.mk _ (Wk.refl _ _) (OwnLe.of fun n o hm=>⟨o,mem_own? (hZ.nodup (k+1)) hm,OLe.refl o⟩)
  ·have hg':k+1<T∨stop=false:=by
    simp [goAt] at hg
    by_cases h9:k+1<T
    ·exact .inl h9
    ·exact .inr (hg (by omega))
   simp only [w1,vcd,↓vcp,seval]
   exact lopK.on (k+1) ⟨hlt,hlT,fun h=>hg'.resolve_right (by rw [h];simp)⟩ (by omega) (Wk.ofZ hZ rfl (k+1) (own:=[]) (nm:=[]) rfl rfl (by simp only [slP,dP,w1,enb,vcd,↓vcp,seval]) (by simp only [enb,vcd,↓vcp,seval]) (hbk (k+1)))
 ·obtain rfl:k=l.length:=by omega
  have hst:stop=false:=by
   cases hst:stop with
   |false=>rfl
   |true=>have:=hms hst;have:=(hT' hst).2;omega
  have hTm:=hT hst
  have d0:decide ((l.length:Int)<(l.length:Int))=false:=decide_eq_false (by omega)
  simp only [d0,vcd,↓vcp,seval]
  repeat' first|refine ⟨fun h=>?_,fun h=>?_⟩|refine aO ?_|refine aT ?_|fail
  rw [hTm]
  exact IterK.mk' _ (Wk.refl _ _) (OwnLe.of fun n o hm=>⟨o,mem_own? (hZ.nodup l.length) hm,OLe.refl o⟩)
end Go.Proofs.YtanppabbmffokaaGreat
end
section
namespace Go.Proofs.YtanppabbmffokaaGreat
open Go.Shelf Go.RowKit Go.Proofs Go.Bx
open Go.Sort (HoldsK putRowK_self holdsK_ahead size_flatK get_flatK)
set_option maxRecDepth 100000
def laysSF_ren : Go.Shelf.Ren := ⟨fun |6=>126|15=>120|14=>172|28=>168|29=>169|20=>191|21=>192|22=>193|23=>194|24=>195|25=>196|26=>197|27=>198|46=>204|47=>186|48=>187|49=>205|50=>206|57=>208|n=>n,fun |22=>86|24=>23|25=>204|3=>3|39=>177|0=>0|53=>37|55=>235|4=>4|46=>227|45=>226|50=>130|5=>5|9=>9|66=>248|70=>252|76=>263|77=>53|n=>n,fun |n=>n⟩
theorem laysSF : SlLaysF0.n6 Tryz.prog laysSF_ren := {
  mixed:=by kernel_rfl,f6:=⟨Tryz.f126.name,by decide,lq Tryz.func126⟩,f14:=⟨Tryz.f172.name,by decide,lq Tryz.func172⟩,f15:=lq Tryz.func120,f20:=⟨Tryz.f191.name,by decide,lq Tryz.func191⟩,f21:=⟨Tryz.f192.name,by decide,lq Tryz.func192⟩,f22:=⟨Tryz.f193.name,by decide,lq Tryz.func193⟩,f23:=⟨Tryz.f194.name,by decide,lq Tryz.func194⟩,f24:=⟨Tryz.f195.name,by decide,lq Tryz.func195⟩,f25:=⟨Tryz.f196.name,by decide,lq Tryz.func196⟩,f26:=⟨Tryz.f197.name,by decide,lq Tryz.func197⟩,f27:=⟨Tryz.f198.name,by decide,lq Tryz.func198⟩,f28:=lq Tryz.func168,f29:=lq Tryz.func169,f46:=⟨Tryz.f204.name,by decide,lq Tryz.func204⟩,f47:=lq Tryz.func186,
  f48:=lq Tryz.func187,f49:=⟨Tryz.f205.name,by decide,lq Tryz.func205⟩,f50:=⟨Tryz.f206.name,by decide,lq Tryz.func206⟩,f57:=⟨Tryz.f208.name,by decide,lq Tryz.func208⟩,t0:=Tryz.underlying0,a0:=Tryz.isAgg0,z0:=Tryz.sizeOf0,v0:=Tryz.zeroValue0,t3:=Tryz.underlying3,a3:=Tryz.isAgg3,z3:=Tryz.sizeOf3,v3:=Tryz.zeroValue3,t4:=Tryz.underlying4,a4:=Tryz.isAgg4,z4:=Tryz.sizeOf4,v4:=Tryz.zeroValue4,
  t5:=Tryz.underlying5,a5:=Tryz.isAgg5,z5:=Tryz.sizeOf5,v5:=Tryz.zeroValue5,t9:=Tryz.underlying9,a9:=Tryz.isAgg9,z9:=Tryz.sizeOf9,v9:=Tryz.zeroValue9,t22:=Tryz.underlying86,a22:=Tryz.isAgg86,z22:=Tryz.sizeOf86,v22:=Tryz.zeroValue86,t25:=Tryz.underlying204,a25:=Tryz.isAgg204,z25:=Tryz.sizeOf204,v25:=Tryz.zeroValue204,
  t39:=Tryz.underlying177,a39:=Tryz.isAgg177,z39:=Tryz.sizeOf177,v39:=Tryz.zeroValue177,t45:=Tryz.underlying226,a45:=Tryz.isAgg226,z45:=Tryz.sizeOf226,v45:=Tryz.zeroValue226,t46:=Tryz.underlying227,a46:=Tryz.isAgg227,z46:=Tryz.sizeOf227,v46:=Tryz.zeroValue227,t50:=Tryz.underlying130,a50:=Tryz.isAgg130,z50:=Tryz.sizeOf130,v50:=Tryz.zeroValue130,
  t53:=Tryz.underlying37,a53:=Tryz.isAgg37,z53:=Tryz.sizeOf37,v53:=Tryz.zeroValue37,t55:=Tryz.underlying235,a55:=Tryz.isAgg235,z55:=Tryz.sizeOf235,v55:=Tryz.zeroValue235,t66:=Tryz.underlying248,a66:=Tryz.isAgg248,z66:=Tryz.sizeOf248,v66:=Tryz.zeroValue248,t70:=Tryz.underlying252,a70:=Tryz.isAgg252,z70:=Tryz.sizeOf252,v70:=Tryz.zeroValue252,
  t76:=Tryz.underlying263,a76:=Tryz.isAgg263,z76:=Tryz.sizeOf263,v76:=Tryz.zeroValue263,t77:=Tryz.underlying53,a77:=Tryz.isAgg53,z77:=Tryz.sizeOf53,v77:=Tryz.zeroValue53 }
def laysCI_ren : Go.Shelf.Ren := ⟨fun |5=>128|7=>173|n=>n,fun |22=>3|3=>3|4=>4|n=>n,fun |n=>n⟩
theorem laysCI : SlLaysC2.n5 Tryz.prog laysCI_ren := {
  mixed:=by kernel_rfl,f5:=⟨Tryz.f128.name,by decide,lq Tryz.func128⟩,f7:=⟨Tryz.f173.name,by decide,lq Tryz.func173⟩,t3:=Tryz.underlying3,a3:=Tryz.isAgg3,z3:=Tryz.sizeOf3,v3:=Tryz.zeroValue3,t4:=Tryz.underlying4,a4:=Tryz.isAgg4,z4:=Tryz.sizeOf4,v4:=Tryz.zeroValue4,t22:=Tryz.underlying3,a22:=Tryz.isAgg3,z22:=Tryz.sizeOf3,v22:=Tryz.zeroValue3 }
def tof (l:List (Int×Int)) (x:Int):Int:=((l.find? fun p=>p.1 == x).getD default).2
def encT (l:List (Int×Int)) (x:Int):List Value:=[.int .i64 x,.int .i64 (tof l x)]
theorem tof_mem {l:List (Int×Int)} (hs:l.Pairwise (fun p q=>p.1<q.1)):∀ p,p∈l→tof l p.1=p.2:=by
 induction l with
 |nil=>intro p hp;simp at hp
 |cons q l ih =>
  obtain ⟨h1,h2⟩:=List.pairwise_cons.1 hs
  intro p hp
  rw [tof,List.find?_cons]
  rcases List.mem_cons.1 hp with rfl|hp
  ·simp
  ·have:=h1 p hp
   have e:(q.1 == p.1)=false:=by rw [beq_eq_false_iff_ne];omega
   rw [e]
   exact ih h2 p hp
theorem clos (l:List (Int×Int)) (x y:Int) (W:World):Calls Tryz.prog 127 #[.agg #[.int .i64 x,.int .i64 (tof l x)],.agg #[.int .i64 y,.int .i64 (tof l y)]] W fun e w'=>e=.returned (.int .i64 (Lib.compareInt x y))∧∃ q os',w'=Go.Sort.grow (W.drewN q) os':=by
 have hcon:=fun W'=>AnyG.cmp_Compare_int laysCI x y W'
 change ∀ W',Calls Tryz.prog 128 _ _ _ at hcon
 generalize Lib.compareInt x y=r at hcon ⊢
 go_enter Tryz.func127,Tryz.ntmps127
 go_wp2_with (go_at_call 128;refine (hcon _).mono ?_;rintro e w' ⟨rfl,rfl⟩)
 go_ret
 exact ⟨rfl,0,_,by rw [Go.Sort.alloc_eq_grow,Go.Sort.alloc_eq_grow,Go.Sort.grow_grow];rfl⟩
theorem ltI (x y:Int):ltOf (fun x y:Int=>Lib.compareInt x y) x y=decide (x<y):=by
 unfold ltOf Lib.compareInt
 by_cases h1:x<y
 ·simp [h1]
 ·by_cases h2:y<x<;>simp [h1,h2]
theorem swoI:Go.Sort.SWO (ltOf fun x y:Int=>Lib.compareInt x y) where
 irrefl x:=by rw [ltI];simp
 trans x y z h1 h2:=by rw [ltI] at *;simp at *;omega
 ntrans x y z h1 h2:=by rw [ltI] at *;simp at *;omega
theorem aggP:∀ w,(isAgg 23).run Tryz.prog w=.ok true w:=Tryz.isAgg23
theorem sizP:∀ w,(Go.sizeOf 23).run Tryz.prog w=.ok 2 w:=Tryz.sizeOf23
theorem keeps_grow (w:World) (n:Nat) (os:Array Obj):Keeps (fun _=>False) w (Go.Sort.grow (Go.Sort.ahead w n) os):=⟨rfl,rfl,rfl,by simp [Go.Sort.grow,Go.Sort.ahead],fun b hb _=>by
 simp only [Go.Sort.grow,Go.Sort.ahead]
 rw [Array.getElem?_append_left hb]⟩
set_option maxHeartbeats 1000000 in
theorem sSortP (l:List (Int×Int)) (hl:l.length≤1000000) (hs:l.Pairwise (fun p q=>p.1<q.1)) :
  Ctr Tryz.prog 126 [.osl 900,.fn (.func 127) [] []] [(900,rowP l)] (.tup []) [(900,rowP l)] []:=by
 refine ⟨ok126,by simp [keysO],by simp,fun E0 β w vals hE hsz hv hins hnn=>?_⟩
 obtain ⟨v,u,rfl⟩:∃ v u,vals=#[v,u]:=by
  match vals,hsz with
  |⟨[v,u]⟩,_=>exact ⟨v,u,rfl⟩
 have h1:=hv 0 v (.osl 900) rfl rfl
 have h2:=hv 1 u _ rfl rfl
 obtain rfl:u=.func (.func 127) #[] #[]:=by
  cases h2 with
  |fn f fi ca first cap e1 e2 _ _ =>
   have e1:fi=#[]:=Array.eq_empty_of_size_eq_zero e1
   have e2:ca=#[]:=Array.eq_empty_of_size_eq_zero e2
   rw [e1,e2]
 obtain ⟨v',xs,q1,⟨hx,hrow⟩,hlen,hcell⟩:=hins.ok 900 (rowP l) (by simp)
 obtain rfl:v=v':=by
  cases h1 with
  |osl k u h _=>rw [h] at q1;injection q1
 rcases hrow with ⟨⟨a,rfl⟩,h0⟩|⟨g,cap,cur,rfl,hc0,hheap,hn,hcm,hcs,htake⟩
 ·refine (AnyF.slices_SortFunc_none { laysSF with } a 0 _ w).mono ?_
  rintro e w' ⟨rfl,rfl⟩
  exact ⟨_,β,rfl,Names.le.refl β,fun _ _=>rfl,.tup _ _ rfl (fun j v x h=>by simp at h),hins,Keeps.refl _ _,fun k hk b hb=>.inr ⟨k,hk,hb⟩⟩
 ·have hg:g<w.heap.size:=(Array.getElem?_eq_some_iff.1 hheap).1
  have hH:HoldsK (encT l) 2 w g 0 (l.map (·.1)).toArray:=by
   intro j hj
   simp only [size_flatK,List.size_toArray,List.length_map] at hj
   have hi:j / 2<l.length:=by omega
   have hr:j % 2<2:=Nat.mod_lt _ (by decide)
   have hgl:l.getD (j / 2) default=l[j / 2]:=by simp [List.getD_eq_getElem?_getD,hi]
   have ht:=tof_mem hs l[j / 2] (List.getElem_mem hi)
   rw [get_flatK _ _ _ _ (by simpa using hj)]
   have hd:(l.map (·.1)).toArray[j / 2]! = l[j / 2].1:=by simp [getElem!_pos,hi]
   rw [hd]
   refine ⟨?_,by simp [World.frozen?,hheap]⟩
   have key:∀ (c:Nat) (n:Int),c<2→(dP l[j / 2])[c]?=some (.int .i64 n)→w.cell? ⟨g,0+(j / 2*2+c),none⟩=some (.int .i64 n):=fun c n hc hn'=>by
    obtain ⟨u,g1,g2⟩:=hcell (j / 2) c hi hc (.int .i64 n) (by show (dP (l.getD (j / 2) default))[c]?=_;rw [hgl];exact hn')
    have hu:u=.int .i64 n:=by cases g2;rfl
    have hlt:j / 2*2+c<l.length*2:=by omega
    rw [←htake,List.getElem?_take_of_lt hlt,Array.getElem?_toList] at g1
    simp only [World.cell?,hheap,Nat.zero_add,g1,hu];rfl
   have hj2:j=j / 2*2+j % 2:=by omega
   rcases (by omega:j % 2=0∨j % 2=1) with h|h
   ·rw [h]
    have:=key 0 l[j / 2].1 (by decide) rfl
    rw [show j / 2*2+0=j by omega] at this
    exact this
   ·rw [h]
    have:=key 1 l[j / 2].2 (by decide) rfl
    rw [show j / 2*2+1=j by omega,←ht] at this
    exact this
  have eg:∀ args w,(callFunc 127 args).run Tryz.prog w=.ok (.enter 127 args) w:=enters_of Tryz.func127 (by kernel_rfl) rfl
  have hcon:=AnyQ.slices_SortFunc_total laysSF 2 aggP sizP (encT l) (fun _=>rfl) (fun x v hv=>by simp [encT] at hv;rcases hv with rfl|rfl<;>rfl) (fun x y=>Lib.compareInt x y) swoI 127 #[] g 0 cap (l.map (·.1)).toArray w eg
   (fun _ _ _ _ x y=>clos l x y _) hH hg (by simp;omega) (fun x y h1 h2=>by rw [ltI] at *;simp at *;omega)
  have hms:((l.map (·.1)).toArray.toList.mergeSort fun x y=>!(ltOf fun x y:Int=>Lib.compareInt x y) y x)=l.map (·.1):=by
   simp only
   refine List.mergeSort_of_pairwise ((List.pairwise_map.2 hs).imp fun h=>?_)
   rw [ltI];simp;omega
  rw [hms] at hcon
  simp only [List.size_toArray,List.length_map] at hcon
  refine hcon.mono ?_
  rintro e w' ⟨rfl,n,os,rfl⟩
  have ew:sortWorldK (encT l) 2 w g 0 n (l.map (·.1)).toArray os=Go.Sort.grow (Go.Sort.ahead w n) os:=by
   unfold sortWorldK
   rw [putRowK_self _ _ _ _ _ _ (holdsK_ahead _ _ w n g 0 _ hH)]
  rw [ew]
  have hk:=keeps_grow w n os
  exact ⟨_,β,rfl,Names.le.refl β,fun _ _=>rfl,.tup _ _ rfl (fun j v x h=>by simp at h),hins.grow hk (fun b _ h=>h),⟨hk.os,hk.tape,hk.output,hk.size,fun b hb _=>hk.block b hb (fun h=>h)⟩,fun k hk b hb=>.inr ⟨k,hk,hb⟩⟩
end Go.Proofs.YtanppabbmffokaaGreat
end
section
namespace Go.Proofs.YtanppabbmffokaaGreat
open Go.Bx
set_option maxRecDepth 10000
def jnO (l:List (Int×Int)) (k:Nat):List (Nat×Go.Bx.Own):=[(3,.fix [.osl 900]),(900,rowP (l.take k))]
def jnO1 (l:List (Int×Int)) (k:Nat):List (Nat×Go.Bx.Own):=[(5,.fix [.d (.int .i64 (l.getD k default).1),.d (.int .i64 (l.getD k default).2)]),(3,.fix [.osl 900]),(900,rowP (l.take k))]
def jnE (l:List (Int×Int)):List (Nat×V):=[(3,.own 3 0),(4,.d (.sl true 0 0 fun _=>[])),(10,.fn (.func 171) [] [.mem [slP l]])]
def jnE1:List (Nat×V):=[(3,.own 3 0),(5,.own 5 0)]
theorem jn_cli (L:List (Int×Int)):CliO [3] (jnO L):=by
 refine ⟨fun k=>by simp [jnO,keysO],fun k n hn=>?_,fun k n hn=>by simp at hn;simp [jnO,keysO,hn]⟩
 simp only [jnO,rowP,ownNames,namesL,V.names,List.append_nil,List.nil_append] at hn
 simpa [jnO,keysO] using hn
theorem jn_cli1 (L:List (Int×Int)):CliO [3] (jnO1 L):=by
 refine ⟨fun k=>by simp [jnO1,keysO],fun k n hn=>?_,fun k n hn=>?_⟩
 ·simp only [jnO1,rowP,ownNames,namesL,V.names,List.append_nil,List.nil_append] at hn
  simpa [jnO1,keysO] using hn
 ·simp only [List.mem_cons,List.not_mem_nil,or_false] at hn
  simp [jnO1,keysO,hn]
theorem jn_env (l:List (Int×Int)):∀ s n,n∈(Go.Bx.get (jnE l) s).names→n∈[3]:=env_names fun s y hm n hn=>by
 simp only [jnE,List.mem_cons,Prod.mk.injEq,List.not_mem_nil,or_false] at hm
 rcases hm with ⟨rfl,rfl⟩|⟨rfl,rfl⟩|⟨rfl,rfl⟩<;>simp [V.names,namesL] at hn ⊢<;>simp [hn]
theorem stepJ_len (C:List (Int×Int)) (s:Int×Int):(stepJ C s).length≤C.length+1:=by
 unfold stepJ
 split<;>simp
theorem joinP_len (l:List (Int×Int)):∀ k,((l.take k).foldl stepJ []).length≤k:=by
 intro k
 have:∀ (l:List (Int×Int)) (C:List (Int×Int)),(l.foldl stepJ C).length≤C.length+l.length:=by
  intro l
  induction l with
  |nil=>intro C;simp
  |cons x l ih=>intro C;rw [List.foldl_cons];have:=ih (stepJ C x);have:=stepJ_len C x;simp only [List.length_cons];omega
 have:=this (l.take k) []
 rw [List.length_take] at this
 simp only [List.length_nil] at this
 omega
set_option maxHeartbeats 2000000 in
theorem sJoin (l:List (Int×Int)) (hl:l.length≤1000000) (hok:∀ p,p∈l→OkP p) (hs:l.Pairwise (fun p q=>p.1<q.1)):Ctr Tryz.prog 83 [.d (slP l)] [] (.d (slP (joinP l))) [] []:=by
 have cs:=sSome l
 have hI:=it_some l hl hok
 have ct:=sSortP l hl hs
 have hjl:=joinP_len l
 simp only [slP,dP] at cs
 simp only [rowP,dP,vcd,↓vcp,seval] at ct
 refine ctr_pureL Tryz.func83 ok83 rfl cc83 cr83 Tryz.ntmps83 (by simp) rfl rfl ?_;intro c hP hfn hrd;simp only [kc83,slP,dP,vcd,↓vcp,seval]
 repeat' first|((first|refine tp hP (by exact cs) ?_|refine tg hP (fun _=>by exact cs) ?_|refine tv hP rfl (by exact cs) ?_);try simp only [vcd,↓vcp,seval])|refine ⟨fun h=>?_,fun h=>?_⟩|refine aO ?_|refine aT ?_|fail
 rw [←hP] at hI
 refine vcC.rfnAll hI (jnE l) [3] (jnO l) (jnO1 l) (fun _=>jnE1) ?_ rfl trivial
  ⟨hrd,jn_cli l,jn_cli1 l,fun n hn=>(by rw [hfn] at hn;cases hn),jn_env l,rfl,fun _=>rfl,fun _=>rfl,fun _=>rfl,fun h=>absurd rfl h,fun h=>(by cases h)⟩ ?_ ?_ ?_
 ·refine (Wk.row0F 3 0 900 23 2 (fun i=>dP ((l.take 0).getD i default)) rfl rfl (by simp)).trans (Wk.of (b:=⟨jnE l,jnO l 0,[3,900]⟩) _ hfn rfl ?_ ?_)
  ·simp only [jnE,slP,dP,enb,vcd,↓vcp,seval]
  ·simp only [jnO,rowP,enb,vcd,↓vcp,seval]
 ·intro k hk cB hPB hfB
  simp only [setPs,vS,jnO,jnE,vcd,↓vcp,seval]
  rw [rfnA_nrm]
  refine Wk.of (b:=⟨jnE1,jnO1 l k,[5,3,900]⟩) _ hfB rfl ?_ ?_
  ·simp only [jnE1,enb,vcd,↓vcp,seval]
  ·simp only [jnO1,enb,vcd,↓vcp,seval]
 ·intro k hk cB hPB hfB
  simp only [jnO1,jnE1,rowP,dP,vcd,↓vcp,seval]
  repeat' first|refine ⟨fun h=>?_,fun h=>?_⟩|refine aO ?_|refine aT ?_|fail
  have hlk:(l.take k).length=k:=by rw [List.length_take];omega
  obtain ⟨x,-,hg,-,hx⟩:=drop_at hk
  have hg:=hg default
  have htk:l.take (k+1)=l.take k++[x]:=by rw [List.take_add_one,hx];rfl
  refine ⟨⟨by omega,by simp only [maxLen];omega⟩,?_⟩
  rw [rfnB_nrm]
  refine ⟨rfl,(Wk.sw 15 900 _ hfB (by simp) (by simp)).trans (Wk.of (b:=⟨[],jnO l (k+1),[3,900]⟩) _ hfB rfl (by simp only [enb,vcd,↓vcp,seval]) ?_)⟩
  rw [jnO,htk]
  simp only [rowP,hg,enb,vcd,↓vcp,seval]
  exact OLe.app1 dP (fun i hi=>by simp only [if_pos hi,dP]) (by simp [litRow,dP])
 ·simp only [jnE,jnO,rowP,dP,List.take_length,vcd,↓vcp,seval]
  repeat' first|refine ⟨fun h=>?_,fun h=>?_⟩|refine aO ?_|refine aT ?_|fail
  refine TR.call [(900,rowP l)] [(900,rowP l)] (.tup []) [] (by rw [hP];exact ct) (by repeat' first|exact trivial|(intro _;assumption)|apply And.intro) (hin1 rfl) (by simp [keysO]) (by simp) ?_
  simp only [rowP,dP,vcd,↓vcp,seval]
  repeat' first|refine ⟨fun h=>?_,fun h=>?_⟩|refine aO ?_|refine aT ?_|fail
  refine vcC.loop (X:=Nat) (fun k=>⟨[(4,.osl 1000),(18,.osl 900),(19,.d (.int .i64 l.length)),(20,.d (.int .i64 k))],[(1000,rowP ((l.take k).foldl stepJ [])),(900,rowP l)],[1000,900]⟩)
   (fun k=>k≤l.length) (fun k=>l.length-k) 0 (Nat.zero_le _) ?_ ?_
  ·refine (Wk.row0 (s:=4) (k:=1000) (e:=23) (sz:=2) (f':=fun _=>[]) rfl rfl (by simp)).trans (Wk.of _ hfn rfl ?_ ?_)
   ·simp only [enb,vcd,↓vcp,seval]
   ·simp only [rowP,dP,List.take_zero,List.foldl_nil,enb,vcd,↓vcp,seval];exact OLe.row rfl (fun i hi=>absurd hi (Nat.not_lt_zero i))
  intro k hk
  have hjk:=hjl k
  by_cases hlt:k<l.length
  ·obtain ⟨p,-,hg,-,hat⟩:=drop_at hlt
   have hg:=hg default
   have d0:decide ((k:Int)<(l.length:Int))=true:=decide_eq_true (by omega)
   have w1:IntKind.i64.wrap ((k:Int)+1)=((k+1:Nat):Int):=wS (by omega)
   have b1:(0:Int)≤(k:Int)∧(k:Int)<(l.length:Int):=by omega
   have hst:(l.take (k+1)).foldl stepJ []=stepJ ((l.take k).foldl stepJ []) p:=by rw [List.take_add_one,hat,List.foldl_append];rfl
   generalize (l.take k).foldl stepJ []=C at *
   obtain ⟨x,y⟩:=p
   have hroom:(C.length+1)*16≤140737488355328∧C.length+1≤maxLen:=⟨by omega,by simp only [maxLen];omega⟩
   by_cases h0:0<C.length
   ·obtain ⟨q,hq⟩:∃ q,∀ d,C.getD (C.length-1) d=q:=by
     obtain ⟨q,-,hg,-,-⟩:=drop_at (l:=C) (k:=C.length-1) (by omega)
     exact ⟨q,hg⟩
    have g1:decide ((C.length:Int)>0)=true:=decide_eq_true (by omega)
    have w2:IntKind.i64.wrap ((C.length:Int)-1)=((C.length-1:Nat):Int):=(wI (by omega)).trans (by omega)
    have b2:(0:Int)≤((C.length-1:Nat):Int)∧((C.length-1:Nat):Int)<(C.length:Int):=by omega
    by_cases hc:x≤q.2
    ·have c1:decide (x≤q.2)=true:=decide_eq_true hc
     have es:stepJ C (x,y)=C.set (C.length-1) (q.1,max q.2 y):=by rw [stepJ,hq,if_pos ⟨h0,hc⟩]
     rw [es] at hst
     simp only [rowP,dP,d0,hg,hq,g1,w2,c1,vcd,↓vcp,seval]
     repeat' first|refine ⟨fun h=>?_,fun h=>?_⟩|refine aO ?_|refine aT ?_|fail
     refine lopK.on (k+1) (by omega) (by omega) (Wk.of _ hfn rfl (by simp only [w1,enb,vcd,↓vcp,seval]) ?_)
     simp only [rowP,dP,hst,enb,vcd,↓vcp,seval]
     refine OLe.row (by rw [List.length_set]) fun i hi=>?_
     have hgi:(C.set (C.length-1) (q.1,max q.2 y)).getD i default=if i=C.length-1 then (q.1,max q.2 y) else C.getD i default:=by
      simp only [List.getD_eq_getElem?_getD,List.getElem?_set]
      by_cases hi2:C.length-1=i
      ·rw [if_pos hi2,if_pos (by omega),if_pos hi2.symm];rfl
      ·rw [if_neg hi2,if_neg (fun h=>hi2 h.symm)]
     rw [hgi]
     by_cases hi2:i=C.length-1
     ·rw [if_pos hi2,if_pos hi2]
      simp [putD]
     ·rw [if_neg hi2,if_neg hi2]
    ·have c1:decide (x≤q.2)=false:=decide_eq_false hc
     have es:stepJ C (x,y)=C++[(x,y)]:=by rw [stepJ,hq,if_neg (fun h=>hc h.2)]
     rw [es] at hst
     simp only [rowP,dP,d0,hg,hq,g1,w2,c1,vcd,↓vcp,seval]
     repeat' first|refine ⟨fun h=>?_,fun h=>?_⟩|refine aO ?_|refine aT ?_|fail
     refine lopK.on (k+1) (by omega) (by omega) ((Wk.sw 56 1000 _ hfn (by simp) (by simp)).trans (Wk.of _ hfn rfl (by simp only [w1,enb,vcd,↓vcp,seval]) ?_))
     simp only [rowP,dP,hst,enb,vcd,↓vcp,seval]
     exact OLe.app1 dP (fun i hi=>by simp [hi,dP]) (by simp [litRow,dP])
   ·have g1:decide ((C.length:Int)>0)=false:=decide_eq_false (by omega)
    have es:stepJ C (x,y)=C++[(x,y)]:=by rw [stepJ,if_neg (fun h=>h0 h.1)]
    rw [es] at hst
    simp only [rowP,dP,d0,hg,g1,vcd,↓vcp,seval]
    repeat' first|refine ⟨fun h=>?_,fun h=>?_⟩|refine aO ?_|refine aT ?_|fail
    refine lopK.on (k+1) (by omega) (by omega) ((Wk.sw 56 1000 _ hfn (by simp) (by simp)).trans (Wk.of _ hfn rfl (by simp only [w1,enb,vcd,↓vcp,seval]) ?_))
    simp only [rowP,dP,hst,enb,vcd,↓vcp,seval]
    exact OLe.app1 dP (fun i hi=>by simp [hi,dP]) (by simp [litRow,dP])
  ·have d0:decide ((k:Int)<(l.length:Int))=false:=decide_eq_false (by omega)
   obtain rfl:k=l.length:=by omega
   simp only [rowP,dP,d0,List.take_length,vcd,↓vcp,seval]
   repeat' first|refine ⟨fun h=>?_,fun h=>?_⟩|refine aO ?_|refine aT ?_|fail
   refine RetK.mk _ (Wk.pub 1000 rfl) (by simp only [rs83,rsb,vcd,↓vcp,seval]) ?_ trivial
   simp only [rs83,rsb,vcd,↓vcp,seval]
   exact VLe.refl _
end Go.Proofs.YtanppabbmffokaaGreat
end
