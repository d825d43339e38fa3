import Derived.Test.YtakohhkgeeoniaaGreatXA9
import Derived.Test.YtakohhkgeeoniaaGreatRows
import Derived.KernelRfl
import Derived.Shelf.Spec.SlicesInsert
import Derived.Lib.AppendZerosOnto
import Derived.Laws.NewBlocks
set_option linter.unusedSimpArgs false
set_option linter.unusedVariables false
set_option maxHeartbeats 8000000
section
namespace Go.Proofs.YtakohhkgeeoniaaGreat
open Go.Bx
set_option maxRecDepth 10000
def Es (l:List Ch):Go.Bx.Own:=.row 111 9 l.length (λi=>Bn (l.getD i default))
theorem sGrowH (n:Nat) (hn:n≤1000000000000):Aj Tryz.prog 226 [.d (.sl true 0 0 λ_=>[]),.d (.int .i64 (n:Int))] [] (.osl 903) [(903,Es [])] [903]:=by
 refine qO Tryz.func226 ?_
 intro c hP hfn
 have e1:IntKind.i64.wrap ((0:Int)-0)=0:=wI (by omega)
 have e0:IntKind.i64.wrap 0=0:=wI (by omega)
 have e2:IntKind.i64.wrap ((n:Int)-0)=(n:Int):=(wI (by omega)).trans (by omega)
 simp only [A5,V.names,A4,e0,e1,e2,A0,↓A3,seval]
 repeat' first|refine ⟨λh=>?_,λh=>?_⟩|refine aX ?_|fail
 ·exfalso;have:=of_decide_eq_true h;omega
 ·exact Ci.mk _ (Wk.shr 22 903 0 rfl (Nat.zero_le _) (by simp)) (by simp only [B8,A0,↓A3,seval]) (by simp only [B8,A7,A0,↓A3,seval]) (by simp only [Es,A7,A0,↓A3,seval];exact Bf.row rfl (λi hi=>absurd hi (Nat.not_lt_zero i)))
 ·exact rK (Wk.row0 (s:=4) (k:=903) (e:=111) (sz:=9) (f':=λi=>Bn (([]:List Ch).getD i default)) rfl rfl (by simp)) (by simp only [Es,A7,A0,↓A3,seval])
def gH (G:List (List Ch)) (bs:Nat→Bool) (g:Nat→Nat→List D):D:=.sl true 1 G.length (λi=>[.sl (bs i) 9 (G.getD i []).length (g i)])
theorem Pt {G:List (List Ch)} {k:Nat} {g:List Ch} (h:G[k]?=some g):(G.take (k+1)).flatten=(G.take k).flatten++g:=by
 rw [List.take_add_one,h];simp
theorem M4 (G:List (List Ch)) (k:Nat):(G.take k).flatten.length≤G.flatten.length:=by
 conv=>rhs;rw [←List.take_append_drop k G,List.flatten_append,List.length_append]
 omega
theorem iu (G:List (List Ch)) (bs:Nat→Bool) (g:Nat→Nat→List D) (hg':∀ i j,i<G.length→j<(G.getD i []).length→g i j=Bn ((G.getD i []).getD j default)) (hG:G.length≤1000000) (hF:G.flatten.length≤1000000000) :
  Aj Tryz.prog 221 [.d (gH G bs g)] [] (.d (Bv G.flatten)) [] []:=by
 refine qP Tryz.func221 λc hP hfn=>?_;simp only [gH,A0,↓A3,seval]
 refine B4.loop (X:=Nat) (λk=>⟨[(0,.d (gH G bs g)),(3,.d (.int .i64 (G.take k).flatten.length)),(9,.d (gH G bs g)),(10,.d (.int .i64 G.length)),(11,.d (.int .i64 k))],[],[]⟩)
  (λk=>k≤G.length) (λk=>G.length-k) 0 (Nat.zero_le _) (Wk.of _ hfn rfl (by simp only [gH,List.take_zero,List.flatten_nil,A7,A0,↓A3,seval]) (by simp only [A7,A0,↓A3,seval])) ?_
 rintro k hk
 have hle:=M4 G k
 by_cases hlt:k<G.length
 ·obtain ⟨q,hd,hq,hgm,hat⟩:=Ae hlt
  have hq:=hq []
  have d0:decide ((k:Int)<(G.length:Int))=true:=decide_eq_true (by omega)
  have w1:IntKind.i64.wrap ((k:Int)+1)=((k+1:Nat):Int):=wS (by omega)
  have hfl:=Pt hat
  have hle2:=M4 G (k+1)
  have hlen:((G.take (k+1)).flatten.length:Int)=(G.take k).flatten.length+q.length:=by rw [hfl,List.length_append];omega
  have ew:IntKind.i64.wrap (((G.take k).flatten.length:Int)+(q.length:Int))=((G.take (k+1)).flatten.length:Int):=by rw [hlen];exact wI (by omega)
  have d1:decide (((G.take (k+1)).flatten.length:Int)<0)=false:=decide_eq_false (by omega)
  simp only [gH,d0,hq,ew,d1,A0,↓A3,seval]
  repeat' first|refine ⟨λh=>?_,λh=>?_⟩|refine aX ?_|fail
  exact Al.on (k+1) hlt (by omega) (Wk.of _ hfn rfl (by simp only [gH,w1,A7,A0,↓A3,seval]) (by simp only [A7,A0,↓A3,seval]))
 ·have d0:decide ((k:Int)<(G.length:Int))=false:=decide_eq_false (by omega)
  obtain rfl:k=G.length:=by omega
  have cg:=sGrowH G.flatten.length (by omega)
  simp only [Es,A0,↓A3,seval] at cg
  simp only [gH,d0,List.take_length,A0,↓A3,seval]
  repeat' first|refine ⟨λh=>?_,λh=>?_⟩|refine aX ?_|fail
  refine TR.call [] [(903,Es [])] _ [903] (by rw [hP];exact cg) (by repeat' first|exact trivial|(intro _;assumption)|apply And.intro) (by simp) (by simp [keysO]) (by simp) ?_
  simp only [Es,A0,↓A3,seval]
  repeat' first|refine ⟨λh=>?_,λh=>?_⟩|refine aX ?_|fail
  refine B4.loop (X:=Nat) (λk=>⟨[(6,.osl 903),(25,.d (gH G bs g)),(26,.d (.int .i64 G.length)),(27,.d (.int .i64 k))],[(903,Es (G.take k).flatten)],[903]⟩)
   (λk=>k≤G.length) (λk=>G.length-k) 0 (Nat.zero_le _) (Wk.of _ hfn rfl (by simp only [gH,A7,A0,↓A3,seval]) (by simp only [Es,List.take_zero,List.flatten_nil,A7,A0,↓A3,seval])) ?_
  rintro k hk
  have hle:=M4 G k
  by_cases hlt:k<G.length
  ·obtain ⟨q,hd,hq,hgm,hat⟩:=Ae hlt
   have hq:=hq []
   have hgq:∀ j,j<q.length→g k j=Bn (q.getD j default):=λj hj=>by have:=hg' k j hlt (by rw [hq];exact hj);rw [hq] at this;exact this
   have d1:decide ((k:Int)<(G.length:Int))=true:=decide_eq_true (by omega)
   have w1:IntKind.i64.wrap ((k:Int)+1)=((k+1:Nat):Int):=wS (by omega)
   have hfl:=Pt hat
   have hle2:=M4 G (k+1)
   have hlen:(G.take (k+1)).flatten.length=(G.take k).flatten.length+q.length:=by rw [hfl,List.length_append]
   have hroom:((G.take k).flatten.length+q.length)*88≤140737488355328∧(G.take k).flatten.length+q.length≤maxLen:=⟨by omega,by simp only [maxLen];omega⟩
   simp only [gH,Es,d1,hq,A0,↓A3,seval]
   repeat' first|refine ⟨λh=>?_,λh=>?_⟩|refine aX ?_|fail
   exact Al.on (k+1) hlt (by omega) ((Wk.sw 33 903 _ hfn (by simp) (by simp)).trans (Wk.of _ hfn rfl (by simp only [gH,w1,A7,A0,↓A3,seval]) (by simp only [Es,hfl,A7,A0,↓A3,seval];exact Bf.appL Bn rfl (λi hi=>by rw [if_pos hi]) (λi hi=>by rw [if_neg (by omega),Nat.add_sub_cancel_left];exact hgq i hi))))
  ·have d1:decide ((k:Int)<(G.length:Int))=false:=decide_eq_false (by omega)
   obtain rfl:k=G.length:=by omega
   simp only [gH,Es,d1,List.take_length,A0,↓A3,seval]
   repeat' first|refine ⟨λh=>?_,λh=>?_⟩|refine aX ?_|fail
   refine rK (Wk.pub 903 rfl) trivial ?_
   simp only [B8,A0,↓A3,seval,Bv,A7,A0,↓A3,seval]
def Yc (l:List Sl) (a b:Int):V:=.tup [Yn l a b,.d (.int .i64 (J8 l a b).2)]
theorem Ul {E0:Nat→Prop} {β:A6} {w:World} {own:List (Nat×Go.Bx.Own)} {k:Nat} (h:At E0 β w own) (hk:own? own k=some (.fix [ij])):False:=by
 obtain ⟨b,arr,e,_,_,hsz,hv⟩:=h.ok k _ (Ah hk)
 have h0:0<arr.size:=by rw [hsz];simp
 exact yu (hv 0 arr[0] ij (Array.getElem?_eq_getElem h0) rfl)
theorem J9.panU {c:B3} {K0:Cs} {IS:List I} {s0:St} {d:Option Nat} {f:Nat} {xs:List X} {is:List I} {K:List Lg→St→Prop} {st:St} {acc:List Lg} {P:Program} (hP:c.P=P) {x:V} (k:Nat) (hS:Kv P f (evVs st xs) x) (hs:evSs true st xs)
  (hk:∀ st1:St,(∀ j,j∈[k]→own? st1.own j=own? st.own j)→(∀ k,(∀ ii,ii∈IS→ii.dst≠some k)→get st1.env k=get s0.env k)→c.pk x st1)
  (h:J9 c (Fl c K0) IS s0 is (st.stp d { val:=ij,upd:=[(k,some (.fix [ij]))],rd:=[k],new:=[] }) (acc++[⟨[k],[k]⟩]) K):J9 c (Fl c K0) IS s0 (⟨d,none,.call f xs⟩::is) st acc K:=by
 refine J9.cons { val:=ij,upd:=[(k,some (.fix [ij]))],rd:=[k],new:=[] } (λst1 h1 h2 _ h4 ops o hc β a w H K hK=>?_) (λk hk=>by simp at hk) h
 have hsl:∀ k,k∈Bc xs→get st1.env k=get st.env k:=λk hk=>h1 k (Ha k hk)
 have hS':Kv c.P f (evVs st1 xs) x:=by rw [Cj hsl,hP];exact hS
 have hs':evSs true st1 xs:=by rw [Cn hsl];exact hs
 obtain ⟨q1,q2⟩:=Jh (d:=d) hS' hs' ops o hc β a w H (Fl c K0) K (λβ' a' w' v H' hv=>.inr ⟨_,rfl,β',st1,v,x,rfl,hk st1 h2 h4,H',hv⟩)
 rw [if_pos q1]
 exact q2
theorem J9.vacO {c:B3} {Q:Exit→Act→World→Prop} {IS:List I} {s0:St} {i:I} {is:List I} {K:List Lg→St→Prop} {st:St} {acc:List Lg} (k:Nat) (hg:own? st.own k=some (.fix [ij])) (h:J9 c Q IS s0 is (st.stp i.dst { val:=ij,upd:=[],rd:=[k],new:=[] }) (acc++[⟨[k],[]⟩]) K):J9 c Q IS s0 (i::is) st acc K:=by
 refine J9.cons { val:=ij,upd:=[],rd:=[k],new:=[] } (λst1 _ h2 _ _ ops o hc β a w H K hK=>?_) (λk hk=>by simp at hk) h
 exact (Ul H.own (by rw [h2 k (by simp),hg])).elim
def Hu (P:List (Int×Int)) (a b:Int):St:=⟨[(3,.own 3 0),(5,.own 5 0),(6,.own 6 0)],[(3,.fix [.d (.int .i64 a),.d (.int .i64 b)]),(5,.fix [.d (.int .i64 0)]),(6,.fix (J7 P))],[3,5,6]⟩
theorem sBet (l:List Sl) (a b:Int) (hl:l.length≤9223372036854775807):Aj Tryz.prog 222 [.d (E5 l),vS a b] [] (Yc l a b) [] []:=by
 cases hc:Oa l with
 |none =>
  have e:J8 l a b=(0,1):=by rw [J8,hc]
  have cp:=Z4 l hc hl
  simp only [E5,Ea,Ar] at cp
  rw [Yc,Yn,e]
  refine qD 227 [5] Tryz.func222 λc hP hfn=>?_;simp only [E5,Ea,Ar,vS,A0,↓A3,seval]
  rw [Cp]
  simp only [A0,↓A3,seval]
  refine ⟨⟨_,_,rfl,trivial,by simp only [A0,↓A3,seval],rfl⟩,by simp [keysO],λc2 hP2 hfn2 hrd2 hpk2=>?_⟩
  refine Jn.of ?_
  simp only [A0,↓A3,seval]
  refine TR.cpan (hP2.trans hP) cp (by repeat' first|exact trivial|(intro _;assumption)|apply And.intro) ?_
  rw [hpk2]
  refine ⟨[(5,.fix [.d (.int .i64 0)])],[(5,.fix [.d (.int .i64 1)])],by rw [hP];exact Qq 5 0 1,λk o hm=>Ay (by simp [keysO]) (List.mem_cons_of_mem _ hm),?_,?_⟩
  ·first|(simp only [B8,A0,↓A3,seval];done)|trivial
  ·simp only [B8,A7,A0,↓A3,seval]
   exact Ag.tups ⟨Ag.un _,Ag.refl _,trivial⟩
 |some P =>
  have hPl:=X2 hc
  have cc:=nk l P hc
  have cr:=Ll a b
  simp only [E5,Ea,Ar,Ms,J7,slK,List.length_map] at cc
  simp only [vS] at cr
  cases ho:okS a b with
  |false =>
   have e:J8 l a b=(0,1):=by rw [J8,hc];simp only [ho,if_true]
   rw [ho] at cr
   rw [Yc,Yn,e]
   refine qD 227 [5] Tryz.func222 λc hP hfn=>?_;simp only [E5,Ea,Ar,vS,A0,↓A3,seval]
   rw [Cp]
   simp only [A0,↓A3,seval]
   refine ⟨⟨_,_,rfl,trivial,by simp only [A0,↓A3,seval],rfl⟩,by simp [keysO],λc2 hP2 hfn2 hrd2 hpk2=>?_⟩
   refine Jn.of ?_
   have hP:=hP2.trans hP
   simp only [A0,↓A3,seval]
   repeat' first|(refine tq hP (h:=⟨_,λ_=>by first|exact cc|exact cr,?_⟩);try simp only [A0,↓A3,seval])|refine ⟨λh=>?_,λh=>?_⟩|refine aX ?_|fail
   refine TR.cpan hP (Q5 1 (by decide)) (by repeat' first|exact trivial|(intro _;assumption)|apply And.intro) ?_
   rw [hpk2]
   refine ⟨[(5,.fix [.d (.int .i64 0)])],[(5,.fix [.d (.int .i64 1)])],by rw [←hP2,hP];exact Qq 5 0 1,λk o hm=>Ay (by simp [keysO]) (by simp only [List.mem_cons,List.not_mem_nil,or_false] at hm;simp [hm]),?_,?_⟩
   ·first|(simp only [B8,A0,↓A3,seval];done)|trivial
   ·simp only [B8,A7,A0,↓A3,seval]
    exact Ag.tups ⟨Ag.un _,Ag.refl _,trivial⟩
  |true =>
   rw [ho] at cr
   have e:J8 l a b=if (By P b).2≠0 then (0,(By P b).2) else if (By P a).2≠0 then (0,(By P a).2) else (IntKind.i64.wrap ((By P b).1-(By P a).1),0):=by rw [J8,hc];simp only [ho,if_neg (show ¬ (true=false) by simp)]
   by_cases h1:(By P b).2=0
   ·by_cases h2:(By P a).2=0
    ·have e1:J8 l a b=(IntKind.i64.wrap ((By P b).1-(By P a).1),0):=by rw [e,if_neg (by simpa using h1),if_neg (by simpa using h2)]
     have u1:=Uz P b (by omega) h1
     have u2:=Uz P a (by omega) h2
     simp only [Ms,J7,slK,List.length_map] at u1 u2
     rw [Yc,Yn,e1]
     refine qD 227 [5] Tryz.func222 λc hP hfn=>?_;simp only [E5,Ea,Ar,vS,A0,↓A3,seval]
     rw [Cp]
     simp only [A0,↓A3,seval]
     refine ⟨⟨_,_,rfl,trivial,by simp only [A0,↓A3,seval],rfl⟩,by simp [keysO],λc2 hP2 hfn2 hrd2 hpk2=>?_⟩
     refine Jn.of ?_
     have hP:=hP2.trans hP
     simp only [A0,↓A3,seval]
     repeat' first|(refine tq hP (h:=⟨_,λ_=>by first|exact cc|exact cr|exact u1|exact u2,?_⟩);try simp only [A0,↓A3,seval])|refine ⟨λh=>?_,λh=>?_⟩|refine aX ?_|fail
     refine ⟨_,[(5,.fix [.d (.int .i64 0)])],[(5,.fix [.d (.int .i64 0)])],Wk.refl _ _,by rw [hP];exact nw 5 0,λk o hm=>Ay (by simp [keysO]) (by simp only [List.mem_cons,List.not_mem_nil,or_false] at hm;simp [hm]),?_,?_⟩
     ·first|(simp only [B8,A0,↓A3,seval];done)|trivial
     ·simp only [B8,A7,A0,↓A3,seval]
    ·have e1:J8 l a b=(0,(By P a).2):=by rw [e,if_neg (by simpa using h1),if_pos h2]
     have u1:=Uz P b (by omega) h1
     have u2:=Xs P a (by omega) h2
     simp only [Ms,J7,slK,List.length_map] at u1 u2
     rw [Yc,Yn,e1,if_neg h2]
     refine qD 227 [5] Tryz.func222 λc hP hfn=>?_;simp only [E5,Ea,Ar,vS,A0,↓A3,seval]
     rw [Cp]
     simp only [A0,↓A3,seval]
     refine ⟨⟨_,_,rfl,trivial,by simp only [A0,↓A3,seval],rfl⟩,by simp [keysO],λc2 hP2 hfn2 hrd2 hpk2=>?_⟩
     have hP0:=hP
     have hP:=hP2.trans hP
     refine Jn.seq (K1:=λe st'=>e=.nrm∧Wk c2 st' (Hu P a b)) (Jn.of ?_) (λst' h=>⟨Hu P a b,h.2,?_⟩) (λi st' h=>by cases h.1) (λst' h=>by cases h.1)
     ·simp only [A0,↓A3,seval]
      repeat' first|(refine tz hP cc ?_;try simp only [A0,↓A3,seval])|refine ⟨λh=>?_,λh=>?_⟩|refine aX ?_|fail
      exact Wk.of _ hfn2 rfl (by simp only [Hu,A7,A0,↓A3,seval]) (by simp only [Hu,J7,slK,List.length_map,A7,A0,↓A3,seval])
     refine Jn.seq (K1:=λe st'=>e=.nrm∧Wk c2 st' (Hu P a b)) (Jn.of ?_) (λst' h=>⟨Hu P a b,h.2,?_⟩) (λi st' h=>by cases h.1) (λst' h=>by cases h.1)
     ·simp only [Hu,J7,A0,↓A3,seval]
      repeat' first|(refine tz hP cr ?_;try simp only [A0,↓A3,seval])|refine ⟨λh=>?_,λh=>?_⟩|refine aX ?_|fail
      exact Wk.of _ hfn2 rfl (by simp only [Hu,A7,A0,↓A3,seval]) (by simp only [Hu,J7,A7,A0,↓A3,seval])
     refine Jn.seq (K1:=λ_ _=>False) (Jn.drw ?_) (λst' h=>h.elim) (λi st' h=>h.elim) (λst' h=>h.elim)
     refine J9.app (pre:=[_,_,_,_,_,_,_]) ?_
     refine C1 ?_
     simp only [Hu,J7,slK,List.length_map,A0,↓A3,seval]
     repeat' first|(refine tz hP u1 ?_;try simp only [A0,↓A3,seval])|refine ⟨λh=>?_,λh=>?_⟩|refine aX ?_|fail
     refine J9.panU hP 5 u2 (by simp only [A0,↓A3,seval]) (λst1 h1 h2=>by rw [hpk2,hP0];exact pan5 (h1 5 (by simp)) (h2 5 (by simp)) _) ?_
     refine J9.vacO 5 (by simp only [St.stp,applyU,A0,↓A3,seval]) ?_
     refine J9.vacO 5 (by simp only [St.stp,applyU,A0,↓A3,seval]) ?_
     refine J9.vacO 5 (by simp only [St.stp,applyU,A0,↓A3,seval]) ?_
     refine ⟨[],_,.nil _,?_,?_⟩
     ·rfl
     ·intro β a w H
      exact Ul (k:=5) H.own (by simp only [St.stp,applyU,A0,↓A3,seval])
   ·have e1:J8 l a b=(0,(By P b).2):=by rw [e,if_pos h1]
    have u1:=Xs P b (by omega) h1
    simp only [Ms,J7,slK,List.length_map] at u1
    rw [Yc,Yn,e1,if_neg h1]
    refine qD 227 [5] Tryz.func222 λc hP hfn=>?_;simp only [E5,Ea,Ar,vS,A0,↓A3,seval]
    rw [Cp]
    simp only [A0,↓A3,seval]
    refine ⟨⟨_,_,rfl,trivial,by simp only [A0,↓A3,seval],rfl⟩,by simp [keysO],λc2 hP2 hfn2 hrd2 hpk2=>?_⟩
    have hP0:=hP
    have hP:=hP2.trans hP
    refine Jn.seq (K1:=λe st'=>e=.nrm∧Wk c2 st' (Hu P a b)) (Jn.of ?_) (λst' h=>⟨Hu P a b,h.2,?_⟩) (λi st' h=>by cases h.1) (λst' h=>by cases h.1)
    ·simp only [A0,↓A3,seval]
     repeat' first|(refine tz hP cc ?_;try simp only [A0,↓A3,seval])|refine ⟨λh=>?_,λh=>?_⟩|refine aX ?_|fail
     exact Wk.of _ hfn2 rfl (by simp only [Hu,A7,A0,↓A3,seval]) (by simp only [Hu,J7,slK,List.length_map,A7,A0,↓A3,seval])
    refine Jn.seq (K1:=λe st'=>e=.nrm∧Wk c2 st' (Hu P a b)) (Jn.of ?_) (λst' h=>⟨Hu P a b,h.2,?_⟩) (λi st' h=>by cases h.1) (λst' h=>by cases h.1)
    ·simp only [Hu,J7,A0,↓A3,seval]
     repeat' first|(refine tz hP cr ?_;try simp only [A0,↓A3,seval])|refine ⟨λh=>?_,λh=>?_⟩|refine aX ?_|fail
     exact Wk.of _ hfn2 rfl (by simp only [Hu,A7,A0,↓A3,seval]) (by simp only [Hu,J7,A7,A0,↓A3,seval])
    refine Jn.seq (K1:=λ_ _=>False) (Jn.drw ?_) (λst' h=>h.elim) (λi st' h=>h.elim) (λst' h=>h.elim)
    refine J9.app (pre:=[_,_,_]) ?_
    refine C1 ?_
    simp only [Hu,J7,slK,List.length_map,A0,↓A3,seval]
    refine J9.panU hP 5 u1 (by simp only [A0,↓A3,seval]) (λst1 h1 h2=>by rw [hpk2,hP0];exact pan5 (h1 5 (by simp)) (h2 5 (by simp)) _) ?_
    refine J9.app (pre:=[_,_,_]) ?_
    refine C1 ?_
    simp only [A0,↓A3,seval]
    refine J9.vacO 5 (by simp only [A0,↓A3,seval]) ?_
    refine J9.vacO 5 (by simp only [St.stp,applyU,A0,↓A3,seval]) ?_
    refine J9.vacO 5 (by simp only [St.stp,applyU,A0,↓A3,seval]) ?_
    refine J9.vacO 5 (by simp only [St.stp,applyU,A0,↓A3,seval]) ?_
    refine ⟨[],_,.nil _,?_,?_⟩
    ·rfl
    ·intro β a w H
     exact Ul (k:=5) H.own (by simp only [St.stp,applyU,A0,↓A3,seval])
def Cr (h:Hi) (x:Int):Hi:={ h with ch:=h.ch.take x.toNat++h.ch.drop (x.toNat+1) }
def qa (h:Hi) (t:List Vs) (x:Int):Int×Int:=
 if (Kx (Cr h x) t).2≠0 then (0,(Kx (Cr h x) t).2) else
 if (J8 (Kx (Cr h x) t).1 (h.ch.getD x.toNat default).dy h.tm.st).2≠0 then (0,(J8 (Kx (Cr h x) t).1 (h.ch.getD x.toNat default).dy h.tm.st).2) else
  V1 (J8 (Kx (Cr h x) t).1 (h.ch.getD x.toNat default).dy h.tm.st).1 1000
def Fs (h:Hi) (t:List Vs):Int×Int:=
 if (Kx h t).2≠0 then (0,(Kx h t).2) else
  match Tb h with
  |none=>(0,0)
  |some x=>if (h.ch.getD x.toNat default).kd≠3∨(h.ch.getD x.toNat default).wy≠1 then (0,0) else qa h t x
theorem lh {h:Hi} {x:Int} (e:Tb h=some x):okH h.ch x:=Kr h.ch x (fj e).1
theorem Qv {h:Hi} (z:Oh h) (x:Int):Oh (Cr h x):=by
 refine ⟨z.t,?_,λc hc=>?_⟩
 ·have:=z.n
  simp only [Cr,List.length_append,List.length_take,List.length_drop];omega
 ·simp only [Cr,List.mem_append] at hc
  rcases hc with hc|hc
  ·exact z.c c (List.mem_of_mem_take hc)
  ·exact z.c c (List.mem_of_mem_drop hc)
theorem rf (x:Int):IntKind.i64.wrap x≤9223372036854775807:=by
 have h:IntKind.i64.wrap x=if x % 18446744073709551616≥9223372036854775808 then x % 18446744073709551616-18446744073709551616 else x % 18446744073709551616:=by
  simp [IntKind.wrap,IntKind.signed,IntKind.bits]
 rw [h];split<;>omega
theorem qq (l:List Sl) (a b:Int):(J8 l a b).1≤9223372036854775807:=by
 unfold J8
 repeat' split
 all_goals first|exact rf _|simp
theorem sOut (h:Hi) (x:Int) (hx:0≤x∧x<(h.ch.length:Int)) (hn:h.ch.length≤1000000) :
  Aj Tryz.prog 221 [.d (.sl true 1 2 (litRow 1 [.sl false 9 x.toNat (λi=>Bn (h.ch.getD i default)),.sl false 9 (h.ch.length-(x+1).toNat) (λi=>Bn (h.ch.getD ((x+1).toNat+i) default))]))] [] (.d (Bv (Cr h x).ch)) [] []:=by
 have e1:(x+1).toNat=x.toNat+1:=by omega
 have h0:x.toNat<h.ch.length:=by omega
 have lt:(h.ch.take x.toNat).length=x.toNat:=by rw [List.length_take];omega
 have ld:(h.ch.drop (x.toNat+1)).length=h.ch.length-(x.toNat+1):=by rw [List.length_drop]
 have hc:=iu [h.ch.take x.toNat,h.ch.drop (x.toNat+1)] (λ_=>false) (λi j=>if i=0 then Bn (h.ch.getD j default) else Bn (h.ch.getD ((x+1).toNat+j) default)) ?_ (by simp) ?_
 ·have ef:[h.ch.take x.toNat,h.ch.drop (x.toNat+1)].flatten=(Cr h x).ch:=by simp [Cr]
  rw [ef] at hc
  refine hc.arg ⟨Ag.sl rfl (λ_=>rfl) (λ_=>rfl) (λi hi=>?_),trivial⟩
  have:i=0∨i=1:=by omega
  rcases this with rfl|rfl
  ·simp [litRow,lt]
  ·simp [litRow,ld,e1]
 ·intro i j hi hj
  have:i=0∨i=1:=by simp at hi;omega
  rcases this with rfl|rfl
  ·simp only [List.getD_cons_zero] at hj ⊢
   rw [lt] at hj
   rw [if_pos trivial,List.getD_eq_getElem?_getD,List.getD_eq_getElem?_getD,List.getElem?_take_of_lt hj]
  ·simp only [List.getD_cons_succ,List.getD_cons_zero] at hj ⊢
   rw [if_neg (by omega),List.getD_eq_getElem?_getD,List.getD_eq_getElem?_getD,List.getElem?_drop,e1]
 ·simp;omega
theorem yq (hh:Hi) (t:List Vs) (z:Oh hh) (ht:t.length≤1000000) (hz:∀ v,v∈t→Qo v) (hl:∀ x,(Kx (Cr hh x) t).1.length≤9223372036854775807) :
  Aj Tryz.prog 215 [Da hh,.ag [.d (C5 t)]] [] (.tup [.d (.int .i64 (Fs hh t).1),.d (.int .i64 (Fs hh t).2)]) [] []:=by
 have co:=vr hh t z ht hz
 have ct:=sTurn hh (by have:=z.n;omega)
 simp only [Da,Dd,Ar,Bv,Bn,C5,De,Br,E5,Ea] at co ct
 by_cases h0:(Kx hh t).2=0
 ·have n0:((0:Int) != 0)=false:=rfl
  rw [h0] at co
  cases hx:Tb hh with
  |none =>
   have e:Fs hh t=(0,0):=by rw [Fs,if_neg (by simpa using h0),hx]
   rw [hx] at ct
   simp only [pg,Option.getD_none,Option.isSome_none] at ct
   rw [e]
   refine qP Tryz.func215 λc hP hfn=>?_;simp only [Da,Dd,Ar,Bv,Bn,C5,De,Br,A0,↓A3,seval]
   repeat' first|(refine tq hP (h:=⟨_,λ_=>by first|exact co|exact ct,?_⟩);try simp only [n0,A0,↓A3,seval])|refine ⟨λh=>?_,λh=>?_⟩|refine aX ?_|fail
   exact rr
  |some x =>
   obtain ⟨hx0,hx1⟩:=lh hx
   have hn:=z.n
   rw [hx] at ct
   simp only [pg,Option.getD_some,Option.isSome_some] at ct
   have b1:(0:Int)≤x∧x<(hh.ch.length:Int):=by omega
   by_cases hk:(hh.ch.getD x.toNat default).kd≠3∨(hh.ch.getD x.toNat default).wy≠1
   ·have e:Fs hh t=(0,0):=by rw [Fs,if_neg (by simpa using h0),hx];simp only [if_pos hk]
    rw [e]
    by_cases hk3:(hh.ch.getD x.toNat default).kd=3
    ·have d3:((hh.ch.getD x.toNat default).kd != 3)=false:=by rw [bne_eq_false_iff_eq];exact hk3
     have d1:((hh.ch.getD x.toNat default).wy != 1)=true:=by rw [bne_iff_ne];rcases hk with h|h;exact absurd hk3 h;exact h
     refine qP Tryz.func215 λc hP hfn=>?_;simp only [Da,Dd,Ar,Bv,Bn,C5,De,Br,A0,↓A3,seval]
     repeat' first|(refine tq hP (h:=⟨_,λ_=>by first|exact co|exact ct,?_⟩);try simp only [n0,d3,d1,A0,↓A3,seval])|refine ⟨λh=>?_,λh=>?_⟩|refine aX ?_|fail
     exact rr
    ·have d3:((hh.ch.getD x.toNat default).kd != 3)=true:=by rw [bne_iff_ne];exact hk3
     refine qP Tryz.func215 λc hP hfn=>?_;simp only [Da,Dd,Ar,Bv,Bn,C5,De,Br,A0,↓A3,seval]
     repeat' first|(refine tq hP (h:=⟨_,λ_=>by first|exact co|exact ct,?_⟩);try simp only [n0,d3,A0,↓A3,seval])|refine ⟨λh=>?_,λh=>?_⟩|refine aX ?_|fail
     exact rr
   ·have e:Fs hh t=qa hh t x:=by rw [Fs,if_neg (by simpa using h0),hx];simp only [if_neg hk]
    have hk3:(hh.ch.getD x.toNat default).kd=3:=by omega
    have hk1:(hh.ch.getD x.toNat default).wy=1:=by omega
    have d3:((hh.ch.getD x.toNat default).kd != 3)=false:=by rw [bne_eq_false_iff_eq];exact hk3
    have d1:((hh.ch.getD x.toNat default).wy != 1)=false:=by rw [bne_eq_false_iff_eq];exact hk1
    have w1:IntKind.i64.wrap (x+1)=x+1:=wI (by omega)
    rw [e]
    have cx:=sOut hh x b1 (by omega)
    have cf:=vr (Cr hh x) t (Qv z x) ht hz
    have hl:=hl x
    rw [qa]
    generalize hL:(Kx (Cr hh x) t).1=L at *
    generalize hE:(Kx (Cr hh x) t).2=e1 at *
    have hw:(Cr hh x).id=hh.id∧(Cr hh x).bk=hh.bk∧(Cr hh x).tm=hh.tm:=⟨rfl,rfl,rfl⟩
    generalize Cr hh x=h2 at *
    obtain ⟨w5,w6,w7⟩:=hw
    simp only [Da,Dd,Ar,Bv,Bn,C5,De,Br,E5,Ea,w5,w6,w7] at cx cf
    by_cases h1:e1=0
    ·subst h1
     have cb:=sBet L (hh.ch.getD x.toNat default).dy hh.tm.st hl
     have hle:=qq L (hh.ch.getD x.toNat default).dy hh.tm.st
     rw [if_neg (by simp)]
     simp only [Yc,Yn] at cb
     generalize hB:J8 L (hh.ch.getD x.toNat default).dy hh.tm.st=B at *
     obtain ⟨bn,be⟩:=B
     simp only at cb hle ⊢
     simp only [Da,Dd,Ar,Bv,Bn,C5,De,Br,E5,Ea,vS] at cb
     by_cases h3:be=0
     ·subst h3
      have cp:=sBp bn 1000 hle (by omega)
      simp only [if_true] at cb
      rw [if_neg (by simp)]
      refine qP Tryz.func215 λc hP hfn=>?_;simp only [Da,Dd,Ar,Bv,Bn,C5,De,Br,A0,↓A3,seval]
      repeat' first|(refine tq hP (h:=⟨_,λ_=>by first|exact co|exact ct|exact cx|exact cf|exact cb|exact cp,?_⟩);try simp only [n0,d3,d1,w1,A0,↓A3,seval])|refine ⟨λh=>?_,λh=>?_⟩|refine aX ?_|fail
      exact rr
     ·have n3:(be != 0)=true:=bne_iff_ne.2 h3
      simp only [if_neg h3] at cb
      rw [if_pos h3]
      refine qP Tryz.func215 λc hP hfn=>?_;simp only [Da,Dd,Ar,Bv,Bn,C5,De,Br,A0,↓A3,seval]
      repeat' first|(refine tq hP (h:=⟨_,λ_=>by first|exact co|exact ct|exact cx|exact cf|exact cb,?_⟩);try simp only [n0,d3,d1,w1,n3,A0,↓A3,seval])|refine ⟨λh=>?_,λh=>?_⟩|refine aX ?_|fail
      exact rr
    ·have n3:(e1 != 0)=true:=bne_iff_ne.2 h1
     rw [if_pos h1]
     refine qP Tryz.func215 λc hP hfn=>?_;simp only [Da,Dd,Ar,Bv,Bn,C5,De,Br,A0,↓A3,seval]
     repeat' first|(refine tq hP (h:=⟨_,λ_=>by first|exact co|exact ct|exact cx|exact cf,?_⟩);try simp only [n0,d3,d1,w1,n3,A0,↓A3,seval])|refine ⟨λh=>?_,λh=>?_⟩|refine aX ?_|fail
     exact rr
 ·have n1:((Kx hh t).2 != 0)=true:=bne_iff_ne.2 h0
  have e:Fs hh t=(0,(Kx hh t).2):=by rw [Fs,if_pos h0]
  rw [e]
  refine qP Tryz.func215 λc hP hfn=>?_;simp only [Da,Dd,Ar,Bv,Bn,C5,De,Br,A0,↓A3,seval]
  repeat' first|(refine tz hP co ?_;try simp only [n1,A0,↓A3,seval])|refine ⟨λh=>?_,λh=>?_⟩|refine aX ?_|fail
  exact rr
theorem aj {h:Hi} {t:List Vs} (z:Oh h):(Kx h t).1.length≤9223372036854775807:=by
 have h1:=(Ua z).1
 have h2:=z.n
 unfold Kx
 repeat' split
 all_goals simp
 omega
theorem sKept2 (hh:Hi) (t:List Vs) (z:Oh hh) (ht:t.length≤1000000) (hz:∀ v,v∈t→Qo v) :
  Aj Tryz.prog 215 [Da hh,.ag [.d (C5 t)]] [] (.tup [.d (.int .i64 (Fs hh t).1),.d (.int .i64 (Fs hh t).2)]) [] []:=yq hh t z ht hz λx=>aj (Qv z x)
def Xm (h:Hi) (t:List Vs):Int×Int:=
 if (Fs h t).2≠0 then (0,(Fs h t).2) else
 if (I0 (Kx h t).1 292195).2≠0 then (0,(I0 (Kx h t).1 292195).2) else
 if (I0 (Kx h t).1 292195).1>IntKind.i64.wrap (4000000000000000000-(Fs h t).1) then (0,5) else (IntKind.i64.wrap ((I0 (Kx h t).1 292195).1+(Fs h t).1),0)
theorem xd (hh:Hi) (t:List Vs) (z:Oh hh) (ht:t.length≤1000000) (hz:∀ v,v∈t→Qo v) :
  Aj Tryz.prog 211 [Da hh,.ag [.d (C5 t)]] [] (.tup [.d (.int .i64 (Xm hh t).1),.d (.int .i64 (Xm hh t).2)]) [] []:=by
 have ck:=sKept2 hh t z ht hz
 have co:=vr hh t z ht hz
 have cw:=lc (Kx hh t).1 (aj z)
 rw [Xm]
 generalize Fs hh t=K at *
 generalize Kx hh t=L at *
 generalize I0 L.1 292195=U at *
 obtain ⟨k,ke⟩:=K
 obtain ⟨L,le⟩:=L
 obtain ⟨u,ue⟩:=U
 simp only [Da,Dd,Ar,Bv,Bn,C5,De,Br,E5,Ea] at ck co cw
 by_cases h1:ke=0
 ·subst h1
  have n0:((0:Int) != 0)=false:=rfl
  rw [if_neg (by simp)]
  by_cases h2:ue=0
  ·subst h2
   rw [if_neg (by simp)]
   generalize hw:IntKind.i64.wrap (4000000000000000000-k)=m at *
   by_cases h3:u>m
   ·have d3:decide (u>m)=true:=decide_eq_true h3
    rw [if_pos h3]
    refine qP Tryz.func211 λc hP hfn=>?_;simp only [Da,Dd,Ar,Bv,Bn,C5,De,Br,A0,↓A3,seval]
    repeat' first|(refine tq hP (h:=⟨_,λ_=>by first|exact ck|exact co|exact cw,?_⟩);try simp only [n0,hw,d3,A0,↓A3,seval])|refine ⟨λh=>?_,λh=>?_⟩|refine aX ?_|fail
    exact rr
   ·have d3:decide (u>m)=false:=decide_eq_false h3
    rw [if_neg h3]
    refine qP Tryz.func211 λc hP hfn=>?_;simp only [Da,Dd,Ar,Bv,Bn,C5,De,Br,A0,↓A3,seval]
    repeat' first|(refine tq hP (h:=⟨_,λ_=>by first|exact ck|exact co|exact cw,?_⟩);try simp only [n0,hw,d3,A0,↓A3,seval])|refine ⟨λh=>?_,λh=>?_⟩|refine aX ?_|fail
    exact rr
  ·have n1:(ue != 0)=true:=bne_iff_ne.2 h2
   rw [if_pos h2]
   refine qP Tryz.func211 λc hP hfn=>?_;simp only [Da,Dd,Ar,Bv,Bn,C5,De,Br,A0,↓A3,seval]
   repeat' first|(refine tq hP (h:=⟨_,λ_=>by first|exact ck|exact co|exact cw,?_⟩);try simp only [n0,n1,A0,↓A3,seval])|refine ⟨λh=>?_,λh=>?_⟩|refine aX ?_|fail
   exact rr
 ·have n1:(ke != 0)=true:=bne_iff_ne.2 h1
  rw [if_pos h1]
  refine qP Tryz.func211 λc hP hfn=>?_;simp only [Da,Dd,Ar,Bv,Bn,C5,De,Br,A0,↓A3,seval]
  repeat' first|(refine tz hP ck ?_;try simp only [n1,A0,↓A3,seval])|refine ⟨λh=>?_,λh=>?_⟩|refine aX ?_|fail
  exact rr
theorem uh {h:Hi} {c:Ch} (z:Oh h) (hc:c.cv.length≤1000000):Oh (Mo h c).1:=by
 have z0:Oh Lz:=⟨by simp [Lz],by simp [Lz],λc h=>by simp [Lz] at h⟩
 rw [Mo]
 by_cases h1:(C0 c&&Xr h.tm c.dy)=false
 ·rw [if_pos h1];exact z0
 ·rw [if_neg h1]
  by_cases h2:c.bk<Qu h
  ·rw [if_pos h2];exact z0
  ·rw [if_neg h2]
   by_cases h3:h.ch.length≥2000
   ·rw [if_pos h3];exact z0
   ·rw [if_neg h3]
    refine ⟨z.t,by simp;omega,λx hx=>?_⟩
    simp only [List.mem_append,List.mem_singleton] at hx
    rcases hx with hx|rfl
    ·exact z.c x hx
    ·exact hc
def nq (id bk:Int) (t:Tm):Bool:=decide (id<1) || decide (id>1000000000) || !(decide (bk≥1)&&decide (bk≤292194)) || !(Ow t)
def L7 (id bk:Int) (t:Tm):Hi×Int:=if nq id bk t=true then (Lz,1) else (⟨id,bk,t,[]⟩,0)
theorem sBind (id bk:Int) (t:Tm) (ht:t.cv.length≤1000000):Aj Tryz.prog 210 [.d (.int .i64 id),.d (.int .i64 bk),ie t] [] (.tup [Da (L7 id bk t).1,.d (.int .i64 (L7 id bk t).2)]) [] []:=by
 have ct:=Y1 t (by omega)
 have co:=ww t ht
 simp only [ie,uf] at ct co
 refine qP Tryz.func210 λc hP hfn=>?_;simp only [ie,uf,A0,↓A3,seval]
 repeat' first|(refine tq hP (h:=⟨_,λ_=>by first|exact sDay bk|exact ct|exact co,?_⟩);try simp only [A0,↓A3,seval])|refine ⟨λh=>?_,λh=>?_⟩|refine aX ?_|fail
 ·have e:L7 id bk t=(Lz,1):=by rw [L7,if_pos];rw [nq];exact h
  (refine rp (Ag.tups ?_);simp only [B8,A0,↓A3,seval])
  rw [e];exact ⟨Ew,Ag.refl _,trivial⟩
 ·have e:L7 id bk t=(⟨id,bk,t,[]⟩,0):=by rw [L7,if_neg];rw [nq,h];simp
  repeat' first|(refine tz hP co ?_;try simp only [A0,↓A3,seval])|refine ⟨λh=>?_,λh=>?_⟩|refine aX ?_|fail
  (refine rp (Ag.tups ?_);simp only [B8,A0,↓A3,seval])
  rw [e];exact ⟨Ag.ags ⟨Ag.refl _,Ag.refl _,Ag.refl _,Ag.refl _,Ag.refl _,Ag.refl _,Ag.refl _,Ag.refl _,Ag.refl _,C2,trivial⟩,Ag.refl _,trivial⟩
inductive K3 where
 |ac
 |fi
 |ty
def K3.sz:K3→Nat
 |.ac=>11
 |.fi=>7
 |.ty=>9
def K3.ix:K3→Nat
 |.ac=>77
 |.fi=>154
 |.ty=>93
def Bw (sz:Nat) (L:List (List D)):D:=.sl false sz L.length (λi=>L.getD i [])
def F0 (p:List D→Bool):Nat→List (List D)→Int
 |_,[]=>-1
 |k,x::r=>if p x=true then (k:Int) else F0 p (k+1) r
theorem Ls:∀ {x:List D} {n:Nat},x.length=n→takeDV x n=x.map .d
 |[],_,h=>by subst h;rfl
 |d::x,_,h=>by subst h;simp [takeDV,Ls (x:=x) rfl]
theorem W8 (κ:K3) (L:List (List D)) (hL:∀ x,x∈L→x.length=κ.sz) (g:Nat) (caps:List V) (hc:A5 caps=[]) (p:List D→Bool) (hg:∀ x,x∈L→Aj Tryz.prog g (.ag (x.map .d)::caps) [] (.d (.bool (p x))) [] []) (hl:L.length≤1000000) :
  Aj Tryz.prog κ.ix [.d (Bw κ.sz L),.fn (.func g) [] caps] [] (.d (.int .i64 (F0 p 0 L))) [] []:=by
 obtain ⟨S,hS⟩:∃ S,S=Bw κ.sz L:=⟨_,rfl⟩
 rw [←hS]
 cases κ<;>simp only [K3.sz,K3.ix,Bw] at hS hL ⊢
 all_goals
  first
   |refine qP Tryz.func77 (hna:=by simp [A5,V.names,hc]) λc hP hfn=>?_
   |refine qP Tryz.func154 (hna:=by simp [A5,V.names,hc]) λc hP hfn=>?_
   |refine qP Tryz.func93 (hna:=by simp [A5,V.names,hc]) λc hP hfn=>?_
  simp only [hS,A0,↓A3,seval]
  refine B4.loop (X:=Nat) (λk=>⟨[(0,.d S),(1,.fn (.func g) [] caps),(7,.d (.int .i64 L.length)),(8,.d (.int .i64 k))],[],[]⟩)
   (λk=>k≤L.length∧F0 p 0 L=F0 p k (L.drop k)) (λk=>L.length-k) 0 ⟨Nat.zero_le _,rfl⟩ (Wk.of [] hfn (by simp [V2,Ez,Ff,keysO,Hh,V.names,A5,hc]) (by simp only [hS,A7,A0,↓A3,seval]) (by simp only [A7,A0,↓A3,seval])) ?_
  rintro k ⟨hk,he⟩
  simp only [hS,A0,↓A3,seval]
  refine ⟨λh1=>?_,λh1=>?_⟩
  ·have hlt:k<L.length:=by simpa using h1
   obtain ⟨x,hd,hx,hm,-⟩:=Ae hlt
   have hxl:=hL x hm
   have hgx:=hg x hm
   rw [←Ls hxl] at hgx
   simp only [hx]
   rw [hd,F0] at he
   repeat' first|(refine tz hP hgx ?_;try simp only [A0,↓A3,seval])|refine ⟨λh=>?_,λh=>?_⟩|refine aX ?_|fail
   ·(refine rq ?_;first|exact ⟨⟩|rw [he,if_pos h])
   ·refine Al.on (k+1) ⟨hlt,?_⟩ (by omega) (Wk.of [] hfn (by simp [V2,Ez,Ff,keysO,Hh,V.names,A5,hc]) (by simp only [hS,A7,A0,↓A3,seval];exact wS (by omega)) (by simp only [A7,A0,↓A3,seval]))
    rw [he,h];simp
  ·have hkl:k=L.length:=by simp at h1;omega
   rw [hkl] at he
   (refine rq ?_;first|exact ⟨⟩|simp [he,F0])
def K3.el:K3→Nat
 |.ac=>96
 |.fi=>55
 |.ty=>73
def K3.cl:K3→Nat
 |.ac=>219
 |.fi=>256
 |.ty=>272
def Jm (e sz:Nat) (L:List (List D)):Go.Bx.Own:=.row e sz L.length (λi=>L.getD i [])
theorem Zz (κ:K3) (L:List (List D)) (hL:∀ x,x∈L→x.length=κ.sz) (hl:L.length≤1000000) :
  Aj Tryz.prog κ.cl [.d (Bw κ.sz L)] [] (.osl 900) [(900,Jm κ.el κ.sz L)] [900]:=by
 have hb:L.length*120≤140737488355328∧L.length≤maxLen:=⟨by omega,by simp only [maxLen];omega⟩
 obtain ⟨S,hS⟩:∃ S,S=Bw κ.sz L:=⟨_,rfl⟩
 obtain ⟨R,hR⟩:∃ R,R=Jm κ.el κ.sz L:=⟨_,rfl⟩
 obtain ⟨e,he⟩:∃ e,e=κ.el:=⟨_,rfl⟩
 obtain ⟨z,hz⟩:∃ z,z=κ.sz:=⟨_,rfl⟩
 rw [←hS,←hR]
 cases κ<;>simp only [K3.sz,K3.cl,K3.el,Bw,Jm] at hS hL hR he hz ⊢
 all_goals
  first
   |refine qO Tryz.func219 (hB:=by rw [hR];rfl) ?_
   |refine qO Tryz.func256 (hB:=by rw [hR];rfl) ?_
   |refine qO Tryz.func272 (hB:=by rw [hR];rfl) ?_
  intro c hP hfn
  simp only [hS,A5,V.names,A4,A0,↓A3,seval]
  refine ⟨λh=>?_,?_⟩
  ·have h0:L=[]:=List.eq_nil_of_length_eq_zero h
   subst h0
   refine rK (Wk.row0 (s:=2) (k:=900) (e:=e) (sz:=z) (f':=λi=>([]:List (List D)).getD i []) rfl rfl (by simp)) ?_
   simp only [hR,he,hz,A7,A0,↓A3,seval]
  ·repeat' first|refine ⟨λh=>?_,λh=>?_⟩|refine aX ?_|fail
   have hfn:c.fn=[]:=by rw [hfn,hS];rfl
   refine rK (Wk.sw 7 900 _ hfn (by simp) (by simp)) ?_
   simp only [hR,A7,A0,↓A3,seval]
end Go.Proofs.YtakohhkgeeoniaaGreat
end
section
namespace Go.Proofs.YtakohhkgeeoniaaGreat
open Go.Shelf Go.RowKit Go.Lib Go.Proofs Go.Bx
set_option maxRecDepth 10000
theorem N5 {P:Program} (w:World) (tS tR e:TypeId) (ht:P.underlying tS=some (.slice e)) (size:Nat) (hz:∀ w,(Go.sizeOf e).run P w=.ok size w)
  (a b:Addr) (la ca lb cb:Nat) (hne:a.block≠b.block) (tA tB:TypeId) (kA kB:Nat) (hsa:w.shape? a.block=some (tA,kA)) (hkA:kA≠0) (hsb:w.shape? b.block=some (tB,kB))
  (hfb:w.frozen? b=false) (hfe:w.frozen? { block:=b.block,off:=kB }=false) :
  (Extern.SlicesOverlaps.overlaps #[tS,tS] #[tR] #[.slice (some a) la ca,.slice (some b) lb cb]).run P w=.ok (.bool false) w:=by
 have hnb:(a.block != b.block)=true:=by simpa using hne
 have hnb':(a.block == b.block)=false:=by simpa using hne
 change Sem.run P (α:=Value) (do
  let some t:=(#[tS,tS]:Array TypeId)[0]?|stuck "slices.overlaps: no parameter types"
  let .slice elem ←underlying t|stuck "slices.overlaps: slice type expected"
  let size ←sizeOf elem
  match (some a:Option Addr),(some b:Option Addr) with
  |some a,some b =>
   if la=0∨lb=0∨size=0 then pure (Value.bool false)
   else if a.block != b.block&&(←frozen a)&&(←frozen b) then unsupported .addressObserved
   else do
    if a.block != b.block then do
     noView a;noView b
     if ←mayBeOne a b then return Value.bool ((←choose (.extern "sameAddr.stringBytes" 2)) == 1)
    pure (Value.bool (a.block == b.block&&a.off<b.off+lb*size&&b.off<a.off+la*size))
  |_,_=>pure (Value.bool false)) w=_
 by_cases h0:la=0∨lb=0∨size=0
 ·simp [run_underlying ht,hz,h0]
 ·cases kA with
  |zero=>exact absurd rfl hkA
  |succ kA =>
   cases h1:w.frozen? a<;>cases h2:w.frozen? { block:=a.block,off:=kA+1 } <;>
   simp [run_underlying ht,hz,h0,hnb,hnb',frozen,noView,viewAt,mayBeOne,stringish,shape,Sem.run,hsa,hsb,hfb,hfe,h1,h2]
def K3.sl:K3→Nat
 |.ac=>28
 |.fi=>29
 |.ty=>30
def K3.inF:K3→Nat
 |.ac=>218
 |.fi=>255
 |.ty=>271
def K3.ovF:K3→Nat
 |.ac=>224
 |.fi=>257
 |.ty=>274
theorem sizK (κ:K3):∀ w,(Go.sizeOf κ.el).run Tryz.prog w=.ok κ.sz w:=by
 cases κ
 ·exact Tryz.sizeOf96
 ·exact Tryz.sizeOf55
 ·exact Tryz.sizeOf73
theorem szBK (κ:K3):Hm Tryz.prog κ.el=some κ.sz:=by cases κ<;>kernel_rfl
theorem undK (κ:K3):Tryz.prog.underlying κ.sl=some (.slice κ.el):=by
 cases κ
 ·exact Tryz.underlying28
 ·exact Tryz.underlying29
 ·exact Tryz.underlying30
theorem k3z (κ:K3):0<κ.sz∧κ.sz≤11:=by cases κ<;>decide
theorem ovK (κ:K3) (w:World) (a b:Addr) (la ca lb cb:Nat) (hne:a.block≠b.block) (tA tB:TypeId) (kA kB:Nat) (hsa:w.shape? a.block=some (tA,kA)) (hkA:kA≠0) (hsb:w.shape? b.block=some (tB,kB))
  (hfb:w.frozen? b=false) (hfe:w.frozen? { block:=b.block,off:=kB }=false):(callFunc κ.ovF #[.slice (some a) la ca,.slice (some b) lb cb]).run Tryz.prog w=.ok (.value (.bool false)) w:=by
 have h:=N5 w κ.sl 4 κ.el (undK κ) κ.sz (sizK κ) a b la ca lb cb hne tA tB kA kB hsa hkA hsb hfb hfe
 cases κ<;>simp only [K3.sl] at h
 ·rw [K3.ovF,run_callFunc_extern Tryz.func224 (by kernel_rfl) (by kernel_rfl) (by kernel_rfl) (e:=Extern.SlicesOverlaps.overlaps #[28,28] #[4]) (by kernel_rfl),h];rfl
 ·rw [K3.ovF,run_callFunc_extern Tryz.func257 (by kernel_rfl) (by kernel_rfl) (by kernel_rfl) (e:=Extern.SlicesOverlaps.overlaps #[29,29] #[4]) (by kernel_rfl),h];rfl
 ·rw [K3.ovF,run_callFunc_extern Tryz.func274 (by kernel_rfl) (by kernel_rfl) (by kernel_rfl) (e:=Extern.SlicesOverlaps.overlaps #[30,30] #[4]) (by kernel_rfl),h];rfl
theorem zeroK (κ:K3):∃ t z,Tryz.prog.info? κ.el=some t∧t.zero=some z∧z.cells.size=κ.sz∧t.bytes≤128∧t.size=κ.sz:=by
 cases κ
 ·exact ⟨Tryz.t96,_,by kernel_rfl,rfl,rfl,by decide,rfl⟩
 ·exact ⟨Tryz.t55,_,by kernel_rfl,rfl,rfl,by decide,rfl⟩
 ·exact ⟨Tryz.t73,_,by kernel_rfl,rfl,rfl,by decide,rfl⟩
set_option maxRecDepth 100000 in
theorem qs (κ:K3) {z te:Nat} (hz:κ.sz=z) (he:κ.el=te) (b c i n vb vo vc:Nat) (cur:Array Value) (vs:List Value) (w:World) (hi:i<n) (hroom:n+1≤c) (hcm:c≤9223372036854775807) (hvb:vb≠b) (hb:w.heap[b]?=some (.cells cur te (0,0))) (hcz:cur.size=c*z) (hvl:vs.length=z)
  (hvs:∀ j v,vs[j]?=some v→w.cell? ⟨vb,vo+j,none⟩=some v) (h1c:∀ v∈cur.toList.take (n*z),v.oneCell'=true) (h1v:∀ v∈vs,v.oneCell'=true) :
  Calls Tryz.prog κ.inF #[.slice (some ⟨b,0,none⟩) n c,.int .i64 i,.slice (some ⟨vb,vo,none⟩) 1 vc] w λe w' =>
   e=.returned (.slice (some ⟨b,0,none⟩) (n+1) c)∧Aw (λx=>x=b) w w'∧∃ cur',w'.heap[b]?=some (.cells cur' te (0,0))∧cur'.size=c*z∧cur'.toList.take ((n+1)*z)=cur.toList.take (i*z)++vs++(cur.toList.take (n*z)).drop (i*z):=by
 have szb:Hm Tryz.prog te=some z:=hz▸he▸szBK κ
 have und:Tryz.prog.underlying κ.sl=some (.slice te):=he▸undK κ
 have hzz:0<z∧z≤11:=hz▸k3z κ
 have f1:(i+1)*z=i*z+z:=Nat.succ_mul i z
 have f2:(n+1)*z=n*z+z:=Nat.succ_mul n z
 have f3:n*z=i*z+(n-i)*z:=by rw [←Nat.add_mul,Nat.add_sub_cancel' (Nat.le_of_lt hi)]
 have f4:(n+1)*z≤c*z:=Nat.mul_le_mul_right z hroom
 obtain ⟨cs,hcs⟩:∃ cs,cs=(cur.toList.take (n*z)).drop (i*z):=⟨_,rfl⟩
 have hcl:cs.length=(n-i)*z:=by rw [hcs,List.length_drop,List.length_take,Array.length_toList];omega
 have hcell:∀ j v,cs[j]?=some v→w.cell? ⟨b,i*z+j,none⟩=some v:=λj v hj=>by
  rw [hcs,List.getElem?_drop] at hj
  have hlt:i*z+j<n*z:=by
   by_cases h:i*z+j<n*z
   ·exact h
   ·rw [List.getElem?_take_eq_none (by omega)] at hj;cases hj
  rw [List.getElem?_take_of_lt hlt,Array.getElem?_toList] at hj
  simp only [World.cell?,hb,hj];rfl
 have h1s:∀ v∈cs,v.oneCell'=true:=λv hv=>h1c v (List.mem_of_mem_drop (hcs▸hv))
 obtain ⟨v0,hv0⟩:∃ v0,vs[0]?=some v0:=⟨vs[0],List.getElem?_eq_getElem (by omega)⟩
 have hc0:=hvs 0 v0 hv0
 obtain ⟨tA,kA,hsa,hkA⟩:∃ tA kA,w.shape? vb=some (tA,kA)∧kA≠0:=by
  simp only [World.cell?] at hc0
  cases hh:w.heap[vb]? with
  |none=>rw [hh] at hc0;cases hc0
  |some o =>
   rw [hh] at hc0
   cases o with
   |cells cc tt fr =>
    simp at hc0
    refine ⟨tt,cc.size,by simp [World.shape?,hh],λh=>?_⟩
    have:=(Array.getElem?_eq_some_iff.1 hc0).1
    omega
   |_=>simp at hc0
 have hsb:w.shape? b=some (te,c*z):=by simp [World.shape?,hb,hcz]
 have hfr:∀ o,w.frozen? ⟨b,o,none⟩=false:=λo=>by simp [World.frozen?,hb]
 have hov:∀ lb cb,(callFunc κ.ovF #[.slice (some ⟨vb,vo,none⟩) 1 vc,.slice (some ⟨b,(i+1)*z,none⟩) lb cb]).run Tryz.prog w=.ok (.value (.bool false)) w:=λlb cb=>ovK κ w _ _ _ _ _ _ hvb tA _ kA _ hsa hkA hsb (hfr _) (hfr _)
 obtain ⟨A1,hA1⟩:∃ A1,A1=(cur.toList.take ((i+1)*z)++cs++cur.toList.drop ((i+1)*z+cs.length)).toArray:=⟨_,rfl⟩
 have hA1l:A1.size=c*z:=by rw [hA1];simp [hcl];omega
 obtain ⟨W1,hW1⟩:∃ W1,W1=w.drew.setRow b A1:=⟨_,rfl⟩
 have hcp1:∀ ty dc sc,(Builtin.copy_ #[κ.sl,κ.sl] ty #[.slice (some ⟨b,(i+1)*z,none⟩) (n-i) dc,.slice (some ⟨b,i*z,none⟩) (n+1-i) sc]).run Tryz.prog w.drew=.ok (goInt (n-i:Nat)) W1:=λty dc sc=>by
  have hm:Nat.min (n+1-i) (n-i)=n-i:=by simp only [Nat.min_def];split<;>omega
  have:=Dn w.drew κ.sl κ.sl ty te z b ((i+1)*z) (n-i) dc ⟨b,i*z,none⟩ (n+1-i) sc cur te cs und szb hb (by rw [hm,hcl,Nat.mul_comm])
   (λj v hj=>by rw [Addr.add_lit];exact hcell j v hj) (by rw [hcl,hcz];omega) h1s
  rw [hm,←hA1,←hW1] at this
  exact this
 have hb1:W1.heap[b]?=some (.cells A1 te (0,0)):=by rw [hW1];exact setRow_heap w.drew b cur A1 te _ hb
 have hk1:Aw (λx=>x=b) w W1:=by
  have h:=Cu w.drew b A1 (λx=>x=b) rfl
  rw [hW1];exact ⟨h.os,h.tape,h.output,h.size,h.block⟩
 obtain ⟨A2,hA2⟩:∃ A2,A2=(A1.toList.take (i*z)++vs++A1.toList.drop (i*z+vs.length)).toArray:=⟨_,rfl⟩
 have hcp2:∀ (W:World),W.heap=W1.heap→∀ ty dc,(Builtin.copy_ #[κ.sl,κ.sl] ty #[.slice (some ⟨b,i*z,none⟩) (n+1-i) dc,.slice (some ⟨vb,vo,none⟩) 1 vc]).run Tryz.prog W=.ok (goInt 1) (W.setRow b A2):=λW hW ty dc=>by
  have hm:Nat.min 1 (n+1-i)=1:=by simp only [Nat.min_def];split<;>omega
  have:=Dn W κ.sl κ.sl ty te z b (i*z) (n+1-i) dc ⟨vb,vo,none⟩ 1 vc A1 te vs und szb (by rw [hW];exact hb1) (by rw [hm,hvl,Nat.mul_one])
   (λj v hj=>by
    rw [Addr.add_lit]
    have:=hvs j v hj
    have hne:w.heap[vb]?=W.heap[vb]?:=by rw [hW,hW1];exact (setRow_other w.drew b vb A1 hvb).symm
    simp only [World.cell?,←hne] at this ⊢
    exact this) (by rw [hvl,hA1l];omega) h1v
  rw [hm,←hA2] at this
  exact this
 have hf:A2.size=c*z∧A2.toList.take ((n+1)*z)=cur.toList.take (i*z)++vs++cs:=by
  have hcl2:cur.toList.length=c*z:=by rw [Array.length_toList];exact hcz
  have e1:(cur.toList.take ((i+1)*z)).length=(i+1)*z:=by rw [List.length_take];omega
  have e2:A1.toList.take (i*z)=cur.toList.take (i*z):=by
   rw [hA1]
   simp only [List.append_assoc]
   rw [List.take_append_of_le_length (by rw [e1];omega),List.take_take,Nat.min_eq_left (by omega)]
  have e3:A1.toList.drop (i*z+z)=cs++cur.toList.drop ((i+1)*z+cs.length):=by
   rw [hA1]
   simp only [List.append_assoc]
   rw [List.drop_append,e1,List.drop_of_length_le (by rw [e1];omega),show i*z+z-(i+1)*z=0 by omega];simp
  constructor
  ·rw [hA2,List.size_toArray,List.length_append,List.length_append,List.length_take,List.length_drop,Array.length_toList,hA1l,hvl];omega
  ·have e4:(cur.toList.take (i*z)++vs++cs).length=(n+1)*z:=by rw [List.length_append,List.length_append,List.length_take,hcl2,hvl,hcl];omega
   rw [hA2,hvl,e2,e3]
   simp only
   rw [←List.append_assoc,List.take_append_of_le_length (by omega),List.take_of_length_le (by omega)]
 have hw1:IntKind.i64.wrap ((n:Int)+1)=(n:Int)+1:=by rw [IntKind.wrap_i64];omega
 have hw2:IntKind.i64.wrap ((i:Int)+1)=(i:Int)+1:=by rw [IntKind.wrap_i64];omega
 have hz2:¬ ((i:Int)=(n:Int)):=by omega
 have mixed:Tryz.prog.follows Departure.mixedOrders=true:=by kernel_rfl
 have hq1:(0:Int)≤(i:Int)+1:=by omega
 have hin:i≤n:=by omega
 have htn:((i:Int)+1).toNat=i+1:=by omega
 have hq2:¬ (c=i+1):=by omega
 have hq3:(i:Int)≤(n:Int)+1:=by omega
 have hq4:¬ (c=i):=by omega
 have hk:=Cu W1 b A2 (λx=>x=b) rfl
 have hr:=setRow_heap W1 b A1 A2 te _ hb1
 rw [←hcs]
 clear hA1 hA1l hA2 hcell h1s hcl hc0 hv0 hvs h1c h1v hsa hkA hsb hcs f1 f2 f3 f4 hb hb1 hcz hvl szb und hfr hW1
 subst hz he
 cases κ<;>simp only [K3.sz,K3.el,K3.sl,K3.inF,K3.ovF] at hov hcp1 hcp2 hr hf ⊢
 all_goals
  first
   |go_enter Tryz.func218,Tryz.ntmps218
   |go_enter Tryz.func255,Tryz.ntmps255
   |go_enter Tryz.func271,Tryz.ntmps271
  go_wp2_with (simp only [hov])
  go_region_law_o (refine step_copy_runI rfl _ _ _ _ rfl _ _ (by simp [Act.eval,Act.put]) (by simp [Act.eval,Act.put]) (hcp1 _ _ _) ?_)
  go_wp2_with (at_builtin;refine wpList_copy_runI _ rfl _ _ _ _ rfl _ _ rfl rfl (hcp2 _ rfl _ _) ?_)
  go_ret
  exact ⟨rfl,hk1.trans hk,A2,hr,hf.1,hf.2⟩
set_option maxRecDepth 100000 in
theorem ux (κ:K3) {z te:Nat} (hz:κ.sz=z) (he:κ.el=te) (b i n vb vo vc:Nat) (cur:Array Value) (vs:List Value) (w:World) (hi:i<n) (hn:n≤1000) (hvb:vb≠b) (hb:w.heap[b]?=some (.cells cur te (0,0))) (hcz:cur.size=n*z) (hvl:vs.length=z)
  (hvs:∀ j v,vs[j]?=some v→w.cell? ⟨vb,vo+j,none⟩=some v) (h1c:∀ v∈cur.toList.take (n*z),v.oneCell'=true) (h1v:∀ v∈vs,v.oneCell'=true) :
  Calls Tryz.prog κ.inF #[.slice (some ⟨b,0,none⟩) n n,.int .i64 i,.slice (some ⟨vb,vo,none⟩) 1 vc] w λe w' =>
   ∃ c',e=.returned (.slice (some ⟨w.heap.size,0,none⟩) (n+1) c')∧Aw (λ_=>False) w w'∧n+1≤c'∧c'≤maxLen∧∃ cur',w'.heap[w.heap.size]?=some (.cells cur' te (0,0))∧cur'.size=c'*z∧cur'.toList.take ((n+1)*z)=cur.toList.take (i*z)++vs++(cur.toList.take (n*z)).drop (i*z):=by
 have szb:Hm Tryz.prog te=some z:=hz▸he▸szBK κ
 have und:Tryz.prog.underlying κ.sl=some (.slice te):=he▸undK κ
 have hzz:0<z∧z≤11:=hz▸k3z κ
 have f1:(i+1)*z=i*z+z:=Nat.succ_mul i z
 have f2:(n+1)*z=n*z+z:=Nat.succ_mul n z
 have f3:n*z=i*z+(n-i)*z:=by rw [←Nat.add_mul,Nat.add_sub_cancel' (Nat.le_of_lt hi)]
 obtain ⟨ti,zv,B7,hze,hz9,hby,hts⟩:=zeroK κ
 rw [hz] at hz9 hts
 rw [he] at B7
 obtain ⟨cs,hcs⟩:∃ cs,cs=(cur.toList.take (n*z)).drop (i*z):=⟨_,rfl⟩
 have hcl:cs.length=(n-i)*z:=by rw [hcs,List.length_drop,List.length_take,Array.length_toList];omega
 have hcell:∀ j v,cs[j]?=some v→w.cell? ⟨b,i*z+j,none⟩=some v:=λj v hj=>by
  rw [hcs,List.getElem?_drop] at hj
  have hlt:i*z+j<n*z:=by
   by_cases h:i*z+j<n*z
   ·exact h
   ·rw [List.getElem?_take_eq_none (by omega)] at hj;cases hj
  rw [List.getElem?_take_of_lt hlt,Array.getElem?_toList] at hj
  simp only [World.cell?,hb,hj];rfl
 have h1s:∀ v∈cs,v.oneCell'=true:=λv hv=>h1c v (List.mem_of_mem_drop (hcs▸hv))
 have hbw:b<w.heap.size:=(Array.getElem?_eq_some_iff.1 hb).1
 have hvw:vb<w.heap.size:=block_lt_of_cell (hvs 0 _ (List.getElem?_eq_getElem (by omega)))
 obtain ⟨ol,hol⟩:∃ ol,ol=cur.toList.take (i*z):=⟨_,rfl⟩
 have holl:ol.length=i*z:=by rw [hol,List.length_take,Array.length_toList];omega
 have hkk:(n:Int)+1-(i:Int)=((n+1-i:Nat):Int):=by omega
 have hik:i+(n+1-i)=n+1:=by omega
 have hold:(Builtin.firstCells z i (.slice (some ⟨b,0,none⟩) i n)).run Tryz.prog w.drew=.ok ol.toArray w.drew:=
  run_firstCells_some w.drew z i ⟨b,0,none⟩ i n ol holl (λj v hj=>by
   rw [Addr.add_lit,hol] at *
   have hlt:j<i*z:=by
    by_cases h:j<i*z
    ·exact h
    ·rw [List.getElem?_take_eq_none (by omega)] at hj;cases hj
   rw [List.getElem?_take_of_lt hlt,Array.getElem?_toList] at hj
   show w.cell? _=_
   simp only [World.cell?,hb,Nat.zero_add,hj];rfl)
 have hrz:∀ ty,(Builtin.append_ #[κ.sl,3] ty #[.slice (some ⟨b,0,none⟩) i n,.int .i64 ((n:Int)+1-(i:Int))]).run Tryz.prog w =
   .ok (.slice (some ⟨w.heap.size,0,none⟩) (n+1) (grownCap w (n+1) n te)) (w.drew.alloc (.cells (ol.toArray++Builtin.zeroCells zv.cells (n+1-i)++Builtin.zeroCells zv.cells (grownCap w (n+1) n te-(n+1))) te)):=λty=>by
  have h:=Lib.run_append_grow_zeros w κ.sl 3 ty te ti _ .i64 .i64 und Tryz.underlying3 B7 hze (some ⟨b,0,none⟩) i n ol (by rw [hts];exact hold) (n+1-i) (by omega) (by omega) (by omega) (by omega) (Nat.le_trans (Nat.mul_le_mul (Nat.le_refl _) hby) (by omega)) (by rw [hik];exact growslice_fits (by omega) (Nat.le_trans (Nat.mul_le_mul (Nat.le_refl _) hby) (by omega)))
  rw [hik] at h
  rw [hkk]
  exact h
 obtain ⟨G,hG⟩:∃ G,G=grownCap w (n+1) n te:=⟨_,rfl⟩
 obtain ⟨ROW,hROW⟩:∃ ROW:Array Value,ROW=ol.toArray++Builtin.zeroCells zv.cells (n+1-i)++Builtin.zeroCells zv.cells (G-(n+1)):=⟨_,rfl⟩
 rw [←hG] at hrz
 rw [←hROW] at hrz
 have hGn:n+1≤G:=by rw [hG];exact grownCap_ge w _ _ _
 have hGm:G≤maxLen:=by rw [hG];exact grownCap_le_maxLen w (n+1) n te (by unfold maxLen;omega)
 have f4:(n+1)*z≤G*z:=Nat.mul_le_mul_right z hGn
 have f5:i*z+(n+1-i)*z+(G-(n+1))*z=G*z:=by rw [←Nat.add_mul,←Nat.add_mul];congr 1;omega
 have hRl:ROW.size=G*z:=by
  rw [hROW,Array.size_append,Array.size_append,size_zeroCells,size_zeroCells,hz9,List.size_toArray,holl];omega
 obtain ⟨W1,hW1⟩:∃ W1,W1=w.drew.alloc (.cells ROW te):=⟨_,rfl⟩
 rw [←hW1] at hrz
 have hN1:W1.heap[w.heap.size]?=some (.cells ROW te (0,0)):=by
  rw [hW1];show (w.heap.push _)[w.heap.size]?=_;exact Array.getElem?_push_size
 have hO1:∀ x,x<w.heap.size→W1.heap[x]?=w.heap[x]?:=λx hx=>by rw [hW1];exact heap_alloc_old w.drew _ hx
 have hk1:Aw (λ_=>False) w W1:=by rw [hW1];exact D7 _ w _
 obtain ⟨A1,hA1⟩:∃ A1,A1=(ROW.toList.take (i*z)++vs++ROW.toList.drop (i*z+vs.length)).toArray:=⟨_,rfl⟩
 have hA1l:A1.size=G*z:=by rw [hA1,List.size_toArray,List.length_append,List.length_append,List.length_take,List.length_drop,Array.length_toList,hRl,hvl];omega
 have hcpA:∀ (W:World),W.heap=W1.heap→∀ ty dc,(Builtin.copy_ #[κ.sl,κ.sl] ty #[.slice (some ⟨w.heap.size,i*z,none⟩) (n+1-i) dc,.slice (some ⟨vb,vo,none⟩) 1 vc]).run Tryz.prog W=.ok (goInt 1) (W.setRow w.heap.size A1):=λW hW ty dc=>by
  have hm:Nat.min 1 (n+1-i)=1:=by simp only [Nat.min_def];split<;>omega
  have:=Dn W κ.sl κ.sl ty te z w.heap.size (i*z) (n+1-i) dc ⟨vb,vo,none⟩ 1 vc ROW te vs und szb (by rw [hW];exact hN1) (by rw [hm,hvl,Nat.mul_one])
   (λj v hj=>by
    rw [Addr.add_lit]
    have:=hvs j v hj
    have hne:w.heap[vb]?=W.heap[vb]?:=by rw [hW,hO1 vb hvw]
    simp only [World.cell?,←hne] at this ⊢
    exact this) (by rw [hvl,hRl];omega) h1v
  rw [hm,←hA1] at this
  exact this
 obtain ⟨A2,hA2⟩:∃ A2,A2=(A1.toList.take ((i+1)*z)++cs++A1.toList.drop ((i+1)*z+cs.length)).toArray:=⟨_,rfl⟩
 obtain ⟨W2,hW2⟩:∃ W2,W2=W1.setRow w.heap.size A1:=⟨_,rfl⟩
 have hN2:W2.heap[w.heap.size]?=some (.cells A1 te (0,0)):=by rw [hW2];exact setRow_heap W1 _ ROW A1 te _ hN1
 have hO2:∀ x,x<w.heap.size→W2.heap[x]?=w.heap[x]?:=λx hx=>by rw [hW2,setRow_other W1 _ x A1 (by omega),hO1 x hx]
 have hcpB:∀ (W:World),W.heap=W2.heap→∀ ty dc sc,(Builtin.copy_ #[κ.sl,κ.sl] ty #[.slice (some ⟨w.heap.size,(i+1)*z,none⟩) (n-i) dc,.slice (some ⟨b,i*z,none⟩) (n-i) sc]).run Tryz.prog W=.ok (goInt (n-i:Nat)) (W.setRow w.heap.size A2):=λW hW ty dc sc=>by
  have hm:Nat.min (n-i) (n-i)=n-i:=by simp only [Nat.min_def];split<;>omega
  have:=Dn W κ.sl κ.sl ty te z w.heap.size ((i+1)*z) (n-i) dc ⟨b,i*z,none⟩ (n-i) sc A1 te cs und szb (by rw [hW];exact hN2) (by rw [hm,hcl,Nat.mul_comm])
   (λj v hj=>by
    rw [Addr.add_lit]
    have:=hcell j v hj
    have hne:w.heap[b]?=W.heap[b]?:=by rw [hW,hO2 b hbw]
    simp only [World.cell?,←hne] at this ⊢
    exact this) (by rw [hcl,hA1l];omega) h1s
  rw [hm,←hA2] at this
  exact this
 have hf:A2.size=G*z∧A2.toList.take ((n+1)*z)=ol++vs++cs:=by
  have hRL:ROW.toList.length=G*z:=by rw [Array.length_toList];exact hRl
  have hAL:A1.toList.length=G*z:=by rw [Array.length_toList];exact hA1l
  have e2:ROW.toList.take (i*z)=ol:=by
   rw [hROW]
   simp only [Array.toList_append,List.append_assoc]
   rw [List.take_append_of_le_length (by rw [holl];omega),List.take_of_length_le (by rw [holl];omega)]
  have e3:A1.toList.take ((i+1)*z)=ol++vs:=by
   rw [hA1,e2]
   rw [List.take_append_of_le_length (by simp [holl,hvl];omega),List.take_of_length_le (by simp [holl,hvl];omega)]
  constructor
  ·rw [hA2,List.size_toArray,List.length_append,List.length_append,List.length_take,List.length_drop,Array.length_toList,hA1l,hcl];omega
  ·have e4:(ol++vs++cs).length=(n+1)*z:=by rw [List.length_append,List.length_append,holl,hvl,hcl];omega
   rw [hA2,e3,List.take_append_of_le_length (by omega),List.take_of_length_le (by omega)]
 have hw1:IntKind.i64.wrap ((n:Int)+1)=(n:Int)+1:=by rw [IntKind.wrap_i64];omega
 have hw2:IntKind.i64.wrap ((i:Int)+1)=(i:Int)+1:=by rw [IntKind.wrap_i64];omega
 have hw3:IntKind.i64.wrap ((n:Int)+1-(i:Int))=(n:Int)+1-(i:Int):=by rw [IntKind.wrap_i64];omega
 have hz2:¬ ((i:Int)=(n:Int)):=by omega
 have mixed:Tryz.prog.follows Departure.mixedOrders=true:=by kernel_rfl
 have hq1:(0:Int)≤(i:Int)+1:=by omega
 have hin:i≤n:=by omega
 have htn:((i:Int)+1).toNat=i+1:=by omega
 have hq2:¬ (n=i):=by omega
 have hq3:(i:Int)≤(n:Int)+1:=by omega
 have hq4:¬ (G=i):=by omega
 have hq5:¬ (G=i+1):=by omega
 have hG63:G≤9223372036854775807:=by unfold maxLen at hGm;omega
 rw [←hcs,←hol]
 obtain ⟨W3,hW3,hh⟩:∃ W3,W3=((w.alloc (.cells ROW te)).drew.setRow w.heap.size A1).drew∧W3.heap=W2.heap:=⟨_,rfl,by rw [hW2,hW1];rfl⟩
 have hr:=setRow_heap W3 w.heap.size A1 A2 te _ (by rw [hh];exact hN2)
 have hlt:=(Array.getElem?_eq_some_iff.1 hN2).1
 have hK:Aw (λ_=>False) w (W3.setRow w.heap.size A2):=⟨by rw [hW3];rfl,by rw [hW3];rfl,by rw [hW3];rfl,by have:=(Array.getElem?_eq_some_iff.1 hr).1;omega,λx hx _=>by rw [setRow_other W3 _ x A2 (by omega),hh];exact hO2 x hx⟩
 clear hkk hik hold hA1 hA1l hA2 hcell h1s hcl hvs h1c h1v hROW hG hRl hcs hol holl hb hcz hvl szb und f1 f2 f3 f4 f5 B7 hze hz9 hby
 subst hz he
 cases κ<;>simp only [K3.sz,K3.el,K3.sl,K3.inF,K3.ovF] at hcpA hcpB hrz hW1 hW3 hr hf ⊢
 all_goals
  first
   |go_enter Tryz.func218,Tryz.ntmps218
   |go_enter Tryz.func255,Tryz.ntmps255
   |go_enter Tryz.func271,Tryz.ntmps271
  go_wp2_with (first
   |(at_builtin;refine Lib.wpList_append_run _ rfl _ _ _ _ rfl _ _ rfl rfl _ _ (hrz _) ?_)
   |(at_builtin;refine wpList_copy_runI _ rfl _ _ _ _ rfl _ _ rfl rfl (hcpA _ rfl _ _) ?_)
   |(at_builtin;refine wpList_copy_runI _ rfl _ _ _ _ rfl _ _ rfl rfl (hcpB _ rfl _ _ _) ?_))
  go_region_law_o (refine step_copy_runI rfl _ _ _ _ rfl (.slice (some ⟨w.heap.size,_,none⟩) (n-i) (G-(i+1))) (.slice (some ⟨b,_,none⟩) (n-i) (n-i)) (by simp [Act.eval,Act.put]) (by simp [Act.eval,Act.put]) (hcpB _ (by rw [hW2,hW1];rfl) _ _ _) ?_)
  go_wp2
  go_ret
  rw [←hW3]
  exact ⟨G,rfl,hK,hGn,hGm,A2,hr,hf.1,hf.2⟩
end Go.Proofs.YtakohhkgeeoniaaGreat
end
section
namespace Go.Proofs.YtakohhkgeeoniaaGreat
open Go.Bx
set_option maxRecDepth 10000
def Lr (l:List (List D)) (k:Nat) (v:List D):List (List D):=l.take k++v::l.drop k
theorem Vg {l:List (List D)} {k:Nat} {v:List D} (h:k≤l.length):(Lr l k v).length=l.length+1:=by simp [Lr];omega
theorem Wv {l:List (List D)} {k:Nat} {v:List D} (h:k≤l.length) (i:Nat):(Lr l k v).getD i []=if i<k then l.getD i [] else if i=k then v else l.getD (i-1) []:=by
 have hk:(l.take k).length=k:=by rw [List.length_take];omega
 simp only [Lr,List.getD_eq_getElem?_getD]
 by_cases h1:i<k
 ·rw [if_pos h1,List.getElem?_append_left (by omega),List.getElem?_take_of_lt h1]
 ·rw [if_neg h1,List.getElem?_append_right (by omega),hk]
  by_cases h2:i=k
  ·subst h2;simp
  ·rw [if_neg h2]
   obtain ⟨j,hj⟩:∃ j,i-k=j+1:=⟨i-k-1,by omega⟩
   rw [hj,List.getElem?_cons_succ,List.getElem?_drop]
   rw [show k+j=i-1 by omega]
theorem sInsLo (κ:K3) {z te:Nat} (hz:κ.sz=z) (he:κ.el=te) (l:List (List D)) (v:List D) (k:Nat) (hL:∀ y,y∈l→y.length=z) (hv0:v.length=z) (hk:k<l.length) (hl:l.length≤1000) :
  Aj Tryz.prog κ.inF [.osl 900,.d (.int .i64 (k:Int)),.d (.sl true z 1 (litRow z v))] [(900,Jm te z l)] (.osl 7) [(7,Jm te z (Lr l k v))] [7]:=by
 have hzz:0<z∧z≤11:=hz▸k3z κ
 refine ⟨by cases κ<;>kernel_rfl,by simp [keysO],by simp [keysO],λE0 β w vals hE hsz hv hins hnn=>?_⟩
 obtain ⟨s,iv,u,rfl⟩:∃ s iv u,vals=#[s,iv,u]:=by
  match vals,hsz with
  |⟨[s,iv,u]⟩,_=>exact ⟨s,iv,u,rfl⟩
 have h1:=hv 0 s (.osl 900) rfl rfl
 have h2:=hv 1 iv _ rfl rfl
 have h3:=hv 2 u _ rfl rfl
 obtain rfl:iv=.int .i64 (k:Int):=by
  cases h2 with
  |d _ _ h=>cases h;rfl
 obtain ⟨s',xs,q1,⟨hx,hrow⟩,hlen,hcell⟩:=hins.ok 900 (Jm te z l) (by simp)
 obtain rfl:s=s':=by
  cases h1 with
  |osl k u h _=>rw [h] at q1;injection q1
 rcases hrow with ⟨-,h0⟩|⟨g,cap,cur,rfl,hc0,hheap,hn,hcm,hcs,htake⟩
 ·omega
 have h7:β 7=none:=hnn 7 (by simp)
 have hbk:β.blk 900=some g:=by simp [A6.blk,q1,B0];omega
 have hg:g<w.heap.size:=(Array.getElem?_eq_some_iff.1 hheap).1
 obtain ⟨E,hEo⟩:∃ E,E=Eo E0 β [(900,Jm te z l)]:=⟨_,rfl⟩
 rw [←hEo] at h3 hcell
 have hEg:E g:=by rw [hEo];exact .inr ⟨900,by simp [keysO],hbk⟩
 obtain ⟨vb,vo,vc,gg,rfl,hgg⟩:∃ vb vo vc,∃ gg:Nat→Value,u=.slice (some ⟨vb,vo,none⟩) 1 vc∧∀ j,j<z→(¬ E vb∧w.cell? ⟨vb,vo+j,none⟩=some (gg j))∧∀ x,v[j]?=some x→Cg E w (gg j) x:=by
  cases h3 with
  |d _ _ h =>
   cases h with
   |sl full sz n f b off c g hc hf hl hcell hrel =>
    refine ⟨b,off,c,λj=>g 0 j,rfl,λj hj=>⟨?_,λx hx=>hrel 0 j (by decide) hj x ?_⟩⟩
    ·have:=hcell 0 j (by decide) hj
     rwa [Nat.zero_mul,Nat.zero_add] at this
    ·have:litRow z v 0=v:=by rw [litRow,Nat.zero_mul,List.drop_zero,←hv0,List.take_length]
     rw [this];exact hx
 have hvb:vb≠g:=λe=>(hgg 0 hzz.1).1.1 (e▸hEg)
 obtain ⟨vs,hvs⟩:∃ vs,vs=(List.range z).map gg:=⟨_,rfl⟩
 have hvl:vs.length=z:=by rw [hvs];simp
 have hvg:∀ j x,vs[j]?=some x→j<z∧x=gg j:=λj x h=>by
  have hj:j<z:=by
   have:=(List.getElem?_eq_some_iff.1 h).1;omega
  rw [hvs,List.getElem?_map,List.getElem?_range hj] at h
  exact ⟨hj,by injection h with h;exact h.symm⟩
 have hvc:∀ j x,vs[j]?=some x→w.cell? ⟨vb,vo+j,none⟩=some x:=λj x h=>by
  obtain ⟨h1,rfl⟩:=hvg j x h
  exact (hgg j h1).1.2
 have h1v:∀ x,x∈vs→x.oneCell'=true:=λx hx=>by
  obtain ⟨j,h1,h2⟩:=List.getElem_of_mem hx
  obtain ⟨h3,rfl⟩:=hvg j x (by rw [List.getElem?_eq_getElem h1,h2])
  obtain ⟨y,hy⟩:∃ y,v[j]?=some y:=⟨v[j]'(by omega),List.getElem?_eq_getElem _⟩
  exact ((hgg j h3).2 y hy).one
 have h1c:∀ x,x∈cur.toList.take (l.length*z)→x.oneCell'=true:=λx hx=>by
  rw [htake] at hx
  obtain ⟨t,h1,h2⟩:=List.getElem_of_mem hx
  have hm:=Nat.mod_lt t hzz.1
  have hd:t / z<l.length:=Nat.div_lt_of_lt_mul (by rw [Nat.mul_comm];omega)
  obtain ⟨y,hy⟩:∃ y,(l.getD (t / z) [])[t % z]?=some y:=⟨(l.getD (t / z) [])[t % z]'(by rw [List.getD_eq_getElem?_getD,List.getElem?_eq_getElem hd];simp only [Option.getD_some];rw [hL _ (List.getElem_mem hd)];exact hm),List.getElem?_eq_getElem _⟩
  obtain ⟨u,g1,g2⟩:=hcell (t / z) (t % z) hd hm y hy
  rw [Nat.div_add_mod',List.getElem?_eq_getElem h1,h2] at g1
  injection g1 with g1
  rw [g1];exact g2.one
 have main:Calls Tryz.prog κ.inF #[.slice (some ⟨g,0,none⟩) l.length cap,.int .i64 (k:Int),.slice (some ⟨vb,vo,none⟩) 1 vc] w λe w' =>
   ∃ g' c' cur',e=.returned (.slice (some ⟨g',0,none⟩) (l.length+1) c')∧Aw (λx=>x=g) w w'∧(g'=g∨g'=w.heap.size)∧l.length+1≤c'∧c'≤maxLen∧w'.heap[g']?=some (.cells cur' te (0,0))∧cur'.size=c'*z∧cur'.toList.take ((l.length+1)*z)=cur.toList.take (k*z)++vs++(cur.toList.take (l.length*z)).drop (k*z):=by
  by_cases hroom:l.length+1≤cap
  ·refine (qs κ hz he g cap k l.length vb vo vc cur vs w hk hroom (by unfold maxLen at hcm;omega) hvb hheap hcs hvl hvc h1c h1v).mono ?_
   rintro e w' ⟨rfl,hK,cur',q2,q3,q4⟩
   exact ⟨g,cap,cur',rfl,hK,.inl rfl,hroom,hcm,q2,q3,q4⟩
  ·obtain rfl:cap=l.length:=by omega
   refine (ux κ hz he g k l.length vb vo vc cur vs w hk hl hvb hheap hcs hvl hvc h1c h1v).mono ?_
   rintro e w' ⟨c',rfl,hK,q5,q6,cur',q2,q3,q4⟩
   exact ⟨_,c',cur',rfl,hK.mono (λx h=>h.elim),.inr rfl,q5,q6,q2,q3,q4⟩
 refine main.mono ?_
 clear main
 rintro e w' ⟨g',c',cur',rfl,hK,hg',p1,p2,p3,p4,p5⟩
 rw [htake] at p5
 have f0:k*z≤l.length*z:=Nat.mul_le_mul_right z (Nat.le_of_lt hk)
 have f9:(l.length+1)*z≤c'*z:=Nat.mul_le_mul_right z p1
 have p6:cur.toList.take (k*z)=xs.take (k*z):=by rw [←htake,List.take_take,Nat.min_eq_left (by omega)]
 rw [p6] at p5
 have hin:=Vg (v:=v) (Nat.le_of_lt hk)
 obtain ⟨β',hβ'⟩:∃ β':A6,β'=λk=>if k=7 then some (.slice (some ⟨g',0,none⟩) (l.length+1) c') else β k:=⟨_,rfl⟩
 have hb7:β' 7=some (.slice (some ⟨g',0,none⟩) (l.length+1) c'):=by rw [hβ'];simp
 have hbk7:β'.blk 7=some g':=by simp [A6.blk,hb7,B0];omega
 have hE':∀ x,Eo E0 β' [(7,Jm te z (Lr l k v))] x→E0 x∨x=g':=λx h=>by
  rcases h with h|⟨j,h1,h2⟩
  ·exact .inl h
  ·obtain rfl:j=7:=by simpa [keysO] using h1
   rw [hbk7] at h2;injection h2 with h2;exact .inr h2.symm
 have hL':B5 E (Eo E0 β' [(7,Jm te z (Lr l k v))]) w w':=λx hx hxE=>by
  have hxg:x≠g:=λe=>hxE (e▸hEg)
  refine ⟨λh=>?_,hK.block x hx hxg⟩
  rcases hE' x h with h|h
  ·exact hxE (by rw [hEo];exact .inl h)
  ·rcases hg' with e|e
   ·exact hxg (h.trans e)
   ·omega
 have hg0:¬ E0 g':=by
  rcases hg' with e|e
  ·rw [e];exact (hins.lt 900 (by simp [keysO]) g hbk).2
  ·intro h;have:=hE _ h;omega
 have hgw:g'<w'.heap.size:=(Array.getElem?_eq_some_iff.1 p3).1
 refine ⟨_,β',rfl,λj x h=>?_,λj hj=>?_,.osl _ _ hb7 rfl,⟨λj o hm=>?_,by simp [keysO],λj j' h1 h2 hne=>?_,λj hj b hb=>?_⟩,hK.mono (λx e=>⟨900,by simp [keysO],by rw [e];exact hbk⟩),λj hj b hb=>?_⟩
 ·rw [hβ']
  simp only
  rw [if_neg]
  ·exact h
  ·rintro rfl;rw [h7] at h;cases h
 ·rw [hβ'];exact if_neg (by simpa using hj)
 ·simp only [List.mem_singleton,Prod.mk.injEq] at hm
  obtain ⟨rfl,rfl⟩:=hm
  refine ⟨_,cur'.toList.take ((l.length+1)*z),hb7,⟨?_,.inr ⟨g',c',cur',by rw [hin],by omega,p3,by rw [hin];exact p1,p2,p4,by rw [hin]⟩⟩,λi hi=>?_,λi j hi hj x hx'=>?_⟩
  ·have e:cur'.toList.length=c'*z:=by rw [Array.length_toList];exact p4
   rw [List.length_take,e,hin];omega
  ·rw [hin] at hi
   simp only [Wv (Nat.le_of_lt hk)]
   split
   ·rw [List.getD_eq_getElem?_getD,List.getElem?_eq_getElem (by omega)];exact hL _ (List.getElem_mem _)
   ·split
    ·exact hv0
    ·rw [List.getD_eq_getElem?_getD,List.getElem?_eq_getElem (show i-1<l.length by omega)];exact hL _ (List.getElem_mem _)
  ·rw [hin] at hi
   rw [p5]
   simp only [Wv (Nat.le_of_lt hk)] at hx'
   have f1:l.length*z=k*z+(l.length-k)*z:=by rw [←Nat.add_mul,Nat.add_sub_cancel' (Nat.le_of_lt hk)]
   have hxt:(xs.take (k*z)).length=k*z:=by rw [List.length_take];omega
   by_cases c1:i<k
   ·rw [if_pos c1] at hx'
    have f2:(i+1)*z≤k*z:=Nat.mul_le_mul_right z c1
    rw [Nat.succ_mul] at f2
    obtain ⟨y,g1,g2⟩:=hcell i j (by omega) hj x hx'
    refine ⟨y,?_,g2.lasts hL'⟩
    rw [List.append_assoc,List.getElem?_append_left (by omega),List.getElem?_take_of_lt (by omega)]
    exact g1
   ·rw [if_neg c1] at hx'
    by_cases c2:i=k
    ·rw [if_pos c2] at hx'
     subst c2
     refine ⟨gg j,?_,((hgg j hj).2 x hx').lasts hL'⟩
     rw [List.append_assoc,List.getElem?_append_right (by omega),hxt,List.getElem?_append_left (by omega),show i*z+j-i*z=j by omega,hvs,List.getElem?_map,List.getElem?_range hj]
     rfl
    ·rw [if_neg c2] at hx'
     obtain ⟨m,rfl⟩:∃ m,i=k+m+1:=⟨i-k-1,by omega⟩
     have f2:(k+m+1)*z=k*z+m*z+z:=by rw [Nat.succ_mul,Nat.add_mul]
     have f3:(k+m)*z=k*z+m*z:=Nat.add_mul k m z
     obtain ⟨y,g1,g2⟩:=hcell (k+m) j (by omega) hj x hx'
     refine ⟨y,?_,g2.lasts hL'⟩
     rw [List.append_assoc,List.getElem?_append_right (by omega),hxt,List.getElem?_append_right (by omega),hvl,List.getElem?_drop,show k*z+((k+m+1)*z+j-k*z-z)=(k+m)*z+j by omega]
     exact g1
 ·simp [keysO] at h1 h2;omega
 ·obtain rfl:j=7:=by simpa [keysO] using hj
  rw [hbk7] at hb;injection hb with hb;subst hb
  exact ⟨hgw,hg0⟩
 ·obtain rfl:j=7:=by simpa [keysO] using hj
  rw [hbk7] at hb;injection hb with hb;subst hb
  rcases hg' with e|e
  ·exact .inr ⟨900,by simp [keysO],by rw [e];exact hbk⟩
  ·exact .inl (by omega)
def Nt (h:Nat):Go.Bx.Own:=.fix [.fn (.func h) [] []]
theorem ye (κ:K3) (L:List (List D)) (hL:∀ x,x∈L→x.length=κ.sz) (g h:Nat) (ds:List D) (p:List D→Bool) (hg:∀ x,x∈L→Aj Tryz.prog g [.ag (x.map .d),.own 901 0,.mem ds] [(901,Nt h)] (.d (.bool (p x))) [(901,Nt h)] []) (hl:L.length≤1000000) :
  Aj Tryz.prog κ.ix [.d (Bw κ.sz L),.fn (.func g) [] [.own 901 0,.mem ds]] [(901,Nt h)] (.d (.int .i64 (F0 p 0 L))) [(901,Nt h)] []:=by
 obtain ⟨S,hS⟩:∃ S,S=Bw κ.sz L:=⟨_,rfl⟩
 rw [←hS]
 cases κ<;>simp only [K3.sz,K3.ix,Bw] at hS hL ⊢
 all_goals
  first
   |refine qO Tryz.func77 ?_
   |refine qO Tryz.func154 ?_
   |refine qO Tryz.func93 ?_
  intro c hP hfn
  simp only [hS,Nt,A5,V.names,A4,A0,↓A3,seval]
  refine B4.loop (X:=Nat) (λk=>⟨[(0,.d S),(1,.fn (.func g) [] [.own 901 0,.mem ds]),(7,.d (.int .i64 L.length)),(8,.d (.int .i64 k))],[(901,Nt h)],[901]⟩)
   (λk=>k≤L.length∧F0 p 0 L=F0 p k (L.drop k)) (λk=>L.length-k) 0 ⟨Nat.zero_le _,rfl⟩ (Wk.of _ hfn rfl (by simp only [hS,A7,A0,↓A3,seval]) (by simp only [Nt,A7,A0,↓A3,seval])) ?_
  rintro k ⟨hk,he⟩
  simp only [hS,Nt,A0,↓A3,seval]
  refine ⟨λh1=>?_,λh1=>?_⟩
  ·have hlt:k<L.length:=by simpa using h1
   obtain ⟨x,hd,hx,hm,-⟩:=Ae hlt
   have hxl:=hL x hm
   have hgx:=hg x hm
   rw [←Ls hxl] at hgx
   simp only [hx]
   rw [hd,F0] at he
   repeat' first|refine ⟨λh=>?_,λh=>?_⟩|refine aX ?_|fail
   refine TR.cv1 hP rfl hgx trivial (by repeat' first|exact trivial|(intro _;assumption)|apply And.intro) rfl ?_
   simp only [Nt,A0,↓A3,seval]
   repeat' first|refine ⟨λh=>?_,λh=>?_⟩|refine aX ?_|fail
   ·rw [he,if_pos h]
    exact rK (Wk.refl _ _) (by simp only [Nt,A7,A0,↓A3,seval])
   ·refine Al.on (k+1) ⟨hlt,?_⟩ (by omega) (Wk.of _ hfn rfl (by simp only [hS,A7,A0,↓A3,seval];exact wS (by omega)) (by simp only [Nt,A7,A0,↓A3,seval]))
    rw [he,h];simp
  ·have hkl:k=L.length:=by simp at h1;omega
   rw [hkl] at he
   rw [he,List.drop_length,F0]
   repeat' first|refine ⟨λh=>?_,λh=>?_⟩|refine aX ?_|fail
   exact rK (Wk.refl _ _) (by simp only [Nt,A7,A0,↓A3,seval])
theorem Mi:∀ {x:List D} {n:Nat},x.length=n+1→∃ a y,x=a::y∧y.length=n
 |a::y,n,h=>⟨a,y,rfl,Nat.succ.inj h⟩
def K3.idF:K3→Nat
 |.ac=>213
 |.fi=>252
 |.ty=>264
def K3.p1:K3→Nat
 |.ac=>217
 |.fi=>254
 |.ty=>270
theorem us (κ:K3) (n:Int) (r:List D) (hr:r.length+1=κ.sz):Aj Tryz.prog κ.idF [.ag ((D.int .i64 n::r).map .d)] [] (.d (.int .i64 n)) [] []:=by
 cases κ<;>simp only [K3.sz,K3.idF] at hr ⊢
 all_goals
  replace hr:=Nat.succ.inj hr
  repeat (obtain ⟨_,_,e,_⟩:=Mi hr;clear hr;subst e;rename_i r hr)
  obtain rfl:=List.eq_nil_of_length_eq_zero hr
  first
   |refine qP Tryz.func213 λc hP hfn=>?_
   |refine qP Tryz.func252 λc hP hfn=>?_
   |refine qP Tryz.func264 λc hP hfn=>?_
  simp only [List.map,A0,↓A3,seval]
  repeat' first|refine ⟨λh=>?_,λh=>?_⟩|refine aX ?_|fail
  exact rr
theorem sPl1 (κ:K3) (n m:Int) (r q:List D) (hr:r.length+1=κ.sz) (hq:q.length+1=κ.sz):Aj Tryz.prog κ.p1 [.ag ((D.int .i64 n::r).map .d),.own 901 0,.mem (.int .i64 m::q)] [(901,Nt κ.idF)] (.d (.bool (decide (n>m)))) [(901,Nt κ.idF)] []:=by
 have c1:=us κ n r hr
 have c2:=us κ m q hq
 cases κ<;>simp only [K3.sz,K3.idF,K3.p1,Nt] at hr hq c1 c2 ⊢
 all_goals
  replace hr:=Nat.succ.inj hr
  replace hq:=Nat.succ.inj hq
  repeat (obtain ⟨_,_,e,_⟩:=Mi hr;clear hr;subst e;rename_i r hr)
  repeat (obtain ⟨_,_,e,_⟩:=Mi hq;clear hq;subst e;rename_i q hq)
  obtain rfl:=List.eq_nil_of_length_eq_zero hr
  obtain rfl:=List.eq_nil_of_length_eq_zero hq
  first
   |refine qO Tryz.func217 ?_
   |refine qO Tryz.func254 ?_
   |refine qO Tryz.func270 ?_
  intro c hP hfn
  simp only [List.map] at c1 c2
  simp only [List.map,A5,V.names,A4,A0,↓A3,seval]
  repeat' first|(refine tq hP (h:=⟨_,λ_=>by first|exact c1|exact c2,?_⟩);try simp only [A0,↓A3,seval])|refine ⟨λh=>?_,λh=>?_⟩|refine aX ?_|fail
  exact rK (Wk.refl _ _) (by simp only [A7,A0,↓A3,seval])
theorem tM {c:B3} {st:St} {b:Bool} {is:List I} {acc:List Lg} {K:List Lg→St→Prop} {P:Program} (hP:c.P=P) {d:Option Nat} {f:Nat} {xs:List X} {ins outs:List (Nat×Go.Bx.Own)} {res:V} {new:List Nat} (hS:Aj P f (evVs st xs) ins res outs new)
  (h:El c b is (st.stp d { val:=res,upd:=callU ins outs,rd:=keysO ins,new:=new }) (lgs b acc ⟨keysO ins,(callU ins outs).map (·.1)++new⟩) K) (hs:evSs true st xs:=by repeat' first|exact trivial|(intro _;assumption)|apply And.intro)
  (hin:∀ p,p∈ins→own? st.own p.1=some p.2:=by simp only [List.mem_singleton,forall_eq,List.not_mem_nil,false_implies,implies_true]<;>rfl) (hno:(keysO ins).Nodup:=by simp [keysO]) (hnew:∀ k,k∈new→k∉st.nm:=by simp [A5,V.names,A4]):TR c b (⟨d,none,.call f xs⟩::is) st acc K:=
 TR.call ins outs res new (hP▸hS) hs (λk o hm=>hin (k,o) hm) hno hnew h
theorem vq (κ:K3) (L:List (List D)) (x:List D) (hx:x.length=κ.sz) (hl:L.length≤1000) :
  Aj Tryz.prog κ.inF [.osl 900,.d (.int .i64 (L.length:Int)),.d (.sl true κ.sz 1 (litRow κ.sz x))] [(900,Jm κ.el κ.sz L)] (.osl 7) [(7,Jm κ.el κ.sz (Lr L L.length x))] [7]:=by
 have hroom:(L.length+1)*120≤140737488355328∧L.length+1≤maxLen:=⟨by omega,by simp only [maxLen];omega⟩
 have e:Lr L L.length x=L++[x]:=by simp [Lr]
 rw [e]
 obtain ⟨R,hR⟩:∃ R,R=Jm κ.el κ.sz (L++[x]):=⟨_,rfl⟩
 rw [←hR]
 have n1:((1:Int) == 0)=false:=rfl
 have n2:((L.length:Int) == (L.length:Int))=true:=by simp
 cases κ<;>simp only [K3.sz,K3.inF,K3.el,Jm] at hR hx ⊢
 all_goals
  first
   |refine qO Tryz.func218 (hB:=by rw [hR];rfl) ?_
   |refine qO Tryz.func255 (hB:=by rw [hR];rfl) ?_
   |refine qO Tryz.func271 (hB:=by rw [hR];rfl) ?_
  intro c hP hfn
  simp only [A5,V.names,A4,n1,n2,A0,↓A3,seval]
  repeat' first|refine ⟨λh=>?_,λh=>?_⟩|refine aX ?_|fail
  refine rK (Wk.sw 25 7 _ hfn (by simp [A5,V.names,A4]) (by simp [A5,V.names,A4])) ?_
  simp only [hR,A7,A0,↓A3,seval]
  refine Bf.row (by simp) λi hi=>?_
  simp only [List.getD_eq_getElem?_getD]
  by_cases h:i<L.length
  ·rw [if_pos h,List.getElem?_append_left h]
  ·obtain rfl:i=L.length:=by omega
   rw [if_neg h,Nat.sub_self,Nat.zero_mul,List.drop_zero,List.take_of_length_le (by omega)];simp
theorem sInsG (κ:K3) (L:List (List D)) (x:List D) (k:Nat) (hL:∀ y,y∈L→y.length=κ.sz) (hx:x.length=κ.sz) (hk:k≤L.length) (hl:L.length≤1000) :
  Aj Tryz.prog κ.inF [.osl 900,.d (.int .i64 (k:Int)),.d (.sl true κ.sz 1 (litRow κ.sz x))] [(900,Jm κ.el κ.sz L)] (.osl 7) [(7,Jm κ.el κ.sz (Lr L k x))] [7]:=by
 by_cases h:k<L.length
 ·exact sInsLo κ rfl rfl L x k hL hx h hl
 ·obtain rfl:k=L.length:=by omega
  exact vq κ L x hx hl
def K3.pl:K3→Nat
 |.ac=>212
 |.fi=>251
 |.ty=>267
theorem Zg (p:List D→Bool):∀ (L:List (List D)) (k:Nat),F0 p k L=-1∨∃ j,j<L.length∧F0 p k L=((k+j:Nat):Int)
 |[],_=>.inl rfl
 |x::L,k=>by
  rw [F0]
  split
  ·exact .inr ⟨0,by simp,rfl⟩
  ·rcases Zg p L (k+1) with h|⟨j,h1,h2⟩
   ·exact .inl h
   ·exact .inr ⟨j+1,by simp;omega,by rw [h2];congr 1;omega⟩
def hdG:List D→Int
 |.int _ m::_=>m
 |_=>0
theorem sPlace (κ:K3) (L:List (List D)) (n:Int) (r:List D) (hL:∀ y,y∈L→∃ m q,y=.int .i64 m::q∧q.length+1=κ.sz) (hr:r.length+1=κ.sz) (hl:L.length≤1000) :
  ∃ k,k≤L.length∧Aj Tryz.prog κ.pl [.d (Bw κ.sz L),.ag ((D.int .i64 n::r).map .d),.fn (.func κ.idF) [] []] [] (.d (Bw κ.sz (Lr L k (.int .i64 n::r)))) [] []:=by
 have hL':∀ y,y∈L→y.length=κ.sz:=λy hy=>by obtain ⟨m,q,rfl,h⟩:=hL y hy;exact h
 have ci:=(ye κ L hL' κ.p1 κ.idF (.int .i64 n::r) (λy=>decide (hdG y>n)) (λy hy=>by obtain ⟨m,q,rfl,h⟩:=hL y hy;exact sPl1 κ m n q r h hr) (by omega)).sw 901 5
 obtain ⟨k,hk,hj⟩:∃ k,k≤L.length∧(F0 (λy=>decide (hdG y>n)) 0 L=-1∧k=L.length∨F0 (λy=>decide (hdG y>n)) 0 L=(k:Int)):=by
  rcases Zg (λy=>decide (hdG y>n)) L 0 with h|⟨j,h1,h2⟩
  ·exact ⟨_,Nat.le_refl _,.inl ⟨h,rfl⟩⟩
  ·exact ⟨j,by omega,.inr (by rw [h2,Nat.zero_add])⟩
 refine ⟨k,hk,?_⟩
 have cc:=Zz κ L hL' (by omega)
 have cn:=(sInsG κ L (.int .i64 n::r) k hL' hr hk hl).sw 7 1001
 have hil:=Vg (v:=.int .i64 n::r) hk
 generalize F0 (λy=>decide (hdG y>n)) 0 L=j at *
 obtain ⟨M,hM⟩:∃ M,M=Lr L k (.int .i64 n::r):=⟨_,rfl⟩
 rw [←hM] at cn hil ⊢
 cases κ<;>simp only [K3.sz,K3.ix,K3.cl,K3.inF,K3.el,K3.idF,K3.p1,K3.pl,Nt,Bw,Jm] at hr ci cc cn ⊢
 all_goals
  replace hr:=Nat.succ.inj hr
  repeat (obtain ⟨_,_,e,_⟩:=Mi hr;clear hr;subst e;rename_i r hr)
  obtain rfl:=List.eq_nil_of_length_eq_zero hr
  simp only [List.map,A0,↓A3,seval] at ci cc cn
  first
   |refine qP Tryz.func212 λc hP hfn=>?_
   |refine qP Tryz.func251 λc hP hfn=>?_
   |refine qP Tryz.func267 λc hP hfn=>?_
  simp only [List.map,A0,↓A3,seval]
  refine TR.wk _ (Wk.pubF 4 rfl rfl) ?_
  simp only [A0,↓A3,seval]
  refine TR.c1 hP ci (by repeat' first|exact trivial|(intro _;assumption)|apply And.intro) rfl ?_
  simp only [A0,↓A3,seval]
  refine ⟨λh=>?_,λh=>?_⟩
  ·have h:=of_decide_eq_true h
   obtain ⟨rfl,rfl⟩:j=-1∧k=L.length:=by omega
   refine tM hP cc ?_
   simp only [A0,↓A3,seval]
   repeat' first|refine ⟨λh=>?_,λh=>?_⟩|refine aX ?_|fail
   refine tM hP cn ?_
   simp only [A0,↓A3,seval]
   repeat' first|refine ⟨λh=>?_,λh=>?_⟩|refine aX ?_|fail
   refine rK (Wk.pub 1001 rfl) trivial ?_
   simp only [B8,A7,A0,↓A3,seval]
  ·have h:=of_decide_eq_false h
   obtain rfl:j=(k:Int):=by omega
   refine tM hP cc ?_
   simp only [A0,↓A3,seval]
   repeat' first|refine ⟨λh=>?_,λh=>?_⟩|refine aX ?_|fail
   refine tM hP cn ?_
   simp only [A0,↓A3,seval]
   repeat' first|refine ⟨λh=>?_,λh=>?_⟩|refine aX ?_|fail
   refine rK (Wk.pub 1001 rfl) trivial ?_
   simp only [B8,A7,A0,↓A3,seval]
def K3.wi:K3→Nat
 |.ac=>247
 |.fi=>262
 |.ty=>0
theorem Vw:∀ (a x:List D),a.length=x.length→Db a 0 x=x
 |[],[],_=>rfl
 |_::a,y::x,h=>by rw [Db,Vw a x (Nat.succ.inj h)]
theorem sWith (κ:K3) (hκ:κ≠.ty) (L:List (List D)) (i:Nat) (x:List D) (hL:∀ y,y∈L→y.length=κ.sz) (hx:x.length=κ.sz) (hi:i<L.length) (hl:L.length≤1000) :
  Aj Tryz.prog κ.wi [.d (Bw κ.sz L),.d (.int .i64 (i:Int)),.ag (x.map .d)] [] (.d (Bw κ.sz (L.set i x))) [] []:=by
 have cc:=Zz κ L hL (by omega)
 have hset:∀ m,m<L.length→(if m=i then Db (L.getD i []) 0 x else L.getD m [])=(L.set i x).getD m []:=λm hm=>by
  simp only [List.getD_eq_getElem?_getD]
  by_cases h:m=i
  ·subst h
   rw [if_pos rfl,List.getElem?_set_self hm,List.getElem?_eq_getElem hm]
   exact Vw _ _ ((hL _ (List.getElem_mem hm)).trans hx.symm)
  ·rw [if_neg h,List.getElem?_set_ne (Ne.symm h)]
 have hsl:(L.set i x).length=L.length:=by simp
 obtain ⟨S,hS⟩:∃ S,S=L.set i x:=⟨_,rfl⟩
 rw [←hS] at hset hsl ⊢
 cases κ<;>simp only [K3.sz,K3.cl,K3.el,K3.wi,Bw,Jm] at hx cc ⊢
 case ty=>exact absurd rfl hκ
 all_goals
  repeat (obtain ⟨_,_,e,_⟩:=Mi hx;clear hx;subst e;rename_i x hx)
  obtain rfl:=List.eq_nil_of_length_eq_zero hx
  first
   |refine qP Tryz.func247 λc hP hfn=>?_
   |refine qP Tryz.func262 λc hP hfn=>?_
  simp only [List.map,A0,↓A3,seval]
  repeat' first|refine ⟨λh=>?_,λh=>?_⟩|refine aX ?_|fail
  refine tM hP cc ?_
  simp only [A0,↓A3,seval]
  repeat' first|refine ⟨λh=>?_,λh=>?_⟩|refine aX ?_|fail
  refine rK (Wk.pub 900 rfl) trivial ?_
  simp only [B8,A7,A0,↓A3,seval]
  exact Ag.sl hsl.symm (λ_=>rfl) id (λm hm=>by rw [←hset m hm])
def zCm:Cm:=⟨0,0,0,0,0,0⟩
def zFi:Fi:=⟨zCm,[]⟩
def Ru (f:Fi) (a:Ac):Fi:=if Ir f.cl f.ac a=0 then ⟨f.cl,f.ac++[a]⟩ else zFi
theorem Kj {g:Nat→List D}:Ag (.ag [.d (.int .i64 0),.d (.int .i64 0),.d (.int .i64 0),.d (.int .i64 0),.d (.int .i64 0),.d (.int .i64 0),.d (.sl true 0 0 g)]) (Jc zFi):=Yx (c:=zCm)
theorem dg {l:List Ac} {a:Ac} {F:Nat→List D} (h1:∀ i,i<l.length→F i=Gh (l.getD i default)) (h2:F l.length=Gh a):Ag (.d (.sl false 3 (l.length+1) F)) (.d (Dr (l++[a]))):=
 Ag.sl (by simp) (λ_=>rfl) id λi hi=>by
  by_cases h:i<l.length
  ·rw [h1 i h,List.getD_eq_getElem?_getD,List.getD_eq_getElem?_getD,List.getElem?_append_left h]
  ·have:i=l.length:=by omega
   subst this
   rw [h2];simp [List.getD_eq_getElem?_getD]
theorem tn (l:List Ac) (hl:l.length≤1000000):Aj Tryz.prog 174 [.d (Dr l)] [] (.osl 7) [(7,Sb l)] [7]:=by
 have hb:l.length*24≤140737488355328∧l.length≤maxLen:=⟨by omega,by simp only [maxLen];omega⟩
 refine qO Tryz.func174 ?_
 intro c hP hfn
 simp only [A5,V.names,A4,Dr,A0,↓A3,seval]
 refine ⟨λh=>?_,?_⟩
 ·have h':l=[]:=List.eq_nil_of_length_eq_zero h
  subst h'
  refine rK (Wk.row0 (s:=2) (k:=7) (e:=61) (sz:=3) (f':=λi=>Gh (([]:List Ac).getD i default)) rfl rfl (by simp)) (by simp only [Sb,A7,A0,↓A3,seval])
 ·repeat' first|refine ⟨λh=>?_,λh=>?_⟩|refine aX ?_|fail
  refine rK (Wk.refl _ _) ?_
  simp only [Sb,A7,A0,↓A3,seval]
theorem yg (f:Fi) (a:Ac) (hl:f.ac.length≤1000000):Aj Tryz.prog 153 [Jc f,Z8 a] [] (.tup [Jc (Ru f a),.d (.int .i64 (Ir f.cl f.ac a))]) [] []:=by
 have cr:=Zf a
 have cs:=qf f hl
 have cl:=sLastA f hl
 have cc:=(tn f.ac hl).sw 7 900
 simp only [Z8] at cr
 simp only [Jc,Gk,vQ,cQ] at cs
 simp only [Jc,Gk] at cl
 simp only [Dr,Sb,Gh,A0,↓A3,seval] at cc cs cl
 have fin:∀ e,Ir f.cl f.ac a=e→e≠0→Ru f a=zFi:=λe h1 h2=>by rw [Ru,if_neg (by rw [h1];exact h2)]
 cases h1:Fz a with
 |false =>
  have e:Ir f.cl f.ac a=1:=by rw [Ir,if_pos h1]
  rw [e,fin 1 e (by decide)]
  refine qP Tryz.func153 λc hP hfn=>?_;simp only [Jc,Gk,Z8,Dr,Gh,A0,↓A3,seval]
  repeat' first|(refine tq hP (h:=⟨_,λ_=>by first|exact cs|exact cr,?_⟩);try simp only [h1,A0,↓A3,seval])|refine ⟨λh=>?_,λh=>?_⟩|refine aX ?_|fail
  all_goals
   refine rp ?_
   simp only [B8,A0,↓A3,seval]
   exact Ag.tups ⟨Kj,Ag.refl _,trivial⟩
 |true =>
 by_cases h2:2000≤f.ac.length
 ·have d2:decide ((f.ac.length:Int)≥2000)=true:=decide_eq_true (by omega)
  have e:Ir f.cl f.ac a=2:=by rw [Ir,if_neg (by rw [h1];simp),if_pos h2]
  rw [e,fin 2 e (by decide)]
  refine qP Tryz.func153 λc hP hfn=>?_;simp only [Jc,Gk,Z8,Dr,Gh,A0,↓A3,seval]
  repeat' first|(refine tq hP (h:=⟨_,λ_=>by first|exact cs|exact cr,?_⟩);try simp only [h1,d2,A0,↓A3,seval])|refine ⟨λh=>?_,λh=>?_⟩|refine aX ?_|fail
  all_goals
   refine rp ?_
   simp only [B8,A0,↓A3,seval]
   exact Ag.tups ⟨Kj,Ag.refl _,trivial⟩
 have d2:decide ((f.ac.length:Int)≥2000)=false:=decide_eq_false (by omega)
 by_cases h3:a.bk<Hr f.cl f.ac
 ·have d3:decide (a.bk<Hr f.cl f.ac)=true:=decide_eq_true h3
  have e:Ir f.cl f.ac a=4:=by rw [Ir,if_neg (by rw [h1];simp),if_neg h2,if_pos h3]
  rw [e,fin 4 e (by decide)]
  refine qP Tryz.func153 λc hP hfn=>?_;simp only [Jc,Gk,Z8,Dr,Gh,A0,↓A3,seval]
  repeat' first|(refine tq hP (h:=⟨_,λ_=>by first|exact cs|exact cr|exact cl,?_⟩);try simp only [h1,d2,d3,A0,↓A3,seval])|refine ⟨λh=>?_,λh=>?_⟩|refine aX ?_|fail
  all_goals
   refine rp ?_
   simp only [B8,A0,↓A3,seval]
   exact Ag.tups ⟨Kj,Ag.refl _,trivial⟩
 have d3:decide (a.bk<Hr f.cl f.ac)=false:=decide_eq_false h3
 cases h4:(Bm f.ac).op == (a.kd == 5) with
 |true =>
  have e:Ir f.cl f.ac a=10:=by rw [Ir,if_neg (by rw [h1];simp),if_neg h2,if_neg h3,if_pos h4]
  rw [e,fin 10 e (by decide)]
  refine qP Tryz.func153 λc hP hfn=>?_;simp only [Jc,Gk,Z8,Dr,Gh,A0,↓A3,seval]
  repeat' first|(refine tq hP (h:=⟨_,λ_=>by first|exact cs|exact cr|exact cl,?_⟩);try simp only [h1,d2,d3,h4,A0,↓A3,seval])|refine ⟨λh=>?_,λh=>?_⟩|refine aX ?_|fail
  all_goals
   refine rp ?_
   simp only [B8,A0,↓A3,seval]
   exact Ag.tups ⟨Kj,Ag.refl _,trivial⟩
 |false =>
 have he:Ir f.cl f.ac a=if Wb (Bm f.ac) a=true then 5 else 0:=by rw [Ir,if_neg (by rw [h1];simp),if_neg h2,if_neg h3,if_neg (by rw [h4];simp)]
 rw [Wb] at he
 have hroom:(f.ac.length+1)*24≤140737488355328∧f.ac.length+1≤maxLen:=⟨by omega,by simp only [maxLen];omega⟩
 cases h5:(a.kd == 2)&&decide (a.am>IntKind.i64.wrap (1000000000000000-(Bm f.ac).sh)) with
 |true =>
  rw [h5,Bool.true_or,if_pos rfl] at he
  rw [he,fin 5 he (by decide)]
  refine qP Tryz.func153 λc hP hfn=>?_;simp only [Jc,Gk,Z8,Dr,Gh,A0,↓A3,seval]
  repeat' first|(refine tq hP (h:=⟨_,λ_=>by first|exact cs|exact cr|exact cl,?_⟩);try simp only [h1,d2,d3,h4,h5,A0,↓A3,seval])|refine ⟨λh=>?_,λh=>?_⟩|refine aX ?_|fail
  all_goals
   refine rp ?_
   simp only [B8,A0,↓A3,seval]
   exact Ag.tups ⟨Kj,Ag.refl _,trivial⟩
 |false =>
 rw [h5,Bool.false_or] at he
 cases h6:(a.kd == 3)&&decide (a.am>IntKind.i64.wrap (1000000000000000-(Bm f.ac).bc)) with
 |true =>
  rw [h6,if_pos rfl] at he
  rw [he,fin 5 he (by decide)]
  refine qP Tryz.func153 λc hP hfn=>?_;simp only [Jc,Gk,Z8,Dr,Gh,A0,↓A3,seval]
  repeat' first|(refine tq hP (h:=⟨_,λ_=>by first|exact cs|exact cr|exact cl,?_⟩);try simp only [h1,d2,d3,h4,h5,h6,A0,↓A3,seval])|refine ⟨λh=>?_,λh=>?_⟩|refine aX ?_|fail
  all_goals
   refine rp ?_
   simp only [B8,A0,↓A3,seval]
   exact Ag.tups ⟨Kj,Ag.refl _,trivial⟩
 |false =>
 rw [h6,if_neg (by simp)] at he
 rw [Ru,if_pos he,he]
 refine qP Tryz.func153 λc hP hfn=>?_;simp only [Jc,Gk,Z8,Dr,Gh,A0,↓A3,seval]
 repeat' first|(refine tq hP (h:=⟨_,λ_=>by first|exact cs|exact cr|exact cl,?_⟩);try simp only [h1,d2,d3,h4,h5,h6,A0,↓A3,seval])|refine ⟨λh=>?_,λh=>?_⟩|refine aX ?_|fail
 refine TR.call [] [(900,Sb f.ac)] _ [900] (by rw [hP];exact cc) (by repeat' first|exact trivial|(intro _;assumption)|apply And.intro) (by simp) (by simp [keysO]) (by simp [A5,V.names,A4]) ?_
 simp only [Sb,Gh,A0,↓A3,seval]
 repeat' first|refine ⟨λh=>?_,λh=>?_⟩|refine aX ?_|fail
 refine rK (Wk.pub 64 rfl) trivial ?_
 simp only [B8,A0,↓A3,seval]
 exact Ag.tups ⟨Ag.ags ⟨Ag.refl _,Ag.refl _,Ag.refl _,Ag.refl _,Ag.refl _,Ag.refl _,dg (λi hi=>by simp [hi,Gh]) (by simp [Gh]),trivial⟩,Ag.refl _,trivial⟩
def Ji {X:Type} (p:X→Bool):List X→Nat→Int
 |[],_=>-1
 |a::r,k=>if p a=true then (k:Int) else Ji p r (k+1)
theorem N3 {X:Type} (p:X→Bool):∀ (l:List X) (k:Nat),(∀ x,x∈l→p x=false)→Ji p l k=-1
 |[],_,_=>rfl
 |a::r,k,h=>by rw [Ji,if_neg (by rw [h a (by simp)];simp),N3 p r _ λx hx=>h x (by simp [hx])]
theorem Ni {X:Type} (p:X→Bool):∀ (A:List X) (a:X) (B:List X) (k:Nat),(∀ x,x∈A→p x=false)→p a=true→Ji p (A++a::B) k=((k+A.length:Nat):Int)
 |[],a,B,k,_,ha=>by rw [List.nil_append,Ji,if_pos ha];rfl
 |x::A,a,B,k,h,ha=>by
  rw [List.cons_append,Ji,if_neg (by rw [h x (by simp)];simp),Ni p A a B _ (λy hy=>h y (by simp [hy])) ha,List.length_cons]
  omega
theorem Ib {X:Type} (p:X→Bool):∀ l:List X,(∀ x,x∈l→p x=false)∨∃ A a B,l=A++a::B∧(∀ x,x∈A→p x=false)∧p a=true
 |[]=>.inl λx hx=>by simp at hx
 |a::r=>by
  cases ha:p a with
  |true=>exact .inr ⟨[],a,r,rfl,λx hx=>by simp at hx,ha⟩
  |false =>
   rcases Ib p r with h|⟨A,b,B,rfl,h1,h2⟩
   ·refine .inl λx hx=>?_
    rcases List.mem_cons.1 hx with rfl|hx
    ·exact ha
    ·exact h x hx
   ·refine .inr ⟨a::A,b,B,rfl,λx hx=>?_,h2⟩
    rcases List.mem_cons.1 hx with rfl|hx
    ·exact ha
    ·exact h1 x hx
theorem Bf.setA {e:Nat} {l:List Ac} {i:Nat} {a b:Ac} (hg:l.getD i default=b):Bf (.row e 3 l.length (λm=>if m=i then Db (Gh b) 0 (Gh a) else Gh (l.getD m default))) (.row e 3 (l.set i a).length (λm=>Gh ((l.set i a).getD m default))):=by
 refine Bf.row (by simp) λm hm=>?_
 by_cases h:m=i
 ·subst h
  have:(l.set m a).getD m default=a:=by simp [List.getD_eq_getElem?_getD,List.getElem?_set,hm]
  rw [if_pos rfl,this];rfl
 ·have:(l.set i a).getD m default=l.getD m default:=by simp [List.getD_eq_getElem?_getD,List.getElem?_set,Ne.symm h]
  rw [if_neg h,this]
def Cz (f:Fi):List D:=[.int .i64 f.cl.id,.int .i64 f.cl.po,.int .i64 f.cl.pe,.int .i64 f.cl.lo,.int .i64 f.cl.bk,.int .i64 f.cl.ev,Dr f.ac]
def Ig (l:List Fi):D:=.sl false 7 l.length (λi=>Cz (l.getD i default))
def ShF (l:List Fi):Prop:=l.length≤100000∧∀ f,f∈l→f.ac.length≤100000
theorem Bf.appE {X:Type} [Inhabited X] (cells:X→List D) {e sz:Nat} {l l':List X} {x:X} {F:Nat→List D} (hl:l'=l++[x]) (h1:∀ i,i<l.length→F i=cells (l.getD i default)) (h2:F l.length=cells x):Bf (.row e sz (l.length+1) F) (.row e sz l'.length (λi=>cells (l'.getD i default))):=by
 subst hl;exact Bf.app1 cells h1 h2
structure Ao where
 hi:Hi
 pa:Int
def Ky (a:Ao):List D:=[.int .i64 a.hi.id,.int .i64 a.hi.bk,.int .i64 a.hi.tm.sf,.int .i64 a.hi.tm.st,.int .i64 a.hi.tm.rk.kd,.int .i64 a.hi.tm.rk.va,.int .i64 a.hi.tm.rk.ag,.int .i64 a.hi.tm.rk.zo,Ar a.hi.tm.cv,Bv a.hi.ch,.int .i64 a.pa]
structure Se where
 tv:List Vs
 ao:List Ao
 fi:List Fi
 ty:List Ty
 cd:Int
def D1 (s:Se):List V:=[.d (C5 s.tv),.d (Bw 11 (s.ao.map Ky)),.d (Bw 7 (s.fi.map Cz)),.d (Bw 9 (s.ty.map Gg)),.d (.int .i64 s.cd)]
def Dv (s:Se):V:=.ag (D1 s)
def gt (n:Int):List D→Bool
 |.int _ m::_=>m == n
 |_=>false
theorem sAcc1 (a:Ao) (n:Int):Aj Tryz.prog 78 [.ag ((Ky a).map .d),.mem [.int .i64 n]] [] (.d (.bool (gt n (Ky a)))) [] []:=by
 refine qP Tryz.func78 λc hP hfn=>?_;simp only [Ky,List.map,A0,↓A3,seval]
 repeat' first|refine ⟨λh=>?_,λh=>?_⟩|refine aX ?_|fail
 exact rr
theorem sFil1 (a:Fi) (n:Int):Aj Tryz.prog 253 [.ag ((Cz a).map .d),.mem [.int .i64 n]] [] (.d (.bool (gt n (Cz a)))) [] []:=by
 refine qP Tryz.func253 λc hP hfn=>?_;simp only [Cz,List.map,A0,↓A3,seval]
 repeat' first|refine ⟨λh=>?_,λh=>?_⟩|refine aX ?_|fail
 exact rr
theorem Mj (s:Se) (n:Int) (hl:s.ao.length≤1000000):Aj Tryz.prog 39 [Dv s,.d (.int .i64 n)] [] (.d (.int .i64 (F0 (gt n) 0 (s.ao.map Ky)))) [] []:=by
 have ci:=W8 .ac (s.ao.map Ky) (λx hx=>by obtain ⟨a,-,rfl⟩:=List.mem_map.1 hx;rfl) 78 [.mem [.int .i64 n]] rfl (gt n) (λx hx=>by obtain ⟨a,-,rfl⟩:=List.mem_map.1 hx;exact sAcc1 a n) (by rw [List.length_map];exact hl)
 simp only [K3.sz,K3.ix] at ci
 refine qP Tryz.func39 λc hP hfn=>?_;simp only [Dv,D1,A0,↓A3,seval]
 refine TR.wk _ (Wk.pubF 3 rfl rfl) ?_
 simp only [A0,↓A3,seval]
 repeat' first|(refine tz hP ci ?_;try simp only [A0,↓A3,seval])|refine ⟨λh=>?_,λh=>?_⟩|refine aX ?_|fail
 exact rr
theorem xw (s:Se) (n:Int) (hl:s.fi.length≤1000000):Aj Tryz.prog 250 [Dv s,.d (.int .i64 n)] [] (.d (.int .i64 (F0 (gt n) 0 (s.fi.map Cz)))) [] []:=by
 have ci:=W8 .fi (s.fi.map Cz) (λx hx=>by obtain ⟨a,-,rfl⟩:=List.mem_map.1 hx;rfl) 253 [.mem [.int .i64 n]] rfl (gt n) (λx hx=>by obtain ⟨a,-,rfl⟩:=List.mem_map.1 hx;exact sFil1 a n) (by rw [List.length_map];exact hl)
 simp only [K3.sz,K3.ix] at ci
 refine qP Tryz.func250 λc hP hfn=>?_;simp only [Dv,D1,A0,↓A3,seval]
 refine TR.wk _ (Wk.pubF 3 rfl rfl) ?_
 simp only [A0,↓A3,seval]
 repeat' first|(refine tz hP ci ?_;try simp only [A0,↓A3,seval])|refine ⟨λh=>?_,λh=>?_⟩|refine aX ?_|fail
 exact rr
theorem Jt {α:Type} (d:α→List D) (p:List D→Bool):∀ (l:List α) (k:Nat),(F0 p k (l.map d)=-1∧l.find? (λa=>p (d a))=none)∨∃ j a,l[j]?=some a∧F0 p k (l.map d)=((k+j:Nat):Int)∧l.find? (λa=>p (d a))=some a
 |[],k=>.inl ⟨rfl,rfl⟩
 |a::l,k=>by
  rw [List.map_cons,F0,List.find?_cons]
  by_cases h:p (d a)=true
  ·rw [if_pos h,h];exact .inr ⟨0,a,rfl,rfl,rfl⟩
  ·rw [if_neg h]
   simp only [Bool.not_eq_true] at h
   rw [h]
   rcases Jt d p l (k+1) with h1|⟨j,b,h1,h2,h3⟩
   ·exact .inl h1
   ·exact .inr ⟨j+1,b,h1,by rw [h2];congr 1;omega,h3⟩
def Ek (s:Se) (n:Int):Option Ao:=s.ao.find? λa=>gt n (Ky a)
def dn:Ao:=⟨Lz,0⟩
theorem N7 (s:Se) (n:Int) (hl:s.ao.length≤1000000):Aj Tryz.prog 18 [Dv s,.d (.int .i64 n)] [] (.tup [.ag ((Ky ((Ek s n).getD dn)).map .d),.d (.bool (Ek s n).isSome)]) [] []:=by
 have ca:=Mj s n hl
 simp only [Dv,D1] at ca
 rcases Jt Ky (gt n) s.ao 0 with ⟨h1,h2⟩|⟨j,a,h0,h1,h2⟩
 ·have e:Ek s n=none:=h2
  rw [e]
  rw [h1] at ca
  refine qP Tryz.func18 λc hP hfn=>?_;simp only [Dv,D1,A0,↓A3,seval]
  repeat' first|(refine tz hP ca ?_;try simp only [A0,↓A3,seval])|refine ⟨λh=>?_,λh=>?_⟩|refine aX ?_|fail
  (refine rp (Ag.tups ?_);simp only [B8,A0,↓A3,seval])
  exact ⟨Ag.ags ⟨Ag.refl _,Ag.refl _,Ag.refl _,Ag.refl _,Ag.refl _,Ag.refl _,Ag.refl _,Ag.refl _,C2,C2,Ag.refl _,trivial⟩,Ag.refl _,trivial⟩
 ·have e:Ek s n=some a:=h2
  have hj:j<s.ao.length:=(List.getElem?_eq_some_iff.1 h0).1
  rw [e]
  rw [h1,Nat.zero_add] at ca
  have d0:decide ((j:Int)≥0)=true:=decide_eq_true (by omega)
  have hg:(s.ao.map Ky).getD j []=Ky a:=by rw [List.getD_eq_getElem?_getD,List.getElem?_map,h0];rfl
  refine qP Tryz.func18 λc hP hfn=>?_;simp only [Dv,D1,Bw,d0,hg,A0,↓A3,seval]
  simp only [Bw] at ca
  repeat' first|(refine tz hP ca ?_;try simp only [d0,hg,Ky,List.map,List.length_map,A0,↓A3,seval])|refine ⟨λh=>?_,λh=>?_⟩|refine aX ?_|fail
  (refine rp (Ag.tups ?_);simp only [B8,A0,↓A3,seval])
  exact ⟨Ag.refl _,Ag.refl _,trivial⟩
def doT:List (Int×Nat):=[(1,196),(2,197),(3,198),(4,199),(5,200),(6,201),(7,202)]
theorem sKind (f:Fc) (τ:Nat) (h:(f.kd,τ)∈doT):Aj Tryz.prog 55 [Ec f] [] (.ifc τ (Ec f)) [] []:=by
 simp only [doT,List.mem_cons,Prod.mk.injEq,List.not_mem_nil,or_false] at h
 rcases h with ⟨hk,rfl⟩|⟨hk,rfl⟩|⟨hk,rfl⟩|⟨hk,rfl⟩|⟨hk,rfl⟩|⟨hk,rfl⟩|⟨hk,rfl⟩
 all_goals
  refine qP Tryz.func55 λc hP hfn=>?_;simp only [Ec,Je,hk,A0,↓A3,seval]
  repeat' first|refine ⟨λh=>?_,λh=>?_⟩|refine aX ?_|fail
  exact rr
def Vb (s:Se) (f:Fc):Se×Int:=if f.dy≤s.cd then (s,12) else ({ s with cd:=f.dy },0)
theorem qw (s:Se) (f:Fc):Aj Tryz.prog 278 [Ec f,Dv s] [] (.tup [Dv (Vb s f).1,.d (.int .i64 (Vb s f).2)]) [] []:=by
 refine qP Tryz.func278 λc hP hfn=>?_;simp only [Ec,Je,Dv,D1,A0,↓A3,seval]
 repeat' first|refine ⟨λh=>?_,λh=>?_⟩|refine aX ?_|fail
 ·have e:Vb s f=(s,12):=by rw [Vb,if_pos (of_decide_eq_true h)]
  (refine rq ?_;first|exact ⟨⟩|(rw [e];exact Ag.refl _))
 ·have e:Vb s f=({ s with cd:=f.dy },0):=by rw [Vb,if_neg (of_decide_eq_false h)]
  (refine rq ?_;first|exact ⟨⟩|(rw [e];exact Ag.refl _))
def Rs (b:Bool) (s:Se) (f:Fc):Int:=if b=false then 1 else if f.bk≤s.cd then 12 else 0
theorem sMay (s:Se) (f:Fc) (b:Bool) (hb:Aj Tryz.prog 86 [Ec f] [] (.d (.bool b)) [] []):Aj Tryz.prog 54 [Dv s,Ec f] [] (.d (.int .i64 (Rs b s f))) [] []:=by
 simp only [Ec,Je] at hb
 cases b with
 |false =>
  refine qP Tryz.func54 λc hP hfn=>?_;simp only [Ec,Je,Dv,D1,A0,↓A3,seval]
  repeat' first|(refine tz hP hb ?_;try simp only [A0,↓A3,seval])|refine ⟨λh=>?_,λh=>?_⟩|refine aX ?_|fail
  exact rr
 |true =>
  refine qP Tryz.func54 λc hP hfn=>?_;simp only [Ec,Je,Dv,D1,A0,↓A3,seval]
  repeat' first|(refine tz hP hb ?_;try simp only [A0,↓A3,seval])|refine ⟨λh=>?_,λh=>?_⟩|refine aX ?_|fail
  ·have e:Rs true s f=12:=by rw [Rs,if_neg (by simp),if_pos (of_decide_eq_true h)]
   (refine rq ?_;first|exact ⟨⟩|rw [e])
  ·have e:Rs true s f=0:=by rw [Rs,if_neg (by simp),if_neg (of_decide_eq_false h)]
   (refine rq ?_;first|exact ⟨⟩|rw [e])
def ky (t:Ty) (d:Int) (p:Nat):Bool:=t.kd != 1 || !(decide (d≥(F3 t.sf t.st).1)&&decide (d<(F3 t.sf t.st).2)) || (IntKind.i64.wrap ((BitVec.ofInt IntKind.i64.bits (t.pe.fdiv (2 ^ (min (p:Int).toNat IntKind.i64.bits))) &&& BitVec.ofInt IntKind.i64.bits 1).toNat:Int) == 0)
def Qw (t:Ty) (d:Int) (p:Nat):Int:=if ky t d p=true then 0 else t.bp
theorem sPart (t:Ty) (d:Int) (p:Nat):Aj Tryz.prog 273 [sj t,.d (.int .i64 d),.d (.int .i64 (p:Int))] [] (.d (.int .i64 (Qw t d p))) [] []:=by
 have ci:=sIn t.sf t.st d
 simp only [vS] at ci
 refine qP Tryz.func273 λc hP hfn=>?_;simp only [sj,Rf,A0,↓A3,seval]
 repeat' first|(refine tz hP ci ?_;try simp only [A0,↓A3,seval])|refine ⟨λh=>?_,λh=>?_⟩|refine aX ?_|fail
 ·have e:Qw t d p=0:=by rw [Qw,if_pos];rw [ky];exact h
  (refine rq ?_;first|exact ⟨⟩|rw [e])
 ·have e:Qw t d p=t.bp:=by rw [Qw,if_neg];rw [show ky t d p=false from h];simp
  (refine rq ?_;first|exact ⟨⟩|rw [e])
theorem Jw {α:Type} {l:List α} {i:Nat} {a:α} (d:α→List D) (h:l[i]?=some a):(l.map d).getD i []=d a:=by
 rw [List.getD_eq_getElem?_getD,List.getElem?_map,h];rfl
def bt (d:Int) (p:Nat):List Ty→Int→Int
 |[],a=>a
 |t::r,a=>bt d p r (IntKind.i64.wrap (a+Qw t d p))
def Lt (l:List Ty) (d:Int):Nat→Bool
 |0=>false
 |m+1=>decide (bt d (7-m) l 0>10000) || Lt l d m
theorem ip (l:List Ty) (d:Int) (hl:l.length≤1000000):Aj Tryz.prog 269 [.d (Bw 9 (l.map Gg)),.d (.int .i64 d)] [] (.d (.bool (Lt l d 8))) [] []:=by
 have hml:(l.map Gg).length=l.length:=List.length_map _
 obtain ⟨S,hS⟩:∃ S,S=Bw 9 (l.map Gg):=⟨_,rfl⟩
 rw [←hS]
 obtain ⟨C8,hC8⟩:∃ b,b=Lt l d 8:=⟨_,rfl⟩
 rw [←hC8]
 refine qP Tryz.func269 λc hP hfn=>?_;simp only [A0,↓A3,seval]
 refine B4.loop (X:=Nat) (λp=>⟨[(0,.d S),(1,.d (.int .i64 d)),(9,.d (.int .i64 p))],[],[]⟩)
  (λp=>p≤8∧C8=Lt l d (8-p)) (λp=>8-p) 0 ⟨by omega,hC8⟩ (Wk.of _ hfn rfl (by simp only [A7,A0,↓A3,seval]) (by simp only [A7,A0,↓A3,seval])) ?_
 rintro p ⟨hp,he⟩
 simp only [A0,↓A3,seval]
 refine ⟨λh1=>?_,λh1=>?_⟩
 ·have hp8:p<8:=by have:=of_decide_eq_true h1;omega
  have w1:IntKind.i64.wrap ((p:Int)+1)=((p+1:Nat):Int):=wS (by omega)
  rw [show 8-p=(7-p)+1 by omega,Lt,show 7-(7-p)=p by omega] at he
  clear hC8
  simp only [hS,Bw,hml,A0,↓A3,seval]
  refine B4.loop (X:=Nat×Int) (λx=>⟨[(0,.d S),(1,.d (.int .i64 d)),(5,.d (.int .i64 p)),(6,.d (.int .i64 x.2)),(9,.d (.int .i64 p)),(12,.d S),(13,.d (.int .i64 l.length)),(14,.d (.int .i64 x.1))],[],[]⟩)
   (λx=>x.1≤l.length∧bt d p l 0=bt d p (l.drop x.1) x.2) (λx=>l.length-x.1) (0,0) ⟨Nat.zero_le _,rfl⟩ (Wk.of _ hfn rfl (by simp only [hS,Bw,hml,A7,A0,↓A3,seval]) (by simp only [A7,A0,↓A3,seval])) ?_
  rintro ⟨k,a⟩ ⟨hk,ha⟩
  simp only at hk ha
  simp only [A0,↓A3,seval]
  refine ⟨λh2=>?_,λh2=>?_⟩
  ·have hlt:k<l.length:=by have:=of_decide_eq_true h2;omega
   obtain ⟨t,hd,-,-,hat⟩:=Ae hlt
   have hg:=Jw Gg hat
   have ci:=sPart t d p
   simp only [sj,Rf] at ci
   rw [hd,bt] at ha
   simp only [hS,Bw,hml,hg,Gg,A0,↓A3,seval]
   repeat' first|(refine tz hP ci ?_;try simp only [hg,Gg,A0,↓A3,seval])|refine ⟨λh=>?_,λh=>?_⟩|refine aX ?_|fail
   exact Al.on (k+1,IntKind.i64.wrap (a+Qw t d p)) ⟨hlt,ha⟩ (by simp only;omega) (Wk.of _ hfn rfl (by simp only [hS,Bw,hml,Gg,A7,A0,↓A3,seval];exact wS (by omega)) (by simp only [A7,A0,↓A3,seval]))
  ·have hkl:k=l.length:=by have:=of_decide_eq_false h2;omega
   rw [hkl,List.drop_length,bt] at ha
   rw [ha] at he
   repeat' first|refine ⟨λh=>?_,λh=>?_⟩|refine aX ?_|fail
   ·rw [he,h,Bool.true_or];exact rr
   ·rw [h,Bool.false_or] at he
    exact Al.on (p+1) ⟨hp8,by rw [he,show 8-(p+1)=7-p by omega]⟩ (by omega) (Wk.of _ hfn rfl (by simp only [w1,hS,Bw,hml,A7,A0,↓A3,seval]) (by simp only [A7,A0,↓A3,seval]))
 ·have hp8:p=8:=by have:=of_decide_eq_false h1;omega
  rw [hp8,Nat.sub_self,Lt] at he
  rw [he]
  repeat' first|refine ⟨λh=>?_,λh=>?_⟩|refine aX ?_|fail
  exact rr
def eg (t x:Ty):Ty:={ x with pe:=IntKind.i64.wrap ((BitVec.ofInt IntKind.i64.bits x.pe &&& BitVec.ofInt IntKind.i64.bits t.pe).toNat:Int) }
def Er (l:List Ty) (t:Ty):List Ty:=t::l.map (eg t)
def ovrB (A:List Ty) (t x:Ty):Bool:=(decide (x.sf≥(F3 t.sf t.st).1)&&decide (x.sf<(F3 t.sf t.st).2))&&Lt A x.sf 8
theorem ze (A:List Ty) (t x:Ty) (hl:A.length≤1000000):Aj Tryz.prog 268 [.ag ((Gg x).map .d),.mem (Gg t),.mem [Bw 9 (A.map Gg)]] [] (.d (.bool (ovrB A t x))) [] []:=by
 have ci:=sIn t.sf t.st x.sf
 have cc:=ip A x.sf hl
 simp only [vS] at ci
 refine qP Tryz.func268 λc hP hfn=>?_;simp only [Gg,List.map,A0,↓A3,seval]
 repeat' first|(refine tq hP (h:=⟨_,λ_=>by first|exact ci|exact cc,?_⟩);try simp only [A0,↓A3,seval])|refine ⟨λh=>?_,λh=>?_⟩|refine aX ?_|fail
 exact rr
theorem sContT (L:List (List D)) (hL:∀ x,x∈L→x.length=9) (g:Nat) (ds es:List D) (p:List D→Bool) (hg:∀ x,x∈L→Aj Tryz.prog g [.ag (x.map .d),.mem ds,.mem es] [] (.d (.bool (p x))) [] []) (hl:L.length≤1000000) :
  Aj Tryz.prog 66 [.d (Bw 9 L),.fn (.func g) [] [.mem ds,.mem es]] [] (.d (.bool (decide (F0 p 0 L≥0)))) [] []:=by
 have ci:=W8 .ty L hL g [.mem ds,.mem es] rfl p hg hl
 simp only [K3.sz,K3.ix] at ci
 refine qP Tryz.func66 λc hP hfn=>?_;simp only [A0,↓A3,seval]
 repeat' first|(refine tz hP ci ?_;try simp only [A0,↓A3,seval])|refine ⟨λh=>?_,λh=>?_⟩|refine aX ?_|fail
 exact rr
theorem yz (L:List (List D)) (hL:∀ x,x∈L→x.length=9) (g h:Nat) (ds:List D) (p:List D→Bool) (hg:∀ x,x∈L→Aj Tryz.prog g [.ag (x.map .d),.own 901 0,.mem ds] [(901,Nt h)] (.d (.bool (p x))) [(901,Nt h)] []) (hl:L.length≤1000000) :
  Aj Tryz.prog 66 [.d (Bw 9 L),.fn (.func g) [] [.own 901 0,.mem ds]] [(901,Nt h)] (.d (.bool (decide (F0 p 0 L≥0)))) [(901,Nt h)] []:=by
 have ci:=ye .ty L hL g h ds p hg hl
 simp only [K3.sz,K3.ix,Nt] at ci
 refine qO Tryz.func66 ?_
 intro c hP hfn
 simp only [Nt,A5,V.names,A4,A0,↓A3,seval]
 refine TR.c1 hP ci (by repeat' first|exact trivial|(intro _;assumption)|apply And.intro) rfl ?_
 simp only [A0,↓A3,seval]
 repeat' first|refine ⟨λh=>?_,λh=>?_⟩|refine aX ?_|fail
 exact rK (Wk.refl _ _) (by simp only [A7,A0,↓A3,seval])
theorem ml {l:List Ty}:∀ x,x∈l.map Gg→x.length=9:=λx hx=>by obtain ⟨a,-,rfl⟩:=List.mem_map.1 hx;rfl
def qi (A:List Ty):Go.Bx.Own:=.row 73 9 A.length (λi=>(A.map Gg).getD i [])
theorem jt {l:List Ty} {t x:Ty} {k:Nat} (h:l[k]?=some x):Er (l.take (k+1)) t=Er (l.take k) t++[eg t x]:=by
 rw [Er,List.take_add_one,h,Er];simp
def ovP (A:List Ty) (t:Ty):List D→Bool
 |.int _ _::.int _ _::.int _ f::_=>ovrB A t { t with sf:=f }
 |_=>false
def xi (l:List Ty) (t:Ty) (S:D) (k:Nat):St:=if k=0 then ⟨[(3,.own 3 0),(5,.own 5 0),(13,.d S),(14,.d (.int .i64 l.length)),(15,.d (.int .i64 (k:Nat)))],[(3,.fix (Rf t)),(5,.fix [.d (.sl true 9 1 (litRow 9 (Gg t)))])],[3,5]⟩ else ⟨[(3,.own 3 0),(5,.own 5 0),(13,.d S),(14,.d (.int .i64 l.length)),(15,.d (.int .i64 (k:Nat)))],[(3,.fix (Rf t)),(5,.fix [.osl 1000]),(1000,qi (Er (l.take k) t))],[3,5,1000]⟩
theorem Zu {l:List Ty} {t x:Ty} {k:Nat} {F:Nat→List D} (h:l[k]?=some x) (h1:∀ i,i<(Er (l.take k) t).length→F i=((Er (l.take k) t).map Gg).getD i []) (h2:F (Er (l.take k) t).length=Gg (eg t x)) {n:Nat} (hn:n=(Er (l.take k) t).length+1):Bf (.row 73 9 n F) (qi (Er (l.take (k+1)) t)):=by
 rw [jt h,qi]
 refine Bf.row (by simp [hn]) λi hi=>?_
 rw [List.map_append]
 by_cases e:i<(Er (l.take k) t).length
 ·rw [h1 i e,List.getD_eq_getElem?_getD,List.getD_eq_getElem?_getD,List.getElem?_append_left (by rw [List.length_map];exact e)]
 ·obtain rfl:i=(Er (l.take k) t).length:=by omega
  rw [h2,List.getD_eq_getElem?_getD,List.getElem?_append_right (by simp)];simp
theorem sOver (l:List Ty) (t:Ty) (hl:l.length≤1000):∃ b,Aj Tryz.prog 266 [.d (Bw 9 (l.map Gg)),sj t] [] (.d (.bool b)) [] []:=by
  have hml:(l.map Gg).length=l.length:=List.length_map _
  by_cases h0:t.kd=1
  · have d0:(t.kd != 1)=false:=by rw [h0];rfl
    have hA:(Er l t).length=l.length+1:=by simp [Er]
    obtain ⟨B,co⟩:∃ B,Aj Tryz.prog 66 [.d (Bw 9 ((Er l t).map Gg)),.fn (.func 268) [] [.mem (Gg t),.mem [Bw 9 ((Er l t).map Gg)]]] [] (.d (.bool B)) [] []:=⟨_,sContT ((Er l t).map Gg) ml 268 (Gg t) [Bw 9 ((Er l t).map Gg)] (ovP (Er l t) t) (λx hx=>by
      obtain ⟨a,-,rfl⟩:=List.mem_map.1 hx
      exact ze (Er l t) t a (by omega)) (by rw [List.length_map];omega)⟩
    refine ⟨B,?_⟩
    obtain ⟨S,hS⟩:∃ S,S=Bw 9 (l.map Gg):=⟨_,rfl⟩
    rw [←hS]
    obtain ⟨S2,hS2⟩:∃ S,S=Bw 9 ((Er l t).map Gg):=⟨_,rfl⟩
    rw [←hS2] at co
    refine qP Tryz.func266 λc hP hfn=>?_;simp only [sj,Rf,d0,hS,Bw,hml,A0,↓A3,seval]
    repeat' first|refine ⟨λh=>?_,λh=>?_⟩|refine aX ?_|fail
    refine B4.loop (X:=Nat) (xi l t S) (λk=>k≤l.length) (λk=>l.length-k) 0 (Nat.zero_le _) (Wk.of _ hfn rfl (by simp only [xi,hS,Bw,hml,A7,A0,↓A3,seval]) (by simp only [xi,Rf,Gg,A7,A0,↓A3,seval])) ?_
    intro k hk
    have hrt:Bf (qi (Er l t)) (qi (Er l t)):=Bf.refl _
    by_cases hlt:k<l.length
    · obtain ⟨x,-,-,-,hat⟩:=Ae hlt
      have hg:=Jw Gg hat
      have d1:decide ((k:Int)<(l.length:Int))=true:=decide_eq_true (by omega)
      have w1:IntKind.i64.wrap ((k:Int)+1)=((k+1:Nat):Int):=wS (by omega)
      have b1:(0:Int)≤(k:Int)∧(k:Int)<(l.length:Int):=by omega
      have hA1:(Er (l.take k) t).length=k+1:=by simp [Er];omega
      have n1:∀ S,xi l t S (k+1)=⟨[(3,.own 3 0),(5,.own 5 0),(13,.d S),(14,.d (.int .i64 l.length)),(15,.d (.int .i64 (k+1:Nat)))],[(3,.fix (Rf t)),(5,.fix [.osl 1000]),(1000,qi (Er (l.take (k+1)) t))],[3,5,1000]⟩:=λS=>if_neg (Nat.succ_ne_zero k)
      have hroom:(k+2)*72≤140737488355328∧k+2≤maxLen:=⟨by omega,by simp only [maxLen];omega⟩
      by_cases hk0:k=0
      · simp only [xi,if_pos hk0,hS,Bw,hml,Rf,Gg,d1,hg,A0,↓A3,seval]
        repeat' first|refine ⟨λh=>?_,λh=>?_⟩|refine aX ?_|fail
        refine Al.on (k+1) hlt (by omega) ?_
        have hfin:∀ (F:Nat→List D),F 0=Gg t→F 1=Gg (eg t x)→Bf (.row 73 9 2 F) (qi (Er (l.take (k+1)) t)):=λF h1 h2=>by
          subst hk0
          exact Zu hat (λi hi=>by
            obtain rfl:i=0:=by omega
            exact h1) h2 (by omega)
        rw [n1]
        refine (Wk.sw 28 1000 _ hfn (by simp) (by simp)).trans (Wk.of _ hfn rfl (by simp only [w1,hS,Bw,hml,A7,A0,↓A3,seval]) (by simp only [Rf,A7,A0,↓A3,seval];exact hfin _ rfl rfl))
      · have hfin:∀ (F:Nat→List D),(∀ i,i<k+1→F i=((Er (l.take k) t).map Gg).getD i [])→F (k+1)=Gg (eg t x)→Bf (.row 73 9 (k+1+1) F) (qi (Er (l.take (k+1)) t)):=λF h1 h2=>Zu hat (λi hi=>h1 i (by omega)) (by rw [hA1];exact h2) (by omega)
        simp only [xi,if_neg hk0,hS,Bw,hml,qi,hA1,Rf,Gg,d1,hg,A0,↓A3,seval]
        repeat' first|refine ⟨λh=>?_,λh=>?_⟩|refine aX ?_|fail
        refine Al.on (k+1) hlt (by omega) ?_
        rw [n1]
        refine (Wk.sw 28 1000 _ hfn (by simp) (by simp)).trans (Wk.of _ hfn rfl (by simp only [w1,hS,Bw,hml,A7,A0,↓A3,seval]) (by simp only [Rf,A7,A0,↓A3,seval];exact hfin _ (λi hi=>if_pos hi) (by simp [Gg,eg])))
    · obtain rfl:k=l.length:=by omega
      have d1:decide ((l.length:Int)<(l.length:Int))=false:=decide_eq_false (by omega)
      by_cases hk0:l.length=0
      · have hv:Ag (.d (.sl true 9 1 (litRow 9 (Gg t)))) (.d S2):=by
          have h1:∀ i,i<1→litRow 9 (Gg t) i=((Er [] t).map Gg).getD i []:=λi hi=>by
            obtain rfl:i=0:=by omega
            rfl
          rw [hS2,List.eq_nil_of_length_eq_zero hk0]
          exact Ag.sl rfl (λ_=>rfl) (λ_=>rfl) h1
        simp only [xi,if_pos hk0,hS,Bw,hml,Rf,d1,A0,↓A3,seval]
        repeat' first|refine ⟨λh=>?_,λh=>?_⟩|refine aX ?_|fail
        refine TR.wk _ (Wk.of (b:=⟨[(30,.d S2),(31,.fn (.func 268) [] [.own 3 0,.own 5 0])],[(3,.fix (Rf t)),(5,.fix [.d S2])],[3,5]⟩) _ hfn rfl (by simp only [A7,A0,↓A3,seval];exact hv) (by simp only [Rf,A7,A0,↓A3,seval];exact Bf.fix ⟨hv,trivial⟩)) ?_
        refine TR.wk _ (Wk.pubF 3 rfl rfl) ?_
        refine TR.wk _ (Wk.pubF 5 rfl rfl) ?_
        simp only [A0,↓A3,seval]
        repeat' first|(refine tz hP co ?_;try simp only [A0,↓A3,seval])|refine ⟨λh=>?_,λh=>?_⟩|refine aX ?_|fail
        exact rr
      · simp only [xi,if_neg hk0,hS,Bw,hml,qi,Rf,d1,List.take_length,A0,↓A3,seval]
        repeat' first|refine ⟨λh=>?_,λh=>?_⟩|refine aX ?_|fail
        refine TR.wk _ ((Wk.pub 1000 rfl).trans (Wk.of (b:=⟨[(30,.d S2),(31,.fn (.func 268) [] [.own 3 0,.own 5 0])],[(3,.fix (Rf t)),(5,.fix [.d S2])],[3,5]⟩) _ hfn rfl (by simp only [hS2,Bw,List.length_map,A7,A0,↓A3,seval]) (by simp only [hS2,Bw,List.length_map,Rf,A7,A0,↓A3,seval]))) ?_
        refine TR.wk _ (Wk.pubF 3 rfl rfl) ?_
        refine TR.wk _ (Wk.pubF 5 rfl rfl) ?_
        simp only [A0,↓A3,seval]
        repeat' first|(refine tz hP co ?_;try simp only [A0,↓A3,seval])|refine ⟨λh=>?_,λh=>?_⟩|refine aX ?_|fail
        exact rr
  · have d0:(t.kd != 1)=true:=by rw [bne_iff_ne];exact h0
    refine ⟨false,?_⟩
    refine qP Tryz.func266 λc hP hfn=>?_;simp only [sj,Rf,d0,A0,↓A3,seval]
    repeat' first|refine ⟨λh=>?_,λh=>?_⟩|refine aX ?_|fail
    exact rr
theorem sPlG {α:Type} (κ:K3) (d:α→List D) (hd:∀ a,∃ m q,d a=.int .i64 m::q∧q.length+1=κ.sz) (l:List α) (x:α) (hl:l.length≤1000) :
  ∃ l':List α,l'.length=l.length+1∧(∀ y,y∈l'→y=x∨y∈l)∧Aj Tryz.prog κ.pl [.d (Bw κ.sz (l.map d)),.ag ((d x).map .d),.fn (.func κ.idF) [] []] [] (.d (Bw κ.sz (l'.map d))) [] []:=by
 obtain ⟨m,q,e,hq⟩:=hd x
 obtain ⟨k,hk,hc⟩:=sPlace κ (l.map d) m q (λy hy=>by obtain ⟨a,-,rfl⟩:=List.mem_map.1 hy;exact hd a) hq (by rw [List.length_map];exact hl)
 rw [List.length_map] at hk
 refine ⟨l.take k++x::l.drop k,by simp;omega,λy hy=>?_,?_⟩
 ·rcases List.mem_append.1 hy with h|h
  ·exact .inr (List.mem_of_mem_take h)
  ·rcases List.mem_cons.1 h with h|h
   ·exact .inl h
   ·exact .inr (List.mem_of_mem_drop h)
 ·rw [←e] at hc
  have:(l.take k++x::l.drop k).map d=Lr (l.map d) k (d x):=by simp [Lr,List.map_take,List.map_drop]
  rw [this];exact hc
theorem sWiG {α:Type} (κ:K3) (hκ:κ≠.ty) (d:α→List D) (hd:∀ a,(d a).length=κ.sz) (l:List α) (i:Nat) (x:α) (hi:i<l.length) (hl:l.length≤1000) :
  Aj Tryz.prog κ.wi [.d (Bw κ.sz (l.map d)),.d (.int .i64 (i:Int)),.ag ((d x).map .d)] [] (.d (Bw κ.sz ((l.set i x).map d))) [] []:=by
 have:=sWith κ hκ (l.map d) i (d x) (λy hy=>by obtain ⟨a,-,rfl⟩:=List.mem_map.1 hy;exact hd a) (hd x) (by rw [List.length_map];exact hi) (by rw [List.length_map];exact hl)
 rwa [List.map_set]
def O8 (l:List Cv):Prop:=l.length≤1000000∧∀ c,c∈l→R8 c.li∧R8 c.ag∧R8 c.sh
structure Bd (t:List Vs) (n:Nat) (s:Se):Prop where
 tv:s.tv=t
 ao:s.ao.length≤n∧∀ a,a∈s.ao→O8 a.hi.tm.cv∧a.hi.ch.length≤n∧∀ c,c∈a.hi.ch→O8 c.cv
 fi:s.fi.length≤n∧∀ f,f∈s.fi→f.ac.length≤n
 ty:s.ty.length≤n
theorem Bd.up {t:List Vs} {n:Nat} {s:Se} (h:Bd t n s):Bd t (n+1) s:=
 ⟨h.tv,⟨by have:=h.ao.1;omega,λa ha=>⟨(h.ao.2 a ha).1,by have:=(h.ao.2 a ha).2.1;omega,(h.ao.2 a ha).2.2⟩⟩,⟨by have:=h.fi.1;omega,λf hf=>by have:=h.fi.2 f hf;omega⟩,by have:=h.ty;omega⟩
def Wl (t:List Vs) (n:Nat) (s:Se) (f:Fc) (g:Nat):Prop:=∃ r:Se×Int,Aj Tryz.prog g [Ec f,Dv s] [] (.tup [Dv r.1,.d (.int .i64 r.2)]) [] []∧(r.2=0→Bd t (n+1) r.1)
theorem sTy2 (x:Ty) (f:Fc):Aj Tryz.prog 265 [.ag ((Gg x).map .d),.own 901 0,.mem (T5 f)] [(901,Nt 264)] (.d (.bool (x.id == f.ty.id))) [(901,Nt 264)] []:=by
 have c1:=us .ty x.id [.int .i64 x.kd,.int .i64 x.sf,.int .i64 x.st,.int .i64 x.bp,.int .i64 x.at',.int .i64 x.wi,.int .i64 x.ag,.int .i64 x.pe] rfl
 have c2:=us .ty f.ty.id [.int .i64 f.ty.kd,.int .i64 f.ty.sf,.int .i64 f.ty.st,.int .i64 f.ty.bp,.int .i64 f.ty.at',.int .i64 f.ty.wi,.int .i64 f.ty.ag,.int .i64 f.ty.pe] rfl
 simp only [K3.idF,List.map] at c1 c2
 refine qO Tryz.func265 ?_
 intro c hP hfn
 simp only [Nt,Gg,T5,List.map,A5,V.names,A4,A0,↓A3,seval]
 repeat' first|(refine tq hP (h:=⟨_,λ_=>by first|exact c1|exact c2,?_⟩);try simp only [A0,↓A3,seval])|refine ⟨λh=>?_,λh=>?_⟩|refine aX ?_|fail
 exact rK (Wk.refl _ _) (by simp only [A7,A0,↓A3,seval])
def tyD (s:Se) (L:List Ty) (b1 b2 b3:Bool):Se×Int:=bif b1 then (s,8) else bif b2 then (s,2) else bif b3 then (s,13) else ({ s with ty:=L },0)
theorem sDoTy (t:List Vs) (n:Nat) (s:Se) (f:Fc) (hs:Bd t n s) (hn:n≤900):Wl t n s f 263:=by
 have hl:=hs.ty
 obtain ⟨L,hL,-,cp⟩:=sPlG .ty Gg (λa=>⟨_,_,rfl,rfl⟩) s.ty f.ty (by omega)
 obtain ⟨b3,co⟩:=sOver s.ty f.ty (by omega)
 have ci:=(yz (s.ty.map Gg) ml 265 264 (T5 f) (λx=>hdG x == f.ty.id) (λx hx=>by obtain ⟨a,-,rfl⟩:=List.mem_map.1 hx;exact sTy2 a f) (by rw [List.length_map];omega)).sw 901 6
 generalize decide (F0 _ 0 (s.ty.map Gg)≥0)=b1 at ci
 refine ⟨tyD s L b1 (decide ((s.ty.length:Int)≥100)) b3,?_,λh=>?_⟩
 ·have hml:(s.ty.map Gg).length=s.ty.length:=List.length_map _
  have hr:∀ r,Dv r=.ag [.d (C5 r.tv),.d (Bw 11 (r.ao.map Ky)),.d (Bw 7 (r.fi.map Cz)),.d (Bw 9 (r.ty.map Gg)),.d (.int .i64 r.cd)]:=λ_=>rfl
  simp only [K3.sz,K3.pl,K3.idF,Nt,T5,Gg,List.map,Bw,hml,A0,↓A3,seval] at cp co ci
  rw [hr s]
  refine qP Tryz.func263 λc hP hfn=>?_;simp only [Ec,Je,Bw,hml,A0,↓A3,seval]
  refine TR.wk _ (Wk.pubF 2 rfl rfl) ?_
  simp only [A0,↓A3,seval]
  refine TR.c1 hP ci (by repeat' first|exact trivial|(intro _;assumption)|apply And.intro) rfl ?_
  simp only [hml,A0,↓A3,seval]
  repeat' first|(refine tq hP (h:=⟨_,λ_=>by first|exact co|exact cp,?_⟩);try simp only [hml,A0,↓A3,seval])|refine ⟨λh=>?_,λh=>?_⟩|refine aX ?_|fail
  all_goals
   simp only [tyD, *,cond_true,cond_false,Bw]
   exact rr
 ·revert h
  unfold tyD
  cases b1<;>cases decide ((s.ty.length:Int)≥100)<;>cases b3<;>intro h<;>simp only [cond_true,cond_false] at h ⊢<;>first|(exfalso;omega)|exact ⟨hs.tv,hs.up.ao,hs.up.fi,by simp only;omega⟩
theorem Bd.setA {t:List Vs} {n:Nat} {s:Se} (h:Bd t n s) {j:Nat} {a:Ao} (h1:O8 a.hi.tm.cv) (h2:a.hi.ch.length≤n+1) (h3:∀ c,c∈a.hi.ch→O8 c.cv):Bd t (n+1) { s with ao:=s.ao.set j a }:=
 ⟨h.tv,⟨by simp only [List.length_set];exact h.up.ao.1,λb hb=>by
  rcases List.mem_or_eq_of_mem_set hb with hb|rfl
  ·exact h.up.ao.2 b hb
  ·exact ⟨h1,h2,h3⟩⟩,h.up.fi,h.up.ty⟩
theorem Bd.setF {t:List Vs} {n:Nat} {s:Se} (h:Bd t n s) {j:Nat} {f:Fi} (h1:f.ac.length≤n+1):Bd t (n+1) { s with fi:=s.fi.set j f }:=
 ⟨h.tv,h.up.ao,⟨by simp only [List.length_set];exact h.up.fi.1,λg hg=>by
  rcases List.mem_or_eq_of_mem_set hg with hg|rfl
  ·exact h.up.fi.2 g hg
  ·exact h1⟩,h.up.ty⟩
def pdD (s:Se) (j:Nat) (a:Ao) (f:Fc):Se×Int:=bif decide (f.am>IntKind.i64.wrap (4000000000000000000-a.pa)) then (s,5) else ({ s with ao:=s.ao.set j { a with pa:=IntKind.i64.wrap (a.pa+f.am) } },0)
theorem sDoPd (t:List Vs) (n:Nat) (s:Se) (f:Fc) (hs:Bd t n s) (hn:n≤900):Wl t n s f 248:=by
 have hl:=hs.ao.1
 have ca:=Mj s f.id (by omega)
 have hml:(s.ao.map Ky).length=s.ao.length:=List.length_map _
 simp only [Dv,D1,Bw,hml] at ca
 rcases Jt Ky (gt f.id) s.ao 0 with ⟨h1,h2⟩|⟨j,a,h0,h1,h2⟩
 ·rw [h1] at ca
  refine ⟨(s,7),?_,λh=>by simp at h⟩
  refine qP Tryz.func248 λc hP hfn=>?_;simp only [Ec,Je,Dv,D1,Bw,hml,A0,↓A3,seval]
  repeat' first|(refine tz hP ca ?_;try simp only [A0,↓A3,seval])|refine ⟨λh=>?_,λh=>?_⟩|refine aX ?_|fail
  exact rr
 ·have hj:j<s.ao.length:=(List.getElem?_eq_some_iff.1 h0).1
  rw [h1,Nat.zero_add] at ca
  have d0:decide ((j:Int)<0)=false:=decide_eq_false (by omega)
  have hg:=Jw Ky h0
  have cw:=sWiG .ac (by simp) Ky (λ_=>rfl) s.ao j { a with pa:=IntKind.i64.wrap (a.pa+f.am) } hj (by omega)
  refine ⟨pdD s j a f,?_,λh=>?_⟩
  ·simp only [K3.sz,K3.wi,Bw,Ky,hml,List.length_map,List.map,List.length_set,A0,↓A3,seval] at cw
   refine qP Tryz.func248 λc hP hfn=>?_;simp only [Ec,Je,Dv,D1,Bw,d0,hml,A0,↓A3,seval]
   repeat' first|(refine tq hP (h:=⟨_,λ_=>by first|exact ca|exact cw,?_⟩);try simp only [d0,hg,Ky,hml,List.map,A0,↓A3,seval])|refine ⟨λh=>?_,λh=>?_⟩|refine aX ?_|fail
   all_goals
    simp only [pdD, *,cond_true,cond_false,Dv,D1,Bw,List.length_map,List.length_set]
    exact rr
  ·revert h
   have hm:=hs.ao.2 a (List.mem_of_getElem? h0)
   unfold pdD
   cases decide (f.am>IntKind.i64.wrap (4000000000000000000-a.pa))<;>intro h<;>simp only [cond_true,cond_false] at h ⊢<;>first|(exfalso;omega)|exact hs.setA hm.1 (Nat.le_succ_of_le hm.2.1) hm.2.2
theorem sDoAct (t:List Vs) (n:Nat) (s:Se) (f:Fc) (hs:Bd t n s) (hn:n≤900):Wl t n s f 261:=by
 have hl:=hs.fi.1
 have ca:=xw s f.id (by omega)
 have hml:(s.fi.map Cz).length=s.fi.length:=List.length_map _
 simp only [Dv,D1,Bw,hml] at ca
 rcases Jt Cz (gt f.id) s.fi 0 with ⟨h1,h2⟩|⟨j,a,h0,h1,h2⟩
 ·rw [h1] at ca
  refine ⟨(s,7),?_,λh=>by simp at h⟩
  refine qP Tryz.func261 λc hP hfn=>?_;simp only [Ec,Je,Dv,D1,Bw,hml,A0,↓A3,seval]
  repeat' first|(refine tz hP ca ?_;try simp only [A0,↓A3,seval])|refine ⟨λh=>?_,λh=>?_⟩|refine aX ?_|fail
  exact rr
 ·have hj:j<s.fi.length:=(List.getElem?_eq_some_iff.1 h0).1
  rw [h1,Nat.zero_add] at ca
  have hm:=hs.fi.2 a (List.mem_of_getElem? h0)
  have d0:decide ((j:Int)<0)=false:=decide_eq_false (by omega)
  have hg:=Jw Cz h0
  have cp:=yg a f.ac (by omega)
  have hpl:(Ru a f.ac).ac.length≤n+1:=by
   rw [Ru]
   split
   ·simp only [List.length_append,List.length_singleton];omega
   ·simp [zFi]
  obtain ⟨g,hge⟩:∃ g,g=Ru a f.ac:=⟨_,rfl⟩
  obtain ⟨e,hee⟩:∃ e,e=Ir a.cl a.ac f.ac:=⟨_,rfl⟩
  rw [←hge] at cp hpl
  rw [←hee] at cp
  have cw:=sWiG .fi (by simp) Cz (λ_=>rfl) s.fi j g hj (by omega)
  refine ⟨({ s with fi:=s.fi.set j g },e),?_,λ_=>hs.setF hpl⟩
  simp only [K3.sz,K3.wi,Bw,Cz,hml,List.length_map,List.map,List.length_set,A0,↓A3,seval] at cw
  simp only [Jc,Gk,Z8] at cp
  refine qP Tryz.func261 λc hP hfn=>?_;simp only [Ec,Je,Dv,D1,Bw,d0,hml,A0,↓A3,seval]
  repeat' first|(refine tq hP (h:=⟨_,λ_=>by first|exact ca|exact cp|exact cw,?_⟩);try simp only [d0,hg,Cz,hml,List.map,A0,↓A3,seval])|refine ⟨λh=>?_,λh=>?_⟩|refine aX ?_|fail
  all_goals
   simp only [Dv,D1,Bw,List.length_map,List.length_set]
   exact rr
end Go.Proofs.YtakohhkgeeoniaaGreat
end
