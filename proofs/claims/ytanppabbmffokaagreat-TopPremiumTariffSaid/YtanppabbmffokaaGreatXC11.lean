import Derived.Test.YtanppabbmffokaaGreatXC10
import Derived.Shelf.Spec.SlicesInsert
import Derived.Lib.AppendZerosOnto
import Derived.Laws.NewBlocks
set_option linter.unusedSimpArgs false
set_option linter.unusedVariables false
section
namespace Go.Proofs.YtanppabbmffokaaGreat
open Go.Bx
set_option maxRecDepth 10000
def runG (L:List ((Int×Int)×Int)) (k:Nat):Int×Int:=(L.take k).foldl (fun s p=>(s.1+(p.1.2-p.1.1)*p.2,s.2+(p.1.2-p.1.1)*max p.2 (-p.2))) (0,0)
def badP (all:Int) (p:(Int×Int)×Int):Prop:=max p.2 (-p.2)>(4000000000000000000-all) / (p.1.2-p.1.1)
instance (all:Int) (p:(Int×Int)×Int):Decidable (badP all p):=inferInstanceAs (Decidable (_>_))
theorem runG_succ {L:List ((Int×Int)×Int)} {k:Nat} {p:(Int×Int)×Int} (h:L[k]?=some p):runG L (k+1)=((runG L k).1+(p.1.2-p.1.1)*p.2,(runG L k).2+(p.1.2-p.1.1)*max p.2 (-p.2)):=by
 rw [runG,List.take_add_one,h,List.foldl_append];rfl
theorem sumG_drop {L:List ((Int×Int)×Int)} {k:Nat} {p:(Int×Int)×Int} (h:L[k]?=some p):sumG (runG L k).1 (runG L k).2 (L.drop k)=if badP (runG L k).2 p then (0,5) else sumG (runG L (k+1)).1 (runG L (k+1)).2 (L.drop (k+1)):=by
 obtain ⟨hk,rfl⟩:=List.getElem?_eq_some_iff.1 h
 rw [List.drop_eq_getElem_cons hk,runG_succ h,sumG]
 rfl
structure PcOk (p:(Int×Int)×Int):Prop where
 fr:1≤p.1.1
 lt:p.1.1<p.1.2
 to:p.1.2≤292195
 v1:-4000000000000000000≤p.2
 v2:p.2≤4000000000000000000
theorem cut_ok {g:Int→Int} {a b:Int} {l:List ((Int×Int)×Int)} (h:Cut g a b l) (ha:1≤a) (hb:b≤292195) (hg:∀ d,-4000000000000000000≤g d∧g d≤4000000000000000000):∀ p,p∈l→PcOk p:=by
 induction h with
 |nil=>intro p hp;simp at hp
 |@cons a b c l hab _ hl ih =>
  intro p hp
  have:=hl.le
  rcases List.mem_cons.1 hp with rfl|hp
  ·exact ⟨ha,hab,by simp only;omega,(hg a).1,(hg a).2⟩
  ·exact ih (by omega) hb p hp
theorem badP_iff {all:Int} {p:(Int×Int)×Int} (hp:PcOk p):badP all p↔all+(p.1.2-p.1.1)*max p.2 (-p.2)>4000000000000000000:=by
 have h0:0<p.1.2-p.1.1:=by have:=hp.lt;omega
 have:=Int.le_ediv_iff_mul_le (a:=max p.2 (-p.2)) (b:=4000000000000000000-all) h0
 rw [Int.mul_comm] at this
 unfold badP
 omega
theorem run_inv {L:List ((Int×Int)×Int)} (hp:∀ p,p∈L→PcOk p):∀ {k:Nat},k≤L.length→(∀ j p,j<k→L[j]?=some p→¬ badP (runG L j).2 p)→0≤(runG L k).2∧(runG L k).2≤4000000000000000000∧(runG L k).1≤(runG L k).2∧-(runG L k).2≤(runG L k).1
 |0,_,_=>⟨Int.le_refl _,by simp [runG],Int.le_refl _,Int.le_refl _⟩
 |k+1,hk,hb=>by
  obtain ⟨h1,h2,h3,h4⟩:=run_inv hp (k:=k) (by omega) (fun j p hj hjp=>hb j p (by omega) hjp)
  have he:L[k]?=some L[k]:=List.getElem?_eq_getElem (by omega)
  have hpo:=hp L[k] (List.getElem_mem _)
  have hnb:=mt (badP_iff (all:=(runG L k).2) hpo).2 (hb k _ (Nat.lt_succ_self k) he)
  rw [runG_succ he]
  generalize L[k]=p at *
  have hn:0≤p.1.2-p.1.1:=by have:=hpo.lt;omega
  have m1:=Int.mul_le_mul_of_nonneg_left (show p.2≤max p.2 (-p.2) by omega) hn
  have m2:=Int.mul_le_mul_of_nonneg_left (show -p.2≤max p.2 (-p.2) by omega) hn
  rw [Int.mul_neg] at m2
  have m3:0≤(p.1.2-p.1.1)*max p.2 (-p.2):=Int.mul_nonneg hn (by omega)
  simp only
  omega
theorem bad_or (L:List ((Int×Int)×Int)):∀ (n:Nat),n≤L.length→(∃ K p,K<n∧L[K]?=some p∧badP (runG L K).2 p∧∀ j q,j<K→L[j]?=some q→¬ badP (runG L j).2 q)∨(∀ j q,j<n→L[j]?=some q→¬ badP (runG L j).2 q)
 |0,_=>.inr fun j q hj=>absurd hj (Nat.not_lt_zero j)
 |n+1,hn=>by
  rcases bad_or L n (by omega) with ⟨K,p,h1,h2,h3,h4⟩|h
  ·exact .inl ⟨K,p,by omega,h2,h3,h4⟩
  ·have he:L[n]?=some L[n]:=List.getElem?_eq_getElem (by omega)
   by_cases hb:badP (runG L n).2 L[n]
   ·exact .inl ⟨n,_,by omega,he,hb,h⟩
   ·refine .inr fun j q hj hq=>?_
    by_cases e:j=n
    ·subst e;rw [he] at hq;injection hq with hq;subst hq;exact hb
    ·exact h j q (by omega) hq
theorem sumG_take {L:List ((Int×Int)×Int)}:∀ {k:Nat},k≤L.length→(∀ j q,j<k→L[j]?=some q→¬ badP (runG L j).2 q)→sumG 0 0 L=sumG (runG L k).1 (runG L k).2 (L.drop k)
 |0,_,_=>rfl
 |k+1,hk,hb=>by
  have he:L[k]?=some L[k]:=List.getElem?_eq_getElem (by omega)
  rw [sumG_take (k:=k) (by omega) (fun j q hj hq=>hb j q (by omega) hq),sumG_drop he,if_neg (hb k _ (Nat.lt_succ_self k) he)]
def smOw (e s a:Int):List (Nat×Go.Bx.Own):=[(4,.fix [.d (.int .i64 0)]),(5,.fix [.d (.int .i64 e)]),(6,.fix [.d (.int .i64 s)]),(7,.fix [.d (.int .i64 a)])]
def smO1 (p:(Int×Int)×Int) (s a:Int):List (Nat×Go.Bx.Own):=[(4,.fix [.d (.int .i64 0)]),(5,.fix [.d (.int .i64 0)]),(6,.fix [.d (.int .i64 s)]),(7,.fix [.d (.int .i64 a)]),(8,.fix [.d (.int .i64 p.1.1),.d (.int .i64 p.1.2)])]
def smEn (P:List (Int×Int)) (a b:Int):List (Nat×V):=[(4,.own 4 0),(5,.own 5 0),(6,.own 6 0),(7,.own 7 0),(22,pcF P a b)]
def smE1 (p:(Int×Int)×Int):List (Nat×V):=[(4,.own 4 0),(5,.own 5 0),(6,.own 6 0),(7,.own 7 0),(8,.own 8 0),(9,.d (.int .i64 p.2))]
theorem sm_cli (e s a:Nat→Int):CliO [4,5,6,7] (fun k=>smOw (e k) (s k) (a k)):=by
 refine ⟨fun k=>by simp [smOw,keysO],fun k n hn=>?_,fun k n hn=>by simpa [smOw,keysO] using hn⟩
 simp only [smOw,ownNames,namesL,V.names,List.append_nil,List.nil_append] at hn
 simpa [smOw,keysO] using hn
theorem sm_cli1 (p:Nat→(Int×Int)×Int) (s a:Nat→Int):CliO [4,5,6,7] (fun k=>smO1 (p k) (s k) (a k)):=by
 refine ⟨fun k=>by simp [smO1,keysO],fun k n hn=>?_,fun k n hn=>?_⟩
 ·simp only [smO1,ownNames,namesL,V.names,List.append_nil,List.nil_append] at hn
  simpa [smO1,keysO] using hn
 ·simp only [List.mem_cons,List.not_mem_nil,or_false] at hn
  rcases hn with h|h|h|h<;>simp [smO1,keysO,h]
theorem sm_env (P:List (Int×Int)) (a b:Int):∀ s n,n∈(Go.Bx.get (smEn P a b) s).names→n∈[4,5,6,7]:=env_names fun s y hm n hn=>by
 simp only [smEn,pcF,List.mem_cons,Prod.mk.injEq,List.not_mem_nil,or_false] at hm
 rcases hm with ⟨rfl,rfl⟩|⟨rfl,rfl⟩|⟨rfl,rfl⟩|⟨rfl,rfl⟩|⟨rfl,rfl⟩<;>simp [V.names,namesL] at hn ⊢<;>simp [hn]
set_option maxHeartbeats 1000000 in
theorem sSumS (P:List (Int×Int)) (a b:Int) (hl:P.length≤1000000):Ctr Tryz.prog 30 [vSt P,vS a b] [] (.tup [.d (.int .i64 (sumS P a b).1),.d (.int .i64 (sumS P a b).2)]) [] []:=by
 have cr:=sRightS P (by omega)
 have cf:=sFullS a b
 have cp:=sPieces P a b
 simp only [vSt,cSt,slK,List.length_map] at cr
 simp only [vS] at cf
 simp only [vSt,cSt,slK,List.length_map,vS] at cp
 cases hR:stG 0 0 P with
 |false =>
  have e:sumS P a b=(0,1):=by rw [sumS,hR];rfl
  rw [hR] at cr
  rw [e]
  refine ctr_pureL Tryz.func30 ok30 rfl cc30 cr30 Tryz.ntmps30 (by simp) rfl rfl ?_;intro c hP hfn hrd;simp only [kc30,vSt,cSt,slK,List.length_map,vS,vcd,↓vcp,seval]
  repeat' first|((first|refine tp hP (by first|exact cr|exact cf) ?_|refine tg hP (fun _=>by first|exact cr|exact cf) ?_|refine tv hP rfl (by first|exact cr|exact cf) ?_);try simp only [vcd,↓vcp,seval])|refine ⟨fun h=>?_,fun h=>?_⟩|refine aO ?_|refine aT ?_|fail
  all_goals exact RetK.pure (by simp only [rs30,rsb,vcd,↓vcp,seval]) (by (simp only [rs30,rsb,enb,vcd,↓vcp,seval])<;>(first|exact VLe.refl _))
 |true =>
 rw [hR] at cr
 cases hF:fullB a b with
 |false =>
  have e:sumS P a b=(0,1):=by rw [sumS,hR,hF];rfl
  rw [hF] at cf
  rw [e]
  refine ctr_pureL Tryz.func30 ok30 rfl cc30 cr30 Tryz.ntmps30 (by simp) rfl rfl ?_;intro c hP hfn hrd;simp only [kc30,vSt,cSt,slK,List.length_map,vS,vcd,↓vcp,seval]
  repeat' first|((first|refine tp hP (by first|exact cr|exact cf) ?_|refine tg hP (fun _=>by first|exact cr|exact cf) ?_|refine tv hP rfl (by first|exact cr|exact cf) ?_);try simp only [vcd,↓vcp,seval])|refine ⟨fun h=>?_,fun h=>?_⟩|refine aO ?_|refine aT ?_|fail
  all_goals exact RetK.pure (by simp only [rs30,rsb,vcd,↓vcp,seval]) (by (simp only [rs30,rsb,enb,vcd,↓vcp,seval])<;>(first|exact VLe.refl _))
 |true =>
 rw [hF] at cf
 have e:sumS P a b=sumG 0 0 (pcL P a b):=by rw [sumS,hR,hF];rfl
 obtain ⟨hS1,hS2⟩:=stG_iff hR
 have hfb:1≤a∧a<b∧b≤292195:=by simp only [fullB,Bool.and_eq_true,decide_eq_true_eq] at hF;omega
 have hcut:Cut (valS P) a b (pcL P a b):=pieG_cut (by omega) (List.pairwise_map.2 hS2) fun d hd=>.inr hd
 have hpo:=cut_ok hcut hfb.1 hfb.2.2 (fun d=>by
  rcases valG_mem (P:=P) (cur:=0) (day:=d) with h|⟨p,hp,h⟩
  ·rw [valS,h];omega
  ·rw [valS,h];exact ⟨(hS1 p hp).2.2.1,(hS1 p hp).2.2.2⟩)
 have hI:=it_pieces P a b hS2 hl
 rw [e]
 refine ctr_pureL Tryz.func30 ok30 rfl cc30 cr30 Tryz.ntmps30 (by simp) rfl rfl ?_;intro c hP hfn hrd;simp only [kc30,vSt,cSt,slK,List.length_map,vS,vcd,↓vcp,seval]
 repeat' first|((first|refine tp hP (by first|exact cr|exact cf|exact cp) ?_|refine tg hP (fun _=>by first|exact cr|exact cf|exact cp) ?_|refine tv hP rfl (by first|exact cr|exact cf|exact cp) ?_);try simp only [vcd,↓vcp,seval])|refine ⟨fun h=>?_,fun h=>?_⟩|refine aO ?_|refine aT ?_|fail
 rw [←hP] at hI
 have hpk:∀ k,k<(pcL P a b).length→PcOk ((pcL P a b).getD k default)∧(pcL P a b)[k]?=some ((pcL P a b).getD k default):=fun k hk=>by
  obtain ⟨x,-,hg,hm,he⟩:=drop_at hk
  rw [hg];exact ⟨hpo x hm,he⟩
 clear cr cf cp
 rcases bad_or (pcL P a b) (pcL P a b).length (Nat.le_refl _) with ⟨K,p,hK,hp,hbad,hnb⟩|hnb
 ·have hres:sumG 0 0 (pcL P a b)=(0,5):=by rw [sumG_take (k:=K) (by omega) hnb,sumG_drop hp,if_pos hbad]
  rw [hres]
  refine vcC.rfnJ hI (K+1) (some .ret) (smEn P a b) [4,5,6,7] (fun k=>smOw (if k=K+1 then 5 else 0) (if k=K+1 then (runG (pcL P a b) K).1 else (runG (pcL P a b) k).1) (if k=K+1 then (runG (pcL P a b) K).2 else (runG (pcL P a b) k).2)) (fun k=>smO1 ((pcL P a b).getD k default) (runG (pcL P a b) k).1 (runG (pcL P a b) k).2) (fun k=>smE1 ((pcL P a b).getD k default)) ?_ rfl trivial
   ⟨hrd,sm_cli _ _ _,sm_cli1 _ _ _,fun n hn=>(by rw [hfn] at hn;cases hn),sm_env P a b,rfl,fun _=>rfl,fun _=>rfl,fun h=>(by cases h),fun _=>⟨by omega,by omega⟩,fun h=>(by cases h)⟩ ?_ ?_ (fun h=>by cases h) ?_
  ·refine Wk.of (b:=⟨smEn P a b,smOw 0 0 0,[4,5,6,7]⟩) _ hfn rfl ?_ ?_
   ·simp only [smEn,enb,vcd,↓vcp,seval]
   ·simp only [smOw,enb,vcd,↓vcp,seval]
  ·intro k hk cB hPB hfB
   have hne:¬ k=K+1:=by omega
   generalize runG (pcL P a b) k=r at *
   simp only [hne,if_false,setPs,pcArgs,vS,smOw,smEn,pcF,vcd,↓vcp,seval]
   rw [rfnA_nrm]
   refine Wk.of (b:=⟨smE1 ((pcL P a b).getD k default),smO1 ((pcL P a b).getD k default) r.1 r.2,[4,5,6,7,8]⟩) _ hfB rfl ?_ ?_
   ·simp only [smE1,enb,vcd,↓vcp,seval]
   ·simp only [smO1,enb,vcd,↓vcp,seval]
  ·intro k hk cB hPB hfB
   have hnb':∀ j q,j<k→(pcL P a b)[j]?=some q→¬ badP (runG (pcL P a b) j).2 q:=fun j q hj hq=>hnb j q (by omega) hq
   obtain ⟨i1,i2,i3,i4⟩:=run_inv hpo (k:=k) (by omega) hnb'
   obtain ⟨po,pe⟩:=hpk k (by omega)
   by_cases hkK:k=K
   ·subst hkK
    have hg:goAt (k+1) (some Ex.ret).isSome k=false:=by simp [goAt]
    rw [hp] at pe
    injection pe with pe
    rw [←pe] at po ⊢
    generalize runG (pcL P a b) k=r at *
    obtain ⟨r1,r2⟩:=r
    simp only at i1 i2 i3 i4
    obtain ⟨⟨q1,q2⟩,v⟩:=p
    obtain ⟨p1,p2,p3,p4,p5⟩:=po
    simp only at p1 p2 p3 p4 p5
    simp only [badP] at hbad
    have wn:IntKind.i64.wrap (q2-q1)=q2-q1:=wI (by omega)
    have wv:IntKind.i64.wrap (0-v)=-v:=(wI (by omega)).trans (by omega)
    have wm:IntKind.i64.wrap (4000000000000000000-r2)=4000000000000000000-r2:=wI (by omega)
    have hq:(4000000000000000000-r2).tdiv (q2-q1)=(4000000000000000000-r2) / (q2-q1):=Int.tdiv_eq_ediv_of_nonneg (by omega)
    have hq0:0≤(4000000000000000000-r2) / (q2-q1):=Int.ediv_nonneg (by omega) (by omega)
    have hq1:(4000000000000000000-r2) / (q2-q1)≤4000000000000000000-r2:=Int.ediv_le_self _ (by omega)
    have wq:IntKind.i64.wrap ((4000000000000000000-r2).tdiv (q2-q1))=(4000000000000000000-r2) / (q2-q1):=by rw [hq];exact wI (by omega)
    have hz:q2-q1≠0:=by omega
    have d0:decide (max v (-v)>(4000000000000000000-r2) / (q2-q1))=true:=decide_eq_true hbad
    simp only [hg,if_true]
    simp only [smO1,smE1,smOw,wn,wv,wm,wq,d0,vcd,↓vcp,seval]
    repeat' first|refine ⟨fun h=>?_,fun h=>?_⟩|refine aO ?_|refine aT ?_|fail
    all_goals exact Wk.of (b:=⟨[],smOw 5 r1 r2,[4,5,6,7]⟩) _ hfB rfl (by simp only [enb,vcd,↓vcp,seval]) (by simp only [smOw,enb,vcd,↓vcp,seval])
   ·have hg:goAt (K+1) (some Ex.ret).isSome k=true:=by simp [goAt];omega
    have hne:¬ k+1=K+1:=by omega
    have hsu:=runG_succ pe
    have hbk:=hnb k _ (by omega) pe
    rw [hsu]
    generalize (pcL P a b).getD k default=p at *
    generalize runG (pcL P a b) k=r at *
    obtain ⟨r1,r2⟩:=r
    simp only at i1 i2 i3 i4
    obtain ⟨⟨q1,q2⟩,v⟩:=p
    have hnbd:=mt (badP_iff (all:=r2) po).2 hbk
    obtain ⟨p1,p2,p3,p4,p5⟩:=po
    simp only at p1 p2 p3 p4 p5 hnbd
    simp only [badP] at hbk
    have wn:IntKind.i64.wrap (q2-q1)=q2-q1:=wI (by omega)
    have wv:IntKind.i64.wrap (0-v)=-v:=(wI (by omega)).trans (by omega)
    have wm:IntKind.i64.wrap (4000000000000000000-r2)=4000000000000000000-r2:=wI (by omega)
    have hq:(4000000000000000000-r2).tdiv (q2-q1)=(4000000000000000000-r2) / (q2-q1):=Int.tdiv_eq_ediv_of_nonneg (by omega)
    have hq0:0≤(4000000000000000000-r2) / (q2-q1):=Int.ediv_nonneg (by omega) (by omega)
    have hq1:(4000000000000000000-r2) / (q2-q1)≤4000000000000000000-r2:=Int.ediv_le_self _ (by omega)
    have wq:IntKind.i64.wrap ((4000000000000000000-r2).tdiv (q2-q1))=(4000000000000000000-r2) / (q2-q1):=by rw [hq];exact wI (by omega)
    have hz:q2-q1≠0:=by omega
    have hn:0≤q2-q1:=by omega
    have m1:=Int.mul_le_mul_of_nonneg_left (show v≤max v (-v) by omega) hn
    have m2:=Int.mul_le_mul_of_nonneg_left (show -v≤max v (-v) by omega) hn
    rw [Int.mul_neg] at m2
    have m3:0≤(q2-q1)*max v (-v):=Int.mul_nonneg hn (by omega)
    have d0:decide (max v (-v)>(4000000000000000000-r2) / (q2-q1))=false:=decide_eq_false hbk
    have wx:IntKind.i64.wrap ((q2-q1)*v)=(q2-q1)*v:=wI (by omega)
    have wy:IntKind.i64.wrap ((q2-q1)*max v (-v))=(q2-q1)*max v (-v):=wI (by omega)
    have w1:IntKind.i64.wrap (r1+(q2-q1)*v)=r1+(q2-q1)*v:=wI (by omega)
    have w2:IntKind.i64.wrap (r2+(q2-q1)*max v (-v))=r2+(q2-q1)*max v (-v):=wI (by omega)
    clear m1 m2 m3 hq hq0 hq1 hnbd hbk
    simp only [hg,hne,if_false]
    simp only [smO1,smE1,smOw,wn,wv,wm,wq,d0,wx,wy,w1,w2,vcd,↓vcp,seval]
    repeat' first|refine ⟨fun h=>?_,fun h=>?_⟩|refine aO ?_|refine aT ?_|fail
    all_goals exact Wk.of (b:=⟨[],smOw 0 (r1+(q2-q1)*v) (r2+(q2-q1)*max v (-v)),[4,5,6,7]⟩) _ hfB rfl (by simp only [enb,vcd,↓vcp,seval]) (by simp only [smOw,w1,w2,enb,vcd,↓vcp,seval])
  ·intro e he
   injection he with he
   subst he
   simp only [if_true,smEn,pcF,smOw,vcd,↓vcp,seval]
   exact RetK.pure (by simp only [rs30,rsb,vcd,↓vcp,seval]) (by (simp only [rs30,rsb,enb,vcd,↓vcp,seval])<;>(first|exact VLe.refl _))
 ·have hres:sumG 0 0 (pcL P a b)=((runG (pcL P a b) (pcL P a b).length).1,0):=by rw [sumG_take (Nat.le_refl _) hnb,List.drop_length];rfl
  rw [hres]
  refine vcC.rfnAll hI (smEn P a b) [4,5,6,7] (fun k=>smOw 0 (runG (pcL P a b) k).1 (runG (pcL P a b) k).2) (fun k=>smO1 ((pcL P a b).getD k default) (runG (pcL P a b) k).1 (runG (pcL P a b) k).2) (fun k=>smE1 ((pcL P a b).getD k default)) ?_ rfl trivial
   ⟨hrd,sm_cli _ _ _,sm_cli1 _ _ _,fun n hn=>(by rw [hfn] at hn;cases hn),sm_env P a b,rfl,fun _=>rfl,fun _=>rfl,fun _=>rfl,fun h=>absurd rfl h,fun h=>(by cases h)⟩ ?_ ?_ ?_
  ·refine Wk.of (b:=⟨smEn P a b,smOw 0 0 0,[4,5,6,7]⟩) _ hfn rfl ?_ ?_
   ·simp only [smEn,enb,vcd,↓vcp,seval]
   ·simp only [smOw,enb,vcd,↓vcp,seval]
  ·intro k hk cB hPB hfB
   generalize runG (pcL P a b) k=r at *
   simp only [setPs,pcArgs,vS,smOw,smEn,pcF,vcd,↓vcp,seval]
   rw [rfnA_nrm]
   refine Wk.of (b:=⟨smE1 ((pcL P a b).getD k default),smO1 ((pcL P a b).getD k default) r.1 r.2,[4,5,6,7,8]⟩) _ hfB rfl ?_ ?_
   ·simp only [smE1,enb,vcd,↓vcp,seval]
   ·simp only [smO1,enb,vcd,↓vcp,seval]
  ·intro k hk cB hPB hfB
   have hnb':∀ j q,j<k→(pcL P a b)[j]?=some q→¬ badP (runG (pcL P a b) j).2 q:=fun j q hj hq=>hnb j q (by omega) hq
   obtain ⟨i1,i2,i3,i4⟩:=run_inv hpo (k:=k) (by omega) hnb'
   obtain ⟨po,pe⟩:=hpk k hk
   have hsu:=runG_succ pe
   have hbk:=hnb k _ hk pe
   rw [hsu]
   generalize (pcL P a b).getD k default=p at *
   generalize runG (pcL P a b) k=r at *
   obtain ⟨r1,r2⟩:=r
   simp only at i1 i2 i3 i4
   obtain ⟨⟨q1,q2⟩,v⟩:=p
   have hnbd:=mt (badP_iff (all:=r2) po).2 hbk
   obtain ⟨p1,p2,p3,p4,p5⟩:=po
   simp only at p1 p2 p3 p4 p5 hnbd
   simp only [badP] at hbk
   have wn:IntKind.i64.wrap (q2-q1)=q2-q1:=wI (by omega)
   have wv:IntKind.i64.wrap (0-v)=-v:=(wI (by omega)).trans (by omega)
   have wm:IntKind.i64.wrap (4000000000000000000-r2)=4000000000000000000-r2:=wI (by omega)
   have hq:(4000000000000000000-r2).tdiv (q2-q1)=(4000000000000000000-r2) / (q2-q1):=Int.tdiv_eq_ediv_of_nonneg (by omega)
   have hq0:0≤(4000000000000000000-r2) / (q2-q1):=Int.ediv_nonneg (by omega) (by omega)
   have hq1:(4000000000000000000-r2) / (q2-q1)≤4000000000000000000-r2:=Int.ediv_le_self _ (by omega)
   have wq:IntKind.i64.wrap ((4000000000000000000-r2).tdiv (q2-q1))=(4000000000000000000-r2) / (q2-q1):=by rw [hq];exact wI (by omega)
   have hz:q2-q1≠0:=by omega
   have hn:0≤q2-q1:=by omega
   have m1:=Int.mul_le_mul_of_nonneg_left (show v≤max v (-v) by omega) hn
   have m2:=Int.mul_le_mul_of_nonneg_left (show -v≤max v (-v) by omega) hn
   rw [Int.mul_neg] at m2
   have m3:0≤(q2-q1)*max v (-v):=Int.mul_nonneg hn (by omega)
   have d0:decide (max v (-v)>(4000000000000000000-r2) / (q2-q1))=false:=decide_eq_false hbk
   have wx:IntKind.i64.wrap ((q2-q1)*v)=(q2-q1)*v:=wI (by omega)
   have wy:IntKind.i64.wrap ((q2-q1)*max v (-v))=(q2-q1)*max v (-v):=wI (by omega)
   have w1:IntKind.i64.wrap (r1+(q2-q1)*v)=r1+(q2-q1)*v:=wI (by omega)
   have w2:IntKind.i64.wrap (r2+(q2-q1)*max v (-v))=r2+(q2-q1)*max v (-v):=wI (by omega)
   clear m1 m2 m3 hq hq0 hq1 hnbd hbk
   skip
   simp only [smO1,smE1,smOw,wn,wv,wm,wq,d0,wx,wy,w1,w2,vcd,↓vcp,seval]
   repeat' first|refine ⟨fun h=>?_,fun h=>?_⟩|refine aO ?_|refine aT ?_|fail
   all_goals exact Wk.of (b:=⟨[],smOw 0 (r1+(q2-q1)*v) (r2+(q2-q1)*max v (-v)),[4,5,6,7]⟩) _ hfB rfl (by simp only [enb,vcd,↓vcp,seval]) (by simp only [smOw,w1,w2,enb,vcd,↓vcp,seval])
  ·generalize runG (pcL P a b) (pcL P a b).length=r at *
   simp only [smEn,pcF,smOw,vcd,↓vcp,seval]
   exact RetK.pure (by simp only [rs30,rsb,vcd,↓vcp,seval]) (by (simp only [rs30,rsb,enb,vcd,↓vcp,seval])<;>(first|exact VLe.refl _))
end Go.Proofs.YtanppabbmffokaaGreat
end
section
namespace Go.Proofs.YtanppabbmffokaaGreat
open Go.Bx
set_option maxRecDepth 10000
theorem sFullSl (s:Sl) (e:Int):Ctr Tryz.prog 98 [vSl s,.d (.int .i64 e)] [] (.d (.bool (fullSl s e))) [] []:=by
 refine ctr_pure Tryz.func98 ok98 rfl cc98 cr98 Tryz.ntmps98 (by simp) rfl rfl ?_;intro c hP hfn;simp only [kc98,vSl,cSl,slC,vcd,↓vcp,seval]
 repeat' first|refine ⟨fun h=>?_,fun h=>?_⟩|refine aO ?_|refine aT ?_|fail
 exact RetK.pure (by simp only [rs98,rsb,vcd,↓vcp,seval]) (by (simp only [rs98,rsb,enb,vcd,↓vcp,seval])<;>(first|simp only [fullSl,Bool.and_assoc]))
def popC (P:List (Int×Int)) (day:Int):Prop:=0<P.length∧(P.getD (P.length-1) (0,0)).1=day
def pushC (P:List (Int×Int)) (day v:Int):Prop:=v≠(P.getD (P.length-1) (0,0)).2∧day≤292194
instance (P:List (Int×Int)) (day:Int):Decidable (popC P day):=inferInstanceAs (Decidable (_∧_))
instance (P:List (Int×Int)) (day v:Int):Decidable (pushC P day v):=inferInstanceAs (Decidable (_∧_))
def rowA (P:List (Int×Int)):Go.Bx.Own:=.row 3 1 P.length (fun i=>[.int .i64 (P.getD i (0,0)).1])
def rowV (P:List (Int×Int)):Go.Bx.Own:=.row 3 1 P.length (fun i=>[.int .i64 (P.getD i (0,0)).2])
theorem take_getD {P:List (Int×Int)} {n i:Nat} (h:i<n):(P.take n).getD i (0,0)=P.getD i (0,0):=by
 simp [List.getD_eq_getElem?_getD,List.getElem?_take,h]
set_option maxHeartbeats 2000000 in
theorem sAdd11 (P:List (Int×Int)) (day v:Int) (hl:P.length≤100000) (hc:popC P day) (hp:pushC (popP P day) day v) :
  Ctr Tryz.prog 97 [.d (.int .i64 day),.d (.int .i64 v),.own 903 0] [(903,.fix [.osl 1000,.osl 1001]),(1000,rowA P),(1001,rowV P)] (.tup []) [(903,.fix [.osl 1002,.osl 1003]),(1002,rowA (addP P day v)),(1003,rowV (addP P day v))] [1002,1003]:=by
 refine ctr_ownW Tryz.func97 ok97 rfl cc97 cr97 Tryz.ntmps97 (by simp) rfl ?_
 intro c hP hfn
 have e:popP P day=(P.take (P.length-1)):=if_pos hc
 have e2:addP P day v=((P.take (P.length-1))++[(day,v)]):=(if_pos hp).trans (by rw [e])
 rw [e] at hp
 rw [e2]
 obtain ⟨h1,h2⟩:=hc
 have d0:decide ((P.length:Int)>0)=true:=decide_eq_true (by omega)
 have w1:IntKind.i64.wrap ((P.length:Int)-1)=((P.length-1:Nat):Int):=(wI (by omega)).trans (by omega)
 have b1:(0:Int)≤((P.length-1:Nat):Int)∧((P.length-1:Nat):Int)<(P.length:Int):=by omega
 have b2:(0:Int)≤((P.length-1:Nat):Int)∧((P.length-1:Nat):Int)≤(P.length:Int):=by omega
 have d1:((P.getD (P.length-1) (0,0)).1 == day)=true:=beq_iff_eq.2 h2
 simp only [namesL,V.names,ownNames,rowA,rowV,d0,w1,d1,vcd,↓vcp,seval]
 repeat' first|refine ⟨fun h=>?_,fun h=>?_⟩|refine aO ?_|refine aT ?_|fail
 rw [seqW_nrm]
 refine ⟨⟨[(0,.d (.int .i64 day)),(1,.d (.int .i64 v)),(2,.own 903 0)],[(903,.fix [.osl 1004,.osl 1005]),(1004,rowA (P.take (P.length-1))),(1005,rowV (P.take (P.length-1)))],[903,1000,1001,1004,1005]⟩,(Wk.shr 1000 1004 (P.length-1) rfl (by omega) (by simp)).trans ((Wk.shr 1001 1005 (P.length-1) rfl (by omega) (by simp)).trans (Wk.of _ hfn rfl (by simp only [enb,vcd,↓vcp,seval]) ?_)),?_⟩
 ·simp only [rowA,rowV,enb,vcd,↓vcp,seval]
  exact ⟨OLe.row (by rw [List.length_take];omega) fun i hi=>by rw [take_getD hi],OLe.row (by rw [List.length_take];omega) fun i hi=>by rw [take_getD hi]⟩
 clear d0 w1 b1 b2 d1 h2 e e2
 have hQl:(P.take (P.length-1)).length≤100000:=by rw [List.length_take];omega
 generalize P.take (P.length-1)=Q at *
 by_cases h0:Q.length=0
 ·have hx:((v != (Q.getD (Q.length-1) (0,0)).2)&&decide (day≤292194))=true:=by rw [Bool.and_eq_true,bne_iff_ne,decide_eq_true_eq];exact hp
  have hroom:(Q.length+1)*8≤140737488355328∧Q.length+1≤maxLen:=⟨by omega,by simp only [maxLen];omega⟩
  have g0:decide ((Q.length:Int)>0)=false:=decide_eq_false (by omega)
  have gl:(Q.getD (Q.length-1) (0,0)).2=0:=by
   have:Q=[]:=List.eq_nil_of_length_eq_zero (by omega)
   rw [this];rfl
  rw [gl] at hx
  simp only [rowA,rowV,g0,hx,vcd,↓vcp,seval]
  repeat' first|refine ⟨fun h=>?_,fun h=>?_⟩|refine aO ?_|refine aT ?_|fail
  refine RetK.mk' _ ((Wk.sw 57 1002 _ hfn (by simp [namesL,V.names,ownNames,rowA,rowV]) (by simp [namesL,V.names,ownNames,rowA,rowV])).trans (Wk.sw 62 1003 _ hfn (by simp [namesL,V.names,ownNames,rowA,rowV]) (by simp [namesL,V.names,ownNames,rowA,rowV]))) (by simp only [rs97,rsb,vcd,↓vcp,seval]) (by simp only [rs97,rsb,enb,vcd,↓vcp,seval]) ?_
  simp only [rowA,rowV,enb,vcd,↓vcp,seval]
  exact ⟨OLe.app1 (fun p:Int×Int=>[.int .i64 p.1]) (fun i hi=>by simp [hi]) (by simp [litRow]),OLe.app1 (fun p:Int×Int=>[.int .i64 p.2]) (fun i hi=>by simp [hi]) (by simp [litRow])⟩
 ·have hx:((v != (Q.getD (Q.length-1) (0,0)).2)&&decide (day≤292194))=true:=by rw [Bool.and_eq_true,bne_iff_ne,decide_eq_true_eq];exact hp
  have hroom:(Q.length+1)*8≤140737488355328∧Q.length+1≤maxLen:=⟨by omega,by simp only [maxLen];omega⟩
  have g0:decide ((Q.length:Int)>0)=true:=decide_eq_true (by omega)
  have v1:IntKind.i64.wrap ((Q.length:Int)-1)=((Q.length-1:Nat):Int):=(wI (by omega)).trans (by omega)
  have c1:(0:Int)≤((Q.length-1:Nat):Int)∧((Q.length-1:Nat):Int)<(Q.length:Int):=by omega
  simp only [rowA,rowV,g0,v1,hx,vcd,↓vcp,seval]
  repeat' first|refine ⟨fun h=>?_,fun h=>?_⟩|refine aO ?_|refine aT ?_|fail
  refine RetK.mk' _ ((Wk.sw 57 1002 _ hfn (by simp [namesL,V.names,ownNames,rowA,rowV]) (by simp [namesL,V.names,ownNames,rowA,rowV])).trans (Wk.sw 62 1003 _ hfn (by simp [namesL,V.names,ownNames,rowA,rowV]) (by simp [namesL,V.names,ownNames,rowA,rowV]))) (by simp only [rs97,rsb,vcd,↓vcp,seval]) (by simp only [rs97,rsb,enb,vcd,↓vcp,seval]) ?_
  simp only [rowA,rowV,enb,vcd,↓vcp,seval]
  exact ⟨OLe.app1 (fun p:Int×Int=>[.int .i64 p.1]) (fun i hi=>by simp [hi]) (by simp [litRow]),OLe.app1 (fun p:Int×Int=>[.int .i64 p.2]) (fun i hi=>by simp [hi]) (by simp [litRow])⟩
set_option maxHeartbeats 2000000 in
theorem sAdd10 (P:List (Int×Int)) (day v:Int) (hl:P.length≤100000) (hc:popC P day) (hp:¬ pushC (popP P day) day v) :
  Ctr Tryz.prog 97 [.d (.int .i64 day),.d (.int .i64 v),.own 903 0] [(903,.fix [.osl 1000,.osl 1001]),(1000,rowA P),(1001,rowV P)] (.tup []) [(903,.fix [.osl 1002,.osl 1003]),(1002,rowA (addP P day v)),(1003,rowV (addP P day v))] [1002,1003]:=by
 refine ctr_ownW Tryz.func97 ok97 rfl cc97 cr97 Tryz.ntmps97 (by simp) rfl ?_
 intro c hP hfn
 have e:popP P day=(P.take (P.length-1)):=if_pos hc
 have e2:addP P day v=(P.take (P.length-1)):=(if_neg hp).trans (by rw [e])
 rw [e] at hp
 rw [e2]
 obtain ⟨h1,h2⟩:=hc
 have d0:decide ((P.length:Int)>0)=true:=decide_eq_true (by omega)
 have w1:IntKind.i64.wrap ((P.length:Int)-1)=((P.length-1:Nat):Int):=(wI (by omega)).trans (by omega)
 have b1:(0:Int)≤((P.length-1:Nat):Int)∧((P.length-1:Nat):Int)<(P.length:Int):=by omega
 have b2:(0:Int)≤((P.length-1:Nat):Int)∧((P.length-1:Nat):Int)≤(P.length:Int):=by omega
 have d1:((P.getD (P.length-1) (0,0)).1 == day)=true:=beq_iff_eq.2 h2
 simp only [namesL,V.names,ownNames,rowA,rowV,d0,w1,d1,vcd,↓vcp,seval]
 repeat' first|refine ⟨fun h=>?_,fun h=>?_⟩|refine aO ?_|refine aT ?_|fail
 rw [seqW_nrm]
 refine ⟨⟨[(0,.d (.int .i64 day)),(1,.d (.int .i64 v)),(2,.own 903 0)],[(903,.fix [.osl 1004,.osl 1005]),(1004,rowA (P.take (P.length-1))),(1005,rowV (P.take (P.length-1)))],[903,1000,1001,1004,1005]⟩,(Wk.shr 1000 1004 (P.length-1) rfl (by omega) (by simp)).trans ((Wk.shr 1001 1005 (P.length-1) rfl (by omega) (by simp)).trans (Wk.of _ hfn rfl (by simp only [enb,vcd,↓vcp,seval]) ?_)),?_⟩
 ·simp only [rowA,rowV,enb,vcd,↓vcp,seval]
  exact ⟨OLe.row (by rw [List.length_take];omega) fun i hi=>by rw [take_getD hi],OLe.row (by rw [List.length_take];omega) fun i hi=>by rw [take_getD hi]⟩
 clear d0 w1 b1 b2 d1 h2 e e2
 have hQl:(P.take (P.length-1)).length≤100000:=by rw [List.length_take];omega
 generalize P.take (P.length-1)=Q at *
 by_cases h0:Q.length=0
 ·have hx:((v != (Q.getD (Q.length-1) (0,0)).2)&&decide (day≤292194))=false:=by
   rw [Bool.and_eq_false_iff,bne_eq_false_iff_eq,decide_eq_false_iff_not]
   by_cases h:v=(Q.getD (Q.length-1) (0,0)).2
   ·exact .inl h
   ·exact .inr fun g=>hp ⟨h,g⟩
  have hroom:(Q.length+1)*8≤140737488355328∧Q.length+1≤maxLen:=⟨by omega,by simp only [maxLen];omega⟩
  have g0:decide ((Q.length:Int)>0)=false:=decide_eq_false (by omega)
  have gl:(Q.getD (Q.length-1) (0,0)).2=0:=by
   have:Q=[]:=List.eq_nil_of_length_eq_zero (by omega)
   rw [this];rfl
  rw [gl] at hx
  simp only [rowA,rowV,g0,hx,vcd,↓vcp,seval]
  repeat' first|refine ⟨fun h=>?_,fun h=>?_⟩|refine aO ?_|refine aT ?_|fail
  refine RetK.mk' _ ((Wk.sw 1004 1002 _ hfn (by simp [namesL,V.names,ownNames,rowA,rowV]) (by simp [namesL,V.names,ownNames,rowA,rowV])).trans (Wk.sw 1005 1003 _ hfn (by simp [namesL,V.names,ownNames,rowA,rowV]) (by simp [namesL,V.names,ownNames,rowA,rowV]))) (by simp only [rs97,rsb,vcd,↓vcp,seval]) (by simp only [rs97,rsb,enb,vcd,↓vcp,seval]) ?_
  simp only [rowA,rowV,enb,vcd,↓vcp,seval]
 ·have hx:((v != (Q.getD (Q.length-1) (0,0)).2)&&decide (day≤292194))=false:=by
   rw [Bool.and_eq_false_iff,bne_eq_false_iff_eq,decide_eq_false_iff_not]
   by_cases h:v=(Q.getD (Q.length-1) (0,0)).2
   ·exact .inl h
   ·exact .inr fun g=>hp ⟨h,g⟩
  have hroom:(Q.length+1)*8≤140737488355328∧Q.length+1≤maxLen:=⟨by omega,by simp only [maxLen];omega⟩
  have g0:decide ((Q.length:Int)>0)=true:=decide_eq_true (by omega)
  have v1:IntKind.i64.wrap ((Q.length:Int)-1)=((Q.length-1:Nat):Int):=(wI (by omega)).trans (by omega)
  have c1:(0:Int)≤((Q.length-1:Nat):Int)∧((Q.length-1:Nat):Int)<(Q.length:Int):=by omega
  simp only [rowA,rowV,g0,v1,hx,vcd,↓vcp,seval]
  repeat' first|refine ⟨fun h=>?_,fun h=>?_⟩|refine aO ?_|refine aT ?_|fail
  refine RetK.mk' _ ((Wk.sw 1004 1002 _ hfn (by simp [namesL,V.names,ownNames,rowA,rowV]) (by simp [namesL,V.names,ownNames,rowA,rowV])).trans (Wk.sw 1005 1003 _ hfn (by simp [namesL,V.names,ownNames,rowA,rowV]) (by simp [namesL,V.names,ownNames,rowA,rowV]))) (by simp only [rs97,rsb,vcd,↓vcp,seval]) (by simp only [rs97,rsb,enb,vcd,↓vcp,seval]) ?_
  simp only [rowA,rowV,enb,vcd,↓vcp,seval]
set_option maxHeartbeats 2000000 in
theorem sAdd01 (P:List (Int×Int)) (day v:Int) (hl:P.length≤100000) (hc:¬ popC P day) (hp:pushC (popP P day) day v) :
  Ctr Tryz.prog 97 [.d (.int .i64 day),.d (.int .i64 v),.own 903 0] [(903,.fix [.osl 1000,.osl 1001]),(1000,rowA P),(1001,rowV P)] (.tup []) [(903,.fix [.osl 1002,.osl 1003]),(1002,rowA (addP P day v)),(1003,rowV (addP P day v))] [1002,1003]:=by
 refine ctr_ownW Tryz.func97 ok97 rfl cc97 cr97 Tryz.ntmps97 (by simp) rfl ?_
 intro c hP hfn
 have e:popP P day=P:=if_neg hc
 have e2:addP P day v=(P++[(day,v)]):=(if_pos hp).trans (by rw [e])
 rw [e] at hp
 rw [e2]
 have hcond:(decide ((P.length:Int)>0)&&((P.getD (P.length-1) (0,0)).1 == day))=false:=by
  rw [Bool.and_eq_false_iff,decide_eq_false_iff_not,beq_eq_false_iff_ne]
  by_cases h:0<P.length
  ·exact .inr fun e=>hc ⟨h,e⟩
  ·exact .inl (by omega)
 by_cases h0:P.length=0
 ·have d0:decide ((P.length:Int)>0)=false:=decide_eq_false (by omega)
  simp only [namesL,V.names,ownNames,rowA,rowV,d0,vcd,↓vcp,seval]
  repeat' first|refine ⟨fun h=>?_,fun h=>?_⟩|refine aO ?_|refine aT ?_|fail
  rw [seqW_nrm]
  refine ⟨⟨[(0,.d (.int .i64 day)),(1,.d (.int .i64 v)),(2,.own 903 0)],[(903,.fix [.osl 1000,.osl 1001]),(1000,rowA P),(1001,rowV P)],[903,1000,1001]⟩,Wk.of _ hfn rfl (by simp only [enb,vcd,↓vcp,seval]) (by simp only [rowA,rowV,enb,vcd,↓vcp,seval]),?_⟩
  have hx:((v != (P.getD (P.length-1) (0,0)).2)&&decide (day≤292194))=true:=by rw [Bool.and_eq_true,bne_iff_ne,decide_eq_true_eq];exact hp
  have hroom:(P.length+1)*8≤140737488355328∧P.length+1≤maxLen:=⟨by omega,by simp only [maxLen];omega⟩
  have g0:decide ((P.length:Int)>0)=false:=decide_eq_false (by omega)
  have gl:(P.getD (P.length-1) (0,0)).2=0:=by
   have:P=[]:=List.eq_nil_of_length_eq_zero (by omega)
   rw [this];rfl
  rw [gl] at hx
  simp only [rowA,rowV,g0,hx,vcd,↓vcp,seval]
  repeat' first|refine ⟨fun h=>?_,fun h=>?_⟩|refine aO ?_|refine aT ?_|fail
  refine RetK.mk' _ ((Wk.sw 57 1002 _ hfn (by simp [namesL,V.names,ownNames,rowA,rowV]) (by simp [namesL,V.names,ownNames,rowA,rowV])).trans (Wk.sw 62 1003 _ hfn (by simp [namesL,V.names,ownNames,rowA,rowV]) (by simp [namesL,V.names,ownNames,rowA,rowV]))) (by simp only [rs97,rsb,vcd,↓vcp,seval]) (by simp only [rs97,rsb,enb,vcd,↓vcp,seval]) ?_
  simp only [rowA,rowV,enb,vcd,↓vcp,seval]
  exact ⟨OLe.app1 (fun p:Int×Int=>[.int .i64 p.1]) (fun i hi=>by simp [hi]) (by simp [litRow]),OLe.app1 (fun p:Int×Int=>[.int .i64 p.2]) (fun i hi=>by simp [hi]) (by simp [litRow])⟩
 ·have d0:decide ((P.length:Int)>0)=true:=decide_eq_true (by omega)
  have w1:IntKind.i64.wrap ((P.length:Int)-1)=((P.length-1:Nat):Int):=(wI (by omega)).trans (by omega)
  have b1:(0:Int)≤((P.length-1:Nat):Int)∧((P.length-1:Nat):Int)<(P.length:Int):=by omega
  have d1:((P.getD (P.length-1) (0,0)).1 == day)=false:=by rw [d0,Bool.true_and] at hcond;exact hcond
  simp only [namesL,V.names,ownNames,rowA,rowV,d0,w1,d1,vcd,↓vcp,seval]
  repeat' first|refine ⟨fun h=>?_,fun h=>?_⟩|refine aO ?_|refine aT ?_|fail
  rw [seqW_nrm]
  refine ⟨⟨[(0,.d (.int .i64 day)),(1,.d (.int .i64 v)),(2,.own 903 0)],[(903,.fix [.osl 1000,.osl 1001]),(1000,rowA P),(1001,rowV P)],[903,1000,1001]⟩,Wk.of _ hfn rfl (by simp only [enb,vcd,↓vcp,seval]) (by simp only [rowA,rowV,enb,vcd,↓vcp,seval]),?_⟩
  clear d0 w1 b1 d1
  have hx:((v != (P.getD (P.length-1) (0,0)).2)&&decide (day≤292194))=true:=by rw [Bool.and_eq_true,bne_iff_ne,decide_eq_true_eq];exact hp
  have hroom:(P.length+1)*8≤140737488355328∧P.length+1≤maxLen:=⟨by omega,by simp only [maxLen];omega⟩
  have g0:decide ((P.length:Int)>0)=true:=decide_eq_true (by omega)
  have v1:IntKind.i64.wrap ((P.length:Int)-1)=((P.length-1:Nat):Int):=(wI (by omega)).trans (by omega)
  have c1:(0:Int)≤((P.length-1:Nat):Int)∧((P.length-1:Nat):Int)<(P.length:Int):=by omega
  simp only [rowA,rowV,g0,v1,hx,vcd,↓vcp,seval]
  repeat' first|refine ⟨fun h=>?_,fun h=>?_⟩|refine aO ?_|refine aT ?_|fail
  refine RetK.mk' _ ((Wk.sw 57 1002 _ hfn (by simp [namesL,V.names,ownNames,rowA,rowV]) (by simp [namesL,V.names,ownNames,rowA,rowV])).trans (Wk.sw 62 1003 _ hfn (by simp [namesL,V.names,ownNames,rowA,rowV]) (by simp [namesL,V.names,ownNames,rowA,rowV]))) (by simp only [rs97,rsb,vcd,↓vcp,seval]) (by simp only [rs97,rsb,enb,vcd,↓vcp,seval]) ?_
  simp only [rowA,rowV,enb,vcd,↓vcp,seval]
  exact ⟨OLe.app1 (fun p:Int×Int=>[.int .i64 p.1]) (fun i hi=>by simp [hi]) (by simp [litRow]),OLe.app1 (fun p:Int×Int=>[.int .i64 p.2]) (fun i hi=>by simp [hi]) (by simp [litRow])⟩
set_option maxHeartbeats 2000000 in
theorem sAdd00 (P:List (Int×Int)) (day v:Int) (hl:P.length≤100000) (hc:¬ popC P day) (hp:¬ pushC (popP P day) day v) :
  Ctr Tryz.prog 97 [.d (.int .i64 day),.d (.int .i64 v),.own 903 0] [(903,.fix [.osl 1000,.osl 1001]),(1000,rowA P),(1001,rowV P)] (.tup []) [(903,.fix [.osl 1000,.osl 1001]),(1000,rowA (addP P day v)),(1001,rowV (addP P day v))] []:=by
 refine ctr_ownW Tryz.func97 ok97 rfl cc97 cr97 Tryz.ntmps97 (by simp) rfl ?_
 intro c hP hfn
 have e:popP P day=P:=if_neg hc
 have e2:addP P day v=P:=(if_neg hp).trans (by rw [e])
 rw [e] at hp
 rw [e2]
 have hcond:(decide ((P.length:Int)>0)&&((P.getD (P.length-1) (0,0)).1 == day))=false:=by
  rw [Bool.and_eq_false_iff,decide_eq_false_iff_not,beq_eq_false_iff_ne]
  by_cases h:0<P.length
  ·exact .inr fun e=>hc ⟨h,e⟩
  ·exact .inl (by omega)
 by_cases h0:P.length=0
 ·have d0:decide ((P.length:Int)>0)=false:=decide_eq_false (by omega)
  simp only [namesL,V.names,ownNames,rowA,rowV,d0,vcd,↓vcp,seval]
  repeat' first|refine ⟨fun h=>?_,fun h=>?_⟩|refine aO ?_|refine aT ?_|fail
  rw [seqW_nrm]
  refine ⟨⟨[(0,.d (.int .i64 day)),(1,.d (.int .i64 v)),(2,.own 903 0)],[(903,.fix [.osl 1000,.osl 1001]),(1000,rowA P),(1001,rowV P)],[903,1000,1001]⟩,Wk.of _ hfn rfl (by simp only [enb,vcd,↓vcp,seval]) (by simp only [rowA,rowV,enb,vcd,↓vcp,seval]),?_⟩
  have hx:((v != (P.getD (P.length-1) (0,0)).2)&&decide (day≤292194))=false:=by
   rw [Bool.and_eq_false_iff,bne_eq_false_iff_eq,decide_eq_false_iff_not]
   by_cases h:v=(P.getD (P.length-1) (0,0)).2
   ·exact .inl h
   ·exact .inr fun g=>hp ⟨h,g⟩
  have hroom:(P.length+1)*8≤140737488355328∧P.length+1≤maxLen:=⟨by omega,by simp only [maxLen];omega⟩
  have g0:decide ((P.length:Int)>0)=false:=decide_eq_false (by omega)
  have gl:(P.getD (P.length-1) (0,0)).2=0:=by
   have:P=[]:=List.eq_nil_of_length_eq_zero (by omega)
   rw [this];rfl
  rw [gl] at hx
  simp only [rowA,rowV,g0,hx,vcd,↓vcp,seval]
  repeat' first|refine ⟨fun h=>?_,fun h=>?_⟩|refine aO ?_|refine aT ?_|fail
  refine RetK.mk' _ (Wk.refl _ _) (by simp only [rs97,rsb,vcd,↓vcp,seval]) (by simp only [rs97,rsb,enb,vcd,↓vcp,seval]) ?_
  simp only [rowA,rowV,enb,vcd,↓vcp,seval]
 ·have d0:decide ((P.length:Int)>0)=true:=decide_eq_true (by omega)
  have w1:IntKind.i64.wrap ((P.length:Int)-1)=((P.length-1:Nat):Int):=(wI (by omega)).trans (by omega)
  have b1:(0:Int)≤((P.length-1:Nat):Int)∧((P.length-1:Nat):Int)<(P.length:Int):=by omega
  have d1:((P.getD (P.length-1) (0,0)).1 == day)=false:=by rw [d0,Bool.true_and] at hcond;exact hcond
  simp only [namesL,V.names,ownNames,rowA,rowV,d0,w1,d1,vcd,↓vcp,seval]
  repeat' first|refine ⟨fun h=>?_,fun h=>?_⟩|refine aO ?_|refine aT ?_|fail
  rw [seqW_nrm]
  refine ⟨⟨[(0,.d (.int .i64 day)),(1,.d (.int .i64 v)),(2,.own 903 0)],[(903,.fix [.osl 1000,.osl 1001]),(1000,rowA P),(1001,rowV P)],[903,1000,1001]⟩,Wk.of _ hfn rfl (by simp only [enb,vcd,↓vcp,seval]) (by simp only [rowA,rowV,enb,vcd,↓vcp,seval]),?_⟩
  clear d0 w1 b1 d1
  have hx:((v != (P.getD (P.length-1) (0,0)).2)&&decide (day≤292194))=false:=by
   rw [Bool.and_eq_false_iff,bne_eq_false_iff_eq,decide_eq_false_iff_not]
   by_cases h:v=(P.getD (P.length-1) (0,0)).2
   ·exact .inl h
   ·exact .inr fun g=>hp ⟨h,g⟩
  have hroom:(P.length+1)*8≤140737488355328∧P.length+1≤maxLen:=⟨by omega,by simp only [maxLen];omega⟩
  have g0:decide ((P.length:Int)>0)=true:=decide_eq_true (by omega)
  have v1:IntKind.i64.wrap ((P.length:Int)-1)=((P.length-1:Nat):Int):=(wI (by omega)).trans (by omega)
  have c1:(0:Int)≤((P.length-1:Nat):Int)∧((P.length-1:Nat):Int)<(P.length:Int):=by omega
  simp only [rowA,rowV,g0,v1,hx,vcd,↓vcp,seval]
  repeat' first|refine ⟨fun h=>?_,fun h=>?_⟩|refine aO ?_|refine aT ?_|fail
  refine RetK.mk' _ (Wk.refl _ _) (by simp only [rs97,rsb,vcd,↓vcp,seval]) (by simp only [rs97,rsb,enb,vcd,↓vcp,seval]) ?_
  simp only [rowA,rowV,enb,vcd,↓vcp,seval]
end Go.Proofs.YtanppabbmffokaaGreat
end
section
namespace Go.Proofs.YtanppabbmffokaaGreat
open Go.Bx
set_option maxRecDepth 10000
theorem TR.callG {c:Ctx} {b:Bool} {is:List I} {st:St} {acc:List Lg} {K:List Lg→St→Prop} {d:Option Nat} {s:Nat} {want:Bool} {f:Nat} {xs:List X} (ins outs:List (Nat×Go.Bx.Own)) (res:V) (new:List Nat) (hg:gOf st.env s want=some true)
  (hS:Ctr c.P f (evVs st xs) ins res outs new) (hs:evSs true st xs) (hin:∀ k o,(k,o)∈ins→own? st.own k=some o) (hno:(keysO ins).Nodup) (hnew:∀ k,k∈new→k∉st.nm)
  (h:vcR c b is (st.stp d { val:=res,upd:=callU ins outs,rd:=keysO ins,new:=new }) (lgs b acc ⟨keysO ins,(callU ins outs).map (·.1)++new⟩) K):TR c b (⟨d,some (s,want),.call f xs⟩::is) st acc K:=
 TR.cons _ (valid_on hg (valid_call hS hs hin hno)) hnew (vcR_ok h)
theorem sBadV (v:Vs) (last:Int) (hv:ShortV v):Ctr Tryz.prog 100 [vV v,.own 900 0] [(900,.fix [.d (.int .i64 last)])] (.d (.bool (decide (v.fr≤last) || !rightV v))) [(900,.fix [.d (.int .i64 v.fr)])] []:=by
 refine ctr_own Tryz.func100 ok100 rfl cc100 cr100 Tryz.ntmps100 (by simp) rfl ?_
 intro c hP hfn
 have cv:=sVersion v hv
 simp only [vV,cV,slB,slK] at cv
 cases hd:decide (v.fr≤last) with
 |true =>
  rw [Bool.true_or]
  simp only [kc100,namesL,V.names,ownNames,vV,cV,slB,slK,hd,vcd,↓vcp,seval]
  repeat' first|refine ⟨fun h=>?_,fun h=>?_⟩|refine aO ?_|refine aT ?_|fail
  refine TR.gp (gc:=false) (res:=.d (.bool false)) hP rfl (fun h=>by cases h) (fun h=>by cases h) ?_
  simp only [hd,vcd,↓vcp,seval]
  repeat' first|refine ⟨fun h=>?_,fun h=>?_⟩|refine aO ?_|refine aT ?_|fail
  refine RetK.mk' _ (Wk.refl _ _) (by simp only [rs100,rsb,vcd,↓vcp,seval]) (by simp only [rs100,rsb,enb,vcd,↓vcp,seval]) ?_
  simp only [enb,vcd,↓vcp,seval]
 |false =>
  rw [Bool.false_or]
  simp only [kc100,namesL,V.names,ownNames,vV,cV,slB,slK,hd,vcd,↓vcp,seval]
  repeat' first|((first|refine tp hP (by exact cv) ?_|refine tg hP (fun _=>by exact cv) ?_|refine tv hP rfl (by exact cv) ?_);try simp only [hd,vcd,↓vcp,seval])|refine ⟨fun h=>?_,fun h=>?_⟩|refine aO ?_|refine aT ?_|fail
  refine RetK.mk' _ (Wk.refl _ _) (by simp only [rs100,rsb,vcd,↓vcp,seval]) (by simp only [rs100,rsb,enb,vcd,↓vcp,seval]) ?_
  simp only [enb,vcd,↓vcp,seval]
def lastF (l:List Vs):Nat→Int
 |0=>0
 |k+1=>(l.getD k default).fr
def badA (l:List Vs) (k:Nat):Bool:=decide ((l.getD k default).fr≤lastF l k) || !rightV (l.getD k default)
def idxB (l:List Vs):Option Nat:=(List.range l.length).find? (badA l)
def idxVI:Option Nat→Int
 |some k=>(k:Int)
 |none=>-1
def idxL (l:List Vs):Option Nat→Int
 |some k=>(l.getD k default).fr
 |none=>lastF l l.length
theorem sIndexV (l:List Vs) (hl:l.length≤1000000) (hz:∀ v,v∈l→SzV v):Ctr Tryz.prog 142 [.d (slV l),.fn (.func 100) [] [.own 900 0]] [(900,.fix [.d (.int .i64 0)])] (.d (.int .i64 (idxVI (idxB l)))) [(900,.fix [.d (.int .i64 (idxL l (idxB l)))])] []:=by
 refine ctr_own Tryz.func142 ok142 rfl cc142 cr142 Tryz.ntmps142 (by simp) rfl ?_
 intro c hP hfn
 have cl:=fun k (hk:k<l.length)=>sBadV (l.getD k default) (lastF l k) (by obtain ⟨x,-,hg,hm,-⟩:=drop_at hk;rw [hg];exact (hz x hm).short)
 simp only [vV,cV] at cl
 simp only [kc142,namesL,V.names,ownNames,slV,dVs,vcd,↓vcp,seval]
 rcases find_or (badA l) (List.range l.length) with ⟨K,x,h1,h2,h3,h4⟩|⟨h1,h2⟩
 ·have hK:K<(List.range l.length).length:=(List.getElem?_eq_some_iff.1 h1).1
  rw [List.length_range] at hK
  rw [List.getElem?_range hK] at h1
  obtain rfl:x=K:=by injection h1 with h1;exact h1.symm
  have e:idxB l=some x:=h3
  rw [e]
  refine vcC.loop (X:=Nat) (fun k=>⟨[(0,.d (slV l)),(1,.fn (.func 100) [] [.own 900 0]),(7,.d (.int .i64 l.length)),(8,.d (.int .i64 k))],[(900,.fix [.d (.int .i64 (lastF l k))])],[900]⟩)
   (fun k=>k≤x) (fun k=>x-k) 0 (Nat.zero_le _) (Wk.of _ hfn rfl (by simp only [slV,dVs,enb,vcd,↓vcp,seval]) (by simp only [lastF,enb,vcd,↓vcp,seval])) ?_
  intro k hk
  have d0:decide ((k:Int)<(l.length:Int))=true:=decide_eq_true (by omega)
  have w1:IntKind.i64.wrap ((k:Int)+1)=((k+1:Nat):Int):=wS (by omega)
  have b1:(0:Int)≤(k:Int)∧(k:Int)<(l.length:Int):=by omega
  have cc:=cl k (by omega)
  have e1:(decide ((l.getD k default).fr≤lastF l k) || !rightV (l.getD k default))=badA l k:=rfl
  rw [e1] at cc
  have hll:lastF l (k+1)=(l.getD k default).fr:=rfl
  by_cases hkx:k=x
  ·subst hkx
   rw [h2] at cc
   simp only [slV,dVs,d0,vcd,↓vcp,seval]
   repeat' first|refine ⟨fun h=>?_,fun h=>?_⟩|refine aO ?_|refine aT ?_|fail
   refine TR.cv1 hP rfl cc trivial (by repeat' first|exact trivial|(intro _;assumption)|apply And.intro) rfl ?_
   simp only [vcd,↓vcp,seval]
   repeat' first|refine ⟨fun h=>?_,fun h=>?_⟩|refine aO ?_|refine aT ?_|fail
   refine RetK.mk' _ (Wk.refl _ _) (by simp only [rs142,rsb,vcd,↓vcp,seval]) (by simp only [rs142,idxVI,rsb,enb,vcd,↓vcp,seval]) ?_
   simp only [idxL,enb,vcd,↓vcp,seval]
  ·rw [h4 k k (by omega) (by rw [List.getElem?_range (by omega)])] at cc
   simp only [slV,dVs,d0,vcd,↓vcp,seval]
   repeat' first|refine ⟨fun h=>?_,fun h=>?_⟩|refine aO ?_|refine aT ?_|fail
   refine TR.cv1 hP rfl cc trivial (by repeat' first|exact trivial|(intro _;assumption)|apply And.intro) rfl ?_
   simp only [w1,vcd,↓vcp,seval]
   repeat' first|refine ⟨fun h=>?_,fun h=>?_⟩|refine aO ?_|refine aT ?_|fail
   exact lopK.on (k+1) (by omega) (by omega) (Wk.of _ hfn rfl (by simp only [slV,dVs,w1,enb,vcd,↓vcp,seval]) (by simp only [hll,enb,vcd,↓vcp,seval]))
 ·have e:idxB l=none:=h1
  rw [e]
  refine vcC.loop (X:=Nat) (fun k=>⟨[(0,.d (slV l)),(1,.fn (.func 100) [] [.own 900 0]),(7,.d (.int .i64 l.length)),(8,.d (.int .i64 k))],[(900,.fix [.d (.int .i64 (lastF l k))])],[900]⟩)
   (fun k=>k≤l.length) (fun k=>l.length-k) 0 (Nat.zero_le _) (Wk.of _ hfn rfl (by simp only [slV,dVs,enb,vcd,↓vcp,seval]) (by simp only [lastF,enb,vcd,↓vcp,seval])) ?_
  intro k hk
  by_cases hlt:k<l.length
  ·have d0:decide ((k:Int)<(l.length:Int))=true:=decide_eq_true (by omega)
   have w1:IntKind.i64.wrap ((k:Int)+1)=((k+1:Nat):Int):=wS (by omega)
   have b1:(0:Int)≤(k:Int)∧(k:Int)<(l.length:Int):=by omega
   have cc:=cl k (by omega)
   have e1:(decide ((l.getD k default).fr≤lastF l k) || !rightV (l.getD k default))=badA l k:=rfl
   rw [e1,h2 k k (by rw [List.getElem?_range hlt])] at cc
   have hll:lastF l (k+1)=(l.getD k default).fr:=rfl
   simp only [slV,dVs,d0,vcd,↓vcp,seval]
   repeat' first|refine ⟨fun h=>?_,fun h=>?_⟩|refine aO ?_|refine aT ?_|fail
   refine TR.cv1 hP rfl cc trivial (by repeat' first|exact trivial|(intro _;assumption)|apply And.intro) rfl ?_
   simp only [w1,vcd,↓vcp,seval]
   repeat' first|refine ⟨fun h=>?_,fun h=>?_⟩|refine aO ?_|refine aT ?_|fail
   exact lopK.on (k+1) (by omega) (by omega) (Wk.of _ hfn rfl (by simp only [slV,dVs,w1,enb,vcd,↓vcp,seval]) (by simp only [hll,enb,vcd,↓vcp,seval]))
  ·obtain rfl:k=l.length:=by omega
   have d0:decide ((l.length:Int)<(l.length:Int))=false:=decide_eq_false (by omega)
   simp only [slV,dVs,d0,vcd,↓vcp,seval]
   repeat' first|refine ⟨fun h=>?_,fun h=>?_⟩|refine aO ?_|refine aT ?_|fail
   refine RetK.mk' _ (Wk.refl _ _) (by simp only [rs142,rsb,vcd,↓vcp,seval]) (by simp only [rs142,idxVI,rsb,enb,vcd,↓vcp,seval]) ?_
   simp only [idxL,enb,vcd,↓vcp,seval]
def rightT (l:List Vs):Bool:=!(idxB l).isSome
theorem sRightT (l:List Vs) (hl:l.length≤100) (hz:∀ v,v∈l→SzV v):Ctr Tryz.prog 57 [.ag [.d (slV l)]] [] (.d (.bool (rightT l))) [] []:=by
 have ci:=sIndexV l (by omega) hz
 have cc:Ctr Tryz.prog 101 [.d (slV l),.fn (.func 100) [] [.own 900 0]] [(900,.fix [.d (.int .i64 0)])] (.d (.bool (idxB l).isSome)) [(900,.fix [.d (.int .i64 (idxL l (idxB l)))])] []:=by
  refine ctr_own Tryz.func101 ok101 rfl cc101 cr101 Tryz.ntmps101 (by simp) rfl ?_
  intro c hP hfn
  have d0:decide (idxVI (idxB l)≥0)=(idxB l).isSome:=by
   cases idxB l with
   |none=>rfl
   |some k=>exact decide_eq_true (by simp only [idxVI];omega)
  simp only [slV,dVs] at ci
  simp only [kc101,namesL,V.names,ownNames,slV,dVs,vcd,↓vcp,seval]
  repeat' first|refine ⟨fun h=>?_,fun h=>?_⟩|refine aO ?_|refine aT ?_|fail
  refine TR.call [(900,.fix [.d (.int .i64 0)])] [(900,.fix [.d (.int .i64 (idxL l (idxB l)))])] _ [] (by rw [hP];exact ci) (by repeat' first|exact trivial|(intro _;assumption)|apply And.intro) (hin1 rfl) (by simp [keysO]) (by simp) ?_
  simp only [d0,vcd,↓vcp,seval]
  repeat' first|refine ⟨fun h=>?_,fun h=>?_⟩|refine aO ?_|refine aT ?_|fail
  refine RetK.mk' _ (Wk.refl _ _) (by simp only [rs101,rsb,vcd,↓vcp,seval]) (by simp only [rs101,d0,rsb,enb,vcd,↓vcp,seval]) ?_
  simp only [enb,vcd,↓vcp,seval]
 have cc:=cc.sw 900 3
 simp only [slV,dVs,vcd,↓vcp,seval] at cc
 have d0:decide ((l.length:Int)≤100)=true:=decide_eq_true (by omega)
 refine ctr_pure Tryz.func57 ok57 rfl cc57 cr57 Tryz.ntmps57 (by simp) rfl rfl ?_;intro c hP hfn;simp only [kc57,slV,dVs,d0,vcd,↓vcp,seval]
 repeat' first|refine ⟨fun h=>?_,fun h=>?_⟩|refine aO ?_|refine aT ?_|fail
 refine TR.callG [(3,.fix [.d (.int .i64 0)])] [(3,.fix [.d (.int .i64 (idxL l (idxB l)))])] (.d (.bool (idxB l).isSome)) [] rfl (by rw [hP];exact cc) (by repeat' first|exact trivial|(intro _;assumption)|apply And.intro) (hin1 rfl) (by simp [keysO]) (by simp) ?_
 simp only [d0,vcd,↓vcp,seval]
 repeat' first|refine ⟨fun h=>?_,fun h=>?_⟩|refine aO ?_|refine aT ?_|fail
 exact RetK.pure (by simp only [rs57,rsb,vcd,↓vcp,seval]) (by (simp only [rs57,rsb,enb,vcd,↓vcp,seval])<;>(first|exact VLe.refl _|rfl))
theorem sPut1 (v:Vs) (x:Int):Ctr Tryz.prog 60 [vV v,.d (.int .i64 x)] [] (.d (.int .i64 (IntKind.i64.wrap (v.fr-x)))) [] []:=by
 refine ctr_pure Tryz.func60 ok60 rfl cc60 cr60 Tryz.ntmps60 (by simp) rfl rfl ?_;intro c hP hfn;simp only [kc60,vV,cV,slB,slK,vcd,↓vcp,seval]
 repeat' first|refine ⟨fun h=>?_,fun h=>?_⟩|refine aO ?_|refine aT ?_|fail
 exact RetK.pure (by simp only [rs60,rsb,vcd,↓vcp,seval]) (by (simp only [rs60,rsb,enb,vcd,↓vcp,seval])<;>(first|exact VLe.refl _))
def bsW (c:Nat→Int) (i j:Nat):Nat:=if i<j then (if c ((i+j) / 2)<0 then bsW c ((i+j) / 2+1) j else bsW c i ((i+j) / 2)) else i
termination_by j-i
theorem bsW_le (c:Nat→Int):∀ (n i j:Nat),j-i≤n→i≤j→i≤bsW c i j∧bsW c i j≤j
 |0,i,j,h,hij=>by rw [bsW,if_neg (by omega)];omega
 |n+1,i,j,h,hij=>by
  rw [bsW]
  by_cases h1:i<j
  ·rw [if_pos h1]
   split
   ·have:=bsW_le c n ((i+j) / 2+1) j (by omega) (by omega);omega
   ·have:=bsW_le c n i ((i+j) / 2) (by omega) (by omega);omega
  ·rw [if_neg h1];omega
def cmpV (l:List Vs) (x:Int) (k:Nat):Int:=IntKind.i64.wrap ((l.getD k default).fr-x)
set_option maxHeartbeats 1000000 in
theorem sSearchV (l:List Vs) (x:Int) (hl:l.length≤1000000):Ctr Tryz.prog 59 [.d (slV l),.d (.int .i64 x),.fn (.func 60) [] []] [] (.tup [.d (.int .i64 (bsW (cmpV l x) 0 l.length:Nat)),.d (.bool (decide (bsW (cmpV l x) 0 l.length<l.length)&&(cmpV l x (bsW (cmpV l x) 0 l.length) == 0)))]) [] []:=by
 have hle:=bsW_le (cmpV l x) l.length 0 l.length (by omega) (Nat.zero_le _)
 obtain ⟨K,hK⟩:∃ K,K=bsW (cmpV l x) 0 l.length:=⟨_,rfl⟩
 rw [←hK] at hle ⊢
 have cp:=fun k=>sPut1 (l.getD k default) x
 simp only [vV,cV] at cp
 refine ctr_pure Tryz.func59 ok59 rfl cc59 cr59 Tryz.ntmps59 (by simp) rfl rfl ?_;intro c hP hfn;simp only [kc59,slV,dVs,vcd,↓vcp,seval]
 refine vcC.loop (X:=Nat×Nat) (fun y=>⟨[(0,.d (slV l)),(1,.d (.int .i64 x)),(2,.fn (.func 60) [] []),(8,.d (.int .i64 l.length)),(9,.d (.int .i64 (y.1:Nat))),(10,.d (.int .i64 (y.2:Nat)))],[],[]⟩)
  (fun y=>y.1≤y.2∧y.2≤l.length∧bsW (cmpV l x) y.1 y.2=K) (fun y=>y.2-y.1) (0,l.length) ⟨Nat.zero_le _,Nat.le_refl _,hK.symm⟩ (Wk.of _ hfn rfl (by simp only [slV,dVs,enb,vcd,↓vcp,seval]) (by simp only [enb,vcd,↓vcp,seval])) ?_
 rintro ⟨i,j⟩ ⟨h1,h2,h3⟩
 simp only at h1 h2 h3
 by_cases hij:i<j
 ·have d0:decide ((i:Int)<(j:Int))=true:=decide_eq_true (by omega)
  have wq:=midW (i:=i) (j:=j) (by omega)
  rw [bsW,if_pos hij] at h3
  obtain ⟨q,hh⟩:∃ q,q=(i+j) / 2:=⟨_,rfl⟩
  rw [←hh] at wq h3
  have hq:i≤q∧q<j:=by omega
  have w1:IntKind.i64.wrap ((q:Int)+1)=((q+1:Nat):Int):=wS (by omega)
  have b1:(0:Int)≤(q:Int)∧(q:Int)<(l.length:Int):=by omega
  have cc:=cp q
  have ec:IntKind.i64.wrap ((l.getD q default).fr-x)=cmpV l x q:=rfl
  rw [ec] at cc
  by_cases hc:cmpV l x q<0
  ·rw [if_pos hc] at h3
   have d1:decide (cmpV l x q<0)=true:=decide_eq_true hc
   simp only [slV,dVs,d0,wq,vcd,↓vcp,seval]
   repeat' first|((first|refine tp hP (by exact cc) ?_|refine tg hP (fun _=>by exact cc) ?_|refine tv hP rfl (by exact cc) ?_);try simp only [d0,d1,wq,w1,vcd,↓vcp,seval])|refine ⟨fun h=>?_,fun h=>?_⟩|refine aO ?_|refine aT ?_|fail
   exact lopK.on (q+1,j) ⟨by simp only;omega,h2,h3⟩ (by simp only;omega) (Wk.of _ hfn rfl (by simp only [slV,dVs,w1,enb,vcd,↓vcp,seval]) (by simp only [enb,vcd,↓vcp,seval]))
  ·rw [if_neg hc] at h3
   have d1:decide (cmpV l x q<0)=false:=decide_eq_false hc
   simp only [slV,dVs,d0,wq,vcd,↓vcp,seval]
   repeat' first|((first|refine tp hP (by exact cc) ?_|refine tg hP (fun _=>by exact cc) ?_|refine tv hP rfl (by exact cc) ?_);try simp only [d0,d1,wq,w1,vcd,↓vcp,seval])|refine ⟨fun h=>?_,fun h=>?_⟩|refine aO ?_|refine aT ?_|fail
   exact lopK.on (i,q) ⟨by simp only;omega,by simp only;omega,h3⟩ (by simp only;omega) (Wk.of _ hfn rfl (by simp only [slV,dVs,enb,vcd,↓vcp,seval]) (by simp only [enb,vcd,↓vcp,seval]))
 ·have d0:decide ((i:Int)<(j:Int))=false:=decide_eq_false (by omega)
  rw [bsW,if_neg hij] at h3
  subst h3
  by_cases hb:i<l.length
  ·have d1:decide ((i:Int)<(l.length:Int))=true:=decide_eq_true (by omega)
   have b1:(0:Int)≤(i:Int)∧(i:Int)<(l.length:Int):=by omega
   have cc:=cp i
   have ec:IntKind.i64.wrap ((l.getD i default).fr-x)=cmpV l x i:=rfl
   rw [ec] at cc
   rw [decide_eq_true hb,Bool.true_and]
   simp only [slV,dVs,d0,d1,vcd,↓vcp,seval]
   repeat' first|refine ⟨fun h=>?_,fun h=>?_⟩|refine aO ?_|refine aT ?_|fail
   refine TR.gpv (gc:=true) hP rfl (fun _=>rfl) (fun _=>cc) (by intro _;simp only [vcd,↓vcp,seval]) (by intro _;simp only [vcd,↓vcp,seval]) ?_
   simp only [d0,d1,vcd,↓vcp,seval]
   repeat' first|refine ⟨fun h=>?_,fun h=>?_⟩|refine aO ?_|refine aT ?_|fail
   exact RetK.pure (by simp only [rs59,rsb,vcd,↓vcp,seval]) (by (simp only [rs59,rsb,enb,vcd,↓vcp,seval])<;>(first|exact VLe.refl _))
  ·have d1:decide ((i:Int)<(l.length:Int))=false:=decide_eq_false (by omega)
   rw [decide_eq_false hb,Bool.false_and]
   simp only [slV,dVs,d0,d1,vcd,↓vcp,seval]
   repeat' first|refine ⟨fun h=>?_,fun h=>?_⟩|refine aO ?_|refine aT ?_|fail
   refine TR.gpv (gc:=false) (first:=[]) (cap:=[]) (f:=0) (res:=.d (.int .i64 0)) hP rfl (fun h=>by cases h) (fun h=>by cases h) (fun h=>by cases h) (fun h=>by cases h) ?_
   simp only [d0,d1,vcd,↓vcp,seval]
   repeat' first|refine ⟨fun h=>?_,fun h=>?_⟩|refine aO ?_|refine aT ?_|fail
   exact RetK.pure (by simp only [rs59,rsb,vcd,↓vcp,seval]) (by (simp only [rs59,rsb,enb,vcd,↓vcp,seval])<;>(first|exact VLe.refl _|(simp only [pickV];exact VLe.refl _)|(unfold pickV;exact VLe.refl _)))
end Go.Proofs.YtanppabbmffokaaGreat
end
section
namespace Go.Proofs.YtanppabbmffokaaGreat
open Go.Shelf Go.RowKit Go.Lib Go.Proofs Go.Bx
set_option maxRecDepth 10000
theorem run_overlaps_own {P:Program} (w:World) (tS tR e:TypeId) (ht:P.underlying tS=some (.slice e)) (size:Nat) (hz:∀ w,(Go.sizeOf e).run P w=.ok size w)
  (a b:Addr) (la ca lb cb:Nat) (hne:a.block≠b.block) (tA tB:TypeId) (kA kB:Nat) (hsa:w.shape? a.block=some (tA,kA)) (hkA:kA≠0) (hsb:w.shape? b.block=some (tB,kB))
  (hfb:w.frozen? b=false) (hfe:w.frozen? { block:=b.block,off:=kB }=false) :
  (Extern.SlicesOverlaps.overlaps #[tS,tS] #[tR] #[.slice (some a) la ca,.slice (some b) lb cb]).run P w=.ok (.bool false) w:=by
 have hnb:(a.block != b.block)=true:=by simpa using hne
 have hnb':(a.block == b.block)=false:=by simpa using hne
 change Sem.run P (α:=Value) (do
  let some t:=(#[tS,tS]:Array TypeId)[0]?|stuck "slices.overlaps: no parameter types"
  let .slice elem ←underlying t|stuck "slices.overlaps: slice type expected"
  let size ←sizeOf elem
  match (some a:Option Addr),(some b:Option Addr) with
  |some a,some b =>
   if la=0∨lb=0∨size=0 then pure (Value.bool false)
   else if a.block != b.block&&(←frozen a)&&(←frozen b) then unsupported .addressObserved
   else do
    if a.block != b.block then do
     noView a;noView b
     if ←mayBeOne a b then return Value.bool ((←choose (.extern "sameAddr.stringBytes" 2)) == 1)
    pure (Value.bool (a.block == b.block&&a.off<b.off+lb*size&&b.off<a.off+la*size))
  |_,_=>pure (Value.bool false)) w=_
 by_cases h0:la=0∨lb=0∨size=0
 ·simp [run_underlying ht,hz,h0]
 ·cases kA with
  |zero=>exact absurd rfl hkA
  |succ kA =>
   cases h1:w.frozen? a<;>cases h2:w.frozen? { block:=a.block,off:=kA+1 } <;>
   simp [run_underlying ht,hz,h0,hnb,hnb',frozen,noView,viewAt,mayBeOne,stringish,shape,Sem.run,hsa,hsb,hfb,hfe,h1,h2]
theorem siz75:∀ w,(Go.sizeOf 75).run Tryz.prog w=.ok 9 w:=Tryz.sizeOf75
theorem szB75:szB Tryz.prog 75=some 9:=by kernel_rfl
set_option maxHeartbeats 4000000 in
set_option maxRecDepth 100000 in
theorem insRoom (b c i n vb vo vc:Nat) (cur:Array Value) (vs:List Value) (w:World) (hi:i<n) (hroom:n+1≤c) (hcm:c≤9223372036854775807) (hvb:vb≠b) (hb:w.heap[b]?=some (.cells cur 75 (0,0))) (hcz:cur.size=c*9) (hvl:vs.length=9)
  (hvs:∀ j v,vs[j]?=some v→w.cell? ⟨vb,vo+j,none⟩=some v) (h1c:∀ v∈cur.toList.take (n*9),v.oneCell'=true) (h1v:∀ v∈vs,v.oneCell'=true) :
  Calls Tryz.prog 61 #[.slice (some ⟨b,0,none⟩) n c,.int .i64 i,.slice (some ⟨vb,vo,none⟩) 1 vc] w fun e w' =>
   e=.returned (.slice (some ⟨b,0,none⟩) (n+1) c)∧Keeps (fun x=>x=b) w w'∧∃ cur',w'.heap[b]?=some (.cells cur' 75 (0,0))∧cur'.size=c*9∧cur'.toList.take ((n+1)*9)=cur.toList.take (i*9)++vs++(cur.toList.take (n*9)).drop (i*9):=by
 obtain ⟨cs,hcs⟩:∃ cs,cs=(cur.toList.take (n*9)).drop (i*9):=⟨_,rfl⟩
 have hcl:cs.length=(n-i)*9:=by rw [hcs,List.length_drop,List.length_take,Array.length_toList];omega
 have hcell:∀ j v,cs[j]?=some v→w.cell? ⟨b,i*9+j,none⟩=some v:=fun j v hj=>by
  rw [hcs,List.getElem?_drop] at hj
  have hlt:i*9+j<n*9:=by
   by_cases h:i*9+j<n*9
   ·exact h
   ·rw [List.getElem?_take_eq_none (by omega)] at hj;cases hj
  rw [List.getElem?_take_of_lt hlt,Array.getElem?_toList] at hj
  simp only [World.cell?,hb,hj];rfl
 have h1s:∀ v∈cs,v.oneCell'=true:=fun v hv=>h1c v (List.mem_of_mem_drop (hcs▸hv))
 obtain ⟨v0,hv0⟩:∃ v0,vs[0]?=some v0:=⟨vs[0],List.getElem?_eq_getElem (by omega)⟩
 have hc0:=hvs 0 v0 hv0
 obtain ⟨tA,kA,hsa,hkA⟩:∃ tA kA,w.shape? vb=some (tA,kA)∧kA≠0:=by
  simp only [World.cell?] at hc0
  cases hh:w.heap[vb]? with
  |none=>rw [hh] at hc0;cases hc0
  |some o =>
   rw [hh] at hc0
   cases o with
   |cells cc tt fr =>
    simp at hc0
    refine ⟨tt,cc.size,by simp [World.shape?,hh],fun h=>?_⟩
    have:=(Array.getElem?_eq_some_iff.1 hc0).1
    omega
   |_=>simp at hc0
 have hsb:w.shape? b=some (75,c*9):=by simp [World.shape?,hb,hcz]
 have hfr:∀ o,w.frozen? ⟨b,o,none⟩=false:=fun o=>by simp [World.frozen?,hb]
 have hov:∀ lb cb,(callFunc 104 #[.slice (some ⟨vb,vo,none⟩) 1 vc,.slice (some ⟨b,(i+1)*9,none⟩) lb cb]).run Tryz.prog w=.ok (.value (.bool false)) w:=fun lb cb=>by
  rw [run_callFunc_extern Tryz.func104 (by kernel_rfl) (by kernel_rfl) (by kernel_rfl) (e:=Extern.SlicesOverlaps.overlaps #[32,32] #[4]) (by kernel_rfl),
   run_overlaps_own w 32 4 75 Tryz.underlying32 9 siz75 ⟨vb,vo,none⟩ ⟨b,(i+1)*9,none⟩ 1 vc lb cb hvb tA _ kA _ hsa hkA hsb (hfr _) (hfr _)]
  rfl
 obtain ⟨A1,hA1⟩:∃ A1,A1=(cur.toList.take ((i+1)*9)++cs++cur.toList.drop ((i+1)*9+cs.length)).toArray:=⟨_,rfl⟩
 have hA1l:A1.size=c*9:=by rw [hA1];simp [hcl];omega
 obtain ⟨W1,hW1⟩:∃ W1,W1=w.drew.setRow b A1:=⟨_,rfl⟩
 have hcp1:∀ ty dc sc,(Builtin.copy_ #[32,32] ty #[.slice (some ⟨b,(i+1)*9,none⟩) (n-i) dc,.slice (some ⟨b,i*9,none⟩) (n+1-i) sc]).run Tryz.prog w.drew=.ok (goInt (n-i:Nat)) W1:=fun ty dc sc=>by
  have hm:Nat.min (n+1-i) (n-i)=n-i:=by simp only [Nat.min_def];split<;>omega
  have:=run_copy_rowz w.drew 32 32 ty 75 9 b ((i+1)*9) (n-i) dc ⟨b,i*9,none⟩ (n+1-i) sc cur 75 cs Tryz.underlying32 szB75 hb (by rw [hm,hcl];omega)
   (fun j v hj=>by rw [Addr.add_lit];exact hcell j v hj) (by rw [hcl,hcz];omega) h1s
  rw [hm,←hA1,←hW1] at this
  exact this
 have hb1:W1.heap[b]?=some (.cells A1 75 (0,0)):=by rw [hW1];exact setRow_heap w.drew b cur A1 75 _ hb
 have hk1:Keeps (fun x=>x=b) w W1:=by
  have h:=keeps_setRow w.drew b A1 (fun x=>x=b) rfl
  rw [hW1];exact ⟨h.os,h.tape,h.output,h.size,h.block⟩
 obtain ⟨A2,hA2⟩:∃ A2,A2=(A1.toList.take (i*9)++vs++A1.toList.drop (i*9+vs.length)).toArray:=⟨_,rfl⟩
 have hcp2:∀ (W:World),W.heap=W1.heap→∀ ty dc,(Builtin.copy_ #[32,32] ty #[.slice (some ⟨b,i*9,none⟩) (n+1-i) dc,.slice (some ⟨vb,vo,none⟩) 1 vc]).run Tryz.prog W=.ok (goInt 1) (W.setRow b A2):=fun W hW ty dc=>by
  have hm:Nat.min 1 (n+1-i)=1:=by simp only [Nat.min_def];split<;>omega
  have:=run_copy_rowz W 32 32 ty 75 9 b (i*9) (n+1-i) dc ⟨vb,vo,none⟩ 1 vc A1 75 vs Tryz.underlying32 szB75 (by rw [hW];exact hb1) (by rw [hm,hvl])
   (fun j v hj=>by
    rw [Addr.add_lit]
    have:=hvs j v hj
    have hne:w.heap[vb]?=W.heap[vb]?:=by rw [hW,hW1];exact (setRow_other w.drew b vb A1 hvb).symm
    simp only [World.cell?,←hne] at this ⊢
    exact this) (by rw [hvl,hA1l];omega) h1v
  rw [hm,←hA2] at this
  exact this
 have hf:A2.size=c*9∧A2.toList.take ((n+1)*9)=cur.toList.take (i*9)++vs++cs:=by
  have hcl2:cur.toList.length=c*9:=by rw [Array.length_toList];exact hcz
  have e1:(cur.toList.take ((i+1)*9)).length=(i+1)*9:=by rw [List.length_take];omega
  have e2:A1.toList.take (i*9)=cur.toList.take (i*9):=by
   rw [hA1]
   simp only [List.append_assoc]
   rw [List.take_append_of_le_length (by rw [e1];omega),List.take_take,Nat.min_eq_left (by omega)]
  have e3:A1.toList.drop (i*9+9)=cs++cur.toList.drop ((i+1)*9+cs.length):=by
   rw [hA1]
   simp only [List.append_assoc]
   rw [List.drop_append,e1,List.drop_of_length_le (by rw [e1];omega),show i*9+9-(i+1)*9=0 by omega];simp
  constructor
  ·rw [hA2];simp [hvl,hA1l];omega
  ·rw [hA2,hvl,e2,e3]
   simp only
   rw [←List.append_assoc,List.take_append_of_le_length (by simp [hvl,hcl,hcl2];omega)]
   rw [List.take_of_length_le (by simp [hvl,hcl,hcl2];omega)]
 have hw1:IntKind.i64.wrap ((n:Int)+1)=(n:Int)+1:=by rw [IntKind.wrap_i64];omega
 have hw2:IntKind.i64.wrap ((i:Int)+1)=(i:Int)+1:=by rw [IntKind.wrap_i64];omega
 have hz2:¬ ((i:Int)=(n:Int)):=by omega
 have mixed:Tryz.prog.follows Departure.mixedOrders=true:=by kernel_rfl
 have hq1:(0:Int)≤(i:Int)+1:=by omega
 have hin:i≤n:=by omega
 have htn:((i:Int)+1).toNat=i+1:=by omega
 have hq2:¬ (c=i+1):=by omega
 have hq3:(i:Int)≤(n:Int)+1:=by omega
 have hq4:¬ (c=i):=by omega
 clear hA1 hA1l hA2 hcell h1s hcl hc0 hv0 hvs h1c h1v hsa hkA hsb
 go_enter Tryz.func61,Tryz.ntmps61
 go_wp2_with (simp only [hov])
 go_region_law_o (refine step_copy_runI rfl _ _ 32 32 rfl _ _ (by simp [Act.eval,Act.put]) (by simp [Act.eval,Act.put]) (hcp1 _ _ _) ?_)
 go_wp2_with (at_builtin;refine wpList_copy_runI _ rfl _ _ 32 32 rfl _ _ rfl rfl (hcp2 _ rfl _ _) ?_)
 go_ret
 have hk:=keeps_setRow W1 b A2 (fun x=>x=b) rfl
 have hr:=setRow_heap W1 b A1 A2 75 _ hb1
 rw [←hW1]
 exact ⟨rfl,hk1.trans hk,A2,hr,hf.1,by rw [hf.2,hcs]⟩
theorem info75:Tryz.prog.info? 75=some Tryz.t75:=by kernel_rfl
def zV9:Value:=.agg #[.int .i64 0,.int .i64 0,.int .i64 0,.int .i64 0,.int .i64 0,.slice none 0 0,.slice none 0 0,.slice none 0 0,.int .i64 0]
theorem zero75:Tryz.t75.zero=some zV9:=by rfl
set_option maxHeartbeats 4000000 in
set_option maxRecDepth 100000 in
theorem insGrow (b i n vb vo vc:Nat) (cur:Array Value) (vs:List Value) (w:World) (hi:i<n) (hn:n≤1000) (hvb:vb≠b) (hb:w.heap[b]?=some (.cells cur 75 (0,0))) (hcz:cur.size=n*9) (hvl:vs.length=9)
  (hvs:∀ j v,vs[j]?=some v→w.cell? ⟨vb,vo+j,none⟩=some v) (h1c:∀ v∈cur.toList.take (n*9),v.oneCell'=true) (h1v:∀ v∈vs,v.oneCell'=true) :
  Calls Tryz.prog 61 #[.slice (some ⟨b,0,none⟩) n n,.int .i64 i,.slice (some ⟨vb,vo,none⟩) 1 vc] w fun e w' =>
   ∃ c',e=.returned (.slice (some ⟨w.heap.size,0,none⟩) (n+1) c')∧Keeps (fun _=>False) w w'∧n+1≤c'∧c'≤maxLen∧∃ cur',w'.heap[w.heap.size]?=some (.cells cur' 75 (0,0))∧cur'.size=c'*9∧cur'.toList.take ((n+1)*9)=cur.toList.take (i*9)++vs++(cur.toList.take (n*9)).drop (i*9):=by
 obtain ⟨cs,hcs⟩:∃ cs,cs=(cur.toList.take (n*9)).drop (i*9):=⟨_,rfl⟩
 have hcl:cs.length=(n-i)*9:=by rw [hcs,List.length_drop,List.length_take,Array.length_toList];omega
 have hcell:∀ j v,cs[j]?=some v→w.cell? ⟨b,i*9+j,none⟩=some v:=fun j v hj=>by
  rw [hcs,List.getElem?_drop] at hj
  have hlt:i*9+j<n*9:=by
   by_cases h:i*9+j<n*9
   ·exact h
   ·rw [List.getElem?_take_eq_none (by omega)] at hj;cases hj
  rw [List.getElem?_take_of_lt hlt,Array.getElem?_toList] at hj
  simp only [World.cell?,hb,hj];rfl
 have h1s:∀ v∈cs,v.oneCell'=true:=fun v hv=>h1c v (List.mem_of_mem_drop (hcs▸hv))
 have hbw:b<w.heap.size:=(Array.getElem?_eq_some_iff.1 hb).1
 have hvw:vb<w.heap.size:=block_lt_of_cell (hvs 0 _ (List.getElem?_eq_getElem (by omega)))
 obtain ⟨ol,hol⟩:∃ ol,ol=cur.toList.take (i*9):=⟨_,rfl⟩
 have holl:ol.length=i*9:=by rw [hol,List.length_take,Array.length_toList];omega
 have hkk:(n:Int)+1-(i:Int)=((n+1-i:Nat):Int):=by omega
 have hik:i+(n+1-i)=n+1:=by omega
 have hold:(Builtin.firstCells 9 i (.slice (some ⟨b,0,none⟩) i n)).run Tryz.prog w.drew=.ok ol.toArray w.drew:=
  run_firstCells_some w.drew 9 i ⟨b,0,none⟩ i n ol holl (fun j v hj=>by
   rw [Addr.add_lit,hol] at *
   have hlt:j<i*9:=by
    by_cases h:j<i*9
    ·exact h
    ·rw [List.getElem?_take_eq_none (by omega)] at hj;cases hj
   rw [List.getElem?_take_of_lt hlt,Array.getElem?_toList] at hj
   show w.cell? _=_
   simp only [World.cell?,hb,Nat.zero_add,hj];rfl)
 have hrz:∀ ty,(Builtin.append_ #[32,3] ty #[.slice (some ⟨b,0,none⟩) i n,.int .i64 ((n:Int)+1-(i:Int))]).run Tryz.prog w =
   .ok (.slice (some ⟨w.heap.size,0,none⟩) (n+1) (grownCap w (n+1) n 75)) (w.drew.alloc (.cells (ol.toArray++Builtin.zeroCells zV9.cells (n+1-i)++Builtin.zeroCells zV9.cells (grownCap w (n+1) n 75-(n+1))) 75)):=fun ty=>by
  have h:=Lib.run_append_grow_zeros w 32 3 ty 75 Tryz.t75 _ .i64 .i64 Tryz.underlying32 Tryz.underlying3 info75 zero75 (some ⟨b,0,none⟩) i n ol hold (n+1-i) (by omega) (by decide) (by omega) (by omega) (by rw [show Tryz.t75.bytes=120 from rfl];omega) (by rw [show Tryz.t75.bytes=120 from rfl,hik];exact growslice_fits (by omega) (by omega))
  rw [hik] at h
  rw [hkk]
  exact h
 obtain ⟨G,hG⟩:∃ G,G=grownCap w (n+1) n 75:=⟨_,rfl⟩
 obtain ⟨ROW,hROW⟩:∃ ROW:Array Value,ROW=ol.toArray++Builtin.zeroCells zV9.cells (n+1-i)++Builtin.zeroCells zV9.cells (G-(n+1)):=⟨_,rfl⟩
 rw [←hG] at hrz
 rw [←hROW] at hrz
 have hGn:n+1≤G:=by rw [hG];exact grownCap_ge w _ _ _
 have hGm:G≤maxLen:=by rw [hG];exact grownCap_le_maxLen w (n+1) n 75 (by unfold maxLen;omega)
 have hz9:zV9.cells.size=9:=rfl
 have hRl:ROW.size=G*9:=by
  rw [hROW,Array.size_append,Array.size_append,size_zeroCells,size_zeroCells,hz9,List.size_toArray,holl];omega
 obtain ⟨W1,hW1⟩:∃ W1,W1=w.drew.alloc (.cells ROW 75):=⟨_,rfl⟩
 rw [←hW1] at hrz
 have hN1:W1.heap[w.heap.size]?=some (.cells ROW 75 (0,0)):=by
  rw [hW1];show (w.heap.push _)[w.heap.size]?=_;exact Array.getElem?_push_size
 have hO1:∀ x,x<w.heap.size→W1.heap[x]?=w.heap[x]?:=fun x hx=>by rw [hW1];exact heap_alloc_old w.drew _ hx
 have hk1:Keeps (fun _=>False) w W1:=by rw [hW1];exact keeps_drew_alloc _ w _
 obtain ⟨A1,hA1⟩:∃ A1,A1=(ROW.toList.take (i*9)++vs++ROW.toList.drop (i*9+vs.length)).toArray:=⟨_,rfl⟩
 have hA1l:A1.size=G*9:=by rw [hA1];simp [hvl,hRl];omega
 have hcpA:∀ (W:World),W.heap=W1.heap→∀ ty dc,(Builtin.copy_ #[32,32] ty #[.slice (some ⟨w.heap.size,i*9,none⟩) (n+1-i) dc,.slice (some ⟨vb,vo,none⟩) 1 vc]).run Tryz.prog W=.ok (goInt 1) (W.setRow w.heap.size A1):=fun W hW ty dc=>by
  have hm:Nat.min 1 (n+1-i)=1:=by simp only [Nat.min_def];split<;>omega
  have:=run_copy_rowz W 32 32 ty 75 9 w.heap.size (i*9) (n+1-i) dc ⟨vb,vo,none⟩ 1 vc ROW 75 vs Tryz.underlying32 szB75 (by rw [hW];exact hN1) (by rw [hm,hvl])
   (fun j v hj=>by
    rw [Addr.add_lit]
    have:=hvs j v hj
    have hne:w.heap[vb]?=W.heap[vb]?:=by rw [hW,hO1 vb hvw]
    simp only [World.cell?,←hne] at this ⊢
    exact this) (by rw [hvl,hRl];omega) h1v
  rw [hm,←hA1] at this
  exact this
 obtain ⟨A2,hA2⟩:∃ A2,A2=(A1.toList.take ((i+1)*9)++cs++A1.toList.drop ((i+1)*9+cs.length)).toArray:=⟨_,rfl⟩
 obtain ⟨W2,hW2⟩:∃ W2,W2=W1.setRow w.heap.size A1:=⟨_,rfl⟩
 have hN2:W2.heap[w.heap.size]?=some (.cells A1 75 (0,0)):=by rw [hW2];exact setRow_heap W1 _ ROW A1 75 _ hN1
 have hO2:∀ x,x<w.heap.size→W2.heap[x]?=w.heap[x]?:=fun x hx=>by rw [hW2,setRow_other W1 _ x A1 (by omega),hO1 x hx]
 have hcpB:∀ (W:World),W.heap=W2.heap→∀ ty dc sc,(Builtin.copy_ #[32,32] ty #[.slice (some ⟨w.heap.size,(i+1)*9,none⟩) (n-i) dc,.slice (some ⟨b,i*9,none⟩) (n-i) sc]).run Tryz.prog W=.ok (goInt (n-i:Nat)) (W.setRow w.heap.size A2):=fun W hW ty dc sc=>by
  have hm:Nat.min (n-i) (n-i)=n-i:=by simp only [Nat.min_def];split<;>omega
  have:=run_copy_rowz W 32 32 ty 75 9 w.heap.size ((i+1)*9) (n-i) dc ⟨b,i*9,none⟩ (n-i) sc A1 75 cs Tryz.underlying32 szB75 (by rw [hW];exact hN2) (by rw [hm,hcl];omega)
   (fun j v hj=>by
    rw [Addr.add_lit]
    have:=hcell j v hj
    have hne:w.heap[b]?=W.heap[b]?:=by rw [hW,hO2 b hbw]
    simp only [World.cell?,←hne] at this ⊢
    exact this) (by rw [hcl,hA1l];omega) h1s
  rw [hm,←hA2] at this
  exact this
 have hf:A2.size=G*9∧A2.toList.take ((n+1)*9)=ol++vs++cs:=by
  have hRL:ROW.toList.length=G*9:=by rw [Array.length_toList];exact hRl
  have hAL:A1.toList.length=G*9:=by rw [Array.length_toList];exact hA1l
  have e2:ROW.toList.take (i*9)=ol:=by
   rw [hROW]
   simp only [Array.toList_append,List.append_assoc]
   rw [List.take_append_of_le_length (by rw [holl];omega),List.take_of_length_le (by rw [holl];omega)]
  have e3:A1.toList.take ((i+1)*9)=ol++vs:=by
   rw [hA1,e2]
   rw [List.take_append_of_le_length (by simp [holl,hvl];omega),List.take_of_length_le (by simp [holl,hvl];omega)]
  constructor
  ·rw [hA2];simp [hcl,hA1l];omega
  ·rw [hA2,e3]
   rw [List.take_append_of_le_length (by simp [holl,hvl,hcl];omega),List.take_of_length_le (by simp [holl,hvl,hcl];omega)]
 have hw1:IntKind.i64.wrap ((n:Int)+1)=(n:Int)+1:=by rw [IntKind.wrap_i64];omega
 have hw2:IntKind.i64.wrap ((i:Int)+1)=(i:Int)+1:=by rw [IntKind.wrap_i64];omega
 have hw3:IntKind.i64.wrap ((n:Int)+1-(i:Int))=(n:Int)+1-(i:Int):=by rw [IntKind.wrap_i64];omega
 have hz2:¬ ((i:Int)=(n:Int)):=by omega
 have mixed:Tryz.prog.follows Departure.mixedOrders=true:=by kernel_rfl
 have hq1:(0:Int)≤(i:Int)+1:=by omega
 have hin:i≤n:=by omega
 have htn:((i:Int)+1).toNat=i+1:=by omega
 have hq2:¬ (n=i):=by omega
 have hq3:(i:Int)≤(n:Int)+1:=by omega
 have hq4:¬ (G=i):=by omega
 have hq5:¬ (G=i+1):=by omega
 have hG63:G≤9223372036854775807:=by unfold maxLen at hGm;omega
 clear hkk hik hold hA1 hA1l hA2 hcell h1s hcl hvs h1c h1v hROW hG hRl
 go_enter Tryz.func61,Tryz.ntmps61
 go_wp2_with (first
  |(at_builtin;refine Lib.wpList_append_run _ rfl _ _ _ _ rfl _ _ rfl rfl _ _ (hrz _) ?_)
  |(at_builtin;refine wpList_copy_runI _ rfl _ _ 32 32 rfl _ _ rfl rfl (hcpA _ rfl _ _) ?_)
  |(at_builtin;refine wpList_copy_runI _ rfl _ _ 32 32 rfl _ _ rfl rfl (hcpB _ rfl _ _ _) ?_))
 go_region_law_o (refine step_copy_runI rfl _ _ 32 32 rfl (.slice (some ⟨w.heap.size,(i+1)*9,none⟩) (n-i) (G-(i+1))) (.slice (some ⟨b,i*9,none⟩) (n-i) (n-i)) (by simp [Act.eval,Act.put]) (by simp [Act.eval,Act.put]) (hcpB _ (by rw [hW2,hW1];rfl) _ _ _) ?_)
 go_wp2
 go_ret
 obtain ⟨W3,hW3,hh⟩:∃ W3,W3=((w.alloc (.cells ROW 75)).drew.setRow w.heap.size A1).drew∧W3.heap=W2.heap:=⟨_,rfl,by rw [hW2,hW1];rfl⟩
 rw [←hW3]
 have hr:=setRow_heap W3 w.heap.size A1 A2 75 _ (by rw [hh];exact hN2)
 have hlt:=(Array.getElem?_eq_some_iff.1 hN2).1
 exact ⟨G,rfl,⟨by rw [hW3];rfl,by rw [hW3];rfl,by rw [hW3];rfl,by have:=(Array.getElem?_eq_some_iff.1 hr).1;omega,fun x hx _=>by rw [setRow_other W3 _ x A2 (by omega),hh];exact hO2 x hx⟩,hGn,hGm,A2,hr,hf.1,by rw [hf.2,hol,hcs]⟩
end Go.Proofs.YtanppabbmffokaaGreat
end
section
namespace Go.Proofs.YtanppabbmffokaaGreat
open Go.Bx
set_option maxRecDepth 10000
def rowVs (l:List Vs):Go.Bx.Own:=.row 75 9 l.length (fun i=>dVs (l.getD i default))
def insV (l:List Vs) (k:Nat) (v:Vs):List Vs:=l.take k++v::l.drop k
theorem insV_len {l:List Vs} {k:Nat} {v:Vs} (h:k≤l.length):(insV l k v).length=l.length+1:=by simp [insV];omega
theorem insV_get {l:List Vs} {k:Nat} {v:Vs} (h:k≤l.length) (i:Nat):(insV l k v).getD i default=if i<k then l.getD i default else if i=k then v else l.getD (i-1) default:=by
 have hk:(l.take k).length=k:=by rw [List.length_take];omega
 simp only [insV,List.getD_eq_getElem?_getD]
 by_cases h1:i<k
 ·rw [if_pos h1,List.getElem?_append_left (by omega),List.getElem?_take_of_lt h1]
 ·rw [if_neg h1,List.getElem?_append_right (by omega),hk]
  by_cases h2:i=k
  ·subst h2;simp
  ·rw [if_neg h2]
   obtain ⟨j,hj⟩:∃ j,i-k=j+1:=⟨i-k-1,by omega⟩
   rw [hj,List.getElem?_cons_succ,List.getElem?_drop]
   rw [show k+j=i-1 by omega]
theorem dVs_at {x:Vs} {j:Nat} (h:j<9):∃ y,(dVs x)[j]?=some y:=⟨(dVs x)[j]'(by simpa [dVs] using h),List.getElem?_eq_getElem _⟩
set_option maxHeartbeats 2000000 in
theorem sInsLo (l:List Vs) (v:Vs) (k:Nat) (hk:k<l.length) (hl:l.length≤1000) :
  Ctr Tryz.prog 61 [.osl 900,.d (.int .i64 (k:Int)),.d (.sl true 9 1 (litRow 9 (dVs v)))] [(900,rowVs l)] (.osl 7) [(7,rowVs (insV l k v))] [7]:=by
 refine ⟨by kernel_rfl,by simp [keysO],by simp [keysO],fun E0 β w vals hE hsz hv hins hnn=>?_⟩
 obtain ⟨s,iv,u,rfl⟩:∃ s iv u,vals=#[s,iv,u]:=by
  match vals,hsz with
  |⟨[s,iv,u]⟩,_=>exact ⟨s,iv,u,rfl⟩
 have h1:=hv 0 s (.osl 900) rfl rfl
 have h2:=hv 1 iv _ rfl rfl
 have h3:=hv 2 u _ rfl rfl
 obtain rfl:iv=.int .i64 (k:Int):=by
  cases h2 with
  |d _ _ h=>cases h;rfl
 obtain ⟨s',xs,q1,⟨hx,hrow⟩,hlen,hcell⟩:=hins.ok 900 (rowVs l) (by simp)
 obtain rfl:s=s':=by
  cases h1 with
  |osl k u h _=>rw [h] at q1;injection q1
 rcases hrow with ⟨-,h0⟩|⟨g,cap,cur,rfl,hc0,hheap,hn,hcm,hcs,htake⟩
 ·omega
 have h7:β 7=none:=hnn 7 (by simp)
 have hbk:β.blk 900=some g:=by simp [Names.blk,q1,blkOf];omega
 have hg:g<w.heap.size:=(Array.getElem?_eq_some_iff.1 hheap).1
 obtain ⟨E,hEo⟩:∃ E,E=Eo E0 β [(900,rowVs l)]:=⟨_,rfl⟩
 rw [←hEo] at h3 hcell
 have hEg:E g:=by rw [hEo];exact .inr ⟨900,by simp [keysO],hbk⟩
 obtain ⟨vb,vo,vc,gg,rfl,hgg⟩:∃ vb vo vc,∃ gg:Nat→Value,u=.slice (some ⟨vb,vo,none⟩) 1 vc∧∀ j,j<9→(¬ E vb∧w.cell? ⟨vb,vo+j,none⟩=some (gg j))∧∀ x,(dVs v)[j]?=some x→RelD E w (gg j) x:=by
  cases h3 with
  |d _ _ h =>
   cases h with
   |sl full sz n f b off c g hc hf hl hcell hrel =>
    refine ⟨b,off,c,fun j=>g 0 j,rfl,fun j hj=>⟨?_,fun x hx=>hrel 0 j (by decide) hj x ?_⟩⟩
    ·have:=hcell 0 j (by decide) hj
     rwa [Nat.zero_mul,Nat.zero_add] at this
    ·have:litRow 9 (dVs v) 0=dVs v:=by simp [litRow,dVs]
     rw [this];exact hx
 have hvb:vb≠g:=fun e=>(hgg 0 (by decide)).1.1 (e▸hEg)
 obtain ⟨vs,hvs⟩:∃ vs,vs=(List.range 9).map gg:=⟨_,rfl⟩
 have hvl:vs.length=9:=by rw [hvs];simp
 have hvg:∀ j x,vs[j]?=some x→j<9∧x=gg j:=fun j x h=>by
  have hj:j<9:=by
   have:=(List.getElem?_eq_some_iff.1 h).1;omega
  rw [hvs,List.getElem?_map,List.getElem?_range hj] at h
  exact ⟨hj,by injection h with h;exact h.symm⟩
 have hvc:∀ j x,vs[j]?=some x→w.cell? ⟨vb,vo+j,none⟩=some x:=fun j x h=>by
  obtain ⟨h1,rfl⟩:=hvg j x h
  exact (hgg j h1).1.2
 have h1v:∀ x,x∈vs→x.oneCell'=true:=fun x hx=>by
  obtain ⟨j,h1,h2⟩:=List.getElem_of_mem hx
  obtain ⟨h3,rfl⟩:=hvg j x (by rw [List.getElem?_eq_getElem h1,h2])
  obtain ⟨y,hy⟩:=dVs_at (x:=v) h3
  exact ((hgg j h3).2 y hy).one
 have h1c:∀ x,x∈cur.toList.take (l.length*9)→x.oneCell'=true:=fun x hx=>by
  rw [htake] at hx
  obtain ⟨t,h1,h2⟩:=List.getElem_of_mem hx
  obtain ⟨y,hy⟩:=dVs_at (x:=l.getD (t / 9) default) (j:=t % 9) (Nat.mod_lt _ (by decide))
  obtain ⟨u,g1,g2⟩:=hcell (t / 9) (t % 9) (by omega) (Nat.mod_lt _ (by decide)) y hy
  rw [show t / 9*9+t % 9=t by omega,List.getElem?_eq_getElem h1,h2] at g1
  injection g1 with g1
  rw [g1];exact g2.one
 have main:Calls Tryz.prog 61 #[.slice (some ⟨g,0,none⟩) l.length cap,.int .i64 (k:Int),.slice (some ⟨vb,vo,none⟩) 1 vc] w fun e w' =>
   ∃ g' c' cur',e=.returned (.slice (some ⟨g',0,none⟩) (l.length+1) c')∧Keeps (fun x=>x=g) w w'∧(g'=g∨g'=w.heap.size)∧l.length+1≤c'∧c'≤maxLen∧w'.heap[g']?=some (.cells cur' 75 (0,0))∧cur'.size=c'*9∧cur'.toList.take ((l.length+1)*9)=cur.toList.take (k*9)++vs++(cur.toList.take (l.length*9)).drop (k*9):=by
  by_cases hroom:l.length+1≤cap
  ·refine (insRoom g cap k l.length vb vo vc cur vs w hk hroom (by unfold maxLen at hcm;omega) hvb hheap hcs hvl hvc h1c h1v).mono ?_
   rintro e w' ⟨rfl,hK,cur',q2,q3,q4⟩
   exact ⟨g,cap,cur',rfl,hK,.inl rfl,hroom,hcm,q2,q3,q4⟩
  ·obtain rfl:cap=l.length:=by omega
   refine (insGrow g k l.length vb vo vc cur vs w hk hl hvb hheap hcs hvl hvc h1c h1v).mono ?_
   rintro e w' ⟨c',rfl,hK,q5,q6,cur',q2,q3,q4⟩
   exact ⟨_,c',cur',rfl,hK.mono (fun x h=>h.elim),.inr rfl,q5,q6,q2,q3,q4⟩
 refine main.mono ?_
 clear main
 rintro e w' ⟨g',c',cur',rfl,hK,hg',p1,p2,p3,p4,p5⟩
 rw [htake] at p5
 have p6:cur.toList.take (k*9)=xs.take (k*9):=by rw [←htake,List.take_take,Nat.min_eq_left (by omega)]
 rw [p6] at p5
 have hin:=insV_len (v:=v) (Nat.le_of_lt hk)
 obtain ⟨β',hβ'⟩:∃ β':Names,β'=fun k=>if k=7 then some (.slice (some ⟨g',0,none⟩) (l.length+1) c') else β k:=⟨_,rfl⟩
 have hb7:β' 7=some (.slice (some ⟨g',0,none⟩) (l.length+1) c'):=by rw [hβ'];simp
 have hbk7:β'.blk 7=some g':=by simp [Names.blk,hb7,blkOf];omega
 have hE':∀ x,Eo E0 β' [(7,rowVs (insV l k v))] x→E0 x∨x=g':=fun x h=>by
  rcases h with h|⟨j,h1,h2⟩
  ·exact .inl h
  ·obtain rfl:j=7:=by simpa [keysO] using h1
   rw [hbk7] at h2;injection h2 with h2;exact .inr h2.symm
 have hL:Lasts E (Eo E0 β' [(7,rowVs (insV l k v))]) w w':=fun x hx hxE=>by
  have hxg:x≠g:=fun e=>hxE (e▸hEg)
  refine ⟨fun h=>?_,hK.block x hx hxg⟩
  rcases hE' x h with h|h
  ·exact hxE (by rw [hEo];exact .inl h)
  ·rcases hg' with e|e
   ·exact hxg (h.trans e)
   ·omega
 have hg0:¬ E0 g':=by
  rcases hg' with e|e
  ·rw [e];exact (hins.lt 900 (by simp [keysO]) g hbk).2
  ·intro h;have:=hE _ h;omega
 have hgw:g'<w'.heap.size:=(Array.getElem?_eq_some_iff.1 p3).1
 refine ⟨_,β',rfl,fun j x h=>?_,fun j hj=>?_,.osl _ _ hb7 rfl,⟨fun j o hm=>?_,by simp [keysO],fun j j' h1 h2 hne=>?_,fun j hj b hb=>?_⟩,hK.mono (fun x e=>⟨900,by simp [keysO],by rw [e];exact hbk⟩),fun j hj b hb=>?_⟩
 ·rw [hβ']
  simp only
  rw [if_neg]
  ·exact h
  ·rintro rfl;rw [h7] at h;cases h
 ·rw [hβ'];exact if_neg (by simpa using hj)
 ·simp only [List.mem_singleton,Prod.mk.injEq] at hm
  obtain ⟨rfl,rfl⟩:=hm
  refine ⟨_,cur'.toList.take ((l.length+1)*9),hb7,⟨?_,.inr ⟨g',c',cur',by rw [hin],by omega,p3,by rw [hin];exact p1,p2,p4,by rw [hin]⟩⟩,fun i hi=>rfl,fun i j hi hj x hx'=>?_⟩
  ·have e:cur'.toList.length=c'*9:=by rw [Array.length_toList];exact p4
   rw [List.length_take,e,hin];omega
  ·rw [hin] at hi
   rw [p5]
   simp only [insV_get (Nat.le_of_lt hk)] at hx'
   have hxt:(xs.take (k*9)).length=k*9:=by rw [List.length_take];omega
   by_cases c1:i<k
   ·rw [if_pos c1] at hx'
    obtain ⟨y,g1,g2⟩:=hcell i j (by omega) hj x hx'
    refine ⟨y,?_,g2.lasts hL⟩
    rw [List.append_assoc,List.getElem?_append_left (by omega),List.getElem?_take_of_lt (by omega)]
    exact g1
   ·rw [if_neg c1] at hx'
    by_cases c2:i=k
    ·rw [if_pos c2] at hx'
     subst c2
     refine ⟨gg j,?_,((hgg j hj).2 x hx').lasts hL⟩
     rw [List.append_assoc,List.getElem?_append_right (by omega),hxt,List.getElem?_append_left (by omega),show i*9+j-i*9=j by omega,hvs,List.getElem?_map,List.getElem?_range hj]
     rfl
    ·rw [if_neg c2] at hx'
     obtain ⟨y,g1,g2⟩:=hcell (i-1) j (by omega) hj x hx'
     refine ⟨y,?_,g2.lasts hL⟩
     rw [List.append_assoc,List.getElem?_append_right (by omega),hxt,List.getElem?_append_right (by omega),hvl,List.getElem?_drop,show k*9+(i*9+j-k*9-9)=(i-1)*9+j by omega]
     exact g1
 ·simp [keysO] at h1 h2;omega
 ·obtain rfl:j=7:=by simpa [keysO] using hj
  rw [hbk7] at hb;injection hb with hb;subst hb
  exact ⟨hgw,hg0⟩
 ·obtain rfl:j=7:=by simpa [keysO] using hj
  rw [hbk7] at hb;injection hb with hb;subst hb
  rcases hg' with e|e
  ·exact .inr ⟨900,by simp [keysO],by rw [e];exact hbk⟩
  ·exact .inl (by omega)
end Go.Proofs.YtanppabbmffokaaGreat
end
section
namespace Go.Proofs.YtanppabbmffokaaGreat
open Go.Bx
set_option maxRecDepth 10000
def mapP (v:Vs) (s:Sl):Sl:=if s.on=true then { s with yr:=(yearR v s.rk s.cv).1 } else s
def errP (v:Vs):List Sl→Int
 |[]=>0
 |s::r=>if s.on=true∧(yearR v s.rk s.cv).2≠0 then (yearR v s.rk s.cv).2 else errP v r
def ofS (h:Hi) (t:List Vs):List Sl×Int:=
 if rightHi h=false then ([],1) else
  match atV t h.tm.sf with
  |none=>([],7)
  |some v=>if errP v (cutS h)=0 then ((cutS h).map (mapP v),0) else ([],errP v (cutS h))
theorem cutS_ok {h:Hi} (z:SzC h):(cutS h).length≤h.ch.length+1∧∀ s,s∈cutS h→s.cv.length≤1000000:=by
 have hI:=cutK_ok z.t z.c h.ch.length
 refine ⟨?_,endO_cv hI.now hI.cv⟩
 have h1:=endO_len (cutK h h.ch.length).1 (cutK h h.ch.length).2 h.tm.st
 have h2:=hI.len
 simp only [cutS];omega
theorem SzC.hi {h:Hi} (z:SzC h):SzHi h:=⟨by have:=z.t;omega,by have:=z.n;omega,fun c hc=>by have:=z.c c hc;omega⟩
def upK (v:Vs) (l:List Sl) (k:Nat):List Sl:=(l.take k).map (mapP v)++l.drop k
theorem upK_len (v:Vs) (l:List Sl) (k:Nat):(upK v l k).length=l.length:=by simp [upK];omega
theorem upK_get {v:Vs} {l:List Sl} {k i:Nat} (hi:i<l.length):(upK v l k).getD i default=if i<k then mapP v (l.getD i default) else l.getD i default:=by
 simp only [upK,List.getD_eq_getElem?_getD,List.getElem?_append,List.length_map,List.length_take]
 by_cases h:i<k
 ·rw [if_pos (by omega),if_pos h,List.getElem?_map,List.getElem?_take_of_lt h,List.getElem?_eq_getElem hi];rfl
 ·rw [if_neg (by omega),if_neg h,List.getElem?_drop]
  congr 2;omega
set_option maxHeartbeats 2000000 in
theorem sOfS (hh:Hi) (t:List Vs) (z:SzC hh) (ht:t.length≤1000000) (hz:∀ v,v∈t→SzV v):Ctr Tryz.prog 24 [vHi hh,.ag [.d (slV t)]] [] (.tup [.d (slS (ofS hh t).1),.d (.int .i64 (ofS hh t).2)]) [] []:=by
 have cr:=sRightHi hh z.hi
 have ca:=sAtV t hh.tm.sf ht hz
 have cc:=(sCut hh z).sw 7 1000
 obtain ⟨hl1,hl2⟩:=cutS_ok z
 have hn:=z.n
 simp only [vHi,cHi,slC,slH,dCh] at cr
 simp only [vHi,cHi,slC,slH,dCh,rowS,vcd,↓vcp,seval] at cc
 simp only [slV,dVs,vV,cV,slB] at ca
 have nl:∀ {sz:Nat} {f g:Nat→List D},VLe (.d (.sl true 0 0 g)) (.d (.sl false sz 0 f)):=VLe.nil rfl (fun h=>by cases h)
 cases hr:rightHi hh with
 |false =>
  have e:ofS hh t=([],1):=by rw [ofS,if_pos hr]
  rw [hr] at cr
  rw [e]
  refine ctr_pure Tryz.func24 ok24 rfl cc24 cr24 Tryz.ntmps24 (by simp) rfl rfl ?_;intro c hP hfn;simp only [kc24,vHi,cHi,slC,slH,dCh,slV,dVs,slB,vcd,↓vcp,seval]
  repeat' first|((first|refine tp hP (by exact cr) ?_|refine tg hP (fun _=>by exact cr) ?_|refine tv hP rfl (by exact cr) ?_);try simp only [vcd,↓vcp,seval])|refine ⟨fun h=>?_,fun h=>?_⟩|refine aO ?_|refine aT ?_|fail
  refine RetK.pure (by simp only [rs24,rsb,vcd,↓vcp,seval]) ?_
  simp only [rs24,rsb,vcd,↓vcp,seval]
  exact VLe.tups ⟨nl,VLe.refl _,trivial⟩
 |true =>
  rw [hr] at cr
  cases hat:atV t hh.tm.sf with
  |none =>
   have e:ofS hh t=([],7):=by rw [ofS,if_neg (by rw [hr];simp),hat]
   have n0:((7:Int) != 0)=true:=rfl
   rw [hat] at ca
   simp only [atO,atE,Option.getD_none,Option.isSome_none,Bool.false_eq_true,if_false] at ca
   rw [e]
   refine ctr_pure Tryz.func24 ok24 rfl cc24 cr24 Tryz.ntmps24 (by simp) rfl rfl ?_;intro c hP hfn;simp only [kc24,vHi,cHi,slC,slH,dCh,slV,dVs,slB,vcd,↓vcp,seval]
   repeat' first|((first|refine tp hP (by first|exact cr|exact ca) ?_|refine tg hP (fun _=>by first|exact cr|exact ca) ?_|refine tv hP rfl (by first|exact cr|exact ca) ?_);try simp only [n0,vcd,↓vcp,seval])|refine ⟨fun h=>?_,fun h=>?_⟩|refine aO ?_|refine aT ?_|fail
   refine RetK.pure (by simp only [rs24,rsb,vcd,↓vcp,seval]) ?_
   simp only [rs24,rsb,vcd,↓vcp,seval]
   exact VLe.tups ⟨nl,VLe.refl _,trivial⟩
  |some v =>
   have hvz:SzV v:=hz v (by
    have:=List.mem_of_find?_eq_some hat
    simpa using this)
   have e:ofS hh t=if errP v (cutS hh)=0 then ((cutS hh).map (mapP v),0) else ([],errP v (cutS hh)):=by rw [ofS,if_neg (by rw [hr];simp),hat]
   have n0:((0:Int) != 0)=false:=rfl
   rw [hat] at ca
   simp only [atO,atE,Option.getD_some,Option.isSome_some,if_true] at ca
   rw [e]
   generalize cutS hh=L at *
   refine ctr_pure Tryz.func24 ok24 rfl cc24 cr24 Tryz.ntmps24 (by simp) rfl rfl ?_;intro c hP hfn;simp only [kc24,vHi,cHi,slC,slH,dCh,slV,dVs,slB,vcd,↓vcp,seval]
   repeat' first|((first|refine tp hP (by first|exact cr|exact ca) ?_|refine tg hP (fun _=>by first|exact cr|exact ca) ?_|refine tv hP rfl (by first|exact cr|exact ca) ?_);try simp only [n0,vcd,↓vcp,seval])|refine ⟨fun h=>?_,fun h=>?_⟩|refine aO ?_|refine aT ?_|fail
   refine TR.call [] [(1000,rowS L)] (.osl 1000) [1000] (by rw [hP];exact cc) (by repeat' first|exact trivial|(intro _;assumption)|apply And.intro) (fun k o h=>by simp at h) (by simp [keysO]) (by simp) ?_
   simp only [rowS,n0,vcd,↓vcp,seval]
   repeat' first|refine ⟨fun h=>?_,fun h=>?_⟩|refine aO ?_|refine aT ?_|fail
   refine vcC.loop (X:=Nat) (fun k=>⟨[(6,.own 6 0),(8,.osl 1000),(28,.osl 1000),(29,.d (.int .i64 L.length)),(30,.d (.int .i64 k))],[(6,.fix (cV v)),(1000,rowS (upK v L k))],[6,1000]⟩)
    (fun k=>k≤L.length∧errP v L=errP v (L.drop k)) (fun k=>L.length-k) 0 ⟨Nat.zero_le _,rfl⟩ (Wk.of _ hfn rfl (by simp only [enb,vcd,↓vcp,seval]) (by simp only [cV,slB,rowS,enb,vcd,↓vcp,seval];exact OLe.row (upK_len v L 0).symm (fun i hi=>by rw [upK_get hi,if_neg (Nat.not_lt_zero i)]))) ?_
   clear cr ca cc
   rintro k ⟨hk,he⟩
   have hul:=upK_len v L k
   by_cases hlt:k<L.length
   ·obtain ⟨s,hd,hg,hm,-⟩:=drop_at hlt
    have d0:decide ((k:Int)<(L.length:Int))=true:=decide_eq_true (by omega)
    have w1:IntKind.i64.wrap ((k:Int)+1)=((k+1:Nat):Int):=wS (by omega)
    have hgk:(upK v L k).getD k default=s:=by rw [upK_get hlt,if_neg (Nat.lt_irrefl k),hg]
    have b1:(0:Int)≤(k:Int)∧(k:Int)<((upK v L k).length:Int):=by omega
    have cy:=sYear v s.rk s.cv hvz.short (by have:=hl2 s hm;omega)
    simp only [vV,cV,slB,vR,cR,slC] at cy
    rw [hd,errP] at he
    cases hon:s.on with
    |false =>
     have hrow:∀ i,i<(upK v L k).length→dSl ((upK v L k).getD i default)=dSl ((upK v L (k+1)).getD i default):=fun i hi=>by
      rw [hul] at hi
      rw [upK_get hi,upK_get hi]
      by_cases h1:i<k
      ·rw [if_pos h1,if_pos (by omega)]
      ·rw [if_neg h1]
       by_cases h2:i=k
       ·subst h2;rw [if_pos (by omega),hg,mapP,if_neg (by rw [hon];simp)]
       ·rw [if_neg (by omega)]
     have he2:errP v L=errP v (L.drop (k+1)):=by rw [he,if_neg (by rw [hon];simp)]
     simp only [rowS,dSl,cV,slB,slC,d0,hgk,hon,vcd,↓vcp,seval]
     repeat' first|refine ⟨fun h=>?_,fun h=>?_⟩|refine aO ?_|refine aT ?_|fail
     refine lopK.on (k+1) ⟨hlt,he2⟩ (by omega) (Wk.of _ hfn rfl (by simp only [w1,enb,vcd,↓vcp,seval]) ?_)
     simp only [cV,slB,rowS,enb,vcd,↓vcp,seval]
     exact OLe.row (by rw [hul,upK_len]) hrow
    |true =>
     obtain ⟨y,e1,hy⟩:∃ y e,yearR v s.rk s.cv=(y,e):=⟨_,_,rfl⟩
     rw [hy] at cy he
     simp only at cy he
     by_cases h0:e1=0
     ·subst h0
      have he2:errP v L=errP v (L.drop (k+1)):=by rw [he,if_neg (by simp)]
      simp only [rowS,dSl,cV,slB,slC,d0,hgk,hon,vcd,↓vcp,seval]
      repeat' first|((first|refine tp hP (by exact cy) ?_|refine tg hP (fun _=>by exact cy) ?_|refine tv hP rfl (by exact cy) ?_);try simp only [d0,hgk,hon,w1,n0,vcd,↓vcp,seval])|refine ⟨fun h=>?_,fun h=>?_⟩|refine aO ?_|refine aT ?_|fail
      refine lopK.on (k+1) ⟨hlt,he2⟩ (by omega) (Wk.of _ hfn rfl (by simp only [w1,enb,vcd,↓vcp,seval]) ?_)
      simp only [cV,slB,rowS,enb,vcd,↓vcp,seval]
      refine OLe.row (by rw [hul,upK_len]) (fun i hi=>?_)
      rw [hul] at hi
      rw [upK_get (k:=k+1) hi]
      by_cases h2:i=k
      ·subst h2
       rw [if_pos (Nat.lt_succ_self i),hg,mapP,if_pos hon,hy]
       simp [putD,dSl,slC,hon]
      ·rw [if_neg h2,upK_get hi]
       by_cases h1:i<k
       ·rw [if_pos h1,if_pos (by omega)]
       ·rw [if_neg h1,if_neg (by omega)]
     ·have n1:(e1 != 0)=true:=bne_iff_ne.2 h0
      have he2:errP v L=e1:=by rw [he,if_pos ⟨hon,h0⟩]
      rw [he2,if_neg h0]
      simp only [rowS,dSl,cV,slB,slC,d0,hgk,hon,vcd,↓vcp,seval]
      repeat' first|((first|refine tp hP (by exact cy) ?_|refine tg hP (fun _=>by exact cy) ?_|refine tv hP rfl (by exact cy) ?_);try simp only [d0,hgk,hon,w1,n1,vcd,↓vcp,seval])|refine ⟨fun h=>?_,fun h=>?_⟩|refine aO ?_|refine aT ?_|fail
      refine RetK.pure (by simp only [rs24,rsb,vcd,↓vcp,seval]) ?_
      simp only [rs24,rsb,vcd,↓vcp,seval]
      exact VLe.tups ⟨nl,VLe.refl _,trivial⟩
   ·have d0:decide ((k:Int)<(L.length:Int))=false:=decide_eq_false (by omega)
    have hkl:k=L.length:=by omega
    subst hkl
    rw [List.drop_length,errP] at he
    have hu:upK v L L.length=L.map (mapP v):=by simp [upK]
    rw [he,if_pos rfl]
    simp only [rowS,hu,d0,vcd,↓vcp,seval]
    repeat' first|refine ⟨fun h=>?_,fun h=>?_⟩|refine aO ?_|refine aT ?_|fail
    refine RetK.mk _ (Wk.pub 1000 rfl) (by simp only [rs24,rsb,vcd,↓vcp,seval]) ?_ trivial
    simp only [rs24,rsb,vcd,↓vcp,seval]
    exact VLe.refl _
end Go.Proofs.YtanppabbmffokaaGreat
end
section
namespace Go.Proofs.YtanppabbmffokaaGreat
open Go.Bx
set_option maxRecDepth 10000
def zHi:Hi:=⟨0,0,⟨0,0,⟨0,0,0,0⟩,[]⟩,[]⟩
def lastB (h:Hi):Int:=if 0<h.ch.length then (h.ch.getD (h.ch.length-1) default).bk else h.bk
def putC (h:Hi) (c:Ch):Hi×Int:=
 if (rightCh c&&inT h.tm c.dy)=false then (zHi,1) else if c.bk<lastB h then (zHi,4) else if h.ch.length≥2000 then (zHi,2) else ({ h with ch:=h.ch++[c] },0)
theorem vle_nil {sz:Nat} {f g:Nat→List D}:VLe (.d (.sl true 0 0 g)) (.d (.sl false sz 0 f)):=VLe.nil rfl (fun h=>by cases h)
theorem vle_zHi {g1 g2:Nat→List D}:VLe (.ag [.d (.int .i64 0),.d (.int .i64 0),.d (.int .i64 0),.d (.int .i64 0),.d (.int .i64 0),.d (.int .i64 0),.d (.int .i64 0),.d (.int .i64 0),.d (.sl true 0 0 g1),.d (.sl true 0 0 g2)]) (vHi zHi):=
 VLe.ags ⟨VLe.refl _,VLe.refl _,VLe.refl _,VLe.refl _,VLe.refl _,VLe.refl _,VLe.refl _,VLe.refl _,vle_nil,vle_nil,trivial⟩
theorem vle_snocH {l:List Ch} {c:Ch} {F:Nat→List D} (h1:∀ i,i<l.length→F i=dCh (l.getD i default)) (h2:F l.length=dCh c):VLe (.d (.sl false 9 (l.length+1) F)) (.d (slH (l++[c]))):=
 VLe.sl (by simp) (fun _=>rfl) id fun i hi=>by
  by_cases h:i<l.length
  ·rw [h1 i h,List.getD_eq_getElem?_getD,List.getD_eq_getElem?_getD,List.getElem?_append_left h]
  ·have:i=l.length:=by omega
   subst this
   rw [h2];simp [List.getD_eq_getElem?_getD]
set_option maxHeartbeats 2000000 in
theorem sPutC (hh:Hi) (c':Ch) (ht:hh.tm.cv.length≤1000000) (hl:c'.cv.length≤1000000) (hn:hh.ch.length≤1000000):Ctr Tryz.prog 10 [vHi hh,vCh c'] [] (.tup [vHi (putC hh c').1,.d (.int .i64 (putC hh c').2)]) [] []:=by
 have cr:=sRightCh c' (by omega)
 have ci:=sIn hh.tm.sf hh.tm.st c'.dy
 have cc:=pCloneC c'.cv hl
 have co:=sOwnT hh.tm ht
 simp only [vCh,cCh,slC] at cr
 simp only [vS] at ci
 simp only [slC] at cc
 simp only [vTm,cTm,slC] at co
 have hlast:∀ {d:Ch},0<hh.ch.length→lastB hh=(hh.ch.getD (hh.ch.length-1) d).bk:=fun {d} h=>by
  obtain ⟨x,-,hg,-,-⟩:=drop_at (l:=hh.ch) (k:=hh.ch.length-1) (by omega)
  rw [lastB,if_pos h,hg,hg]
 have w1:0<hh.ch.length→IntKind.i64.wrap ((hh.ch.length:Int)-1)=((hh.ch.length-1:Nat):Int):=fun h=>(wI (by omega)).trans (by omega)
 cases hr:rightCh c' with
 |false =>
  have e:putC hh c'=(zHi,1):=by rw [putC,if_pos (by rw [hr];rfl)]
  rw [hr] at cr
  rw [e]
  by_cases h0:0<hh.ch.length
  ·have d0:decide ((hh.ch.length:Int)>0)=true:=decide_eq_true (by omega)
   have w1:=w1 h0
   have b1:(0:Int)≤((hh.ch.length-1:Nat):Int)∧((hh.ch.length-1:Nat):Int)<(hh.ch.length:Int):=by omega
   refine ctr_pure Tryz.func10 ok10 rfl cc10 cr10 Tryz.ntmps10 (by simp) rfl rfl ?_;intro c hP hfn;simp only [kc10,vHi,cHi,vCh,cCh,slC,slH,dCh,d0,w1,vcd,↓vcp,seval]
   repeat' first|((first|refine tp hP (by first|exact cr|exact ci) ?_|refine tg hP (fun _=>by first|exact cr|exact ci) ?_|refine tv hP rfl (by first|exact cr|exact ci) ?_);try simp only [d0,w1,vcd,↓vcp,seval])|refine ⟨fun h=>?_,fun h=>?_⟩|refine aO ?_|refine aT ?_|fail
   all_goals
    refine RetK.pure (by simp only [rs10,rsb,vcd,↓vcp,seval]) ?_
    simp only [rs10,rsb,vcd,↓vcp,seval]
    exact VLe.tups ⟨vle_zHi,VLe.refl _,trivial⟩
  ·have d0:decide ((hh.ch.length:Int)>0)=false:=decide_eq_false (by omega)
   refine ctr_pure Tryz.func10 ok10 rfl cc10 cr10 Tryz.ntmps10 (by simp) rfl rfl ?_;intro c hP hfn;simp only [kc10,vHi,cHi,vCh,cCh,slC,slH,dCh,d0,vcd,↓vcp,seval]
   repeat' first|((first|refine tp hP (by first|exact cr|exact ci) ?_|refine tg hP (fun _=>by first|exact cr|exact ci) ?_|refine tv hP rfl (by first|exact cr|exact ci) ?_);try simp only [d0,vcd,↓vcp,seval])|refine ⟨fun h=>?_,fun h=>?_⟩|refine aO ?_|refine aT ?_|fail
   all_goals
    refine RetK.pure (by simp only [rs10,rsb,vcd,↓vcp,seval]) ?_
    simp only [rs10,rsb,vcd,↓vcp,seval]
    exact VLe.tups ⟨vle_zHi,VLe.refl _,trivial⟩
 |true =>
 rw [hr] at cr
 cases hi:inT hh.tm c'.dy with
 |false =>
  have e:putC hh c'=(zHi,1):=by rw [putC,if_pos (by rw [hr,hi];rfl)]
  simp only [inT] at hi
  rw [hi] at ci
  rw [e]
  by_cases h0:0<hh.ch.length
  ·have d0:decide ((hh.ch.length:Int)>0)=true:=decide_eq_true (by omega)
   have w1:=w1 h0
   have b1:(0:Int)≤((hh.ch.length-1:Nat):Int)∧((hh.ch.length-1:Nat):Int)<(hh.ch.length:Int):=by omega
   refine ctr_pure Tryz.func10 ok10 rfl cc10 cr10 Tryz.ntmps10 (by simp) rfl rfl ?_;intro c hP hfn;simp only [kc10,vHi,cHi,vCh,cCh,slC,slH,dCh,d0,w1,vcd,↓vcp,seval]
   repeat' first|((first|refine tp hP (by first|exact cr|exact ci) ?_|refine tg hP (fun _=>by first|exact cr|exact ci) ?_|refine tv hP rfl (by first|exact cr|exact ci) ?_);try simp only [d0,w1,vcd,↓vcp,seval])|refine ⟨fun h=>?_,fun h=>?_⟩|refine aO ?_|refine aT ?_|fail
   all_goals
    refine RetK.pure (by simp only [rs10,rsb,vcd,↓vcp,seval]) ?_
    simp only [rs10,rsb,vcd,↓vcp,seval]
    exact VLe.tups ⟨vle_zHi,VLe.refl _,trivial⟩
  ·have d0:decide ((hh.ch.length:Int)>0)=false:=decide_eq_false (by omega)
   refine ctr_pure Tryz.func10 ok10 rfl cc10 cr10 Tryz.ntmps10 (by simp) rfl rfl ?_;intro c hP hfn;simp only [kc10,vHi,cHi,vCh,cCh,slC,slH,dCh,d0,vcd,↓vcp,seval]
   repeat' first|((first|refine tp hP (by first|exact cr|exact ci) ?_|refine tg hP (fun _=>by first|exact cr|exact ci) ?_|refine tv hP rfl (by first|exact cr|exact ci) ?_);try simp only [d0,vcd,↓vcp,seval])|refine ⟨fun h=>?_,fun h=>?_⟩|refine aO ?_|refine aT ?_|fail
   all_goals
    refine RetK.pure (by simp only [rs10,rsb,vcd,↓vcp,seval]) ?_
    simp only [rs10,rsb,vcd,↓vcp,seval]
    exact VLe.tups ⟨vle_zHi,VLe.refl _,trivial⟩
 |true =>
 have e0:putC hh c'=if c'.bk<lastB hh then (zHi,4) else if hh.ch.length≥2000 then (zHi,2) else ({ hh with ch:=hh.ch++[c'] },0):=by rw [putC,if_neg (by rw [hr,hi];simp)]
 simp only [inT] at hi
 rw [hi] at ci
 rw [e0]
 clear e0
 by_cases h0:0<hh.ch.length
 ·have d0:decide ((hh.ch.length:Int)>0)=true:=decide_eq_true (by omega)
  have w1:=w1 h0
  have b1:(0:Int)≤((hh.ch.length-1:Nat):Int)∧((hh.ch.length-1:Nat):Int)<(hh.ch.length:Int):=by omega
  rw [hlast h0 (d:=default)]
  by_cases ho:c'.bk<(hh.ch.getD (hh.ch.length-1) default).bk
  ·rw [if_pos ho]
   have dd:decide (c'.bk<(hh.ch.getD (hh.ch.length-1) default).bk)=true:=decide_eq_true ho
   refine ctr_pure Tryz.func10 ok10 rfl cc10 cr10 Tryz.ntmps10 (by simp) rfl rfl ?_;intro c hP hfn;simp only [kc10,vHi,cHi,vCh,cCh,slC,slH,dCh,d0,w1,dd,vcd,↓vcp,seval]
   repeat' first|((first|refine tp hP (by first|exact cr|exact ci) ?_|refine tg hP (fun _=>by first|exact cr|exact ci) ?_|refine tv hP rfl (by first|exact cr|exact ci) ?_);try simp only [d0,w1,dd,vcd,↓vcp,seval])|refine ⟨fun h=>?_,fun h=>?_⟩|refine aO ?_|refine aT ?_|fail
   all_goals
    refine RetK.pure (by simp only [rs10,rsb,vcd,↓vcp,seval]) ?_
    simp only [rs10,rsb,vcd,↓vcp,seval]
    exact VLe.tups ⟨vle_zHi,VLe.refl _,trivial⟩
  ·rw [if_neg ho]
   have dd:decide (c'.bk<(hh.ch.getD (hh.ch.length-1) default).bk)=false:=decide_eq_false ho
   by_cases hb:hh.ch.length≥2000
   ·rw [if_pos hb]
    have de:decide ((hh.ch.length:Int)≥2000)=true:=decide_eq_true (by omega)
    refine ctr_pure Tryz.func10 ok10 rfl cc10 cr10 Tryz.ntmps10 (by simp) rfl rfl ?_;intro c hP hfn;simp only [kc10,vHi,cHi,vCh,cCh,slC,slH,dCh,d0,w1,dd,de,vcd,↓vcp,seval]
    repeat' first|((first|refine tp hP (by first|exact cr|exact ci) ?_|refine tg hP (fun _=>by first|exact cr|exact ci) ?_|refine tv hP rfl (by first|exact cr|exact ci) ?_);try simp only [d0,w1,dd,de,vcd,↓vcp,seval])|refine ⟨fun h=>?_,fun h=>?_⟩|refine aO ?_|refine aT ?_|fail
    all_goals
     refine RetK.pure (by simp only [rs10,rsb,vcd,↓vcp,seval]) ?_
     simp only [rs10,rsb,vcd,↓vcp,seval]
     exact VLe.tups ⟨vle_zHi,VLe.refl _,trivial⟩
   ·rw [if_neg hb]
    have de:decide ((hh.ch.length:Int)≥2000)=false:=decide_eq_false (by omega)
    have hroom:(hh.ch.length+1)*88≤140737488355328∧hh.ch.length+1≤maxLen:=⟨by omega,by simp only [maxLen];omega⟩
    refine ctr_pure Tryz.func10 ok10 rfl cc10 cr10 Tryz.ntmps10 (by simp) rfl rfl ?_;intro c hP hfn;simp only [kc10,vHi,cHi,vCh,cCh,slC,slH,dCh,d0,w1,dd,de,vcd,↓vcp,seval]
    repeat' first|((first|refine tp hP (by first|exact cr|exact ci|exact cc|exact co) ?_|refine tg hP (fun _=>by first|exact cr|exact ci|exact cc|exact co) ?_|refine tv hP rfl (by first|exact cr|exact ci|exact cc|exact co) ?_);try simp only [d0,w1,dd,de,vcd,↓vcp,seval])|refine ⟨fun h=>?_,fun h=>?_⟩|refine aO ?_|refine aT ?_|fail
    refine RetK.mk _ (Wk.pub 61 rfl) (by simp only [rs10,rsb,vcd,↓vcp,seval]) ?_ trivial
    simp only [rs10,rsb,vcd,↓vcp,seval]
    exact VLe.tups ⟨VLe.ags ⟨VLe.refl _,VLe.refl _,VLe.refl _,VLe.refl _,VLe.refl _,VLe.refl _,VLe.refl _,VLe.refl _,VLe.refl _,vle_snocH (fun i hi=>by simp [hi,dCh,slC]) (by simp [dCh,slC]),trivial⟩,VLe.refl _,trivial⟩
 ·have d0:decide ((hh.ch.length:Int)>0)=false:=decide_eq_false (by omega)
  rw [show lastB hh=hh.bk from if_neg h0]
  by_cases ho:c'.bk<hh.bk
  ·rw [if_pos ho]
   have dd:decide (c'.bk<hh.bk)=true:=decide_eq_true ho
   refine ctr_pure Tryz.func10 ok10 rfl cc10 cr10 Tryz.ntmps10 (by simp) rfl rfl ?_;intro c hP hfn;simp only [kc10,vHi,cHi,vCh,cCh,slC,slH,dCh,d0,dd,vcd,↓vcp,seval]
   repeat' first|((first|refine tp hP (by first|exact cr|exact ci) ?_|refine tg hP (fun _=>by first|exact cr|exact ci) ?_|refine tv hP rfl (by first|exact cr|exact ci) ?_);try simp only [d0,dd,vcd,↓vcp,seval])|refine ⟨fun h=>?_,fun h=>?_⟩|refine aO ?_|refine aT ?_|fail
   all_goals
    refine RetK.pure (by simp only [rs10,rsb,vcd,↓vcp,seval]) ?_
    simp only [rs10,rsb,vcd,↓vcp,seval]
    exact VLe.tups ⟨vle_zHi,VLe.refl _,trivial⟩
  ·rw [if_neg ho]
   have dd:decide (c'.bk<hh.bk)=false:=decide_eq_false ho
   by_cases hb:hh.ch.length≥2000
   ·rw [if_pos hb]
    have de:decide ((hh.ch.length:Int)≥2000)=true:=decide_eq_true (by omega)
    refine ctr_pure Tryz.func10 ok10 rfl cc10 cr10 Tryz.ntmps10 (by simp) rfl rfl ?_;intro c hP hfn;simp only [kc10,vHi,cHi,vCh,cCh,slC,slH,dCh,d0,dd,de,vcd,↓vcp,seval]
    repeat' first|((first|refine tp hP (by first|exact cr|exact ci) ?_|refine tg hP (fun _=>by first|exact cr|exact ci) ?_|refine tv hP rfl (by first|exact cr|exact ci) ?_);try simp only [d0,dd,de,vcd,↓vcp,seval])|refine ⟨fun h=>?_,fun h=>?_⟩|refine aO ?_|refine aT ?_|fail
    all_goals
     refine RetK.pure (by simp only [rs10,rsb,vcd,↓vcp,seval]) ?_
     simp only [rs10,rsb,vcd,↓vcp,seval]
     exact VLe.tups ⟨vle_zHi,VLe.refl _,trivial⟩
   ·rw [if_neg hb]
    have de:decide ((hh.ch.length:Int)≥2000)=false:=decide_eq_false (by omega)
    have hroom:(hh.ch.length+1)*88≤140737488355328∧hh.ch.length+1≤maxLen:=⟨by omega,by simp only [maxLen];omega⟩
    refine ctr_pure Tryz.func10 ok10 rfl cc10 cr10 Tryz.ntmps10 (by simp) rfl rfl ?_;intro c hP hfn;simp only [kc10,vHi,cHi,vCh,cCh,slC,slH,dCh,d0,dd,de,vcd,↓vcp,seval]
    repeat' first|((first|refine tp hP (by first|exact cr|exact ci|exact cc|exact co) ?_|refine tg hP (fun _=>by first|exact cr|exact ci|exact cc|exact co) ?_|refine tv hP rfl (by first|exact cr|exact ci|exact cc|exact co) ?_);try simp only [d0,dd,de,vcd,↓vcp,seval])|refine ⟨fun h=>?_,fun h=>?_⟩|refine aO ?_|refine aT ?_|fail
    refine RetK.mk _ (Wk.pub 61 rfl) (by simp only [rs10,rsb,vcd,↓vcp,seval]) ?_ trivial
    simp only [rs10,rsb,vcd,↓vcp,seval]
    exact VLe.tups ⟨VLe.ags ⟨VLe.refl _,VLe.refl _,VLe.refl _,VLe.refl _,VLe.refl _,VLe.refl _,VLe.refl _,VLe.refl _,VLe.refl _,vle_snocH (fun i hi=>by simp [hi,dCh,slC]) (by simp [dCh,slC]),trivial⟩,VLe.refl _,trivial⟩
end Go.Proofs.YtanppabbmffokaaGreat
end
section
namespace Go.Proofs.YtanppabbmffokaaGreat
open Go.Bx
set_option maxRecDepth 10000
def kdC (l:List Ch) (i:Int):Int:=(l.getD i.toNat default).kd
def isT (l:List Ch) (i:Int):Bool:=(kdC l i == 3) || (kdC l i == 4)
def turnL (l:List Ch) (O:List Int):Option Int:=O.reverse.find? (isT l)
def turnS (h:Hi):Option Int:=turnL h.ch (orderC h.ch)
theorem turnL_snoc (l:List Ch) (O:List Int) (x:Int):turnL l (O++[x])=if isT l x=true then some x else turnL l O:=by
 rw [turnL,List.reverse_append,List.reverse_singleton,List.singleton_append,List.find?_cons]
 cases isT l x<;>rfl
theorem turnL_mem {l:List Ch} {O:List Int} {x:Int} (h:turnL l O=some x):x∈O∧isT l x=true:=by
 have h1:=List.mem_of_find?_eq_some h
 have h2:=List.find?_some h
 exact ⟨by simpa using h1,h2⟩
def turnV (o:Option Int):Int:=o.getD 0
set_option maxHeartbeats 1000000 in
theorem sTurn (hh:Hi) (hn:hh.ch.length≤1000000):Ctr Tryz.prog 86 [vHi hh] [] (.tup [.d (.int .i64 (turnV (turnS hh))),.d (.bool (turnS hh).isSome)]) [] []:=by
 have co:=sOrderC hh hn
 simp only [slK] at co
 have hol:=orderC_len hh.ch
 simp only [vHi,cHi,slC,slH,dCh] at co
 obtain ⟨O,hO⟩:∃ O,O=orderC hh.ch:=⟨_,rfl⟩
 have hok:∀ x,x∈O→okH hh.ch x:=by rw [hO];exact orderC_ok hh.ch
 rw [turnS]
 rw [←hO] at co hol ⊢
 clear hO
 refine ctr_pure Tryz.func86 ok86 rfl cc86 cr86 Tryz.ntmps86 (by simp) rfl rfl ?_;intro c hP hfn;simp only [kc86,vHi,cHi,slC,slH,dCh,vcd,↓vcp,seval]
 refine vcC.scope (X:=Nat) (fun k=>⟨[(1,.own 1 0),(4,.d (slK .i64 O)),(5,.d (.int .i64 (k:Nat)))],[(1,.fix (cHi hh))],[1]⟩) (fun k=>k≤O.length∧turnL hh.ch O=turnL hh.ch (O.take k)) (fun k=>k) ?_ ?_
 ·by_cases h0:O.length=0
  ·have d0:(((O.length:Nat):Int) == 0)=true:=by rw [beq_iff_eq];omega
   have e:turnL hh.ch O=none:=by
    rw [List.eq_nil_of_length_eq_zero h0];rfl
   rw [e]
   simp only [slK,d0,vcd,↓vcp,seval]
   repeat' first|((first|refine tp hP (by exact co) ?_|refine tg hP (fun _=>by exact co) ?_|refine tv hP rfl (by exact co) ?_);try simp only [d0,vcd,↓vcp,seval])|refine ⟨fun h=>?_,fun h=>?_⟩|refine aO ?_|refine aT ?_|fail
   exact RetK.pure (by simp only [rs86,rsb,vcd,↓vcp,seval]) (by (simp only [rs86,rsb,enb,vcd,↓vcp,seval])<;>(first|exact VLe.refl _))
  ·have d0:(((O.length:Nat):Int) == 0)=false:=by rw [beq_eq_false_iff_ne];omega
   have w1:IntKind.i64.wrap (((O.length:Nat):Int)-1)=((O.length-1:Nat):Int):=(wI (by omega)).trans (by omega)
   obtain ⟨x,hd,hg,hm,hx⟩:=drop_at (l:=O) (k:=O.length-1) (by omega)
   have hg:=hg 0
   obtain ⟨h1,h2⟩:=hok x hm
   have he2:turnL hh.ch O=if isT hh.ch x=true then some x else turnL hh.ch (O.take (O.length-1)):=by
    conv=>lhs;rw [←List.take_length (l:=O)]
    conv=>lhs;rw [show O.length=(O.length-1)+1 by omega,List.take_add_one,hx]
    exact turnL_snoc _ _ _
   have b1:(0:Int)≤((O.length-1:Nat):Int)∧((O.length-1:Nat):Int)<(O.length:Int):=by omega
   by_cases hT:isT hh.ch x=true
   ·rw [if_pos hT] at he2
    have dk:(((hh.ch.getD x.toNat default).kd != 3)&&((hh.ch.getD x.toNat default).kd != 4))=false:=by
     simp only [isT,kdC,Bool.or_eq_true,beq_iff_eq] at hT
     rw [Bool.and_eq_false_iff,bne_eq_false_iff_eq,bne_eq_false_iff_eq];exact hT
    rw [he2]
    simp only [slK,d0,w1,hg,dk,vcd,↓vcp,seval]
    repeat' first|((first|refine tp hP (by exact co) ?_|refine tg hP (fun _=>by exact co) ?_|refine tv hP rfl (by exact co) ?_);try simp only [d0,w1,hg,dk,vcd,↓vcp,seval])|refine ⟨fun h=>?_,fun h=>?_⟩|refine aO ?_|refine aT ?_|fail
    exact RetK.pure (by simp only [rs86,rsb,vcd,↓vcp,seval]) (by (simp only [rs86,rsb,enb,vcd,↓vcp,seval])<;>(first|exact VLe.refl _))
   ·rw [if_neg hT] at he2
    have dk:(((hh.ch.getD x.toNat default).kd != 3)&&((hh.ch.getD x.toNat default).kd != 4))=true:=by
     simp only [isT,kdC,Bool.or_eq_true,beq_iff_eq] at hT
     rw [Bool.and_eq_true,bne_iff_ne,bne_iff_ne];omega
    simp only [slK,d0,w1,hg,dk,vcd,↓vcp,seval]
    repeat' first|((first|refine tp hP (by exact co) ?_|refine tg hP (fun _=>by exact co) ?_|refine tv hP rfl (by exact co) ?_);try simp only [d0,w1,hg,dk,vcd,↓vcp,seval])|refine ⟨fun h=>?_,fun h=>?_⟩|refine aO ?_|refine aT ?_|fail
    refine ⟨O.length-1,⟨by omega,he2⟩,Wk.of _ hfn rfl (by simp only [slK,w1,enb,vcd,↓vcp,seval]) (by simp only [cHi,slC,slH,dCh,enb,vcd,↓vcp,seval])⟩
 ·rintro k ⟨hk,he⟩
  by_cases h0:k=0
  ·have d0:(((k:Nat):Int) == 0)=true:=by rw [beq_iff_eq];omega
   have e:turnL hh.ch O=none:=by
    rw [he,h0];rfl
   rw [e]
   simp only [cHi,slC,slH,dCh,slK,d0,vcd,↓vcp,seval]
   repeat' first|refine ⟨fun h=>?_,fun h=>?_⟩|refine aO ?_|refine aT ?_|fail
   exact RetK.pure (by simp only [rs86,rsb,vcd,↓vcp,seval]) (by (simp only [rs86,rsb,enb,vcd,↓vcp,seval])<;>(first|exact VLe.refl _))
  ·have d0:(((k:Nat):Int) == 0)=false:=by rw [beq_eq_false_iff_ne];omega
   have w1:IntKind.i64.wrap (((k:Nat):Int)-1)=((k-1:Nat):Int):=(wI (by omega)).trans (by omega)
   obtain ⟨x,hd,hg,hm,hx⟩:=drop_at (l:=O) (k:=k-1) (by omega)
   have hg:=hg 0
   obtain ⟨h1,h2⟩:=hok x hm
   have he2:turnL hh.ch O=if isT hh.ch x=true then some x else turnL hh.ch (O.take (k-1)):=by
    rw [he]
    conv=>lhs;rw [show k=(k-1)+1 by omega,List.take_add_one,hx]
    exact turnL_snoc _ _ _
   have b1:(0:Int)≤((k-1:Nat):Int)∧((k-1:Nat):Int)<(O.length:Int):=by omega
   by_cases hT:isT hh.ch x=true
   ·rw [if_pos hT] at he2
    have dk:(((hh.ch.getD x.toNat default).kd != 3)&&((hh.ch.getD x.toNat default).kd != 4))=false:=by
     simp only [isT,kdC,Bool.or_eq_true,beq_iff_eq] at hT
     rw [Bool.and_eq_false_iff,bne_eq_false_iff_eq,bne_eq_false_iff_eq];exact hT
    rw [he2]
    simp only [cHi,slC,slH,dCh,slK,d0,w1,hg,dk,vcd,↓vcp,seval]
    repeat' first|refine ⟨fun h=>?_,fun h=>?_⟩|refine aO ?_|refine aT ?_|fail
    exact RetK.pure (by simp only [rs86,rsb,vcd,↓vcp,seval]) (by (simp only [rs86,rsb,enb,vcd,↓vcp,seval])<;>(first|exact VLe.refl _))
   ·rw [if_neg hT] at he2
    have dk:(((hh.ch.getD x.toNat default).kd != 3)&&((hh.ch.getD x.toNat default).kd != 4))=true:=by
     simp only [isT,kdC,Bool.or_eq_true,beq_iff_eq] at hT
     rw [Bool.and_eq_true,bne_iff_ne,bne_iff_ne];omega
    simp only [cHi,slC,slH,dCh,slK,d0,w1,hg,dk,vcd,↓vcp,seval]
    repeat' first|refine ⟨fun h=>?_,fun h=>?_⟩|refine aO ?_|refine aT ?_|fail
    refine ⟨k-1,⟨by omega,he2⟩,Wk.of _ hfn rfl (by simp only [slK,w1,enb,vcd,↓vcp,seval]) (by simp only [cHi,slC,slH,dCh,enb,vcd,↓vcp,seval]),by omega⟩
end Go.Proofs.YtanppabbmffokaaGreat
end
section
namespace Go.Proofs.YtanppabbmffokaaGreat
open Go.Bx
set_option maxRecDepth 10000
theorem addP_len (P:List (Int×Int)) (d v:Int):(addP P d v).length≤P.length+1:=by
 unfold addP pushP popP
 split<;>split<;>(try simp only [List.length_append,List.length_take,List.length_singleton])<;>omega
theorem vle_slK1 {P:List (Int×Int)}:VLe (.d (.sl false 1 P.length (fun i=>[.int .i64 (P.getD i (0,0)).1]))) (.d (slK .i64 (P.map (·.1)))):=
 VLe.sl (by rw [List.length_map]) (fun _=>rfl) id fun i hi=>by
  obtain ⟨p,-,hg,-,he⟩:=drop_at hi
  rw [(map1 he).1,hg]
theorem vle_slK2 {P:List (Int×Int)}:VLe (.d (.sl false 1 P.length (fun i=>[.int .i64 (P.getD i (0,0)).2]))) (.d (slK .i64 (P.map (·.2)))):=
 VLe.sl (by rw [List.length_map]) (fun _=>rfl) id fun i hi=>by
  obtain ⟨p,-,hg,-,he⟩:=drop_at hi
  rw [(map1 he).2,hg]
theorem sAddN (P:List (Int×Int)) (day v:Int) (hl:P.length≤100000) (h:popC P day∨pushC (popP P day) day v) :
  Ctr Tryz.prog 97 [.d (.int .i64 day),.d (.int .i64 v),.own 903 0] [(903,.fix [.osl 1000,.osl 1001]),(1000,rowA P),(1001,rowV P)] (.tup []) [(903,.fix [.osl 1002,.osl 1003]),(1002,rowA (addP P day v)),(1003,rowV (addP P day v))] [1002,1003]:=by
 by_cases h1:popC P day
 ·by_cases h2:pushC (popP P day) day v
  ·exact sAdd11 P day v hl h1 h2
  ·exact sAdd10 P day v hl h1 h2
 ·exact sAdd01 P day v hl h1 (h.resolve_left h1)
set_option maxHeartbeats 4000000 in
theorem sCurve (l:List Sl) (P0:List (Int×Int)) (h:curS l=some P0):Ctr Tryz.prog 55 [.d (slS l)] [] (vSt P0) [] []:=by
 have hlen:l.length≤2000:=(curS_ok h).2.1
 have hG:curG [] 1 l=some P0:=by rw [curS,if_neg (by omega)] at h;exact h
 have dl:decide ((l.length:Int)>2000)=false:=decide_eq_false (by omega)
 refine ctr_pure Tryz.func55 ok55 rfl cc55 cr55 Tryz.ntmps55 (by simp) rfl rfl ?_;intro c hP hfn;simp only [kc55,slS,dl,vcd,↓vcp,seval]
 repeat' first|refine ⟨fun h=>?_,fun h=>?_⟩|refine aO ?_|refine aT ?_|fail
 refine vcC.loop (X:=Nat×List (Int×Int)×Int) (fun x=>⟨[(4,.fn (.func 97) [] [.own 3 0]),(2,.own 2 0),(3,.own 3 0),(5,.d (.int .i64 x.2.2)),(13,.d (slS l)),(14,.d (.int .i64 l.length)),(15,.d (.int .i64 x.1))],[(2,.fix [.d (.sl true 0 0 fun _=>[]),.d (.sl true 0 0 fun _=>[])]),(3,.fix [.osl 1000,.osl 1001]),(1000,rowA x.2.1),(1001,rowV x.2.1)],[2,3,1000,1001]⟩)
  (fun x=>x.1≤l.length∧curG x.2.1 x.2.2 (l.drop x.1)=some P0∧x.2.1.length≤2*x.1) (fun x=>l.length-x.1) (0,[],1) ⟨Nat.zero_le _,hG,Nat.le_refl _⟩ ?_ ?_
 ·refine (Wk.row0F 3 0 1000 3 1 (fun _=>[]) rfl rfl (by simp)).trans ((Wk.row0F 3 1 1001 3 1 (fun _=>[]) rfl rfl (by simp)).trans (Wk.of _ hfn rfl ?_ ?_))
  ·simp only [slS,enb,vcd,↓vcp,seval]
  ·simp only [rowA,rowV,enb,vcd,↓vcp,seval]
   exact ⟨OLe.row rfl (fun i hi=>absurd hi (Nat.not_lt_zero i)),OLe.row rfl (fun i hi=>absurd hi (Nat.not_lt_zero i))⟩
 rintro ⟨k,P,e⟩ ⟨hk,he,hPl⟩
 simp only at hk he hPl
 by_cases hlt:k<l.length
 ·obtain ⟨s,hd,hg,-,-⟩:=drop_at hlt
  have hg:=hg default
  have d0:decide ((k:Int)<(l.length:Int))=true:=decide_eq_true (by omega)
  have w1:IntKind.i64.wrap ((k:Int)+1)=((k+1:Nat):Int):=wS (by omega)
  have b1:(0:Int)≤(k:Int)∧(k:Int)<(l.length:Int):=by omega
  have cf:=sFullSl s e
  simp only [vSl,cSl,slC] at cf
  rw [hd,curG] at he
  have hl1:=addP_len P s.sf s.yr
  have hl2:=addP_len (addP P s.sf s.yr) s.st 0
  by_cases hf:fullSl s e=true
  ·rw [if_pos hf] at he
   rw [hf] at cf
   simp only [slS,dSl,slC,rowA,rowV,d0,hg,vcd,↓vcp,seval]
   repeat' first|((first|refine tp hP (by exact cf) ?_|refine tg hP (fun _=>by exact cf) ?_|refine tv hP rfl (by exact cf) ?_);try simp only [d0,hg,w1,vcd,↓vcp,seval])|refine ⟨fun h=>?_,fun h=>?_⟩|refine aO ?_|refine aT ?_|fail
   by_cases hN:popC P s.sf∨pushC (popP P s.sf) s.sf s.yr
   ·have ac:=(sAddN P s.sf s.yr (by omega) hN).sw 903 3
    simp only [rowA,rowV,vcd,↓vcp,seval] at ac
    clear hN
    refine TR.callv [(3,.fix [.osl 1000,.osl 1001]),(1000,rowA P),(1001,rowV P)] [(3,.fix [.osl 1002,.osl 1003]),(1002,rowA (addP P s.sf s.yr)),(1003,rowV (addP P s.sf s.yr))] _ [1002,1003] rfl (by rw [hP];exact ac) trivial (by repeat' first|exact trivial|(intro _;assumption)|apply And.intro) (hin3 rfl rfl rfl) (by simp [keysO]) (by simp) ?_
    clear ac
    simp only [rowA,rowV,slC,w1,vcd,↓vcp,seval]
    repeat' first|refine ⟨fun h=>?_,fun h=>?_⟩|refine aO ?_|refine aT ?_|fail
    refine TR.wk ⟨[(4,.fn (.func 97) [] [.own 3 0]),(2,.own 2 0),(3,.own 3 0),(5,.d (.int .i64 e)),(7,.own 7 0),(13,.d (slS l)),(14,.d (.int .i64 l.length)),(15,.d (.int .i64 k)),(31,.fn (.func 97) [] [.own 3 0]),(34,.d (.int .i64 s.st))],[(2,.fix [.d (.sl true 0 0 fun _=>[]),.d (.sl true 0 0 fun _=>[])]),(3,.fix [.osl 1000,.osl 1001]),(7,.fix (cSl s)),(1000,rowA (addP P s.sf s.yr)),(1001,rowV (addP P s.sf s.yr))],[2,3,7,1000,1001]⟩ ((Wk.sw 1002 1000 _ hfn (by simp) (by simp)).trans ((Wk.sw 1003 1001 _ hfn (by simp) (by simp)).trans (Wk.of _ hfn rfl (by simp only [slS,dSl,slC,enb,vcd,↓vcp,seval]) (by simp only [rowA,rowV,cSl,slC,enb,vcd,↓vcp,seval])))) ?_
    simp only [rowA,rowV,cSl,slS,dSl,slC,vcd,↓vcp,seval]
    by_cases hN:popC (addP P s.sf s.yr) s.st∨pushC (popP (addP P s.sf s.yr) s.st) s.st 0
    ·have ac:=(sAddN (addP P s.sf s.yr) s.st 0 (by omega) hN).sw 903 3
     simp only [rowA,rowV,vcd,↓vcp,seval] at ac
     clear hN
     refine TR.callv [(3,.fix [.osl 1000,.osl 1001]),(1000,rowA (addP P s.sf s.yr)),(1001,rowV (addP P s.sf s.yr))] [(3,.fix [.osl 1002,.osl 1003]),(1002,rowA (addP (addP P s.sf s.yr) s.st 0)),(1003,rowV (addP (addP P s.sf s.yr) s.st 0))] _ [1002,1003] rfl (by rw [hP];exact ac) trivial (by repeat' first|exact trivial|(intro _;assumption)|apply And.intro) (hin3 rfl rfl rfl) (by simp [keysO]) (by simp) ?_
     clear ac
     simp only [rowA,rowV,slC,w1,vcd,↓vcp,seval]
     repeat' first|refine ⟨fun h=>?_,fun h=>?_⟩|refine aO ?_|refine aT ?_|fail
     exact lopK.on (k+1,addP (addP P s.sf s.yr) s.st 0,s.st) ⟨hlt,he,by simp only;omega⟩ (by simp only;omega) ((Wk.sw 1002 1000 _ hfn (by simp) (by simp)).trans ((Wk.sw 1003 1001 _ hfn (by simp) (by simp)).trans (Wk.of _ hfn rfl (by simp only [slS,dSl,slC,w1,enb,vcd,↓vcp,seval]) (by simp only [rowA,rowV,enb,vcd,↓vcp,seval]))))
    ·have ac:=(sAdd00 (addP P s.sf s.yr) s.st 0 (by omega) (fun h=>hN (.inl h)) (fun h=>hN (.inr h))).sw 903 3
     simp only [rowA,rowV,vcd,↓vcp,seval] at ac
     clear hN
     refine TR.callv [(3,.fix [.osl 1000,.osl 1001]),(1000,rowA (addP P s.sf s.yr)),(1001,rowV (addP P s.sf s.yr))] [(3,.fix [.osl 1000,.osl 1001]),(1000,rowA (addP (addP P s.sf s.yr) s.st 0)),(1001,rowV (addP (addP P s.sf s.yr) s.st 0))] _ [] rfl (by rw [hP];exact ac) trivial (by repeat' first|exact trivial|(intro _;assumption)|apply And.intro) (hin3 rfl rfl rfl) (by simp [keysO]) (by simp) ?_
     clear ac
     simp only [rowA,rowV,slC,w1,vcd,↓vcp,seval]
     repeat' first|refine ⟨fun h=>?_,fun h=>?_⟩|refine aO ?_|refine aT ?_|fail
     exact lopK.on (k+1,addP (addP P s.sf s.yr) s.st 0,s.st) ⟨hlt,he,by simp only;omega⟩ (by simp only;omega) (Wk.of _ hfn rfl (by simp only [slS,dSl,slC,w1,enb,vcd,↓vcp,seval]) (by simp only [rowA,rowV,enb,vcd,↓vcp,seval]))
   ·have ac:=(sAdd00 P s.sf s.yr (by omega) (fun h=>hN (.inl h)) (fun h=>hN (.inr h))).sw 903 3
    simp only [rowA,rowV,vcd,↓vcp,seval] at ac
    clear hN
    refine TR.callv [(3,.fix [.osl 1000,.osl 1001]),(1000,rowA P),(1001,rowV P)] [(3,.fix [.osl 1000,.osl 1001]),(1000,rowA (addP P s.sf s.yr)),(1001,rowV (addP P s.sf s.yr))] _ [] rfl (by rw [hP];exact ac) trivial (by repeat' first|exact trivial|(intro _;assumption)|apply And.intro) (hin3 rfl rfl rfl) (by simp [keysO]) (by simp) ?_
    clear ac
    simp only [rowA,rowV,slC,w1,vcd,↓vcp,seval]
    repeat' first|refine ⟨fun h=>?_,fun h=>?_⟩|refine aO ?_|refine aT ?_|fail
    refine TR.wk ⟨[(4,.fn (.func 97) [] [.own 3 0]),(2,.own 2 0),(3,.own 3 0),(5,.d (.int .i64 e)),(7,.own 7 0),(13,.d (slS l)),(14,.d (.int .i64 l.length)),(15,.d (.int .i64 k)),(31,.fn (.func 97) [] [.own 3 0]),(34,.d (.int .i64 s.st))],[(2,.fix [.d (.sl true 0 0 fun _=>[]),.d (.sl true 0 0 fun _=>[])]),(3,.fix [.osl 1000,.osl 1001]),(7,.fix (cSl s)),(1000,rowA (addP P s.sf s.yr)),(1001,rowV (addP P s.sf s.yr))],[2,3,7,1000,1001]⟩ (Wk.of _ hfn rfl (by simp only [slS,dSl,slC,enb,vcd,↓vcp,seval]) (by simp only [rowA,rowV,cSl,slC,enb,vcd,↓vcp,seval])) ?_
    simp only [rowA,rowV,cSl,slS,dSl,slC,vcd,↓vcp,seval]
    by_cases hN:popC (addP P s.sf s.yr) s.st∨pushC (popP (addP P s.sf s.yr) s.st) s.st 0
    ·have ac:=(sAddN (addP P s.sf s.yr) s.st 0 (by omega) hN).sw 903 3
     simp only [rowA,rowV,vcd,↓vcp,seval] at ac
     clear hN
     refine TR.callv [(3,.fix [.osl 1000,.osl 1001]),(1000,rowA (addP P s.sf s.yr)),(1001,rowV (addP P s.sf s.yr))] [(3,.fix [.osl 1002,.osl 1003]),(1002,rowA (addP (addP P s.sf s.yr) s.st 0)),(1003,rowV (addP (addP P s.sf s.yr) s.st 0))] _ [1002,1003] rfl (by rw [hP];exact ac) trivial (by repeat' first|exact trivial|(intro _;assumption)|apply And.intro) (hin3 rfl rfl rfl) (by simp [keysO]) (by simp) ?_
     clear ac
     simp only [rowA,rowV,slC,w1,vcd,↓vcp,seval]
     repeat' first|refine ⟨fun h=>?_,fun h=>?_⟩|refine aO ?_|refine aT ?_|fail
     exact lopK.on (k+1,addP (addP P s.sf s.yr) s.st 0,s.st) ⟨hlt,he,by simp only;omega⟩ (by simp only;omega) ((Wk.sw 1002 1000 _ hfn (by simp) (by simp)).trans ((Wk.sw 1003 1001 _ hfn (by simp) (by simp)).trans (Wk.of _ hfn rfl (by simp only [slS,dSl,slC,w1,enb,vcd,↓vcp,seval]) (by simp only [rowA,rowV,enb,vcd,↓vcp,seval]))))
    ·have ac:=(sAdd00 (addP P s.sf s.yr) s.st 0 (by omega) (fun h=>hN (.inl h)) (fun h=>hN (.inr h))).sw 903 3
     simp only [rowA,rowV,vcd,↓vcp,seval] at ac
     clear hN
     refine TR.callv [(3,.fix [.osl 1000,.osl 1001]),(1000,rowA (addP P s.sf s.yr)),(1001,rowV (addP P s.sf s.yr))] [(3,.fix [.osl 1000,.osl 1001]),(1000,rowA (addP (addP P s.sf s.yr) s.st 0)),(1001,rowV (addP (addP P s.sf s.yr) s.st 0))] _ [] rfl (by rw [hP];exact ac) trivial (by repeat' first|exact trivial|(intro _;assumption)|apply And.intro) (hin3 rfl rfl rfl) (by simp [keysO]) (by simp) ?_
     clear ac
     simp only [rowA,rowV,slC,w1,vcd,↓vcp,seval]
     repeat' first|refine ⟨fun h=>?_,fun h=>?_⟩|refine aO ?_|refine aT ?_|fail
     exact lopK.on (k+1,addP (addP P s.sf s.yr) s.st 0,s.st) ⟨hlt,he,by simp only;omega⟩ (by simp only;omega) (Wk.of _ hfn rfl (by simp only [slS,dSl,slC,w1,enb,vcd,↓vcp,seval]) (by simp only [rowA,rowV,enb,vcd,↓vcp,seval]))
  ·rw [if_neg hf] at he;cases he
 ·have d0:decide ((k:Int)<(l.length:Int))=false:=decide_eq_false (by omega)
  rw [List.drop_eq_nil_of_le (by omega),curG] at he
  injection he with he
  subst he
  simp only [slS,rowA,rowV,d0,vcd,↓vcp,seval]
  repeat' first|refine ⟨fun h=>?_,fun h=>?_⟩|refine aO ?_|refine aT ?_|fail
  refine RetK.mk _ ((Wk.pub 1000 rfl).trans (Wk.pub 1001 rfl)) (by simp only [rs55,rsb,vcd,↓vcp,seval]) ?_ trivial
  simp only [rs55,vSt,cSt,rsb,vcd,↓vcp,seval]
  exact VLe.ags ⟨vle_slK1,vle_slK2,trivial⟩
set_option maxHeartbeats 4000000 in
theorem sCurveP (l:List Sl) (h:curS l=none) (hl:l.length≤9223372036854775807):CtrP Tryz.prog 55 [.d (slS l)] (vErr 1):=by
 by_cases hlen:l.length>2000
 ·have dl:decide ((l.length:Int)>2000)=true:=decide_eq_true (by omega)
  refine ctr_panics Tryz.func55 ok55 rfl cc55 Tryz.ntmps55 (by simp) rfl rfl ?_;intro c hP hfn hpk;simp only [kc55,slS,dl,vcd,↓vcp,seval]
  repeat' first|refine ⟨fun h=>?_,fun h=>?_⟩|refine aO ?_|refine aT ?_|fail
  exact TR.cpan hP (sMust1 1 (by decide)) (by repeat' first|exact trivial|(intro _;assumption)|apply And.intro) (by rw [hpk];exact VLe.refl _)
 have hG:curG [] 1 l=none:=by rw [curS,if_neg (by omega)] at h;exact h
 have dl:decide ((l.length:Int)>2000)=false:=decide_eq_false (by omega)
 refine ctr_panics Tryz.func55 ok55 rfl cc55 Tryz.ntmps55 (by simp) rfl rfl ?_;intro c hP hfn hpk;simp only [kc55,slS,dl,vcd,↓vcp,seval]
 repeat' first|refine ⟨fun h=>?_,fun h=>?_⟩|refine aO ?_|refine aT ?_|fail
 refine vcC.loop (X:=Nat×List (Int×Int)×Int) (fun x=>⟨[(4,.fn (.func 97) [] [.own 3 0]),(2,.own 2 0),(3,.own 3 0),(5,.d (.int .i64 x.2.2)),(13,.d (slS l)),(14,.d (.int .i64 l.length)),(15,.d (.int .i64 x.1))],[(2,.fix [.d (.sl true 0 0 fun _=>[]),.d (.sl true 0 0 fun _=>[])]),(3,.fix [.osl 1000,.osl 1001]),(1000,rowA x.2.1),(1001,rowV x.2.1)],[2,3,1000,1001]⟩)
  (fun x=>x.1≤l.length∧curG x.2.1 x.2.2 (l.drop x.1)=none∧x.2.1.length≤2*x.1) (fun x=>l.length-x.1) (0,[],1) ⟨Nat.zero_le _,hG,Nat.le_refl _⟩ ?_ ?_
 ·refine (Wk.row0F 3 0 1000 3 1 (fun _=>[]) rfl rfl (by simp)).trans ((Wk.row0F 3 1 1001 3 1 (fun _=>[]) rfl rfl (by simp)).trans (Wk.of _ hfn rfl ?_ ?_))
  ·simp only [slS,enb,vcd,↓vcp,seval]
  ·simp only [rowA,rowV,enb,vcd,↓vcp,seval]
   exact ⟨OLe.row rfl (fun i hi=>absurd hi (Nat.not_lt_zero i)),OLe.row rfl (fun i hi=>absurd hi (Nat.not_lt_zero i))⟩
 rintro ⟨k,P,e⟩ ⟨hk,he,hPl⟩
 simp only at hk he hPl
 by_cases hlt:k<l.length
 ·obtain ⟨s,hd,hg,-,-⟩:=drop_at hlt
  have hg:=hg default
  have d0:decide ((k:Int)<(l.length:Int))=true:=decide_eq_true (by omega)
  have w1:IntKind.i64.wrap ((k:Int)+1)=((k+1:Nat):Int):=wS (by omega)
  have b1:(0:Int)≤(k:Int)∧(k:Int)<(l.length:Int):=by omega
  have cf:=sFullSl s e
  simp only [vSl,cSl,slC] at cf
  rw [hd,curG] at he
  have hl1:=addP_len P s.sf s.yr
  have hl2:=addP_len (addP P s.sf s.yr) s.st 0
  by_cases hf:fullSl s e=true
  ·rw [if_pos hf] at he
   rw [hf] at cf
   simp only [slS,dSl,slC,rowA,rowV,d0,hg,vcd,↓vcp,seval]
   repeat' first|((first|refine tp hP (by exact cf) ?_|refine tg hP (fun _=>by exact cf) ?_|refine tv hP rfl (by exact cf) ?_);try simp only [d0,hg,w1,vcd,↓vcp,seval])|refine ⟨fun h=>?_,fun h=>?_⟩|refine aO ?_|refine aT ?_|fail
   by_cases hN:popC P s.sf∨pushC (popP P s.sf) s.sf s.yr
   ·have ac:=(sAddN P s.sf s.yr (by omega) hN).sw 903 3
    simp only [rowA,rowV,vcd,↓vcp,seval] at ac
    clear hN
    refine TR.callv [(3,.fix [.osl 1000,.osl 1001]),(1000,rowA P),(1001,rowV P)] [(3,.fix [.osl 1002,.osl 1003]),(1002,rowA (addP P s.sf s.yr)),(1003,rowV (addP P s.sf s.yr))] _ [1002,1003] rfl (by rw [hP];exact ac) trivial (by repeat' first|exact trivial|(intro _;assumption)|apply And.intro) (hin3 rfl rfl rfl) (by simp [keysO]) (by simp) ?_
    clear ac
    simp only [rowA,rowV,slC,w1,vcd,↓vcp,seval]
    repeat' first|refine ⟨fun h=>?_,fun h=>?_⟩|refine aO ?_|refine aT ?_|fail
    refine TR.wk ⟨[(4,.fn (.func 97) [] [.own 3 0]),(2,.own 2 0),(3,.own 3 0),(5,.d (.int .i64 e)),(7,.own 7 0),(13,.d (slS l)),(14,.d (.int .i64 l.length)),(15,.d (.int .i64 k)),(31,.fn (.func 97) [] [.own 3 0]),(34,.d (.int .i64 s.st))],[(2,.fix [.d (.sl true 0 0 fun _=>[]),.d (.sl true 0 0 fun _=>[])]),(3,.fix [.osl 1000,.osl 1001]),(7,.fix (cSl s)),(1000,rowA (addP P s.sf s.yr)),(1001,rowV (addP P s.sf s.yr))],[2,3,7,1000,1001]⟩ ((Wk.sw 1002 1000 _ hfn (by simp) (by simp)).trans ((Wk.sw 1003 1001 _ hfn (by simp) (by simp)).trans (Wk.of _ hfn rfl (by simp only [slS,dSl,slC,enb,vcd,↓vcp,seval]) (by simp only [rowA,rowV,cSl,slC,enb,vcd,↓vcp,seval])))) ?_
    simp only [rowA,rowV,cSl,slS,dSl,slC,vcd,↓vcp,seval]
    by_cases hN:popC (addP P s.sf s.yr) s.st∨pushC (popP (addP P s.sf s.yr) s.st) s.st 0
    ·have ac:=(sAddN (addP P s.sf s.yr) s.st 0 (by omega) hN).sw 903 3
     simp only [rowA,rowV,vcd,↓vcp,seval] at ac
     clear hN
     refine TR.callv [(3,.fix [.osl 1000,.osl 1001]),(1000,rowA (addP P s.sf s.yr)),(1001,rowV (addP P s.sf s.yr))] [(3,.fix [.osl 1002,.osl 1003]),(1002,rowA (addP (addP P s.sf s.yr) s.st 0)),(1003,rowV (addP (addP P s.sf s.yr) s.st 0))] _ [1002,1003] rfl (by rw [hP];exact ac) trivial (by repeat' first|exact trivial|(intro _;assumption)|apply And.intro) (hin3 rfl rfl rfl) (by simp [keysO]) (by simp) ?_
     clear ac
     simp only [rowA,rowV,slC,w1,vcd,↓vcp,seval]
     repeat' first|refine ⟨fun h=>?_,fun h=>?_⟩|refine aO ?_|refine aT ?_|fail
     exact lopK.on (k+1,addP (addP P s.sf s.yr) s.st 0,s.st) ⟨hlt,he,by simp only;omega⟩ (by simp only;omega) ((Wk.sw 1002 1000 _ hfn (by simp) (by simp)).trans ((Wk.sw 1003 1001 _ hfn (by simp) (by simp)).trans (Wk.of _ hfn rfl (by simp only [slS,dSl,slC,w1,enb,vcd,↓vcp,seval]) (by simp only [rowA,rowV,enb,vcd,↓vcp,seval]))))
    ·have ac:=(sAdd00 (addP P s.sf s.yr) s.st 0 (by omega) (fun h=>hN (.inl h)) (fun h=>hN (.inr h))).sw 903 3
     simp only [rowA,rowV,vcd,↓vcp,seval] at ac
     clear hN
     refine TR.callv [(3,.fix [.osl 1000,.osl 1001]),(1000,rowA (addP P s.sf s.yr)),(1001,rowV (addP P s.sf s.yr))] [(3,.fix [.osl 1000,.osl 1001]),(1000,rowA (addP (addP P s.sf s.yr) s.st 0)),(1001,rowV (addP (addP P s.sf s.yr) s.st 0))] _ [] rfl (by rw [hP];exact ac) trivial (by repeat' first|exact trivial|(intro _;assumption)|apply And.intro) (hin3 rfl rfl rfl) (by simp [keysO]) (by simp) ?_
     clear ac
     simp only [rowA,rowV,slC,w1,vcd,↓vcp,seval]
     repeat' first|refine ⟨fun h=>?_,fun h=>?_⟩|refine aO ?_|refine aT ?_|fail
     exact lopK.on (k+1,addP (addP P s.sf s.yr) s.st 0,s.st) ⟨hlt,he,by simp only;omega⟩ (by simp only;omega) (Wk.of _ hfn rfl (by simp only [slS,dSl,slC,w1,enb,vcd,↓vcp,seval]) (by simp only [rowA,rowV,enb,vcd,↓vcp,seval]))
   ·have ac:=(sAdd00 P s.sf s.yr (by omega) (fun h=>hN (.inl h)) (fun h=>hN (.inr h))).sw 903 3
    simp only [rowA,rowV,vcd,↓vcp,seval] at ac
    clear hN
    refine TR.callv [(3,.fix [.osl 1000,.osl 1001]),(1000,rowA P),(1001,rowV P)] [(3,.fix [.osl 1000,.osl 1001]),(1000,rowA (addP P s.sf s.yr)),(1001,rowV (addP P s.sf s.yr))] _ [] rfl (by rw [hP];exact ac) trivial (by repeat' first|exact trivial|(intro _;assumption)|apply And.intro) (hin3 rfl rfl rfl) (by simp [keysO]) (by simp) ?_
    clear ac
    simp only [rowA,rowV,slC,w1,vcd,↓vcp,seval]
    repeat' first|refine ⟨fun h=>?_,fun h=>?_⟩|refine aO ?_|refine aT ?_|fail
    refine TR.wk ⟨[(4,.fn (.func 97) [] [.own 3 0]),(2,.own 2 0),(3,.own 3 0),(5,.d (.int .i64 e)),(7,.own 7 0),(13,.d (slS l)),(14,.d (.int .i64 l.length)),(15,.d (.int .i64 k)),(31,.fn (.func 97) [] [.own 3 0]),(34,.d (.int .i64 s.st))],[(2,.fix [.d (.sl true 0 0 fun _=>[]),.d (.sl true 0 0 fun _=>[])]),(3,.fix [.osl 1000,.osl 1001]),(7,.fix (cSl s)),(1000,rowA (addP P s.sf s.yr)),(1001,rowV (addP P s.sf s.yr))],[2,3,7,1000,1001]⟩ (Wk.of _ hfn rfl (by simp only [slS,dSl,slC,enb,vcd,↓vcp,seval]) (by simp only [rowA,rowV,cSl,slC,enb,vcd,↓vcp,seval])) ?_
    simp only [rowA,rowV,cSl,slS,dSl,slC,vcd,↓vcp,seval]
    by_cases hN:popC (addP P s.sf s.yr) s.st∨pushC (popP (addP P s.sf s.yr) s.st) s.st 0
    ·have ac:=(sAddN (addP P s.sf s.yr) s.st 0 (by omega) hN).sw 903 3
     simp only [rowA,rowV,vcd,↓vcp,seval] at ac
     clear hN
     refine TR.callv [(3,.fix [.osl 1000,.osl 1001]),(1000,rowA (addP P s.sf s.yr)),(1001,rowV (addP P s.sf s.yr))] [(3,.fix [.osl 1002,.osl 1003]),(1002,rowA (addP (addP P s.sf s.yr) s.st 0)),(1003,rowV (addP (addP P s.sf s.yr) s.st 0))] _ [1002,1003] rfl (by rw [hP];exact ac) trivial (by repeat' first|exact trivial|(intro _;assumption)|apply And.intro) (hin3 rfl rfl rfl) (by simp [keysO]) (by simp) ?_
     clear ac
     simp only [rowA,rowV,slC,w1,vcd,↓vcp,seval]
     repeat' first|refine ⟨fun h=>?_,fun h=>?_⟩|refine aO ?_|refine aT ?_|fail
     exact lopK.on (k+1,addP (addP P s.sf s.yr) s.st 0,s.st) ⟨hlt,he,by simp only;omega⟩ (by simp only;omega) ((Wk.sw 1002 1000 _ hfn (by simp) (by simp)).trans ((Wk.sw 1003 1001 _ hfn (by simp) (by simp)).trans (Wk.of _ hfn rfl (by simp only [slS,dSl,slC,w1,enb,vcd,↓vcp,seval]) (by simp only [rowA,rowV,enb,vcd,↓vcp,seval]))))
    ·have ac:=(sAdd00 (addP P s.sf s.yr) s.st 0 (by omega) (fun h=>hN (.inl h)) (fun h=>hN (.inr h))).sw 903 3
     simp only [rowA,rowV,vcd,↓vcp,seval] at ac
     clear hN
     refine TR.callv [(3,.fix [.osl 1000,.osl 1001]),(1000,rowA (addP P s.sf s.yr)),(1001,rowV (addP P s.sf s.yr))] [(3,.fix [.osl 1000,.osl 1001]),(1000,rowA (addP (addP P s.sf s.yr) s.st 0)),(1001,rowV (addP (addP P s.sf s.yr) s.st 0))] _ [] rfl (by rw [hP];exact ac) trivial (by repeat' first|exact trivial|(intro _;assumption)|apply And.intro) (hin3 rfl rfl rfl) (by simp [keysO]) (by simp) ?_
     clear ac
     simp only [rowA,rowV,slC,w1,vcd,↓vcp,seval]
     repeat' first|refine ⟨fun h=>?_,fun h=>?_⟩|refine aO ?_|refine aT ?_|fail
     exact lopK.on (k+1,addP (addP P s.sf s.yr) s.st 0,s.st) ⟨hlt,he,by simp only;omega⟩ (by simp only;omega) (Wk.of _ hfn rfl (by simp only [slS,dSl,slC,w1,enb,vcd,↓vcp,seval]) (by simp only [rowA,rowV,enb,vcd,↓vcp,seval]))
  ·have hf:fullSl s e=false:=by simpa using hf
   rw [hf] at cf
   simp only [slS,dSl,slC,rowA,rowV,d0,hg,vcd,↓vcp,seval]
   repeat' first|((first|refine tp hP (by exact cf) ?_|refine tg hP (fun _=>by exact cf) ?_|refine tv hP rfl (by exact cf) ?_);try simp only [d0,hg,w1,vcd,↓vcp,seval])|refine ⟨fun h=>?_,fun h=>?_⟩|refine aO ?_|refine aT ?_|fail
   exact TR.cpan hP (sMust1 1 (by decide)) (by repeat' first|exact trivial|(intro _;assumption)|apply And.intro) (by rw [hpk];exact VLe.refl _)
 ·rw [List.drop_eq_nil_of_le (by omega),curG] at he
  cases he
end Go.Proofs.YtanppabbmffokaaGreat
end
