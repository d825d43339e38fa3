import Derived.Test.YtmccbkekpjgdbaaGreatXA10
set_option linter.unusedSimpArgs false
set_option linter.unusedVariables false
section
namespace Go.Proofs.YtmccbkekpjgdbaaGreat
open Go.Bx
set_option maxRecDepth 10000
def runG (L:List ((Int×Int)×Int)) (k:Nat):Int×Int:=(L.take k).foldl (fun s p=>(s.1+(p.1.2-p.1.1)*p.2,s.2+(p.1.2-p.1.1)*max p.2 (-p.2))) (0,0)
def badP (all:Int) (p:(Int×Int)×Int):Prop:=max p.2 (-p.2)>(4000000000000000000-all) / (p.1.2-p.1.1)
instance (all:Int) (p:(Int×Int)×Int):Decidable (badP all p):=inferInstanceAs (Decidable (_>_))
theorem runG_succ {L:List ((Int×Int)×Int)} {k:Nat} {p:(Int×Int)×Int} (h:L[k]?=some p):runG L (k+1)=((runG L k).1+(p.1.2-p.1.1)*p.2,(runG L k).2+(p.1.2-p.1.1)*max p.2 (-p.2)):=by
 rw [runG,List.take_add_one,h,List.foldl_append];rfl
theorem sumG_drop {L:List ((Int×Int)×Int)} {k:Nat} {p:(Int×Int)×Int} (h:L[k]?=some p):sumG (runG L k).1 (runG L k).2 (L.drop k)=if badP (runG L k).2 p then (0,5) else sumG (runG L (k+1)).1 (runG L (k+1)).2 (L.drop (k+1)):=by
 obtain ⟨hk,rfl⟩:=List.getElem?_eq_some_iff.1 h
 rw [List.drop_eq_getElem_cons hk,runG_succ h,sumG]
 rfl
structure PcOk (p:(Int×Int)×Int):Prop where
 fr:1≤p.1.1
 lt:p.1.1<p.1.2
 to:p.1.2≤292195
 v1:-4000000000000000000≤p.2
 v2:p.2≤4000000000000000000
theorem cut_ok {g:Int→Int} {a b:Int} {l:List ((Int×Int)×Int)} (h:Cut g a b l) (ha:1≤a) (hb:b≤292195) (hg:∀ d,-4000000000000000000≤g d∧g d≤4000000000000000000):∀ p,p∈l→PcOk p:=by
 induction h with
 |nil=>intro p hp;simp at hp
 |@cons a b c l hab _ hl ih =>
  intro p hp
  have:=hl.le
  rcases List.mem_cons.1 hp with rfl|hp
  ·exact ⟨ha,hab,by simp only;omega,(hg a).1,(hg a).2⟩
  ·exact ih (by omega) hb p hp
theorem badP_iff {all:Int} {p:(Int×Int)×Int} (hp:PcOk p):badP all p↔all+(p.1.2-p.1.1)*max p.2 (-p.2)>4000000000000000000:=by
 have h0:0<p.1.2-p.1.1:=by have:=hp.lt;omega
 have:=Int.le_ediv_iff_mul_le (a:=max p.2 (-p.2)) (b:=4000000000000000000-all) h0
 rw [Int.mul_comm] at this
 unfold badP
 omega
theorem run_inv {L:List ((Int×Int)×Int)} (hp:∀ p,p∈L→PcOk p):∀ {k:Nat},k≤L.length→(∀ j p,j<k→L[j]?=some p→¬ badP (runG L j).2 p)→0≤(runG L k).2∧(runG L k).2≤4000000000000000000∧(runG L k).1≤(runG L k).2∧-(runG L k).2≤(runG L k).1
 |0,_,_=>⟨Int.le_refl _,by simp [runG],Int.le_refl _,Int.le_refl _⟩
 |k+1,hk,hb=>by
  obtain ⟨h1,h2,h3,h4⟩:=run_inv hp (k:=k) (by omega) (fun j p hj hjp=>hb j p (by omega) hjp)
  have he:L[k]?=some L[k]:=List.getElem?_eq_getElem (by omega)
  have hpo:=hp L[k] (List.getElem_mem _)
  have hnb:=mt (badP_iff (all:=(runG L k).2) hpo).2 (hb k _ (Nat.lt_succ_self k) he)
  rw [runG_succ he]
  generalize L[k]=p at *
  have hn:0≤p.1.2-p.1.1:=by have:=hpo.lt;omega
  have m1:=Int.mul_le_mul_of_nonneg_left (show p.2≤max p.2 (-p.2) by omega) hn
  have m2:=Int.mul_le_mul_of_nonneg_left (show -p.2≤max p.2 (-p.2) by omega) hn
  rw [Int.mul_neg] at m2
  have m3:0≤(p.1.2-p.1.1)*max p.2 (-p.2):=Int.mul_nonneg hn (by omega)
  simp only
  omega
theorem bad_or (L:List ((Int×Int)×Int)):∀ (n:Nat),n≤L.length→(∃ K p,K<n∧L[K]?=some p∧badP (runG L K).2 p∧∀ j q,j<K→L[j]?=some q→¬ badP (runG L j).2 q)∨(∀ j q,j<n→L[j]?=some q→¬ badP (runG L j).2 q)
 |0,_=>.inr fun j q hj=>absurd hj (Nat.not_lt_zero j)
 |n+1,hn=>by
  rcases bad_or L n (by omega) with ⟨K,p,h1,h2,h3,h4⟩|h
  ·exact .inl ⟨K,p,by omega,h2,h3,h4⟩
  ·have he:L[n]?=some L[n]:=List.getElem?_eq_getElem (by omega)
   by_cases hb:badP (runG L n).2 L[n]
   ·exact .inl ⟨n,_,by omega,he,hb,h⟩
   ·refine .inr fun j q hj hq=>?_
    by_cases e:j=n
    ·subst e;rw [he] at hq;injection hq with hq;subst hq;exact hb
    ·exact h j q (by omega) hq
theorem sumG_take {L:List ((Int×Int)×Int)}:∀ {k:Nat},k≤L.length→(∀ j q,j<k→L[j]?=some q→¬ badP (runG L j).2 q)→sumG 0 0 L=sumG (runG L k).1 (runG L k).2 (L.drop k)
 |0,_,_=>rfl
 |k+1,hk,hb=>by
  have he:L[k]?=some L[k]:=List.getElem?_eq_getElem (by omega)
  rw [sumG_take (k:=k) (by omega) (fun j q hj hq=>hb j q (by omega) hq),sumG_drop he,if_neg (hb k _ (Nat.lt_succ_self k) he)]
def smOw (e s a:Int):List (Nat×Go.Bx.Own):=[(4,.fix [.d (.int .i64 0)]),(5,.fix [.d (.int .i64 e)]),(6,.fix [.d (.int .i64 s)]),(7,.fix [.d (.int .i64 a)])]
def smO1 (p:(Int×Int)×Int) (s a:Int):List (Nat×Go.Bx.Own):=[(4,.fix [.d (.int .i64 0)]),(5,.fix [.d (.int .i64 0)]),(6,.fix [.d (.int .i64 s)]),(7,.fix [.d (.int .i64 a)]),(8,.fix [.d (.int .i64 p.1.1),.d (.int .i64 p.1.2)])]
def smEn (P:List (Int×Int)) (a b:Int):List (Nat×V):=[(4,.own 4 0),(5,.own 5 0),(6,.own 6 0),(7,.own 7 0),(22,pcF P a b)]
def smE1 (p:(Int×Int)×Int):List (Nat×V):=[(4,.own 4 0),(5,.own 5 0),(6,.own 6 0),(7,.own 7 0),(8,.own 8 0),(9,.d (.int .i64 p.2))]
theorem sm_cli (e s a:Nat→Int):CliO [4,5,6,7] (fun k=>smOw (e k) (s k) (a k)):=by
 refine ⟨fun k=>by simp [smOw,keysO],fun k n hn=>?_,fun k n hn=>by simpa [smOw,keysO] using hn⟩
 simp only [smOw,ownNames,namesL,V.names,List.append_nil,List.nil_append] at hn
 simpa [smOw,keysO] using hn
theorem sm_cli1 (p:Nat→(Int×Int)×Int) (s a:Nat→Int):CliO [4,5,6,7] (fun k=>smO1 (p k) (s k) (a k)):=by
 refine ⟨fun k=>by simp [smO1,keysO],fun k n hn=>?_,fun k n hn=>?_⟩
 ·simp only [smO1,ownNames,namesL,V.names,List.append_nil,List.nil_append] at hn
  simpa [smO1,keysO] using hn
 ·simp only [List.mem_cons,List.not_mem_nil,or_false] at hn
  rcases hn with h|h|h|h<;>simp [smO1,keysO,h]
theorem sm_env (P:List (Int×Int)) (a b:Int):∀ s n,n∈(Go.Bx.get (smEn P a b) s).names→n∈[4,5,6,7]:=env_names fun s y hm n hn=>by
 simp only [smEn,pcF,List.mem_cons,Prod.mk.injEq,List.not_mem_nil,or_false] at hm
 rcases hm with ⟨rfl,rfl⟩|⟨rfl,rfl⟩|⟨rfl,rfl⟩|⟨rfl,rfl⟩|⟨rfl,rfl⟩<;>simp [V.names,namesL] at hn ⊢<;>simp [hn]
set_option maxHeartbeats 1000000 in
theorem sSumS (P:List (Int×Int)) (a b:Int) (hl:P.length≤1000000):Ctr Tryz.prog 76 [vSt P,vS a b] [] (.tup [.d (.int .i64 (sumS P a b).1),.d (.int .i64 (sumS P a b).2)]) [] []:=by
 have cr:=sRightS P (by omega)
 have cf:=sFullS a b
 have cp:=sPieces P a b
 simp only [vSt,cSt,slK,List.length_map] at cr
 simp only [vS] at cf
 simp only [vSt,cSt,slK,List.length_map,vS] at cp
 cases hR:stG 0 0 P with
 |false =>
  have e:sumS P a b=(0,1):=by rw [sumS,hR];rfl
  rw [hR] at cr
  rw [e]
  refine qT Tryz.func76 fun c hP hfn hrd=>?_;simp only [vSt,cSt,slK,List.length_map,vS,vcd,↓vcp,seval]
  repeat' first|(refine tq hP (h:=⟨_,fun _=>by first|exact cr|exact cf,?_⟩);try simp only [vcd,↓vcp,seval])|refine ⟨fun h=>?_,fun h=>?_⟩|refine aX ?_|fail
  all_goals exact rr
 |true =>
 rw [hR] at cr
 cases hF:fullB a b with
 |false =>
  have e:sumS P a b=(0,1):=by rw [sumS,hR,hF];rfl
  rw [hF] at cf
  rw [e]
  refine qT Tryz.func76 fun c hP hfn hrd=>?_;simp only [vSt,cSt,slK,List.length_map,vS,vcd,↓vcp,seval]
  repeat' first|(refine tq hP (h:=⟨_,fun _=>by first|exact cr|exact cf,?_⟩);try simp only [vcd,↓vcp,seval])|refine ⟨fun h=>?_,fun h=>?_⟩|refine aX ?_|fail
  all_goals exact rr
 |true =>
 rw [hF] at cf
 have e:sumS P a b=sumG 0 0 (pcL P a b):=by rw [sumS,hR,hF];rfl
 obtain ⟨hS1,hS2⟩:=stG_iff hR
 have hfb:1≤a∧a<b∧b≤292195:=by simp only [fullB,Bool.and_eq_true,decide_eq_true_eq] at hF;omega
 have hcut:Cut (valS P) a b (pcL P a b):=pieG_cut (by omega) (List.pairwise_map.2 hS2) fun d hd=>.inr hd
 have hpo:=cut_ok hcut hfb.1 hfb.2.2 (fun d=>by
  rcases valG_mem (P:=P) (cur:=0) (day:=d) with h|⟨p,hp,h⟩
  ·rw [valS,h];omega
  ·rw [valS,h];exact ⟨(hS1 p hp).2.2.1,(hS1 p hp).2.2.2⟩)
 have hI:=it_pieces P a b hS2 hl
 rw [e]
 refine qT Tryz.func76 fun c hP hfn hrd=>?_;simp only [vSt,cSt,slK,List.length_map,vS,vcd,↓vcp,seval]
 repeat' first|(refine tq hP (h:=⟨_,fun _=>by first|exact cr|exact cf|exact cp,?_⟩);try simp only [vcd,↓vcp,seval])|refine ⟨fun h=>?_,fun h=>?_⟩|refine aX ?_|fail
 rw [←hP] at hI
 have hpk:∀ k,k<(pcL P a b).length→PcOk ((pcL P a b).getD k default)∧(pcL P a b)[k]?=some ((pcL P a b).getD k default):=fun k hk=>by
  obtain ⟨x,-,hg,hm,he⟩:=drop_at hk
  rw [hg];exact ⟨hpo x hm,he⟩
 clear cr cf cp
 rcases bad_or (pcL P a b) (pcL P a b).length (Nat.le_refl _) with ⟨K,p,hK,hp,hbad,hnb⟩|hnb
 ·have hres:sumG 0 0 (pcL P a b)=(0,5):=by rw [sumG_take (k:=K) (by omega) hnb,sumG_drop hp,if_pos hbad]
  rw [hres]
  refine vcC.rfnJ hI (K+1) (some .ret) (smEn P a b) [4,5,6,7] (fun k=>smOw (if k=K+1 then 5 else 0) (if k=K+1 then (runG (pcL P a b) K).1 else (runG (pcL P a b) k).1) (if k=K+1 then (runG (pcL P a b) K).2 else (runG (pcL P a b) k).2)) (fun k=>smO1 ((pcL P a b).getD k default) (runG (pcL P a b) k).1 (runG (pcL P a b) k).2) (fun k=>smE1 ((pcL P a b).getD k default)) ?_ rfl trivial
   ⟨hrd,sm_cli _ _ _,sm_cli1 _ _ _,fun n hn=>(by rw [hfn] at hn;cases hn),sm_env P a b,rfl,fun _=>rfl,fun _=>rfl,fun h=>(by cases h),fun _=>⟨by omega,by omega⟩,fun h=>(by cases h)⟩ ?_ ?_ (fun h=>by cases h) ?_
  ·refine Wk.of (b:=⟨smEn P a b,smOw 0 0 0,[4,5,6,7]⟩) _ hfn rfl ?_ ?_
   ·simp only [smEn,enb,vcd,↓vcp,seval]
   ·simp only [smOw,enb,vcd,↓vcp,seval]
  ·intro k hk cB hPB hfB
   have hne:¬ k=K+1:=by omega
   generalize runG (pcL P a b) k=r at *
   simp only [hne,if_false,setPs,pcArgs,vS,smOw,smEn,pcF,vcd,↓vcp,seval]
   rw [rfnA_nrm]
   refine Wk.of (b:=⟨smE1 ((pcL P a b).getD k default),smO1 ((pcL P a b).getD k default) r.1 r.2,[4,5,6,7,8]⟩) _ hfB rfl ?_ ?_
   ·simp only [smE1,enb,vcd,↓vcp,seval]
   ·simp only [smO1,enb,vcd,↓vcp,seval]
  ·intro k hk cB hPB hfB
   have hnb':∀ j q,j<k→(pcL P a b)[j]?=some q→¬ badP (runG (pcL P a b) j).2 q:=fun j q hj hq=>hnb j q (by omega) hq
   obtain ⟨i1,i2,i3,i4⟩:=run_inv hpo (k:=k) (by omega) hnb'
   obtain ⟨po,pe⟩:=hpk k (by omega)
   by_cases hkK:k=K
   ·subst hkK
    have hg:goAt (k+1) (some Ex.ret).isSome k=false:=by simp [goAt]
    rw [hp] at pe
    injection pe with pe
    rw [←pe] at po ⊢
    generalize runG (pcL P a b) k=r at *
    obtain ⟨r1,r2⟩:=r
    simp only at i1 i2 i3 i4
    obtain ⟨⟨q1,q2⟩,v⟩:=p
    obtain ⟨p1,p2,p3,p4,p5⟩:=po
    simp only at p1 p2 p3 p4 p5
    simp only [badP] at hbad
    have wn:IntKind.i64.wrap (q2-q1)=q2-q1:=wI (by omega)
    have wv:IntKind.i64.wrap (0-v)=-v:=(wI (by omega)).trans (by omega)
    have wm:IntKind.i64.wrap (4000000000000000000-r2)=4000000000000000000-r2:=wI (by omega)
    have hq:(4000000000000000000-r2).tdiv (q2-q1)=(4000000000000000000-r2) / (q2-q1):=Int.tdiv_eq_ediv_of_nonneg (by omega)
    have hq0:0≤(4000000000000000000-r2) / (q2-q1):=Int.ediv_nonneg (by omega) (by omega)
    have hq1:(4000000000000000000-r2) / (q2-q1)≤4000000000000000000-r2:=Int.ediv_le_self _ (by omega)
    have wq:IntKind.i64.wrap ((4000000000000000000-r2).tdiv (q2-q1))=(4000000000000000000-r2) / (q2-q1):=by rw [hq];exact wI (by omega)
    have hz:q2-q1≠0:=by omega
    have d0:decide (max v (-v)>(4000000000000000000-r2) / (q2-q1))=true:=decide_eq_true hbad
    simp only [hg,if_true]
    simp only [smO1,smE1,smOw,wn,wv,wm,wq,d0,vcd,↓vcp,seval]
    repeat' first|refine ⟨fun h=>?_,fun h=>?_⟩|refine aX ?_|fail
    all_goals exact Wk.of (b:=⟨[],smOw 5 r1 r2,[4,5,6,7]⟩) _ hfB rfl (by simp only [enb,vcd,↓vcp,seval]) (by simp only [smOw,enb,vcd,↓vcp,seval])
   ·have hg:goAt (K+1) (some Ex.ret).isSome k=true:=by simp [goAt];omega
    have hne:¬ k+1=K+1:=by omega
    have hsu:=runG_succ pe
    have hbk:=hnb k _ (by omega) pe
    rw [hsu]
    generalize (pcL P a b).getD k default=p at *
    generalize runG (pcL P a b) k=r at *
    obtain ⟨r1,r2⟩:=r
    simp only at i1 i2 i3 i4
    obtain ⟨⟨q1,q2⟩,v⟩:=p
    have hnbd:=mt (badP_iff (all:=r2) po).2 hbk
    obtain ⟨p1,p2,p3,p4,p5⟩:=po
    simp only at p1 p2 p3 p4 p5 hnbd
    simp only [badP] at hbk
    have wn:IntKind.i64.wrap (q2-q1)=q2-q1:=wI (by omega)
    have wv:IntKind.i64.wrap (0-v)=-v:=(wI (by omega)).trans (by omega)
    have wm:IntKind.i64.wrap (4000000000000000000-r2)=4000000000000000000-r2:=wI (by omega)
    have hq:(4000000000000000000-r2).tdiv (q2-q1)=(4000000000000000000-r2) / (q2-q1):=Int.tdiv_eq_ediv_of_nonneg (by omega)
    have hq0:0≤(4000000000000000000-r2) / (q2-q1):=Int.ediv_nonneg (by omega) (by omega)
    have hq1:(4000000000000000000-r2) / (q2-q1)≤4000000000000000000-r2:=Int.ediv_le_self _ (by omega)
    have wq:IntKind.i64.wrap ((4000000000000000000-r2).tdiv (q2-q1))=(4000000000000000000-r2) / (q2-q1):=by rw [hq];exact wI (by omega)
    have hz:q2-q1≠0:=by omega
    have hn:0≤q2-q1:=by omega
    have m1:=Int.mul_le_mul_of_nonneg_left (show v≤max v (-v) by omega) hn
    have m2:=Int.mul_le_mul_of_nonneg_left (show -v≤max v (-v) by omega) hn
    rw [Int.mul_neg] at m2
    have m3:0≤(q2-q1)*max v (-v):=Int.mul_nonneg hn (by omega)
    have d0:decide (max v (-v)>(4000000000000000000-r2) / (q2-q1))=false:=decide_eq_false hbk
    have wx:IntKind.i64.wrap ((q2-q1)*v)=(q2-q1)*v:=wI (by omega)
    have wy:IntKind.i64.wrap ((q2-q1)*max v (-v))=(q2-q1)*max v (-v):=wI (by omega)
    have w1:IntKind.i64.wrap (r1+(q2-q1)*v)=r1+(q2-q1)*v:=wI (by omega)
    have w2:IntKind.i64.wrap (r2+(q2-q1)*max v (-v))=r2+(q2-q1)*max v (-v):=wI (by omega)
    clear m1 m2 m3 hq hq0 hq1 hnbd hbk
    simp only [hg,hne,if_false]
    simp only [smO1,smE1,smOw,wn,wv,wm,wq,d0,wx,wy,w1,w2,vcd,↓vcp,seval]
    repeat' first|refine ⟨fun h=>?_,fun h=>?_⟩|refine aX ?_|fail
    all_goals exact Wk.of (b:=⟨[],smOw 0 (r1+(q2-q1)*v) (r2+(q2-q1)*max v (-v)),[4,5,6,7]⟩) _ hfB rfl (by simp only [enb,vcd,↓vcp,seval]) (by simp only [smOw,w1,w2,enb,vcd,↓vcp,seval])
  ·intro e he
   injection he with he
   subst he
   simp only [if_true,smEn,pcF,smOw,vcd,↓vcp,seval]
   exact rr
 ·have hres:sumG 0 0 (pcL P a b)=((runG (pcL P a b) (pcL P a b).length).1,0):=by rw [sumG_take (Nat.le_refl _) hnb,List.drop_length];rfl
  rw [hres]
  refine vcC.rfnAll hI (smEn P a b) [4,5,6,7] (fun k=>smOw 0 (runG (pcL P a b) k).1 (runG (pcL P a b) k).2) (fun k=>smO1 ((pcL P a b).getD k default) (runG (pcL P a b) k).1 (runG (pcL P a b) k).2) (fun k=>smE1 ((pcL P a b).getD k default)) ?_ rfl trivial
   ⟨hrd,sm_cli _ _ _,sm_cli1 _ _ _,fun n hn=>(by rw [hfn] at hn;cases hn),sm_env P a b,rfl,fun _=>rfl,fun _=>rfl,fun _=>rfl,fun h=>absurd rfl h,fun h=>(by cases h)⟩ ?_ ?_ ?_
  ·refine Wk.of (b:=⟨smEn P a b,smOw 0 0 0,[4,5,6,7]⟩) _ hfn rfl ?_ ?_
   ·simp only [smEn,enb,vcd,↓vcp,seval]
   ·simp only [smOw,enb,vcd,↓vcp,seval]
  ·intro k hk cB hPB hfB
   generalize runG (pcL P a b) k=r at *
   simp only [setPs,pcArgs,vS,smOw,smEn,pcF,vcd,↓vcp,seval]
   rw [rfnA_nrm]
   refine Wk.of (b:=⟨smE1 ((pcL P a b).getD k default),smO1 ((pcL P a b).getD k default) r.1 r.2,[4,5,6,7,8]⟩) _ hfB rfl ?_ ?_
   ·simp only [smE1,enb,vcd,↓vcp,seval]
   ·simp only [smO1,enb,vcd,↓vcp,seval]
  ·intro k hk cB hPB hfB
   have hnb':∀ j q,j<k→(pcL P a b)[j]?=some q→¬ badP (runG (pcL P a b) j).2 q:=fun j q hj hq=>hnb j q (by omega) hq
   obtain ⟨i1,i2,i3,i4⟩:=run_inv hpo (k:=k) (by omega) hnb'
   obtain ⟨po,pe⟩:=hpk k hk
   have hsu:=runG_succ pe
   have hbk:=hnb k _ hk pe
   rw [hsu]
   generalize (pcL P a b).getD k default=p at *
   generalize runG (pcL P a b) k=r at *
   obtain ⟨r1,r2⟩:=r
   simp only at i1 i2 i3 i4
   obtain ⟨⟨q1,q2⟩,v⟩:=p
   have hnbd:=mt (badP_iff (all:=r2) po).2 hbk
   obtain ⟨p1,p2,p3,p4,p5⟩:=po
   simp only at p1 p2 p3 p4 p5 hnbd
   simp only [badP] at hbk
   have wn:IntKind.i64.wrap (q2-q1)=q2-q1:=wI (by omega)
   have wv:IntKind.i64.wrap (0-v)=-v:=(wI (by omega)).trans (by omega)
   have wm:IntKind.i64.wrap (4000000000000000000-r2)=4000000000000000000-r2:=wI (by omega)
   have hq:(4000000000000000000-r2).tdiv (q2-q1)=(4000000000000000000-r2) / (q2-q1):=Int.tdiv_eq_ediv_of_nonneg (by omega)
   have hq0:0≤(4000000000000000000-r2) / (q2-q1):=Int.ediv_nonneg (by omega) (by omega)
   have hq1:(4000000000000000000-r2) / (q2-q1)≤4000000000000000000-r2:=Int.ediv_le_self _ (by omega)
   have wq:IntKind.i64.wrap ((4000000000000000000-r2).tdiv (q2-q1))=(4000000000000000000-r2) / (q2-q1):=by rw [hq];exact wI (by omega)
   have hz:q2-q1≠0:=by omega
   have hn:0≤q2-q1:=by omega
   have m1:=Int.mul_le_mul_of_nonneg_left (show v≤max v (-v) by omega) hn
   have m2:=Int.mul_le_mul_of_nonneg_left (show -v≤max v (-v) by omega) hn
   rw [Int.mul_neg] at m2
   have m3:0≤(q2-q1)*max v (-v):=Int.mul_nonneg hn (by omega)
   have d0:decide (max v (-v)>(4000000000000000000-r2) / (q2-q1))=false:=decide_eq_false hbk
   have wx:IntKind.i64.wrap ((q2-q1)*v)=(q2-q1)*v:=wI (by omega)
   have wy:IntKind.i64.wrap ((q2-q1)*max v (-v))=(q2-q1)*max v (-v):=wI (by omega)
   have w1:IntKind.i64.wrap (r1+(q2-q1)*v)=r1+(q2-q1)*v:=wI (by omega)
   have w2:IntKind.i64.wrap (r2+(q2-q1)*max v (-v))=r2+(q2-q1)*max v (-v):=wI (by omega)
   clear m1 m2 m3 hq hq0 hq1 hnbd hbk
   skip
   simp only [smO1,smE1,smOw,wn,wv,wm,wq,d0,wx,wy,w1,w2,vcd,↓vcp,seval]
   repeat' first|refine ⟨fun h=>?_,fun h=>?_⟩|refine aX ?_|fail
   all_goals exact Wk.of (b:=⟨[],smOw 0 (r1+(q2-q1)*v) (r2+(q2-q1)*max v (-v)),[4,5,6,7]⟩) _ hfB rfl (by simp only [enb,vcd,↓vcp,seval]) (by simp only [smOw,w1,w2,enb,vcd,↓vcp,seval])
  ·generalize runG (pcL P a b) (pcL P a b).length=r at *
   simp only [smEn,pcF,smOw,vcd,↓vcp,seval]
   exact rr
end Go.Proofs.YtmccbkekpjgdbaaGreat
end
section
namespace Go.Proofs.YtmccbkekpjgdbaaGreat
open Go.Bx
set_option maxRecDepth 10000
theorem sFullSl (s:Sl) (e:Int):Ctr Tryz.prog 80 [vSl s,.d (.int .i64 e)] [] (.d (.bool (fullSl s e))) [] []:=by
 refine qP Tryz.func80 fun c hP hfn=>?_;simp only [vSl,cSl,slC,vcd,↓vcp,seval]
 repeat' first|refine ⟨fun h=>?_,fun h=>?_⟩|refine aX ?_|fail
 (refine rq ?_;first|exact ⟨⟩|simp only [fullSl,Bool.and_assoc])
def popC (P:List (Int×Int)) (day:Int):Prop:=0<P.length∧(P.getD (P.length-1) (0,0)).1=day
def pushC (P:List (Int×Int)) (day v:Int):Prop:=v≠(P.getD (P.length-1) (0,0)).2∧day≤292194
instance (P:List (Int×Int)) (day:Int):Decidable (popC P day):=inferInstanceAs (Decidable (_∧_))
instance (P:List (Int×Int)) (day v:Int):Decidable (pushC P day v):=inferInstanceAs (Decidable (_∧_))
def rowA (P:List (Int×Int)):Go.Bx.Own:=.row 3 1 P.length (fun i=>[.int .i64 (P.getD i (0,0)).1])
def rowV (P:List (Int×Int)):Go.Bx.Own:=.row 3 1 P.length (fun i=>[.int .i64 (P.getD i (0,0)).2])
theorem take_getD {P:List (Int×Int)} {n i:Nat} (h:i<n):(P.take n).getD i (0,0)=P.getD i (0,0):=by
 simp [List.getD_eq_getElem?_getD,List.getElem?_take,h]
set_option maxHeartbeats 2000000 in
theorem sAdd11 (P:List (Int×Int)) (day v:Int) (hl:P.length≤100000) (hc:popC P day) (hp:pushC (popP P day) day v) :
  Ctr Tryz.prog 79 [.d (.int .i64 day),.d (.int .i64 v),.own 903 0] [(903,.fix [.osl 1000,.osl 1001]),(1000,rowA P),(1001,rowV P)] (.tup []) [(903,.fix [.osl 1002,.osl 1003]),(1002,rowA (addP P day v)),(1003,rowV (addP P day v))] [1002,1003]:=by
 refine ctr_ownW Tryz.func79 ok79 rfl cc79 cr79 Tryz.ntmps79 (by simp) rfl ?_
 intro c hP hfn
 have e:popP P day=(P.take (P.length-1)):=if_pos hc
 have e2:addP P day v=((P.take (P.length-1))++[(day,v)]):=(if_pos hp).trans (by rw [e])
 rw [e] at hp
 rw [e2]
 obtain ⟨h1,h2⟩:=hc
 have d0:decide ((P.length:Int)>0)=true:=decide_eq_true (by omega)
 have w1:IntKind.i64.wrap ((P.length:Int)-1)=((P.length-1:Nat):Int):=(wI (by omega)).trans (by omega)
 have b1:(0:Int)≤((P.length-1:Nat):Int)∧((P.length-1:Nat):Int)<(P.length:Int):=by omega
 have b2:(0:Int)≤((P.length-1:Nat):Int)∧((P.length-1:Nat):Int)≤(P.length:Int):=by omega
 have d1:((P.getD (P.length-1) (0,0)).1 == day)=true:=beq_iff_eq.2 h2
 simp only [namesL,V.names,ownNames,rowA,rowV,d0,w1,d1,vcd,↓vcp,seval]
 repeat' first|refine ⟨fun h=>?_,fun h=>?_⟩|refine aX ?_|fail
 rw [seqW_nrm]
 refine ⟨⟨[(0,.d (.int .i64 day)),(1,.d (.int .i64 v)),(2,.own 903 0)],[(903,.fix [.osl 1004,.osl 1005]),(1004,rowA (P.take (P.length-1))),(1005,rowV (P.take (P.length-1)))],[903,1000,1001,1004,1005]⟩,(Wk.shr 1000 1004 (P.length-1) rfl (by omega) (by simp)).trans ((Wk.shr 1001 1005 (P.length-1) rfl (by omega) (by simp)).trans (Wk.of _ hfn rfl (by simp only [enb,vcd,↓vcp,seval]) ?_)),?_⟩
 ·simp only [rowA,rowV,enb,vcd,↓vcp,seval]
  exact ⟨OLe.row (by rw [List.length_take];omega) fun i hi=>by rw [take_getD hi],OLe.row (by rw [List.length_take];omega) fun i hi=>by rw [take_getD hi]⟩
 clear d0 w1 b1 b2 d1 h2 e e2
 have hQl:(P.take (P.length-1)).length≤100000:=by rw [List.length_take];omega
 generalize P.take (P.length-1)=Q at *
 by_cases h0:Q.length=0
 ·have hx:((v != (Q.getD (Q.length-1) (0,0)).2)&&decide (day≤292194))=true:=by rw [Bool.and_eq_true,bne_iff_ne,decide_eq_true_eq];exact hp
  have hroom:(Q.length+1)*8≤140737488355328∧Q.length+1≤maxLen:=⟨by omega,by simp only [maxLen];omega⟩
  have g0:decide ((Q.length:Int)>0)=false:=decide_eq_false (by omega)
  have gl:(Q.getD (Q.length-1) (0,0)).2=0:=by
   have:Q=[]:=List.eq_nil_of_length_eq_zero (by omega)
   rw [this];rfl
  rw [gl] at hx
  simp only [rowA,rowV,g0,hx,vcd,↓vcp,seval]
  repeat' first|refine ⟨fun h=>?_,fun h=>?_⟩|refine aX ?_|fail
  refine RetK.mk' _ ((Wk.sw 57 1002 _ hfn (by simp [namesL,V.names,ownNames,rowA,rowV]) (by simp [namesL,V.names,ownNames,rowA,rowV])).trans (Wk.sw 62 1003 _ hfn (by simp [namesL,V.names,ownNames,rowA,rowV]) (by simp [namesL,V.names,ownNames,rowA,rowV]))) (by simp only [rs79,rsb,vcd,↓vcp,seval]) (by simp only [rs79,rsb,enb,vcd,↓vcp,seval]) ?_
  simp only [rowA,rowV,enb,vcd,↓vcp,seval]
  exact ⟨OLe.app1 (fun p:Int×Int=>[.int .i64 p.1]) (fun i hi=>by simp [hi]) (by simp [litRow]),OLe.app1 (fun p:Int×Int=>[.int .i64 p.2]) (fun i hi=>by simp [hi]) (by simp [litRow])⟩
 ·have hx:((v != (Q.getD (Q.length-1) (0,0)).2)&&decide (day≤292194))=true:=by rw [Bool.and_eq_true,bne_iff_ne,decide_eq_true_eq];exact hp
  have hroom:(Q.length+1)*8≤140737488355328∧Q.length+1≤maxLen:=⟨by omega,by simp only [maxLen];omega⟩
  have g0:decide ((Q.length:Int)>0)=true:=decide_eq_true (by omega)
  have v1:IntKind.i64.wrap ((Q.length:Int)-1)=((Q.length-1:Nat):Int):=(wI (by omega)).trans (by omega)
  have c1:(0:Int)≤((Q.length-1:Nat):Int)∧((Q.length-1:Nat):Int)<(Q.length:Int):=by omega
  simp only [rowA,rowV,g0,v1,hx,vcd,↓vcp,seval]
  repeat' first|refine ⟨fun h=>?_,fun h=>?_⟩|refine aX ?_|fail
  refine RetK.mk' _ ((Wk.sw 57 1002 _ hfn (by simp [namesL,V.names,ownNames,rowA,rowV]) (by simp [namesL,V.names,ownNames,rowA,rowV])).trans (Wk.sw 62 1003 _ hfn (by simp [namesL,V.names,ownNames,rowA,rowV]) (by simp [namesL,V.names,ownNames,rowA,rowV]))) (by simp only [rs79,rsb,vcd,↓vcp,seval]) (by simp only [rs79,rsb,enb,vcd,↓vcp,seval]) ?_
  simp only [rowA,rowV,enb,vcd,↓vcp,seval]
  exact ⟨OLe.app1 (fun p:Int×Int=>[.int .i64 p.1]) (fun i hi=>by simp [hi]) (by simp [litRow]),OLe.app1 (fun p:Int×Int=>[.int .i64 p.2]) (fun i hi=>by simp [hi]) (by simp [litRow])⟩
set_option maxHeartbeats 2000000 in
theorem sAdd10 (P:List (Int×Int)) (day v:Int) (hl:P.length≤100000) (hc:popC P day) (hp:¬ pushC (popP P day) day v) :
  Ctr Tryz.prog 79 [.d (.int .i64 day),.d (.int .i64 v),.own 903 0] [(903,.fix [.osl 1000,.osl 1001]),(1000,rowA P),(1001,rowV P)] (.tup []) [(903,.fix [.osl 1002,.osl 1003]),(1002,rowA (addP P day v)),(1003,rowV (addP P day v))] [1002,1003]:=by
 refine ctr_ownW Tryz.func79 ok79 rfl cc79 cr79 Tryz.ntmps79 (by simp) rfl ?_
 intro c hP hfn
 have e:popP P day=(P.take (P.length-1)):=if_pos hc
 have e2:addP P day v=(P.take (P.length-1)):=(if_neg hp).trans (by rw [e])
 rw [e] at hp
 rw [e2]
 obtain ⟨h1,h2⟩:=hc
 have d0:decide ((P.length:Int)>0)=true:=decide_eq_true (by omega)
 have w1:IntKind.i64.wrap ((P.length:Int)-1)=((P.length-1:Nat):Int):=(wI (by omega)).trans (by omega)
 have b1:(0:Int)≤((P.length-1:Nat):Int)∧((P.length-1:Nat):Int)<(P.length:Int):=by omega
 have b2:(0:Int)≤((P.length-1:Nat):Int)∧((P.length-1:Nat):Int)≤(P.length:Int):=by omega
 have d1:((P.getD (P.length-1) (0,0)).1 == day)=true:=beq_iff_eq.2 h2
 simp only [namesL,V.names,ownNames,rowA,rowV,d0,w1,d1,vcd,↓vcp,seval]
 repeat' first|refine ⟨fun h=>?_,fun h=>?_⟩|refine aX ?_|fail
 rw [seqW_nrm]
 refine ⟨⟨[(0,.d (.int .i64 day)),(1,.d (.int .i64 v)),(2,.own 903 0)],[(903,.fix [.osl 1004,.osl 1005]),(1004,rowA (P.take (P.length-1))),(1005,rowV (P.take (P.length-1)))],[903,1000,1001,1004,1005]⟩,(Wk.shr 1000 1004 (P.length-1) rfl (by omega) (by simp)).trans ((Wk.shr 1001 1005 (P.length-1) rfl (by omega) (by simp)).trans (Wk.of _ hfn rfl (by simp only [enb,vcd,↓vcp,seval]) ?_)),?_⟩
 ·simp only [rowA,rowV,enb,vcd,↓vcp,seval]
  exact ⟨OLe.row (by rw [List.length_take];omega) fun i hi=>by rw [take_getD hi],OLe.row (by rw [List.length_take];omega) fun i hi=>by rw [take_getD hi]⟩
 clear d0 w1 b1 b2 d1 h2 e e2
 have hQl:(P.take (P.length-1)).length≤100000:=by rw [List.length_take];omega
 generalize P.take (P.length-1)=Q at *
 by_cases h0:Q.length=0
 ·have hx:((v != (Q.getD (Q.length-1) (0,0)).2)&&decide (day≤292194))=false:=by
   rw [Bool.and_eq_false_iff,bne_eq_false_iff_eq,decide_eq_false_iff_not]
   by_cases h:v=(Q.getD (Q.length-1) (0,0)).2
   ·exact .inl h
   ·exact .inr fun g=>hp ⟨h,g⟩
  have hroom:(Q.length+1)*8≤140737488355328∧Q.length+1≤maxLen:=⟨by omega,by simp only [maxLen];omega⟩
  have g0:decide ((Q.length:Int)>0)=false:=decide_eq_false (by omega)
  have gl:(Q.getD (Q.length-1) (0,0)).2=0:=by
   have:Q=[]:=List.eq_nil_of_length_eq_zero (by omega)
   rw [this];rfl
  rw [gl] at hx
  simp only [rowA,rowV,g0,hx,vcd,↓vcp,seval]
  repeat' first|refine ⟨fun h=>?_,fun h=>?_⟩|refine aX ?_|fail
  refine RetK.mk' _ ((Wk.sw 1004 1002 _ hfn (by simp [namesL,V.names,ownNames,rowA,rowV]) (by simp [namesL,V.names,ownNames,rowA,rowV])).trans (Wk.sw 1005 1003 _ hfn (by simp [namesL,V.names,ownNames,rowA,rowV]) (by simp [namesL,V.names,ownNames,rowA,rowV]))) (by simp only [rs79,rsb,vcd,↓vcp,seval]) (by simp only [rs79,rsb,enb,vcd,↓vcp,seval]) ?_
  simp only [rowA,rowV,enb,vcd,↓vcp,seval]
 ·have hx:((v != (Q.getD (Q.length-1) (0,0)).2)&&decide (day≤292194))=false:=by
   rw [Bool.and_eq_false_iff,bne_eq_false_iff_eq,decide_eq_false_iff_not]
   by_cases h:v=(Q.getD (Q.length-1) (0,0)).2
   ·exact .inl h
   ·exact .inr fun g=>hp ⟨h,g⟩
  have hroom:(Q.length+1)*8≤140737488355328∧Q.length+1≤maxLen:=⟨by omega,by simp only [maxLen];omega⟩
  have g0:decide ((Q.length:Int)>0)=true:=decide_eq_true (by omega)
  have v1:IntKind.i64.wrap ((Q.length:Int)-1)=((Q.length-1:Nat):Int):=(wI (by omega)).trans (by omega)
  have c1:(0:Int)≤((Q.length-1:Nat):Int)∧((Q.length-1:Nat):Int)<(Q.length:Int):=by omega
  simp only [rowA,rowV,g0,v1,hx,vcd,↓vcp,seval]
  repeat' first|refine ⟨fun h=>?_,fun h=>?_⟩|refine aX ?_|fail
  refine RetK.mk' _ ((Wk.sw 1004 1002 _ hfn (by simp [namesL,V.names,ownNames,rowA,rowV]) (by simp [namesL,V.names,ownNames,rowA,rowV])).trans (Wk.sw 1005 1003 _ hfn (by simp [namesL,V.names,ownNames,rowA,rowV]) (by simp [namesL,V.names,ownNames,rowA,rowV]))) (by simp only [rs79,rsb,vcd,↓vcp,seval]) (by simp only [rs79,rsb,enb,vcd,↓vcp,seval]) ?_
  simp only [rowA,rowV,enb,vcd,↓vcp,seval]
set_option maxHeartbeats 2000000 in
theorem sAdd01 (P:List (Int×Int)) (day v:Int) (hl:P.length≤100000) (hc:¬ popC P day) (hp:pushC (popP P day) day v) :
  Ctr Tryz.prog 79 [.d (.int .i64 day),.d (.int .i64 v),.own 903 0] [(903,.fix [.osl 1000,.osl 1001]),(1000,rowA P),(1001,rowV P)] (.tup []) [(903,.fix [.osl 1002,.osl 1003]),(1002,rowA (addP P day v)),(1003,rowV (addP P day v))] [1002,1003]:=by
 refine ctr_ownW Tryz.func79 ok79 rfl cc79 cr79 Tryz.ntmps79 (by simp) rfl ?_
 intro c hP hfn
 have e:popP P day=P:=if_neg hc
 have e2:addP P day v=(P++[(day,v)]):=(if_pos hp).trans (by rw [e])
 rw [e] at hp
 rw [e2]
 have hcond:(decide ((P.length:Int)>0)&&((P.getD (P.length-1) (0,0)).1 == day))=false:=by
  rw [Bool.and_eq_false_iff,decide_eq_false_iff_not,beq_eq_false_iff_ne]
  by_cases h:0<P.length
  ·exact .inr fun e=>hc ⟨h,e⟩
  ·exact .inl (by omega)
 by_cases h0:P.length=0
 ·have d0:decide ((P.length:Int)>0)=false:=decide_eq_false (by omega)
  simp only [namesL,V.names,ownNames,rowA,rowV,d0,vcd,↓vcp,seval]
  repeat' first|refine ⟨fun h=>?_,fun h=>?_⟩|refine aX ?_|fail
  rw [seqW_nrm]
  refine ⟨⟨[(0,.d (.int .i64 day)),(1,.d (.int .i64 v)),(2,.own 903 0)],[(903,.fix [.osl 1000,.osl 1001]),(1000,rowA P),(1001,rowV P)],[903,1000,1001]⟩,Wk.of _ hfn rfl (by simp only [enb,vcd,↓vcp,seval]) (by simp only [rowA,rowV,enb,vcd,↓vcp,seval]),?_⟩
  have hx:((v != (P.getD (P.length-1) (0,0)).2)&&decide (day≤292194))=true:=by rw [Bool.and_eq_true,bne_iff_ne,decide_eq_true_eq];exact hp
  have hroom:(P.length+1)*8≤140737488355328∧P.length+1≤maxLen:=⟨by omega,by simp only [maxLen];omega⟩
  have g0:decide ((P.length:Int)>0)=false:=decide_eq_false (by omega)
  have gl:(P.getD (P.length-1) (0,0)).2=0:=by
   have:P=[]:=List.eq_nil_of_length_eq_zero (by omega)
   rw [this];rfl
  rw [gl] at hx
  simp only [rowA,rowV,g0,hx,vcd,↓vcp,seval]
  repeat' first|refine ⟨fun h=>?_,fun h=>?_⟩|refine aX ?_|fail
  refine RetK.mk' _ ((Wk.sw 57 1002 _ hfn (by simp [namesL,V.names,ownNames,rowA,rowV]) (by simp [namesL,V.names,ownNames,rowA,rowV])).trans (Wk.sw 62 1003 _ hfn (by simp [namesL,V.names,ownNames,rowA,rowV]) (by simp [namesL,V.names,ownNames,rowA,rowV]))) (by simp only [rs79,rsb,vcd,↓vcp,seval]) (by simp only [rs79,rsb,enb,vcd,↓vcp,seval]) ?_
  simp only [rowA,rowV,enb,vcd,↓vcp,seval]
  exact ⟨OLe.app1 (fun p:Int×Int=>[.int .i64 p.1]) (fun i hi=>by simp [hi]) (by simp [litRow]),OLe.app1 (fun p:Int×Int=>[.int .i64 p.2]) (fun i hi=>by simp [hi]) (by simp [litRow])⟩
 ·have d0:decide ((P.length:Int)>0)=true:=decide_eq_true (by omega)
  have w1:IntKind.i64.wrap ((P.length:Int)-1)=((P.length-1:Nat):Int):=(wI (by omega)).trans (by omega)
  have b1:(0:Int)≤((P.length-1:Nat):Int)∧((P.length-1:Nat):Int)<(P.length:Int):=by omega
  have d1:((P.getD (P.length-1) (0,0)).1 == day)=false:=by rw [d0,Bool.true_and] at hcond;exact hcond
  simp only [namesL,V.names,ownNames,rowA,rowV,d0,w1,d1,vcd,↓vcp,seval]
  repeat' first|refine ⟨fun h=>?_,fun h=>?_⟩|refine aX ?_|fail
  rw [seqW_nrm]
  refine ⟨⟨[(0,.d (.int .i64 day)),(1,.d (.int .i64 v)),(2,.own 903 0)],[(903,.fix [.osl 1000,.osl 1001]),(1000,rowA P),(1001,rowV P)],[903,1000,1001]⟩,Wk.of _ hfn rfl (by simp only [enb,vcd,↓vcp,seval]) (by simp only [rowA,rowV,enb,vcd,↓vcp,seval]),?_⟩
  clear d0 w1 b1 d1
  have hx:((v != (P.getD (P.length-1) (0,0)).2)&&decide (day≤292194))=true:=by rw [Bool.and_eq_true,bne_iff_ne,decide_eq_true_eq];exact hp
  have hroom:(P.length+1)*8≤140737488355328∧P.length+1≤maxLen:=⟨by omega,by simp only [maxLen];omega⟩
  have g0:decide ((P.length:Int)>0)=true:=decide_eq_true (by omega)
  have v1:IntKind.i64.wrap ((P.length:Int)-1)=((P.length-1:Nat):Int):=(wI (by omega)).trans (by omega)
  have c1:(0:Int)≤((P.length-1:Nat):Int)∧((P.length-1:Nat):Int)<(P.length:Int):=by omega
  simp only [rowA,rowV,g0,v1,hx,vcd,↓vcp,seval]
  repeat' first|refine ⟨fun h=>?_,fun h=>?_⟩|refine aX ?_|fail
  refine RetK.mk' _ ((Wk.sw 57 1002 _ hfn (by simp [namesL,V.names,ownNames,rowA,rowV]) (by simp [namesL,V.names,ownNames,rowA,rowV])).trans (Wk.sw 62 1003 _ hfn (by simp [namesL,V.names,ownNames,rowA,rowV]) (by simp [namesL,V.names,ownNames,rowA,rowV]))) (by simp only [rs79,rsb,vcd,↓vcp,seval]) (by simp only [rs79,rsb,enb,vcd,↓vcp,seval]) ?_
  simp only [rowA,rowV,enb,vcd,↓vcp,seval]
  exact ⟨OLe.app1 (fun p:Int×Int=>[.int .i64 p.1]) (fun i hi=>by simp [hi]) (by simp [litRow]),OLe.app1 (fun p:Int×Int=>[.int .i64 p.2]) (fun i hi=>by simp [hi]) (by simp [litRow])⟩
set_option maxHeartbeats 2000000 in
theorem sAdd00 (P:List (Int×Int)) (day v:Int) (hl:P.length≤100000) (hc:¬ popC P day) (hp:¬ pushC (popP P day) day v) :
  Ctr Tryz.prog 79 [.d (.int .i64 day),.d (.int .i64 v),.own 903 0] [(903,.fix [.osl 1000,.osl 1001]),(1000,rowA P),(1001,rowV P)] (.tup []) [(903,.fix [.osl 1000,.osl 1001]),(1000,rowA (addP P day v)),(1001,rowV (addP P day v))] []:=by
 refine ctr_ownW Tryz.func79 ok79 rfl cc79 cr79 Tryz.ntmps79 (by simp) rfl ?_
 intro c hP hfn
 have e:popP P day=P:=if_neg hc
 have e2:addP P day v=P:=(if_neg hp).trans (by rw [e])
 rw [e] at hp
 rw [e2]
 have hcond:(decide ((P.length:Int)>0)&&((P.getD (P.length-1) (0,0)).1 == day))=false:=by
  rw [Bool.and_eq_false_iff,decide_eq_false_iff_not,beq_eq_false_iff_ne]
  by_cases h:0<P.length
  ·exact .inr fun e=>hc ⟨h,e⟩
  ·exact .inl (by omega)
 by_cases h0:P.length=0
 ·have d0:decide ((P.length:Int)>0)=false:=decide_eq_false (by omega)
  simp only [namesL,V.names,ownNames,rowA,rowV,d0,vcd,↓vcp,seval]
  repeat' first|refine ⟨fun h=>?_,fun h=>?_⟩|refine aX ?_|fail
  rw [seqW_nrm]
  refine ⟨⟨[(0,.d (.int .i64 day)),(1,.d (.int .i64 v)),(2,.own 903 0)],[(903,.fix [.osl 1000,.osl 1001]),(1000,rowA P),(1001,rowV P)],[903,1000,1001]⟩,Wk.of _ hfn rfl (by simp only [enb,vcd,↓vcp,seval]) (by simp only [rowA,rowV,enb,vcd,↓vcp,seval]),?_⟩
  have hx:((v != (P.getD (P.length-1) (0,0)).2)&&decide (day≤292194))=false:=by
   rw [Bool.and_eq_false_iff,bne_eq_false_iff_eq,decide_eq_false_iff_not]
   by_cases h:v=(P.getD (P.length-1) (0,0)).2
   ·exact .inl h
   ·exact .inr fun g=>hp ⟨h,g⟩
  have hroom:(P.length+1)*8≤140737488355328∧P.length+1≤maxLen:=⟨by omega,by simp only [maxLen];omega⟩
  have g0:decide ((P.length:Int)>0)=false:=decide_eq_false (by omega)
  have gl:(P.getD (P.length-1) (0,0)).2=0:=by
   have:P=[]:=List.eq_nil_of_length_eq_zero (by omega)
   rw [this];rfl
  rw [gl] at hx
  simp only [rowA,rowV,g0,hx,vcd,↓vcp,seval]
  repeat' first|refine ⟨fun h=>?_,fun h=>?_⟩|refine aX ?_|fail
  refine RetK.mk' _ (Wk.refl _ _) (by simp only [rs79,rsb,vcd,↓vcp,seval]) (by simp only [rs79,rsb,enb,vcd,↓vcp,seval]) ?_
  simp only [rowA,rowV,enb,vcd,↓vcp,seval]
 ·have d0:decide ((P.length:Int)>0)=true:=decide_eq_true (by omega)
  have w1:IntKind.i64.wrap ((P.length:Int)-1)=((P.length-1:Nat):Int):=(wI (by omega)).trans (by omega)
  have b1:(0:Int)≤((P.length-1:Nat):Int)∧((P.length-1:Nat):Int)<(P.length:Int):=by omega
  have d1:((P.getD (P.length-1) (0,0)).1 == day)=false:=by rw [d0,Bool.true_and] at hcond;exact hcond
  simp only [namesL,V.names,ownNames,rowA,rowV,d0,w1,d1,vcd,↓vcp,seval]
  repeat' first|refine ⟨fun h=>?_,fun h=>?_⟩|refine aX ?_|fail
  rw [seqW_nrm]
  refine ⟨⟨[(0,.d (.int .i64 day)),(1,.d (.int .i64 v)),(2,.own 903 0)],[(903,.fix [.osl 1000,.osl 1001]),(1000,rowA P),(1001,rowV P)],[903,1000,1001]⟩,Wk.of _ hfn rfl (by simp only [enb,vcd,↓vcp,seval]) (by simp only [rowA,rowV,enb,vcd,↓vcp,seval]),?_⟩
  clear d0 w1 b1 d1
  have hx:((v != (P.getD (P.length-1) (0,0)).2)&&decide (day≤292194))=false:=by
   rw [Bool.and_eq_false_iff,bne_eq_false_iff_eq,decide_eq_false_iff_not]
   by_cases h:v=(P.getD (P.length-1) (0,0)).2
   ·exact .inl h
   ·exact .inr fun g=>hp ⟨h,g⟩
  have hroom:(P.length+1)*8≤140737488355328∧P.length+1≤maxLen:=⟨by omega,by simp only [maxLen];omega⟩
  have g0:decide ((P.length:Int)>0)=true:=decide_eq_true (by omega)
  have v1:IntKind.i64.wrap ((P.length:Int)-1)=((P.length-1:Nat):Int):=(wI (by omega)).trans (by omega)
  have c1:(0:Int)≤((P.length-1:Nat):Int)∧((P.length-1:Nat):Int)<(P.length:Int):=by omega
  simp only [rowA,rowV,g0,v1,hx,vcd,↓vcp,seval]
  repeat' first|refine ⟨fun h=>?_,fun h=>?_⟩|refine aX ?_|fail
  refine RetK.mk' _ (Wk.refl _ _) (by simp only [rs79,rsb,vcd,↓vcp,seval]) (by simp only [rs79,rsb,enb,vcd,↓vcp,seval]) ?_
  simp only [rowA,rowV,enb,vcd,↓vcp,seval]
end Go.Proofs.YtmccbkekpjgdbaaGreat
end
section
namespace Go.Proofs.YtmccbkekpjgdbaaGreat
open Go.Bx
set_option maxRecDepth 10000
theorem sSumL (k':Cv) (l:List Fi) (hl:ShF l) (hli:I64 k'.li) (hag:I64 k'.ag) (hsh:I64 k'.sh):Ctr Tryz.prog 23 [vC k',.d (slF l)] [] (.tup [vPo (sumL k' l),.d (.int .i64 (checkL k' l))]) [] []:=by
 have co:=sOfL k' l hl hli hag hsh
 rw [ofL] at co
 rw [sumL]
 have hn:nL k' l≤100000:=by rw [nL];split;exact hl.1;omega
 generalize ofG k' l=g at *
 generalize nL k' l=n at *
 generalize checkL k' l=e at *
 simp only [vC,cC,slPo,dPo] at co
 refine qP Tryz.func23 fun c hP hfn=>?_;simp only [vC,cC,vcd,↓vcp,seval]
 repeat' first|(refine tq hP (h:=⟨_,fun _=>by exact co,?_⟩);try simp only [vcd,↓vcp,seval])|refine ⟨fun h=>?_,fun h=>?_⟩|refine aX ?_|fail
 refine vcC.loop (X:=Nat) (fun k=>⟨[(4,.own 4 0),(7,.d (.int .i64 e)),(8,.own 8 0),(17,.d (slPo g n)),(18,.d (.int .i64 n)),(19,.d (.int .i64 (k:Nat)))],[(4,.fix (cPo ⟨0,0,0,0,0,false⟩)),(8,.fix (cPo (sumPo g k)))],[4,8]⟩)
  (fun k=>k≤n) (fun k=>n-k) 0 (Nat.zero_le _) (Wk.of _ hfn rfl (by simp only [slPo,dPo,enb,vcd,↓vcp,seval]) (by simp only [cPo,sumPo,enb,vcd,↓vcp,seval])) ?_
 intro k hk
 by_cases hlt:k<n
 ·have d0:decide ((k:Int)<(n:Int))=true:=decide_eq_true (by omega)
  have w1:IntKind.i64.wrap ((k:Int)+1)=((k+1:Nat):Int):=wS (by omega)
  have es:sumPo g (k+1)=addPo (sumPo g k) (g k):=rfl
  generalize sumPo g k=p at *
  simp only [cPo,slPo,dPo,d0,w1,vcd,↓vcp,seval]
  repeat' first|refine ⟨fun h=>?_,fun h=>?_⟩|refine aX ?_|fail
  exact lopK.on (k+1) hlt (by omega) (Wk.of _ hfn rfl (by simp only [slPo,dPo,w1,enb,vcd,↓vcp,seval]) (by simp only [es,addPo,cPo,enb,vcd,↓vcp,seval]))
 ·have hk2:k=n:=by omega
  have d0:decide ((k:Int)<(n:Int))=false:=decide_eq_false (by omega)
  rw [hk2]
  rw [hk2] at d0
  simp only [cPo,slPo,dPo,d0,vcd,↓vcp,seval]
  repeat' first|refine ⟨fun h=>?_,fun h=>?_⟩|refine aX ?_|fail
  exact rr
end Go.Proofs.YtmccbkekpjgdbaaGreat
end
section
namespace Go.Proofs.YtmccbkekpjgdbaaGreat
open Go.Bx
set_option maxRecDepth 10000
theorem addP_len (P:List (Int×Int)) (d v:Int):(addP P d v).length≤P.length+1:=by
 unfold addP pushP popP
 split<;>split<;>(try simp only [List.length_append,List.length_take,List.length_singleton])<;>omega
theorem vle_slK1 {P:List (Int×Int)}:VLe (.d (.sl false 1 P.length (fun i=>[.int .i64 (P.getD i (0,0)).1]))) (.d (slK .i64 (P.map (·.1)))):=
 VLe.sl (by rw [List.length_map]) (fun _=>rfl) id fun i hi=>by
  obtain ⟨p,-,hg,-,he⟩:=drop_at hi
  rw [(map1 he).1,hg]
theorem vle_slK2 {P:List (Int×Int)}:VLe (.d (.sl false 1 P.length (fun i=>[.int .i64 (P.getD i (0,0)).2]))) (.d (slK .i64 (P.map (·.2)))):=
 VLe.sl (by rw [List.length_map]) (fun _=>rfl) id fun i hi=>by
  obtain ⟨p,-,hg,-,he⟩:=drop_at hi
  rw [(map1 he).2,hg]
theorem sAddN (P:List (Int×Int)) (day v:Int) (hl:P.length≤100000) (h:popC P day∨pushC (popP P day) day v) :
  Ctr Tryz.prog 79 [.d (.int .i64 day),.d (.int .i64 v),.own 903 0] [(903,.fix [.osl 1000,.osl 1001]),(1000,rowA P),(1001,rowV P)] (.tup []) [(903,.fix [.osl 1002,.osl 1003]),(1002,rowA (addP P day v)),(1003,rowV (addP P day v))] [1002,1003]:=by
 by_cases h1:popC P day
 ·by_cases h2:pushC (popP P day) day v
  ·exact sAdd11 P day v hl h1 h2
  ·exact sAdd10 P day v hl h1 h2
 ·exact sAdd01 P day v hl h1 (h.resolve_left h1)
set_option maxHeartbeats 4000000 in
theorem sCurve (l:List Sl) (P0:List (Int×Int)) (h:curS l=some P0):Ctr Tryz.prog 40 [.d (slS l)] [] (vSt P0) [] []:=by
 have hlen:l.length≤2000:=(curS_ok h).2.1
 have hG:curG [] 1 l=some P0:=by rw [curS,if_neg (by omega)] at h;exact h
 have dl:decide ((l.length:Int)>2000)=false:=decide_eq_false (by omega)
 refine qP Tryz.func40 fun c hP hfn=>?_;simp only [slS,dl,vcd,↓vcp,seval]
 repeat' first|refine ⟨fun h=>?_,fun h=>?_⟩|refine aX ?_|fail
 refine vcC.loop (X:=Nat×List (Int×Int)×Int) (fun x=>⟨[(4,.fn (.func 79) [] [.own 3 0]),(2,.own 2 0),(3,.own 3 0),(5,.d (.int .i64 x.2.2)),(13,.d (slS l)),(14,.d (.int .i64 l.length)),(15,.d (.int .i64 x.1))],[(2,.fix [.d (.sl true 0 0 fun _=>[]),.d (.sl true 0 0 fun _=>[])]),(3,.fix [.osl 1000,.osl 1001]),(1000,rowA x.2.1),(1001,rowV x.2.1)],[2,3,1000,1001]⟩)
  (fun x=>x.1≤l.length∧curG x.2.1 x.2.2 (l.drop x.1)=some P0∧x.2.1.length≤2*x.1) (fun x=>l.length-x.1) (0,[],1) ⟨Nat.zero_le _,hG,Nat.le_refl _⟩ ?_ ?_
 ·refine (Wk.row0F 3 0 1000 3 1 (fun _=>[]) rfl rfl (by simp)).trans ((Wk.row0F 3 1 1001 3 1 (fun _=>[]) rfl rfl (by simp)).trans (Wk.of _ hfn rfl ?_ ?_))
  ·simp only [slS,enb,vcd,↓vcp,seval]
  ·simp only [rowA,rowV,enb,vcd,↓vcp,seval]
   exact ⟨OLe.row rfl (fun i hi=>absurd hi (Nat.not_lt_zero i)),OLe.row rfl (fun i hi=>absurd hi (Nat.not_lt_zero i))⟩
 rintro ⟨k,P,e⟩ ⟨hk,he,hPl⟩
 simp only at hk he hPl
 by_cases hlt:k<l.length
 ·obtain ⟨s,hd,hg,-,-⟩:=drop_at hlt
  have hg:=hg default
  have d0:decide ((k:Int)<(l.length:Int))=true:=decide_eq_true (by omega)
  have w1:IntKind.i64.wrap ((k:Int)+1)=((k+1:Nat):Int):=wS (by omega)
  have b1:(0:Int)≤(k:Int)∧(k:Int)<(l.length:Int):=by omega
  have cf:=sFullSl s e
  simp only [vSl,cSl,slC] at cf
  rw [hd,curG] at he
  have hl1:=addP_len P s.sf s.yr
  have hl2:=addP_len (addP P s.sf s.yr) s.st 0
  by_cases hf:fullSl s e=true
  ·rw [if_pos hf] at he
   rw [hf] at cf
   simp only [slS,dSl,slC,rowA,rowV,d0,hg,vcd,↓vcp,seval]
   repeat' first|(refine tq hP (h:=⟨_,fun _=>by exact cf,?_⟩);try simp only [d0,hg,w1,vcd,↓vcp,seval])|refine ⟨fun h=>?_,fun h=>?_⟩|refine aX ?_|fail
   by_cases hN:popC P s.sf∨pushC (popP P s.sf) s.sf s.yr
   ·have ac:=(sAddN P s.sf s.yr (by omega) hN).sw 903 3
    simp only [rowA,rowV,vcd,↓vcp,seval] at ac
    clear hN
    refine TR.callv [(3,.fix [.osl 1000,.osl 1001]),(1000,rowA P),(1001,rowV P)] [(3,.fix [.osl 1002,.osl 1003]),(1002,rowA (addP P s.sf s.yr)),(1003,rowV (addP P s.sf s.yr))] _ [1002,1003] rfl (by rw [hP];exact ac) trivial (by repeat' first|exact trivial|(intro _;assumption)|apply And.intro) (hin3 rfl rfl rfl) (by simp [keysO]) (by simp) ?_
    clear ac
    simp only [rowA,rowV,slC,w1,vcd,↓vcp,seval]
    repeat' first|refine ⟨fun h=>?_,fun h=>?_⟩|refine aX ?_|fail
    refine TR.wk ⟨[(4,.fn (.func 79) [] [.own 3 0]),(2,.own 2 0),(3,.own 3 0),(5,.d (.int .i64 e)),(7,.own 7 0),(13,.d (slS l)),(14,.d (.int .i64 l.length)),(15,.d (.int .i64 k)),(31,.fn (.func 79) [] [.own 3 0]),(34,.d (.int .i64 s.st))],[(2,.fix [.d (.sl true 0 0 fun _=>[]),.d (.sl true 0 0 fun _=>[])]),(3,.fix [.osl 1000,.osl 1001]),(7,.fix (cSl s)),(1000,rowA (addP P s.sf s.yr)),(1001,rowV (addP P s.sf s.yr))],[2,3,7,1000,1001]⟩ ((Wk.sw 1002 1000 _ hfn (by simp) (by simp)).trans ((Wk.sw 1003 1001 _ hfn (by simp) (by simp)).trans (Wk.of _ hfn rfl (by simp only [slS,dSl,slC,enb,vcd,↓vcp,seval]) (by simp only [rowA,rowV,cSl,slC,enb,vcd,↓vcp,seval])))) ?_
    simp only [rowA,rowV,cSl,slS,dSl,slC,vcd,↓vcp,seval]
    by_cases hN:popC (addP P s.sf s.yr) s.st∨pushC (popP (addP P s.sf s.yr) s.st) s.st 0
    ·have ac:=(sAddN (addP P s.sf s.yr) s.st 0 (by omega) hN).sw 903 3
     simp only [rowA,rowV,vcd,↓vcp,seval] at ac
     clear hN
     refine TR.callv [(3,.fix [.osl 1000,.osl 1001]),(1000,rowA (addP P s.sf s.yr)),(1001,rowV (addP P s.sf s.yr))] [(3,.fix [.osl 1002,.osl 1003]),(1002,rowA (addP (addP P s.sf s.yr) s.st 0)),(1003,rowV (addP (addP P s.sf s.yr) s.st 0))] _ [1002,1003] rfl (by rw [hP];exact ac) trivial (by repeat' first|exact trivial|(intro _;assumption)|apply And.intro) (hin3 rfl rfl rfl) (by simp [keysO]) (by simp) ?_
     clear ac
     simp only [rowA,rowV,slC,w1,vcd,↓vcp,seval]
     repeat' first|refine ⟨fun h=>?_,fun h=>?_⟩|refine aX ?_|fail
     exact lopK.on (k+1,addP (addP P s.sf s.yr) s.st 0,s.st) ⟨hlt,he,by simp only;omega⟩ (by simp only;omega) ((Wk.sw 1002 1000 _ hfn (by simp) (by simp)).trans ((Wk.sw 1003 1001 _ hfn (by simp) (by simp)).trans (Wk.of _ hfn rfl (by simp only [slS,dSl,slC,w1,enb,vcd,↓vcp,seval]) (by simp only [rowA,rowV,enb,vcd,↓vcp,seval]))))
    ·have ac:=(sAdd00 (addP P s.sf s.yr) s.st 0 (by omega) (fun h=>hN (.inl h)) (fun h=>hN (.inr h))).sw 903 3
     simp only [rowA,rowV,vcd,↓vcp,seval] at ac
     clear hN
     refine TR.callv [(3,.fix [.osl 1000,.osl 1001]),(1000,rowA (addP P s.sf s.yr)),(1001,rowV (addP P s.sf s.yr))] [(3,.fix [.osl 1000,.osl 1001]),(1000,rowA (addP (addP P s.sf s.yr) s.st 0)),(1001,rowV (addP (addP P s.sf s.yr) s.st 0))] _ [] rfl (by rw [hP];exact ac) trivial (by repeat' first|exact trivial|(intro _;assumption)|apply And.intro) (hin3 rfl rfl rfl) (by simp [keysO]) (by simp) ?_
     clear ac
     simp only [rowA,rowV,slC,w1,vcd,↓vcp,seval]
     repeat' first|refine ⟨fun h=>?_,fun h=>?_⟩|refine aX ?_|fail
     exact lopK.on (k+1,addP (addP P s.sf s.yr) s.st 0,s.st) ⟨hlt,he,by simp only;omega⟩ (by simp only;omega) (Wk.of _ hfn rfl (by simp only [slS,dSl,slC,w1,enb,vcd,↓vcp,seval]) (by simp only [rowA,rowV,enb,vcd,↓vcp,seval]))
   ·have ac:=(sAdd00 P s.sf s.yr (by omega) (fun h=>hN (.inl h)) (fun h=>hN (.inr h))).sw 903 3
    simp only [rowA,rowV,vcd,↓vcp,seval] at ac
    clear hN
    refine TR.callv [(3,.fix [.osl 1000,.osl 1001]),(1000,rowA P),(1001,rowV P)] [(3,.fix [.osl 1000,.osl 1001]),(1000,rowA (addP P s.sf s.yr)),(1001,rowV (addP P s.sf s.yr))] _ [] rfl (by rw [hP];exact ac) trivial (by repeat' first|exact trivial|(intro _;assumption)|apply And.intro) (hin3 rfl rfl rfl) (by simp [keysO]) (by simp) ?_
    clear ac
    simp only [rowA,rowV,slC,w1,vcd,↓vcp,seval]
    repeat' first|refine ⟨fun h=>?_,fun h=>?_⟩|refine aX ?_|fail
    refine TR.wk ⟨[(4,.fn (.func 79) [] [.own 3 0]),(2,.own 2 0),(3,.own 3 0),(5,.d (.int .i64 e)),(7,.own 7 0),(13,.d (slS l)),(14,.d (.int .i64 l.length)),(15,.d (.int .i64 k)),(31,.fn (.func 79) [] [.own 3 0]),(34,.d (.int .i64 s.st))],[(2,.fix [.d (.sl true 0 0 fun _=>[]),.d (.sl true 0 0 fun _=>[])]),(3,.fix [.osl 1000,.osl 1001]),(7,.fix (cSl s)),(1000,rowA (addP P s.sf s.yr)),(1001,rowV (addP P s.sf s.yr))],[2,3,7,1000,1001]⟩ (Wk.of _ hfn rfl (by simp only [slS,dSl,slC,enb,vcd,↓vcp,seval]) (by simp only [rowA,rowV,cSl,slC,enb,vcd,↓vcp,seval])) ?_
    simp only [rowA,rowV,cSl,slS,dSl,slC,vcd,↓vcp,seval]
    by_cases hN:popC (addP P s.sf s.yr) s.st∨pushC (popP (addP P s.sf s.yr) s.st) s.st 0
    ·have ac:=(sAddN (addP P s.sf s.yr) s.st 0 (by omega) hN).sw 903 3
     simp only [rowA,rowV,vcd,↓vcp,seval] at ac
     clear hN
     refine TR.callv [(3,.fix [.osl 1000,.osl 1001]),(1000,rowA (addP P s.sf s.yr)),(1001,rowV (addP P s.sf s.yr))] [(3,.fix [.osl 1002,.osl 1003]),(1002,rowA (addP (addP P s.sf s.yr) s.st 0)),(1003,rowV (addP (addP P s.sf s.yr) s.st 0))] _ [1002,1003] rfl (by rw [hP];exact ac) trivial (by repeat' first|exact trivial|(intro _;assumption)|apply And.intro) (hin3 rfl rfl rfl) (by simp [keysO]) (by simp) ?_
     clear ac
     simp only [rowA,rowV,slC,w1,vcd,↓vcp,seval]
     repeat' first|refine ⟨fun h=>?_,fun h=>?_⟩|refine aX ?_|fail
     exact lopK.on (k+1,addP (addP P s.sf s.yr) s.st 0,s.st) ⟨hlt,he,by simp only;omega⟩ (by simp only;omega) ((Wk.sw 1002 1000 _ hfn (by simp) (by simp)).trans ((Wk.sw 1003 1001 _ hfn (by simp) (by simp)).trans (Wk.of _ hfn rfl (by simp only [slS,dSl,slC,w1,enb,vcd,↓vcp,seval]) (by simp only [rowA,rowV,enb,vcd,↓vcp,seval]))))
    ·have ac:=(sAdd00 (addP P s.sf s.yr) s.st 0 (by omega) (fun h=>hN (.inl h)) (fun h=>hN (.inr h))).sw 903 3
     simp only [rowA,rowV,vcd,↓vcp,seval] at ac
     clear hN
     refine TR.callv [(3,.fix [.osl 1000,.osl 1001]),(1000,rowA (addP P s.sf s.yr)),(1001,rowV (addP P s.sf s.yr))] [(3,.fix [.osl 1000,.osl 1001]),(1000,rowA (addP (addP P s.sf s.yr) s.st 0)),(1001,rowV (addP (addP P s.sf s.yr) s.st 0))] _ [] rfl (by rw [hP];exact ac) trivial (by repeat' first|exact trivial|(intro _;assumption)|apply And.intro) (hin3 rfl rfl rfl) (by simp [keysO]) (by simp) ?_
     clear ac
     simp only [rowA,rowV,slC,w1,vcd,↓vcp,seval]
     repeat' first|refine ⟨fun h=>?_,fun h=>?_⟩|refine aX ?_|fail
     exact lopK.on (k+1,addP (addP P s.sf s.yr) s.st 0,s.st) ⟨hlt,he,by simp only;omega⟩ (by simp only;omega) (Wk.of _ hfn rfl (by simp only [slS,dSl,slC,w1,enb,vcd,↓vcp,seval]) (by simp only [rowA,rowV,enb,vcd,↓vcp,seval]))
  ·rw [if_neg hf] at he;cases he
 ·have d0:decide ((k:Int)<(l.length:Int))=false:=decide_eq_false (by omega)
  rw [List.drop_eq_nil_of_le (by omega),curG] at he
  injection he with he
  subst he
  simp only [slS,rowA,rowV,d0,vcd,↓vcp,seval]
  repeat' first|refine ⟨fun h=>?_,fun h=>?_⟩|refine aX ?_|fail
  refine rK ((Wk.pub 1000 rfl).trans (Wk.pub 1001 rfl)) trivial ?_
  simp only [vSt,cSt,rsb,vcd,↓vcp,seval]
  exact VLe.ags ⟨vle_slK1,vle_slK2,trivial⟩
set_option maxHeartbeats 4000000 in
theorem sCurveP (l:List Sl) (h:curS l=none) (hl:l.length≤9223372036854775807):CtrP Tryz.prog 40 [.d (slS l)] (vErr 1):=by
 by_cases hlen:l.length>2000
 ·have dl:decide ((l.length:Int)>2000)=true:=decide_eq_true (by omega)
  refine qN Tryz.func40 fun c hP hfn hpk=>?_;simp only [slS,dl,vcd,↓vcp,seval]
  repeat' first|refine ⟨fun h=>?_,fun h=>?_⟩|refine aX ?_|fail
  exact TR.cpan hP (sMust1 1 (by decide)) (by repeat' first|exact trivial|(intro _;assumption)|apply And.intro) (by rw [hpk];exact VLe.refl _)
 have hG:curG [] 1 l=none:=by rw [curS,if_neg (by omega)] at h;exact h
 have dl:decide ((l.length:Int)>2000)=false:=decide_eq_false (by omega)
 refine qN Tryz.func40 fun c hP hfn hpk=>?_;simp only [slS,dl,vcd,↓vcp,seval]
 repeat' first|refine ⟨fun h=>?_,fun h=>?_⟩|refine aX ?_|fail
 refine vcC.loop (X:=Nat×List (Int×Int)×Int) (fun x=>⟨[(4,.fn (.func 79) [] [.own 3 0]),(2,.own 2 0),(3,.own 3 0),(5,.d (.int .i64 x.2.2)),(13,.d (slS l)),(14,.d (.int .i64 l.length)),(15,.d (.int .i64 x.1))],[(2,.fix [.d (.sl true 0 0 fun _=>[]),.d (.sl true 0 0 fun _=>[])]),(3,.fix [.osl 1000,.osl 1001]),(1000,rowA x.2.1),(1001,rowV x.2.1)],[2,3,1000,1001]⟩)
  (fun x=>x.1≤l.length∧curG x.2.1 x.2.2 (l.drop x.1)=none∧x.2.1.length≤2*x.1) (fun x=>l.length-x.1) (0,[],1) ⟨Nat.zero_le _,hG,Nat.le_refl _⟩ ?_ ?_
 ·refine (Wk.row0F 3 0 1000 3 1 (fun _=>[]) rfl rfl (by simp)).trans ((Wk.row0F 3 1 1001 3 1 (fun _=>[]) rfl rfl (by simp)).trans (Wk.of _ hfn rfl ?_ ?_))
  ·simp only [slS,enb,vcd,↓vcp,seval]
  ·simp only [rowA,rowV,enb,vcd,↓vcp,seval]
   exact ⟨OLe.row rfl (fun i hi=>absurd hi (Nat.not_lt_zero i)),OLe.row rfl (fun i hi=>absurd hi (Nat.not_lt_zero i))⟩
 rintro ⟨k,P,e⟩ ⟨hk,he,hPl⟩
 simp only at hk he hPl
 by_cases hlt:k<l.length
 ·obtain ⟨s,hd,hg,-,-⟩:=drop_at hlt
  have hg:=hg default
  have d0:decide ((k:Int)<(l.length:Int))=true:=decide_eq_true (by omega)
  have w1:IntKind.i64.wrap ((k:Int)+1)=((k+1:Nat):Int):=wS (by omega)
  have b1:(0:Int)≤(k:Int)∧(k:Int)<(l.length:Int):=by omega
  have cf:=sFullSl s e
  simp only [vSl,cSl,slC] at cf
  rw [hd,curG] at he
  have hl1:=addP_len P s.sf s.yr
  have hl2:=addP_len (addP P s.sf s.yr) s.st 0
  by_cases hf:fullSl s e=true
  ·rw [if_pos hf] at he
   rw [hf] at cf
   simp only [slS,dSl,slC,rowA,rowV,d0,hg,vcd,↓vcp,seval]
   repeat' first|(refine tq hP (h:=⟨_,fun _=>by exact cf,?_⟩);try simp only [d0,hg,w1,vcd,↓vcp,seval])|refine ⟨fun h=>?_,fun h=>?_⟩|refine aX ?_|fail
   by_cases hN:popC P s.sf∨pushC (popP P s.sf) s.sf s.yr
   ·have ac:=(sAddN P s.sf s.yr (by omega) hN).sw 903 3
    simp only [rowA,rowV,vcd,↓vcp,seval] at ac
    clear hN
    refine TR.callv [(3,.fix [.osl 1000,.osl 1001]),(1000,rowA P),(1001,rowV P)] [(3,.fix [.osl 1002,.osl 1003]),(1002,rowA (addP P s.sf s.yr)),(1003,rowV (addP P s.sf s.yr))] _ [1002,1003] rfl (by rw [hP];exact ac) trivial (by repeat' first|exact trivial|(intro _;assumption)|apply And.intro) (hin3 rfl rfl rfl) (by simp [keysO]) (by simp) ?_
    clear ac
    simp only [rowA,rowV,slC,w1,vcd,↓vcp,seval]
    repeat' first|refine ⟨fun h=>?_,fun h=>?_⟩|refine aX ?_|fail
    refine TR.wk ⟨[(4,.fn (.func 79) [] [.own 3 0]),(2,.own 2 0),(3,.own 3 0),(5,.d (.int .i64 e)),(7,.own 7 0),(13,.d (slS l)),(14,.d (.int .i64 l.length)),(15,.d (.int .i64 k)),(31,.fn (.func 79) [] [.own 3 0]),(34,.d (.int .i64 s.st))],[(2,.fix [.d (.sl true 0 0 fun _=>[]),.d (.sl true 0 0 fun _=>[])]),(3,.fix [.osl 1000,.osl 1001]),(7,.fix (cSl s)),(1000,rowA (addP P s.sf s.yr)),(1001,rowV (addP P s.sf s.yr))],[2,3,7,1000,1001]⟩ ((Wk.sw 1002 1000 _ hfn (by simp) (by simp)).trans ((Wk.sw 1003 1001 _ hfn (by simp) (by simp)).trans (Wk.of _ hfn rfl (by simp only [slS,dSl,slC,enb,vcd,↓vcp,seval]) (by simp only [rowA,rowV,cSl,slC,enb,vcd,↓vcp,seval])))) ?_
    simp only [rowA,rowV,cSl,slS,dSl,slC,vcd,↓vcp,seval]
    by_cases hN:popC (addP P s.sf s.yr) s.st∨pushC (popP (addP P s.sf s.yr) s.st) s.st 0
    ·have ac:=(sAddN (addP P s.sf s.yr) s.st 0 (by omega) hN).sw 903 3
     simp only [rowA,rowV,vcd,↓vcp,seval] at ac
     clear hN
     refine TR.callv [(3,.fix [.osl 1000,.osl 1001]),(1000,rowA (addP P s.sf s.yr)),(1001,rowV (addP P s.sf s.yr))] [(3,.fix [.osl 1002,.osl 1003]),(1002,rowA (addP (addP P s.sf s.yr) s.st 0)),(1003,rowV (addP (addP P s.sf s.yr) s.st 0))] _ [1002,1003] rfl (by rw [hP];exact ac) trivial (by repeat' first|exact trivial|(intro _;assumption)|apply And.intro) (hin3 rfl rfl rfl) (by simp [keysO]) (by simp) ?_
     clear ac
     simp only [rowA,rowV,slC,w1,vcd,↓vcp,seval]
     repeat' first|refine ⟨fun h=>?_,fun h=>?_⟩|refine aX ?_|fail
     exact lopK.on (k+1,addP (addP P s.sf s.yr) s.st 0,s.st) ⟨hlt,he,by simp only;omega⟩ (by simp only;omega) ((Wk.sw 1002 1000 _ hfn (by simp) (by simp)).trans ((Wk.sw 1003 1001 _ hfn (by simp) (by simp)).trans (Wk.of _ hfn rfl (by simp only [slS,dSl,slC,w1,enb,vcd,↓vcp,seval]) (by simp only [rowA,rowV,enb,vcd,↓vcp,seval]))))
    ·have ac:=(sAdd00 (addP P s.sf s.yr) s.st 0 (by omega) (fun h=>hN (.inl h)) (fun h=>hN (.inr h))).sw 903 3
     simp only [rowA,rowV,vcd,↓vcp,seval] at ac
     clear hN
     refine TR.callv [(3,.fix [.osl 1000,.osl 1001]),(1000,rowA (addP P s.sf s.yr)),(1001,rowV (addP P s.sf s.yr))] [(3,.fix [.osl 1000,.osl 1001]),(1000,rowA (addP (addP P s.sf s.yr) s.st 0)),(1001,rowV (addP (addP P s.sf s.yr) s.st 0))] _ [] rfl (by rw [hP];exact ac) trivial (by repeat' first|exact trivial|(intro _;assumption)|apply And.intro) (hin3 rfl rfl rfl) (by simp [keysO]) (by simp) ?_
     clear ac
     simp only [rowA,rowV,slC,w1,vcd,↓vcp,seval]
     repeat' first|refine ⟨fun h=>?_,fun h=>?_⟩|refine aX ?_|fail
     exact lopK.on (k+1,addP (addP P s.sf s.yr) s.st 0,s.st) ⟨hlt,he,by simp only;omega⟩ (by simp only;omega) (Wk.of _ hfn rfl (by simp only [slS,dSl,slC,w1,enb,vcd,↓vcp,seval]) (by simp only [rowA,rowV,enb,vcd,↓vcp,seval]))
   ·have ac:=(sAdd00 P s.sf s.yr (by omega) (fun h=>hN (.inl h)) (fun h=>hN (.inr h))).sw 903 3
    simp only [rowA,rowV,vcd,↓vcp,seval] at ac
    clear hN
    refine TR.callv [(3,.fix [.osl 1000,.osl 1001]),(1000,rowA P),(1001,rowV P)] [(3,.fix [.osl 1000,.osl 1001]),(1000,rowA (addP P s.sf s.yr)),(1001,rowV (addP P s.sf s.yr))] _ [] rfl (by rw [hP];exact ac) trivial (by repeat' first|exact trivial|(intro _;assumption)|apply And.intro) (hin3 rfl rfl rfl) (by simp [keysO]) (by simp) ?_
    clear ac
    simp only [rowA,rowV,slC,w1,vcd,↓vcp,seval]
    repeat' first|refine ⟨fun h=>?_,fun h=>?_⟩|refine aX ?_|fail
    refine TR.wk ⟨[(4,.fn (.func 79) [] [.own 3 0]),(2,.own 2 0),(3,.own 3 0),(5,.d (.int .i64 e)),(7,.own 7 0),(13,.d (slS l)),(14,.d (.int .i64 l.length)),(15,.d (.int .i64 k)),(31,.fn (.func 79) [] [.own 3 0]),(34,.d (.int .i64 s.st))],[(2,.fix [.d (.sl true 0 0 fun _=>[]),.d (.sl true 0 0 fun _=>[])]),(3,.fix [.osl 1000,.osl 1001]),(7,.fix (cSl s)),(1000,rowA (addP P s.sf s.yr)),(1001,rowV (addP P s.sf s.yr))],[2,3,7,1000,1001]⟩ (Wk.of _ hfn rfl (by simp only [slS,dSl,slC,enb,vcd,↓vcp,seval]) (by simp only [rowA,rowV,cSl,slC,enb,vcd,↓vcp,seval])) ?_
    simp only [rowA,rowV,cSl,slS,dSl,slC,vcd,↓vcp,seval]
    by_cases hN:popC (addP P s.sf s.yr) s.st∨pushC (popP (addP P s.sf s.yr) s.st) s.st 0
    ·have ac:=(sAddN (addP P s.sf s.yr) s.st 0 (by omega) hN).sw 903 3
     simp only [rowA,rowV,vcd,↓vcp,seval] at ac
     clear hN
     refine TR.callv [(3,.fix [.osl 1000,.osl 1001]),(1000,rowA (addP P s.sf s.yr)),(1001,rowV (addP P s.sf s.yr))] [(3,.fix [.osl 1002,.osl 1003]),(1002,rowA (addP (addP P s.sf s.yr) s.st 0)),(1003,rowV (addP (addP P s.sf s.yr) s.st 0))] _ [1002,1003] rfl (by rw [hP];exact ac) trivial (by repeat' first|exact trivial|(intro _;assumption)|apply And.intro) (hin3 rfl rfl rfl) (by simp [keysO]) (by simp) ?_
     clear ac
     simp only [rowA,rowV,slC,w1,vcd,↓vcp,seval]
     repeat' first|refine ⟨fun h=>?_,fun h=>?_⟩|refine aX ?_|fail
     exact lopK.on (k+1,addP (addP P s.sf s.yr) s.st 0,s.st) ⟨hlt,he,by simp only;omega⟩ (by simp only;omega) ((Wk.sw 1002 1000 _ hfn (by simp) (by simp)).trans ((Wk.sw 1003 1001 _ hfn (by simp) (by simp)).trans (Wk.of _ hfn rfl (by simp only [slS,dSl,slC,w1,enb,vcd,↓vcp,seval]) (by simp only [rowA,rowV,enb,vcd,↓vcp,seval]))))
    ·have ac:=(sAdd00 (addP P s.sf s.yr) s.st 0 (by omega) (fun h=>hN (.inl h)) (fun h=>hN (.inr h))).sw 903 3
     simp only [rowA,rowV,vcd,↓vcp,seval] at ac
     clear hN
     refine TR.callv [(3,.fix [.osl 1000,.osl 1001]),(1000,rowA (addP P s.sf s.yr)),(1001,rowV (addP P s.sf s.yr))] [(3,.fix [.osl 1000,.osl 1001]),(1000,rowA (addP (addP P s.sf s.yr) s.st 0)),(1001,rowV (addP (addP P s.sf s.yr) s.st 0))] _ [] rfl (by rw [hP];exact ac) trivial (by repeat' first|exact trivial|(intro _;assumption)|apply And.intro) (hin3 rfl rfl rfl) (by simp [keysO]) (by simp) ?_
     clear ac
     simp only [rowA,rowV,slC,w1,vcd,↓vcp,seval]
     repeat' first|refine ⟨fun h=>?_,fun h=>?_⟩|refine aX ?_|fail
     exact lopK.on (k+1,addP (addP P s.sf s.yr) s.st 0,s.st) ⟨hlt,he,by simp only;omega⟩ (by simp only;omega) (Wk.of _ hfn rfl (by simp only [slS,dSl,slC,w1,enb,vcd,↓vcp,seval]) (by simp only [rowA,rowV,enb,vcd,↓vcp,seval]))
  ·have hf:fullSl s e=false:=by simpa using hf
   rw [hf] at cf
   simp only [slS,dSl,slC,rowA,rowV,d0,hg,vcd,↓vcp,seval]
   repeat' first|(refine tq hP (h:=⟨_,fun _=>by exact cf,?_⟩);try simp only [d0,hg,w1,vcd,↓vcp,seval])|refine ⟨fun h=>?_,fun h=>?_⟩|refine aX ?_|fail
   exact TR.cpan hP (sMust1 1 (by decide)) (by repeat' first|exact trivial|(intro _;assumption)|apply And.intro) (by rw [hpk];exact VLe.refl _)
 ·rw [List.drop_eq_nil_of_le (by omega),curG] at he
  cases he
end Go.Proofs.YtmccbkekpjgdbaaGreat
end
section
namespace Go.Proofs.YtmccbkekpjgdbaaGreat
open Go.Bx
set_option maxRecDepth 10000
def bksL (l:List Fi):List Int:=l.flatMap fun f=>f.cl.bk::f.ac.map (·.bk)
def dedupL:List Int→List Int
 |[]=>[]
 |a::r=>if a∈dedupL r then dedupL r else a::dedupL r
def daysL (l:List Fi):List Int:=sortI (dedupL (bksL l))
theorem sPut0 (P:List (Int×Int)) (d v:Int) (hl:P.length≤1000000) (h:v=lastY P) :
  Ctr Tryz.prog 26 [.own 4 0,.d (.int .i64 d),.d (.int .i64 v)] [(4,.fix [.osl 1000,.osl 1001]),(1000,rowA P),(1001,rowV P)] (.tup []) [(4,.fix [.osl 1000,.osl 1001]),(1000,rowA P),(1001,rowV P)] []:=by
 refine qO Tryz.func26 ?_
 intro c hP hfn
 subst h
 have n0:(lastY P != lastY P)=false:=by simp
 by_cases h0:0<P.length
 ·have d0:decide ((P.length:Int)>0)=true:=decide_eq_true (by omega)
  have w1:IntKind.i64.wrap ((P.length:Int)-1)=((P.length-1:Nat):Int):=(wI (by omega)).trans (by omega)
  have b1:(0:Int)≤((P.length-1:Nat):Int)∧((P.length-1:Nat):Int)<(P.length:Int):=by omega
  have e:(P.getD (P.length-1) (0,0)).2=lastY P:=rfl
  simp only [namesL,V.names,ownNames,rowA,rowV,d0,w1,e,n0,vcd,↓vcp,seval]
  repeat' first|refine ⟨fun h=>?_,fun h=>?_⟩|refine aX ?_|fail
  refine rK' (Wk.refl _ _) ?_
  simp only [enb,vcd,↓vcp,seval]
 ·have hp:P=[]:=List.eq_nil_of_length_eq_zero (by omega)
  subst hp
  have e:lastY []=0:=rfl
  have n1:((0:Int) != 0)=false:=rfl
  have d0:decide (((0:Nat):Int)>0)=false:=rfl
  simp only [namesL,V.names,ownNames,rowA,rowV,e,List.length_nil,d0,n1,vcd,↓vcp,seval]
  repeat' first|refine ⟨fun h=>?_,fun h=>?_⟩|refine aX ?_|fail
  refine rK' (Wk.refl _ _) ?_
  simp only [enb,vcd,↓vcp,seval]
theorem sPut1 (P:List (Int×Int)) (d v:Int) (hl:P.length≤1000000) (h:¬ v=lastY P) :
  Ctr Tryz.prog 26 [.own 4 0,.d (.int .i64 d),.d (.int .i64 v)] [(4,.fix [.osl 1000,.osl 1001]),(1000,rowA P),(1001,rowV P)] (.tup []) [(4,.fix [.osl 1002,.osl 1003]),(1002,rowA (P++[(d,v)])),(1003,rowV (P++[(d,v)]))] [1002,1003]:=by
 refine qO Tryz.func26 ?_
 intro c hP hfn
 have hb:(P.length+1)*8≤140737488355328∧P.length+1≤maxLen:=⟨by omega,by simp only [maxLen];omega⟩
 have n0:(v != lastY P)=true:=by rw [bne_iff_ne];exact h
 by_cases h0:0<P.length
 ·have d0:decide ((P.length:Int)>0)=true:=decide_eq_true (by omega)
  have w1:IntKind.i64.wrap ((P.length:Int)-1)=((P.length-1:Nat):Int):=(wI (by omega)).trans (by omega)
  have b1:(0:Int)≤((P.length-1:Nat):Int)∧((P.length-1:Nat):Int)<(P.length:Int):=by omega
  have e:(P.getD (P.length-1) (0,0)).2=lastY P:=rfl
  simp only [namesL,V.names,ownNames,rowA,rowV,d0,w1,e,n0,vcd,↓vcp,seval]
  repeat' first|refine ⟨fun h=>?_,fun h=>?_⟩|refine aX ?_|fail
  refine rK' ((Wk.sw 34 1002 _ hfn (by simp [namesL,V.names,ownNames,rowA,rowV]) (by simp [namesL,V.names,ownNames,rowA,rowV])).trans (Wk.sw 41 1003 _ hfn (by simp [namesL,V.names,ownNames,rowA,rowV]) (by simp [namesL,V.names,ownNames,rowA,rowV]))) ?_
  simp only [enb,vcd,↓vcp,seval]
  exact ⟨OLe.app1 (fun p:Int×Int=>[.int .i64 p.1]) (fun i hi=>by simp [hi]) (by simp [litRow]),OLe.app1 (fun p:Int×Int=>[.int .i64 p.2]) (fun i hi=>by simp [hi]) (by simp [litRow])⟩
 ·have hp:P=[]:=List.eq_nil_of_length_eq_zero (by omega)
  subst hp
  have n1:(v != 0)=true:=n0
  have d0:decide (((0:Nat):Int)>0)=false:=rfl
  simp only [namesL,V.names,ownNames,rowA,rowV,List.length_nil,d0,n1,vcd,↓vcp,seval]
  repeat' first|refine ⟨fun h=>?_,fun h=>?_⟩|refine aX ?_|fail
  refine rK' ((Wk.sw 34 1002 _ hfn (by simp [namesL,V.names,ownNames,rowA,rowV]) (by simp [namesL,V.names,ownNames,rowA,rowV])).trans (Wk.sw 41 1003 _ hfn (by simp [namesL,V.names,ownNames,rowA,rowV]) (by simp [namesL,V.names,ownNames,rowA,rowV]))) ?_
  simp only [enb,vcd,↓vcp,seval]
  exact ⟨OLe.row rfl fun i hi=>by (have h9:i=0:=by simpa using hi);subst h9;simp [litRow],OLe.row rfl fun i hi=>by (have h9:i=0:=by simpa using hi);subst h9;simp [litRow]⟩
theorem putY_len (P:List (Int×Int)) (d v:Int):(putY P d v).length≤P.length+1:=by unfold putY;split<;>simp
def vDay (c:Cv) (l:List Fi) (d:Int):Int:=(sumL c (knownL l d)).pd
def hDay (c:Cv) (l:List Fi) (d:Int):Int:=(sumL c (knownL l d)).rs
def ovDay (c:Cv) (l:List Fi) (b:Bool) (d:Int):Bool:=b || decide (vDay c l d>4000000000000000000) || decide (hDay c l d>4000000000000000000)
def overL (c:Cv) (l:List Fi) (D:List Int):Bool:=D.foldl (ovDay c l) false
def curE (c:Cv) (l:List Fi):Int:=if checkL c l≠0 then checkL c l else if 2000<(daysL l).length then 2 else if overL c l (daysL l)=true then 5 else 0
def curP (c:Cv) (l:List Fi):List (Int×Int):=if curE c l=0 then curY (vDay c l) (daysL l) else []
def curH (c:Cv) (l:List Fi):List (Int×Int):=if curE c l=0 then curY (hDay c l) (daysL l) else []
theorem curY_len (V:Int→Int):∀ (D:List Int) (P:List (Int×Int)),(D.foldl (fun P d=>putY P d (V d)) P).length≤P.length+D.length
 |[],P=>Nat.le_refl _
 |d::D,P=>by
  have h1:=putY_len P d (V d)
  have h2:=curY_len V D (putY P d (V d))
  rw [List.foldl_cons,List.length_cons];omega
theorem known_sh {l:List Fi} (hl:ShF l) (d:Int):ShF (knownL l d):=by
 refine ⟨Nat.le_trans (knownL_len l d) hl.1,fun f hf=>?_⟩
 obtain ⟨g,hg,rfl⟩:=List.mem_map.1 hf
 exact Nat.le_trans (List.length_filter_le _ _) (hl.2 g (List.mem_filter.1 hg).1)
theorem vle_st0 {g1 g2:Nat→List D}:VLe (.ag [.d (.sl true 0 0 g1),.d (.sl true 0 0 g2)]) (vSt []):=VLe.ags ⟨vle_nil,vle_nil,trivial⟩
set_option maxHeartbeats 4000000 in
theorem sCurves (k':Cv) (l:List Fi) (cd:Ctr Tryz.prog 24 [.d (slF l)] [] (.d (slK .i64 (daysL l))) [] []) (hl:ShF l) (hli:I64 k'.li) (hag:I64 k'.ag) (hsh:I64 k'.sh):Ctr Tryz.prog 7 [vC k',.d (slF l)] [] (.tup [vSt (curP k' l),vSt (curH k' l),.d (.int .i64 (curE k' l))]) [] []:=by
 have cs:=sSumL k' l hl hli hag hsh
 simp only [vC,cC,vPo,cPo] at cs
 by_cases he:checkL k' l=0
 ·rw [he] at cs
  have R:=check_ok he
  have n0:((0:Int) != 0)=false:=rfl
  by_cases hb:2000<(daysL l).length
  ·have ee:curE k' l=2:=by rw [curE,if_neg (by simpa using he),if_pos hb]
   have e1:curP k' l=[]:=by rw [curP,if_neg (by rw [ee];decide)]
   have e2:curH k' l=[]:=by rw [curH,if_neg (by rw [ee];decide)]
   have d0:decide (((daysL l).length:Int)>2000)=true:=decide_eq_true (by omega)
   rw [ee,e1,e2]
   simp only [slK] at cd
   refine qP Tryz.func7 fun c hP hfn=>?_;simp only [vC,cC,vcd,↓vcp,seval]
   repeat' first|(refine tq hP (h:=⟨_,fun _=>by first|exact cs|exact cd,?_⟩);try simp only [n0,d0,vcd,↓vcp,seval])|refine ⟨fun h=>?_,fun h=>?_⟩|refine aX ?_|fail
   all_goals
    refine rp ?_
    simp only [rsb,vcd,↓vcp,seval]
    exact VLe.tups ⟨vle_st0,vle_st0,VLe.refl _,trivial⟩
  ·have d0:decide (((daysL l).length:Int)>2000)=false:=decide_eq_false (by omega)
   have ee:curE k' l=if overL k' l (daysL l)=true then 5 else 0:=by rw [curE,if_neg (by simpa using he),if_neg hb]
   have hck:∀ d,checkL k' (knownL l d)=0:=fun d=>ok_check (known_ok R d)
   rw [curP,curH,ee]
   clear ee he R
   obtain ⟨Y,hY⟩:∃ Y,Y=daysL l:=⟨_,rfl⟩
   rw [←hY] at cd hb d0 ⊢
   clear hY
   have ho:∀ k d,Y[k]?=some d→overL k' l (Y.take (k+1))=ovDay k' l (overL k' l (Y.take k)) d:=fun k d h=>by
    rw [List.take_add_one,h,overL,List.foldl_append];rfl
   have hc:∀ (V:Int→Int) k d,Y[k]?=some d→curY V (Y.take (k+1))=putY (curY V (Y.take k)) d (V d):=fun V k d h=>by
    rw [List.take_add_one,h];exact curY_snoc V _ d
   have hcl:∀ (V:Int→Int) k,(curY V (Y.take k)).length≤2000:=fun V k=>by
    have:=curY_len V (Y.take k) []
    rw [List.length_take] at this
    simp only [List.length_nil] at this
    rw [curY];omega
   refine qP Tryz.func7 fun c hP hfn=>?_;simp only [vC,cC,vcd,↓vcp,seval]
   repeat' first|(refine tq hP (h:=⟨_,fun _=>by first|exact cs|exact cd,?_⟩);try simp only [n0,d0,vcd,↓vcp,seval])|refine ⟨fun h=>?_,fun h=>?_⟩|refine aX ?_|fail
   refine vcC.loop (X:=Nat) (fun k=>⟨[(1,.d (slF l)),(2,.own 2 0),(4,.own 4 0),(5,.own 5 0),(10,.d (.bool (overL k' l (Y.take k)))),(33,.d (slK .i64 Y)),(34,.d (.int .i64 Y.length)),(35,.d (.int .i64 (k:Nat)))],
     [(2,.fix (cC k')),(4,.fix [.osl 1000,.osl 1001]),(1000,rowA (curY (vDay k' l) (Y.take k))),(1001,rowV (curY (vDay k' l) (Y.take k))),(5,.fix [.osl 1010,.osl 1011]),(1010,rowA (curY (hDay k' l) (Y.take k))),(1011,rowV (curY (hDay k' l) (Y.take k)))],[2,4,5,1000,1001,1010,1011]⟩)
    (fun k=>k≤Y.length) (fun k=>Y.length-k) 0 (Nat.zero_le _) ?_ ?_
   ·refine (Wk.row0F 4 0 1000 3 1 (fun _=>[]) rfl rfl (by simp)).trans ((Wk.row0F 4 1 1001 3 1 (fun _=>[]) rfl rfl (by simp)).trans ((Wk.row0F 5 0 1010 3 1 (fun _=>[]) rfl rfl (by simp)).trans ((Wk.row0F 5 1 1011 3 1 (fun _=>[]) rfl rfl (by simp)).trans (Wk.of _ hfn rfl ?_ ?_))))
    ·simp only [slK,overL,List.take_zero,List.foldl_nil,enb,vcd,↓vcp,seval]
    ·simp only [cC,rowA,rowV,curY,List.take_zero,List.foldl_nil,enb,vcd,↓vcp,seval]
     exact ⟨OLe.row rfl (fun i hi=>absurd hi (Nat.not_lt_zero i)),OLe.row rfl (fun i hi=>absurd hi (Nat.not_lt_zero i)),OLe.row rfl (fun i hi=>absurd hi (Nat.not_lt_zero i)),OLe.row rfl (fun i hi=>absurd hi (Nat.not_lt_zero i))⟩
   intro k hk
   by_cases hlt:k<Y.length
   ·obtain ⟨d,-,hg,-,hat⟩:=drop_at hlt
    have hg:=hg 0
    have d1:decide ((k:Int)<(Y.length:Int))=true:=decide_eq_true (by omega)
    have w1:IntKind.i64.wrap ((k:Int)+1)=((k+1:Nat):Int):=wS (by omega)
    have ck:=sKnownF l d hl
    have c2:=sSumL k' (knownL l d) (known_sh hl d) hli hag hsh
    rw [hck] at c2
    have ho:=ho k d hat
    have hc1:=hc (vDay k' l) k d hat
    have hc2:=hc (hDay k' l) k d hat
    have hl1:=hcl (vDay k' l) k
    have hl2:=hcl (hDay k' l) k
    have ev:(sumL k' (knownL l d)).pd=vDay k' l d:=rfl
    have eh:(sumL k' (knownL l d)).rs=hDay k' l d:=rfl
    simp only [vC,cC,vPo,cPo,ev,eh] at c2
    rw [ovDay] at ho
    clear ev eh hc hcl hck cs cd
    generalize curY (vDay k' l) (Y.take k)=P at *
    generalize curY (hDay k' l) (Y.take k)=Q at *
    generalize overL k' l (Y.take k)=B at *
    generalize vDay k' l d=v at *
    generalize hDay k' l d=w at *
    by_cases hv:v=lastY P
    ·by_cases hw:w=lastY Q
     ·have p1:=sPut0 P d v (by omega) hv
      have p2:=((((sPut0 Q d w (by omega) hw).sw 4 5).sw 1000 1010).sw 1001 1011)
      simp only [rowA,rowV,vcd,↓vcp,seval] at p1 p2
      have f1:curY (vDay k' l) (Y.take (k+1))=P:=by rw [hc1,putY,if_pos hv]
      have f2:curY (hDay k' l) (Y.take (k+1))=Q:=by rw [hc2,putY,if_pos hw]
      simp only [slK,cC,hg,d1,w1,n0,rowA,rowV,vcd,↓vcp,seval]
      repeat' first|(refine tq hP (h:=⟨_,fun _=>by first|exact ck|exact c2,?_⟩);try simp only [hg,w1,n0,vcd,↓vcp,seval])|refine ⟨fun h=>?_,fun h=>?_⟩|refine aX ?_|fail
      refine TR.call [(4,.fix [.osl 1000,.osl 1001]),(1000,rowA P),(1001,rowV P)] [(4,.fix [.osl 1000,.osl 1001]),(1000,rowA P),(1001,rowV P)] _ [] (by rw [hP];exact p1) (by repeat' first|exact trivial|(intro _;assumption)|apply And.intro) (hin3 rfl rfl rfl) (by simp [keysO]) (by simp) ?_
      clear p1
      simp only [rowA,rowV,vcd,↓vcp,seval]
      repeat' first|refine ⟨fun h=>?_,fun h=>?_⟩|refine aX ?_|fail
      refine TR.call [(5,.fix [.osl 1010,.osl 1011]),(1010,rowA Q),(1011,rowV Q)] [(5,.fix [.osl 1010,.osl 1011]),(1010,rowA Q),(1011,rowV Q)] _ [] (by rw [hP];exact p2) (by repeat' first|exact trivial|(intro _;assumption)|apply And.intro) (hin3 rfl rfl rfl) (by simp [keysO]) (by simp) ?_
      clear p2
      simp only [rowA,rowV,w1,vcd,↓vcp,seval]
      repeat' first|refine ⟨fun h=>?_,fun h=>?_⟩|refine aX ?_|fail
      exact lopK.on (k+1) hlt (by omega) (Wk.of _ hfn rfl (by simp only [ho,slK,w1,enb,vcd,↓vcp,seval]) (by simp only [f1,f2,cC,rowA,rowV,enb,vcd,↓vcp,seval]))
     ·have p1:=sPut0 P d v (by omega) hv
      have p2:=((((sPut1 Q d w (by omega) hw).sw 4 5).sw 1000 1010).sw 1001 1011).sw 1002 1012 |>.sw 1003 1013
      simp only [rowA,rowV,vcd,↓vcp,seval] at p1 p2
      have f1:curY (vDay k' l) (Y.take (k+1))=P:=by rw [hc1,putY,if_pos hv]
      have f2:curY (hDay k' l) (Y.take (k+1))=Q++[(d,w)]:=by rw [hc2,putY,if_neg hw]
      simp only [slK,cC,hg,d1,w1,n0,rowA,rowV,vcd,↓vcp,seval]
      repeat' first|(refine tq hP (h:=⟨_,fun _=>by first|exact ck|exact c2,?_⟩);try simp only [hg,w1,n0,vcd,↓vcp,seval])|refine ⟨fun h=>?_,fun h=>?_⟩|refine aX ?_|fail
      refine TR.call [(4,.fix [.osl 1000,.osl 1001]),(1000,rowA P),(1001,rowV P)] [(4,.fix [.osl 1000,.osl 1001]),(1000,rowA P),(1001,rowV P)] _ [] (by rw [hP];exact p1) (by repeat' first|exact trivial|(intro _;assumption)|apply And.intro) (hin3 rfl rfl rfl) (by simp [keysO]) (by simp) ?_
      clear p1
      simp only [rowA,rowV,vcd,↓vcp,seval]
      repeat' first|refine ⟨fun h=>?_,fun h=>?_⟩|refine aX ?_|fail
      refine TR.call [(5,.fix [.osl 1010,.osl 1011]),(1010,rowA Q),(1011,rowV Q)] [(5,.fix [.osl 1012,.osl 1013]),(1012,rowA (Q++[(d,w)])),(1013,rowV (Q++[(d,w)]))] _ [1012,1013] (by rw [hP];exact p2) (by repeat' first|exact trivial|(intro _;assumption)|apply And.intro) (hin3 rfl rfl rfl) (by simp [keysO]) (by simp) ?_
      clear p2
      simp only [rowA,rowV,w1,vcd,↓vcp,seval]
      repeat' first|refine ⟨fun h=>?_,fun h=>?_⟩|refine aX ?_|fail
      exact lopK.on (k+1) hlt (by omega) ((Wk.sw 1012 1010 _ hfn (by simp) (by simp)).trans ((Wk.sw 1013 1011 _ hfn (by simp) (by simp)).trans (Wk.of _ hfn rfl (by simp only [ho,slK,w1,enb,vcd,↓vcp,seval]) (by simp only [f1,f2,cC,rowA,rowV,enb,vcd,↓vcp,seval]))))
    ·by_cases hw:w=lastY Q
     ·have p1:=sPut1 P d v (by omega) hv
      have p2:=((((sPut0 Q d w (by omega) hw).sw 4 5).sw 1000 1010).sw 1001 1011)
      simp only [rowA,rowV,vcd,↓vcp,seval] at p1 p2
      have f1:curY (vDay k' l) (Y.take (k+1))=P++[(d,v)]:=by rw [hc1,putY,if_neg hv]
      have f2:curY (hDay k' l) (Y.take (k+1))=Q:=by rw [hc2,putY,if_pos hw]
      simp only [slK,cC,hg,d1,w1,n0,rowA,rowV,vcd,↓vcp,seval]
      repeat' first|(refine tq hP (h:=⟨_,fun _=>by first|exact ck|exact c2,?_⟩);try simp only [hg,w1,n0,vcd,↓vcp,seval])|refine ⟨fun h=>?_,fun h=>?_⟩|refine aX ?_|fail
      refine TR.call [(4,.fix [.osl 1000,.osl 1001]),(1000,rowA P),(1001,rowV P)] [(4,.fix [.osl 1002,.osl 1003]),(1002,rowA (P++[(d,v)])),(1003,rowV (P++[(d,v)]))] _ [1002,1003] (by rw [hP];exact p1) (by repeat' first|exact trivial|(intro _;assumption)|apply And.intro) (hin3 rfl rfl rfl) (by simp [keysO]) (by simp) ?_
      clear p1
      simp only [rowA,rowV,vcd,↓vcp,seval]
      repeat' first|refine ⟨fun h=>?_,fun h=>?_⟩|refine aX ?_|fail
      refine TR.call [(5,.fix [.osl 1010,.osl 1011]),(1010,rowA Q),(1011,rowV Q)] [(5,.fix [.osl 1010,.osl 1011]),(1010,rowA Q),(1011,rowV Q)] _ [] (by rw [hP];exact p2) (by repeat' first|exact trivial|(intro _;assumption)|apply And.intro) (hin3 rfl rfl rfl) (by simp [keysO]) (by simp) ?_
      clear p2
      simp only [rowA,rowV,w1,vcd,↓vcp,seval]
      repeat' first|refine ⟨fun h=>?_,fun h=>?_⟩|refine aX ?_|fail
      exact lopK.on (k+1) hlt (by omega) ((Wk.sw 1002 1000 _ hfn (by simp) (by simp)).trans ((Wk.sw 1003 1001 _ hfn (by simp) (by simp)).trans (Wk.of _ hfn rfl (by simp only [ho,slK,w1,enb,vcd,↓vcp,seval]) (by simp only [f1,f2,cC,rowA,rowV,enb,vcd,↓vcp,seval]))))
     ·have p1:=sPut1 P d v (by omega) hv
      have p2:=((((sPut1 Q d w (by omega) hw).sw 4 5).sw 1000 1010).sw 1001 1011).sw 1002 1012 |>.sw 1003 1013
      simp only [rowA,rowV,vcd,↓vcp,seval] at p1 p2
      have f1:curY (vDay k' l) (Y.take (k+1))=P++[(d,v)]:=by rw [hc1,putY,if_neg hv]
      have f2:curY (hDay k' l) (Y.take (k+1))=Q++[(d,w)]:=by rw [hc2,putY,if_neg hw]
      simp only [slK,cC,hg,d1,w1,n0,rowA,rowV,vcd,↓vcp,seval]
      repeat' first|(refine tq hP (h:=⟨_,fun _=>by first|exact ck|exact c2,?_⟩);try simp only [hg,w1,n0,vcd,↓vcp,seval])|refine ⟨fun h=>?_,fun h=>?_⟩|refine aX ?_|fail
      refine TR.call [(4,.fix [.osl 1000,.osl 1001]),(1000,rowA P),(1001,rowV P)] [(4,.fix [.osl 1002,.osl 1003]),(1002,rowA (P++[(d,v)])),(1003,rowV (P++[(d,v)]))] _ [1002,1003] (by rw [hP];exact p1) (by repeat' first|exact trivial|(intro _;assumption)|apply And.intro) (hin3 rfl rfl rfl) (by simp [keysO]) (by simp) ?_
      clear p1
      simp only [rowA,rowV,vcd,↓vcp,seval]
      repeat' first|refine ⟨fun h=>?_,fun h=>?_⟩|refine aX ?_|fail
      refine TR.call [(5,.fix [.osl 1010,.osl 1011]),(1010,rowA Q),(1011,rowV Q)] [(5,.fix [.osl 1012,.osl 1013]),(1012,rowA (Q++[(d,w)])),(1013,rowV (Q++[(d,w)]))] _ [1012,1013] (by rw [hP];exact p2) (by repeat' first|exact trivial|(intro _;assumption)|apply And.intro) (hin3 rfl rfl rfl) (by simp [keysO]) (by simp) ?_
      clear p2
      simp only [rowA,rowV,w1,vcd,↓vcp,seval]
      repeat' first|refine ⟨fun h=>?_,fun h=>?_⟩|refine aX ?_|fail
      exact lopK.on (k+1) hlt (by omega) ((Wk.sw 1002 1000 _ hfn (by simp) (by simp)).trans ((Wk.sw 1003 1001 _ hfn (by simp) (by simp)).trans ((Wk.sw 1012 1010 _ hfn (by simp) (by simp)).trans ((Wk.sw 1013 1011 _ hfn (by simp) (by simp)).trans (Wk.of _ hfn rfl (by simp only [ho,slK,w1,enb,vcd,↓vcp,seval]) (by simp only [f1,f2,cC,rowA,rowV,enb,vcd,↓vcp,seval]))))))
   ·have hk2:k=Y.length:=by omega
    have d1:decide ((k:Int)<(Y.length:Int))=false:=decide_eq_false (by omega)
    rw [hk2,List.take_length]
    rw [hk2] at d1
    cases hov:overL k' l Y with
    |true =>
     simp only [rowA,rowV,slK,cC,d1,hov,vcd,↓vcp,seval]
     repeat' first|refine ⟨fun h=>?_,fun h=>?_⟩|refine aX ?_|fail
     all_goals
      refine rp ?_
      simp only [rsb,vcd,↓vcp,seval]
      exact VLe.tups ⟨vle_st0,vle_st0,VLe.refl _,trivial⟩
    |false =>
     simp only [rowA,rowV,slK,cC,d1,hov,vcd,↓vcp,seval]
     repeat' first|refine ⟨fun h=>?_,fun h=>?_⟩|refine aX ?_|fail
     refine rK ((Wk.pub 1000 rfl).trans ((Wk.pub 1001 rfl).trans ((Wk.pub 1010 rfl).trans (Wk.pub 1011 rfl)))) trivial ?_
     simp only [vSt,cSt,rsb,vcd,↓vcp,seval]
     exact VLe.tups ⟨VLe.ags ⟨vle_slK1,vle_slK2,trivial⟩,VLe.ags ⟨vle_slK1,vle_slK2,trivial⟩,VLe.refl _,trivial⟩
 ·have ee:curE k' l=checkL k' l:=by rw [curE,if_pos he]
  have e1:curP k' l=[]:=by rw [curP,if_neg (by rw [ee];exact he)]
  have e2:curH k' l=[]:=by rw [curH,if_neg (by rw [ee];exact he)]
  have n0:(checkL k' l != 0)=true:=by rw [bne_iff_ne];exact he
  rw [ee,e1,e2]
  generalize checkL k' l=e at *
  refine qP Tryz.func7 fun c hP hfn=>?_;simp only [vC,cC,vcd,↓vcp,seval]
  repeat' first|(refine tq hP (h:=⟨_,fun _=>by exact cs,?_⟩);try simp only [n0,vcd,↓vcp,seval])|refine ⟨fun h=>?_,fun h=>?_⟩|refine aX ?_|fail
  all_goals
   refine rp ?_
   simp only [rsb,vcd,↓vcp,seval]
   exact VLe.tups ⟨vle_st0,vle_st0,VLe.refl _,trivial⟩
end Go.Proofs.YtmccbkekpjgdbaaGreat
end
section
namespace Go.Proofs.YtmccbkekpjgdbaaGreat
open Go.Bx
set_option maxRecDepth 20000
def sL:Code→Code|.seq a _=>a|x=>x
def sR:Code→Code|.seq _ b=>b|x=>x
def sB:Code→Code|.block _ a=>a|.loop a=>a|x=>x
def kL:C→C|.seq a _=>a|x=>x
def kR:C→C|.seq _ b=>b|x=>x
def kB:C→C|.block _ a=>a|.loop a=>a|x=>x
noncomputable def bD:Code:=Tryz.f24.body.getD .skip
noncomputable def bD4:Code:=sR (sR (sR (sR bD)))
noncomputable def kD4:C:=kR (kR (kR (kR kc24)))
noncomputable def bX:Code:=sR (sB (sR (sR (sB (sB (sR (sL bD4)))))))
noncomputable def kX:C:=kR (kB (kR (kR (kB (kB (kR (kL kD4)))))))
theorem hA0:cCode Tryz.prog Tryz.f24.ntmps (sL bD)=some (kL kc24):=by kernel_rfl
theorem hA1:cCode Tryz.prog Tryz.f24.ntmps (sL (sR bD))=some (kL (kR kc24)):=by kernel_rfl
theorem hA2:cCode Tryz.prog Tryz.f24.ntmps (sL (sR (sR bD)))=some (kL (kR (kR kc24))):=by kernel_rfl
theorem hA3:cCode Tryz.prog Tryz.f24.ntmps (sL (sR (sR (sR bD))))=some (kL (kR (kR (kR kc24)))):=by kernel_rfl
theorem hA4:cCode Tryz.prog Tryz.f24.ntmps (sR bD4)=some (kR kD4):=by kernel_rfl
theorem hAX:cCode Tryz.prog Tryz.f24.ntmps bX=some kX:=by kernel_rfl
theorem bD_eq:bD=.seq (sL bD) (.seq (sL (sR bD)) (.seq (sL (sR (sR bD))) (.seq (sL (sR (sR (sR bD)))) (.seq (.seq (sL (sL bD4)) (sR (sL bD4))) (sR bD4))))):=by rfl
theorem shape13:∃ j m1 m2,sL (sL bD4)=.region j #[m1,m2] false∧m1.guard=none∧m2.guard=none∧m1.op=.move (.tmp 3)∧m1.dst=some 33∧m2.op=.range 133 (.tmp 33)∧m2.dst=some 34:=⟨_,_,_,rfl,rfl,rfl,rfl,rfl,rfl,rfl⟩
theorem shapeL:∃ o1 o2 p1 p2 p3 i1 i2,sR (sL bD4)=.block 4 (.loop (.seq (.region i1 #[o1,o2] false) (.seq (.cond (.tmp 36) .skip (.exit 4)) (.block 5 (.seq (.region i2 #[p1,p2,p3] false) bX)))))∧o1.guard=none∧o2.guard=none∧o1.op=.next (.tmp 34) false∧o1.dst=some 35∧o2.op=.extract (.tmp 35) 0∧o2.dst=some 36 ∧
  p1.guard=none∧p2.guard=none∧p3.guard=none∧p1.op=.entry (.tmp 34)∧p1.dst=some 37∧p2.op=.extract (.tmp 37) 0∧p2.dst=some 38∧p3.op=.assign (.tmp 38)∧p3.dst=some 9:=⟨_,_,_,_,_,_,_,rfl,rfl,rfl,rfl,rfl,rfl,rfl,rfl,rfl,rfl,rfl,rfl,rfl,rfl,rfl,rfl⟩
def gB (L:List Int) (n:Int):D:=.bool (decide (n∈L))
theorem gB_snoc (L:List Int) (n:Int):(fun m=>if m=n then D.bool true else gB L m)=gB (L++[n]):=by
 funext m
 unfold gB
 by_cases h:m=n
 ·simp [h]
 ·simp [h]
theorem dedup_nd:∀ L:List Int,(dedupL L).Nodup∧∀ n,n∈dedupL L↔n∈L
 |[]=>⟨List.nodup_nil,fun n=>Iff.rfl⟩
 |a::r=>by
  obtain ⟨h1,h2⟩:=dedup_nd r
  rw [dedupL]
  split
  ·rename_i h
   refine ⟨h1,fun n=>?_⟩
   rw [h2,List.mem_cons]
   constructor
   ·exact .inr
   ·rintro (rfl|h3)
    ·exact (h2 _).1 h
    ·exact h3
  ·rename_i h
   refine ⟨List.nodup_cons.2 ⟨h,h1⟩,fun n=>?_⟩
   rw [List.mem_cons,List.mem_cons,h2]
theorem sortI_eq {A B:List Int} (h:A.Perm B):sortI A=sortI B:=by
 have p:∀ l:List Int,(sortI l).Pairwise (·≤·):=fun l=>by
  have:=List.pairwise_mergeSort (le:=fun x y:Int=>decide (x≤y)) (fun a b c h1 h2=>by simp at *;omega) (fun a b=>by simp;omega) l
  exact this.imp fun h=>by simpa using h
 exact ((List.mergeSort_perm A _).trans (h.trans (List.mergeSort_perm B _).symm)).eq_of_pairwise (le:=(·≤·)) (fun a b _ _ h1 h2=>by omega) (p A) (p B)
theorem bksL_take (l:List Fi) (k:Nat) (f:Fi) (h:l[k]?=some f):bksL (l.take (k+1))=bksL (l.take k)++f.cl.bk::f.ac.map (·.bk):=by
 rw [List.take_add_one,h,bksL,bksL,List.flatMap_append];simp
theorem bksL_len {l:List Fi} (h:∀ f,f∈l→f.ac.length≤100000):(bksL l).length≤l.length*100001:=by
 induction l with
 |nil=>simp [bksL]
 |cons f l ih =>
  have h1:=ih fun g hg=>h g (by simp [hg])
  have h2:=h f (by simp)
  have:bksL (f::l)=(f.cl.bk::f.ac.map (·.bk))++bksL l:=rfl
  rw [this,List.length_append,List.length_cons,List.length_cons,List.length_map];omega
theorem nodup_le:∀ {A B:List Int},A.Nodup→(∀ a,a∈A→a∈B)→A.length≤B.length
 |[],_,_,_=>Nat.zero_le _
 |a::A,B,h,hs=>by
  obtain ⟨h1,h2⟩:=List.nodup_cons.1 h
  have ha:=hs a (by simp)
  have:=nodup_le (B:=B.erase a) h2 fun x hx=>(List.mem_erase_of_ne (fun e=>h1 (by rw [←e];exact hx))).2 (hs x (by simp [hx]))
  rw [List.length_erase_of_mem ha] at this
  have:=List.length_pos_of_mem ha
  rw [List.length_cons];omega
theorem OLe.mpE {z:D} {f g:Int→D} (h:f=g):OLe (.mp z f) (.mp z g):=by subst h;exact OLe.refl _
theorem nb:¬ D.bool true=D.bool false:=fun h=>by injection h with h;cases h
set_option maxHeartbeats 4000000 in
theorem sDays (l:List Fi) (hl:ShF l) (hb:(bksL l).length≤1000000):Ctr Tryz.prog 24 [.d (slF l)] [] (.d (slK .i64 (daysL l))) [] []:=by
 obtain ⟨hl1,hs⟩:=hl
 refine spec_of_vcT (code:=bD) Tryz.func24 ok24 (rfl:Tryz.f24.body=some bD) cr24 (by simp only [Tryz.ntmps24,List.length_cons,List.length_nil];decide) (by simp [keysO]) (by simp) (by simp [keysO]) (by simp [V.names,ownNames]) ?_
 intro c hP hnt hfn _
 have hfn:c.fn=[]:=by rw [hfn];rfl
 have hnt2:38<c.nt:=by rw [hnt,Tryz.ntmps24];decide
 show vcT c bD _ _
 rw [bD_eq]
 refine vcT.seqK (vcT.of (by rw [hP,hnt];exact hA0) ?_)
 simp only [kL,kc24,slF,dFi,namesL,V.names,ownNames,vcd,↓vcp,seval]
 refine vcT.seqK (vcT.of (by rw [hP,hnt];exact hA1) ?_)
 simp only [kL,kR,kc24,slF,dFi,namesL,V.names,ownNames,vcd,↓vcp,seval]
 refine vcT.seqK (vcT.of (by rw [hP,hnt];exact hA2) ?_)
 simp only [kL,kR,kc24,slF,dFi,namesL,V.names,ownNames,vcd,↓vcp,seval]
 refine vcC.loop (X:=Nat) (fun k=>⟨[(3,.osl 10),(11,.d (slF l)),(12,.d (.int .i64 l.length)),(13,.d (.int .i64 (k:Nat)))],[(10,.mp (.bool false) (gB (bksL (l.take k))))],[10]⟩)
  (fun k=>k≤l.length) (fun k=>l.length-k) 0 (Nat.zero_le _) (Wk.of _ hfn rfl (by simp only [slF,dFi,enb,vcd,↓vcp,seval]) (by simp only [enb,vcd,↓vcp,seval];exact OLe.mpE (funext fun n=>by simp [gB,bksL]))) ?_
 intro k hk
 by_cases hlt:k<l.length
 ·obtain ⟨f,-,hg,hm,hat⟩:=drop_at hlt
  have hg:=hg default
  have d0:decide ((k:Int)<(l.length:Int))=true:=decide_eq_true (by omega)
  have w1:IntKind.i64.wrap ((k:Int)+1)=((k+1:Nat):Int):=wS (by omega)
  have hfl:=hs f hm
  have ht:=bksL_take l k f hat
  generalize bksL (l.take k)=L at *
  simp only [slF,dFi,slA,dAc,hg,d0,w1,vcd,↓vcp,seval]
  repeat' first|refine ⟨fun h=>?_,fun h=>?_⟩|refine aX ?_|fail
  refine ⟨nb,?_⟩
  refine vcC.loop (X:=Nat) (fun j=>⟨[(3,.osl 10),(11,.d (slF l)),(12,.d (.int .i64 l.length)),(13,.d (.int .i64 (k:Nat))),(22,.d (slA f.ac)),(23,.d (.int .i64 f.ac.length)),(24,.d (.int .i64 (j:Nat)))],[(10,.mp (.bool false) (gB (L++f.cl.bk::(f.ac.take j).map (·.bk))))],[10]⟩)
   (fun j=>j≤f.ac.length) (fun j=>f.ac.length-j) 0 (Nat.zero_le _) (Wk.of _ hfn rfl (by simp only [slF,dFi,slA,dAc,enb,vcd,↓vcp,seval]) (by simp only [enb,vcd,↓vcp,seval];exact OLe.mpE ((gB_snoc _ _).trans (by simp)))) ?_
  intro j hj
  by_cases hjt:j<f.ac.length
  ·obtain ⟨a,-,hga,-,hata⟩:=drop_at hjt
   have hga:=hga default
   have d1:decide ((j:Int)<(f.ac.length:Int))=true:=decide_eq_true (by omega)
   have w2:IntKind.i64.wrap ((j:Int)+1)=((j+1:Nat):Int):=wS (by omega)
   have ht2:L++f.cl.bk::(f.ac.take (j+1)).map (·.bk)=(L++f.cl.bk::(f.ac.take j).map (·.bk))++[a.bk]:=by rw [List.take_add_one,hata];simp
   generalize L++f.cl.bk::(f.ac.take j).map (·.bk)=M at *
   simp only [slA,dAc,hga,d1,w2,vcd,↓vcp,seval]
   repeat' first|refine ⟨fun h=>?_,fun h=>?_⟩|refine aX ?_|fail
   refine ⟨nb,?_⟩
   exact lopK.on (j+1) hjt (by omega) (Wk.of _ hfn rfl (by simp only [slF,dFi,slA,dAc,w2,enb,vcd,↓vcp,seval]) (by simp only [ht2,enb,vcd,↓vcp,seval];exact OLe.mpE (gB_snoc _ _)))
  ·have hj2:j=f.ac.length:=by omega
   have d1:decide ((j:Int)<(f.ac.length:Int))=false:=decide_eq_false (by omega)
   rw [hj2,List.take_length,←ht]
   rw [hj2] at d1
   simp only [slA,dAc,d1,w1,vcd,↓vcp,seval]
   repeat' first|refine ⟨fun h=>?_,fun h=>?_⟩|refine aX ?_|fail
   exact lopK.on (k+1) hlt (by omega) (Wk.of _ hfn rfl (by simp only [slF,dFi,slA,dAc,w1,enb,vcd,↓vcp,seval]) (by simp only [enb,vcd,↓vcp,seval]))
 ·have hk2:k=l.length:=by omega
  have d0:decide ((k:Int)<(l.length:Int))=false:=decide_eq_false (by omega)
  rw [hk2,List.take_length]
  rw [hk2] at d0
  simp only [slF,dFi,d0,vcd,↓vcp,seval]
  repeat' first|refine ⟨fun h=>?_,fun h=>?_⟩|refine aX ?_|fail
  refine vcT.seqK (vcT.of (by rw [hP,hnt];exact hA3) ?_)
  simp only [kL,kR,kc24,vcd,↓vcp,seval]
  refine vcT.wk (st1:=⟨[(8,.osl 1000),(3,.osl 10)],[(1000,rowZ []),(10,.mp (.bool false) (gB (bksL l)))],[1000,10]⟩) ((Wk.row0 (s:=8) (k:=1000) (e:=3) (sz:=1) (f':=fun _=>[]) rfl rfl (by simp)).trans (Wk.of _ hfn rfl (by simp only [enb,vcd,↓vcp,seval]) (by simp only [rowZ,enb,vcd,↓vcp,seval];exact OLe.row rfl (fun i hi=>absurd hi (Nat.not_lt_zero i))))) ?_
  intro β a w H
  obtain ⟨bm,es,cl,hlp,F⟩:=mp_facts (S:=fun n=>n∈bksL l) (fun n=>rfl) (own_ok H (k:=10) rfl)
  have H1:=H.updOwn (k:=10) (ow:=.lp bm (.map es cl)) (by simp [keysO]) (Keeps.refl _ _) (fun E' _ _=>hlp)
  obtain ⟨j,m1,m2,hc1,s1,s2,s3,s4,s5,s6⟩:=shape13
  obtain ⟨o1,o2,p1,p2,p3,i1,i2,hc2,t1,t2,t3,t4,t5,t6,t7,t8,t9,t10,t11,t12,t13,t14,t15⟩:=shapeL
  have hsub:∀ n,n∈es.toList.map keyI→n∈bksL l:=fun n hn=>by
   obtain ⟨x,hx,rfl⟩:=List.mem_map.1 hn
   exact (F.key x hx).2
  have hM:es.size≤1000000:=by
   have:=nodup_le F.dj hsub
   rw [List.length_map,Array.length_toList] at this;omega
  have hdd:=dedup_nd (bksL l)
  have hP2:(es.toList.map keyI).Perm (dedupL (bksL l)):=(List.perm_ext_iff_of_nodup F.dj hdd.1).2 fun n=>by
   rw [hdd.2]
   constructor
   ·exact hsub n
   ·intro hn
    obtain ⟨x,hx,e⟩:=F.all n hn
    exact List.mem_map.2 ⟨x,hx,e⟩
  rw [hc1,hc2]
  refine wpIn_seq (wpIn_seq (map_begin hP H1 s1 s2 s3 s4 s5 s6 (by omega) rfl rfl (by simp) (fun β' a' w' r H2=>?_)))
  obtain ⟨β2,H3⟩:=(Wk.of (b:=stM r bm cl es #[] []) _ hfn rfl (by simp only [stM,enb,vcd,↓vcp,seval]) (by simp only [stM,rowZ,enb,vcd,↓vcp,seval]):Wk c _ (stM r bm cl es #[] [])) β' a' w' H2
  refine wpIn_mono (map_loop hnt2 t1 t2 t3 t4 t5 t6 t7 t8 t9 t10 t11 t12 t13 t14 t15 (by rw [hP,hnt];exact hAX) F hM (fun out n seen hout=>?_) β2 a' w' H3) ?_
  ·have hroom:(out.length+1)*8≤140737488355328∧out.length+1≤maxLen:=⟨by omega,by simp only [maxLen];omega⟩
   simp only [kX,kD4,kB,kR,kL,kc24,stM,rowZ,vcd,↓vcp,seval]
   repeat' first|refine ⟨fun h=>?_,fun h=>?_⟩|refine aX ?_|fail
   show Wk c _ (stM r bm cl es seen (out++[n]))
   exact ((Wk.sw 42 1000 _ hfn (by simp) (by simp)).trans (Wk.of _ hfn rfl (by simp only [stM,enb,vcd,↓vcp,seval]) (by simp only [stM,rowZ,enb,vcd,↓vcp,seval];exact ⟨OLe.app1 (l:=out) (v:=n) (d:=0) (fun p:Int=>[.int .i64 p]) (fun i hi=>if_pos hi) (by simp [litRow]),OLe.refl _,OLe.refl _⟩))) 
  ·rintro ex a3 w3 (⟨x,hx,β3,st3,⟨rfl,seen,out,hperm,rfl⟩,H4⟩|⟨ch,rfl,hpan⟩)
   ·cases ex<;>simp at hx
    have hout:out.length≤1000000:=by rw [hperm.length_eq,List.length_map,Array.length_toList];exact hM
    have cs:=(sSortI out hout).sw 900 1000
    have es2:sortI out=daysL l:=sortI_eq (hperm.trans hP2)
    rw [es2] at cs
    simp only [rowZ,vcd,↓vcp,seval] at cs
    refine (vcT.of (by rw [hP,hnt];exact hA4) ?_:vcT c (sR bD4) _ _) β3 a3 w3 H4
    simp only [kD4,kR,kc24,stM,rowZ,vcd,↓vcp,seval]
    refine TR.call [(1000,rowZ out)] [(1000,rowZ (daysL l))] _ [] (by rw [hP];exact cs) (by repeat' first|exact trivial|(intro _;assumption)|apply And.intro) (hin1 rfl) (by simp [keysO]) (by simp) ?_
    simp only [rowZ,vcd,↓vcp,seval]
    repeat' first|refine ⟨fun h=>?_,fun h=>?_⟩|refine aX ?_|fail
    refine RetK.mk _ (Wk.pub 1000 rfl) (by simp only [rs24,rsb,vcd,↓vcp,seval]) ?_ trivial
    simp only [rs24,rsb,vcd,↓vcp,seval]
    exact VLe.refl _
   ·exact .inr ⟨ch,rfl,hpan⟩
end Go.Proofs.YtmccbkekpjgdbaaGreat
end
section
namespace Go.Proofs.YtmccbkekpjgdbaaGreat
open Go.Bx
instance:Inhabited Rw:=⟨(0,0,0)⟩
def gridP (n m:Nat) (f:Nat→Nat→Int):List (List Int):=(List.range m).map fun i=>(List.range (n-i)).map (f i)
theorem gridP_len (n m:Nat) (f:Nat→Nat→Int):(gridP n m f).length=m:=by simp [gridP]
theorem gridP_get {n m:Nat} {f:Nat→Nat→Int} {i:Nat} (h:i<m):(gridP n m f)[i]?=some ((List.range (n-i)).map (f i)):=by simp [gridP,h]
theorem gridP_row {n m:Nat} {f:Nat→Nat→Int} {i:Nat} {g:List Int} (h:(gridP n m f)[i]?=some g):i<m∧g=(List.range (n-i)).map (f i):=by
 have hi:i<m:=by have:=(List.getElem?_eq_some_iff.1 h).1;rwa [gridP_len] at this
 rw [gridP_get hi] at h
 exact ⟨hi,(Option.some.inj h).symm⟩
theorem row_len (k:Nat) (f:Nat→Int):((List.range k).map f).length=k:=by simp
theorem row_get {k:Nat} {f:Nat→Int} {j:Nat} (h:j<k) (d:Int):((List.range k).map f).getD j d=f j:=by simp [List.getD_eq_getElem?_getD,h]
theorem gridP_succ (n m:Nat) (f:Nat→Nat→Int):gridP n (m+1) f=gridP n m f++[(List.range (n-m)).map (f m)]:=by simp [gridP,List.range_succ]
def frF (R:List Rw):Int:=R.foldl (fun a x=>min a (yrD x.1)) 2401
def toF (R:List Rw):Int:=R.foldl (fun a x=>max a (yrD x.2.1)) 0
theorem frF_snoc (R:List Rw) (x:Rw):frF (R++[x])=min (frF R) (yrD x.1):=by rw [frF,List.foldl_append];rfl
theorem toF_snoc (R:List Rw) (x:Rw):toF (R++[x])=max (toF R) (yrD x.2.1):=by rw [toF,List.foldl_append];rfl
theorem frF_le:∀ (R:List Rw) (a:Int),R.foldl (fun a x=>min a (yrD x.1)) a≤a∧(∀ x,x∈R→R.foldl (fun a x=>min a (yrD x.1)) a≤yrD x.1)∧(R.foldl (fun a x=>min a (yrD x.1)) a=a∨∃ x,x∈R∧R.foldl (fun a x=>min a (yrD x.1)) a=yrD x.1)
 |[],a=>⟨Int.le_refl _,fun x hx=>by simp at hx,.inl rfl⟩
 |y::R,a=>by
  obtain ⟨h1,h2,h3⟩:=frF_le R (min a (yrD y.1))
  rw [List.foldl_cons]
  refine ⟨by omega,fun x hx=>?_,?_⟩
  ·rcases List.mem_cons.1 hx with rfl|hx
   ·omega
   ·exact h2 x hx
  ·rcases h3 with h3|⟨x,hx,h3⟩
   ·by_cases h:a≤yrD y.1
    ·left;omega
    ·right;exact ⟨y,by simp,by omega⟩
   ·exact .inr ⟨x,by simp [hx],h3⟩
theorem toF_le:∀ (R:List Rw) (a:Int),a≤R.foldl (fun a x=>max a (yrD x.2.1)) a∧(∀ x,x∈R→yrD x.2.1≤R.foldl (fun a x=>max a (yrD x.2.1)) a)∧(R.foldl (fun a x=>max a (yrD x.2.1)) a=a∨∃ x,x∈R∧R.foldl (fun a x=>max a (yrD x.2.1)) a=yrD x.2.1)
 |[],a=>⟨Int.le_refl _,fun x hx=>by simp at hx,.inl rfl⟩
 |y::R,a=>by
  obtain ⟨h1,h2,h3⟩:=toF_le R (max a (yrD y.2.1))
  rw [List.foldl_cons]
  refine ⟨by omega,fun x hx=>?_,?_⟩
  ·rcases List.mem_cons.1 hx with rfl|hx
   ·omega
   ·exact h2 x hx
  ·rcases h3 with h3|⟨x,hx,h3⟩
   ·by_cases h:yrD y.2.1≤a
    ·left;omega
    ·right;exact ⟨y,by simp,by omega⟩
   ·exact .inr ⟨x,by simp [hx],h3⟩
def badR (x:Rw):Bool:=decide (x.2.1<x.1)
def nT (R:List Rw):Int:=toF R-frF R+1
def triE (R:List Rw):Int:=if R=[] then 7 else if R.any badR=true then 4 else if nT R>20 then 2 else 0
structure RwOk (R:List Rw):Prop where
 n:R.length≤2000
 a:∀ x,x∈R→1≤x.1∧x.1≤292194
 b:∀ x,x∈R→1≤x.2.1∧x.2.1≤292194
 c:∀ x,x∈R→0<x.2.2
 s:(R.map (·.2.2)).sum≤1000000000000000
theorem yr_bd {d:Int} (h:1≤d∧d≤292194):1601≤yrD d∧yrD d≤2400:=by
 obtain ⟨a,b,c,e⟩:=yN_spec (n:=d.toNat) (by omega) (by omega)
 refine ⟨by unfold yrD;omega,?_⟩
 exact (yr_le h.1 h.2 (by omega)).2 (by
  have:ahD (2400+1)=292194:=by decide +kernel
  omega)
theorem sum_filt {R:List Rw} (h:∀ p,p∈R→0<p.2.2) (q:Rw→Bool):0≤((R.filter q).map (·.2.2)).sum∧((R.filter q).map (·.2.2)).sum≤(R.map (·.2.2)).sum:=by
 induction R with
 |nil=>simp
 |cons r R ih =>
  have h1:=ih fun p hp=>h p (by simp [hp])
  have h2:=h r (by simp)
  rw [List.filter_cons]
  split
  ·simp only [List.map_cons,List.sum_cons];omega
  ·simp only [List.map_cons,List.sum_cons];omega
theorem cell_bd {R:List Rw} (h:RwOk R) (fr:Int) (i:Nat) (j:Int) (k:Nat):0≤cellT fr (R.take k) i j∧cellT fr (R.take k) i j≤1000000000000000:=by
 have h1:=sum_filt (R:=R.take k) (fun p hp=>h.c p (List.mem_of_mem_take hp)) (inT' fr i j)
 have h2:(R.map (·.2.2)).sum=((R.take k).map (·.2.2)).sum+((R.drop k).map (·.2.2)).sum:=by
  rw [←List.sum_append,←List.map_append,List.take_append_drop]
 have h3:=(sum_filt (R:=R.drop k) (fun p hp=>h.c p (List.mem_of_mem_drop hp)) fun _=>true)
 rw [List.filter_eq_self.2 fun _ _=>rfl] at h3
 have:=h.s
 unfold cellT;omega
theorem cellT_snoc (fr:Int) (A:List Rw) (x:Rw) (i:Nat) (j:Int):cellT fr (A++[x]) i j=cellT fr A i j+if inT' fr i j x=true then x.2.2 else 0:=by
 rw [cellT,List.filter_append,List.map_append,List.sum_append,←cellT,List.filter_cons]
 split<;>simp
def midF (fr:Int) (A:List Rw) (x:Rw) (q k0 k:Nat) (i j:Nat):Int:=cellT fr A i (j:Int)+if i=q∧k0≤j∧j<k then x.2.2 else 0
theorem midF_end {fr:Int} {A:List Rw} {x:Rw} {n q k0:Nat} (hq:yrD x.1=fr+q) (hk:yrD x.2.1-yrD x.1=k0) {i j:Nat} (hj:j<n-i):midF fr A x q k0 (n-q) i j=cellT fr (A++[x]) i (j:Int):=by
 rw [midF,cellT_snoc]
 congr 1
 have:inT' fr i (j:Int) x=true↔i=q∧k0≤j:=by
  simp only [inT',Bool.and_eq_true,decide_eq_true_eq];omega
 by_cases h:i=q∧k0≤j
 ·rw [if_pos (this.2 h),if_pos ⟨h.1,h.2,by rw [←h.1];exact hj⟩]
 ·rw [if_neg (fun g=>h (this.1 g)),if_neg (fun g=>h ⟨g.1,g.2.1⟩)]
theorem midF_0 (fr:Int) (A:List Rw) (x:Rw) (q k0:Nat) (i j:Nat):midF fr A x q k0 k0 i j=cellT fr A i (j:Int):=by
 rw [midF,if_neg (by omega)];omega
theorem midF_ne {fr:Int} {A:List Rw} {x:Rw} {q k0 k:Nat} {i j:Nat} (h:i≠q∨j≠k):midF fr A x q k0 (k+1) i j=midF fr A x q k0 k i j:=by
 rw [midF,midF]
 congr 1
 by_cases h1:i=q∧k0≤j∧j<k
 ·rw [if_pos h1,if_pos ⟨h1.1,h1.2.1,by omega⟩]
 ·rw [if_neg h1,if_neg (fun h2=>h1 ⟨h2.1,h2.2.1,by omega⟩)]
theorem midF_eq {fr:Int} {A:List Rw} {x:Rw} {q k0 k:Nat} (h:k0≤k):midF fr A x q k0 (k+1) q k=midF fr A x q k0 k q k+x.2.2:=by
 rw [midF,midF,if_pos ⟨rfl,h,by omega⟩,if_neg (by omega)];omega
theorem midF_bd {R:List Rw} (h:RwOk R) {fr:Int} {j:Nat} {x:Rw} (hx:R[j]?=some x) {n q k0 k:Nat} (hq:yrD x.1=fr+q) (hk:yrD x.2.1-yrD x.1=k0) {i m:Nat}:0≤midF fr (R.take j) x q k0 k i m∧midF fr (R.take j) x q k0 k i m≤1000000000000000:=by
 have h1:=cell_bd h fr i (m:Int) j
 have h2:=cell_bd h fr i (m:Int) (j+1)
 have ht:R.take (j+1)=R.take j++[x]:=by rw [List.take_add_one,hx];rfl
 have hp:=h.c x (List.mem_of_getElem? hx)
 rw [ht,cellT_snoc] at h2
 rw [midF]
 have:inT' fr i (m:Int) x=true↔i=q∧k0≤m:=by
  simp only [inT',Bool.and_eq_true,decide_eq_true_eq];omega
 by_cases h3:i=q∧k0≤m∧m<k
 ·rw [if_pos (this.2 ⟨h3.1,h3.2.1⟩)] at h2
  rw [if_pos h3];omega
 ·rw [if_neg h3];omega
def triG (R:List Rw):List (List Int):=gridP (nT R).toNat (nT R).toNat fun i j=>cellT (frF R) R i (j:Int)
end Go.Proofs.YtmccbkekpjgdbaaGreat
end
section
namespace Go.Proofs.YtmccbkekpjgdbaaGreat
open Go.Bx
set_option maxRecDepth 10000
def cI (n:Int):List D:=[.int .i64 n]
def dW (x:Rw):List D:=[.int .i64 x.1,.int .i64 x.2.1,.int .i64 x.2.2]
def slW (R:List Rw):D:=.sl false 3 R.length (fun i=>dW (R.getD i default))
theorem ne_lo {a i:Nat} (h:a<5000):(a=5000+i)=False:=eq_false (by omega)
theorem ne_hi {a i:Nat} (h:a<5000):(5000+i=a)=False:=eq_false (by omega)
theorem sMoneyT (n:Int):Ctr Tryz.prog 57 [.d (.int .i64 n)] [] (.d (.bool (decide (n≥0)&&decide (n≤1000000000000000)))) [] []:=by
 refine qP Tryz.func57 fun c hP hfn=>?_;simp only [vcd,↓vcp,seval]
 exact rr
theorem sCheckT (x:Rw) (h1:1≤x.1∧x.1≤292194) (h2:1≤x.2.1∧x.2.1≤292194) (h3:0≤x.2.2∧x.2.2≤1000000000000000):Ctr Tryz.prog 27 [.ag [.d (.int .i64 x.1),.d (.int .i64 x.2.1),.d (.int .i64 x.2.2)]] [] (.d (.int .i64 (if badR x=true then 4 else 0))) [] []:=by
 have a1:decide (x.1<1)=false:=decide_eq_false (by omega)
 have a2:decide (x.1>292194)=false:=decide_eq_false (by omega)
 have a3:decide (x.2.1<1)=false:=decide_eq_false (by omega)
 have a4:decide (x.2.1>292194)=false:=decide_eq_false (by omega)
 have a5:(decide (x.2.2≥0)&&decide (x.2.2≤1000000000000000))=true:=by rw [Bool.and_eq_true];exact ⟨decide_eq_true h3.1,decide_eq_true h3.2⟩
 cases hb:badR x with
 |true =>
  have a6:decide (x.2.1<x.1)=true:=hb
  refine qP Tryz.func27 fun c hP hfn=>?_;simp only [a1,a2,a3,a4,a5,a6,vcd,↓vcp,seval]
  repeat' first|(refine tq hP (h:=⟨_,fun _=>by exact sMoneyT _,?_⟩);try simp only [a1,a2,a3,a4,a5,a6,vcd,↓vcp,seval])|refine ⟨fun h=>?_,fun h=>?_⟩|refine aX ?_|fail
  all_goals exact rr
 |false =>
  have a6:decide (x.2.1<x.1)=false:=hb
  refine qP Tryz.func27 fun c hP hfn=>?_;simp only [a1,a2,a3,a4,a5,a6,vcd,↓vcp,seval]
  repeat' first|(refine tq hP (h:=⟨_,fun _=>by exact sMoneyT _,?_⟩);try simp only [a1,a2,a3,a4,a5,a6,vcd,↓vcp,seval])|refine ⟨fun h=>?_,fun h=>?_⟩|refine aX ?_|fail
  all_goals exact rr
theorem sYrD (d:Int) (h:1≤d∧d≤292194):Ctr Tryz.prog 28 [.d (.int .i64 d)] [] (.tup [.d (.int .i64 (yrD d)),.d (.int .i64 0)]) [] []:=by
 have:=sYearD d
 have e:yearD d=(yrD d,0):=by rw [yearD,if_pos (isD_iff.2 h)];rfl
 rwa [e] at this
theorem nest0 {n m:Nat} {f:Nat→Nat→Int} {i:Nat} (h:i<m) (hm:m≤n):own? (nestO 0 cI 5000 0 3 1 0 (gridP n m f)) (5000+i)=some (.row 3 1 (n-i) (fun j=>cI (((List.range (n-i)).map (f i)).getD j 0))):=by
 rw [nestO_own,if_pos (by omega),show 5000+i-(5000+0)=i by omega,gridP_get h]
 simp only [row_len];rw [if_pos (by omega)]
theorem nestC0 {n m:Nat} {f:Nat→Nat→Int} {i:Nat} (h:i<m) (hm:m≤n):nth (nestC 0 cI 5000 0 1 0 (gridP n m f)) i=.osl (5000+i):=by
 have:=nestC_nth (dx:=(0:Int)) (cells:=cI) (K:=5000) (τ:=0) (sz:=1) (i:=0) (gridP_get (n:=n) (f:=f) h)
 rw [this,row_len,if_neg (by omega),Nat.zero_add]
theorem nestC_eq {n m:Nat} {f g:Nat→Nat→Int} (hm:m≤n):nestC 0 cI 5000 0 1 0 (gridP n m f)=nestC 0 cI 5000 0 1 0 (gridP n m g):=by
 apply List.ext_getElem?
 intro i
 by_cases h:i<m
 ·rw [nestC_get (gridP_get h),nestC_get (gridP_get h),row_len,row_len,if_neg (by omega),if_neg (by omega)]
 ·rw [List.getElem?_eq_none (by rw [nestC_len,gridP_len];omega),List.getElem?_eq_none (by rw [nestC_len,gridP_len];omega)]
def triO (A:List (Nat×Go.Bx.Own)) (G:List (List Int)):List (Nat×Go.Bx.Own):=(1000,.lit 31 1 G.length (nestC 0 cI 5000 0 1 0 G))::(A++nestO 0 cI 5000 0 3 1 0 G)
def triN (N:List Nat) (n:Nat):List Nat:=N++nmN 5000 n
def triA (fr:Int):List (Nat×Go.Bx.Own):=[(2,.fix [.d (.int .i64 0),.d (.sl true 0 0 fun _=>[])]),(14,.fix [.d (.int .i64 fr),.osl 1000])]
theorem own?_delSet {K τ e sz i:Nat} {G:List (List Int)} {a:Nat} {o:Go.Bx.Own} (k k1:Nat):own? (delO (setO (nestO 0 cI K τ e sz i G) a o) k) k1=if k1=k then none else own? (setO (nestO 0 cI K τ e sz i G) a o) k1:=own?_delO (nodup_setO nestO_nodup) k k1
theorem own?_delSet2 {K τ e sz i:Nat} {G:List (List Int)} {a a2:Nat} {o o2:Go.Bx.Own} (k k1:Nat):own? (delO (setO (setO (nestO 0 cI K τ e sz i G) a o) a2 o2) k) k1=if k1=k then none else own? (setO (setO (nestO 0 cI K τ e sz i G) a o) a2 o2) k1:=own?_delO (nodup_setO (nodup_setO nestO_nodup)) k k1
theorem Wk.nest1 {X:Type} {dx:X} {cells:X→List D} {c:Ctx} {st:St} (fn:List Nat) (hfn:c.fn=fn) (h0:(0:Nat)∉fn) {env:List (Nat×V)} {s q:Nat} {A:List (Nat×Go.Bx.Own)} {N:List Nat} {K' K τ e' e sz:Nat} {G:List (List X)} (hq:q<G.length)
  (hB:wkB fn ⟨env,(K',.lit e' 1 0 [])::A,N⟩=true) (hN:N.all (fun k=>decide (k<K))=true) (he:EnvLe (renE (Go.Bx.sw 0 0) st.env) ((s,.osl (K+q))::env)) (hA:OwnLeS (Go.Bx.sw 0 0) st.own A)
  (hl:∃ o',own? st.own (Go.Bx.sw 0 0 K')=some o'∧OLe (o'.ren (Go.Bx.sw 0 0)) (.lit e' 1 G.length (nestC dx cells K τ sz 0 G)))
  (hi:∀ i g,G[i]?=some g→τ<g.length→∃ o',own? st.own (Go.Bx.sw 0 0 (K+i))=some o'∧OLe (o'.ren (Go.Bx.sw 0 0)) (.row e sz g.length (fun j=>cells (g.getD j dx)))) :
  Wk c st ⟨(s,.osl (K+q))::env,(K',.lit e' 1 G.length (nestC dx cells K τ sz 0 G))::(A++nestO dx cells K τ e sz 0 G),N++nmN K G.length⟩:=by
 simp only [wkB,Bool.and_eq_true,List.all_eq_true,List.contains_iff_mem] at hB
 obtain ⟨h1,h2,h3,h4⟩:=hB
 have h2:=nodupB_ok h2
 simp only [keysO,List.map_cons,List.nodup_cons] at h2
 have hlt:∀ k,k∈N→k<K:=fun k hk=>by simpa using List.all_eq_true.1 hN k hk
 have hKN:K'∈N:=h4 _ (oNames_in (List.mem_cons_self)).1
 have hAN:∀ k,k∈keysO A→k∈N:=fun k hk=>by
  obtain ⟨o,ho⟩:=keys_mem hk
  exact h4 _ (oNames_in (List.mem_cons_of_mem _ ho)).1
 have hnest:∀ k,k∈keysO (nestO dx cells K τ e sz 0 G)→K≤k∧k<K+G.length:=fun k hk=>by
  have:=nestO_key hk;omega
 refine Wk.rn 0 0 fn hfn h0 h0 he (fun k o hm=>?_) ?_ (fun k hk=>?_) (fun k hk=>List.mem_append_left _ (h1 k hk)) (fun s' v hm k hk=>?_) (fun k o hm j hj=>?_)
 ·rcases List.mem_cons.1 hm with hm|hm
  ·simp only [Prod.mk.injEq] at hm
   obtain ⟨rfl,rfl⟩:=hm
   exact hl
  ·rcases List.mem_append.1 hm with hm|hm
   ·exact hA.get k o hm
   ·obtain ⟨j,g,g1,g2,rfl,rfl⟩:=nestO_mem hm
    rw [Nat.zero_add]
    exact hi j g g1 g2
 ·simp only [keysO,List.map_cons,List.map_append,List.nodup_cons,List.mem_append,not_or]
  refine ⟨⟨h2.1,fun hk=>?_⟩,List.nodup_append.2 ⟨h2.2,nestO_nodup,fun a ha b hb hab=>?_⟩⟩
  ·have:=hlt _ hKN
   have:=hnest _ hk
   omega
  ·have:=hlt _ (hAN a ha)
   have:=hnest b hb
   omega
 ·simp only [keysO,List.map_cons,List.map_append,List.mem_cons,List.mem_append] at hk
  rcases hk with rfl|hk|hk
  ·exact List.mem_append_left _ hKN
  ·exact List.mem_append_left _ (hAN k hk)
  ·exact List.mem_append_right _ (mem_nmN.2 (hnest k hk))
 ·rcases List.mem_cons.1 hm with hm|hm
  ·cases hm
   simp only [V.names,List.mem_singleton] at hk
   subst hk
   exact List.mem_append_right _ (mem_nmN.2 (by omega))
  ·exact List.mem_append_left _ (h3 k (envNames_in hm k hk))
 ·rcases List.mem_cons.1 hm with hm|hm
  ·simp only [Prod.mk.injEq] at hm
   obtain ⟨rfl,rfl⟩:=hm
   have:=nestC_names hj
   exact List.mem_append_right _ (mem_nmN.2 (by omega))
  ·rcases List.mem_append.1 hm with hm|hm
   ·exact List.mem_append_left _ (h4 _ ((oNames_in (List.mem_cons_of_mem _ hm)).2 j hj))
   ·obtain ⟨j',g,g1,g2,rfl,rfl⟩:=nestO_mem hm
    simp at hj
theorem Wk.tri {c:Ctx} {st:St} {fr:Int} {env:List (Nat×V)} {n m:Nat} {f:Nat→Nat→Int} (hm:m≤n) (x y:Nat) (hfn:c.fn=[]) (hex:wkB [] ⟨env,(1000,.lit 31 1 0 [])::triA fr,[1000,2,14]⟩=true) (he:EnvLe (renE (Go.Bx.sw x y) st.env) env)
  (hA:OwnLeS (Go.Bx.sw x y) st.own (triA fr)) (hl:∃ o',own? st.own (Go.Bx.sw x y 1000)=some o'∧OLe (o'.ren (Go.Bx.sw x y)) (.lit 31 1 (gridP n m f).length (nestC 0 cI 5000 0 1 0 (gridP n m f))))
  (hi:∀ i,i<m→∃ o',own? st.own (Go.Bx.sw x y (5000+i))=some o'∧OLe (o'.ren (Go.Bx.sw x y)) (.row 3 1 (n-i) (fun j=>cI (((List.range (n-i)).map (f i)).getD j 0)))) :
  Wk c st ⟨env,triO (triA fr) (gridP n m f),triN [1000,2,14] (gridP n m f).length⟩:=
 Wk.nest (dx:=0) (cells:=cI) (K:=5000) (K':=1000) (τ:=0) (e':=31) (e:=3) (sz:=1) (G:=gridP n m f) x y [] hfn (by simp) (by simp) (env:=env) (A:=triA fr) (N:=[1000,2,14]) hex rfl he hA hl
  (fun i g h1 _=>by obtain ⟨h3,rfl⟩:=gridP_row h1;rw [row_len];exact hi i h3)
theorem Wk.tri1 {c:Ctx} {st:St} {fr:Int} {env:List (Nat×V)} {n m s q:Nat} {f:Nat→Nat→Int} (hq:q<m) (hfn:c.fn=[]) {A2:List (Nat×Go.Bx.Own)} (hA2:wkB [] ⟨env,(1000,.lit 31 1 0 [])::(triA fr++A2),[1000,2,14,17]⟩=true) (he:EnvLe (renE (Go.Bx.sw 0 0) st.env) ((s,.osl (5000+q))::env))
  (hA:OwnLeS (Go.Bx.sw 0 0) st.own (triA fr++A2)) (hl:∃ o',own? st.own (Go.Bx.sw 0 0 1000)=some o'∧OLe (o'.ren (Go.Bx.sw 0 0)) (.lit 31 1 (gridP n m f).length (nestC 0 cI 5000 0 1 0 (gridP n m f))))
  (hi:∀ i,i<m→∃ o',own? st.own (Go.Bx.sw 0 0 (5000+i))=some o'∧OLe (o'.ren (Go.Bx.sw 0 0)) (.row 3 1 (n-i) (fun j=>cI (((List.range (n-i)).map (f i)).getD j 0)))) :
  Wk c st ⟨(s,.osl (5000+q))::env,triO (triA fr++A2) (gridP n m f),triN [1000,2,14,17] (gridP n m f).length⟩:=
 Wk.nest1 (dx:=0) (cells:=cI) (K:=5000) (K':=1000) (τ:=0) (e':=31) (e:=3) (sz:=1) (G:=gridP n m f) [] hfn (by simp) (by rw [gridP_len];exact hq) (A:=triA fr++A2) (N:=[1000,2,14,17]) hA2 rfl he hA hl
  (fun i g h1 _=>by obtain ⟨h3,rfl⟩:=gridP_row h1;rw [row_len];exact hi i h3)
theorem nest_ren2 {a b:Nat}:∀ {i:Nat} {G:List (List Int)},a<5000→5000+i+G.length≤b→renL (Go.Bx.sw a b) (nestC 0 cI 5000 0 1 i G)=nestC 0 cI 5000 0 1 i G
 |i,[],_,_=>rfl
 |i,g::G,ha,hb=>by
  rw [List.length_cons] at hb
  simp only [nestC,renL]
  rw [nest_ren2 ha (by omega)]
  congr 1
  split
  ·rfl
  ·simp only [V.ren,Go.Bx.sw]
   rw [if_neg (by omega),if_neg (by omega)]
theorem Wk.tri2 {c:Ctx} {st:St} {fr:Int} {env:List (Nat×V)} {n i:Nat} {f:Nat→Nat→Int} {F:Nat→List D} (hi:i<n) (hfn:c.fn=[]) (hex:wkB [] ⟨env,(1000,.lit 31 1 0 [])::triA fr,[1000,2,14]⟩=true) (he:EnvLe (renE (Go.Bx.sw 84 1000) (renE (Go.Bx.sw 82 (5000+i)) st.env)) env)
  (h2:own? st.own 2=some (.fix [.d (.int .i64 0),.d (.sl true 0 0 fun _=>[])])) (h14:own? st.own 14=some (.fix [.d (.int .i64 fr),.osl 84]))
  (h84:own? st.own 84=some (.lit 31 1 (i+1) (nestC 0 cI 5000 0 1 0 (gridP n i f)++[.osl 82]))) (h82:own? st.own 82=some (.row 3 1 (n-i) F)) (hF:∀ j,j<n-i→F j=cI (f i j))
  (hr:∀ j,j<i→own? st.own (5000+j)=some (.row 3 1 (n-j) (fun q=>cI (((List.range (n-j)).map (f j)).getD q 0)))) :
  Wk c st ⟨env,triO (triA fr) (gridP n (i+1) f),triN [1000,2,14] (gridP n (i+1) f).length⟩:=by
 have s1:∀ k,k<5000→k≠82→Go.Bx.sw 82 (5000+i) k=k:=fun k h1 h2=>by unfold Go.Bx.sw;rw [if_neg h2,if_neg (by omega)]
 have s2:∀ k,k≠84→k≠1000→Go.Bx.sw 84 1000 k=k:=fun k h1 h2=>by unfold Go.Bx.sw;rw [if_neg h1,if_neg h2]
 have s3:Go.Bx.sw 84 1000 1000=84:=rfl
 have s4:Go.Bx.sw 82 (5000+i) (5000+i)=82:=by unfold Go.Bx.sw;rw [if_neg (by omega),if_pos rfl]
 have s5:Go.Bx.sw 82 (5000+i) 82=5000+i:=by unfold Go.Bx.sw;rw [if_pos rfl]
 refine (Wk.sw 82 (5000+i) [] hfn (by simp) (by simp)).trans (Wk.tri (by omega) 84 1000 hfn hex he ⟨⟨_,by rw [own?_renO,s2 2 (by decide) (by decide),s1 2 (by decide) (by decide),h2];rfl,?_⟩,⟨_,by rw [own?_renO,s2 14 (by decide) (by decide),s1 14 (by decide) (by decide),h14];rfl,?_⟩,trivial⟩ ⟨_,by rw [own?_renO,s3,s1 84 (by decide) (by decide),h84];rfl,?_⟩ fun j hj=>?_)
 ·exact OLe.refl _
 ·simp only [Own.ren,renL,V.ren,s1 84 (by decide) (by decide)]
  exact OLe.refl _
 ·have hp:=nest_ren (dx:=(0:Int)) (cells:=cI) (K:=5000) (τ:=0) (sz:=1) (a:=84) (b:=1000) (i:=0) (G:=gridP n i f) (by decide) (by decide)
  have hp2:renL (Go.Bx.sw 82 (5000+i)) (nestC 0 cI 5000 0 1 0 (gridP n i f))=nestC 0 cI 5000 0 1 0 (gridP n i f):=by
   exact nest_ren2 (by decide) (by rw [gridP_len];omega)
  have e:nestC 0 cI 5000 0 1 0 (gridP n (i+1) f)=nestC 0 cI 5000 0 1 0 (gridP n i f)++[.osl (5000+i)]:=by
   rw [gridP_succ,nestC_app,gridP_len]
   simp only [nestC,row_len]
   rw [if_neg (by omega),Nat.zero_add]
  have happ:∀ (p:Nat→Nat) (a b:List V),renL p (a++b)=renL p a++renL p b:=fun p a b=>by rw [renL_eq,renL_eq,renL_eq,List.map_append]
  simp only [Own.ren,happ,hp2,hp,renL,V.ren,s5,s2 (5000+i) (by omega) (by omega),e,gridP_len]
  exact OLe.refl _
 ·have h6:Go.Bx.sw 84 1000 (5000+j)=5000+j:=s2 _ (by omega) (by omega)
  by_cases hji:j=i
  ·subst hji
   refine ⟨_,by rw [own?_renO,h6,s4,h82];rfl,?_⟩
   exact OLe.row rfl fun q hq=>by rw [hF q hq,row_get hq]
  ·refine ⟨_,by rw [own?_renO,h6,show Go.Bx.sw 82 (5000+i) (5000+j)=5000+j by unfold Go.Bx.sw;rw [if_neg (by omega),if_neg (by omega)],hr j (by omega)];rfl,OLe.refl _⟩
theorem own9 (N M:Nat):ownOk [⟨[],[]⟩,⟨[],[]⟩,⟨[N],[]⟩,⟨[N],[]⟩,⟨[],[]⟩,⟨[M],[]⟩,⟨[],[]⟩,⟨[N],[]⟩,⟨[N],[N]⟩] [0,0,3,7,0,16,63,127,255]=true:=by
 have h:∀ i,i<8→inAnc [0,0,3,7,0,16,63,127,255] 8 i=true:=by decide
 rw [ownOk,List.all_eq_true]
 intro j hj
 rw [List.all_eq_true]
 intro i hi
 rw [List.mem_range] at hj hi
 simp only [List.length_cons,List.length_nil] at hj
 by_cases e:j=8
 ·subst e
  rw [h i hi]
  have:i=0∨i=1∨i=2∨i=3∨i=4∨i=5∨i=6∨i=7:=by omega
  rcases this with rfl|rfl|rfl|rfl|rfl|rfl|rfl|rfl<;>exact Bool.or_true _
 ·have:j=0∨j=1∨j=2∨j=3∨j=4∨j=5∨j=6∨j=7:=by omega
  rcases this with rfl|rfl|rfl|rfl|rfl|rfl|rfl|rfl
  all_goals
   have:i=0∨i=1∨i=2∨i=3∨i=4∨i=5∨i=6:=by omega
   rcases this with rfl|rfl|rfl|rfl|rfl|rfl|rfl<;>first|rfl|omega
theorem lit0 {e n:Nat} {f g:Nat→Nat→Int}:OLe ((Go.Bx.Own.lit e 1 n (nestC 0 cI 5000 0 1 0 (gridP n n f))).ren (Go.Bx.sw 0 0)) (.lit e 1 (gridP n n g).length (nestC 0 cI 5000 0 1 0 (gridP n n g))):=by
 simp only [Own.ren,nest_ren (show 0<5000 by decide) (show 0<5000 by decide),gridP_len]
 rw [nestC_eq (f:=f) (g:=g) (Nat.le_refl _)];exact OLe.refl _
theorem row0E {e n a:Nat} {f g:Nat→Nat→Int} (h:∀ q,q<n-a→f a q=g a q):OLe ((Go.Bx.Own.row e 1 (n-a) (fun j=>cI (((List.range (n-a)).map (f a)).getD j 0))).ren (Go.Bx.sw 0 0)) (.row e 1 (n-a) (fun j=>cI (((List.range (n-a)).map (g a)).getD j 0))):=
 OLe.row rfl fun q hq=>by rw [row_get hq,row_get hq,h q hq]
def triV (R:List Rw):V:=if triE R=0 then .tup [.ag [.d (.int .i64 (frF R)),.d (.sl false 1 (nT R).toNat (nestD 0 cI 1 (triG R)))],.d (.int .i64 0)] else .tup [.ag [.d (.int .i64 0),.d (slK .i64 [])],.d (.int .i64 (triE R))]
theorem triV_names (R:List Rw):(triV R).names=[]:=by unfold triV;split<;>rfl
set_option maxHeartbeats 4000000 in
theorem sTriOf (R:List Rw) (h:RwOk R):Ctr Tryz.prog 8 [.d (slW R)] [] (triV R) [] []:=by
 have hn:=h.n
 by_cases h0:R=[]
 ·have e:triE R=7:=if_pos h0
  rw [triV,if_neg (by rw [e];decide),e]
  subst h0
  have d0:(((0:Nat):Int) == 0)=true:=rfl
  refine qP Tryz.func8 fun c hP hfn=>?_;simp only [slW,List.length_nil,d0,vcd,↓vcp,seval]
  repeat' first|refine ⟨fun h=>?_,fun h=>?_⟩|refine aX ?_|fail
  all_goals
   refine RetK.pure (by simp only [rs8,rsb,vcd,↓vcp,seval]) ?_
   simp only [rs8,rsb,vcd,↓vcp,seval]
   exact VLe.tups ⟨VLe.ags ⟨VLe.refl _,vle_nil,trivial⟩,VLe.refl _,trivial⟩
 have hlen:0<R.length:=by cases R with|nil=>exact absurd rfl h0|cons x R=>simp
 have d0:((R.length:Int) == 0)=false:=by rw [beq_eq_false_iff_ne];omega
 refine ctr_pure Tryz.func8 ok8 rfl cc8 cr8 Tryz.ntmps8 (by simp) rfl (triV_names R) ?_
 intro c hP hfn
 simp only [kc8,slW,dW,d0,vcd,↓vcp,seval]
 repeat' first|refine ⟨fun h=>?_,fun h=>?_⟩|refine aX ?_|fail
 refine vcC.loop (X:=Nat) (fun k=>⟨[(0,.d (slW R)),(2,.own 2 0),(4,.d (.int .i64 (frF (R.take k)))),(5,.d (.int .i64 (toF (R.take k)))),(28,.d (slW R)),(29,.d (.int .i64 R.length)),(30,.d (.int .i64 (k:Nat)))],[(2,.fix [.d (.int .i64 0),.d (.sl true 0 0 fun _=>[])])],[2]⟩)
  (fun k=>k≤R.length∧∀ x,x∈R.take k→badR x=false) (fun k=>R.length-k) 0 ⟨Nat.zero_le _,fun x hx=>by simp at hx⟩ (Wk.of _ hfn rfl (by simp only [slW,dW,frF,toF,List.take_zero,List.foldl_nil,enb,vcd,↓vcp,seval]) (by simp only [enb,vcd,↓vcp,seval])) ?_
 rintro k ⟨hk,hbad⟩
 by_cases hlt:k<R.length
 ·obtain ⟨x,-,hg,hm,hat⟩:=drop_at hlt
  have hg:=hg default
  have d1:decide ((k:Int)<(R.length:Int))=true:=decide_eq_true (by omega)
  have w1:IntKind.i64.wrap ((k:Int)+1)=((k+1:Nat):Int):=wS (by omega)
  have hs:=(sum_filt h.c fun y=>decide (y=x))
  have hx3:0≤x.2.2∧x.2.2≤1000000000000000:=by
   have h1:=h.c x hm
   have h2:=h.s
   have h3:x.2.2≤(R.map (·.2.2)).sum:=by
    obtain ⟨A,B,rfl⟩:=List.append_of_mem hm
    have a1:=(sum_filt (R:=A) (fun p hp=>h.c p (by simp [hp])) fun _=>true).1
    have a2:=(sum_filt (R:=B) (fun p hp=>h.c p (by simp [hp])) fun _=>true).1
    rw [List.filter_eq_self.2 fun _ _=>rfl] at a1 a2
    rw [List.map_append,List.sum_append,List.map_cons,List.sum_cons];omega
   omega
  clear hs
  have ck:=sCheckT x (h.a x hm) (h.b x hm) hx3
  have cy1:=sYrD x.1 (h.a x hm)
  have cy2:=sYrD x.2.1 (h.b x hm)
  cases hb:badR x with
  |true =>
   have e:triE R=4:=by rw [triE,if_neg h0,if_pos (List.any_eq_true.2 ⟨x,hm,hb⟩)]
   rw [triV,if_neg (by rw [e];decide),e]
   have n4:((4:Int) != 0)=true:=rfl
   rw [hb,if_pos rfl] at ck
   simp only [slW,dW,hg,d1,w1,n4,vcd,↓vcp,seval]
   repeat' first|(refine tq hP (h:=⟨_,fun _=>by exact ck,?_⟩);try simp only [hg,w1,n4,vcd,↓vcp,seval])|refine ⟨fun h=>?_,fun h=>?_⟩|refine aX ?_|fail
   all_goals
    refine RetK.pure (by simp only [rs8,rsb,vcd,↓vcp,seval]) ?_
    simp only [rs8,rsb,vcd,↓vcp,seval]
    exact VLe.tups ⟨VLe.ags ⟨VLe.refl _,vle_nil,trivial⟩,VLe.refl _,trivial⟩
  |false =>
   have n4:((0:Int) != 0)=false:=rfl
   rw [hb,if_neg (by simp)] at ck
   have ht:R.take (k+1)=R.take k++[x]:=by rw [List.take_add_one,hat];rfl
   have e1:frF (R.take (k+1))=min (frF (R.take k)) (yrD x.1):=by rw [ht,frF_snoc]
   have e2:toF (R.take (k+1))=max (toF (R.take k)) (yrD x.2.1):=by rw [ht,toF_snoc]
   simp only [slW,dW,hg,d1,w1,n4,vcd,↓vcp,seval]
   repeat' first|(refine tq hP (h:=⟨_,fun _=>by first|exact ck|exact cy1|exact cy2,?_⟩);try simp only [hg,w1,n4,vcd,↓vcp,seval])|refine ⟨fun h=>?_,fun h=>?_⟩|refine aX ?_|fail
   refine lopK.on (k+1) ⟨hlt,fun y hy=>?_⟩ (by omega) (Wk.of _ hfn rfl (by simp only [slW,dW,e1,e2,w1,enb,vcd,↓vcp,seval]) (by simp only [enb,vcd,↓vcp,seval]))
   rw [ht] at hy
   rcases List.mem_append.1 hy with hy|hy
   ·exact hbad y hy
   ·rw [List.mem_singleton.1 hy];exact hb
 ·have hk2:k=R.length:=by omega
  have d1:decide ((k:Int)<(R.length:Int))=false:=decide_eq_false (by omega)
  rw [hk2,List.take_length] at hbad
  have hany:R.any badR=false:=List.any_eq_false.2 fun x hx=>by rw [hbad x hx];simp
  rw [hk2,List.take_length]
  rw [hk2] at d1
  obtain ⟨x0,hx0⟩:∃ x,x∈R:=by
   cases R with
   |nil=>exact absurd rfl h0
   |cons x R=>exact ⟨x,by simp⟩
  obtain ⟨f1,f2,f3⟩:=frF_le R 2401
  obtain ⟨t1,t2,t3⟩:=toF_le R 0
  have hfr:R.foldl (fun a x=>min a (yrD x.1)) 2401=frF R:=rfl
  have hto:R.foldl (fun a x=>max a (yrD x.2.1)) 0=toF R:=rfl
  rw [hfr] at f1 f2 f3
  rw [hto] at t1 t2 t3
  have hb1:1601≤frF R:=by
   rcases f3 with e|⟨x,hx,e⟩
   ·omega
   ·have:=yr_bd (h.a x hx);omega
  have hb2:toF R≤2400:=by
   rcases t3 with e|⟨x,hx,e⟩
   ·omega
   ·have:=yr_bd (h.b x hx);omega
  have hnb:∀ x,x∈R→x.1≤x.2.1:=fun x hx=>by
   have:=hbad x hx
   simp only [badR,decide_eq_false_iff_not] at this;omega
  have hle:=f2 x0 hx0
  have hle2:=t2 x0 hx0
  have hle3:=yr_mono (h.a x0 hx0).1 (hnb x0 hx0) (h.b x0 hx0).2
  obtain ⟨m,hm⟩:∃ m:Nat,nT R=m:=⟨(nT R).toNat,by unfold nT;omega⟩
  have hmd:toF R-frF R+1=(m:Int):=hm
  have hm1:1≤m∧m≤800:=by omega
  have w2:IntKind.i64.wrap (IntKind.i64.wrap (toF R-frF R)+1)=(m:Int):=by rw [wI (a:=toF R-frF R) (by omega),wI (by omega)];exact hmd
  have d2:decide ((R.length:Int)>2000)=false:=decide_eq_false (by omega)
  by_cases hm20:m>20
  ·have d3:decide ((m:Int)>20)=true:=decide_eq_true (by omega)
   have e:triE R=2:=by rw [triE,if_neg h0,if_neg (by rw [hany];simp),if_pos (by omega)]
   rw [triV,if_neg (by rw [e];decide),e]
   simp only [slW,dW,d1,d2,w2,d3,vcd,↓vcp,seval]
   repeat' first|refine ⟨fun h=>?_,fun h=>?_⟩|refine aX ?_|fail
   all_goals
    refine RetK.pure (by simp only [rs8,rsb,vcd,↓vcp,seval]) ?_
    simp only [rs8,rsb,vcd,↓vcp,seval]
    exact VLe.tups ⟨VLe.ags ⟨VLe.refl _,vle_nil,trivial⟩,VLe.refl _,trivial⟩
  ·have d3:decide ((m:Int)>20)=false:=decide_eq_false (by omega)
   have e:triE R=0:=by rw [triE,if_neg h0,if_neg (by rw [hany];simp),if_neg (by omega)]
   rw [triV,if_pos e]
   clear f3 t3 hle3 hle hle2 hfr hto hk2 hlt hk hbad d0
   have hg0:triG R=gridP m m fun i j=>cellT (frF R) R i (j:Int):=by rw [triG,hm,Int.toNat_natCast]
   rw [hg0,hm,Int.toNat_natCast]
   obtain ⟨fr,hfr⟩:∃ fr,fr=frF R:=⟨_,rfl⟩
   rw [←hfr] at f1 f2 hb1 w2 hmd ⊢
   simp only [slW,dW,d1,d2,w2,d3,←hfr,vcd,↓vcp,seval]
   repeat' first|refine ⟨fun h=>?_,fun h=>?_⟩|refine aX ?_|fail
   refine vcC.loop (X:=Nat) (fun i=>⟨[(14,.own 14 0),(0,.d (slW R)),(2,.own 2 0),(4,.d (.int .i64 fr)),(13,.d (.int .i64 m)),(73,.d (.int .i64 m)),(74,.d (.int .i64 (i:Nat)))],triO (triA fr) (gridP m i fun _ _=>0),triN [1000,2,14] (gridP m i fun _ _=>0).length⟩)
    (fun i=>i≤m) (fun i=>m-i) 0 (Nat.zero_le _) ((Wk.row0F 14 1 1000 31 1 (fun _=>[]) rfl rfl (by simp)).trans (Wk.of (b:=⟨[(14,.own 14 0),(0,.d (slW R)),(2,.own 2 0),(4,.d (.int .i64 fr)),(13,.d (.int .i64 m)),(73,.d (.int .i64 m)),(74,.d (.int .i64 (0:Nat)))],triO (triA fr) (gridP m 0 fun _ _=>0),triN [1000,2,14] (gridP m 0 fun _ _=>0).length⟩) _ hfn rfl (by simp only [slW,dW,enb,vcd,↓vcp,seval]) (by simp only [triO,triA,gridP,List.range_zero,List.map_nil,nestC,nestO,List.length_nil,enb,vcd,↓vcp,seval];exact OLe.rowLit rfl))) ?_
   intro i hi
   have hgl:=gridP_len m i fun _ _=>(0:Int)
   by_cases hit:i<m
   ·have d4:decide ((i:Int)<(m:Int))=true:=decide_eq_true (by omega)
    have w3:IntKind.i64.wrap ((i:Int)+1)=((i+1:Nat):Int):=wS (by omega)
    have w4:IntKind.i64.wrap ((m:Int)-(i:Int))=((m-i:Nat):Int):=(wI (by omega)).trans (by omega)
    have hroom:(m-i)*8≤140737488355328∧m-i≤maxLen∧(i+1)*24≤140737488355328∧i+1≤maxLen:=⟨by omega,by simp only [maxLen];omega,by omega,by simp only [maxLen];omega⟩
    have hn0:=fun j (hj:j<i)=>nest0 (n:=m) (m:=i) (f:=fun _ _=>0) hj (by omega)
    simp only [triO,triA,triN,slW,dW,d4,w3,w4,hgl,own?_setO,own?_nestD,mem_nmN,ne_lo,ne_hi,vcd,↓vcp,seval]
    repeat' first|refine ⟨fun h=>?_,fun h=>?_⟩|refine aX ?_|fail
    refine ⟨⟨⟨rfl,trivial⟩,hroom.2.2.1,hroom.2.2.2⟩,rfl,?_⟩
    refine lopK.on (i+1) hit (by omega) (Wk.tri2 (n:=m) (f:=fun _ _=>0) (F:=fun _=>[.int .i64 0]) hit hfn rfl ?_ ?_ ?_ ?_ ?_ (fun j hj=>rfl) (fun j hj=>?_))
    ·simp only [slW,dW,w3,ne_lo,ne_hi,enb,vcd,↓vcp,seval]
    ·simp only [own?_setO,own?_nestD,own?_delSet,own?_delSet2,ne_lo,ne_hi,enb,vcd,↓vcp,seval]
    ·simp only [own?_setO,own?_nestD,own?_delSet,own?_delSet2,ne_lo,ne_hi,enb,vcd,↓vcp,seval]
    ·simp only [own?_setO,own?_nestD,own?_delSet,own?_delSet2,ne_lo,ne_hi,hgl,enb,vcd,↓vcp,seval]
    ·simp only [own?_setO,own?_nestD,own?_delSet,own?_delSet2,ne_lo,ne_hi,enb,vcd,↓vcp,seval]
    ·simp only [own?_setO,own?_nestD,own?_delSet,own?_delSet2,ne_lo,ne_hi,hn0 j hj,enb,vcd,↓vcp,seval]
   ·have hk2:i=m:=by omega
    subst hk2
    have d4:decide ((i:Int)<(i:Int))=false:=decide_eq_false (by omega)
    have hn0:=fun j (hj:j<i)=>nest0 (n:=i) (m:=i) (f:=fun _ _=>0) hj (Nat.le_refl _)
    simp only [triO,triA,triN,slW,dW,d4,hgl,own?_setO,own?_nestD,mem_nmN,ne_lo,ne_hi,vcd,↓vcp,seval]
    repeat' first|refine ⟨fun h=>?_,fun h=>?_⟩|refine aX ?_|fail
    refine vcC.loop (X:=Nat) (fun j=>⟨[(14,.own 14 0),(2,.own 2 0),(4,.d (.int .i64 fr)),(87,.d (slW R)),(88,.d (.int .i64 R.length)),(89,.d (.int .i64 (j:Nat)))],triO (triA fr) (gridP i i fun a b=>cellT fr (R.take j) a (b:Int)),triN [1000,2,14] (gridP i i fun a b=>cellT fr (R.take j) a (b:Int)).length⟩)
     (fun j=>j≤R.length) (fun j=>R.length-j) 0 (Nat.zero_le _) (Wk.tri (Nat.le_refl _) 0 0 hfn rfl (by simp only [slW,dW,enb,vcd,↓vcp,seval]) (by simp only [OwnLeS,triA,enb,vcd,↓vcp,seval]) ⟨_,by simp only [hgl,enb,vcd,↓vcp,seval];rfl,?_⟩ (fun a ha=>⟨_,by simp only [hn0 a ha,ne_lo,ne_hi,enb,vcd,↓vcp,seval];rfl,?_⟩)) ?_
    ·exact lit0
    ·exact row0E (f:=fun _ _=>0) (g:=fun a b=>cellT fr (R.take 0) a (b:Int)) fun q _=>rfl
    ·intro j hj
     have hgl:=gridP_len i i fun a b=>cellT fr (R.take j) a (b:Int)
     have hnj:=fun a (ha:a<i)=>nest0 (n:=i) (m:=i) (f:=fun a b=>cellT fr (R.take j) a (b:Int)) ha (Nat.le_refl _)
     by_cases hjt:j<R.length
     ·obtain ⟨x,-,hg,hxm,hat⟩:=drop_at hjt
      have hg:=hg default
      have d5:decide ((j:Int)<(R.length:Int))=true:=decide_eq_true (by omega)
      have w3:IntKind.i64.wrap ((j:Int)+1)=((j+1:Nat):Int):=wS (by omega)
      have cy1:=sYrD x.1 (h.a x hxm)
      have cy2:=sYrD x.2.1 (h.b x hxm)
      have v1:=f2 x hxm
      have v2:=t2 x hxm
      have v3:=yr_mono (h.a x hxm).1 (hnb x hxm) (h.b x hxm).2
      have v4:=yr_bd (h.a x hxm)
      have v5:=yr_bd (h.b x hxm)
      obtain ⟨q,hq⟩:∃ q:Nat,yrD x.1-fr=q:=⟨(yrD x.1-fr).toNat,by omega⟩
      obtain ⟨k0,hk0⟩:∃ k0:Nat,yrD x.2.1-yrD x.1=k0:=⟨(yrD x.2.1-yrD x.1).toNat,by omega⟩
      have hqm:q<i∧k0<i-q:=by omega
      have w5:IntKind.i64.wrap (yrD x.1-fr)=(q:Int):=(wI (by omega)).trans hq
      have w6:IntKind.i64.wrap (yrD x.2.1-yrD x.1)=(k0:Int):=(wI (by omega)).trans hk0
      have hC:=nestC0 (n:=i) (m:=i) (f:=fun a b=>cellT fr (R.take j) a (b:Int)) hqm.1 (Nat.le_refl _)
      have bq:(0:Int)≤(q:Int)∧(q:Int)<(i:Int):=by omega
      simp only [triO,triA,triN,slW,dW,d5,w3,w5,w6,hg,hC,hgl,own?_setO,own?_nestD,mem_nmN,ne_lo,ne_hi,vcd,↓vcp,seval]
      repeat' first|(refine tq hP (h:=⟨_,fun _=>by first|exact cy1|exact cy2,?_⟩);try simp only [d5,w3,w5,w6,hg,hC,hgl,own?_setO,own?_nestD,mem_nmN,ne_lo,ne_hi,vcd,↓vcp,seval])|refine ⟨fun h=>?_,fun h=>?_⟩|refine aX ?_|fail
      refine vcC.loop (X:=Nat) (fun k=>⟨[(22,.osl (5000+q)),(14,.own 14 0),(17,.own 17 0),(2,.own 2 0),(4,.d (.int .i64 fr)),(23,.d (.int .i64 (k:Nat))),(87,.d (slW R)),(88,.d (.int .i64 R.length)),(89,.d (.int .i64 (j:Nat)))],triO (triA fr++[(17,.fix [.d (.int .i64 x.1),.d (.int .i64 x.2.1),.d (.int .i64 x.2.2)])]) (gridP i i (midF fr (R.take j) x q k0 k)),triN [1000,2,14,17] (gridP i i (midF fr (R.take j) x q k0 k)).length⟩)
       (fun k=>k0≤k∧k≤i-q) (fun k=>i-q-k) k0 ⟨Nat.le_refl _,by omega⟩ (Wk.tri1 hqm.1 hfn rfl (by simp only [slW,dW,ne_lo,ne_hi,enb,vcd,↓vcp,seval]) (by simp only [OwnLeS,triA,List.cons_append,List.nil_append,own?_setO,own?_nestD,ne_lo,ne_hi,enb,vcd,↓vcp,seval]) ⟨_,by simp only [hgl,own?_setO,own?_nestD,ne_lo,ne_hi,enb,vcd,↓vcp,seval];rfl,?_⟩ (fun a ha=>⟨_,by simp only [hnj a ha,own?_setO,own?_nestD,ne_lo,ne_hi,enb,vcd,↓vcp,seval];rfl,?_⟩)) ?_
      ·exact lit0
      ·exact row0E (f:=fun a b=>cellT fr (R.take j) a (b:Int)) (g:=midF fr (R.take j) x q k0 k0) fun q' _=>(midF_0 _ _ _ _ _ _ _).symm
      rintro k ⟨hk1,hk2⟩
      have hgk:=gridP_len i i (midF fr (R.take j) x q k0 k)
      have hnk:=fun a (ha:a<i)=>nest0 (n:=i) (m:=i) (f:=midF fr (R.take j) x q k0 k) ha (Nat.le_refl _)
      have hrow:=hnk q hqm.1
      by_cases hkt:k<i-q
      ·have d6:decide ((k:Int)<((i-q:Nat):Int))=true:=decide_eq_true (by omega)
       have w7:IntKind.i64.wrap ((k:Int)+1)=((k+1:Nat):Int):=wS (by omega)
       have hget:((List.range (i-q)).map (midF fr (R.take j) x q k0 k q)).getD k 0=midF fr (R.take j) x q k0 k q k:=row_get hkt 0
       have hbd:=midF_bd h hat (fr:=fr) (q:=q) (k0:=k0) (n:=i) (k:=k) (i:=q) (m:=k) (by omega) hk0
       have hbd2:=midF_bd h hat (fr:=fr) (q:=q) (k0:=k0) (n:=i) (k:=k+1) (i:=q) (m:=k) (by omega) hk0
       have heq:=midF_eq (fr:=fr) (A:=R.take j) (x:=x) (q:=q) hk1
       obtain ⟨V0,hV⟩:∃ V0,V0=midF fr (R.take j) x q k0 k q k:=⟨_,rfl⟩
       rw [←hV] at hget hbd heq
       have w8:IntKind.i64.wrap (V0+x.2.2)=V0+x.2.2:=wI (by omega)
       have d7:decide (V0+x.2.2>100000000000000000)=false:=decide_eq_false (by omega)
       have hput:nthD (putD [D.int .i64 V0] 0 [D.int .i64 (V0+x.2.2)]) 0=.d (.int .i64 (V0+x.2.2)):=rfl
       have bk:(0:Int)≤(k:Int)∧(k:Int)<((i-q:Nat):Int):=by omega
       simp only [triO,triA,triN,slW,dW,cI,List.cons_append,List.nil_append,d6,w7,w8,d7,hget,hput,hrow,hgk,own?_setO,own?_nestD,mem_nmN,ne_lo,ne_hi,vcd,↓vcp,seval]
       repeat' first|refine ⟨fun h=>?_,fun h=>?_⟩|refine aX ?_|fail
       refine ⟨own9 _ _,bk,hkt,?_⟩
       refine lopK.on (k+1) ⟨by omega,hkt⟩ (by omega) (Wk.tri1 (fr:=fr) (A2:=[(17,.fix [.d (.int .i64 x.1),.d (.int .i64 x.2.1),.d (.int .i64 x.2.2)])]) (n:=i) (m:=i) (s:=22) (q:=q) (f:=midF fr (R.take j) x q k0 (k+1)) hqm.1 hfn rfl (by simp only [slW,dW,w7,ne_lo,ne_hi,enb,vcd,↓vcp,seval]) (by simp only [OwnLeS,triA,List.cons_append,List.nil_append,own?_setO,own?_nestD,ne_lo,ne_hi,enb,vcd,↓vcp,seval]) ⟨_,by simp only [hgk,own?_setO,own?_nestD,ne_lo,ne_hi,enb,vcd,↓vcp,seval];rfl,lit0⟩ (fun a ha=>?_))
       by_cases haq:a=q
       ·subst haq
        refine ⟨.row 3 1 (i-a) (fun i'=>if i'=k then putD [.int .i64 V0] 0 [.int .i64 (V0+x.2.2)] else [.int .i64 (((List.range (i-a)).map (midF fr (R.take j) x a k0 k a)).getD i' 0)]),by simp only [own?_setO,own?_nestD,ne_lo,ne_hi,enb,vcd,↓vcp,seval],OLe.row rfl fun q' hq'=>?_⟩
        by_cases hqk:q'=k
        ·subst hqk
         rw [if_pos rfl,row_get hq',heq];rfl
        ·rw [if_neg hqk,row_get hq',row_get hq',midF_ne (.inr hqk)];rfl
       ·have hne:(5000+a=5000+q)=False:=eq_false (by omega)
        exact ⟨_,by simp only [own?_setO,own?_nestD,hne,hnk a ha,ne_lo,ne_hi,enb,vcd,↓vcp,seval]<;>rfl,row0E (f:=midF fr (R.take j) x q k0 k) (g:=midF fr (R.take j) x q k0 (k+1)) fun q' _=>(midF_ne (.inl haq)).symm⟩
      ·have hk3:k=i-q:=by omega
       have d6:decide ((k:Int)<((i-q:Nat):Int))=false:=decide_eq_false (by omega)
       have ht:R.take (j+1)=R.take j++[x]:=by rw [List.take_add_one,hat];rfl
       simp only [triO,triA,triN,slW,dW,List.cons_append,List.nil_append,d6,w3,hrow,hgk,own?_setO,own?_nestD,mem_nmN,ne_lo,ne_hi,vcd,↓vcp,seval]
       repeat' first|refine ⟨fun h=>?_,fun h=>?_⟩|refine aX ?_|fail
       refine lopK.on (j+1) hjt (by omega) (Wk.tri (Nat.le_refl _) 0 0 hfn rfl (by simp only [slW,dW,w3,enb,vcd,↓vcp,seval]) (by simp only [OwnLeS,triA,enb,vcd,↓vcp,seval]) ⟨_,by simp only [hgk,own?_setO,own?_nestD,ne_lo,ne_hi,enb,vcd,↓vcp,seval];rfl,lit0⟩ (fun a ha=>⟨_,by simp only [hnk a ha,own?_setO,own?_nestD,ne_lo,ne_hi,enb,vcd,↓vcp,seval];rfl,?_⟩))
       refine row0E (f:=midF fr (R.take j) x q k0 k) (g:=fun a b=>cellT fr (R.take (j+1)) a (b:Int)) fun q' hq'=>?_
       rw [ht,hk3]
       exact midF_end (n:=i) (by omega) hk0 hq'
     ·have hj2:j=R.length:=by omega
      have d5:decide ((j:Int)<(R.length:Int))=false:=decide_eq_false (by omega)
      simp only [triO,triA,triN,slW,dW,d5,hgl,own?_setO,own?_nestD,mem_nmN,ne_lo,ne_hi,vcd,↓vcp,seval]
      repeat' first|refine ⟨fun h=>?_,fun h=>?_⟩|refine aX ?_|fail
      refine RetK.mk _ ((Wk.nestPub (dx:=0) (cells:=cI) (K':=1000) (K:=5000) (τ:=0) (e':=31) (e:=3) (sz:=1) (G:=gridP i i fun a b=>cellT fr (R.take j) a (b:Int)) (own':=[(1000,.row 31 1 (gridP i i fun a b=>cellT fr (R.take j) a (b:Int)).length (nestD 0 cI 1 (gridP i i fun a b=>cellT fr (R.take j) a (b:Int)))),(2,.fix [.d (.int .i64 fr),.osl 1000])]) (by simp only [hgl,vcd,↓vcp,seval])
       (fun a g hg1 hg2=>by obtain ⟨h3,rfl⟩:=gridP_row hg1;simp only [ne_lo,ne_hi,hnj a h3,row_len,vcd,↓vcp,seval]) (by simp [keysO]) (fun k o hm=>by
        simp at hm
        rcases hm with ⟨rfl,rfl⟩|⟨rfl,rfl⟩
        ·exact .inl ⟨rfl,rfl⟩
        ·exact .inr ⟨by decide,rfl⟩) (fun a ha=>by simp [keysO];omega)).trans (Wk.pub 1000 rfl)) (by simp only [rs8,rsb,vcd,↓vcp,seval]) ?_ trivial
      simp only [rs8,hgl,rsb,vcd,↓vcp,seval]
      rw [hj2,List.take_length]
      exact VLe.refl _
end Go.Proofs.YtmccbkekpjgdbaaGreat
end
