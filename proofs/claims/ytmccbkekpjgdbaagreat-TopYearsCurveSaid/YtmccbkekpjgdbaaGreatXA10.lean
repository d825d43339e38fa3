import Derived.Test.YtmccbkekpjgdbaaGreatXA9
set_option linter.unusedSimpArgs false
set_option linter.unusedVariables false
section
namespace Go.Proofs.YtmccbkekpjgdbaaGreat
open Go.Bx
set_option maxRecDepth 10000
theorem midWT {i j:Nat} (h:i+j≤9223372036854775807):IntKind.i64.wrap ((IntKind.u64.wrap (IntKind.i64.wrap ((i:Int)+(j:Int)))).fdiv (2 ^ min 1 IntKind.u64.bits))=(((i+j) / 2:Nat):Int):=by
 have e1:IntKind.i64.wrap ((i:Int)+(j:Int))=((i+j:Nat):Int):=(wI (by omega)).trans (by omega)
 have e2:IntKind.u64.wrap ((i+j:Nat):Int)=((i+j:Nat):Int):=by
  rw [IntWalk.u64_in _ (by omega)]
 have e3:((i+j:Nat):Int).fdiv (2 ^ min 1 IntKind.u64.bits)=(((i+j) / 2:Nat):Int):=by
  have:(2:Int) ^ min 1 IntKind.u64.bits=2:=rfl
  rw [this,Int.fdiv_eq_ediv_of_nonneg _ (by omega)];omega
 rw [e1,e2,e3,wI (by omega)]
theorem ins_loT {lt:Stp'→Stp'→Bool} (w:Swo lt) {x:Stp'} {B:List Stp'} (hB:Srt lt B) {j:Nat} (hj:j≤B.length) (h1:0<j→lt (B.getD (j-1) sd) x=true) (h2:j<B.length→lt (B.getD j sd) x=false):mrg lt [x] B=B.take j++x::B.drop j:=by
 have e1:=cut_mrg sd w (List.pairwise_singleton _ x) hB 0 j (Nat.zero_le _) hj (fun _ h=>by simpa using h1 h) (fun h=>absurd h (Nat.lt_irrefl _))
 have hD:Srt lt (B.drop j):=List.Pairwise.sublist (List.drop_sublist j B) hB
 have e2:=cut_mrg sd w (List.pairwise_singleton _ x) hD 1 0 (by simp) (Nat.zero_le _) (fun h=>absurd h (by simp)) (fun _ h=>by
  have h3:j<B.length:=by rw [List.length_drop] at h;omega
  simpa [List.getD_eq_getElem?_getD] using h2 h3)
 simp only [List.take_zero,List.drop_zero,mrg_nil2] at e1
 simp [mrg_nil,mrg_nil2] at e2
 rw [e1,e2]
theorem ins_hiT {lt:Stp'→Stp'→Bool} (w:Swo lt) {x:Stp'} {A:List Stp'} (hA:Srt lt A) {i:Nat} (hi:i≤A.length) (h1:i<A.length→lt x (A.getD i sd)=true) (h2:0<i→lt x (A.getD (i-1) sd)=false):mrg lt A [x]=A.take i++x::A.drop i:=by
 have e1:=cut_mrg sd w hA (List.pairwise_singleton _ x) i 0 hi (Nat.zero_le _) (fun _ h=>absurd h (Nat.lt_irrefl _)) (fun h _=>by simpa using h2 h)
 have hD:Srt lt (A.drop i):=List.Pairwise.sublist (List.drop_sublist i A) hA
 have e2:=cut_mrg sd w hD (List.pairwise_singleton _ x) 0 1 (Nat.zero_le _) (by simp) (fun h _=>by
  have h3:i<A.length:=by rw [List.length_drop] at h;omega
  simpa [List.getD_eq_getElem?_getD] using h1 h3) (fun h=>absurd h (Nat.lt_irrefl _))
 simp only [List.take_zero,List.drop_zero,mrg_nil] at e1
 simp [mrg_nil,mrg_nil2] at e2
 rw [e1,e2]
theorem tRot {g:Nat} (P U W S:List Stp') (a m b:Nat) (ha:a=P.length) (hm:m=a+U.length) (hb:b=m+W.length) (hu:0<U.length) (hw:0<W.length) (hl:b+S.length≤4611686018427387904) :
  Ctr Tryz.prog 139 [.osl 900,.d (.int .i64 (a:Int)),.d (.int .i64 (m:Int)),.d (.int .i64 (b:Int)),fnT g] [(900,rowT (P++(U++(W++S))))] (.tup []) [(900,rowT (P++(W++(U++S))))] []:=by
 subst ha;subst hm;subst hb
 exact tRotate P U W S hu hw hl
def SymT (g : Nat) (cf : Stp' → Stp' → Int) (ok : Stp' → Prop) (N : Nat) : Prop := ∀ (P A B S : List Stp') (a m b : Nat), a = P.length → m = a + A.length → b = m + B.length → A.length + B.length ≤ N → 0 < A.length → 0 < B.length → Srt (ltT cf) A → Srt (ltT cf) B → (∀ x, x ∈ A ++ B → ok x) → b + S.length ≤ 2305843009213693952 →
    Ctr Tryz.prog 95 [.osl 900,.d (.int .i64 (a:Int)),.d (.int .i64 (m:Int)),.d (.int .i64 (b:Int)),fnT g] [(900,rowT (P++(A++(B++S))))] (.tup []) [(900,rowT (P++(mrg (ltT cf) A B++S)))] []
set_option maxHeartbeats 2000000 in
theorem tSymA {g:Nat} {cf:Stp'→Stp'→Int} {ok:Stp'→Prop} (hc:CmpT g cf ok) (P A B S:List Stp') (a m b:Nat) (ha:a=P.length) (hm:m=a+A.length) (hb:b=m+B.length) (hA:0<A.length) (hB:0<B.length) (sA:Srt (ltT cf) A) (sB:Srt (ltT cf) B) (hok:∀ x,x∈A++B→ok x) (hl:b+S.length≤2305843009213693952) (hA1:A.length=1) :
  Ctr Tryz.prog 95 [.osl 900,.d (.int .i64 (a:Int)),.d (.int .i64 (m:Int)),.d (.int .i64 (b:Int)),fnT g] [(900,rowT (P++(A++(B++S))))] (.tup []) [(900,rowT (P++(mrg (ltT cf) A B++S)))] []:=by
 refine qO Tryz.func95 ?_
 intro c hP hfn
 obtain ⟨r,hr⟩:∃ r,r=P++(A++(B++S)):=⟨_,rfl⟩
 have hrl:r.length=b+S.length:=by rw [hr];simp only [List.length_append];omega
 have gA:∀ k,k<A.length→r.getD (a+k) sd=A.getD k sd:=fun k hk=>by
  rw [hr];simp only [getD_app];rw [if_neg (by omega),if_pos (by omega)];congr 1;omega
 have gB:∀ k,k<B.length→r.getD (m+k) sd=B.getD k sd:=fun k hk=>by
  rw [hr];simp only [getD_app];rw [if_neg (by omega),if_neg (by omega),if_pos (by omega)];congr 1;omega
 have okA:∀ k,k<A.length→ok (A.getD k sd):=fun k hk=>by
  obtain ⟨x,-,hx,hm,-⟩:=drop_at hk;rw [hx];exact hok x (by simp [hm])
 have okB:∀ k,k<B.length→ok (B.getD k sd):=fun k hk=>by
  obtain ⟨x,-,hx,hm,-⟩:=drop_at hk;rw [hx];exact hok x (by simp [hm])
 rw [←hr]
 have wa:IntKind.i64.wrap ((m:Int)-(a:Int))=1:=(wI (by omega)).trans (by omega)
 simp only [namesL,V.names,ownNames,rowT,fnT,wa,vcd,↓vcp,seval]
 repeat' first|refine ⟨fun h=>?_,fun h=>?_⟩|refine aX ?_|fail
 refine vcC.loop (X:=Nat×Nat) (fun x=>⟨[(0,.osl 900),(1,.d (.int .i64 (a:Int))),(4,fnT g),(10,.d (.int .i64 (x.1:Nat))),(11,.d (.int .i64 (x.2:Nat)))],[(900,rowT r)],[900]⟩)
  (fun x=>m≤x.1∧x.1≤x.2∧x.2≤b∧(m<x.1→ltT cf (B.getD (x.1-1-m) sd) (A.getD 0 sd)=true)∧(x.2<b→ltT cf (B.getD (x.2-m) sd) (A.getD 0 sd)=false)) (fun x=>x.2-x.1) (m,b) ⟨Nat.le_refl _,by simp only;omega,Nat.le_refl _,fun h=>absurd h (Nat.lt_irrefl _),fun h=>absurd h (Nat.lt_irrefl _)⟩ (Wk.of _ hfn rfl (by simp only [fnT,enb,vcd,↓vcp,seval]) (by simp only [rowT,enb,vcd,↓vcp,seval])) ?_
 rintro ⟨i,j⟩ ⟨h1,h2,h3,h4,h5⟩
 simp only at h1 h2 h3 h4 h5
 by_cases hij:i<j
 ·have d1:decide ((i:Int)<(j:Int))=true:=decide_eq_true (by omega)
  have wm:=midWT (i:=i) (j:=j) (by omega)
  obtain ⟨q,hh⟩:∃ q,q=(i+j) / 2:=⟨_,rfl⟩
  have hb1:i≤q∧q<j:=by omega
  rw [←hh] at wm
  have g1:r.getD q sd=B.getD (q-m) sd:=by rw [←gB _ (by omega)];congr 1;omega
  have g2:r.getD a sd=A.getD 0 sd:=by have:=gA 0 hA;simpa using this
  have cc:=hc.c _ _ (okB (q-m) (by omega)) (okA 0 hA)
  have bh:(0:Int)≤(q:Int)∧(q:Int)<(r.length:Int):=by omega
  have ba:(0:Int)≤(a:Int)∧(a:Int)<(r.length:Int):=by omega
  have w2:IntKind.i64.wrap ((q:Int)+1)=((q+1:Nat):Int):=wS (by omega)
  simp only [rowT,fnT,d1,wm,g1,g2,vcd,↓vcp,seval]
  repeat' first|(refine tq hP (h:=⟨_,fun _=>by exact cc,?_⟩);try simp only [wm,g1,g2,vcd,↓vcp,seval])|refine ⟨fun h=>?_,fun h=>?_⟩|refine aX ?_|fail
  ·exact lopK.on (q+1,j) ⟨by simp only;omega,by simp only;omega,h3,fun _=>by simpa [ltT] using h,h5⟩ (by simp only;omega) (Wk.of _ hfn rfl (by simp only [fnT,w2,enb,vcd,↓vcp,seval]) (by simp only [rowT,enb,vcd,↓vcp,seval]))
  ·exact lopK.on (i,q) ⟨h1,by simp only;omega,by simp only;omega,h4,fun _=>h⟩ (by simp only;omega) (Wk.of _ hfn rfl (by simp only [fnT,enb,vcd,↓vcp,seval]) (by simp only [rowT,enb,vcd,↓vcp,seval]))
 ·have d1:decide ((i:Int)<(j:Int))=false:=decide_eq_false (by omega)
  have hij2:j=i:=by omega
  subst hij2
  obtain ⟨x,rfl⟩:∃ x,A=[x]:=by
   match A,hA1 with
   |[x],_=>exact ⟨x,rfl⟩
  have hml:m=a+1:=hm
  have hmr:=ins_loT hc.w (x:=x) sB (j:=j-m) (by omega) (fun h=>by have:=h4 (by omega);rw [show j-m-1=j-1-m by omega];simpa using this) (fun h=>by have:=h5 (by omega);simpa using this)
  have w3:IntKind.i64.wrap ((j:Int)-1)=((j-1:Nat):Int):=(wI (by omega)).trans (by omega)
  simp only [rowT,fnT,d1,vcd,↓vcp,seval]
  repeat' first|refine ⟨fun h=>?_,fun h=>?_⟩|refine aX ?_|fail
  refine vcC.loop (X:=Nat×List Stp') (fun x=>⟨[(0,.osl 900),(10,.d (.int .i64 (j:Nat))),(13,.d (.int .i64 (x.1:Nat)))],[(900,rowT x.2)],[900]⟩)
   (fun y=>∃ t,y.1=a+t∧t≤j-m∧y.2=P++(B.take t++(x::(B.drop t++S)))) (fun y=>j-y.1) (a,r) ⟨0,rfl,Nat.zero_le _,by simpa using hr⟩ (Wk.of _ hfn rfl (by simp only [fnT,enb,vcd,↓vcp,seval]) (by simp only [rowT,enb,vcd,↓vcp,seval])) ?_
  rintro ⟨k,l⟩ ⟨t,hk,ht,hL⟩
  simp only at hk hL
  by_cases hlt:t<j-m
  ·have d2:decide ((k:Int)<((j-1:Nat):Int))=true:=decide_eq_true (by omega)
   have w4:IntKind.i64.wrap ((k:Int)+1)=((k+1:Nat):Int):=wS (by omega)
   obtain ⟨y,hd,-,-,he⟩:=drop_at (l:=B) (k:=t) (by omega)
   have hL2:l=(P++B.take t)++x::y::(B.drop (t+1)++S):=by rw [hL,hd];simp
   have hll:l.length=P.length+t+1+1+(B.length-(t+1))+S.length:=by rw [hL2];simp only [List.length_append,List.length_cons,List.length_take,List.length_drop];omega
   have u1:l.getD k sd=x:=by rw [hL2];exact getD_t (by simp only [List.length_append,List.length_take];omega)
   have u2:l.getD (k+1) sd=y:=by
    rw [hL2,show (P++B.take t)++x::y::(B.drop (t+1)++S)=(P++B.take t++[x])++y::(B.drop (t+1)++S) by simp]
    exact getD_t (by simp only [List.length_append,List.length_take,List.length_singleton];omega)
   have b1:(0:Int)≤(k:Int)∧(k:Int)<(l.length:Int):=by omega
   have b2:(0:Int)≤((k+1:Nat):Int)∧((k+1:Nat):Int)<(l.length:Int):=by omega
   simp only [rowT,w3,w4,d2,u1,u2,vcd,↓vcp,seval]
   repeat' first|refine ⟨fun h=>?_,fun h=>?_⟩|refine aX ?_|fail
   refine lopK.on (k+1,swq sd l k (k+1)) ⟨t+1,by simp only;omega,hlt,?_⟩ (by simp only;omega) (Wk.of _ hfn rfl (by simp only [w4,enb,vcd,↓vcp,seval]) ?_)
   ·simp only [hL2]
    rw [swq_next sd (P++B.take t) x y _ (by simp only [List.length_append,List.length_take];omega) (by simp only [List.length_append,List.length_take];omega),List.take_add_one,he]
    simp
   ·simp only [rowT,enb,vcd,↓vcp,seval]
    have:=OLe.swt (e:=85) (l:=l) (i:=k) (j:=k+1) (by omega) (by omega) u1 u2 rfl
    simp only [show ¬ k+1=k by omega,if_false] at this
    exact this
  ·have d2:decide ((k:Int)<((j-1:Nat):Int))=false:=decide_eq_false (by omega)
   have ht2:t=j-m:=by omega
   have hL2:l=P++(mrg (ltT cf) [x] B++S):=by rw [hL,hmr,ht2];simp
   simp only [rowT,w3,d2,vcd,↓vcp,seval]
   repeat' first|refine ⟨fun h=>?_,fun h=>?_⟩|refine aX ?_|fail
   refine rK (Wk.refl _ _) ?_
   simp only [hL2,enb,vcd,↓vcp,seval]
set_option maxHeartbeats 2000000 in
theorem tSymB {g:Nat} {cf:Stp'→Stp'→Int} {ok:Stp'→Prop} (hc:CmpT g cf ok) (P A B S:List Stp') (a m b:Nat) (ha:a=P.length) (hm:m=a+A.length) (hb:b=m+B.length) (hA:0<A.length) (hB:0<B.length) (sA:Srt (ltT cf) A) (sB:Srt (ltT cf) B) (hok:∀ x,x∈A++B→ok x) (hl:b+S.length≤2305843009213693952) (hA1:¬ A.length=1) (hB1:B.length=1) :
  Ctr Tryz.prog 95 [.osl 900,.d (.int .i64 (a:Int)),.d (.int .i64 (m:Int)),.d (.int .i64 (b:Int)),fnT g] [(900,rowT (P++(A++(B++S))))] (.tup []) [(900,rowT (P++(mrg (ltT cf) A B++S)))] []:=by
 refine qO Tryz.func95 ?_
 intro c hP hfn
 obtain ⟨r,hr⟩:∃ r,r=P++(A++(B++S)):=⟨_,rfl⟩
 have hrl:r.length=b+S.length:=by rw [hr];simp only [List.length_append];omega
 have gA:∀ k,k<A.length→r.getD (a+k) sd=A.getD k sd:=fun k hk=>by
  rw [hr];simp only [getD_app];rw [if_neg (by omega),if_pos (by omega)];congr 1;omega
 have gB:∀ k,k<B.length→r.getD (m+k) sd=B.getD k sd:=fun k hk=>by
  rw [hr];simp only [getD_app];rw [if_neg (by omega),if_neg (by omega),if_pos (by omega)];congr 1;omega
 have okA:∀ k,k<A.length→ok (A.getD k sd):=fun k hk=>by
  obtain ⟨x,-,hx,hm,-⟩:=drop_at hk;rw [hx];exact hok x (by simp [hm])
 have okB:∀ k,k<B.length→ok (B.getD k sd):=fun k hk=>by
  obtain ⟨x,-,hx,hm,-⟩:=drop_at hk;rw [hx];exact hok x (by simp [hm])
 rw [←hr]
 have wa:(IntKind.i64.wrap ((m:Int)-(a:Int)) == 1)=false:=by rw [beq_eq_false_iff_ne,wI (by omega)];omega
 have wb:(IntKind.i64.wrap ((b:Int)-(m:Int)) == 1)=true:=by rw [beq_iff_eq,wI (by omega)];omega
 simp only [namesL,V.names,ownNames,rowT,fnT,wa,wb,vcd,↓vcp,seval]
 repeat' first|refine ⟨fun h=>?_,fun h=>?_⟩|refine aX ?_|fail
 refine vcC.loop (X:=Nat×Nat) (fun x=>⟨[(0,.osl 900),(2,.d (.int .i64 (m:Int))),(4,fnT g),(14,.d (.int .i64 (x.1:Nat))),(15,.d (.int .i64 (x.2:Nat)))],[(900,rowT r)],[900]⟩)
  (fun x=>a≤x.1∧x.1≤x.2∧x.2≤m∧(a<x.1→ltT cf (B.getD 0 sd) (A.getD (x.1-1-a) sd)=false)∧(x.2<m→ltT cf (B.getD 0 sd) (A.getD (x.2-a) sd)=true)) (fun x=>x.2-x.1) (a,m) ⟨Nat.le_refl _,by simp only;omega,Nat.le_refl _,fun h=>absurd h (Nat.lt_irrefl _),fun h=>absurd h (Nat.lt_irrefl _)⟩ (Wk.of _ hfn rfl (by simp only [fnT,enb,vcd,↓vcp,seval]) (by simp only [rowT,enb,vcd,↓vcp,seval])) ?_
 rintro ⟨i,j⟩ ⟨h1,h2,h3,h4,h5⟩
 simp only at h1 h2 h3 h4 h5
 by_cases hij:i<j
 ·have d1:decide ((i:Int)<(j:Int))=true:=decide_eq_true (by omega)
  have wm:=midWT (i:=i) (j:=j) (by omega)
  obtain ⟨q,hh⟩:∃ q,q=(i+j) / 2:=⟨_,rfl⟩
  have hb1:i≤q∧q<j:=by omega
  rw [←hh] at wm
  have g1:r.getD q sd=A.getD (q-a) sd:=by rw [←gA _ (by omega)];congr 1;omega
  have g2:r.getD m sd=B.getD 0 sd:=by have:=gB 0 hB;simpa using this
  have cc:=hc.c _ _ (okB 0 hB) (okA (q-a) (by omega))
  have bh:(0:Int)≤(q:Int)∧(q:Int)<(r.length:Int):=by omega
  have ba:(0:Int)≤(m:Int)∧(m:Int)<(r.length:Int):=by omega
  have w2:IntKind.i64.wrap ((q:Int)+1)=((q+1:Nat):Int):=wS (by omega)
  simp only [rowT,fnT,d1,wm,g1,g2,vcd,↓vcp,seval]
  repeat' first|(refine tq hP (h:=⟨_,fun _=>by exact cc,?_⟩);try simp only [wm,g1,g2,vcd,↓vcp,seval])|refine ⟨fun h=>?_,fun h=>?_⟩|refine aX ?_|fail
  ·exact lopK.on (q+1,j) ⟨by simp only;omega,by simp only;omega,h3,fun _=>by simpa [ltT] using h,h5⟩ (by simp only;omega) (Wk.of _ hfn rfl (by simp only [fnT,w2,enb,vcd,↓vcp,seval]) (by simp only [rowT,enb,vcd,↓vcp,seval]))
  ·exact lopK.on (i,q) ⟨h1,by simp only;omega,by simp only;omega,h4,fun _=>by simpa [ltT] using h⟩ (by simp only;omega) (Wk.of _ hfn rfl (by simp only [fnT,enb,vcd,↓vcp,seval]) (by simp only [rowT,enb,vcd,↓vcp,seval]))
 ·have d1:decide ((i:Int)<(j:Int))=false:=decide_eq_false (by omega)
  have hij2:j=i:=by omega
  subst hij2
  obtain ⟨x,rfl⟩:∃ x,B=[x]:=by
   match B,hB1 with
   |[x],_=>exact ⟨x,rfl⟩
  have hmr:=ins_hiT hc.w (x:=x) sA (i:=j-a) (by omega) (fun h=>by have:=h5 (by omega);simpa using this) (fun h=>by have:=h4 (by omega);rw [show j-a-1=j-1-a by omega];simpa using this)
  simp only [rowT,fnT,d1,vcd,↓vcp,seval]
  repeat' first|refine ⟨fun h=>?_,fun h=>?_⟩|refine aX ?_|fail
  refine vcC.loop (X:=Nat×List Stp') (fun x=>⟨[(0,.osl 900),(14,.d (.int .i64 (j:Nat))),(17,.d (.int .i64 (x.1:Nat)))],[(900,rowT x.2)],[900]⟩)
   (fun y=>∃ t,y.1=a+t∧j-a≤t∧t≤A.length∧y.2=P++(A.take t++(x::(A.drop t++S)))) (fun y=>y.1) (m,r) ⟨A.length,hm,by omega,Nat.le_refl _,by simpa using hr⟩ (Wk.of _ hfn rfl (by simp only [fnT,enb,vcd,↓vcp,seval]) (by simp only [rowT,enb,vcd,↓vcp,seval])) ?_
  rintro ⟨k,l⟩ ⟨t,hk,ht,htA,hL⟩
  simp only at hk hL
  by_cases hlt:j-a<t
  ·have d2:decide ((k:Int)>(j:Int))=true:=decide_eq_true (by omega)
   have w4:IntKind.i64.wrap ((k:Int)-1)=((k-1:Nat):Int):=(wI (by omega)).trans (by omega)
   obtain ⟨t,rfl⟩:∃ t',t=t'+1:=⟨t-1,by omega⟩
   obtain ⟨y,hd,-,-,he⟩:=drop_at (l:=A) (k:=t) (by omega)
   have hL2:l=(P++A.take t)++y::x::(A.drop (t+1)++S):=by rw [hL,List.take_add_one,he];simp
   have hll:l.length=P.length+t+1+1+(A.length-(t+1))+S.length:=by rw [hL2];simp only [List.length_append,List.length_cons,List.length_take,List.length_drop];omega
   have u2:l.getD (k-1) sd=y:=by rw [hL2];exact getD_t (by simp only [List.length_append,List.length_take];omega)
   have u1:l.getD k sd=x:=by
    rw [hL2,show (P++A.take t)++y::x::(A.drop (t+1)++S)=(P++A.take t++[y])++x::(A.drop (t+1)++S) by simp]
    exact getD_t (by simp only [List.length_append,List.length_take,List.length_singleton];omega)
   have b1:(0:Int)≤(k:Int)∧(k:Int)<(l.length:Int):=by omega
   have b2:(0:Int)≤((k-1:Nat):Int)∧((k-1:Nat):Int)<(l.length:Int):=by omega
   simp only [rowT,w4,d2,u1,u2,vcd,↓vcp,seval]
   repeat' first|refine ⟨fun h=>?_,fun h=>?_⟩|refine aX ?_|fail
   refine lopK.on (k-1,swq sd l k (k-1)) ⟨t,by simp only;omega,by omega,by omega,?_⟩ (by simp only;omega) (Wk.of _ hfn rfl (by simp only [w4,enb,vcd,↓vcp,seval]) ?_)
   ·simp only [hL2]
    rw [swq_next' sd (P++A.take t) y x _ (by simp only [List.length_append,List.length_take];omega) (by simp only [List.length_append,List.length_take];omega),hd]
    simp
   ·simp only [rowT,enb,vcd,↓vcp,seval]
    exact OLe.swt (by omega) (by omega) u1 u2 rfl
  ·have d2:decide ((k:Int)>(j:Int))=false:=decide_eq_false (by omega)
   have ht2:t=j-a:=by omega
   have hL2:l=P++(mrg (ltT cf) A [x]++S):=by rw [hL,hmr,ht2];simp
   simp only [rowT,d2,vcd,↓vcp,seval]
   repeat' first|refine ⟨fun h=>?_,fun h=>?_⟩|refine aX ?_|fail
   refine rK (Wk.refl _ _) ?_
   simp only [hL2,enb,vcd,↓vcp,seval]
theorem symEnT {g:Nat} {cf:Stp'→Stp'→Int} {ok:Stp'→Prop} (hc:CmpT g cf ok) {N:Nat} (ih:SymT g cf ok N) (P A B S:List Stp') (a m b:Nat) (ha:a=P.length) (hm:m=a+A.length) (hb:b=m+B.length) (hN:A.length+B.length≤N+1) (hA:0<A.length) (hB:0<B.length) (sA:Srt (ltT cf) A) (sB:Srt (ltT cf) B) (hok:∀ x,x∈A++B→ok x) (hl:b+S.length≤2305843009213693952) {e mid en:Nat} (c1:a≤e) (c2:e≤m) (c3:e≤mid) (c4:mid+m≤e+b) (c5:a<mid) (c6:mid<b) (hen:en+e=mid+m)
  (hcut:mrg (ltT cf) A B=mrg (ltT cf) (A.take (e-a)) (B.take (mid-e))++mrg (ltT cf) (A.drop (e-a)) (B.drop (mid-e))) :
  ∃ r1 r2,(e<m→m<en→Ctr Tryz.prog 139 [.osl 900,.d (.int .i64 (e:Int)),.d (.int .i64 (m:Int)),.d (.int .i64 (en:Int)),fnT g] [(900,rowT (P++(A++(B++S))))] (.tup []) [(900,rowT r1)] []) ∧
  (¬ (e<m∧m<en)→P++(A++(B++S))=r1) ∧
  (a<e→e<mid→Ctr Tryz.prog 95 [.osl 900,.d (.int .i64 (a:Int)),.d (.int .i64 (e:Int)),.d (.int .i64 (mid:Int)),fnT g] [(900,rowT r1)] (.tup []) [(900,rowT r2)] [])∧(¬ (a<e∧e<mid)→r1=r2) ∧
  (mid<en→en<b→Ctr Tryz.prog 95 [.osl 900,.d (.int .i64 (mid:Int)),.d (.int .i64 (en:Int)),.d (.int .i64 (b:Int)),fnT g] [(900,rowT r2)] (.tup []) [(900,rowT (P++(mrg (ltT cf) A B++S)))] [])∧(¬ (mid<en∧en<b)→r2=P++(mrg (ltT cf) A B++S)):=by
 obtain ⟨A1,hA1'⟩:∃ q,q=A.take (e-a):=⟨_,rfl⟩
 obtain ⟨A2,hA2'⟩:∃ q,q=A.drop (e-a):=⟨_,rfl⟩
 obtain ⟨B1,hB1'⟩:∃ q,q=B.take (mid-e):=⟨_,rfl⟩
 obtain ⟨B2,hB2'⟩:∃ q,q=B.drop (mid-e):=⟨_,rfl⟩
 have lA1:A1.length=e-a:=by rw [hA1',List.length_take];omega
 have lA2:A2.length=m-e:=by rw [hA2',List.length_drop];omega
 have lB1:B1.length=en-m:=by rw [hB1',List.length_take];omega
 have lB2:B2.length=b-en:=by rw [hB2',List.length_drop];omega
 have eA:A1++A2=A:=by rw [hA1',hA2',List.take_append_drop]
 have eB:B1++B2=B:=by rw [hB1',hB2',List.take_append_drop]
 rw [←hA1',←hA2',←hB1',←hB2'] at hcut
 have sA1:Srt (ltT cf) A1:=by rw [hA1'];exact List.Pairwise.sublist (List.take_sublist _ A) sA
 have sA2:Srt (ltT cf) A2:=by rw [hA2'];exact List.Pairwise.sublist (List.drop_sublist _ A) sA
 have sB1:Srt (ltT cf) B1:=by rw [hB1'];exact List.Pairwise.sublist (List.take_sublist _ B) sB
 have sB2:Srt (ltT cf) B2:=by rw [hB2'];exact List.Pairwise.sublist (List.drop_sublist _ B) sB
 have ok1:∀ x,x∈A1++B1→ok x:=fun x hx=>hok x (by rw [←eA,←eB];simp only [List.mem_append] at hx ⊢;rcases hx with h|h<;>simp [h])
 have ok2:∀ x,x∈A2++B2→ok x:=fun x hx=>hok x (by rw [←eA,←eB];simp only [List.mem_append] at hx ⊢;rcases hx with h|h<;>simp [h])
 obtain ⟨r1,hr1⟩:∃ q,q=P++(A1++(B1++(A2++(B2++S)))):=⟨_,rfl⟩
 obtain ⟨r2,hr2⟩:∃ q,q=P++(mrg (ltT cf) A1 B1++(A2++(B2++S))):=⟨_,rfl⟩
 have hr0:P++(A++(B++S))=(P++A1)++(A2++(B1++(B2++S))):=by rw [←eA,←eB];simp
 have hr3:P++(mrg (ltT cf) A B++S)=(P++mrg (ltT cf) A1 B1)++(mrg (ltT cf) A2 B2++S):=by rw [hcut];simp
 have lM:(mrg (ltT cf) A1 B1).length=mid-a:=by rw [mrg_len];omega
 have f1:e<m→m<en→Ctr Tryz.prog 139 [.osl 900,.d (.int .i64 (e:Int)),.d (.int .i64 (m:Int)),.d (.int .i64 (en:Int)),fnT g] [(900,rowT (P++(A++(B++S))))] (.tup []) [(900,rowT r1)] []:=fun g1 g2=>by
  have:=tRot (g:=g) (P++A1) A2 B1 (B2++S) e m en (by rw [List.length_append];omega) (by omega) (by omega) (by omega) (by omega) (by rw [List.length_append];omega)
  rw [hr0,hr1]
  simpa using this
 have e1:¬ (e<m∧m<en)→P++(A++(B++S))=r1:=fun g1=>by
  rw [hr0,hr1]
  by_cases g2:e<m
  ·have:B1=[]:=List.eq_nil_of_length_eq_zero (by omega)
   rw [this];simp
  ·have:A2=[]:=List.eq_nil_of_length_eq_zero (by omega)
   rw [this];simp
 have f2:a<e→e<mid→Ctr Tryz.prog 95 [.osl 900,.d (.int .i64 (a:Int)),.d (.int .i64 (e:Int)),.d (.int .i64 (mid:Int)),fnT g] [(900,rowT r1)] (.tup []) [(900,rowT r2)] []:=fun g1 g2=>by
  have:=ih P A1 B1 (A2++(B2++S)) a e mid ha (by omega) (by omega) (by omega) (by omega) (by omega) sA1 sB1 ok1 (by simp only [List.length_append];omega)
  rw [hr1,hr2];exact this
 have e2:¬ (a<e∧e<mid)→r1=r2:=fun g1=>by
  rw [hr1,hr2]
  by_cases g2:a<e
  ·have:B1=[]:=List.eq_nil_of_length_eq_zero (by omega)
   rw [this,mrg_nil];simp
  ·have:A1=[]:=List.eq_nil_of_length_eq_zero (by omega)
   rw [this,mrg_nil2];simp
 have f3:mid<en→en<b→Ctr Tryz.prog 95 [.osl 900,.d (.int .i64 (mid:Int)),.d (.int .i64 (en:Int)),.d (.int .i64 (b:Int)),fnT g] [(900,rowT r2)] (.tup []) [(900,rowT (P++(mrg (ltT cf) A B++S)))] []:=fun g1 g2=>by
  have:=ih (P++mrg (ltT cf) A1 B1) A2 B2 S mid en b (by rw [List.length_append,lM];omega) (by omega) (by omega) (by omega) (by omega) (by omega) sA2 sB2 ok2 hl
  rw [hr2,hr3]
  simpa using this
 have e3:¬ (mid<en∧en<b)→r2=P++(mrg (ltT cf) A B++S):=fun g1=>by
  rw [hr2,hr3]
  by_cases g2:mid<en
  ·have:B2=[]:=List.eq_nil_of_length_eq_zero (by omega)
   rw [this,mrg_nil];simp
  ·have:A2=[]:=List.eq_nil_of_length_eq_zero (by omega)
   rw [this,mrg_nil2];simp
 exact ⟨r1,r2,f1,e1,f2,e2,f3,e3⟩
set_option maxHeartbeats 8000000 in
theorem tSymM {g:Nat} {cf:Stp'→Stp'→Int} {ok:Stp'→Prop} (hc:CmpT g cf ok) {N:Nat} (ih:SymT g cf ok N) (P A B S:List Stp') (a m b:Nat) (ha:a=P.length) (hm:m=a+A.length) (hb:b=m+B.length) (hN:A.length+B.length≤N+1) (hA:0<A.length) (hB:0<B.length) (sA:Srt (ltT cf) A) (sB:Srt (ltT cf) B) (hok:∀ x,x∈A++B→ok x) (hl:b+S.length≤2305843009213693952) (hA1:¬ A.length=1) (hB1:¬ B.length=1) :
  Ctr Tryz.prog 95 [.osl 900,.d (.int .i64 (a:Int)),.d (.int .i64 (m:Int)),.d (.int .i64 (b:Int)),fnT g] [(900,rowT (P++(A++(B++S))))] (.tup []) [(900,rowT (P++(mrg (ltT cf) A B++S)))] []:=by
 refine qO Tryz.func95 ?_
 intro c hP hfn
 obtain ⟨r,hr⟩:∃ r,r=P++(A++(B++S)):=⟨_,rfl⟩
 have hrl:r.length=b+S.length:=by rw [hr];simp only [List.length_append];omega
 have gA:∀ k,k<A.length→r.getD (a+k) sd=A.getD k sd:=fun k hk=>by
  rw [hr];simp only [getD_app];rw [if_neg (by omega),if_pos (by omega)];congr 1;omega
 have gB:∀ k,k<B.length→r.getD (m+k) sd=B.getD k sd:=fun k hk=>by
  rw [hr];simp only [getD_app];rw [if_neg (by omega),if_neg (by omega),if_pos (by omega)];congr 1;omega
 have okA:∀ k,k<A.length→ok (A.getD k sd):=fun k hk=>by
  obtain ⟨x,-,hx,hm,-⟩:=drop_at hk;rw [hx];exact hok x (by simp [hm])
 have okB:∀ k,k<B.length→ok (B.getD k sd):=fun k hk=>by
  obtain ⟨x,-,hx,hm,-⟩:=drop_at hk;rw [hx];exact hok x (by simp [hm])
 rw [←hr]
 have wa:(IntKind.i64.wrap ((m:Int)-(a:Int)) == 1)=false:=by rw [beq_eq_false_iff_ne,wI (by omega)];omega
 have wb:(IntKind.i64.wrap ((b:Int)-(m:Int)) == 1)=false:=by rw [beq_eq_false_iff_ne,wI (by omega)];omega
 obtain ⟨mid,hmid⟩:∃ q,q=(a+b) / 2:=⟨_,rfl⟩
 have wm:=midWT (i:=a) (j:=b) (by omega)
 rw [←hmid] at wm
 have w1:IntKind.i64.wrap ((mid:Int)+(m:Int))=((mid+m:Nat):Int):=(wI (by omega)).trans (by omega)
 have w2:IntKind.i64.wrap (((mid+m:Nat):Int)-(b:Int))=((mid+m:Nat):Int)-(b:Int):=wI (by omega)
 have w3:IntKind.i64.wrap (((mid+m:Nat):Int)-1)=((mid+m-1:Nat):Int):=(wI (by omega)).trans (by omega)
 obtain ⟨lo,hlo⟩:∃ q,q=if m>mid then mid+m-b else a:=⟨_,rfl⟩
 obtain ⟨hi,hhi⟩:∃ q,q=if m>mid then mid else m:=⟨_,rfl⟩
 have hlo2:a≤lo∧mid+m-b≤lo∧(lo=a∨lo+b=mid+m)∧lo≤hi:=by split at hlo<;>split at hhi<;>omega
 have hhi2:hi≤m∧hi≤mid∧(hi=m∨hi=mid):=by split at hhi<;>omega
 obtain ⟨x1,x2,x3⟩:(m>mid→(((mid+m:Nat):Int)-(b:Int))=(lo:Int)∧(mid:Int)=(hi:Int))∧(¬ m>mid→(a:Int)=(lo:Int)∧(m:Int)=(hi:Int))∧True:=by
  refine ⟨fun h=>?_,fun h=>?_,trivial⟩
  ·rw [if_pos h] at hlo hhi;omega
  ·rw [if_neg h] at hlo hhi;omega
 have hcutW:∀ s:Nat,lo≤s→s≤hi→(lo<s→ltT cf (B.getD (mid-s) sd) (A.getD (s-1-a) sd)=false)→(s<hi→ltT cf (B.getD (mid-1-s) sd) (A.getD (s-a) sd)=true) →
   mrg (ltT cf) A B=mrg (ltT cf) (A.take (s-a)) (B.take (mid-s))++mrg (ltT cf) (A.drop (s-a)) (B.drop (mid-s)):=fun s h1 h2 h3 h4 =>
  cut_mrg sd hc.w sA sB (s-a) (mid-s) (by omega) (by omega) (fun g1 g2=>by rw [show mid-s-1=mid-1-s by omega];exact h4 (by omega)) (fun g1 g2=>by rw [show s-a-1=s-1-a by omega];exact h3 (by omega))
 have hlo3:a≤lo∧mid+m≤lo+b∧lo≤hi∧hi≤m∧hi≤mid∧a<mid∧mid<b:=by omega
 clear hlo2 hhi2 hlo hhi hmid
 by_cases hgt:m>mid
 ·have d1:decide ((m:Int)>(mid:Int))=true:=decide_eq_true (by omega)
  obtain ⟨x1,x2⟩:=x1 hgt
  simp only [namesL,V.names,ownNames,rowT,fnT,wa,wb,wm,w1,w2,w3,d1,vcd,↓vcp,seval]
  repeat' first|refine ⟨fun h=>?_,fun h=>?_⟩|refine aX ?_|fail
  refine vcC.loop (X:=Nat×Nat) (fun x=>⟨[(0,.osl 900),(1,.d (.int .i64 (a:Int))),(2,.d (.int .i64 (m:Int))),(3,.d (.int .i64 (b:Int))),(4,fnT g),(18,.d (.int .i64 (mid:Int))),(19,.d (.int .i64 ((mid+m:Nat):Int))),(20,.d (.int .i64 (x.1:Nat))),(21,.d (.int .i64 (x.2:Nat))),(22,.d (.int .i64 ((mid+m-1:Nat):Int)))],[(900,rowT r)],[900]⟩)
   (fun x=>lo≤x.1∧x.1≤x.2∧x.2≤hi∧(lo<x.1→ltT cf (B.getD (mid-x.1) sd) (A.getD (x.1-1-a) sd)=false)∧(x.2<hi→ltT cf (B.getD (mid-1-x.2) sd) (A.getD (x.2-a) sd)=true)) (fun x=>x.2-x.1) (lo,hi) ⟨Nat.le_refl _,by simp only;omega,Nat.le_refl _,fun h=>absurd h (Nat.lt_irrefl _),fun h=>absurd h (Nat.lt_irrefl _)⟩ (Wk.of _ hfn rfl (by simp only [fnT,wm,w1,w2,w3,enb,vcd,↓vcp,seval]<;>omega) (by simp only [rowT,enb,vcd,↓vcp,seval])) ?_
  rintro ⟨s,e⟩ ⟨h1,h2,h3,h4,h5⟩
  simp only at h1 h2 h3 h4 h5
  by_cases hij:s<e
  ·have d2:decide ((s:Int)<(e:Int))=true:=decide_eq_true (by omega)
   have wq:=midWT (i:=s) (j:=e) (by omega)
   obtain ⟨q,hh⟩:∃ q,q=(s+e) / 2:=⟨_,rfl⟩
   have hb1:s≤q∧q<e:=by omega
   rw [←hh] at wq
   have wp:IntKind.i64.wrap (((mid+m-1:Nat):Int)-(q:Int))=((mid+m-1-q:Nat):Int):=(wI (by omega)).trans (by omega)
   have g1:r.getD (mid+m-1-q) sd=B.getD (mid-1-q) sd:=by rw [←gB _ (by omega)];congr 1;omega
   have g2:r.getD q sd=A.getD (q-a) sd:=by rw [←gA _ (by omega)];congr 1;omega
   have cc:=hc.c _ _ (okB (mid-1-q) (by omega)) (okA (q-a) (by omega))
   have bh:(0:Int)≤((mid+m-1-q:Nat):Int)∧((mid+m-1-q:Nat):Int)<(r.length:Int):=by omega
   have ba:(0:Int)≤(q:Int)∧(q:Int)<(r.length:Int):=by omega
   have w4:IntKind.i64.wrap ((q:Int)+1)=((q+1:Nat):Int):=wS (by omega)
   simp only [rowT,fnT,d2,wq,wp,g1,g2,vcd,↓vcp,seval]
   repeat' first|(refine tq hP (h:=⟨_,fun _=>by exact cc,?_⟩);try simp only [wq,wp,g1,g2,vcd,↓vcp,seval])|refine ⟨fun h=>?_,fun h=>?_⟩|refine aX ?_|fail
   ·exact lopK.on (q+1,e) ⟨by simp only;omega,by simp only;omega,h3,fun _=>by rw [show mid-(q+1)=mid-1-q by omega,show q+1-1-a=q-a by omega];simpa [ltT] using h,h5⟩ (by simp only;omega) (Wk.of _ hfn rfl (by simp only [fnT,w4,enb,vcd,↓vcp,seval]) (by simp only [rowT,enb,vcd,↓vcp,seval]))
   ·exact lopK.on (s,q) ⟨h1,by simp only;omega,by simp only;omega,h4,fun _=>by simpa [ltT] using h⟩ (by simp only;omega) (Wk.of _ hfn rfl (by simp only [fnT,enb,vcd,↓vcp,seval]) (by simp only [rowT,enb,vcd,↓vcp,seval]))
  ·have d2:decide ((s:Int)<(e:Int))=false:=decide_eq_false (by omega)
   obtain rfl:e=s:=by omega
   have hcut:=hcutW e h1 (by omega) h4 h5
   obtain ⟨en,hen⟩:∃ q,q=mid+m-e:=⟨_,rfl⟩
   have w5:IntKind.i64.wrap (((mid+m:Nat):Int)-(e:Int))=(en:Int):=(wI (by omega)).trans (by omega)
   obtain ⟨r1,r2,f1,e1,f2,e2,f3,e3⟩:=symEnT hc ih P A B S a m b ha hm hb hN hA hB sA sB hok hl (e:=e) (mid:=mid) (en:=en) (by omega) (by omega) (by omega) (by omega) (by omega) (by omega) (by omega) hcut
   rw [←hr] at f1 e1
   clear hcut hcutW h1 h2 h3 h4 h5 hij wm w1 w2 w3 wa wb hen hlo3 hrl gA gB okA okB ih hN hA hB sA sB hok hl x1 x2 hr d1 hgt ha hm hb hA1 hB1
   by_cases k1:e<m∧m<en
   ·by_cases k2:a<e∧e<mid
    ·by_cases k3:mid<en∧en<b
     ·have x:(decide ((e:Int)<(m:Int))&&decide ((m:Int)<(en:Int)))=true:=by rw [Bool.and_eq_true,decide_eq_true_eq,decide_eq_true_eq];omega
      have y:(decide ((a:Int)<(e:Int))&&decide ((e:Int)<(mid:Int)))=true:=by rw [Bool.and_eq_true,decide_eq_true_eq,decide_eq_true_eq];omega
      have z:(decide ((mid:Int)<(en:Int))&&decide ((en:Int)<(b:Int)))=true:=by rw [Bool.and_eq_true,decide_eq_true_eq,decide_eq_true_eq];omega
      simp only [rowT,fnT,d2,w5,x,y,z,vcd,↓vcp,seval]
      repeat' first|refine ⟨fun h=>?_,fun h=>?_⟩|refine aX ?_|fail
      repeat' first|refine ⟨fun h=>?_,fun h=>?_⟩|refine aX ?_|fail
      have cc:=f1 k1.1 k1.2
      simp only [rowT,fnT] at cc
      refine TR.call [(900,rowT r)] [(900,rowT r1)] _ [] (by rw [hP];exact cc) (by repeat' first|exact trivial|(intro _;assumption)|apply And.intro) (hin1 rfl) (by simp [keysO]) (by simp) ?_
      clear cc
      simp only [rowT,x,y,z,vcd,↓vcp,seval]
      repeat' first|refine ⟨fun h=>?_,fun h=>?_⟩|refine aX ?_|fail
      have cc:=f2 k2.1 k2.2
      simp only [rowT,fnT] at cc
      refine TR.call [(900,rowT r1)] [(900,rowT r2)] _ [] (by rw [hP];exact cc) (by repeat' first|exact trivial|(intro _;assumption)|apply And.intro) (hin1 rfl) (by simp [keysO]) (by simp) ?_
      clear cc
      simp only [rowT,x,y,z,vcd,↓vcp,seval]
      repeat' first|refine ⟨fun h=>?_,fun h=>?_⟩|refine aX ?_|fail
      have cc:=f3 k3.1 k3.2
      simp only [rowT,fnT] at cc
      refine TR.call [(900,rowT r2)] [(900,rowT (P++(mrg (ltT cf) A B++S)))] _ [] (by rw [hP];exact cc) (by repeat' first|exact trivial|(intro _;assumption)|apply And.intro) (hin1 rfl) (by simp [keysO]) (by simp) ?_
      clear cc
      simp only [rowT,x,y,z,vcd,↓vcp,seval]
      repeat' first|refine ⟨fun h=>?_,fun h=>?_⟩|refine aX ?_|fail
      refine rK' (Wk.refl _ _) ?_
      simp only [enb,vcd,↓vcp,seval]
     ·have x:(decide ((e:Int)<(m:Int))&&decide ((m:Int)<(en:Int)))=true:=by rw [Bool.and_eq_true,decide_eq_true_eq,decide_eq_true_eq];omega
      have y:(decide ((a:Int)<(e:Int))&&decide ((e:Int)<(mid:Int)))=true:=by rw [Bool.and_eq_true,decide_eq_true_eq,decide_eq_true_eq];omega
      have z:(decide ((mid:Int)<(en:Int))&&decide ((en:Int)<(b:Int)))=false:=by rw [Bool.and_eq_false_iff,decide_eq_false_iff_not,decide_eq_false_iff_not];omega
      simp only [rowT,fnT,d2,w5,x,y,z,vcd,↓vcp,seval]
      repeat' first|refine ⟨fun h=>?_,fun h=>?_⟩|refine aX ?_|fail
      repeat' first|refine ⟨fun h=>?_,fun h=>?_⟩|refine aX ?_|fail
      have cc:=f1 k1.1 k1.2
      simp only [rowT,fnT] at cc
      refine TR.call [(900,rowT r)] [(900,rowT r1)] _ [] (by rw [hP];exact cc) (by repeat' first|exact trivial|(intro _;assumption)|apply And.intro) (hin1 rfl) (by simp [keysO]) (by simp) ?_
      clear cc
      simp only [rowT,x,y,z,vcd,↓vcp,seval]
      repeat' first|refine ⟨fun h=>?_,fun h=>?_⟩|refine aX ?_|fail
      have cc:=f2 k2.1 k2.2
      simp only [rowT,fnT] at cc
      refine TR.call [(900,rowT r1)] [(900,rowT r2)] _ [] (by rw [hP];exact cc) (by repeat' first|exact trivial|(intro _;assumption)|apply And.intro) (hin1 rfl) (by simp [keysO]) (by simp) ?_
      clear cc
      simp only [rowT,x,y,z,vcd,↓vcp,seval]
      rw [e3 k3]
      repeat' first|refine ⟨fun h=>?_,fun h=>?_⟩|refine aX ?_|fail
      refine rK' (Wk.refl _ _) ?_
      simp only [enb,vcd,↓vcp,seval]
    ·by_cases k3:mid<en∧en<b
     ·have x:(decide ((e:Int)<(m:Int))&&decide ((m:Int)<(en:Int)))=true:=by rw [Bool.and_eq_true,decide_eq_true_eq,decide_eq_true_eq];omega
      have y:(decide ((a:Int)<(e:Int))&&decide ((e:Int)<(mid:Int)))=false:=by rw [Bool.and_eq_false_iff,decide_eq_false_iff_not,decide_eq_false_iff_not];omega
      have z:(decide ((mid:Int)<(en:Int))&&decide ((en:Int)<(b:Int)))=true:=by rw [Bool.and_eq_true,decide_eq_true_eq,decide_eq_true_eq];omega
      simp only [rowT,fnT,d2,w5,x,y,z,vcd,↓vcp,seval]
      repeat' first|refine ⟨fun h=>?_,fun h=>?_⟩|refine aX ?_|fail
      repeat' first|refine ⟨fun h=>?_,fun h=>?_⟩|refine aX ?_|fail
      have cc:=f1 k1.1 k1.2
      simp only [rowT,fnT] at cc
      refine TR.call [(900,rowT r)] [(900,rowT r1)] _ [] (by rw [hP];exact cc) (by repeat' first|exact trivial|(intro _;assumption)|apply And.intro) (hin1 rfl) (by simp [keysO]) (by simp) ?_
      clear cc
      simp only [rowT,x,y,z,vcd,↓vcp,seval]
      rw [e2 k2]
      repeat' first|refine ⟨fun h=>?_,fun h=>?_⟩|refine aX ?_|fail
      have cc:=f3 k3.1 k3.2
      simp only [rowT,fnT] at cc
      refine TR.call [(900,rowT r2)] [(900,rowT (P++(mrg (ltT cf) A B++S)))] _ [] (by rw [hP];exact cc) (by repeat' first|exact trivial|(intro _;assumption)|apply And.intro) (hin1 rfl) (by simp [keysO]) (by simp) ?_
      clear cc
      simp only [rowT,x,y,z,vcd,↓vcp,seval]
      repeat' first|refine ⟨fun h=>?_,fun h=>?_⟩|refine aX ?_|fail
      refine rK' (Wk.refl _ _) ?_
      simp only [enb,vcd,↓vcp,seval]
     ·have x:(decide ((e:Int)<(m:Int))&&decide ((m:Int)<(en:Int)))=true:=by rw [Bool.and_eq_true,decide_eq_true_eq,decide_eq_true_eq];omega
      have y:(decide ((a:Int)<(e:Int))&&decide ((e:Int)<(mid:Int)))=false:=by rw [Bool.and_eq_false_iff,decide_eq_false_iff_not,decide_eq_false_iff_not];omega
      have z:(decide ((mid:Int)<(en:Int))&&decide ((en:Int)<(b:Int)))=false:=by rw [Bool.and_eq_false_iff,decide_eq_false_iff_not,decide_eq_false_iff_not];omega
      simp only [rowT,fnT,d2,w5,x,y,z,vcd,↓vcp,seval]
      repeat' first|refine ⟨fun h=>?_,fun h=>?_⟩|refine aX ?_|fail
      repeat' first|refine ⟨fun h=>?_,fun h=>?_⟩|refine aX ?_|fail
      have cc:=f1 k1.1 k1.2
      simp only [rowT,fnT] at cc
      refine TR.call [(900,rowT r)] [(900,rowT r1)] _ [] (by rw [hP];exact cc) (by repeat' first|exact trivial|(intro _;assumption)|apply And.intro) (hin1 rfl) (by simp [keysO]) (by simp) ?_
      clear cc
      simp only [rowT,x,y,z,vcd,↓vcp,seval]
      rw [e2 k2]
      rw [e3 k3]
      repeat' first|refine ⟨fun h=>?_,fun h=>?_⟩|refine aX ?_|fail
      refine rK' (Wk.refl _ _) ?_
      simp only [enb,vcd,↓vcp,seval]
   ·by_cases k2:a<e∧e<mid
    ·by_cases k3:mid<en∧en<b
     ·have x:(decide ((e:Int)<(m:Int))&&decide ((m:Int)<(en:Int)))=false:=by rw [Bool.and_eq_false_iff,decide_eq_false_iff_not,decide_eq_false_iff_not];omega
      have y:(decide ((a:Int)<(e:Int))&&decide ((e:Int)<(mid:Int)))=true:=by rw [Bool.and_eq_true,decide_eq_true_eq,decide_eq_true_eq];omega
      have z:(decide ((mid:Int)<(en:Int))&&decide ((en:Int)<(b:Int)))=true:=by rw [Bool.and_eq_true,decide_eq_true_eq,decide_eq_true_eq];omega
      simp only [rowT,fnT,d2,w5,x,y,z,vcd,↓vcp,seval]
      repeat' first|refine ⟨fun h=>?_,fun h=>?_⟩|refine aX ?_|fail
      rw [e1 k1]
      repeat' first|refine ⟨fun h=>?_,fun h=>?_⟩|refine aX ?_|fail
      have cc:=f2 k2.1 k2.2
      simp only [rowT,fnT] at cc
      refine TR.call [(900,rowT r1)] [(900,rowT r2)] _ [] (by rw [hP];exact cc) (by repeat' first|exact trivial|(intro _;assumption)|apply And.intro) (hin1 rfl) (by simp [keysO]) (by simp) ?_
      clear cc
      simp only [rowT,x,y,z,vcd,↓vcp,seval]
      repeat' first|refine ⟨fun h=>?_,fun h=>?_⟩|refine aX ?_|fail
      have cc:=f3 k3.1 k3.2
      simp only [rowT,fnT] at cc
      refine TR.call [(900,rowT r2)] [(900,rowT (P++(mrg (ltT cf) A B++S)))] _ [] (by rw [hP];exact cc) (by repeat' first|exact trivial|(intro _;assumption)|apply And.intro) (hin1 rfl) (by simp [keysO]) (by simp) ?_
      clear cc
      simp only [rowT,x,y,z,vcd,↓vcp,seval]
      repeat' first|refine ⟨fun h=>?_,fun h=>?_⟩|refine aX ?_|fail
      refine rK' (Wk.refl _ _) ?_
      simp only [enb,vcd,↓vcp,seval]
     ·have x:(decide ((e:Int)<(m:Int))&&decide ((m:Int)<(en:Int)))=false:=by rw [Bool.and_eq_false_iff,decide_eq_false_iff_not,decide_eq_false_iff_not];omega
      have y:(decide ((a:Int)<(e:Int))&&decide ((e:Int)<(mid:Int)))=true:=by rw [Bool.and_eq_true,decide_eq_true_eq,decide_eq_true_eq];omega
      have z:(decide ((mid:Int)<(en:Int))&&decide ((en:Int)<(b:Int)))=false:=by rw [Bool.and_eq_false_iff,decide_eq_false_iff_not,decide_eq_false_iff_not];omega
      simp only [rowT,fnT,d2,w5,x,y,z,vcd,↓vcp,seval]
      repeat' first|refine ⟨fun h=>?_,fun h=>?_⟩|refine aX ?_|fail
      rw [e1 k1]
      repeat' first|refine ⟨fun h=>?_,fun h=>?_⟩|refine aX ?_|fail
      have cc:=f2 k2.1 k2.2
      simp only [rowT,fnT] at cc
      refine TR.call [(900,rowT r1)] [(900,rowT r2)] _ [] (by rw [hP];exact cc) (by repeat' first|exact trivial|(intro _;assumption)|apply And.intro) (hin1 rfl) (by simp [keysO]) (by simp) ?_
      clear cc
      simp only [rowT,x,y,z,vcd,↓vcp,seval]
      rw [e3 k3]
      repeat' first|refine ⟨fun h=>?_,fun h=>?_⟩|refine aX ?_|fail
      refine rK' (Wk.refl _ _) ?_
      simp only [enb,vcd,↓vcp,seval]
    ·by_cases k3:mid<en∧en<b
     ·have x:(decide ((e:Int)<(m:Int))&&decide ((m:Int)<(en:Int)))=false:=by rw [Bool.and_eq_false_iff,decide_eq_false_iff_not,decide_eq_false_iff_not];omega
      have y:(decide ((a:Int)<(e:Int))&&decide ((e:Int)<(mid:Int)))=false:=by rw [Bool.and_eq_false_iff,decide_eq_false_iff_not,decide_eq_false_iff_not];omega
      have z:(decide ((mid:Int)<(en:Int))&&decide ((en:Int)<(b:Int)))=true:=by rw [Bool.and_eq_true,decide_eq_true_eq,decide_eq_true_eq];omega
      simp only [rowT,fnT,d2,w5,x,y,z,vcd,↓vcp,seval]
      repeat' first|refine ⟨fun h=>?_,fun h=>?_⟩|refine aX ?_|fail
      rw [e1 k1]
      rw [e2 k2]
      repeat' first|refine ⟨fun h=>?_,fun h=>?_⟩|refine aX ?_|fail
      have cc:=f3 k3.1 k3.2
      simp only [rowT,fnT] at cc
      refine TR.call [(900,rowT r2)] [(900,rowT (P++(mrg (ltT cf) A B++S)))] _ [] (by rw [hP];exact cc) (by repeat' first|exact trivial|(intro _;assumption)|apply And.intro) (hin1 rfl) (by simp [keysO]) (by simp) ?_
      clear cc
      simp only [rowT,x,y,z,vcd,↓vcp,seval]
      repeat' first|refine ⟨fun h=>?_,fun h=>?_⟩|refine aX ?_|fail
      refine rK' (Wk.refl _ _) ?_
      simp only [enb,vcd,↓vcp,seval]
     ·have x:(decide ((e:Int)<(m:Int))&&decide ((m:Int)<(en:Int)))=false:=by rw [Bool.and_eq_false_iff,decide_eq_false_iff_not,decide_eq_false_iff_not];omega
      have y:(decide ((a:Int)<(e:Int))&&decide ((e:Int)<(mid:Int)))=false:=by rw [Bool.and_eq_false_iff,decide_eq_false_iff_not,decide_eq_false_iff_not];omega
      have z:(decide ((mid:Int)<(en:Int))&&decide ((en:Int)<(b:Int)))=false:=by rw [Bool.and_eq_false_iff,decide_eq_false_iff_not,decide_eq_false_iff_not];omega
      simp only [rowT,fnT,d2,w5,x,y,z,vcd,↓vcp,seval]
      repeat' first|refine ⟨fun h=>?_,fun h=>?_⟩|refine aX ?_|fail
      rw [e1 k1]
      rw [e2 k2]
      rw [e3 k3]
      repeat' first|refine ⟨fun h=>?_,fun h=>?_⟩|refine aX ?_|fail
      refine rK' (Wk.refl _ _) ?_
      simp only [enb,vcd,↓vcp,seval]
 ·have d1:decide ((m:Int)>(mid:Int))=false:=decide_eq_false (by omega)
  obtain ⟨x1,x2⟩:=x2 hgt
  simp only [namesL,V.names,ownNames,rowT,fnT,wa,wb,wm,w1,w2,w3,d1,vcd,↓vcp,seval]
  repeat' first|refine ⟨fun h=>?_,fun h=>?_⟩|refine aX ?_|fail
  refine vcC.loop (X:=Nat×Nat) (fun x=>⟨[(0,.osl 900),(1,.d (.int .i64 (a:Int))),(2,.d (.int .i64 (m:Int))),(3,.d (.int .i64 (b:Int))),(4,fnT g),(18,.d (.int .i64 (mid:Int))),(19,.d (.int .i64 ((mid+m:Nat):Int))),(20,.d (.int .i64 (x.1:Nat))),(21,.d (.int .i64 (x.2:Nat))),(22,.d (.int .i64 ((mid+m-1:Nat):Int)))],[(900,rowT r)],[900]⟩)
   (fun x=>lo≤x.1∧x.1≤x.2∧x.2≤hi∧(lo<x.1→ltT cf (B.getD (mid-x.1) sd) (A.getD (x.1-1-a) sd)=false)∧(x.2<hi→ltT cf (B.getD (mid-1-x.2) sd) (A.getD (x.2-a) sd)=true)) (fun x=>x.2-x.1) (lo,hi) ⟨Nat.le_refl _,by simp only;omega,Nat.le_refl _,fun h=>absurd h (Nat.lt_irrefl _),fun h=>absurd h (Nat.lt_irrefl _)⟩ (Wk.of _ hfn rfl (by simp only [fnT,wm,w1,w2,w3,enb,vcd,↓vcp,seval]<;>omega) (by simp only [rowT,enb,vcd,↓vcp,seval])) ?_
  rintro ⟨s,e⟩ ⟨h1,h2,h3,h4,h5⟩
  simp only at h1 h2 h3 h4 h5
  by_cases hij:s<e
  ·have d2:decide ((s:Int)<(e:Int))=true:=decide_eq_true (by omega)
   have wq:=midWT (i:=s) (j:=e) (by omega)
   obtain ⟨q,hh⟩:∃ q,q=(s+e) / 2:=⟨_,rfl⟩
   have hb1:s≤q∧q<e:=by omega
   rw [←hh] at wq
   have wp:IntKind.i64.wrap (((mid+m-1:Nat):Int)-(q:Int))=((mid+m-1-q:Nat):Int):=(wI (by omega)).trans (by omega)
   have g1:r.getD (mid+m-1-q) sd=B.getD (mid-1-q) sd:=by rw [←gB _ (by omega)];congr 1;omega
   have g2:r.getD q sd=A.getD (q-a) sd:=by rw [←gA _ (by omega)];congr 1;omega
   have cc:=hc.c _ _ (okB (mid-1-q) (by omega)) (okA (q-a) (by omega))
   have bh:(0:Int)≤((mid+m-1-q:Nat):Int)∧((mid+m-1-q:Nat):Int)<(r.length:Int):=by omega
   have ba:(0:Int)≤(q:Int)∧(q:Int)<(r.length:Int):=by omega
   have w4:IntKind.i64.wrap ((q:Int)+1)=((q+1:Nat):Int):=wS (by omega)
   simp only [rowT,fnT,d2,wq,wp,g1,g2,vcd,↓vcp,seval]
   repeat' first|(refine tq hP (h:=⟨_,fun _=>by exact cc,?_⟩);try simp only [wq,wp,g1,g2,vcd,↓vcp,seval])|refine ⟨fun h=>?_,fun h=>?_⟩|refine aX ?_|fail
   ·exact lopK.on (q+1,e) ⟨by simp only;omega,by simp only;omega,h3,fun _=>by rw [show mid-(q+1)=mid-1-q by omega,show q+1-1-a=q-a by omega];simpa [ltT] using h,h5⟩ (by simp only;omega) (Wk.of _ hfn rfl (by simp only [fnT,w4,enb,vcd,↓vcp,seval]) (by simp only [rowT,enb,vcd,↓vcp,seval]))
   ·exact lopK.on (s,q) ⟨h1,by simp only;omega,by simp only;omega,h4,fun _=>by simpa [ltT] using h⟩ (by simp only;omega) (Wk.of _ hfn rfl (by simp only [fnT,enb,vcd,↓vcp,seval]) (by simp only [rowT,enb,vcd,↓vcp,seval]))
  ·have d2:decide ((s:Int)<(e:Int))=false:=decide_eq_false (by omega)
   obtain rfl:e=s:=by omega
   have hcut:=hcutW e h1 (by omega) h4 h5
   obtain ⟨en,hen⟩:∃ q,q=mid+m-e:=⟨_,rfl⟩
   have w5:IntKind.i64.wrap (((mid+m:Nat):Int)-(e:Int))=(en:Int):=(wI (by omega)).trans (by omega)
   obtain ⟨r1,r2,f1,e1,f2,e2,f3,e3⟩:=symEnT hc ih P A B S a m b ha hm hb hN hA hB sA sB hok hl (e:=e) (mid:=mid) (en:=en) (by omega) (by omega) (by omega) (by omega) (by omega) (by omega) (by omega) hcut
   rw [←hr] at f1 e1
   clear hcut hcutW h1 h2 h3 h4 h5 hij wm w1 w2 w3 wa wb hen hlo3 hrl gA gB okA okB ih hN hA hB sA sB hok hl x1 x2 hr d1 hgt ha hm hb hA1 hB1
   by_cases k1:e<m∧m<en
   ·by_cases k2:a<e∧e<mid
    ·by_cases k3:mid<en∧en<b
     ·have x:(decide ((e:Int)<(m:Int))&&decide ((m:Int)<(en:Int)))=true:=by rw [Bool.and_eq_true,decide_eq_true_eq,decide_eq_true_eq];omega
      have y:(decide ((a:Int)<(e:Int))&&decide ((e:Int)<(mid:Int)))=true:=by rw [Bool.and_eq_true,decide_eq_true_eq,decide_eq_true_eq];omega
      have z:(decide ((mid:Int)<(en:Int))&&decide ((en:Int)<(b:Int)))=true:=by rw [Bool.and_eq_true,decide_eq_true_eq,decide_eq_true_eq];omega
      simp only [rowT,fnT,d2,w5,x,y,z,vcd,↓vcp,seval]
      repeat' first|refine ⟨fun h=>?_,fun h=>?_⟩|refine aX ?_|fail
      repeat' first|refine ⟨fun h=>?_,fun h=>?_⟩|refine aX ?_|fail
      have cc:=f1 k1.1 k1.2
      simp only [rowT,fnT] at cc
      refine TR.call [(900,rowT r)] [(900,rowT r1)] _ [] (by rw [hP];exact cc) (by repeat' first|exact trivial|(intro _;assumption)|apply And.intro) (hin1 rfl) (by simp [keysO]) (by simp) ?_
      clear cc
      simp only [rowT,x,y,z,vcd,↓vcp,seval]
      repeat' first|refine ⟨fun h=>?_,fun h=>?_⟩|refine aX ?_|fail
      have cc:=f2 k2.1 k2.2
      simp only [rowT,fnT] at cc
      refine TR.call [(900,rowT r1)] [(900,rowT r2)] _ [] (by rw [hP];exact cc) (by repeat' first|exact trivial|(intro _;assumption)|apply And.intro) (hin1 rfl) (by simp [keysO]) (by simp) ?_
      clear cc
      simp only [rowT,x,y,z,vcd,↓vcp,seval]
      repeat' first|refine ⟨fun h=>?_,fun h=>?_⟩|refine aX ?_|fail
      have cc:=f3 k3.1 k3.2
      simp only [rowT,fnT] at cc
      refine TR.call [(900,rowT r2)] [(900,rowT (P++(mrg (ltT cf) A B++S)))] _ [] (by rw [hP];exact cc) (by repeat' first|exact trivial|(intro _;assumption)|apply And.intro) (hin1 rfl) (by simp [keysO]) (by simp) ?_
      clear cc
      simp only [rowT,x,y,z,vcd,↓vcp,seval]
      repeat' first|refine ⟨fun h=>?_,fun h=>?_⟩|refine aX ?_|fail
      refine rK' (Wk.refl _ _) ?_
      simp only [enb,vcd,↓vcp,seval]
     ·have x:(decide ((e:Int)<(m:Int))&&decide ((m:Int)<(en:Int)))=true:=by rw [Bool.and_eq_true,decide_eq_true_eq,decide_eq_true_eq];omega
      have y:(decide ((a:Int)<(e:Int))&&decide ((e:Int)<(mid:Int)))=true:=by rw [Bool.and_eq_true,decide_eq_true_eq,decide_eq_true_eq];omega
      have z:(decide ((mid:Int)<(en:Int))&&decide ((en:Int)<(b:Int)))=false:=by rw [Bool.and_eq_false_iff,decide_eq_false_iff_not,decide_eq_false_iff_not];omega
      simp only [rowT,fnT,d2,w5,x,y,z,vcd,↓vcp,seval]
      repeat' first|refine ⟨fun h=>?_,fun h=>?_⟩|refine aX ?_|fail
      repeat' first|refine ⟨fun h=>?_,fun h=>?_⟩|refine aX ?_|fail
      have cc:=f1 k1.1 k1.2
      simp only [rowT,fnT] at cc
      refine TR.call [(900,rowT r)] [(900,rowT r1)] _ [] (by rw [hP];exact cc) (by repeat' first|exact trivial|(intro _;assumption)|apply And.intro) (hin1 rfl) (by simp [keysO]) (by simp) ?_
      clear cc
      simp only [rowT,x,y,z,vcd,↓vcp,seval]
      repeat' first|refine ⟨fun h=>?_,fun h=>?_⟩|refine aX ?_|fail
      have cc:=f2 k2.1 k2.2
      simp only [rowT,fnT] at cc
      refine TR.call [(900,rowT r1)] [(900,rowT r2)] _ [] (by rw [hP];exact cc) (by repeat' first|exact trivial|(intro _;assumption)|apply And.intro) (hin1 rfl) (by simp [keysO]) (by simp) ?_
      clear cc
      simp only [rowT,x,y,z,vcd,↓vcp,seval]
      rw [e3 k3]
      repeat' first|refine ⟨fun h=>?_,fun h=>?_⟩|refine aX ?_|fail
      refine rK' (Wk.refl _ _) ?_
      simp only [enb,vcd,↓vcp,seval]
    ·by_cases k3:mid<en∧en<b
     ·have x:(decide ((e:Int)<(m:Int))&&decide ((m:Int)<(en:Int)))=true:=by rw [Bool.and_eq_true,decide_eq_true_eq,decide_eq_true_eq];omega
      have y:(decide ((a:Int)<(e:Int))&&decide ((e:Int)<(mid:Int)))=false:=by rw [Bool.and_eq_false_iff,decide_eq_false_iff_not,decide_eq_false_iff_not];omega
      have z:(decide ((mid:Int)<(en:Int))&&decide ((en:Int)<(b:Int)))=true:=by rw [Bool.and_eq_true,decide_eq_true_eq,decide_eq_true_eq];omega
      simp only [rowT,fnT,d2,w5,x,y,z,vcd,↓vcp,seval]
      repeat' first|refine ⟨fun h=>?_,fun h=>?_⟩|refine aX ?_|fail
      repeat' first|refine ⟨fun h=>?_,fun h=>?_⟩|refine aX ?_|fail
      have cc:=f1 k1.1 k1.2
      simp only [rowT,fnT] at cc
      refine TR.call [(900,rowT r)] [(900,rowT r1)] _ [] (by rw [hP];exact cc) (by repeat' first|exact trivial|(intro _;assumption)|apply And.intro) (hin1 rfl) (by simp [keysO]) (by simp) ?_
      clear cc
      simp only [rowT,x,y,z,vcd,↓vcp,seval]
      rw [e2 k2]
      repeat' first|refine ⟨fun h=>?_,fun h=>?_⟩|refine aX ?_|fail
      have cc:=f3 k3.1 k3.2
      simp only [rowT,fnT] at cc
      refine TR.call [(900,rowT r2)] [(900,rowT (P++(mrg (ltT cf) A B++S)))] _ [] (by rw [hP];exact cc) (by repeat' first|exact trivial|(intro _;assumption)|apply And.intro) (hin1 rfl) (by simp [keysO]) (by simp) ?_
      clear cc
      simp only [rowT,x,y,z,vcd,↓vcp,seval]
      repeat' first|refine ⟨fun h=>?_,fun h=>?_⟩|refine aX ?_|fail
      refine rK' (Wk.refl _ _) ?_
      simp only [enb,vcd,↓vcp,seval]
     ·have x:(decide ((e:Int)<(m:Int))&&decide ((m:Int)<(en:Int)))=true:=by rw [Bool.and_eq_true,decide_eq_true_eq,decide_eq_true_eq];omega
      have y:(decide ((a:Int)<(e:Int))&&decide ((e:Int)<(mid:Int)))=false:=by rw [Bool.and_eq_false_iff,decide_eq_false_iff_not,decide_eq_false_iff_not];omega
      have z:(decide ((mid:Int)<(en:Int))&&decide ((en:Int)<(b:Int)))=false:=by rw [Bool.and_eq_false_iff,decide_eq_false_iff_not,decide_eq_false_iff_not];omega
      simp only [rowT,fnT,d2,w5,x,y,z,vcd,↓vcp,seval]
      repeat' first|refine ⟨fun h=>?_,fun h=>?_⟩|refine aX ?_|fail
      repeat' first|refine ⟨fun h=>?_,fun h=>?_⟩|refine aX ?_|fail
      have cc:=f1 k1.1 k1.2
      simp only [rowT,fnT] at cc
      refine TR.call [(900,rowT r)] [(900,rowT r1)] _ [] (by rw [hP];exact cc) (by repeat' first|exact trivial|(intro _;assumption)|apply And.intro) (hin1 rfl) (by simp [keysO]) (by simp) ?_
      clear cc
      simp only [rowT,x,y,z,vcd,↓vcp,seval]
      rw [e2 k2]
      rw [e3 k3]
      repeat' first|refine ⟨fun h=>?_,fun h=>?_⟩|refine aX ?_|fail
      refine rK' (Wk.refl _ _) ?_
      simp only [enb,vcd,↓vcp,seval]
   ·by_cases k2:a<e∧e<mid
    ·by_cases k3:mid<en∧en<b
     ·have x:(decide ((e:Int)<(m:Int))&&decide ((m:Int)<(en:Int)))=false:=by rw [Bool.and_eq_false_iff,decide_eq_false_iff_not,decide_eq_false_iff_not];omega
      have y:(decide ((a:Int)<(e:Int))&&decide ((e:Int)<(mid:Int)))=true:=by rw [Bool.and_eq_true,decide_eq_true_eq,decide_eq_true_eq];omega
      have z:(decide ((mid:Int)<(en:Int))&&decide ((en:Int)<(b:Int)))=true:=by rw [Bool.and_eq_true,decide_eq_true_eq,decide_eq_true_eq];omega
      simp only [rowT,fnT,d2,w5,x,y,z,vcd,↓vcp,seval]
      repeat' first|refine ⟨fun h=>?_,fun h=>?_⟩|refine aX ?_|fail
      rw [e1 k1]
      repeat' first|refine ⟨fun h=>?_,fun h=>?_⟩|refine aX ?_|fail
      have cc:=f2 k2.1 k2.2
      simp only [rowT,fnT] at cc
      refine TR.call [(900,rowT r1)] [(900,rowT r2)] _ [] (by rw [hP];exact cc) (by repeat' first|exact trivial|(intro _;assumption)|apply And.intro) (hin1 rfl) (by simp [keysO]) (by simp) ?_
      clear cc
      simp only [rowT,x,y,z,vcd,↓vcp,seval]
      repeat' first|refine ⟨fun h=>?_,fun h=>?_⟩|refine aX ?_|fail
      have cc:=f3 k3.1 k3.2
      simp only [rowT,fnT] at cc
      refine TR.call [(900,rowT r2)] [(900,rowT (P++(mrg (ltT cf) A B++S)))] _ [] (by rw [hP];exact cc) (by repeat' first|exact trivial|(intro _;assumption)|apply And.intro) (hin1 rfl) (by simp [keysO]) (by simp) ?_
      clear cc
      simp only [rowT,x,y,z,vcd,↓vcp,seval]
      repeat' first|refine ⟨fun h=>?_,fun h=>?_⟩|refine aX ?_|fail
      refine rK' (Wk.refl _ _) ?_
      simp only [enb,vcd,↓vcp,seval]
     ·have x:(decide ((e:Int)<(m:Int))&&decide ((m:Int)<(en:Int)))=false:=by rw [Bool.and_eq_false_iff,decide_eq_false_iff_not,decide_eq_false_iff_not];omega
      have y:(decide ((a:Int)<(e:Int))&&decide ((e:Int)<(mid:Int)))=true:=by rw [Bool.and_eq_true,decide_eq_true_eq,decide_eq_true_eq];omega
      have z:(decide ((mid:Int)<(en:Int))&&decide ((en:Int)<(b:Int)))=false:=by rw [Bool.and_eq_false_iff,decide_eq_false_iff_not,decide_eq_false_iff_not];omega
      simp only [rowT,fnT,d2,w5,x,y,z,vcd,↓vcp,seval]
      repeat' first|refine ⟨fun h=>?_,fun h=>?_⟩|refine aX ?_|fail
      rw [e1 k1]
      repeat' first|refine ⟨fun h=>?_,fun h=>?_⟩|refine aX ?_|fail
      have cc:=f2 k2.1 k2.2
      simp only [rowT,fnT] at cc
      refine TR.call [(900,rowT r1)] [(900,rowT r2)] _ [] (by rw [hP];exact cc) (by repeat' first|exact trivial|(intro _;assumption)|apply And.intro) (hin1 rfl) (by simp [keysO]) (by simp) ?_
      clear cc
      simp only [rowT,x,y,z,vcd,↓vcp,seval]
      rw [e3 k3]
      repeat' first|refine ⟨fun h=>?_,fun h=>?_⟩|refine aX ?_|fail
      refine rK' (Wk.refl _ _) ?_
      simp only [enb,vcd,↓vcp,seval]
    ·by_cases k3:mid<en∧en<b
     ·have x:(decide ((e:Int)<(m:Int))&&decide ((m:Int)<(en:Int)))=false:=by rw [Bool.and_eq_false_iff,decide_eq_false_iff_not,decide_eq_false_iff_not];omega
      have y:(decide ((a:Int)<(e:Int))&&decide ((e:Int)<(mid:Int)))=false:=by rw [Bool.and_eq_false_iff,decide_eq_false_iff_not,decide_eq_false_iff_not];omega
      have z:(decide ((mid:Int)<(en:Int))&&decide ((en:Int)<(b:Int)))=true:=by rw [Bool.and_eq_true,decide_eq_true_eq,decide_eq_true_eq];omega
      simp only [rowT,fnT,d2,w5,x,y,z,vcd,↓vcp,seval]
      repeat' first|refine ⟨fun h=>?_,fun h=>?_⟩|refine aX ?_|fail
      rw [e1 k1]
      rw [e2 k2]
      repeat' first|refine ⟨fun h=>?_,fun h=>?_⟩|refine aX ?_|fail
      have cc:=f3 k3.1 k3.2
      simp only [rowT,fnT] at cc
      refine TR.call [(900,rowT r2)] [(900,rowT (P++(mrg (ltT cf) A B++S)))] _ [] (by rw [hP];exact cc) (by repeat' first|exact trivial|(intro _;assumption)|apply And.intro) (hin1 rfl) (by simp [keysO]) (by simp) ?_
      clear cc
      simp only [rowT,x,y,z,vcd,↓vcp,seval]
      repeat' first|refine ⟨fun h=>?_,fun h=>?_⟩|refine aX ?_|fail
      refine rK' (Wk.refl _ _) ?_
      simp only [enb,vcd,↓vcp,seval]
     ·have x:(decide ((e:Int)<(m:Int))&&decide ((m:Int)<(en:Int)))=false:=by rw [Bool.and_eq_false_iff,decide_eq_false_iff_not,decide_eq_false_iff_not];omega
      have y:(decide ((a:Int)<(e:Int))&&decide ((e:Int)<(mid:Int)))=false:=by rw [Bool.and_eq_false_iff,decide_eq_false_iff_not,decide_eq_false_iff_not];omega
      have z:(decide ((mid:Int)<(en:Int))&&decide ((en:Int)<(b:Int)))=false:=by rw [Bool.and_eq_false_iff,decide_eq_false_iff_not,decide_eq_false_iff_not];omega
      simp only [rowT,fnT,d2,w5,x,y,z,vcd,↓vcp,seval]
      repeat' first|refine ⟨fun h=>?_,fun h=>?_⟩|refine aX ?_|fail
      rw [e1 k1]
      rw [e2 k2]
      rw [e3 k3]
      repeat' first|refine ⟨fun h=>?_,fun h=>?_⟩|refine aX ?_|fail
      refine rK' (Wk.refl _ _) ?_
      simp only [enb,vcd,↓vcp,seval]
theorem tSym {g:Nat} {cf:Stp'→Stp'→Int} {ok:Stp'→Prop} (hc:CmpT g cf ok):∀ N,SymT g cf ok N
 |0=>fun P A B S a m b _ _ _ h0 hA hB=>by omega
 |N+1=>fun P A B S a m b ha hm hb hN hA hB sA sB hok hl=>by
  by_cases hA1:A.length=1
  ·exact tSymA hc P A B S a m b ha hm hb hA hB sA sB hok hl hA1
  ·by_cases hB1:B.length=1
   ·exact tSymB hc P A B S a m b ha hm hb hA hB sA sB hok hl hA1 hB1
   ·exact tSymM hc (tSym hc N) P A B S a m b ha hm hb hN hA hB sA sB hok hl hA1 hB1
end Go.Proofs.YtmccbkekpjgdbaaGreat
end
section
namespace Go.Proofs.YtmccbkekpjgdbaaGreat
open Go.Bx
section
variable {X:Type} (lt:X→X→Bool)
def sbl (w:Nat):Nat→List X→List X
 |0,l=>srt lt [] l
 |f+1,l=>if l.length≤w then srt lt [] l else srt lt [] (l.take w)++sbl w f (l.drop w)
def sb (w:Nat) (l:List X):List X:=sbl lt w l.length l
variable {lt}
theorem sbl_fuel {w:Nat} (hw:0<w):∀ (f g:Nat) (l:List X),l.length≤f→l.length≤g→sbl lt w f l=sbl lt w g l
 |0,0,_,_,_=>rfl
 |0,g+1,l,h,_=>by rw [sbl,sbl,if_pos (by omega)]
 |f+1,0,l,_,h=>by rw [sbl,sbl,if_pos (by omega)]
 |f+1,g+1,l,h1,h2=>by
  rw [sbl,sbl]
  split
  ·rfl
  ·rw [sbl_fuel hw f g (l.drop w) (by rw [List.length_drop];omega) (by rw [List.length_drop];omega)]
theorem sb_small {w:Nat} {l:List X} (h:l.length≤w):sb lt w l=srt lt [] l:=by
 unfold sb
 cases hl:l.length with
 |zero=>rfl
 |succ n=>rw [sbl,if_pos h]
theorem sb_step {w:Nat} (hw:0<w) {l:List X} (h:w≤l.length):sb lt w l=srt lt [] (l.take w)++sb lt w (l.drop w):=by
 rcases Nat.lt_or_eq_of_le h with h|h
 ·unfold sb
  obtain ⟨n,hn⟩:∃ n,l.length=n+1:=⟨l.length-1,by omega⟩
  rw [hn,sbl,if_neg (by omega),sbl_fuel hw n (l.drop w).length (l.drop w) (by rw [List.length_drop];omega) (Nat.le_refl _)]
 ·have e1:l.take w=l:=List.take_of_length_le (by omega)
  have e2:l.drop w=[]:=List.drop_eq_nil_of_le (by omega)
  rw [sb_small (by omega),e1,e2,sb_small (by simp)]
  simp [srt]
theorem sb_len {w:Nat} (hw:0<w):∀ (f:Nat) (l:List X),(sbl lt w f l).length=l.length
 |0,l=>by rw [sbl,srt_len];simp
 |f+1,l=>by
  rw [sbl]
  split
  ·rw [srt_len];simp
  ·rw [List.length_append,srt_len,sb_len hw f];simp;omega
end
end Go.Proofs.YtmccbkekpjgdbaaGreat
end
section
namespace Go.Proofs.YtmccbkekpjgdbaaGreat
open Go.Bx
set_option maxRecDepth 10000
set_option maxHeartbeats 2000000 in
theorem tStable {g:Nat} {cf:Stp'→Stp'→Int} {ok:Stp'→Prop} (hc:CmpT g cf ok) (L:List Stp') (hok:∀ x,x∈L→ok x) (hl:L.length≤1000000) :
  Ctr Tryz.prog 47 [.osl 900,.d (.int .i64 (L.length:Int)),fnT g] [(900,rowT L)] (.tup []) [(900,rowT (srt (ltT cf) [] L))] []:=by
 refine qO Tryz.func47 ?_
 intro c hP hfn
 obtain ⟨n,hn⟩:∃ n,n=L.length:=⟨_,rfl⟩
 rw [←hn]
 simp only [namesL,V.names,ownNames,rowT,fnT,vcd,↓vcp,seval]
 refine vcC.loop (X:=Nat×List Stp') (fun x=>⟨[(0,.osl 900),(1,.d (.int .i64 (n:Int))),(2,fnT g),(6,.d (.int .i64 20)),(7,.d (.int .i64 (x.1:Nat))),(8,.d (.int .i64 ((x.1+20:Nat):Int)))],[(900,rowT x.2)],[900]⟩)
  (fun x=>∃ P Z,x.1=P.length∧P.length+Z.length=n∧x.2=P++Z∧(∀ y,y∈Z→ok y)∧sb (ltT cf) 20 L=P++sb (ltT cf) 20 Z) (fun x=>n-x.1) (0,L) ⟨[],L,rfl,by simp [hn],rfl,hok,rfl⟩ (Wk.of _ hfn rfl (by simp only [fnT,enb,vcd,↓vcp,seval]) (by simp only [rowT,enb,vcd,↓vcp,seval])) ?_
 rintro ⟨a,r⟩ ⟨P,Z,ha,hn2,hr,hz,hs⟩
 simp only at ha hr
 by_cases hlt:20≤Z.length
 ·have d0:decide (((a+20:Nat):Int)≤(n:Int))=true:=decide_eq_true (by omega)
  have w1:IntKind.i64.wrap (((a+20:Nat):Int)+20)=((a+20+20:Nat):Int):=(wI (by omega)).trans (by omega)
  have cc:=tInsert hc P (Z.take 20) (Z.drop 20) (fun x hx=>hz x (List.mem_of_mem_take hx)) (by rw [List.length_take,List.length_drop];omega)
  rw [List.take_append_drop,←hr,←ha,List.length_take,Nat.min_eq_left hlt] at cc
  simp only [rowT,fnT] at cc
  simp only [rowT,fnT,d0,vcd,↓vcp,seval]
  repeat' first|refine ⟨fun h=>?_,fun h=>?_⟩|refine aX ?_|fail
  refine TR.call [(900,rowT r)] [(900,rowT (P++(srt (ltT cf) [] (Z.take 20)++Z.drop 20)))] _ [] (by rw [hP];exact cc) (by repeat' first|exact trivial|(intro _;assumption)|apply And.intro) (hin1 rfl) (by simp [keysO]) (by simp) ?_
  simp only [w1,vcd,↓vcp,seval]
  repeat' first|refine ⟨fun h=>?_,fun h=>?_⟩|refine aX ?_|fail
  refine lopK.on (a+20,P++(srt (ltT cf) [] (Z.take 20)++Z.drop 20)) ⟨P++srt (ltT cf) [] (Z.take 20),Z.drop 20,?_,?_,by simp,fun y hy=>hz y (List.mem_of_mem_drop hy),?_⟩ (by simp only;omega) (Wk.of _ hfn rfl (by simp only [fnT,w1,enb,vcd,↓vcp,seval]) (by simp only [rowT,enb,vcd,↓vcp,seval]))
  ·rw [List.length_append,srt_len,List.length_take];simp only [List.length_nil];omega
  ·rw [List.length_append,srt_len,List.length_take,List.length_drop];simp only [List.length_nil];omega
  ·rw [hs,sb_step (by decide) hlt];simp
 ·have d0:decide (((a+20:Nat):Int)≤(n:Int))=false:=decide_eq_false (by omega)
  have cc:=tInsert hc P Z [] hz (by simp only [List.length_nil];omega)
  rw [List.append_nil,←hr,←ha,show a+Z.length=n by omega] at cc
  have hs2:P++(srt (ltT cf) [] Z++[])=sb (ltT cf) 20 L:=by rw [hs,sb_small (by omega)];simp
  rw [hs2] at cc
  simp only [rowT,fnT] at cc
  simp only [rowT,fnT,d0,vcd,↓vcp,seval]
  repeat' first|refine ⟨fun h=>?_,fun h=>?_⟩|refine aX ?_|fail
  refine TR.call [(900,rowT r)] [(900,rowT (sb (ltT cf) 20 L))] _ [] (by rw [hP];exact cc) (by repeat' first|exact trivial|(intro _;assumption)|apply And.intro) (hin1 rfl) (by simp [keysO]) (by simp) ?_
  clear cc hs2 d0 hlt hs hz hr hn2 ha
  simp only [vcd,↓vcp,seval]
  refine vcC.loop (X:=Nat) (fun w=>⟨[(0,.osl 900),(1,.d (.int .i64 (n:Int))),(2,fnT g),(6,.d (.int .i64 (w:Nat)))],[(900,rowT (sb (ltT cf) w L))],[900]⟩)
   (fun w=>0<w∧w≤2*n+20) (fun w=>n-w) 20 ⟨by decide,by omega⟩ (Wk.of _ hfn rfl (by simp only [fnT,enb,vcd,↓vcp,seval]) (by simp only [rowT,enb,vcd,↓vcp,seval])) ?_
  rintro w ⟨hw0,hw1⟩
  by_cases hwn:w<n
  ·have d0:decide ((w:Int)<(n:Int))=true:=decide_eq_true (by omega)
   have w2:IntKind.i64.wrap (2*(w:Int))=((2*w:Nat):Int):=(wI (by omega)).trans (by omega)
   have w3:IntKind.i64.wrap ((w:Int)*2)=((2*w:Nat):Int):=(wI (by omega)).trans (by omega)
   simp only [rowT,fnT,d0,w2,vcd,↓vcp,seval]
   repeat' first|refine ⟨fun h=>?_,fun h=>?_⟩|refine aX ?_|fail
   refine vcC.loop (X:=Nat×List Stp') (fun x=>⟨[(0,.osl 900),(1,.d (.int .i64 (n:Int))),(2,fnT g),(6,.d (.int .i64 (w:Nat))),(7,.d (.int .i64 (x.1:Nat))),(8,.d (.int .i64 ((x.1+2*w:Nat):Int)))],[(900,rowT x.2)],[900]⟩)
    (fun x=>∃ P Z,x.1=P.length∧P.length+Z.length=n∧x.2=P++sb (ltT cf) w Z∧(∀ y,y∈Z→ok y)∧sb (ltT cf) (2*w) L=P++sb (ltT cf) (2*w) Z) (fun x=>n-x.1) (0,sb (ltT cf) w L) ⟨[],L,rfl,by simp [hn],rfl,hok,rfl⟩ (Wk.of _ hfn rfl (by simp only [fnT,Nat.zero_add,enb,vcd,↓vcp,seval]) (by simp only [rowT,enb,vcd,↓vcp,seval])) ?_
   rintro ⟨a,r⟩ ⟨P,Z,ha,hn2,hr,hz,hs⟩
   simp only at ha hr
   have w4:IntKind.i64.wrap ((a:Int)+(w:Int))=((a+w:Nat):Int):=(wI (by omega)).trans (by omega)
   have okT:∀ (M:List Stp'),(∀ x,x∈M→x∈Z)→∀ x,x∈srt (ltT cf) [] M→ok x:=fun M hM x hx=>hz x (hM x (by simpa using (srt_perm (ltT cf) M []).mem_iff.1 hx))
   have slen:∀ (M:List Stp'),(srt (ltT cf) [] M).length=M.length:=fun M=>by rw [srt_len];simp
   by_cases hlt:2*w≤Z.length
   ·have d1:decide (((a+2*w:Nat):Int)≤(n:Int))=true:=decide_eq_true (by omega)
    have w5:IntKind.i64.wrap (((a+2*w:Nat):Int)+((2*w:Nat):Int))=((a+2*w+2*w:Nat):Int):=(wI (by omega)).trans (by omega)
    have e1:sb (ltT cf) w Z=srt (ltT cf) [] (Z.take w)++(srt (ltT cf) [] ((Z.drop w).take w)++sb (ltT cf) w (Z.drop (2*w))):=by
     rw [sb_step hw0 (by omega),sb_step hw0 (l:=Z.drop w) (by rw [List.length_drop];omega),List.drop_drop,show w+w=2*w by omega]
    have e2:mrg (ltT cf) (srt (ltT cf) [] (Z.take w)) (srt (ltT cf) [] ((Z.drop w).take w))=srt (ltT cf) [] (Z.take (2*w)):=by
     rw [srt_two hc.w,show 2*w=w+w by omega,List.take_add]
    have l1:(srt (ltT cf) [] (Z.take w)).length=w:=by rw [slen,List.length_take];omega
    have l2:(srt (ltT cf) [] ((Z.drop w).take w)).length=w:=by rw [slen,List.length_take,List.length_drop];omega
    have l3:(sb (ltT cf) w (Z.drop (2*w))).length=Z.length-2*w:=by rw [sb,sb_len hw0,List.length_drop]
    have cc:=tSym hc (w+w) P (srt (ltT cf) [] (Z.take w)) (srt (ltT cf) [] ((Z.drop w).take w)) (sb (ltT cf) w (Z.drop (2*w))) a (a+w) (a+2*w) ha (by omega) (by omega) (by omega) (by omega) (by omega) (srt_sorted hc.w _ [] List.Pairwise.nil) (srt_sorted hc.w _ [] List.Pairwise.nil)
     (fun x hx=>by
      rcases List.mem_append.1 hx with h|h
      ·exact okT _ (fun y hy=>List.mem_of_mem_take hy) x h
      ·exact okT _ (fun y hy=>List.mem_of_mem_drop (List.mem_of_mem_take hy)) x h) (by omega)
    rw [←e1,←hr,e2] at cc
    simp only [rowT,fnT] at cc
    simp only [rowT,fnT,d1,w2,w4,vcd,↓vcp,seval]
    repeat' first|refine ⟨fun h=>?_,fun h=>?_⟩|refine aX ?_|fail
    refine TR.call [(900,rowT r)] [(900,rowT (P++(srt (ltT cf) [] (Z.take (2*w))++sb (ltT cf) w (Z.drop (2*w)))))] _ [] (by rw [hP];exact cc) (by repeat' first|exact trivial|(intro _;assumption)|apply And.intro) (hin1 rfl) (by simp [keysO]) (by simp) ?_
    clear cc
    simp only [w2,w5,vcd,↓vcp,seval]
    repeat' first|refine ⟨fun h=>?_,fun h=>?_⟩|refine aX ?_|fail
    refine lopK.on (a+2*w,P++(srt (ltT cf) [] (Z.take (2*w))++sb (ltT cf) w (Z.drop (2*w)))) ⟨P++srt (ltT cf) [] (Z.take (2*w)),Z.drop (2*w),?_,?_,by simp,fun y hy=>hz y (List.mem_of_mem_drop hy),?_⟩ (by simp only;omega) (Wk.of _ hfn rfl (by simp only [fnT,w5,enb,vcd,↓vcp,seval]) (by simp only [rowT,enb,vcd,↓vcp,seval]))
    ·rw [List.length_append,slen,List.length_take];simp only;omega
    ·rw [List.length_append,slen,List.length_take,List.length_drop];omega
    ·rw [hs,sb_step (by omega) hlt];simp
   ·have d1:decide (((a+2*w:Nat):Int)≤(n:Int))=false:=decide_eq_false (by omega)
    have e3:sb (ltT cf) (2*w) L=P++srt (ltT cf) [] Z:=by rw [hs,sb_small (by omega)]
    by_cases hm:w<Z.length
    ·have d2:decide (((a+w:Nat):Int)<(n:Int))=true:=decide_eq_true (by omega)
     have e1:sb (ltT cf) w Z=srt (ltT cf) [] (Z.take w)++(srt (ltT cf) [] (Z.drop w)++[]):=by
      rw [sb_step hw0 (by omega),sb_small (l:=Z.drop w) (by rw [List.length_drop];omega),List.append_nil]
     have e2:mrg (ltT cf) (srt (ltT cf) [] (Z.take w)) (srt (ltT cf) [] (Z.drop w))=srt (ltT cf) [] Z:=by
      rw [srt_two hc.w,List.take_append_drop]
     have l1:(srt (ltT cf) [] (Z.take w)).length=w:=by rw [slen,List.length_take];omega
     have l2:(srt (ltT cf) [] (Z.drop w)).length=Z.length-w:=by rw [slen,List.length_drop]
     have cc:=tSym hc (w+w) P (srt (ltT cf) [] (Z.take w)) (srt (ltT cf) [] (Z.drop w)) [] a (a+w) n ha (by omega) (by omega) (by omega) (by omega) (by omega) (srt_sorted hc.w _ [] List.Pairwise.nil) (srt_sorted hc.w _ [] List.Pairwise.nil)
      (fun x hx=>by
       rcases List.mem_append.1 hx with h|h
       ·exact okT _ (fun y hy=>List.mem_of_mem_take hy) x h
       ·exact okT _ (fun y hy=>List.mem_of_mem_drop hy) x h) (by simp only [List.length_nil];omega)
     rw [←e1,←hr,e2,List.append_nil,←e3] at cc
     simp only [rowT,fnT] at cc
     simp only [rowT,fnT,d1,d2,w3,w4,vcd,↓vcp,seval]
     repeat' first|refine ⟨fun h=>?_,fun h=>?_⟩|refine aX ?_|fail
     refine TR.call [(900,rowT r)] [(900,rowT (sb (ltT cf) (2*w) L))] _ [] (by rw [hP];exact cc) (by repeat' first|exact trivial|(intro _;assumption)|apply And.intro) (hin1 rfl) (by simp [keysO]) (by simp) ?_
     clear cc
     simp only [w3,vcd,↓vcp,seval]
     repeat' first|refine ⟨fun h=>?_,fun h=>?_⟩|refine aX ?_|fail
     exact lopK.on (2*w) ⟨by omega,by omega⟩ (by omega) (Wk.of _ hfn rfl (by simp only [fnT,w3,enb,vcd,↓vcp,seval]) (by simp only [rowT,enb,vcd,↓vcp,seval]))
    ·have d2:decide (((a+w:Nat):Int)<(n:Int))=false:=decide_eq_false (by omega)
     have e4:r=sb (ltT cf) (2*w) L:=by rw [hr,e3,sb_small (by omega)]
     simp only [rowT,fnT,d1,d2,w3,w4,vcd,↓vcp,seval]
     repeat' first|refine ⟨fun h=>?_,fun h=>?_⟩|refine aX ?_|fail
     exact lopK.on (2*w) ⟨by omega,by omega⟩ (by omega) (Wk.of _ hfn rfl (by simp only [fnT,w3,enb,vcd,↓vcp,seval]) (by simp only [rowT,e4,enb,vcd,↓vcp,seval]))
  ·have d0:decide ((w:Int)<(n:Int))=false:=decide_eq_false (by omega)
   have e:sb (ltT cf) w L=srt (ltT cf) [] L:=sb_small (by omega)
   simp only [rowT,fnT,d0,e,vcd,↓vcp,seval]
   repeat' first|refine ⟨fun h=>?_,fun h=>?_⟩|refine aX ?_|fail
   refine rK' (Wk.refl _ _) ?_
   simp only [enb,vcd,↓vcp,seval]
theorem tSort {g:Nat} {cf:Stp'→Stp'→Int} {ok:Stp'→Prop} (hc:CmpT g cf ok) (L:List Stp') (hok:∀ x,x∈L→ok x) (hl:L.length≤1000000) :
  Ctr Tryz.prog 20 [.osl 900,fnT g] [(900,rowT L)] (.tup []) [(900,rowT (srt (ltT cf) [] L))] []:=by
 refine qO Tryz.func20 ?_
 intro c hP hfn
 have cc:=tStable hc L hok hl
 simp only [rowT,fnT] at cc
 simp only [namesL,V.names,ownNames,rowT,fnT,vcd,↓vcp,seval]
 refine TR.call [(900,rowT L)] [(900,rowT (srt (ltT cf) [] L))] _ [] (by rw [hP];exact cc) (by repeat' first|exact trivial|(intro _;assumption)|apply And.intro) (hin1 rfl) (by simp [keysO]) (by simp) ?_
 simp only [vcd,↓vcp,seval]
 repeat' first|refine ⟨fun h=>?_,fun h=>?_⟩|refine aX ?_|fail
 refine rK' (Wk.refl _ _) ?_
 simp only [rowT,enb,vcd,↓vcp,seval]
end Go.Proofs.YtmccbkekpjgdbaaGreat
end
section
namespace Go.Proofs.YtmccbkekpjgdbaaGreat
open Go.Bx
set_option maxRecDepth 10000
def orL:List Int→Int
 |[]=>0
 |a::r=>if (a != 0)=true then a else orL r
theorem sOr (l:List Int) (hl:l.length≤1000000):Ctr Tryz.prog 48 [.d (slK .i64 l)] [] (.d (.int .i64 (orL l))) [] []:=by
 refine qP Tryz.func48 fun c hP hfn=>?_;simp only [slK,vcd,↓vcp,seval]
 refine vcC.loop (X:=Nat) (fun k=>⟨[(3,.d (.int .i64 0)),(6,.d (slK .i64 l)),(7,.d (.int .i64 l.length)),(8,.d (.int .i64 (k:Nat)))],[],[]⟩)
  (fun k=>k≤l.length∧orL l=orL (l.drop k)) (fun k=>l.length-k) 0 ⟨Nat.zero_le _,rfl⟩ (Wk.of _ hfn rfl (by simp only [slK,enb,vcd,↓vcp,seval]) (by simp only [enb,vcd,↓vcp,seval])) ?_
 rintro k ⟨hk,he⟩
 by_cases hlt:k<l.length
 ·obtain ⟨a,hd,hg,-,-⟩:=drop_at hlt
  have hg:=hg 0
  have d0:decide ((k:Int)<(l.length:Int))=true:=decide_eq_true (by omega)
  have w1:IntKind.i64.wrap ((k:Int)+1)=((k+1:Nat):Int):=wS (by omega)
  have b1:(0:Int)≤(k:Int)∧(k:Int)<(l.length:Int):=by omega
  rw [hd,orL] at he
  simp only [slK,hg,d0,w1,vcd,↓vcp,seval]
  repeat' first|refine ⟨fun h=>?_,fun h=>?_⟩|refine aX ?_|fail
  ·rw [if_pos h] at he
   (refine rq ?_;first|exact ⟨⟩|rw [he])
  ·rw [if_neg (by rw [h];simp)] at he
   exact lopK.on (k+1) ⟨hlt,he⟩ (by omega) (Wk.of _ hfn rfl (by simp only [slK,w1,enb,vcd,↓vcp,seval]) (by simp only [enb,vcd,↓vcp,seval]))
 ·have hk2:k=l.length:=by omega
  have d0:decide ((k:Int)<(l.length:Int))=false:=decide_eq_false (by omega)
  rw [hk2,List.drop_length,orL] at he
  simp only [slK,d0,vcd,↓vcp,seval]
  repeat' first|refine ⟨fun h=>?_,fun h=>?_⟩|refine aX ?_|fail
  (refine rq ?_;first|exact ⟨⟩|rw [he])
theorem sOr' {full:Bool} {n:Nat} {ds:List D} {l:List Int} (h:LitI .i64 ds l) (hn:n=l.length) (hl:l.length≤1000000):Ctr Tryz.prog 48 [.d (.sl full 1 n (litRow 1 ds))] [] (.d (.int .i64 (orL l))) [] []:=
 (sOr l hl).arg ⟨h.vle hn,trivial⟩
def cmpTs (s t:Stp'):Int:=orL [cmpI s.ac.bk t.ac.bk,cmpI (s.fi:Int) (t.fi:Int)]
theorem sStAhead (s t:Stp'):Ctr Tryz.prog 21 [vT s,vT t] [] (.d (.int .i64 (cmpTs s t))) [] []:=by
 refine qP Tryz.func21 fun c hP hfn=>?_;simp only [vT,vcd,↓vcp,seval]
 repeat' first|(refine tq hP (h:=⟨_,fun _=>by first|exact sCmpI _ _|exact sOr' (by repeat constructor) (by rfl) (by simp),?_⟩);try simp only [vcd,↓vcp,seval])|refine ⟨fun h=>?_,fun h=>?_⟩|refine aX ?_|fail
 exact rr
theorem ltT_eq:ltT cmpTs=ltS:=by
 funext s t
 rw [Bool.eq_iff_iff,ltS_iff]
 simp only [ltT,cmpTs,orL,cmpI,decide_eq_true_eq,bne_iff_ne,ne_eq]
 by_cases h1:s.ac.bk<t.ac.bk
 ·simp [h1]
 ·by_cases h2:t.ac.bk<s.ac.bk
  ·simp [h1,h2];omega
  ·have h3:s.ac.bk=t.ac.bk:=by omega
   by_cases h4:s.fi<t.fi
   ·simp [h3,h4]
   ·by_cases h5:t.fi<s.fi<;>simp [h3,h4,h5]
theorem cmpT_ok:CmpT 21 cmpTs (fun _=>True):=⟨by rw [ltT_eq];exact swoS,fun a b _ _=>sStAhead a b⟩
def cPr (p:Nat×Int×Int):List D:=[.int .i64 (p.1:Int),.int .i64 p.2.1,.int .i64 p.2.2]
def slR (l:List (Nat×Int×Int)):D:=.sl false 3 l.length (fun i=>cPr (l.getD i default))
def rowR (l:List (Nat×Int×Int)):Go.Bx.Own:=.row 90 3 l.length (fun i=>cPr (l.getD i default))
def rowN (g:Nat→Int) (n:Nat):Go.Bx.Own:=.row 3 1 n (fun i=>[.int .i64 (g i)])
def paidL (c:Cv) (l:List Fi):List (Nat×Int×Int)×Int:=if checkL c l=0 then ((rowsP c l).rows,0) else ([],checkL c l)
theorem steps_take (l:List Fi) (k:Nat) (f:Fi) (h:l[k]?=some f):stepsL 0 (l.take (k+1))=stepsL 0 (l.take k)++f.ac.map fun a=>(⟨k,a⟩:Stp'):=by
 have hk:k<l.length:=(List.getElem?_eq_some_iff.1 h).1
 rw [List.take_add_one,h,stepsL_app,List.length_take,Nat.min_eq_left (by omega),Nat.zero_add]
 simp [stepsL]
theorem OLe.updN {e n:Nat} {g:Nat→Int} {i:Nat} {u v:Int} (h:u=v):OLe (.row e 1 n (fun m=>if m=i then putD [.int .i64 (g i)] 0 [.int .i64 u] else [.int .i64 (g m)])) (.row e 1 n (fun m=>[.int .i64 (updF g i v m)])):=by
 subst h
 refine OLe.row rfl fun m hm=>?_
 unfold updF
 by_cases h:m=i
 ·rw [if_pos h,if_pos h];rfl
 ·rw [if_neg h,if_neg h]
set_option maxHeartbeats 4000000 in
theorem sPaidF (k':Cv) (l:List Fi) (hl:ShF l) (hli:I64 k'.li) (hag:I64 k'.ag) (hsh:I64 k'.sh):Ctr Tryz.prog 6 [vC k',.d (slF l)] [] (.tup [.d (slR (paidL k' l).1),.d (.int .i64 (paidL k' l).2)]) [] []:=by
 have ck:=sCheckL k' l hl
 simp only [vC,cC] at ck
 by_cases he:checkL k' l=0
 ·rw [paidL,if_pos he]
  rw [he] at ck
  have R:=check_ok he
  have hf:=R.fine hli hag
  obtain ⟨hl1,hs⟩:=hl
  have Ra:=R.a
  obtain ⟨L,hL⟩:∃ L,L=stepsL 0 l:=⟨_,rfl⟩
  have hLl:L.length≤2000:=by rw [hL,stepsL_len];exact Ra
  have cs:=(tSort cmpT_ok L (fun _ _=>trivial) (by omega)).sw 900 1000
  have eS:srt (ltT cmpTs) [] L=sortS L:=by rw [ltT_eq];rfl
  rw [eS] at cs
  obtain ⟨S,hS⟩:∃ S,S=sortS L:=⟨_,rfl⟩
  have hSl:S.length≤2000:=by rw [hS,(sortS_perm L).length_eq];exact hLl
  have hok:∀ k s,S[k]?=some s→StpOk k' l.length (runP (paysC k') (S.take k)) s:=fun k s h=>by
   rw [hS,hL] at h ⊢
   exact step_ok R hf h
  have hrows:rowsP k' l=runP (paysC k') S:=by rw [rowsP,hS,hL]
  rw [←hS] at cs
  rw [hrows]
  have hroom0:l.length*8≤140737488355328∧l.length≤maxLen:=⟨by omega,by simp only [maxLen];omega⟩
  simp only [rowT,fnT,vcd,↓vcp,seval] at cs
  have hsl:∀ k,(stepsL 0 (l.take k)).length≤10000000000:=fun k=>by
   have h1:=actsN_le (l:=l.take k) fun g hg=>hs g (List.mem_of_mem_take hg)
   rw [List.length_take] at h1
   rw [stepsL_len];omega
  simp only [slF,dFi] at ck
  refine qP Tryz.func6 fun c hP hfn=>?_;simp only [vC,cC,slF,dFi,vcd,↓vcp,seval]
  repeat' first|(refine tq hP (h:=⟨_,fun _=>by exact ck,?_⟩);try simp only [vcd,↓vcp,seval])|refine ⟨fun h=>?_,fun h=>?_⟩|refine aX ?_|fail
  refine vcC.loop (X:=Nat) (fun k=>⟨[(7,.osl 1000),(1,.d (slF l)),(2,.own 2 0),(25,.d (slF l)),(26,.d (.int .i64 l.length)),(27,.d (.int .i64 (k:Nat)))],[(1000,rowT (stepsL 0 (l.take k))),(2,.fix (cC k'))],[1000,2]⟩)
   (fun k=>k≤l.length) (fun k=>l.length-k) 0 (Nat.zero_le _) ?_ ?_
  ·refine (Wk.row0 (s:=7) (k:=1000) (e:=85) (sz:=4) (f':=fun _=>[]) rfl rfl (by simp)).trans (Wk.of _ hfn rfl ?_ ?_)
   ·simp only [slF,dFi,enb,vcd,↓vcp,seval]
   ·simp only [rowT,cC,List.take_zero,stepsL,enb,vcd,↓vcp,seval];exact OLe.row rfl (fun i hi=>absurd hi (Nat.not_lt_zero i))
  intro k hk
  by_cases hlt:k<l.length
  ·obtain ⟨f,-,hg,hm,hat⟩:=drop_at hlt
   have hg:=hg default
   have d0:decide ((k:Int)<(l.length:Int))=true:=decide_eq_true (by omega)
   have w1:IntKind.i64.wrap ((k:Int)+1)=((k+1:Nat):Int):=wS (by omega)
   have hfl:=hs f hm
   have hst:=steps_take l k f hat
   obtain ⟨G,hG⟩:∃ G,G=stepsL 0 (l.take k):=⟨_,rfl⟩
   have hGl:G.length≤10000000000:=by rw [hG];exact hsl k
   rw [←hG] at hst
   simp only [←hG,rowT,slF,dFi,slA,dAc,hg,d0,w1,vcd,↓vcp,seval]
   repeat' first|refine ⟨fun h=>?_,fun h=>?_⟩|refine aX ?_|fail
   refine vcC.loop (X:=Nat) (fun j=>⟨[(7,.osl 1000),(1,.d (slF l)),(2,.own 2 0),(8,.d (.int .i64 (k:Nat))),(25,.d (slF l)),(26,.d (.int .i64 l.length)),(27,.d (.int .i64 (k:Nat))),(33,.d (slA f.ac)),(34,.d (.int .i64 f.ac.length)),(35,.d (.int .i64 (j:Nat)))],[(1000,rowT (G++(f.ac.take j).map fun a=>(⟨k,a⟩:Stp'))),(2,.fix (cC k'))],[1000,2]⟩)
    (fun j=>j≤f.ac.length) (fun j=>f.ac.length-j) 0 (Nat.zero_le _) (Wk.of _ hfn rfl (by simp only [slF,dFi,slA,dAc,enb,vcd,↓vcp,seval]) (by simp only [rowT,cC,List.take_zero,List.map_nil,List.append_nil,enb,vcd,↓vcp,seval])) ?_
   intro j hj
   by_cases hjt:j<f.ac.length
   ·obtain ⟨a,-,hga,-,hata⟩:=drop_at hjt
    have hga:=hga default
    have d1:decide ((j:Int)<(f.ac.length:Int))=true:=decide_eq_true (by omega)
    have w2:IntKind.i64.wrap ((j:Int)+1)=((j+1:Nat):Int):=wS (by omega)
    obtain ⟨K,hK⟩:∃ K,K=G++(f.ac.take j).map fun a=>(⟨k,a⟩:Stp'):=⟨_,rfl⟩
    have hKt:(G++(f.ac.take (j+1)).map fun a=>(⟨k,a⟩:Stp'))=K++[⟨k,a⟩]:=by
     rw [List.take_add_one,hata,hK];simp
    have hKl:K.length≤10000100000:=by rw [hK,List.length_append,List.length_map,List.length_take];omega
    have hroom:(K.length+1)*32≤140737488355328∧K.length+1≤maxLen:=⟨by omega,by simp only [maxLen];omega⟩
    simp only [←hK,rowT,slA,dAc,hga,d1,w2,vcd,↓vcp,seval]
    repeat' first|refine ⟨fun h=>?_,fun h=>?_⟩|refine aX ?_|fail
    exact lopK.on (j+1) hjt (by omega) (Wk.snoc (k:=44) _ hfn rfl rfl rfl rfl (OLe.appE cT hKt (fun i hi=>if_pos hi) (by simp [litRow])) (by (simp only [slF,dFi,slA,dAc,w2,enb,vcd,↓vcp,seval])<;>(first|exact wS (by omega)|(rw [List.length_append];exact wS (by omega))|assumption)) (by simp only [enb,vcd,↓vcp,seval]) (by simp) (by simp only [enb,vcd,↓vcp,seval]) (by simp only [enb,vcd,↓vcp,seval]))
   ·have hj2:j=f.ac.length:=by omega
    have d1:decide ((j:Int)<(f.ac.length:Int))=false:=decide_eq_false (by omega)
    rw [hj2,List.take_length,←hst]
    rw [hj2] at d1
    simp only [rowT,slA,dAc,d1,w1,vcd,↓vcp,seval]
    repeat' first|refine ⟨fun h=>?_,fun h=>?_⟩|refine aX ?_|fail
    exact lopK.on (k+1) hlt (by omega) (Wk.of _ hfn rfl (by simp only [slF,dFi,slA,dAc,w1,enb,vcd,↓vcp,seval]) (by simp only [rowT,cC,enb,vcd,↓vcp,seval]))
  ·have hk2:k=l.length:=by omega
   have d0:decide ((k:Int)<(l.length:Int))=false:=decide_eq_false (by omega)
   rw [hk2,List.take_length,←hL]
   rw [hk2] at d0
   clear hsl hk hk2 hlt ck hs
   simp only [rowT,slF,dFi,d0,vcd,↓vcp,seval]
   repeat' first|refine ⟨fun h=>?_,fun h=>?_⟩|refine aX ?_|fail
   refine TR.call [(1000,rowT L)] [(1000,rowT S)] _ [] (by rw [hP];exact cs) (by repeat' first|exact trivial|(intro _;assumption)|apply And.intro) (hin1 rfl) (by simp [keysO]) (by simp) ?_
   simp only [rowT,vcd,↓vcp,seval]
   repeat' first|refine ⟨fun h=>?_,fun h=>?_⟩|refine aX ?_|fail
   refine vcC.loop (X:=Nat) (fun k=>⟨[(15,.osl 1001),(2,.own 2 0),(12,.osl 51),(13,.osl 54),(14,.d (.int .i64 (runP (paysC k') (S.take k)).al)),(55,.osl 1000),(56,.d (.int .i64 S.length)),(57,.d (.int .i64 (k:Nat)))],
     [(1001,rowR (runP (paysC k') (S.take k)).rows),(2,.fix (cC k')),(1000,rowT S),(51,rowN (runP (paysC k') (S.take k)).sh l.length),(54,rowN (runP (paysC k') (S.take k)).pd l.length)],[1001,2,1000,51,54]⟩)
    (fun k=>k≤S.length) (fun k=>S.length-k) 0 (Nat.zero_le _) ?_ ?_
   ·refine (Wk.row0 (s:=15) (k:=1001) (e:=90) (sz:=3) (f':=fun _=>[]) rfl rfl (by simp)).trans (Wk.of _ hfn rfl ?_ ?_)
    ·simp only [List.take_zero,runP,List.foldl_nil,ps0,enb,vcd,↓vcp,seval]
    ·simp only [rowT,rowN,rowR,cC,List.take_zero,runP,List.foldl_nil,ps0,enb,vcd,↓vcp,seval];exact OLe.row rfl (fun i hi=>absurd hi (Nat.not_lt_zero i))
   intro k hk
   by_cases hlt:k<S.length
   ·obtain ⟨s,-,hg,hm,hat⟩:=drop_at hlt
    have hg:=hg sd
    obtain ⟨o1,o2,o3,o4,o5,o6,o7⟩:=hok k s hat
    have d0:decide ((k:Int)<(S.length:Int))=true:=decide_eq_true (by omega)
    have w1:IntKind.i64.wrap ((k:Int)+1)=((k+1:Nat):Int):=wS (by omega)
    have b0:(0:Int)≤(k:Int)∧(k:Int)<(S.length:Int):=by omega
    have b1:(0:Int)≤(s.fi:Int)∧(s.fi:Int)<(l.length:Int):=by omega
    have et:runP (paysC k') (S.take (k+1))=stepP (paysC k') (runP (paysC k') (S.take k)) s:=by
     rw [List.take_add_one,hat,runP,List.foldl_append];rfl
    have hrl:(runP (paysC k') (S.take k)).rows.length≤2000:=by
     have h1:=rows_len (paysC k') (S.take k) ps0
     have h2:ps0.rows.length=0:=rfl
     rw [List.length_take,h2] at h1
     rw [runP];omega
    generalize runP (paysC k') (S.take k)=x at *
    by_cases hkd:s.ac.kd=2
    ·have n1:(s.ac.kd != 2)=false:=by rw [hkd];rfl
     have o4:=o4.2 hkd
     have wa:IntKind.i64.wrap (x.sh s.fi+s.ac.am)=x.sh s.fi+s.ac.am:=wI (by omega)
     have wb:IntKind.i64.wrap (x.al-x.pd s.fi)=x.al-x.pd s.fi:=wI (by omega)
     have cp:=sPays k' (x.sh s.fi+s.ac.am) (x.al-x.pd s.fi) hli.2 hsh.2
     simp only [vC,cC] at cp
     have et0:=et
     rw [stepP,if_neg (by rw [hkd];simp)] at et
     obtain ⟨F,hF⟩:∃ F,F=paysC k' (x.sh s.fi+s.ac.am) (x.al-x.pd s.fi):=⟨_,rfl⟩
     rw [←hF] at et cp o7
     have wc:IntKind.i64.wrap (F-x.pd s.fi)=F-x.pd s.fi:=wI (by omega)
     by_cases hmo:F-x.pd s.fi≤0
     ·rw [if_pos hmo] at et
      have d1:decide (F-x.pd s.fi≤0)=true:=decide_eq_true hmo
      simp only [rowT,rowN,rowR,cC,hg,d0,w1,n1,wa,wb,wc,d1,vcd,↓vcp,seval]
      repeat' first|(refine tq hP (h:=⟨_,fun _=>by exact cp,?_⟩);try simp only [hg,w1,n1,wa,wb,wc,d1,vcd,↓vcp,seval])|refine ⟨fun h=>?_,fun h=>?_⟩|refine aX ?_|fail
      exact lopK.on (k+1) hlt (by omega) (Wk.of _ hfn rfl (by simp only [et,w1,enb,vcd,↓vcp,seval]) (by simp only [et,rowT,rowN,rowR,cC,enb,vcd,↓vcp,seval];exact OLe.updN rfl))
     ·rw [if_neg hmo] at et
      have d1:decide (F-x.pd s.fi≤0)=false:=decide_eq_false hmo
      have wd:IntKind.i64.wrap (x.pd s.fi+(F-x.pd s.fi))=x.pd s.fi+(F-x.pd s.fi):=wI (by omega)
      have we:IntKind.i64.wrap (x.al+(F-x.pd s.fi))=x.al+(F-x.pd s.fi):=wI (by omega)
      have hroom:(x.rows.length+1)*24≤140737488355328∧x.rows.length+1≤maxLen:=⟨by omega,by simp only [maxLen];omega⟩
      obtain ⟨y,hy⟩:∃ y,y=runP (paysC k') (S.take (k+1)):=⟨_,rfl⟩
      rw [←hy] at et
      obtain ⟨e1,e2,e3,e4⟩:y.sh=updF x.sh s.fi (x.sh s.fi+s.ac.am)∧y.pd=updF x.pd s.fi (x.pd s.fi+(F-x.pd s.fi))∧y.al=x.al+(F-x.pd s.fi)∧y.rows=x.rows++[(s.fi,s.ac.bk,F-x.pd s.fi)]:=by rw [et];exact ⟨rfl,rfl,rfl,rfl⟩
      simp only [rowT,rowN,rowR,cPr,cC,hg,d0,w1,n1,wa,wb,wc,d1,wd,we,vcd,↓vcp,seval]
      repeat' first|(refine tq hP (h:=⟨_,fun _=>by exact cp,?_⟩);try simp only [hg,w1,n1,wa,wb,wc,d1,wd,we,vcd,↓vcp,seval])|refine ⟨fun h=>?_,fun h=>?_⟩|refine aX ?_|fail
      refine lopK.on (k+1) hlt (by omega) ?_
      simp only [←hy,e1,e2,e3]
      exact (Wk.snoc (k:=120) _ hfn rfl rfl rfl rfl (OLe.appE cPr e4 (fun i hi=>if_pos hi) (by simp [litRow,cPr])) (by (simp only [w1,we,enb,vcd,↓vcp,seval])<;>(first|exact wS (by omega)|(rw [List.length_append];exact wS (by omega))|assumption)) (by simp only [enb,vcd,↓vcp,seval];exact ⟨OLe.updN rfl,OLe.updN rfl⟩) (by simp) (by simp only [enb,vcd,↓vcp,seval]) (by simp only [enb,vcd,↓vcp,seval]))
    ·have n1:(s.ac.kd != 2)=true:=by rw [bne_iff_ne];exact hkd
     rw [stepP,if_pos hkd] at et
     simp only [rowT,rowN,rowR,cC,hg,d0,w1,n1,vcd,↓vcp,seval]
     repeat' first|refine ⟨fun h=>?_,fun h=>?_⟩|refine aX ?_|fail
     exact lopK.on (k+1) hlt (by omega) (Wk.of _ hfn rfl (by simp only [et,w1,enb,vcd,↓vcp,seval]) (by simp only [et,rowT,rowN,rowR,cC,enb,vcd,↓vcp,seval]))
   ·have hk2:k=S.length:=by omega
    have d0:decide ((k:Int)<(S.length:Int))=false:=decide_eq_false (by omega)
    rw [hk2,List.take_length]
    rw [hk2] at d0
    simp only [rowT,rowN,rowR,d0,vcd,↓vcp,seval]
    repeat' first|refine ⟨fun h=>?_,fun h=>?_⟩|refine aX ?_|fail
    refine rK (Wk.pub 1001 rfl) trivial ?_
    simp only [slR,rsb,vcd,↓vcp,seval]
    exact VLe.refl _
 ·rw [paidL,if_neg he]
  have n0:(checkL k' l != 0)=true:=by rw [bne_iff_ne];exact he
  generalize checkL k' l=e at *
  refine qP Tryz.func6 fun c hP hfn=>?_;simp only [vC,cC,vcd,↓vcp,seval]
  repeat' first|(refine tq hP (h:=⟨_,fun _=>by exact ck,?_⟩);try simp only [n0,vcd,↓vcp,seval])|refine ⟨fun h=>?_,fun h=>?_⟩|refine aX ?_|fail
  all_goals
   refine rp ?_
   simp only [rsb,vcd,↓vcp,seval]
   exact VLe.tups ⟨vle_nil,VLe.refl _,trivial⟩
end Go.Proofs.YtmccbkekpjgdbaaGreat
end
section
namespace Go.Proofs.YtmccbkekpjgdbaaGreat
open Go.Bx
structure Po where
 gr:Int
 sh:Int
 pd:Int
 bc:Int
 rs:Int
 op:Bool
instance:Inhabited Po:=⟨⟨0,0,0,0,0,false⟩⟩
abbrev Rp:=Nat×Int×Int
def pdJ (R:List Rp) (j k:Nat):Int:=(((R.take j).filter fun p=>decide (p.1=k)).map (·.2.2)).sum
def usJ (R:List Rp) (j:Nat):Int:=((R.take j).map (·.2.2)).sum
theorem pdJ_succ {R:List Rp} {j:Nat} {r:Rp} (h:R[j]?=some r):pdJ R (j+1)=updF (pdJ R j) r.1 (pdJ R j r.1+r.2.2):=by
 funext k
 have ht:R.take (j+1)=R.take j++[r]:=by rw [List.take_add_one,h];rfl
 unfold updF
 rw [pdJ,ht,List.filter_append,List.map_append,List.sum_append]
 by_cases e:k=r.1
 ·rw [if_pos e,e];simp [pdJ]
 ·rw [if_neg e];simp [pdJ,Ne.symm e]
theorem usJ_succ {R:List Rp} {j:Nat} {r:Rp} (h:R[j]?=some r):usJ R (j+1)=usJ R j+r.2.2:=by
 have ht:R.take (j+1)=R.take j++[r]:=by rw [List.take_add_one,h];rfl
 rw [usJ,ht,List.map_append,List.sum_append];simp [usJ]
theorem filt_sum {R:List Rp} (h:∀ p,p∈R→0<p.2.2) (q:Rp→Bool):0≤((R.filter q).map (·.2.2)).sum∧((R.filter q).map (·.2.2)).sum≤(R.map (·.2.2)).sum:=by
 induction R with
 |nil=>simp
 |cons r R ih =>
  have h1:=ih fun p hp=>h p (by simp [hp])
  have h2:=h r (by simp)
  rw [List.filter_cons]
  split
  ·simp only [List.map_cons,List.sum_cons];omega
  ·simp only [List.map_cons,List.sum_cons];omega
theorem usJ_le {R:List Rp} (h:∀ p,p∈R→0<p.2.2) (j:Nat):0≤usJ R j∧usJ R j≤(R.map (·.2.2)).sum:=by
 have h1:=filt_sum (R:=R.take j) (fun p hp=>h p (List.mem_of_mem_take hp)) fun _=>true
 have h2:=filt_sum (R:=R.drop j) (fun p hp=>h p (List.mem_of_mem_drop hp)) fun _=>true
 have h3:(R.map (·.2.2)).sum=((R.take j).map (·.2.2)).sum+((R.drop j).map (·.2.2)).sum:=by
  rw [←List.sum_append,←List.map_append,List.take_append_drop]
 rw [List.filter_eq_self.2 fun _ _=>rfl] at h1 h2
 unfold usJ;omega
theorem pdJ_le {R:List Rp} (h:∀ p,p∈R→0<p.2.2) (j k:Nat):0≤pdJ R j k∧pdJ R j k≤usJ R j:=filt_sum (R:=R.take j) (fun p hp=>h p (List.mem_of_mem_take hp)) _
theorem sum_pd (n:Nat):∀ R:List Rp,(∀ p,p∈R→p.1<n)→sumR (fun k=>((R.filter fun p=>decide (p.1=k)).map (·.2.2)).sum) n=(R.map (·.2.2)).sum
 |[],_=>sumR_zero n
 |r::R,h=>by
  have ih:=sum_pd n R fun p hp=>h p (by simp [hp])
  have e:(fun k=>(((r::R).filter fun p=>decide (p.1=k)).map (·.2.2)).sum)=fun k=>(if k=r.1 then r.2.2 else 0)+((R.filter fun p=>decide (p.1=k)).map (·.2.2)).sum:=by
   funext k
   rw [List.filter_cons]
   by_cases e:k=r.1
   ·subst e;simp
   ·rw [if_neg (by simpa using Ne.symm e),if_neg e];omega
  rw [e,sumR_add,sumR_one,if_pos (h r (by simp)),ih];simp
def baseG (l:List Fi) (k:Nat):Po:=⟨(max (posQ (l.getD k default).ac).gr (posQ (l.getD k default).ac).sh),(posQ (l.getD k default).ac).sh,0,(posQ (l.getD k default).ac).bc,0,(posQ (l.getD k default).ac).op⟩
def heldC (c:Cv) (p:Po) (u:Int):Int:=max 0 (IntKind.i64.wrap (paysC c p.gr (IntKind.i64.wrap (u-p.pd))-p.pd))
def holdR (c:Cv) (g:Nat→Po) (u:Int):Nat→Int×(Nat→Int)
 |0=>(u,fun _=>0)
 |k+1=>if (g k).op=false then holdR c g u k else (IntKind.i64.wrap ((holdR c g u k).1+heldC c (g k) (holdR c g u k).1),updF (holdR c g u k).2 k (heldC c (g k) (holdR c g u k).1))
def withP (g:Nat→Po) (f:Nat→Int) (k:Nat):Po:={ g k with pd:=f k }
def withR (g:Nat→Po) (f:Nat→Int) (k:Nat):Po:={ g k with rs:=f k }
def paidG (c:Cv) (l:List Fi):Nat→Po:=withP (baseG l) (pdJ (rowsP c l).rows (rowsP c l).rows.length)
def ofG (c:Cv) (l:List Fi):Nat→Po:=withR (paidG c l) (holdR c (paidG c l) (usJ (rowsP c l).rows (rowsP c l).rows.length) l.length).2
def addPo (a p:Po):Po:=⟨IntKind.i64.wrap (a.gr+p.gr),IntKind.i64.wrap (a.sh+p.sh),IntKind.i64.wrap (a.pd+p.pd),IntKind.i64.wrap (a.bc+p.bc),IntKind.i64.wrap (a.rs+p.rs),a.op || p.op⟩
def sumPo (g:Nat→Po):Nat→Po
 |0=>⟨0,0,0,0,0,false⟩
 |k+1=>addPo (sumPo g k) (g k)
def nL (c:Cv) (l:List Fi):Nat:=if checkL c l=0 then l.length else 0
def sumL (c:Cv) (l:List Fi):Po:=sumPo (ofG c l) (nL c l)
theorem sumR_le {f:Nat→Int} (h:∀ i,0≤f i):∀ {n k:Nat},k≤n→0≤sumR f k∧sumR f k≤sumR f n
  | 0, k, hk => by obtain rfl : k = 0 := by omega
                   exact ⟨Int.le_refl _,Int.le_refl _⟩
  |n+1,k,hk=>by
    by_cases e:k=n+1
    · subst e
      have:=(sumR_le h (Nat.le_refl n)).1
      have h2:=h n
      rw [sumR];exact ⟨by omega,Int.le_refl _⟩
    · have:=sumR_le h (show k≤n by omega)
      have h2:=h n
      rw [sumR];omega
theorem sumPo_pd {g:Nat→Po} {f:Nat→Int} (hg:∀ k,(g k).pd=f k) (h:∀ i,0≤f i) {n:Nat} (hn:sumR f n≤1000000000000000):∀ k,k≤n→(sumPo g k).pd=sumR f k
 |0,_=>rfl
 |k+1,hk=>by
  have h1:=sumPo_pd hg h hn k (by omega)
  have h2:=sumR_le h hk
  rw [sumR] at h2
  rw [sumPo,addPo,sumR]
  simp only
  rw [h1,hg,wI (by omega)]
structure RowsOk (c:Cv) (l:List Fi):Prop where
 ps:∀ p,p∈(rowsP c l).rows→0<p.2.2
 fi:∀ p,p∈(rowsP c l).rows→p.1<l.length
 bk:∀ p,p∈(rowsP c l).rows→∃ s,s∈stepsL 0 l∧p.1=s.fi∧p.2.1=s.ac.bk
 al:0≤(rowsP c l).al∧(rowsP c l).al≤1000000000000000
 sum:(rowsP c l).al=((rowsP c l).rows.map (·.2.2)).sum
 len:(rowsP c l).rows.length≤2000
theorem rows_ok {c:Cv} {l:List Fi} (h:RightOk c l) (hf:Fine c):RowsOk c l:=by
 have hag:=hf.ag
 have hde:=hf.de
 have hli:=hf.li
 have hp:=pi_run (by omega) hag (pays_ok hf) (sortS (stepsL 0 l)) _ (Nat.le_refl _)
 rw [List.take_length] at hp
 obtain ⟨R,h1,h2,-⟩:=run_rows (paysC c) (sortS (stepsL 0 l)) ps0
 have hR:(rowsP c l).rows=R:=by rw [rowsP,runP,h1];rfl
 have hm:∀ p,p∈R→∃ s,s∈stepsL 0 l∧p.1=s.fi∧p.2.1=s.ac.bk:=fun p hp=>by
  obtain ⟨-,s,hs,h3⟩:=h2 p hp
  exact ⟨s,(sortS_perm _).mem_iff.1 hs,h3⟩
 have hal:=hp.al
 refine ⟨fun p hp=>(h2 p (hR▸hp)).1,fun p hp=>?_,fun p hp=>hm p (hR▸hp),⟨hal.1,by have h9:=hal.2;show (runP _ _).al≤_;omega⟩,hp.sum,?_⟩
 ·obtain ⟨s,hs,h3,-⟩:=hm p (hR▸hp)
  obtain ⟨-,f,h4,-⟩:=stepsL_mem hs
  rw [h3];exact (List.getElem?_eq_some_iff.1 h4).1
 ·have h3:=rows_len (paysC c) (sortS (stepsL 0 l)) ps0
  have h4:ps0.rows.length=0:=rfl
  rw [(sortS_perm _).length_eq,stepsL_len,h4] at h3
  have:=h.a
  rw [rowsP,runP];omega
theorem sumL_pd {c:Cv} {l:List Fi} (h:RightOk c l) (hf:Fine c):(sumL c l).pd=(rowsP c l).al:=by
 have ro:=rows_ok h hf
 rw [sumL,nL,if_pos (ok_check h)]
 have e1:sumR (pdJ (rowsP c l).rows (rowsP c l).rows.length) l.length=(rowsP c l).al:=by
  have:=sum_pd l.length (rowsP c l).rows ro.fi
  rw [ro.sum,←this]
  refine sumR_congr _ fun i _=>?_
  rw [pdJ,List.take_length]
 have hal:=ro.al
 rw [sumPo_pd (f:=pdJ (rowsP c l).rows (rowsP c l).rows.length) (fun k=>rfl) (fun i=>(pdJ_le ro.ps _ i).1) (n:=l.length) (by rw [e1];exact hal.2) _ (Nat.le_refl _),e1]
end Go.Proofs.YtmccbkekpjgdbaaGreat
end
section
namespace Go.Proofs.YtmccbkekpjgdbaaGreat
open Go.Bx
set_option maxRecDepth 10000
def dPo (p:Po):List D:=[.int .i64 p.gr,.int .i64 p.sh,.int .i64 p.pd,.int .i64 p.bc,.int .i64 p.rs,.bool p.op]
def cPo (p:Po):List V:=[.d (.int .i64 p.gr),.d (.int .i64 p.sh),.d (.int .i64 p.pd),.d (.int .i64 p.bc),.d (.int .i64 p.rs),.d (.bool p.op)]
def vPo (p:Po):V:=.ag (cPo p)
def slPo (g:Nat→Po) (n:Nat):D:=.sl false 6 n (fun i=>dPo (g i))
def rowPo (g:Nat→Po) (n:Nat):Go.Bx.Own:=.row 92 6 n (fun i=>dPo (g i))
def ofL (c:Cv) (l:List Fi):D×Int:=(slPo (ofG c l) (nL c l),checkL c l)
theorem OLe.withPd {e n:Nat} {g:Nat→Po} {f:Nat→Int} {i:Nat} {v:Int}:OLe (.row e 6 n (fun m=>if m=i then putD (dPo (withP g f i)) 2 [.int .i64 v] else dPo (withP g f m))) (.row e 6 n (fun m=>dPo (withP g (updF f i v) m))):=by
 refine OLe.row rfl fun m hm=>?_
 unfold updF
 by_cases h:m=i
 ·subst h;rw [if_pos rfl];simp [dPo,withP,putD]
 ·rw [if_neg h];simp [dPo,withP,h]
theorem OLe.withRs {e n:Nat} {g:Nat→Po} {f:Nat→Int} {i:Nat} {v:Int}:OLe (.row e 6 n (fun m=>if m=i then putD (dPo (withR g f i)) 4 [.int .i64 v] else dPo (withR g f m))) (.row e 6 n (fun m=>dPo (withR g (updF f i v) m))):=by
 refine OLe.row rfl fun m hm=>?_
 unfold updF
 by_cases h:m=i
 ·subst h;rw [if_pos rfl];simp [dPo,withR,putD]
 ·rw [if_neg h];simp [dPo,withR,h]
set_option maxHeartbeats 4000000 in
theorem sOfL (k':Cv) (l:List Fi) (hl:ShF l) (hli:I64 k'.li) (hag:I64 k'.ag) (hsh:I64 k'.sh):Ctr Tryz.prog 54 [vC k',.d (slF l)] [] (.tup [.d (ofL k' l).1,.d (.int .i64 (ofL k' l).2)]) [] []:=by
 have cp:=sPaidF k' l hl hli hag hsh
 simp only [vC,cC] at cp
 by_cases he:checkL k' l=0
 ·rw [ofL,nL,if_pos he,he]
  rw [paidL,if_pos he] at cp
  have R:=check_ok he
  have hf:=R.fine hli hag
  obtain ⟨r1,r2,-,r4,r5,r6⟩:=rows_ok R hf
  obtain ⟨hl1,hs⟩:=hl
  have n0:((0:Int) != 0)=false:=rfl
  have hof:ofG k' l=withR (withP (baseG l) (pdJ (rowsP k' l).rows (rowsP k' l).rows.length)) (holdR k' (withP (baseG l) (pdJ (rowsP k' l).rows (rowsP k' l).rows.length)) (usJ (rowsP k' l).rows (rowsP k' l).rows.length) l.length).2:=rfl
  rw [hof]
  clear hof he
  rw [r5] at r4
  have u1:∀ j,0≤usJ (rowsP k' l).rows j∧usJ (rowsP k' l).rows j≤1000000000000000:=fun j=>⟨(usJ_le r1 j).1,Int.le_trans (usJ_le r1 j).2 r4.2⟩
  have u2:=pdJ_le r1
  clear r5 r4
  generalize (rowsP k' l).rows=Q at *
  simp only [slR,slF,dFi] at cp
  refine qP Tryz.func54 fun c hP hfn=>?_;simp only [vC,cC,slF,dFi,vcd,↓vcp,seval]
  repeat' first|(refine tq hP (h:=⟨_,fun _=>by exact cp,?_⟩);try simp only [n0,vcd,↓vcp,seval])|refine ⟨fun h=>?_,fun h=>?_⟩|refine aX ?_|fail
  refine vcC.loop (X:=Nat) (fun k=>⟨[(8,.osl 1000),(2,.own 2 0),(6,.d (slR Q)),(26,.d (slF l)),(27,.d (.int .i64 l.length)),(28,.d (.int .i64 (k:Nat)))],[(1000,rowPo (baseG l) k),(2,.fix (cC k'))],[1000,2]⟩)
   (fun k=>k≤l.length) (fun k=>l.length-k) 0 (Nat.zero_le _) ?_ ?_
  ·refine (Wk.row0 (s:=8) (k:=1000) (e:=92) (sz:=6) (f':=fun _=>[]) rfl rfl (by simp)).trans (Wk.of _ hfn rfl ?_ ?_)
   ·simp only [slF,dFi,slR,enb,vcd,↓vcp,seval]
   ·simp only [rowPo,cC,enb,vcd,↓vcp,seval];exact OLe.row rfl (fun i hi=>absurd hi (Nat.not_lt_zero i))
  intro k hk
  by_cases hlt:k<l.length
  ·obtain ⟨f,-,hg,hm,hat⟩:=drop_at hlt
   have hg:=hg default
   have d0:decide ((k:Int)<(l.length:Int))=true:=decide_eq_true (by omega)
   have w1:IntKind.i64.wrap ((k:Int)+1)=((k+1:Nat):Int):=wS (by omega)
   have cs:=sStandF f (by have:=hs f hm;omega)
   have eb:baseG l k=⟨(max (posQ f.ac).gr (posQ f.ac).sh),(posQ f.ac).sh,0,(posQ f.ac).bc,0,(posQ f.ac).op⟩:=by rw [baseG,hg]
   have hroom:(k+1)*48≤140737488355328∧k+1≤maxLen:=⟨by omega,by simp only [maxLen];omega⟩
   simp only [vFi,cFi,vQ,cQ,maxQ] at cs
   simp only [rowPo,slF,dFi,hg,d0,w1,vcd,↓vcp,seval]
   repeat' first|(refine tq hP (h:=⟨_,fun _=>by exact cs,?_⟩);try simp only [hg,w1,vcd,↓vcp,seval])|refine ⟨fun h=>?_,fun h=>?_⟩|refine aX ?_|fail
   refine lopK.on (k+1) hlt (by omega) (Wk.snoc (k:=36) _ hfn rfl rfl rfl rfl (OLe.row rfl fun i hi=>?_) (by (simp only [slF,dFi,w1,enb,vcd,↓vcp,seval])<;>(first|exact wS (by omega)|(rw [List.length_append];exact wS (by omega))|assumption)) (by simp only [enb,vcd,↓vcp,seval]) (by simp) (by simp only [enb,vcd,↓vcp,seval]) (by simp only [enb,vcd,↓vcp,seval]))
   by_cases h:i<k
   ·rw [if_pos h]
   ·have:i=k:=by omega
    subst this
    rw [if_neg h,eb];simp [dPo]
  ·have hk2:k=l.length:=by omega
   have d0:decide ((k:Int)<(l.length:Int))=false:=decide_eq_false (by omega)
   rw [hk2]
   rw [hk2] at d0
   clear hk hk2 hlt hs cp
   have hb0:∀ i,withP (baseG l) (pdJ Q 0) i=baseG l i:=fun i=>rfl
   have hb1:∀ u i,withR (withP (baseG l) (pdJ Q Q.length)) (holdR k' (withP (baseG l) (pdJ Q Q.length)) u 0).2 i=withP (baseG l) (pdJ Q Q.length) i:=fun u i=>rfl
   have hu0:usJ Q 0=0:=rfl
   generalize baseG l=G at *
   simp only [rowPo,slF,dFi,slR,d0,vcd,↓vcp,seval]
   repeat' first|refine ⟨fun h=>?_,fun h=>?_⟩|refine aX ?_|fail
   refine vcC.loop (X:=Nat) (fun j=>⟨[(8,.osl 1000),(2,.own 2 0),(11,.d (.int .i64 (usJ Q j))),(38,.d (slR Q)),(39,.d (.int .i64 Q.length)),(40,.d (.int .i64 (j:Nat)))],[(1000,rowPo (withP G (pdJ Q j)) l.length),(2,.fix (cC k'))],[1000,2]⟩)
    (fun j=>j≤Q.length) (fun j=>Q.length-j) 0 (Nat.zero_le _) (Wk.of _ hfn rfl (by simp only [slR,hu0,enb,vcd,↓vcp,seval]) (by simp only [rowPo,cC,hb0,enb,vcd,↓vcp,seval])) ?_
   clear hb0 hu0
   intro j hj
   by_cases hjt:j<Q.length
   ·obtain ⟨r,-,hg,hm,hat⟩:=drop_at hjt
    have hg:=hg default
    have d1:decide ((j:Int)<(Q.length:Int))=true:=decide_eq_true (by omega)
    have w1:IntKind.i64.wrap ((j:Int)+1)=((j+1:Nat):Int):=wS (by omega)
    have b0:(0:Int)≤(j:Int)∧(j:Int)<(Q.length:Int):=by omega
    have b1:(0:Int)≤(r.1:Int)∧(r.1:Int)<(l.length:Int):=by have:=r2 r hm;omega
    have e1:=pdJ_succ hat
    have e2:=usJ_succ hat
    have h1:=u1 j
    have h2:=u1 (j+1)
    have h3:=u2 j r.1
    have h4:=u2 (j+1) r.1
    have h5:pdJ Q (j+1) r.1=pdJ Q j r.1+r.2.2:=by rw [e1];simp [updF]
    have wa:IntKind.i64.wrap (pdJ Q j r.1+r.2.2)=pdJ Q j r.1+r.2.2:=wI (by omega)
    have wb:IntKind.i64.wrap (usJ Q j+r.2.2)=usJ Q j+r.2.2:=wI (by omega)
    simp only [rowPo,dPo,withP,slR,cPr,hg,d1,w1,wa,wb,vcd,↓vcp,seval]
    repeat' first|refine ⟨fun h=>?_,fun h=>?_⟩|refine aX ?_|fail
    refine lopK.on (j+1) hjt (by omega) (Wk.of _ hfn rfl (by simp only [slR,cPr,e2,w1,wb,enb,vcd,↓vcp,seval]) ?_)
    simp only [rowPo,e1,enb,vcd,↓vcp,seval]
    exact OLe.withPd (g:=G) (f:=pdJ Q j) (i:=r.1)
   ·have hj2:j=Q.length:=by omega
    have d1:decide ((j:Int)<(Q.length:Int))=false:=decide_eq_false (by omega)
    rw [hj2]
    rw [hj2] at d1
    clear u1 u2 r1 r2 hj2 hjt hj
    generalize usJ Q Q.length=u at *
    generalize withP G (pdJ Q Q.length)=P at *
    have hb1:=hb1 u
    simp only [rowPo,slR,d1,vcd,↓vcp,seval]
    repeat' first|refine ⟨fun h=>?_,fun h=>?_⟩|refine aX ?_|fail
    refine vcC.loop (X:=Nat) (fun k=>⟨[(2,.own 2 0),(8,.osl 1000),(11,.d (.int .i64 (holdR k' P u k).1)),(60,.osl 1000),(61,.d (.int .i64 l.length)),(62,.d (.int .i64 (k:Nat)))],[(1000,rowPo (withR P (holdR k' P u k).2) l.length),(2,.fix (cC k'))],[1000,2]⟩)
     (fun k=>k≤l.length) (fun k=>l.length-k) 0 (Nat.zero_le _) (Wk.of _ hfn rfl (by simp only [holdR,enb,vcd,↓vcp,seval]) (by simp only [rowPo,cC,hb1,enb,vcd,↓vcp,seval])) ?_
    clear hb1
    intro k hk
    by_cases hlt:k<l.length
    ·have d0:decide ((k:Int)<(l.length:Int))=true:=decide_eq_true (by omega)
     have w1:IntKind.i64.wrap ((k:Int)+1)=((k+1:Nat):Int):=wS (by omega)
     have b0:(0:Int)≤(k:Int)∧(k:Int)<(l.length:Int):=by omega
     obtain ⟨H,hH⟩:∃ H,H=holdR k' P u k:=⟨_,rfl⟩
     have eh:holdR k' P u (k+1)=if (P k).op=false then H else (IntKind.i64.wrap (H.1+heldC k' (P k) H.1),updF H.2 k (heldC k' (P k) H.1)):=by rw [holdR,←hH]
     simp only [←hH]
     cases hop:(P k).op with
     |false =>
      rw [if_pos hop] at eh
      simp only [rowPo,dPo,withR,d0,w1,hop,vcd,↓vcp,seval]
      repeat' first|refine ⟨fun h=>?_,fun h=>?_⟩|refine aX ?_|fail
      exact lopK.on (k+1) hlt (by omega) (Wk.of _ hfn rfl (by simp only [eh,w1,enb,vcd,↓vcp,seval]) (by simp only [eh,rowPo,dPo,withR,enb,vcd,↓vcp,seval]))
     |true =>
      rw [if_neg (by rw [hop];simp)] at eh
      have cq:=sPays k' (P k).gr (IntKind.i64.wrap (H.1-(P k).pd)) hli.2 hsh.2
      simp only [vC,cC] at cq
      simp only [rowPo,dPo,withR,cC,d0,w1,hop,vcd,↓vcp,seval]
      repeat' first|(refine tq hP (h:=⟨_,fun _=>by exact cq,?_⟩);try simp only [w1,hop,vcd,↓vcp,seval])|refine ⟨fun h=>?_,fun h=>?_⟩|refine aX ?_|fail
      refine lopK.on (k+1) hlt (by omega) (Wk.of _ hfn rfl (by simp only [eh,heldC,w1,enb,vcd,↓vcp,seval]) ?_)
      simp only [eh,rowPo,cC,enb,vcd,↓vcp,seval]
      have:=OLe.withRs (e:=92) (n:=l.length) (g:=P) (f:=H.2) (i:=k) (v:=heldC k' (P k) H.1)
      simp only [dPo,withR,hop,heldC] at this ⊢
      exact this
    ·have hk2:k=l.length:=by omega
     have d0:decide ((k:Int)<(l.length:Int))=false:=decide_eq_false (by omega)
     rw [hk2]
     rw [hk2] at d0
     simp only [rowPo,d0,vcd,↓vcp,seval]
     repeat' first|refine ⟨fun h=>?_,fun h=>?_⟩|refine aX ?_|fail
     refine rK (Wk.pub 1000 rfl) trivial ?_
     simp only [slPo,rsb,vcd,↓vcp,seval]
     exact VLe.refl _
 ·rw [ofL,nL,if_neg he]
  rw [paidL,if_neg he] at cp
  have n0:(checkL k' l != 0)=true:=by rw [bne_iff_ne];exact he
  generalize checkL k' l=e at *
  refine qP Tryz.func54 fun c hP hfn=>?_;simp only [vC,cC,vcd,↓vcp,seval]
  repeat' first|(refine tq hP (h:=⟨_,fun _=>by exact cp,?_⟩);try simp only [n0,vcd,↓vcp,seval])|refine ⟨fun h=>?_,fun h=>?_⟩|refine aX ?_|fail
  all_goals
   refine rp ?_
   simp only [rsb,vcd,↓vcp,seval]
   exact VLe.tups ⟨vle_nil,VLe.refl _,trivial⟩
end Go.Proofs.YtmccbkekpjgdbaaGreat
end
section
namespace Go.Proofs.YtmccbkekpjgdbaaGreat
open Go.Bx
set_option maxRecDepth 10000
theorem TR.yieldD {c:Ctx} {fn:List Nat} {Z:Nat→List (Nat×Go.Bx.Own)} (hZ:CliZ fn Z) (hfn:c.fn=fn) {k l:Nat} {go:Bool} {args:List V} (hY:YR c l args (Z k) (Z (k+1)) go) {env:List (Nat×V)} {own:List (Nat×Go.Bx.Own)} {nm:List Nat} (hB:wkB [] ⟨env,own,nm⟩=true) (hnm:(nm.all fun n=>decide (n<1000000))=true)
  {d:Option Nat} {x:X} {xs:List X} {acc:List Lg} {anc:List Nat} {K:Kont} (hx:evV ⟨env,own++Z k,nm++keysO (Z k)⟩ x=.fn (.yield l) [] []) (hsx:evS true ⟨env,own++Z k,nm++keysO (Z k)⟩ x) (ha:evVs ⟨env,own++Z k,nm++keysO (Z k)⟩ xs=args) (hs:evSs true ⟨env,own++Z k,nm++keysO (Z k)⟩ xs)
  (hok:∀ lg,ownOk (acc++[lg]) anc=true) (h:∀ st',Wk c st' ⟨setE env d (.d (.bool go)),own++Z (k+1),nm++keysO (Z (k+1))⟩→K .nrm st'):TR c true [⟨d,none,.callv x xs⟩] ⟨env,own++Z k,nm++keysO (Z k)⟩ acc (drwK anc K):=by
 have hB':=hB
 simp only [wkB,Bool.and_eq_true,List.all_eq_true,List.contains_iff_mem] at hB'
 obtain ⟨-,h2,h3,h4⟩:=hB'
 have hk:∀ n,n∈keysO own→n∈nm:=fun n hk=>by obtain ⟨o,ho'⟩:=keys_mem hk;exact h4 n (oNames_in ho').1
 have hlt:∀ n,n∈nm→n<1000000:=fun n hn=>by simpa using List.all_eq_true.1 hnm n hn
 have hnd:(keysO (own++Z k)).Nodup:=by
  rw [keysO_app,List.nodup_append]
  exact ⟨nodupB_ok h2,hZ.nodup k,fun a ha b hb e=>by have:=hlt a (hk a ha);have:=hZ.ge k b hb;omega⟩
 have hin:∀ n o,(n,o)∈Z k→own? (own++Z k) n=some o:=fun n o hm=>mem_own? hnd (List.mem_append_right _ hm)
 refine TR.cons _ (hY d x xs _ hx hsx ha hs hin) (fun n hn h5=>?_) (TR.nil ⟨hok _,h _ ?_⟩)
 ·obtain ⟨h6,h7⟩:=List.mem_filter.1 hn
  rcases List.mem_append.1 h5 with h5|h5
  ·have:=hlt n h5;have:=hZ.ge _ n h6;omega
  ·simp only [Bool.not_eq_true',List.contains_eq_mem,decide_eq_false_iff_not] at h7
   exact h7 h5
 ·have hcall:=fun n=>own?_call (ins:=Z k) (outs:=Z (k+1)) hnd (hZ.nodup (k+1)) n
  refine Wk.ofZ0 (c:=c) (st:=St.stp ⟨env,own++Z k,nm++keysO (Z k)⟩ d { val:=.d (.bool go),upd:=callU (Z k) (Z (k+1)),rd:=keysO (Z k),new:=(keysO (Z (k+1))).filter fun n=>!(keysO (Z k)).contains n }) hZ hfn (k+1) (env:=setE env d (.d (.bool go))) (own:=own) (nm:=nm) ?_ hnm ?_ ?_ ?_
  ·simp only [wkB,List.all_nil,Bool.true_and,Bool.and_eq_true,List.all_eq_true,List.contains_iff_mem] at hB ⊢
   refine ⟨hB.1,fun n hn=>?_,hB.2.2⟩
   cases d with
   |none=>exact hB.2.1 n hn
   |some d =>
    simp only [setE,envNames,V.names,List.nil_append] at hn
    exact hB.2.1 n hn
  ·exact fun s=>VLe.refl _
  ·refine OwnLe.of fun n o hm=>⟨o,?_,OLe.refl o⟩
   have hn:=hlt n (hk n (mem_keys hm))
   show own? (applyU (own++Z k) (callU (Z k) (Z (k+1)))) n=some o
   rw [hcall,own?_Z hZ hn]
   simp only
   rw [if_neg (fun h=>by have:=hZ.ge k n h;omega)]
   exact mem_own? hnd (List.mem_append_left _ hm)
  ·intro n o hm
   show own? (applyU (own++Z k) (callU (Z k) (Z (k+1)))) n=some o
   rw [hcall,mem_own? (hZ.nodup (k+1)) hm]
def cSt (P:List (Int×Int)):List V:=[.d (slK .i64 (P.map (·.1))),.d (slK .i64 (P.map (·.2)))]
def vSt (P:List (Int×Int)):V:=.ag (cSt P)
theorem map1 {P:List (Int×Int)} {k:Nat} {p:Int×Int} (h:P[k]?=some p):(P.map (·.1)).getD k 0=p.1∧(P.map (·.2)).getD k 0=p.2:=by
 simp [List.getD_eq_getElem?_getD,h]
theorem sMoney (v:Int):Ctr Tryz.prog 59 [.d (.int .i64 v)] [] (.d (.bool (moneyB v))) [] []:=by
 refine qP Tryz.func59 fun c hP hfn=>?_;simp only [vcd,↓vcp,seval]
 repeat' first|refine ⟨fun h=>?_,fun h=>?_⟩|refine aX ?_|fail
 exact rr
theorem sFullS (a b:Int):Ctr Tryz.prog 126 [vS a b] [] (.d (.bool (fullB a b))) [] []:=by
 refine qP Tryz.func126 fun c hP hfn=>?_;simp only [vS,vcd,↓vcp,seval]
 repeat' first|refine ⟨fun h=>?_,fun h=>?_⟩|refine aX ?_|fail
 exact rr
theorem sRightS (P:List (Int×Int)) (hl:P.length≤9223372036854775806):Ctr Tryz.prog 30 [vSt P] [] (.d (.bool (stG 0 0 P))) [] []:=by
 have n0:((P.length:Int) != (P.length:Int))=false:=by rw [bne_eq_false_iff_eq]
 refine qP Tryz.func30 fun c hP hfn=>?_;simp only [vSt,cSt,slK,List.length_map,n0,vcd,↓vcp,seval]
 repeat' first|refine ⟨fun h=>?_,fun h=>?_⟩|refine aX ?_|fail
 refine vcC.loop (X:=Nat×Int×Int) (fun x=>⟨[(1,.own 1 0),(3,.d (.int .i64 x.2.1)),(4,.d (.int .i64 x.2.2)),(16,.d (slK .i64 (P.map (·.1)))),(17,.d (.int .i64 P.length)),(18,.d (.int .i64 x.1))],[(1,.fix (cSt P))],[1]⟩)
  (fun x=>x.1≤P.length∧stG 0 0 P=stG x.2.1 x.2.2 (P.drop x.1)) (fun x=>P.length-x.1) (0,0,0) ⟨Nat.zero_le _,rfl⟩ (Wk.of _ hfn rfl (by simp only [slK,List.length_map,enb,vcd,↓vcp,seval]) (by simp only [cSt,slK,List.length_map,enb,vcd,↓vcp,seval])) ?_
 rintro ⟨k,day,val⟩ ⟨hk,he⟩
 simp only at hk he
 by_cases hlt:k<P.length
 ·obtain ⟨⟨d,v⟩,hd,-,-,hp⟩:=drop_at hlt
  obtain ⟨g1,g2⟩:=map1 hp
  simp only at g1 g2
  rw [hd,stG] at he
  have d0:decide ((k:Int)<(P.length:Int))=true:=decide_eq_true (by omega)
  have w1:IntKind.i64.wrap ((k:Int)+1)=((k+1:Nat):Int):=wS (by omega)
  have b1:(0:Int)≤(k:Int)∧(k:Int)<(P.length:Int):=by omega
  simp only [cSt,slK,List.length_map,d0,g1,g2,vcd,↓vcp,seval]
  repeat' first|(refine tq hP (h:=⟨_,fun _=>by exact sMoney v,?_⟩);try simp only [d0,g1,g2,w1,vcd,↓vcp,seval])|refine ⟨fun h=>?_,fun h=>?_⟩|refine aX ?_|fail
  ·have hx:stG 0 0 P=false:=by rw [he,h];rfl
   rw [hx]
   exact rr
  ·rw [h] at he
   refine lopK.on (k+1,d,v) ⟨hlt,he⟩ (by simp only;omega) (Wk.of _ hfn rfl (by simp only [slK,List.length_map,w1,enb,vcd,↓vcp,seval]) (by simp only [cSt,slK,List.length_map,enb,vcd,↓vcp,seval]))
 ·have d0:decide ((k:Int)<(P.length:Int))=false:=decide_eq_false (by omega)
  rw [List.drop_eq_nil_of_le (by omega),stG] at he
  rw [he]
  simp only [cSt,slK,List.length_map,d0,vcd,↓vcp,seval]
  repeat' first|refine ⟨fun h=>?_,fun h=>?_⟩|refine aX ?_|fail
  exact rr
end Go.Proofs.YtmccbkekpjgdbaaGreat
end
section
namespace Go.Proofs.YtmccbkekpjgdbaaGreat
open Go.Bx
set_option maxRecDepth 10000
theorem midW {i j:Nat} (h:i+j≤9223372036854775807):IntKind.i64.wrap ((IntKind.u64.wrap (IntKind.i64.wrap ((i:Int)+(j:Int)))).fdiv (2 ^ min 1 IntKind.u64.bits))=(((i+j) / 2:Nat):Int):=by
 have e1:IntKind.i64.wrap ((i:Int)+(j:Int))=((i+j:Nat):Int):=(wI (by omega)).trans (by omega)
 have e2:IntKind.u64.wrap ((i+j:Nat):Int)=((i+j:Nat):Int):=by
  rw [IntWalk.u64_in _ (by omega)]
 have e3:((i+j:Nat):Int).fdiv (2 ^ min 1 IntKind.u64.bits)=(((i+j) / 2:Nat):Int):=by
  have:(2:Int) ^ min 1 IntKind.u64.bits=2:=rfl
  rw [this,Int.fdiv_eq_ediv_of_nonneg _ (by omega)];omega
 rw [e1,e2,e3,wI (by omega)]
theorem sIsNaN (a:Int):Ctr Tryz.prog 105 [.d (.int .i64 a)] [] (.d (.bool false)) [] []:=by
 refine qP Tryz.func105 fun c hP hfn=>?_;simp only [vcd,↓vcp,seval]
 (refine rq ?_;first|exact ⟨⟩|simp)
def CutAt (A:List Int) (x:Int) (n:Nat):Prop:=n≤A.length∧(∀ j,j<n→A.getD j 0<x)∧(∀ j,n≤j→j<A.length→x≤A.getD j 0)
theorem cutAt_ex:∀ {A:List Int} (x:Int),A.Pairwise (·<·)→∃ n,CutAt A x n
 |[],x,_=>⟨0,Nat.le_refl _,fun j hj=>absurd hj (Nat.not_lt_zero j),fun j _ hj=>by simp at hj⟩
 |a::A,x,h=>by
  obtain ⟨h1,h2⟩:=List.pairwise_cons.1 h
  by_cases hx:a<x
  ·obtain ⟨n,g1,g2,g3⟩:=cutAt_ex x h2
   refine ⟨n+1,by simpa using g1,fun j hj=>?_,fun j hj hl=>?_⟩
   ·cases j with
    |zero=>simpa using hx
    |succ j=>simpa using g2 j (by omega)
   ·cases j with
    |zero=>omega
    |succ j=>simpa using g3 j (by omega) (by simpa using hl)
  ·refine ⟨0,Nat.zero_le _,fun j hj=>absurd hj (Nat.not_lt_zero j),fun j _ hl=>?_⟩
   cases j with
   |zero=>simp;omega
   |succ j =>
    have hl':j<A.length:=by simpa using hl
    have:=h1 A[j] (List.getElem_mem hl')
    simp [List.getD_eq_getElem?_getD,hl'];omega
theorem sBin (A:List Int) (x:Int) (n:Nat) (hn:CutAt A x n) (hl:A.length≤2305843009213693952):Ctr Tryz.prog 60 [.d (slK .i64 A),.d (.int .i64 x)] [] (.tup [.d (.int .i64 (n:Int)),.d (.bool (decide (n<A.length)&&(A.getD n 0 == x)))]) [] []:=by
 obtain ⟨hnl,hlo,hhi⟩:=hn
 refine qP Tryz.func60 fun c hP hfn=>?_;simp only [slK,vcd,↓vcp,seval]
 refine vcC.loop (X:=Nat×Nat) (fun y=>⟨[(0,.d (slK .i64 A)),(1,.d (.int .i64 x)),(6,.d (.int .i64 A.length)),(7,.d (.int .i64 (y.1:Nat))),(8,.d (.int .i64 (y.2:Nat)))],[],[]⟩)
  (fun y=>y.1≤n∧n≤y.2∧y.2≤A.length) (fun y=>y.2-y.1) (0,A.length) ⟨Nat.zero_le _,hnl,Nat.le_refl _⟩ (Wk.of _ hfn rfl (by simp only [slK,enb,vcd,↓vcp,seval]) (by simp only [enb,vcd,↓vcp,seval])) ?_
 rintro ⟨i,j⟩ ⟨h1,h2,h3⟩
 simp only at h1 h2 h3
 by_cases hij:i<j
 ·have d0:decide ((i:Int)<(j:Int))=true:=decide_eq_true (by omega)
  have wq:=midW (i:=i) (j:=j) (by omega)
  obtain ⟨q,hh⟩:∃ q,q=(i+j) / 2:=⟨_,rfl⟩
  rw [←hh] at wq
  have hq:i≤q∧q<j:=by omega
  have w1:IntKind.i64.wrap ((q:Int)+1)=((q+1:Nat):Int):=wS (by omega)
  have b1:(0:Int)≤(q:Int)∧(q:Int)<(A.length:Int):=by omega
  have cc:=sLess (A.getD q 0) x
  simp only [slK,d0,wq,vcd,↓vcp,seval]
  repeat' first|(refine tq hP (h:=⟨_,fun _=>by exact cc,?_⟩);try simp only [d0,wq,w1,vcd,↓vcp,seval])|refine ⟨fun h=>?_,fun h=>?_⟩|refine aX ?_|fail
  ·have hx:A.getD q 0<x:=of_decide_eq_true h
   have hqn:q<n:=by
    by_cases g:q<n
    ·exact g
    ·have:=hhi q (by omega) (by omega);omega
   exact lopK.on (q+1,j) ⟨hqn,h2,h3⟩ (by simp only;omega) (Wk.of _ hfn rfl (by simp only [slK,w1,enb,vcd,↓vcp,seval]) (by simp only [enb,vcd,↓vcp,seval]))
  ·have hx:¬ A.getD q 0<x:=of_decide_eq_false h
   have hqn:n≤q:=by
    by_cases g:q<n
    ·exact absurd (hlo q g) hx
    ·omega
   exact lopK.on (i,q) ⟨h1,hqn,by simp only;omega⟩ (by simp only;omega) (Wk.of _ hfn rfl (by simp only [slK,enb,vcd,↓vcp,seval]) (by simp only [enb,vcd,↓vcp,seval]))
 ·have d0:decide ((i:Int)<(j:Int))=false:=decide_eq_false (by omega)
  obtain rfl:i=n:=by omega
  by_cases hb:i<A.length
  ·have d1:decide ((i:Int)<(A.length:Int))=true:=decide_eq_true (by omega)
   have d2:decide (i<A.length)=true:=decide_eq_true hb
   have b1:(0:Int)≤(i:Int)∧(i:Int)<(A.length:Int):=by omega
   rw [d2,Bool.true_and]
   cases hq:(A.getD i 0 == x) with
   |true =>
    simp only [slK,d0,d1,hq,vcd,↓vcp,seval]
    repeat' first|(refine tq hP (h:=⟨_,fun _=>by first|exact sIsNaN (A.getD i 0)|exact sIsNaN x,?_⟩);try simp only [d0,d1,hq,vcd,↓vcp,seval])|refine ⟨fun h=>?_,fun h=>?_⟩|refine aX ?_|fail
    exact rr
   |false =>
    simp only [slK,d0,d1,hq,vcd,↓vcp,seval]
    repeat' first|(refine tq hP (h:=⟨_,fun _=>by first|exact sIsNaN (A.getD i 0)|exact sIsNaN x,?_⟩);try simp only [d0,d1,hq,vcd,↓vcp,seval])|refine ⟨fun h=>?_,fun h=>?_⟩|refine aX ?_|fail
    exact rr
  ·have d1:decide ((i:Int)<(A.length:Int))=false:=decide_eq_false (by omega)
   have d2:decide (i<A.length)=false:=decide_eq_false hb
   rw [d2,Bool.false_and]
   simp only [slK,d0,d1,vcd,↓vcp,seval]
   repeat' first|(refine tq hP (h:=⟨_,fun _=>by first|exact sIsNaN (A.getD i 0)|exact sIsNaN x,?_⟩);try simp only [d0,d1,vcd,↓vcp,seval])|refine ⟨fun h=>?_,fun h=>?_⟩|refine aX ?_|fail
   exact rr
theorem sValue (P:List (Int×Int)) (day:Int) (hs:P.Pairwise (fun a b=>a.1<b.1)) (hl:P.length≤2305843009213693952):Ctr Tryz.prog 31 [vSt P,.d (.int .i64 day)] [] (.d (.int .i64 (valS P day))) [] []:=by
 obtain ⟨n,hn⟩:=cutAt_ex (A:=P.map (·.1)) day (List.pairwise_map.2 hs)
 have cb:=sBin (P.map (·.1)) day n hn (by rw [List.length_map];exact hl)
 obtain ⟨h1,h2,h3⟩:=hn
 rw [List.length_map] at h1
 have hm:∀ j,j<P.length→(P.map (·.1)).getD j 0=(P.getD j (0,0)).1∧(P.map (·.2)).getD j 0=(P.getD j (0,0)).2:=fun j hj=>by
  obtain ⟨p,-,hg,-,hp⟩:=drop_at hj
  rw [hg];exact map1 hp
 have hlt:∀ i j,i<j→j<P.length→(P.getD i (0,0)).1<(P.getD j (0,0)).1:=fun i j hij hj=>by
  have:=List.pairwise_iff_getElem.1 hs i j (by omega) hj hij
  simpa [List.getD_eq_getElem?_getD,hj,(by omega:i<P.length)] using this
 rw [List.length_map] at cb
 simp only [slK,List.length_map] at cb
 by_cases hb:n<P.length∧(P.getD n (0,0)).1=day
 ·obtain ⟨hb1,hb2⟩:=hb
  have hv:valS P day=(P.getD n (0,0)).2:=by
   have:=valG_at (P:=P) (cur:=0) (day:=day) (n+1) hb1 (fun j hj=>by
    by_cases g:j=n
    ·rw [g,hb2];exact Int.le_refl _
    ·have:=h2 j (by omega);rw [(hm j (by omega)).1] at this;omega) (fun j hj hl=>by have:=hlt n j (by omega) hl;omega)
   rw [valS,this,if_neg (by omega)];rfl
  have hd:(decide (n<P.length)&&((P.map (·.1)).getD n 0 == day))=true:=by rw [(hm n hb1).1,decide_eq_true hb1,hb2];simp
  rw [hd] at cb
  have d0:decide ((n:Int)<0)=false:=decide_eq_false (by omega)
  have b1:(0:Int)≤(n:Int)∧(n:Int)<(P.length:Int):=by omega
  rw [hv]
  refine qP Tryz.func31 fun c hP hfn=>?_;simp only [vSt,cSt,slK,List.length_map,vcd,↓vcp,seval]
  repeat' first|(refine tq hP (h:=⟨_,fun _=>by exact cb,?_⟩);try simp only [d0,vcd,↓vcp,seval])|refine ⟨fun h=>?_,fun h=>?_⟩|refine aX ?_|fail
  refine rp ?_
  simp only [(hm n hb1).2,rsb,vcd,↓vcp,seval]
  exact VLe.refl _
 ·have hd:(decide (n<P.length)&&((P.map (·.1)).getD n 0 == day))=false:=by
   by_cases g:n<P.length
   ·rw [(hm n g).1,decide_eq_true g,Bool.true_and,beq_eq_false_iff_ne];exact fun e=>hb ⟨g,e⟩
   ·rw [decide_eq_false g];rfl
  rw [hd] at cb
  have hv:valS P day=if n=0 then 0 else (P.getD (n-1) (0,0)).2:=valG_at (P:=P) (cur:=0) (day:=day) n h1 (fun j hj=>by have:=h2 j hj;rw [(hm j (by omega)).1] at this;omega) (fun j hj hl=>by
    have:=h3 j hj (by rw [List.length_map];exact hl)
    rw [(hm j hl).1] at this
    by_cases g:j=n
    ·subst g
     have:¬ (P.getD j (0,0)).1=day:=fun e=>hb ⟨hl,e⟩
     omega
    ·have:=hlt n j (by omega) hl
     have g3:=h3 n (Nat.le_refl _) (by rw [List.length_map];omega)
     rw [(hm n (by omega)).1] at g3
     omega)
  by_cases h0:n=0
  ·subst h0
   have w0:IntKind.i64.wrap (-1)=-1:=wI (by omega)
   have d0:decide ((-1:Int)<0)=true:=rfl
   rw [hv,if_pos rfl]
   refine qP Tryz.func31 fun c hP hfn=>?_;simp only [vSt,cSt,slK,List.length_map,vcd,↓vcp,seval]
   repeat' first|(refine tq hP (h:=⟨_,fun _=>by exact cb,?_⟩);try simp only [w0,d0,vcd,↓vcp,seval])|refine ⟨fun h=>?_,fun h=>?_⟩|refine aX ?_|fail
   exact rr
  ·have w1:IntKind.i64.wrap ((n:Int)-1)=((n-1:Nat):Int):=(wI (by omega)).trans (by omega)
   have d0:decide (((n-1:Nat):Int)<0)=false:=decide_eq_false (by omega)
   have b1:(0:Int)≤((n-1:Nat):Int)∧((n-1:Nat):Int)<(P.length:Int):=by omega
   rw [hv,if_neg h0]
   refine qP Tryz.func31 fun c hP hfn=>?_;simp only [vSt,cSt,slK,List.length_map,vcd,↓vcp,seval]
   repeat' first|(refine tq hP (h:=⟨_,fun _=>by exact cb,?_⟩);try simp only [w1,d0,vcd,↓vcp,seval])|refine ⟨fun h=>?_,fun h=>?_⟩|refine aX ?_|fail
   refine rp ?_
   simp only [(hm (n-1) (by omega)).2,rsb,vcd,↓vcp,seval]
   exact VLe.refl _
def pcL (P:List (Int×Int)) (a b:Int):List ((Int×Int)×Int):=pieG (valS P) b a (P.map (·.1))
def dSt (P:List (Int×Int)):List D:=[slK .i64 (P.map (·.1)),slK .i64 (P.map (·.2))]
def pcF (P:List (Int×Int)) (a b:Int):V:=.fn (.func 160) [] [.mem [.int .i64 a,.int .i64 b],.mem (dSt P)]
theorem sPieces (P:List (Int×Int)) (a b:Int):Ctr Tryz.prog 127 [vSt P,vS a b] [] (pcF P a b) [] []:=by
 refine qP Tryz.func127 fun c hP hfn=>?_;simp only [vSt,cSt,slK,List.length_map,vS,vcd,↓vcp,seval]
 repeat' first|refine ⟨fun h=>?_,fun h=>?_⟩|refine aX ?_|fail
 exact RetK.mk _ ((Wk.pubF 2 rfl rfl).trans (Wk.pubF 3 rfl rfl)) (by simp only [rsb,vcd,↓vcp,seval]) (by simp only [pcF,dSt,slK,List.length_map,rsb,enb,vcd,↓vcp,seval]) trivial
def pcArgs (P:List (Int×Int)) (a b:Int) (k:Nat):List V:=[vS ((pcL P a b).getD k default).1.1 ((pcL P a b).getD k default).1.2,.d (.int .i64 ((pcL P a b).getD k default).2)]
theorem pieG_ne (f:Int→Int) (to:Int):∀ (r:List Int) (fr:Int),0<(pieG f to fr r).length
 |[],fr=>by simp [pieG]
 |d::r,fr=>by
  rw [pieG]
  split
  ·exact pieG_ne f to r fr
  ·simp
theorem it_pieces (P:List (Int×Int)) (a b:Int) (hs:P.Pairwise (fun a b=>a.1<b.1)) (hl:P.length≤1000000):IterC Tryz.prog 160 [.mem [.int .i64 a,.int .i64 b],.mem (dSt P)] (pcArgs P a b) (pcL P a b).length:=by
 refine iter_of_vc Tryz.func160 ok160 rfl cc160 cr160 (by simp only [Tryz.ntmps160,List.length_cons,List.length_nil];decide) rfl (fun _=>rfl) ?_
 intro c l' T stop Z hP _ hZ hT hT' hY
 have hbk:∀ k n o,(n,o)∈Z k→own? ([]++Z k) n=some o:=fun k n o hm=>mem_own? (hZ.nodup k) hm
 simp only [kc160,dSt,slK,List.length_map,vcd,↓vcp,seval]
 refine vcC.loop (X:=Nat×Int×Nat) (fun x=>⟨[(0,.fn (.yield l') [] []),(1,.mem [.int .i64 a,.int .i64 b]),(2,.mem (dSt P)),(4,.d (.int .i64 x.2.1)),(10,.d (slK .i64 (P.map (·.1)))),(11,.d (.int .i64 P.length)),(12,.d (.int .i64 (x.1:Nat)))],[]++Z x.2.2,[]++keysO (Z x.2.2)⟩)
  (fun x=>x.1≤P.length∧(pcL P a b).drop x.2.2=pieG (valS P) b x.2.1 ((P.map (·.1)).drop x.1)∧x.2.2<T) (fun x=>P.length-x.1) (0,a,0)
  ⟨Nat.zero_le _,rfl,by
   have h1:=pieG_ne (valS P) b (P.map (·.1)) a
   cases hst:stop with
   |true=>exact (hT' hst).1
   |false=>rw [hT hst];exact h1⟩ (Wk.ofZ hZ rfl 0 (own:=[]) (nm:=[]) rfl rfl (by simp only [dSt,slK,List.length_map,enb,vcd,↓vcp,seval]) (by simp only [enb,vcd,↓vcp,seval]) (hbk 0)) ?_
 rintro ⟨k,fr,m⟩ ⟨hk,hd,hm⟩
 simp only at hk hd hm
 have hTn:T≤(pcL P a b).length:=by
  cases hst:stop with
  |true=>exact (hT' hst).2
  |false=>rw [hT hst];exact Nat.le_refl _
 obtain ⟨x,hdx,hgx,-,-⟩:=drop_at (l:=pcL P a b) (k:=m) (by omega)
 have hgx:=hgx default
 rw [hdx] at hd
 have hval:=sValue P fr hs (by omega)
 simp only [vSt,cSt,slK,List.length_map] at hval
 by_cases hlt:k<P.length
 ·obtain ⟨⟨d,v⟩,hdp,-,-,hp⟩:=drop_at hlt
  obtain ⟨g1,g2⟩:=map1 hp
  simp only at g1
  have hdm:(P.map (·.1)).drop k=d::(P.map (·.1)).drop (k+1):=by rw [←List.map_drop,hdp,←List.map_drop];rfl
  rw [hdm,pieG] at hd
  have d0:decide ((k:Int)<(P.length:Int))=true:=decide_eq_true (by omega)
  have w1:IntKind.i64.wrap ((k:Int)+1)=((k+1:Nat):Int):=wS (by omega)
  have b1:(0:Int)≤(k:Int)∧(k:Int)<(P.length:Int):=by omega
  by_cases hskip:d≤fr∨d≥b
  ·rw [if_pos hskip] at hd
   have hc:(decide (d≤fr) || decide (d≥b))=true:=by rw [Bool.or_eq_true,decide_eq_true_eq,decide_eq_true_eq];exact hskip
   simp only [dSt,slK,List.length_map,d0,g1,hc,vcd,↓vcp,seval]
   repeat' first|refine ⟨fun h=>?_,fun h=>?_⟩|refine aX ?_|fail
   exact lopK.on (k+1,fr,m) ⟨hlt,by rw [hdx];exact hd,hm⟩ (by simp only;omega) (Wk.ofZ hZ rfl m (own:=[]) (nm:=[]) rfl rfl (by simp only [dSt,slK,List.length_map,w1,enb,vcd,↓vcp,seval]) (by simp only [enb,vcd,↓vcp,seval]) (hbk m))
  ·rw [if_neg hskip] at hd
   have hc:(decide (d≤fr) || decide (d≥b))=false:=by rw [Bool.or_eq_false_iff,decide_eq_false_iff_not,decide_eq_false_iff_not];omega
   injection hd with hd1 hd2
   simp only [dSt,slK,List.length_map,d0,g1,hc,vcd,↓vcp,seval]
   repeat' first|(refine tq hP (h:=⟨_,fun _=>by exact hval,?_⟩);try simp only [d0,g1,w1,hc,vcd,↓vcp,seval])|refine ⟨fun h=>?_,fun h=>?_⟩|refine aX ?_|fail
   refine TR.yield hZ rfl (hY m hm) (own:=[]) (nm:=[]) rfl rfl rfl trivial (by simp only [pcArgs,hgx,hd1,vS,vcd,↓vcp,seval]) (by simp only [vcd,↓vcp,seval]) ?_
   simp only [vcd,↓vcp,seval]
   refine ⟨fun hg=>?_,fun hg=>?_⟩
   ·have hT1:T=m+1:=by
     simp [goAt] at hg
     omega
    subst hT1
    exact IterK.mk _ (Wk.refl _ _) (OwnLe.of fun n o hm=>⟨o,mem_own? (hZ.nodup (m+1)) hm,OLe.refl o⟩)
   ·have hmT:m+1<T:=by
     simp [goAt] at hg
     by_cases h9:m+1<T
     ·exact h9
     ·have h8:=hT (hg (by omega))
      have h7:=pieG_ne (valS P) b ((P.map (·.1)).drop (k+1)) d
      rw [←hd2,List.length_drop] at h7
      omega
    simp only [w1,vcd,↓vcp,seval]
    exact lopK.on (k+1,d,m+1) ⟨hlt,hd2,hmT⟩ (by simp only;omega) (Wk.ofZ hZ rfl (m+1) (own:=[]) (nm:=[]) rfl rfl (by simp only [dSt,slK,List.length_map,w1,enb,vcd,↓vcp,seval]) (by simp only [enb,vcd,↓vcp,seval]) (hbk (m+1)))
 ·have d0:decide ((k:Int)<(P.length:Int))=false:=decide_eq_false (by omega)
  have hdm:(P.map (·.1)).drop k=[]:=List.drop_eq_nil_of_le (by rw [List.length_map];omega)
  rw [hdm,pieG] at hd
  injection hd with hd1 hd2
  have hTm:T=m+1:=by
   have:=congrArg List.length hd2
   simp at this
   omega
  simp only [dSt,slK,List.length_map,d0,vcd,↓vcp,seval]
  repeat' first|(refine tq hP (h:=⟨_,fun _=>by exact hval,?_⟩);try simp only [d0,vcd,↓vcp,seval])|refine ⟨fun h=>?_,fun h=>?_⟩|refine aX ?_|fail
  refine TR.yieldD hZ rfl (hY m hm) (own:=[]) (nm:=[]) rfl rfl rfl trivial (by simp only [pcArgs,hgx,hd1,vS,vcd,↓vcp,seval]) (by simp only [vcd,↓vcp,seval]) ?_ ?_
  ·intro lg
   simp [ownOk,meetL,hitL,List.range,List.range.loop]
  ·intro st' hw
   rw [hTm]
   exact IterK.mk' _ hw (OwnLe.of fun n o hm=>⟨o,mem_own? (hZ.nodup (m+1)) hm,OLe.refl o⟩)
end Go.Proofs.YtmccbkekpjgdbaaGreat
end
