import Derived.Test.YtanppabbmffokaaGreatXE7
import Derived.Tactics
import Derived.Tactics2
import Derived.TacticsInMore
import Derived.RegionIn
import Derived.Laws.Pointers
set_option linter.unusedSimpArgs false
set_option linter.unusedVariables false
section
namespace Go.Proofs.YtanppabbmffokaaGreat
open Go.Bx
set_option maxRecDepth 10000
theorem midW {i j:Nat} (h:i+j≤9223372036854775807):IntKind.i64.wrap ((IntKind.u64.wrap (IntKind.i64.wrap ((i:Int)+(j:Int)))).fdiv (2 ^ min 1 IntKind.u64.bits))=(((i+j) / 2:Nat):Int):=by
 have e1:IntKind.i64.wrap ((i:Int)+(j:Int))=((i+j:Nat):Int):=(wI (by omega)).trans (by omega)
 have e2:IntKind.u64.wrap ((i+j:Nat):Int)=((i+j:Nat):Int):=by
  rw [IntWalk.u64_in _ (by omega)]
 have e3:((i+j:Nat):Int).fdiv (2 ^ min 1 IntKind.u64.bits)=(((i+j) / 2:Nat):Int):=by
  have:(2:Int) ^ min 1 IntKind.u64.bits=2:=rfl
  rw [this,Int.fdiv_eq_ediv_of_nonneg _ (by omega)];omega
 rw [e1,e2,e3,wI (by omega)]
theorem ins_lo {lt:Int→Int→Bool} (w:Swo lt) {x:Int} {B:List Int} (hB:Srt lt B) {j:Nat} (hj:j≤B.length) (h1:0<j→lt (B.getD (j-1) 0) x=true) (h2:j<B.length→lt (B.getD j 0) x=false):mrg lt [x] B=B.take j++x::B.drop j:=by
 have e1:=cut_mrg 0 w (List.pairwise_singleton _ x) hB 0 j (Nat.zero_le _) hj (fun _ h=>by simpa using h1 h) (fun h=>absurd h (Nat.lt_irrefl _))
 have hD:Srt lt (B.drop j):=List.Pairwise.sublist (List.drop_sublist j B) hB
 have e2:=cut_mrg 0 w (List.pairwise_singleton _ x) hD 1 0 (by simp) (Nat.zero_le _) (fun h=>absurd h (by simp)) (fun _ h=>by
  have h3:j<B.length:=by rw [List.length_drop] at h;omega
  simpa [List.getD_eq_getElem?_getD] using h2 h3)
 simp only [List.take_zero,List.drop_zero,mrg_nil2] at e1
 simp [mrg_nil,mrg_nil2] at e2
 rw [e1,e2]
theorem ins_hi {lt:Int→Int→Bool} (w:Swo lt) {x:Int} {A:List Int} (hA:Srt lt A) {i:Nat} (hi:i≤A.length) (h1:i<A.length→lt x (A.getD i 0)=true) (h2:0<i→lt x (A.getD (i-1) 0)=false):mrg lt A [x]=A.take i++x::A.drop i:=by
 have e1:=cut_mrg 0 w hA (List.pairwise_singleton _ x) i 0 hi (Nat.zero_le _) (fun _ h=>absurd h (Nat.lt_irrefl _)) (fun h _=>by simpa using h2 h)
 have hD:Srt lt (A.drop i):=List.Pairwise.sublist (List.drop_sublist i A) hA
 have e2:=cut_mrg 0 w hD (List.pairwise_singleton _ x) 0 1 (Nat.zero_le _) (by simp) (fun h _=>by
  have h3:i<A.length:=by rw [List.length_drop] at h;omega
  simpa [List.getD_eq_getElem?_getD] using h1 h3) (fun h=>absurd h (Nat.lt_irrefl _))
 simp only [List.take_zero,List.drop_zero,mrg_nil] at e1
 simp [mrg_nil,mrg_nil2] at e2
 rw [e1,e2]
theorem sRot {g:Nat} {ds:List D} (P U W S:List Int) (a m b:Nat) (ha:a=P.length) (hm:m=a+U.length) (hb:b=m+W.length) (hu:0<U.length) (hw:0<W.length) (hl:b+S.length≤4611686018427387904) :
  Ctr Tryz.prog 207 [.osl 900,.d (.int .i64 (a:Int)),.d (.int .i64 (m:Int)),.d (.int .i64 (b:Int)),fnO g ds] [(900,rowZ (P++(U++(W++S))))] (.tup []) [(900,rowZ (P++(W++(U++S))))] []:=by
 subst ha;subst hm;subst hb
 exact sRotate P U W S hu hw hl
def SymAt (g : Nat) (ds : List D) (cf : Int → Int → Int) (ok : Int → Prop) (N : Nat) : Prop := ∀ (P A B S : List Int) (a m b : Nat), a = P.length → m = a + A.length → b = m + B.length → A.length + B.length ≤ N → 0 < A.length → 0 < B.length → Srt (ltO cf) A → Srt (ltO cf) B → (∀ x, x ∈ A ++ B → ok x) → b + S.length ≤ 2305843009213693952 →
    Ctr Tryz.prog 202 [.osl 900,.d (.int .i64 (a:Int)),.d (.int .i64 (m:Int)),.d (.int .i64 (b:Int)),fnO g ds] [(900,rowZ (P++(A++(B++S))))] (.tup []) [(900,rowZ (P++(mrg (ltO cf) A B++S)))] []
set_option maxHeartbeats 2000000 in
theorem sSymA {g:Nat} {ds:List D} {cf:Int→Int→Int} {ok:Int→Prop} (hc:CmpO g ds cf ok) (P A B S:List Int) (a m b:Nat) (ha:a=P.length) (hm:m=a+A.length) (hb:b=m+B.length) (hA:0<A.length) (hB:0<B.length) (sA:Srt (ltO cf) A) (sB:Srt (ltO cf) B) (hok:∀ x,x∈A++B→ok x) (hl:b+S.length≤2305843009213693952) (hA1:A.length=1) :
  Ctr Tryz.prog 202 [.osl 900,.d (.int .i64 (a:Int)),.d (.int .i64 (m:Int)),.d (.int .i64 (b:Int)),fnO g ds] [(900,rowZ (P++(A++(B++S))))] (.tup []) [(900,rowZ (P++(mrg (ltO cf) A B++S)))] []:=by
 refine ctr_own Tryz.func202 ok202 rfl cc202 cr202 Tryz.ntmps202 (by simp) rfl ?_
 intro c hP hfn
 obtain ⟨r,hr⟩:∃ r,r=P++(A++(B++S)):=⟨_,rfl⟩
 have hrl:r.length=b+S.length:=by rw [hr];simp only [List.length_append];omega
 have gA:∀ k,k<A.length→r.getD (a+k) 0=A.getD k 0:=fun k hk=>by
  rw [hr];simp only [getD_app];rw [if_neg (by omega),if_pos (by omega)];congr 1;omega
 have gB:∀ k,k<B.length→r.getD (m+k) 0=B.getD k 0:=fun k hk=>by
  rw [hr];simp only [getD_app];rw [if_neg (by omega),if_neg (by omega),if_pos (by omega)];congr 1;omega
 have okA:∀ k,k<A.length→ok (A.getD k 0):=fun k hk=>by
  obtain ⟨x,-,hx,hm,-⟩:=drop_at hk;rw [hx];exact hok x (by simp [hm])
 have okB:∀ k,k<B.length→ok (B.getD k 0):=fun k hk=>by
  obtain ⟨x,-,hx,hm,-⟩:=drop_at hk;rw [hx];exact hok x (by simp [hm])
 rw [←hr]
 have wa:IntKind.i64.wrap ((m:Int)-(a:Int))=1:=(wI (by omega)).trans (by omega)
 simp only [kc202,namesL,V.names,ownNames,rowZ,fnO,wa,vcd,↓vcp,seval]
 repeat' first|refine And.intro (fun h=>?_) (fun h=>?_)|refine aO ?_|(refine tA rfl rfl rfl rfl ?_;try simp only [wa,vcd,↓vcp,seval])|refine aT ?_|fail
 refine vcC.loop (X:=Nat×Nat) (fun x=>⟨[(0,.osl 900),(1,.d (.int .i64 (a:Int))),(4,fnO g ds),(10,.d (.int .i64 (x.1:Nat))),(11,.d (.int .i64 (x.2:Nat)))],[(900,rowZ r)],[900]⟩)
  (fun x=>m≤x.1∧x.1≤x.2∧x.2≤b∧(m<x.1→ltO cf (B.getD (x.1-1-m) 0) (A.getD 0 0)=true)∧(x.2<b→ltO cf (B.getD (x.2-m) 0) (A.getD 0 0)=false)) (fun x=>x.2-x.1) (m,b) ⟨Nat.le_refl _,by simp only;omega,Nat.le_refl _,fun h=>absurd h (Nat.lt_irrefl _),fun h=>absurd h (Nat.lt_irrefl _)⟩ (Wk.of _ hfn rfl (by simp only [fnO,enb,vcd,↓vcp,seval]) (by simp only [rowZ,enb,vcd,↓vcp,seval])) ?_
 rintro ⟨i,j⟩ ⟨h1,h2,h3,h4,h5⟩
 simp only at h1 h2 h3 h4 h5
 by_cases hij:i<j
 ·have d1:decide ((i:Int)<(j:Int))=true:=decide_eq_true (by omega)
  have wm:=midW (i:=i) (j:=j) (by omega)
  obtain ⟨q,hh⟩:∃ q,q=(i+j) / 2:=⟨_,rfl⟩
  have hb1:i≤q∧q<j:=by omega
  rw [←hh] at wm
  have g1:r.getD q 0=B.getD (q-m) 0:=by rw [←gB _ (by omega)];congr 1;omega
  have g2:r.getD a 0=A.getD 0 0:=by have:=gA 0 hA;simpa using this
  have cc:=hc.c _ _ (okB (q-m) (by omega)) (okA 0 hA)
  have bh:(0:Int)≤(q:Int)∧(q:Int)<(r.length:Int):=by omega
  have ba:(0:Int)≤(a:Int)∧(a:Int)<(r.length:Int):=by omega
  have w2:IntKind.i64.wrap ((q:Int)+1)=((q+1:Nat):Int):=wS (by omega)
  simp only [rowZ,fnO,d1,wm,g1,g2,vcd,↓vcp,seval]
  repeat' first|((first|refine tp hP (by exact cc) ?_|refine tg hP (fun _=>by exact cc) ?_|refine tv hP rfl (by exact cc) ?_);try simp only [wm,g1,g2,vcd,↓vcp,seval])|refine And.intro (fun h=>?_) (fun h=>?_)|refine aO ?_|(refine tA rfl rfl rfl rfl ?_;try simp only [wm,g1,g2,vcd,↓vcp,seval])|refine aT ?_|fail
  ·exact lopK.on (q+1,j) ⟨by simp only;omega,by simp only;omega,h3,fun _=>by simpa [ltO] using h,h5⟩ (by simp only;omega) (Wk.of _ hfn rfl (by simp only [fnO,w2,enb,vcd,↓vcp,seval]) (by simp only [rowZ,enb,vcd,↓vcp,seval]))
  ·exact lopK.on (i,q) ⟨h1,by simp only;omega,by simp only;omega,h4,fun _=>h⟩ (by simp only;omega) (Wk.of _ hfn rfl (by simp only [fnO,enb,vcd,↓vcp,seval]) (by simp only [rowZ,enb,vcd,↓vcp,seval]))
 ·have d1:decide ((i:Int)<(j:Int))=false:=decide_eq_false (by omega)
  have hij2:j=i:=by omega
  subst hij2
  obtain ⟨x,rfl⟩:∃ x,A=[x]:=by
   match A,hA1 with
   |[x],_=>exact ⟨x,rfl⟩
  have hml:m=a+1:=hm
  have hmr:=ins_lo hc.w (x:=x) sB (j:=j-m) (by omega) (fun h=>by have:=h4 (by omega);rw [show j-m-1=j-1-m by omega];simpa using this) (fun h=>by have:=h5 (by omega);simpa using this)
  have w3:IntKind.i64.wrap ((j:Int)-1)=((j-1:Nat):Int):=(wI (by omega)).trans (by omega)
  simp only [rowZ,fnO,d1,vcd,↓vcp,seval]
  repeat' first|refine And.intro (fun h=>?_) (fun h=>?_)|refine aO ?_|(refine tA rfl rfl rfl rfl ?_;try simp only [vcd,↓vcp,seval])|refine aT ?_|fail
  refine vcC.loop (X:=Nat×List Int) (fun x=>⟨[(0,.osl 900),(10,.d (.int .i64 (j:Nat))),(13,.d (.int .i64 (x.1:Nat)))],[(900,rowZ x.2)],[900]⟩)
   (fun y=>∃ t,y.1=a+t∧t≤j-m∧y.2=P++(B.take t++(x::(B.drop t++S)))) (fun y=>j-y.1) (a,r) ⟨0,rfl,Nat.zero_le _,by simpa using hr⟩ (Wk.of _ hfn rfl (by simp only [fnO,enb,vcd,↓vcp,seval]) (by simp only [rowZ,enb,vcd,↓vcp,seval])) ?_
  rintro ⟨k,l⟩ ⟨t,hk,ht,hL⟩
  simp only at hk hL
  by_cases hlt:t<j-m
  ·have d2:decide ((k:Int)<((j-1:Nat):Int))=true:=decide_eq_true (by omega)
   have w4:IntKind.i64.wrap ((k:Int)+1)=((k+1:Nat):Int):=wS (by omega)
   obtain ⟨y,hd,-,-,he⟩:=drop_at (l:=B) (k:=t) (by omega)
   have hL2:l=(P++B.take t)++x::y::(B.drop (t+1)++S):=by rw [hL,hd];simp
   have hll:l.length=P.length+t+1+1+(B.length-(t+1))+S.length:=by rw [hL2];simp only [List.length_append,List.length_cons,List.length_take,List.length_drop];omega
   have u1:l.getD k 0=x:=by rw [hL2];exact getD_at (by simp only [List.length_append,List.length_take];omega)
   have u2:l.getD (k+1) 0=y:=by
    rw [hL2,show (P++B.take t)++x::y::(B.drop (t+1)++S)=(P++B.take t++[x])++y::(B.drop (t+1)++S) by simp]
    exact getD_at (by simp only [List.length_append,List.length_take,List.length_singleton];omega)
   have b1:(0:Int)≤(k:Int)∧(k:Int)<(l.length:Int):=by omega
   have b2:(0:Int)≤((k+1:Nat):Int)∧((k+1:Nat):Int)<(l.length:Int):=by omega
   simp only [rowZ,w3,w4,d2,u1,u2,vcd,↓vcp,seval]
   repeat' first|refine And.intro (fun h=>?_) (fun h=>?_)|refine aO ?_|(refine tA rfl rfl rfl rfl ?_;try simp only [w3,w4,u1,u2,vcd,↓vcp,seval])|refine aT ?_|fail
   refine lopK.on (k+1,swq 0 l k (k+1)) ⟨t+1,by simp only;omega,hlt,?_⟩ (by simp only;omega) (Wk.of _ hfn rfl (by simp only [w4,enb,vcd,↓vcp,seval]) ?_)
   ·simp only [hL2]
    rw [swq_next 0 (P++B.take t) x y _ (by simp only [List.length_append,List.length_take];omega) (by simp only [List.length_append,List.length_take];omega),List.take_add_one,he]
    simp
   ·simp only [rowZ,enb,vcd,↓vcp,seval]
    have:=OLe.swz (e:=3) (l:=l) (i:=k) (j:=k+1) (by omega) (by omega) u1 u2 rfl
    simp only [show ¬ k+1=k by omega,if_false] at this
    exact this
  ·have d2:decide ((k:Int)<((j-1:Nat):Int))=false:=decide_eq_false (by omega)
   have ht2:t=j-m:=by omega
   have hL2:l=P++(mrg (ltO cf) [x] B++S):=by rw [hL,hmr,ht2];simp
   simp only [rowZ,w3,d2,vcd,↓vcp,seval]
   repeat' first|refine And.intro (fun h=>?_) (fun h=>?_)|refine aO ?_|(refine tA rfl rfl rfl rfl ?_;try simp only [w3,vcd,↓vcp,seval])|refine aT ?_|fail
   refine RetK.mk _ (Wk.refl _ _) (by simp only [rs202,rsb,vcd,↓vcp,seval]) (by simp only [rs202,rsb,enb,vcd,↓vcp,seval]) ?_
   simp only [hL2,enb,vcd,↓vcp,seval]
set_option maxHeartbeats 2000000 in
theorem sSymB {g:Nat} {ds:List D} {cf:Int→Int→Int} {ok:Int→Prop} (hc:CmpO g ds cf ok) (P A B S:List Int) (a m b:Nat) (ha:a=P.length) (hm:m=a+A.length) (hb:b=m+B.length) (hA:0<A.length) (hB:0<B.length) (sA:Srt (ltO cf) A) (sB:Srt (ltO cf) B) (hok:∀ x,x∈A++B→ok x) (hl:b+S.length≤2305843009213693952) (hA1:¬ A.length=1) (hB1:B.length=1) :
  Ctr Tryz.prog 202 [.osl 900,.d (.int .i64 (a:Int)),.d (.int .i64 (m:Int)),.d (.int .i64 (b:Int)),fnO g ds] [(900,rowZ (P++(A++(B++S))))] (.tup []) [(900,rowZ (P++(mrg (ltO cf) A B++S)))] []:=by
 refine ctr_own Tryz.func202 ok202 rfl cc202 cr202 Tryz.ntmps202 (by simp) rfl ?_
 intro c hP hfn
 obtain ⟨r,hr⟩:∃ r,r=P++(A++(B++S)):=⟨_,rfl⟩
 have hrl:r.length=b+S.length:=by rw [hr];simp only [List.length_append];omega
 have gA:∀ k,k<A.length→r.getD (a+k) 0=A.getD k 0:=fun k hk=>by
  rw [hr];simp only [getD_app];rw [if_neg (by omega),if_pos (by omega)];congr 1;omega
 have gB:∀ k,k<B.length→r.getD (m+k) 0=B.getD k 0:=fun k hk=>by
  rw [hr];simp only [getD_app];rw [if_neg (by omega),if_neg (by omega),if_pos (by omega)];congr 1;omega
 have okA:∀ k,k<A.length→ok (A.getD k 0):=fun k hk=>by
  obtain ⟨x,-,hx,hm,-⟩:=drop_at hk;rw [hx];exact hok x (by simp [hm])
 have okB:∀ k,k<B.length→ok (B.getD k 0):=fun k hk=>by
  obtain ⟨x,-,hx,hm,-⟩:=drop_at hk;rw [hx];exact hok x (by simp [hm])
 rw [←hr]
 have wa:(IntKind.i64.wrap ((m:Int)-(a:Int)) == 1)=false:=by rw [beq_eq_false_iff_ne,wI (by omega)];omega
 have wb:(IntKind.i64.wrap ((b:Int)-(m:Int)) == 1)=true:=by rw [beq_iff_eq,wI (by omega)];omega
 simp only [kc202,namesL,V.names,ownNames,rowZ,fnO,wa,wb,vcd,↓vcp,seval]
 repeat' first|refine And.intro (fun h=>?_) (fun h=>?_)|refine aO ?_|(refine tA rfl rfl rfl rfl ?_;try simp only [wa,wb,vcd,↓vcp,seval])|refine aT ?_|fail
 refine vcC.loop (X:=Nat×Nat) (fun x=>⟨[(0,.osl 900),(2,.d (.int .i64 (m:Int))),(4,fnO g ds),(14,.d (.int .i64 (x.1:Nat))),(15,.d (.int .i64 (x.2:Nat)))],[(900,rowZ r)],[900]⟩)
  (fun x=>a≤x.1∧x.1≤x.2∧x.2≤m∧(a<x.1→ltO cf (B.getD 0 0) (A.getD (x.1-1-a) 0)=false)∧(x.2<m→ltO cf (B.getD 0 0) (A.getD (x.2-a) 0)=true)) (fun x=>x.2-x.1) (a,m) ⟨Nat.le_refl _,by simp only;omega,Nat.le_refl _,fun h=>absurd h (Nat.lt_irrefl _),fun h=>absurd h (Nat.lt_irrefl _)⟩ (Wk.of _ hfn rfl (by simp only [fnO,enb,vcd,↓vcp,seval]) (by simp only [rowZ,enb,vcd,↓vcp,seval])) ?_
 rintro ⟨i,j⟩ ⟨h1,h2,h3,h4,h5⟩
 simp only at h1 h2 h3 h4 h5
 by_cases hij:i<j
 ·have d1:decide ((i:Int)<(j:Int))=true:=decide_eq_true (by omega)
  have wm:=midW (i:=i) (j:=j) (by omega)
  obtain ⟨q,hh⟩:∃ q,q=(i+j) / 2:=⟨_,rfl⟩
  have hb1:i≤q∧q<j:=by omega
  rw [←hh] at wm
  have g1:r.getD q 0=A.getD (q-a) 0:=by rw [←gA _ (by omega)];congr 1;omega
  have g2:r.getD m 0=B.getD 0 0:=by have:=gB 0 hB;simpa using this
  have cc:=hc.c _ _ (okB 0 hB) (okA (q-a) (by omega))
  have bh:(0:Int)≤(q:Int)∧(q:Int)<(r.length:Int):=by omega
  have ba:(0:Int)≤(m:Int)∧(m:Int)<(r.length:Int):=by omega
  have w2:IntKind.i64.wrap ((q:Int)+1)=((q+1:Nat):Int):=wS (by omega)
  simp only [rowZ,fnO,d1,wm,g1,g2,vcd,↓vcp,seval]
  repeat' first|((first|refine tp hP (by exact cc) ?_|refine tg hP (fun _=>by exact cc) ?_|refine tv hP rfl (by exact cc) ?_);try simp only [wm,g1,g2,vcd,↓vcp,seval])|refine And.intro (fun h=>?_) (fun h=>?_)|refine aO ?_|(refine tA rfl rfl rfl rfl ?_;try simp only [wm,g1,g2,vcd,↓vcp,seval])|refine aT ?_|fail
  ·exact lopK.on (q+1,j) ⟨by simp only;omega,by simp only;omega,h3,fun _=>by simpa [ltO] using h,h5⟩ (by simp only;omega) (Wk.of _ hfn rfl (by simp only [fnO,w2,enb,vcd,↓vcp,seval]) (by simp only [rowZ,enb,vcd,↓vcp,seval]))
  ·exact lopK.on (i,q) ⟨h1,by simp only;omega,by simp only;omega,h4,fun _=>by simpa [ltO] using h⟩ (by simp only;omega) (Wk.of _ hfn rfl (by simp only [fnO,enb,vcd,↓vcp,seval]) (by simp only [rowZ,enb,vcd,↓vcp,seval]))
 ·have d1:decide ((i:Int)<(j:Int))=false:=decide_eq_false (by omega)
  have hij2:j=i:=by omega
  subst hij2
  obtain ⟨x,rfl⟩:∃ x,B=[x]:=by
   match B,hB1 with
   |[x],_=>exact ⟨x,rfl⟩
  have hmr:=ins_hi hc.w (x:=x) sA (i:=j-a) (by omega) (fun h=>by have:=h5 (by omega);simpa using this) (fun h=>by have:=h4 (by omega);rw [show j-a-1=j-1-a by omega];simpa using this)
  simp only [rowZ,fnO,d1,vcd,↓vcp,seval]
  repeat' first|refine And.intro (fun h=>?_) (fun h=>?_)|refine aO ?_|(refine tA rfl rfl rfl rfl ?_;try simp only [vcd,↓vcp,seval])|refine aT ?_|fail
  refine vcC.loop (X:=Nat×List Int) (fun x=>⟨[(0,.osl 900),(14,.d (.int .i64 (j:Nat))),(17,.d (.int .i64 (x.1:Nat)))],[(900,rowZ x.2)],[900]⟩)
   (fun y=>∃ t,y.1=a+t∧j-a≤t∧t≤A.length∧y.2=P++(A.take t++(x::(A.drop t++S)))) (fun y=>y.1) (m,r) ⟨A.length,hm,by omega,Nat.le_refl _,by simpa using hr⟩ (Wk.of _ hfn rfl (by simp only [fnO,enb,vcd,↓vcp,seval]) (by simp only [rowZ,enb,vcd,↓vcp,seval])) ?_
  rintro ⟨k,l⟩ ⟨t,hk,ht,htA,hL⟩
  simp only at hk hL
  by_cases hlt:j-a<t
  ·have d2:decide ((k:Int)>(j:Int))=true:=decide_eq_true (by omega)
   have w4:IntKind.i64.wrap ((k:Int)-1)=((k-1:Nat):Int):=(wI (by omega)).trans (by omega)
   obtain ⟨t,rfl⟩:∃ t',t=t'+1:=⟨t-1,by omega⟩
   obtain ⟨y,hd,-,-,he⟩:=drop_at (l:=A) (k:=t) (by omega)
   have hL2:l=(P++A.take t)++y::x::(A.drop (t+1)++S):=by rw [hL,List.take_add_one,he];simp
   have hll:l.length=P.length+t+1+1+(A.length-(t+1))+S.length:=by rw [hL2];simp only [List.length_append,List.length_cons,List.length_take,List.length_drop];omega
   have u2:l.getD (k-1) 0=y:=by rw [hL2];exact getD_at (by simp only [List.length_append,List.length_take];omega)
   have u1:l.getD k 0=x:=by
    rw [hL2,show (P++A.take t)++y::x::(A.drop (t+1)++S)=(P++A.take t++[y])++x::(A.drop (t+1)++S) by simp]
    exact getD_at (by simp only [List.length_append,List.length_take,List.length_singleton];omega)
   have b1:(0:Int)≤(k:Int)∧(k:Int)<(l.length:Int):=by omega
   have b2:(0:Int)≤((k-1:Nat):Int)∧((k-1:Nat):Int)<(l.length:Int):=by omega
   simp only [rowZ,w4,d2,u1,u2,vcd,↓vcp,seval]
   repeat' first|refine And.intro (fun h=>?_) (fun h=>?_)|refine aO ?_|(refine tA rfl rfl rfl rfl ?_;try simp only [w4,u1,u2,vcd,↓vcp,seval])|refine aT ?_|fail
   refine lopK.on (k-1,swq 0 l k (k-1)) ⟨t,by simp only;omega,by omega,by omega,?_⟩ (by simp only;omega) (Wk.of _ hfn rfl (by simp only [w4,enb,vcd,↓vcp,seval]) ?_)
   ·simp only [hL2]
    rw [swq_next' 0 (P++A.take t) y x _ (by simp only [List.length_append,List.length_take];omega) (by simp only [List.length_append,List.length_take];omega),hd]
    simp
   ·simp only [rowZ,enb,vcd,↓vcp,seval]
    exact OLe.swz (by omega) (by omega) u1 u2 rfl
  ·have d2:decide ((k:Int)>(j:Int))=false:=decide_eq_false (by omega)
   have ht2:t=j-a:=by omega
   have hL2:l=P++(mrg (ltO cf) A [x]++S):=by rw [hL,hmr,ht2];simp
   simp only [rowZ,d2,vcd,↓vcp,seval]
   repeat' first|refine And.intro (fun h=>?_) (fun h=>?_)|refine aO ?_|(refine tA rfl rfl rfl rfl ?_;try simp only [vcd,↓vcp,seval])|refine aT ?_|fail
   refine RetK.mk _ (Wk.refl _ _) (by simp only [rs202,rsb,vcd,↓vcp,seval]) (by simp only [rs202,rsb,enb,vcd,↓vcp,seval]) ?_
   simp only [hL2,enb,vcd,↓vcp,seval]
theorem symEnd {g:Nat} {ds:List D} {cf:Int→Int→Int} {ok:Int→Prop} (hc:CmpO g ds cf ok) {N:Nat} (ih:SymAt g ds cf ok N) (P A B S:List Int) (a m b:Nat) (ha:a=P.length) (hm:m=a+A.length) (hb:b=m+B.length) (hN:A.length+B.length≤N+1) (hA:0<A.length) (hB:0<B.length) (sA:Srt (ltO cf) A) (sB:Srt (ltO cf) B) (hok:∀ x,x∈A++B→ok x) (hl:b+S.length≤2305843009213693952) {e mid en:Nat} (c1:a≤e) (c2:e≤m) (c3:e≤mid) (c4:mid+m≤e+b) (c5:a<mid) (c6:mid<b) (hen:en+e=mid+m)
  (hcut:mrg (ltO cf) A B=mrg (ltO cf) (A.take (e-a)) (B.take (mid-e))++mrg (ltO cf) (A.drop (e-a)) (B.drop (mid-e))) :
  ∃ r1 r2,(e<m→m<en→Ctr Tryz.prog 207 [.osl 900,.d (.int .i64 (e:Int)),.d (.int .i64 (m:Int)),.d (.int .i64 (en:Int)),fnO g ds] [(900,rowZ (P++(A++(B++S))))] (.tup []) [(900,rowZ r1)] []) ∧
  (¬ (e<m∧m<en)→P++(A++(B++S))=r1) ∧
  (a<e→e<mid→Ctr Tryz.prog 202 [.osl 900,.d (.int .i64 (a:Int)),.d (.int .i64 (e:Int)),.d (.int .i64 (mid:Int)),fnO g ds] [(900,rowZ r1)] (.tup []) [(900,rowZ r2)] [])∧(¬ (a<e∧e<mid)→r1=r2) ∧
  (mid<en→en<b→Ctr Tryz.prog 202 [.osl 900,.d (.int .i64 (mid:Int)),.d (.int .i64 (en:Int)),.d (.int .i64 (b:Int)),fnO g ds] [(900,rowZ r2)] (.tup []) [(900,rowZ (P++(mrg (ltO cf) A B++S)))] [])∧(¬ (mid<en∧en<b)→r2=P++(mrg (ltO cf) A B++S)):=by
 obtain ⟨A1,hA1'⟩:∃ q,q=A.take (e-a):=⟨_,rfl⟩
 obtain ⟨A2,hA2'⟩:∃ q,q=A.drop (e-a):=⟨_,rfl⟩
 obtain ⟨B1,hB1'⟩:∃ q,q=B.take (mid-e):=⟨_,rfl⟩
 obtain ⟨B2,hB2'⟩:∃ q,q=B.drop (mid-e):=⟨_,rfl⟩
 have lA1:A1.length=e-a:=by rw [hA1',List.length_take];omega
 have lA2:A2.length=m-e:=by rw [hA2',List.length_drop];omega
 have lB1:B1.length=en-m:=by rw [hB1',List.length_take];omega
 have lB2:B2.length=b-en:=by rw [hB2',List.length_drop];omega
 have eA:A1++A2=A:=by rw [hA1',hA2',List.take_append_drop]
 have eB:B1++B2=B:=by rw [hB1',hB2',List.take_append_drop]
 rw [←hA1',←hA2',←hB1',←hB2'] at hcut
 have sA1:Srt (ltO cf) A1:=by rw [hA1'];exact List.Pairwise.sublist (List.take_sublist _ A) sA
 have sA2:Srt (ltO cf) A2:=by rw [hA2'];exact List.Pairwise.sublist (List.drop_sublist _ A) sA
 have sB1:Srt (ltO cf) B1:=by rw [hB1'];exact List.Pairwise.sublist (List.take_sublist _ B) sB
 have sB2:Srt (ltO cf) B2:=by rw [hB2'];exact List.Pairwise.sublist (List.drop_sublist _ B) sB
 have ok1:∀ x,x∈A1++B1→ok x:=fun x hx=>hok x (by rw [←eA,←eB];simp only [List.mem_append] at hx ⊢;rcases hx with h|h<;>simp [h])
 have ok2:∀ x,x∈A2++B2→ok x:=fun x hx=>hok x (by rw [←eA,←eB];simp only [List.mem_append] at hx ⊢;rcases hx with h|h<;>simp [h])
 obtain ⟨r1,hr1⟩:∃ q,q=P++(A1++(B1++(A2++(B2++S)))):=⟨_,rfl⟩
 obtain ⟨r2,hr2⟩:∃ q,q=P++(mrg (ltO cf) A1 B1++(A2++(B2++S))):=⟨_,rfl⟩
 have hr0:P++(A++(B++S))=(P++A1)++(A2++(B1++(B2++S))):=by rw [←eA,←eB];simp
 have hr3:P++(mrg (ltO cf) A B++S)=(P++mrg (ltO cf) A1 B1)++(mrg (ltO cf) A2 B2++S):=by rw [hcut];simp
 have lM:(mrg (ltO cf) A1 B1).length=mid-a:=by rw [mrg_len];omega
 have f1:e<m→m<en→Ctr Tryz.prog 207 [.osl 900,.d (.int .i64 (e:Int)),.d (.int .i64 (m:Int)),.d (.int .i64 (en:Int)),fnO g ds] [(900,rowZ (P++(A++(B++S))))] (.tup []) [(900,rowZ r1)] []:=fun g1 g2=>by
  have:=sRot (g:=g) (ds:=ds) (P++A1) A2 B1 (B2++S) e m en (by rw [List.length_append];omega) (by omega) (by omega) (by omega) (by omega) (by rw [List.length_append];omega)
  rw [hr0,hr1]
  simpa using this
 have e1:¬ (e<m∧m<en)→P++(A++(B++S))=r1:=fun g1=>by
  rw [hr0,hr1]
  by_cases g2:e<m
  ·have:B1=[]:=List.eq_nil_of_length_eq_zero (by omega)
   rw [this];simp
  ·have:A2=[]:=List.eq_nil_of_length_eq_zero (by omega)
   rw [this];simp
 have f2:a<e→e<mid→Ctr Tryz.prog 202 [.osl 900,.d (.int .i64 (a:Int)),.d (.int .i64 (e:Int)),.d (.int .i64 (mid:Int)),fnO g ds] [(900,rowZ r1)] (.tup []) [(900,rowZ r2)] []:=fun g1 g2=>by
  have:=ih P A1 B1 (A2++(B2++S)) a e mid ha (by omega) (by omega) (by omega) (by omega) (by omega) sA1 sB1 ok1 (by simp only [List.length_append];omega)
  rw [hr1,hr2];exact this
 have e2:¬ (a<e∧e<mid)→r1=r2:=fun g1=>by
  rw [hr1,hr2]
  by_cases g2:a<e
  ·have:B1=[]:=List.eq_nil_of_length_eq_zero (by omega)
   rw [this,mrg_nil];simp
  ·have:A1=[]:=List.eq_nil_of_length_eq_zero (by omega)
   rw [this,mrg_nil2];simp
 have f3:mid<en→en<b→Ctr Tryz.prog 202 [.osl 900,.d (.int .i64 (mid:Int)),.d (.int .i64 (en:Int)),.d (.int .i64 (b:Int)),fnO g ds] [(900,rowZ r2)] (.tup []) [(900,rowZ (P++(mrg (ltO cf) A B++S)))] []:=fun g1 g2=>by
  have:=ih (P++mrg (ltO cf) A1 B1) A2 B2 S mid en b (by rw [List.length_append,lM];omega) (by omega) (by omega) (by omega) (by omega) (by omega) sA2 sB2 ok2 hl
  rw [hr2,hr3]
  simpa using this
 have e3:¬ (mid<en∧en<b)→r2=P++(mrg (ltO cf) A B++S):=fun g1=>by
  rw [hr2,hr3]
  by_cases g2:mid<en
  ·have:B2=[]:=List.eq_nil_of_length_eq_zero (by omega)
   rw [this,mrg_nil];simp
  ·have:A2=[]:=List.eq_nil_of_length_eq_zero (by omega)
   rw [this,mrg_nil2];simp
 exact ⟨r1,r2,f1,e1,f2,e2,f3,e3⟩
set_option maxHeartbeats 8000000 in
theorem sSymM {g:Nat} {ds:List D} {cf:Int→Int→Int} {ok:Int→Prop} (hc:CmpO g ds cf ok) {N:Nat} (ih:SymAt g ds cf ok N) (P A B S:List Int) (a m b:Nat) (ha:a=P.length) (hm:m=a+A.length) (hb:b=m+B.length) (hN:A.length+B.length≤N+1) (hA:0<A.length) (hB:0<B.length) (sA:Srt (ltO cf) A) (sB:Srt (ltO cf) B) (hok:∀ x,x∈A++B→ok x) (hl:b+S.length≤2305843009213693952) (hA1:¬ A.length=1) (hB1:¬ B.length=1) :
  Ctr Tryz.prog 202 [.osl 900,.d (.int .i64 (a:Int)),.d (.int .i64 (m:Int)),.d (.int .i64 (b:Int)),fnO g ds] [(900,rowZ (P++(A++(B++S))))] (.tup []) [(900,rowZ (P++(mrg (ltO cf) A B++S)))] []:=by
 refine ctr_own Tryz.func202 ok202 rfl cc202 cr202 Tryz.ntmps202 (by simp) rfl ?_
 intro c hP hfn
 obtain ⟨r,hr⟩:∃ r,r=P++(A++(B++S)):=⟨_,rfl⟩
 have hrl:r.length=b+S.length:=by rw [hr];simp only [List.length_append];omega
 have gA:∀ k,k<A.length→r.getD (a+k) 0=A.getD k 0:=fun k hk=>by
  rw [hr];simp only [getD_app];rw [if_neg (by omega),if_pos (by omega)];congr 1;omega
 have gB:∀ k,k<B.length→r.getD (m+k) 0=B.getD k 0:=fun k hk=>by
  rw [hr];simp only [getD_app];rw [if_neg (by omega),if_neg (by omega),if_pos (by omega)];congr 1;omega
 have okA:∀ k,k<A.length→ok (A.getD k 0):=fun k hk=>by
  obtain ⟨x,-,hx,hm,-⟩:=drop_at hk;rw [hx];exact hok x (by simp [hm])
 have okB:∀ k,k<B.length→ok (B.getD k 0):=fun k hk=>by
  obtain ⟨x,-,hx,hm,-⟩:=drop_at hk;rw [hx];exact hok x (by simp [hm])
 rw [←hr]
 have wa:(IntKind.i64.wrap ((m:Int)-(a:Int)) == 1)=false:=by rw [beq_eq_false_iff_ne,wI (by omega)];omega
 have wb:(IntKind.i64.wrap ((b:Int)-(m:Int)) == 1)=false:=by rw [beq_eq_false_iff_ne,wI (by omega)];omega
 obtain ⟨mid,hmid⟩:∃ q,q=(a+b) / 2:=⟨_,rfl⟩
 have wm:=midW (i:=a) (j:=b) (by omega)
 rw [←hmid] at wm
 have w1:IntKind.i64.wrap ((mid:Int)+(m:Int))=((mid+m:Nat):Int):=(wI (by omega)).trans (by omega)
 have w2:IntKind.i64.wrap (((mid+m:Nat):Int)-(b:Int))=((mid+m:Nat):Int)-(b:Int):=wI (by omega)
 have w3:IntKind.i64.wrap (((mid+m:Nat):Int)-1)=((mid+m-1:Nat):Int):=(wI (by omega)).trans (by omega)
 obtain ⟨lo,hlo⟩:∃ q,q=if m>mid then mid+m-b else a:=⟨_,rfl⟩
 obtain ⟨hi,hhi⟩:∃ q,q=if m>mid then mid else m:=⟨_,rfl⟩
 have hlo2:a≤lo∧mid+m-b≤lo∧(lo=a∨lo+b=mid+m)∧lo≤hi:=by split at hlo<;>split at hhi<;>omega
 have hhi2:hi≤m∧hi≤mid∧(hi=m∨hi=mid):=by split at hhi<;>omega
 obtain ⟨x1,x2,x3⟩:(m>mid→(((mid+m:Nat):Int)-(b:Int))=(lo:Int)∧(mid:Int)=(hi:Int))∧(¬ m>mid→(a:Int)=(lo:Int)∧(m:Int)=(hi:Int))∧True:=by
  refine ⟨fun h=>?_,fun h=>?_,trivial⟩
  ·rw [if_pos h] at hlo hhi;omega
  ·rw [if_neg h] at hlo hhi;omega
 have hcutW:∀ s:Nat,lo≤s→s≤hi→(lo<s→ltO cf (B.getD (mid-s) 0) (A.getD (s-1-a) 0)=false)→(s<hi→ltO cf (B.getD (mid-1-s) 0) (A.getD (s-a) 0)=true) →
   mrg (ltO cf) A B=mrg (ltO cf) (A.take (s-a)) (B.take (mid-s))++mrg (ltO cf) (A.drop (s-a)) (B.drop (mid-s)):=fun s h1 h2 h3 h4 =>
  cut_mrg 0 hc.w sA sB (s-a) (mid-s) (by omega) (by omega) (fun g1 g2=>by rw [show mid-s-1=mid-1-s by omega];exact h4 (by omega)) (fun g1 g2=>by rw [show s-a-1=s-1-a by omega];exact h3 (by omega))
 have hlo3:a≤lo∧mid+m≤lo+b∧lo≤hi∧hi≤m∧hi≤mid∧a<mid∧mid<b:=by omega
 clear hlo2 hhi2 hlo hhi hmid
 by_cases hgt:m>mid
 ·have d1:decide ((m:Int)>(mid:Int))=true:=decide_eq_true (by omega)
  obtain ⟨x1,x2⟩:=x1 hgt
  simp only [kc202,namesL,V.names,ownNames,rowZ,fnO,wa,wb,wm,w1,w2,w3,d1,vcd,↓vcp,seval]
  repeat' first|refine And.intro (fun h=>?_) (fun h=>?_)|refine aO ?_|(refine tA rfl rfl rfl rfl ?_;try simp only [wa,wb,wm,w1,w2,w3,d1,vcd,↓vcp,seval])|refine aT ?_|fail
  refine vcC.loop (X:=Nat×Nat) (fun x=>⟨[(0,.osl 900),(1,.d (.int .i64 (a:Int))),(2,.d (.int .i64 (m:Int))),(3,.d (.int .i64 (b:Int))),(4,fnO g ds),(18,.d (.int .i64 (mid:Int))),(19,.d (.int .i64 ((mid+m:Nat):Int))),(20,.d (.int .i64 (x.1:Nat))),(21,.d (.int .i64 (x.2:Nat))),(22,.d (.int .i64 ((mid+m-1:Nat):Int)))],[(900,rowZ r)],[900]⟩)
   (fun x=>lo≤x.1∧x.1≤x.2∧x.2≤hi∧(lo<x.1→ltO cf (B.getD (mid-x.1) 0) (A.getD (x.1-1-a) 0)=false)∧(x.2<hi→ltO cf (B.getD (mid-1-x.2) 0) (A.getD (x.2-a) 0)=true)) (fun x=>x.2-x.1) (lo,hi) ⟨Nat.le_refl _,by simp only;omega,Nat.le_refl _,fun h=>absurd h (Nat.lt_irrefl _),fun h=>absurd h (Nat.lt_irrefl _)⟩ (Wk.of _ hfn rfl (by simp only [fnO,wm,w1,w2,w3,enb,vcd,↓vcp,seval]<;>omega) (by simp only [rowZ,enb,vcd,↓vcp,seval])) ?_
  rintro ⟨s,e⟩ ⟨h1,h2,h3,h4,h5⟩
  simp only at h1 h2 h3 h4 h5
  by_cases hij:s<e
  ·have d2:decide ((s:Int)<(e:Int))=true:=decide_eq_true (by omega)
   have wq:=midW (i:=s) (j:=e) (by omega)
   obtain ⟨q,hh⟩:∃ q,q=(s+e) / 2:=⟨_,rfl⟩
   have hb1:s≤q∧q<e:=by omega
   rw [←hh] at wq
   have wp:IntKind.i64.wrap (((mid+m-1:Nat):Int)-(q:Int))=((mid+m-1-q:Nat):Int):=(wI (by omega)).trans (by omega)
   have g1:r.getD (mid+m-1-q) 0=B.getD (mid-1-q) 0:=by rw [←gB _ (by omega)];congr 1;omega
   have g2:r.getD q 0=A.getD (q-a) 0:=by rw [←gA _ (by omega)];congr 1;omega
   have cc:=hc.c _ _ (okB (mid-1-q) (by omega)) (okA (q-a) (by omega))
   have bh:(0:Int)≤((mid+m-1-q:Nat):Int)∧((mid+m-1-q:Nat):Int)<(r.length:Int):=by omega
   have ba:(0:Int)≤(q:Int)∧(q:Int)<(r.length:Int):=by omega
   have w4:IntKind.i64.wrap ((q:Int)+1)=((q+1:Nat):Int):=wS (by omega)
   simp only [rowZ,fnO,d2,wq,wp,g1,g2,vcd,↓vcp,seval]
   repeat' first|((first|refine tp hP (by exact cc) ?_|refine tg hP (fun _=>by exact cc) ?_|refine tv hP rfl (by exact cc) ?_);try simp only [wq,wp,g1,g2,vcd,↓vcp,seval])|refine And.intro (fun h=>?_) (fun h=>?_)|refine aO ?_|(refine tA rfl rfl rfl rfl ?_;try simp only [wq,wp,g1,g2,vcd,↓vcp,seval])|refine aT ?_|fail
   ·exact lopK.on (q+1,e) ⟨by simp only;omega,by simp only;omega,h3,fun _=>by rw [show mid-(q+1)=mid-1-q by omega,show q+1-1-a=q-a by omega];simpa [ltO] using h,h5⟩ (by simp only;omega) (Wk.of _ hfn rfl (by simp only [fnO,w4,enb,vcd,↓vcp,seval]) (by simp only [rowZ,enb,vcd,↓vcp,seval]))
   ·exact lopK.on (s,q) ⟨h1,by simp only;omega,by simp only;omega,h4,fun _=>by simpa [ltO] using h⟩ (by simp only;omega) (Wk.of _ hfn rfl (by simp only [fnO,enb,vcd,↓vcp,seval]) (by simp only [rowZ,enb,vcd,↓vcp,seval]))
  ·have d2:decide ((s:Int)<(e:Int))=false:=decide_eq_false (by omega)
   obtain rfl:e=s:=by omega
   have hcut:=hcutW e h1 (by omega) h4 h5
   obtain ⟨en,hen⟩:∃ q,q=mid+m-e:=⟨_,rfl⟩
   have w5:IntKind.i64.wrap (((mid+m:Nat):Int)-(e:Int))=(en:Int):=(wI (by omega)).trans (by omega)
   obtain ⟨r1,r2,f1,e1,f2,e2,f3,e3⟩:=symEnd hc ih P A B S a m b ha hm hb hN hA hB sA sB hok hl (e:=e) (mid:=mid) (en:=en) (by omega) (by omega) (by omega) (by omega) (by omega) (by omega) (by omega) hcut
   rw [←hr] at f1 e1
   clear hcut hcutW h1 h2 h3 h4 h5 hij wm w1 w2 w3 wa wb hen hlo3 hrl gA gB okA okB ih hN hA hB sA sB hok hl x1 x2 hr d1 hgt ha hm hb hA1 hB1
   by_cases k1:e<m∧m<en
   ·by_cases k2:a<e∧e<mid
    ·by_cases k3:mid<en∧en<b
     ·have x:(decide ((e:Int)<(m:Int))&&decide ((m:Int)<(en:Int)))=true:=by rw [Bool.and_eq_true,decide_eq_true_eq,decide_eq_true_eq];omega
      have y:(decide ((a:Int)<(e:Int))&&decide ((e:Int)<(mid:Int)))=true:=by rw [Bool.and_eq_true,decide_eq_true_eq,decide_eq_true_eq];omega
      have z:(decide ((mid:Int)<(en:Int))&&decide ((en:Int)<(b:Int)))=true:=by rw [Bool.and_eq_true,decide_eq_true_eq,decide_eq_true_eq];omega
      simp only [rowZ,fnO,d2,w5,x,y,z,vcd,↓vcp,seval]
      repeat' first|refine And.intro (fun h=>?_) (fun h=>?_)|refine aO ?_|(refine tA rfl rfl rfl rfl ?_;try simp only [w5,x,y,z,vcd,↓vcp,seval])|refine aT ?_|fail
      repeat' first|refine And.intro (fun h=>?_) (fun h=>?_)|refine aO ?_|(refine tA rfl rfl rfl rfl ?_;try simp only [x,y,z,vcd,↓vcp,seval])|refine aT ?_|fail
      have cc:=f1 k1.1 k1.2
      simp only [rowZ,fnO] at cc
      refine TR.call [(900,rowZ r)] [(900,rowZ r1)] _ [] (by rw [hP];exact cc) (by repeat' first|exact trivial|(intro _;assumption)|apply And.intro) (hin1 rfl) (by simp [keysO]) (by simp) ?_
      clear cc
      simp only [rowZ,x,y,z,vcd,↓vcp,seval]
      repeat' first|refine And.intro (fun h=>?_) (fun h=>?_)|refine aO ?_|(refine tA rfl rfl rfl rfl ?_;try simp only [x,y,z,vcd,↓vcp,seval])|refine aT ?_|fail
      have cc:=f2 k2.1 k2.2
      simp only [rowZ,fnO] at cc
      refine TR.call [(900,rowZ r1)] [(900,rowZ r2)] _ [] (by rw [hP];exact cc) (by repeat' first|exact trivial|(intro _;assumption)|apply And.intro) (hin1 rfl) (by simp [keysO]) (by simp) ?_
      clear cc
      simp only [rowZ,x,y,z,vcd,↓vcp,seval]
      repeat' first|refine And.intro (fun h=>?_) (fun h=>?_)|refine aO ?_|(refine tA rfl rfl rfl rfl ?_;try simp only [x,y,z,vcd,↓vcp,seval])|refine aT ?_|fail
      have cc:=f3 k3.1 k3.2
      simp only [rowZ,fnO] at cc
      refine TR.call [(900,rowZ r2)] [(900,rowZ (P++(mrg (ltO cf) A B++S)))] _ [] (by rw [hP];exact cc) (by repeat' first|exact trivial|(intro _;assumption)|apply And.intro) (hin1 rfl) (by simp [keysO]) (by simp) ?_
      clear cc
      simp only [rowZ,x,y,z,vcd,↓vcp,seval]
      repeat' first|refine And.intro (fun h=>?_) (fun h=>?_)|refine aO ?_|(refine tA rfl rfl rfl rfl ?_;try simp only [x,y,z,vcd,↓vcp,seval])|refine aT ?_|fail
      refine RetK.mk' _ (Wk.refl _ _) (by simp only [rs202,rsb,vcd,↓vcp,seval]) (by simp only [rs202,rsb,enb,vcd,↓vcp,seval]) ?_
      simp only [enb,vcd,↓vcp,seval]
     ·have x:(decide ((e:Int)<(m:Int))&&decide ((m:Int)<(en:Int)))=true:=by rw [Bool.and_eq_true,decide_eq_true_eq,decide_eq_true_eq];omega
      have y:(decide ((a:Int)<(e:Int))&&decide ((e:Int)<(mid:Int)))=true:=by rw [Bool.and_eq_true,decide_eq_true_eq,decide_eq_true_eq];omega
      have z:(decide ((mid:Int)<(en:Int))&&decide ((en:Int)<(b:Int)))=false:=by rw [Bool.and_eq_false_iff,decide_eq_false_iff_not,decide_eq_false_iff_not];omega
      simp only [rowZ,fnO,d2,w5,x,y,z,vcd,↓vcp,seval]
      repeat' first|refine And.intro (fun h=>?_) (fun h=>?_)|refine aO ?_|(refine tA rfl rfl rfl rfl ?_;try simp only [w5,x,y,z,vcd,↓vcp,seval])|refine aT ?_|fail
      repeat' first|refine And.intro (fun h=>?_) (fun h=>?_)|refine aO ?_|(refine tA rfl rfl rfl rfl ?_;try simp only [x,y,z,vcd,↓vcp,seval])|refine aT ?_|fail
      have cc:=f1 k1.1 k1.2
      simp only [rowZ,fnO] at cc
      refine TR.call [(900,rowZ r)] [(900,rowZ r1)] _ [] (by rw [hP];exact cc) (by repeat' first|exact trivial|(intro _;assumption)|apply And.intro) (hin1 rfl) (by simp [keysO]) (by simp) ?_
      clear cc
      simp only [rowZ,x,y,z,vcd,↓vcp,seval]
      repeat' first|refine And.intro (fun h=>?_) (fun h=>?_)|refine aO ?_|(refine tA rfl rfl rfl rfl ?_;try simp only [x,y,z,vcd,↓vcp,seval])|refine aT ?_|fail
      have cc:=f2 k2.1 k2.2
      simp only [rowZ,fnO] at cc
      refine TR.call [(900,rowZ r1)] [(900,rowZ r2)] _ [] (by rw [hP];exact cc) (by repeat' first|exact trivial|(intro _;assumption)|apply And.intro) (hin1 rfl) (by simp [keysO]) (by simp) ?_
      clear cc
      simp only [rowZ,x,y,z,vcd,↓vcp,seval]
      rw [e3 k3]
      repeat' first|refine And.intro (fun h=>?_) (fun h=>?_)|refine aO ?_|(refine tA rfl rfl rfl rfl ?_;try simp only [x,y,z,vcd,↓vcp,seval])|refine aT ?_|fail
      refine RetK.mk' _ (Wk.refl _ _) (by simp only [rs202,rsb,vcd,↓vcp,seval]) (by simp only [rs202,rsb,enb,vcd,↓vcp,seval]) ?_
      simp only [enb,vcd,↓vcp,seval]
    ·by_cases k3:mid<en∧en<b
     ·have x:(decide ((e:Int)<(m:Int))&&decide ((m:Int)<(en:Int)))=true:=by rw [Bool.and_eq_true,decide_eq_true_eq,decide_eq_true_eq];omega
      have y:(decide ((a:Int)<(e:Int))&&decide ((e:Int)<(mid:Int)))=false:=by rw [Bool.and_eq_false_iff,decide_eq_false_iff_not,decide_eq_false_iff_not];omega
      have z:(decide ((mid:Int)<(en:Int))&&decide ((en:Int)<(b:Int)))=true:=by rw [Bool.and_eq_true,decide_eq_true_eq,decide_eq_true_eq];omega
      simp only [rowZ,fnO,d2,w5,x,y,z,vcd,↓vcp,seval]
      repeat' first|refine And.intro (fun h=>?_) (fun h=>?_)|refine aO ?_|(refine tA rfl rfl rfl rfl ?_;try simp only [w5,x,y,z,vcd,↓vcp,seval])|refine aT ?_|fail
      repeat' first|refine And.intro (fun h=>?_) (fun h=>?_)|refine aO ?_|(refine tA rfl rfl rfl rfl ?_;try simp only [x,y,z,vcd,↓vcp,seval])|refine aT ?_|fail
      have cc:=f1 k1.1 k1.2
      simp only [rowZ,fnO] at cc
      refine TR.call [(900,rowZ r)] [(900,rowZ r1)] _ [] (by rw [hP];exact cc) (by repeat' first|exact trivial|(intro _;assumption)|apply And.intro) (hin1 rfl) (by simp [keysO]) (by simp) ?_
      clear cc
      simp only [rowZ,x,y,z,vcd,↓vcp,seval]
      rw [e2 k2]
      repeat' first|refine And.intro (fun h=>?_) (fun h=>?_)|refine aO ?_|(refine tA rfl rfl rfl rfl ?_;try simp only [x,y,z,vcd,↓vcp,seval])|refine aT ?_|fail
      have cc:=f3 k3.1 k3.2
      simp only [rowZ,fnO] at cc
      refine TR.call [(900,rowZ r2)] [(900,rowZ (P++(mrg (ltO cf) A B++S)))] _ [] (by rw [hP];exact cc) (by repeat' first|exact trivial|(intro _;assumption)|apply And.intro) (hin1 rfl) (by simp [keysO]) (by simp) ?_
      clear cc
      simp only [rowZ,x,y,z,vcd,↓vcp,seval]
      repeat' first|refine And.intro (fun h=>?_) (fun h=>?_)|refine aO ?_|(refine tA rfl rfl rfl rfl ?_;try simp only [x,y,z,vcd,↓vcp,seval])|refine aT ?_|fail
      refine RetK.mk' _ (Wk.refl _ _) (by simp only [rs202,rsb,vcd,↓vcp,seval]) (by simp only [rs202,rsb,enb,vcd,↓vcp,seval]) ?_
      simp only [enb,vcd,↓vcp,seval]
     ·have x:(decide ((e:Int)<(m:Int))&&decide ((m:Int)<(en:Int)))=true:=by rw [Bool.and_eq_true,decide_eq_true_eq,decide_eq_true_eq];omega
      have y:(decide ((a:Int)<(e:Int))&&decide ((e:Int)<(mid:Int)))=false:=by rw [Bool.and_eq_false_iff,decide_eq_false_iff_not,decide_eq_false_iff_not];omega
      have z:(decide ((mid:Int)<(en:Int))&&decide ((en:Int)<(b:Int)))=false:=by rw [Bool.and_eq_false_iff,decide_eq_false_iff_not,decide_eq_false_iff_not];omega
      simp only [rowZ,fnO,d2,w5,x,y,z,vcd,↓vcp,seval]
      repeat' first|refine And.intro (fun h=>?_) (fun h=>?_)|refine aO ?_|(refine tA rfl rfl rfl rfl ?_;try simp only [w5,x,y,z,vcd,↓vcp,seval])|refine aT ?_|fail
      repeat' first|refine And.intro (fun h=>?_) (fun h=>?_)|refine aO ?_|(refine tA rfl rfl rfl rfl ?_;try simp only [x,y,z,vcd,↓vcp,seval])|refine aT ?_|fail
      have cc:=f1 k1.1 k1.2
      simp only [rowZ,fnO] at cc
      refine TR.call [(900,rowZ r)] [(900,rowZ r1)] _ [] (by rw [hP];exact cc) (by repeat' first|exact trivial|(intro _;assumption)|apply And.intro) (hin1 rfl) (by simp [keysO]) (by simp) ?_
      clear cc
      simp only [rowZ,x,y,z,vcd,↓vcp,seval]
      rw [e2 k2]
      rw [e3 k3]
      repeat' first|refine And.intro (fun h=>?_) (fun h=>?_)|refine aO ?_|(refine tA rfl rfl rfl rfl ?_;try simp only [x,y,z,vcd,↓vcp,seval])|refine aT ?_|fail
      refine RetK.mk' _ (Wk.refl _ _) (by simp only [rs202,rsb,vcd,↓vcp,seval]) (by simp only [rs202,rsb,enb,vcd,↓vcp,seval]) ?_
      simp only [enb,vcd,↓vcp,seval]
   ·by_cases k2:a<e∧e<mid
    ·by_cases k3:mid<en∧en<b
     ·have x:(decide ((e:Int)<(m:Int))&&decide ((m:Int)<(en:Int)))=false:=by rw [Bool.and_eq_false_iff,decide_eq_false_iff_not,decide_eq_false_iff_not];omega
      have y:(decide ((a:Int)<(e:Int))&&decide ((e:Int)<(mid:Int)))=true:=by rw [Bool.and_eq_true,decide_eq_true_eq,decide_eq_true_eq];omega
      have z:(decide ((mid:Int)<(en:Int))&&decide ((en:Int)<(b:Int)))=true:=by rw [Bool.and_eq_true,decide_eq_true_eq,decide_eq_true_eq];omega
      simp only [rowZ,fnO,d2,w5,x,y,z,vcd,↓vcp,seval]
      repeat' first|refine And.intro (fun h=>?_) (fun h=>?_)|refine aO ?_|(refine tA rfl rfl rfl rfl ?_;try simp only [w5,x,y,z,vcd,↓vcp,seval])|refine aT ?_|fail
      rw [e1 k1]
      repeat' first|refine And.intro (fun h=>?_) (fun h=>?_)|refine aO ?_|(refine tA rfl rfl rfl rfl ?_;try simp only [x,y,z,vcd,↓vcp,seval])|refine aT ?_|fail
      have cc:=f2 k2.1 k2.2
      simp only [rowZ,fnO] at cc
      refine TR.call [(900,rowZ r1)] [(900,rowZ r2)] _ [] (by rw [hP];exact cc) (by repeat' first|exact trivial|(intro _;assumption)|apply And.intro) (hin1 rfl) (by simp [keysO]) (by simp) ?_
      clear cc
      simp only [rowZ,x,y,z,vcd,↓vcp,seval]
      repeat' first|refine And.intro (fun h=>?_) (fun h=>?_)|refine aO ?_|(refine tA rfl rfl rfl rfl ?_;try simp only [x,y,z,vcd,↓vcp,seval])|refine aT ?_|fail
      have cc:=f3 k3.1 k3.2
      simp only [rowZ,fnO] at cc
      refine TR.call [(900,rowZ r2)] [(900,rowZ (P++(mrg (ltO cf) A B++S)))] _ [] (by rw [hP];exact cc) (by repeat' first|exact trivial|(intro _;assumption)|apply And.intro) (hin1 rfl) (by simp [keysO]) (by simp) ?_
      clear cc
      simp only [rowZ,x,y,z,vcd,↓vcp,seval]
      repeat' first|refine And.intro (fun h=>?_) (fun h=>?_)|refine aO ?_|(refine tA rfl rfl rfl rfl ?_;try simp only [x,y,z,vcd,↓vcp,seval])|refine aT ?_|fail
      refine RetK.mk' _ (Wk.refl _ _) (by simp only [rs202,rsb,vcd,↓vcp,seval]) (by simp only [rs202,rsb,enb,vcd,↓vcp,seval]) ?_
      simp only [enb,vcd,↓vcp,seval]
     ·have x:(decide ((e:Int)<(m:Int))&&decide ((m:Int)<(en:Int)))=false:=by rw [Bool.and_eq_false_iff,decide_eq_false_iff_not,decide_eq_false_iff_not];omega
      have y:(decide ((a:Int)<(e:Int))&&decide ((e:Int)<(mid:Int)))=true:=by rw [Bool.and_eq_true,decide_eq_true_eq,decide_eq_true_eq];omega
      have z:(decide ((mid:Int)<(en:Int))&&decide ((en:Int)<(b:Int)))=false:=by rw [Bool.and_eq_false_iff,decide_eq_false_iff_not,decide_eq_false_iff_not];omega
      simp only [rowZ,fnO,d2,w5,x,y,z,vcd,↓vcp,seval]
      repeat' first|refine And.intro (fun h=>?_) (fun h=>?_)|refine aO ?_|(refine tA rfl rfl rfl rfl ?_;try simp only [w5,x,y,z,vcd,↓vcp,seval])|refine aT ?_|fail
      rw [e1 k1]
      repeat' first|refine And.intro (fun h=>?_) (fun h=>?_)|refine aO ?_|(refine tA rfl rfl rfl rfl ?_;try simp only [x,y,z,vcd,↓vcp,seval])|refine aT ?_|fail
      have cc:=f2 k2.1 k2.2
      simp only [rowZ,fnO] at cc
      refine TR.call [(900,rowZ r1)] [(900,rowZ r2)] _ [] (by rw [hP];exact cc) (by repeat' first|exact trivial|(intro _;assumption)|apply And.intro) (hin1 rfl) (by simp [keysO]) (by simp) ?_
      clear cc
      simp only [rowZ,x,y,z,vcd,↓vcp,seval]
      rw [e3 k3]
      repeat' first|refine And.intro (fun h=>?_) (fun h=>?_)|refine aO ?_|(refine tA rfl rfl rfl rfl ?_;try simp only [x,y,z,vcd,↓vcp,seval])|refine aT ?_|fail
      refine RetK.mk' _ (Wk.refl _ _) (by simp only [rs202,rsb,vcd,↓vcp,seval]) (by simp only [rs202,rsb,enb,vcd,↓vcp,seval]) ?_
      simp only [enb,vcd,↓vcp,seval]
    ·by_cases k3:mid<en∧en<b
     ·have x:(decide ((e:Int)<(m:Int))&&decide ((m:Int)<(en:Int)))=false:=by rw [Bool.and_eq_false_iff,decide_eq_false_iff_not,decide_eq_false_iff_not];omega
      have y:(decide ((a:Int)<(e:Int))&&decide ((e:Int)<(mid:Int)))=false:=by rw [Bool.and_eq_false_iff,decide_eq_false_iff_not,decide_eq_false_iff_not];omega
      have z:(decide ((mid:Int)<(en:Int))&&decide ((en:Int)<(b:Int)))=true:=by rw [Bool.and_eq_true,decide_eq_true_eq,decide_eq_true_eq];omega
      simp only [rowZ,fnO,d2,w5,x,y,z,vcd,↓vcp,seval]
      repeat' first|refine And.intro (fun h=>?_) (fun h=>?_)|refine aO ?_|(refine tA rfl rfl rfl rfl ?_;try simp only [w5,x,y,z,vcd,↓vcp,seval])|refine aT ?_|fail
      rw [e1 k1]
      rw [e2 k2]
      repeat' first|refine And.intro (fun h=>?_) (fun h=>?_)|refine aO ?_|(refine tA rfl rfl rfl rfl ?_;try simp only [x,y,z,vcd,↓vcp,seval])|refine aT ?_|fail
      have cc:=f3 k3.1 k3.2
      simp only [rowZ,fnO] at cc
      refine TR.call [(900,rowZ r2)] [(900,rowZ (P++(mrg (ltO cf) A B++S)))] _ [] (by rw [hP];exact cc) (by repeat' first|exact trivial|(intro _;assumption)|apply And.intro) (hin1 rfl) (by simp [keysO]) (by simp) ?_
      clear cc
      simp only [rowZ,x,y,z,vcd,↓vcp,seval]
      repeat' first|refine And.intro (fun h=>?_) (fun h=>?_)|refine aO ?_|(refine tA rfl rfl rfl rfl ?_;try simp only [x,y,z,vcd,↓vcp,seval])|refine aT ?_|fail
      refine RetK.mk' _ (Wk.refl _ _) (by simp only [rs202,rsb,vcd,↓vcp,seval]) (by simp only [rs202,rsb,enb,vcd,↓vcp,seval]) ?_
      simp only [enb,vcd,↓vcp,seval]
     ·have x:(decide ((e:Int)<(m:Int))&&decide ((m:Int)<(en:Int)))=false:=by rw [Bool.and_eq_false_iff,decide_eq_false_iff_not,decide_eq_false_iff_not];omega
      have y:(decide ((a:Int)<(e:Int))&&decide ((e:Int)<(mid:Int)))=false:=by rw [Bool.and_eq_false_iff,decide_eq_false_iff_not,decide_eq_false_iff_not];omega
      have z:(decide ((mid:Int)<(en:Int))&&decide ((en:Int)<(b:Int)))=false:=by rw [Bool.and_eq_false_iff,decide_eq_false_iff_not,decide_eq_false_iff_not];omega
      simp only [rowZ,fnO,d2,w5,x,y,z,vcd,↓vcp,seval]
      repeat' first|refine And.intro (fun h=>?_) (fun h=>?_)|refine aO ?_|(refine tA rfl rfl rfl rfl ?_;try simp only [w5,x,y,z,vcd,↓vcp,seval])|refine aT ?_|fail
      rw [e1 k1]
      rw [e2 k2]
      rw [e3 k3]
      repeat' first|refine And.intro (fun h=>?_) (fun h=>?_)|refine aO ?_|(refine tA rfl rfl rfl rfl ?_;try simp only [x,y,z,vcd,↓vcp,seval])|refine aT ?_|fail
      refine RetK.mk' _ (Wk.refl _ _) (by simp only [rs202,rsb,vcd,↓vcp,seval]) (by simp only [rs202,rsb,enb,vcd,↓vcp,seval]) ?_
      simp only [enb,vcd,↓vcp,seval]
 ·have d1:decide ((m:Int)>(mid:Int))=false:=decide_eq_false (by omega)
  obtain ⟨x1,x2⟩:=x2 hgt
  simp only [kc202,namesL,V.names,ownNames,rowZ,fnO,wa,wb,wm,w1,w2,w3,d1,vcd,↓vcp,seval]
  repeat' first|refine And.intro (fun h=>?_) (fun h=>?_)|refine aO ?_|(refine tA rfl rfl rfl rfl ?_;try simp only [wa,wb,wm,w1,w2,w3,d1,vcd,↓vcp,seval])|refine aT ?_|fail
  refine vcC.loop (X:=Nat×Nat) (fun x=>⟨[(0,.osl 900),(1,.d (.int .i64 (a:Int))),(2,.d (.int .i64 (m:Int))),(3,.d (.int .i64 (b:Int))),(4,fnO g ds),(18,.d (.int .i64 (mid:Int))),(19,.d (.int .i64 ((mid+m:Nat):Int))),(20,.d (.int .i64 (x.1:Nat))),(21,.d (.int .i64 (x.2:Nat))),(22,.d (.int .i64 ((mid+m-1:Nat):Int)))],[(900,rowZ r)],[900]⟩)
   (fun x=>lo≤x.1∧x.1≤x.2∧x.2≤hi∧(lo<x.1→ltO cf (B.getD (mid-x.1) 0) (A.getD (x.1-1-a) 0)=false)∧(x.2<hi→ltO cf (B.getD (mid-1-x.2) 0) (A.getD (x.2-a) 0)=true)) (fun x=>x.2-x.1) (lo,hi) ⟨Nat.le_refl _,by simp only;omega,Nat.le_refl _,fun h=>absurd h (Nat.lt_irrefl _),fun h=>absurd h (Nat.lt_irrefl _)⟩ (Wk.of _ hfn rfl (by simp only [fnO,wm,w1,w2,w3,enb,vcd,↓vcp,seval]<;>omega) (by simp only [rowZ,enb,vcd,↓vcp,seval])) ?_
  rintro ⟨s,e⟩ ⟨h1,h2,h3,h4,h5⟩
  simp only at h1 h2 h3 h4 h5
  by_cases hij:s<e
  ·have d2:decide ((s:Int)<(e:Int))=true:=decide_eq_true (by omega)
   have wq:=midW (i:=s) (j:=e) (by omega)
   obtain ⟨q,hh⟩:∃ q,q=(s+e) / 2:=⟨_,rfl⟩
   have hb1:s≤q∧q<e:=by omega
   rw [←hh] at wq
   have wp:IntKind.i64.wrap (((mid+m-1:Nat):Int)-(q:Int))=((mid+m-1-q:Nat):Int):=(wI (by omega)).trans (by omega)
   have g1:r.getD (mid+m-1-q) 0=B.getD (mid-1-q) 0:=by rw [←gB _ (by omega)];congr 1;omega
   have g2:r.getD q 0=A.getD (q-a) 0:=by rw [←gA _ (by omega)];congr 1;omega
   have cc:=hc.c _ _ (okB (mid-1-q) (by omega)) (okA (q-a) (by omega))
   have bh:(0:Int)≤((mid+m-1-q:Nat):Int)∧((mid+m-1-q:Nat):Int)<(r.length:Int):=by omega
   have ba:(0:Int)≤(q:Int)∧(q:Int)<(r.length:Int):=by omega
   have w4:IntKind.i64.wrap ((q:Int)+1)=((q+1:Nat):Int):=wS (by omega)
   simp only [rowZ,fnO,d2,wq,wp,g1,g2,vcd,↓vcp,seval]
   repeat' first|((first|refine tp hP (by exact cc) ?_|refine tg hP (fun _=>by exact cc) ?_|refine tv hP rfl (by exact cc) ?_);try simp only [wq,wp,g1,g2,vcd,↓vcp,seval])|refine And.intro (fun h=>?_) (fun h=>?_)|refine aO ?_|(refine tA rfl rfl rfl rfl ?_;try simp only [wq,wp,g1,g2,vcd,↓vcp,seval])|refine aT ?_|fail
   ·exact lopK.on (q+1,e) ⟨by simp only;omega,by simp only;omega,h3,fun _=>by rw [show mid-(q+1)=mid-1-q by omega,show q+1-1-a=q-a by omega];simpa [ltO] using h,h5⟩ (by simp only;omega) (Wk.of _ hfn rfl (by simp only [fnO,w4,enb,vcd,↓vcp,seval]) (by simp only [rowZ,enb,vcd,↓vcp,seval]))
   ·exact lopK.on (s,q) ⟨h1,by simp only;omega,by simp only;omega,h4,fun _=>by simpa [ltO] using h⟩ (by simp only;omega) (Wk.of _ hfn rfl (by simp only [fnO,enb,vcd,↓vcp,seval]) (by simp only [rowZ,enb,vcd,↓vcp,seval]))
  ·have d2:decide ((s:Int)<(e:Int))=false:=decide_eq_false (by omega)
   obtain rfl:e=s:=by omega
   have hcut:=hcutW e h1 (by omega) h4 h5
   obtain ⟨en,hen⟩:∃ q,q=mid+m-e:=⟨_,rfl⟩
   have w5:IntKind.i64.wrap (((mid+m:Nat):Int)-(e:Int))=(en:Int):=(wI (by omega)).trans (by omega)
   obtain ⟨r1,r2,f1,e1,f2,e2,f3,e3⟩:=symEnd hc ih P A B S a m b ha hm hb hN hA hB sA sB hok hl (e:=e) (mid:=mid) (en:=en) (by omega) (by omega) (by omega) (by omega) (by omega) (by omega) (by omega) hcut
   rw [←hr] at f1 e1
   clear hcut hcutW h1 h2 h3 h4 h5 hij wm w1 w2 w3 wa wb hen hlo3 hrl gA gB okA okB ih hN hA hB sA sB hok hl x1 x2 hr d1 hgt ha hm hb hA1 hB1
   by_cases k1:e<m∧m<en
   ·by_cases k2:a<e∧e<mid
    ·by_cases k3:mid<en∧en<b
     ·have x:(decide ((e:Int)<(m:Int))&&decide ((m:Int)<(en:Int)))=true:=by rw [Bool.and_eq_true,decide_eq_true_eq,decide_eq_true_eq];omega
      have y:(decide ((a:Int)<(e:Int))&&decide ((e:Int)<(mid:Int)))=true:=by rw [Bool.and_eq_true,decide_eq_true_eq,decide_eq_true_eq];omega
      have z:(decide ((mid:Int)<(en:Int))&&decide ((en:Int)<(b:Int)))=true:=by rw [Bool.and_eq_true,decide_eq_true_eq,decide_eq_true_eq];omega
      simp only [rowZ,fnO,d2,w5,x,y,z,vcd,↓vcp,seval]
      repeat' first|refine And.intro (fun h=>?_) (fun h=>?_)|refine aO ?_|(refine tA rfl rfl rfl rfl ?_;try simp only [w5,x,y,z,vcd,↓vcp,seval])|refine aT ?_|fail
      repeat' first|refine And.intro (fun h=>?_) (fun h=>?_)|refine aO ?_|(refine tA rfl rfl rfl rfl ?_;try simp only [x,y,z,vcd,↓vcp,seval])|refine aT ?_|fail
      have cc:=f1 k1.1 k1.2
      simp only [rowZ,fnO] at cc
      refine TR.call [(900,rowZ r)] [(900,rowZ r1)] _ [] (by rw [hP];exact cc) (by repeat' first|exact trivial|(intro _;assumption)|apply And.intro) (hin1 rfl) (by simp [keysO]) (by simp) ?_
      clear cc
      simp only [rowZ,x,y,z,vcd,↓vcp,seval]
      repeat' first|refine And.intro (fun h=>?_) (fun h=>?_)|refine aO ?_|(refine tA rfl rfl rfl rfl ?_;try simp only [x,y,z,vcd,↓vcp,seval])|refine aT ?_|fail
      have cc:=f2 k2.1 k2.2
      simp only [rowZ,fnO] at cc
      refine TR.call [(900,rowZ r1)] [(900,rowZ r2)] _ [] (by rw [hP];exact cc) (by repeat' first|exact trivial|(intro _;assumption)|apply And.intro) (hin1 rfl) (by simp [keysO]) (by simp) ?_
      clear cc
      simp only [rowZ,x,y,z,vcd,↓vcp,seval]
      repeat' first|refine And.intro (fun h=>?_) (fun h=>?_)|refine aO ?_|(refine tA rfl rfl rfl rfl ?_;try simp only [x,y,z,vcd,↓vcp,seval])|refine aT ?_|fail
      have cc:=f3 k3.1 k3.2
      simp only [rowZ,fnO] at cc
      refine TR.call [(900,rowZ r2)] [(900,rowZ (P++(mrg (ltO cf) A B++S)))] _ [] (by rw [hP];exact cc) (by repeat' first|exact trivial|(intro _;assumption)|apply And.intro) (hin1 rfl) (by simp [keysO]) (by simp) ?_
      clear cc
      simp only [rowZ,x,y,z,vcd,↓vcp,seval]
      repeat' first|refine And.intro (fun h=>?_) (fun h=>?_)|refine aO ?_|(refine tA rfl rfl rfl rfl ?_;try simp only [x,y,z,vcd,↓vcp,seval])|refine aT ?_|fail
      refine RetK.mk' _ (Wk.refl _ _) (by simp only [rs202,rsb,vcd,↓vcp,seval]) (by simp only [rs202,rsb,enb,vcd,↓vcp,seval]) ?_
      simp only [enb,vcd,↓vcp,seval]
     ·have x:(decide ((e:Int)<(m:Int))&&decide ((m:Int)<(en:Int)))=true:=by rw [Bool.and_eq_true,decide_eq_true_eq,decide_eq_true_eq];omega
      have y:(decide ((a:Int)<(e:Int))&&decide ((e:Int)<(mid:Int)))=true:=by rw [Bool.and_eq_true,decide_eq_true_eq,decide_eq_true_eq];omega
      have z:(decide ((mid:Int)<(en:Int))&&decide ((en:Int)<(b:Int)))=false:=by rw [Bool.and_eq_false_iff,decide_eq_false_iff_not,decide_eq_false_iff_not];omega
      simp only [rowZ,fnO,d2,w5,x,y,z,vcd,↓vcp,seval]
      repeat' first|refine And.intro (fun h=>?_) (fun h=>?_)|refine aO ?_|(refine tA rfl rfl rfl rfl ?_;try simp only [w5,x,y,z,vcd,↓vcp,seval])|refine aT ?_|fail
      repeat' first|refine And.intro (fun h=>?_) (fun h=>?_)|refine aO ?_|(refine tA rfl rfl rfl rfl ?_;try simp only [x,y,z,vcd,↓vcp,seval])|refine aT ?_|fail
      have cc:=f1 k1.1 k1.2
      simp only [rowZ,fnO] at cc
      refine TR.call [(900,rowZ r)] [(900,rowZ r1)] _ [] (by rw [hP];exact cc) (by repeat' first|exact trivial|(intro _;assumption)|apply And.intro) (hin1 rfl) (by simp [keysO]) (by simp) ?_
      clear cc
      simp only [rowZ,x,y,z,vcd,↓vcp,seval]
      repeat' first|refine And.intro (fun h=>?_) (fun h=>?_)|refine aO ?_|(refine tA rfl rfl rfl rfl ?_;try simp only [x,y,z,vcd,↓vcp,seval])|refine aT ?_|fail
      have cc:=f2 k2.1 k2.2
      simp only [rowZ,fnO] at cc
      refine TR.call [(900,rowZ r1)] [(900,rowZ r2)] _ [] (by rw [hP];exact cc) (by repeat' first|exact trivial|(intro _;assumption)|apply And.intro) (hin1 rfl) (by simp [keysO]) (by simp) ?_
      clear cc
      simp only [rowZ,x,y,z,vcd,↓vcp,seval]
      rw [e3 k3]
      repeat' first|refine And.intro (fun h=>?_) (fun h=>?_)|refine aO ?_|(refine tA rfl rfl rfl rfl ?_;try simp only [x,y,z,vcd,↓vcp,seval])|refine aT ?_|fail
      refine RetK.mk' _ (Wk.refl _ _) (by simp only [rs202,rsb,vcd,↓vcp,seval]) (by simp only [rs202,rsb,enb,vcd,↓vcp,seval]) ?_
      simp only [enb,vcd,↓vcp,seval]
    ·by_cases k3:mid<en∧en<b
     ·have x:(decide ((e:Int)<(m:Int))&&decide ((m:Int)<(en:Int)))=true:=by rw [Bool.and_eq_true,decide_eq_true_eq,decide_eq_true_eq];omega
      have y:(decide ((a:Int)<(e:Int))&&decide ((e:Int)<(mid:Int)))=false:=by rw [Bool.and_eq_false_iff,decide_eq_false_iff_not,decide_eq_false_iff_not];omega
      have z:(decide ((mid:Int)<(en:Int))&&decide ((en:Int)<(b:Int)))=true:=by rw [Bool.and_eq_true,decide_eq_true_eq,decide_eq_true_eq];omega
      simp only [rowZ,fnO,d2,w5,x,y,z,vcd,↓vcp,seval]
      repeat' first|refine And.intro (fun h=>?_) (fun h=>?_)|refine aO ?_|(refine tA rfl rfl rfl rfl ?_;try simp only [w5,x,y,z,vcd,↓vcp,seval])|refine aT ?_|fail
      repeat' first|refine And.intro (fun h=>?_) (fun h=>?_)|refine aO ?_|(refine tA rfl rfl rfl rfl ?_;try simp only [x,y,z,vcd,↓vcp,seval])|refine aT ?_|fail
      have cc:=f1 k1.1 k1.2
      simp only [rowZ,fnO] at cc
      refine TR.call [(900,rowZ r)] [(900,rowZ r1)] _ [] (by rw [hP];exact cc) (by repeat' first|exact trivial|(intro _;assumption)|apply And.intro) (hin1 rfl) (by simp [keysO]) (by simp) ?_
      clear cc
      simp only [rowZ,x,y,z,vcd,↓vcp,seval]
      rw [e2 k2]
      repeat' first|refine And.intro (fun h=>?_) (fun h=>?_)|refine aO ?_|(refine tA rfl rfl rfl rfl ?_;try simp only [x,y,z,vcd,↓vcp,seval])|refine aT ?_|fail
      have cc:=f3 k3.1 k3.2
      simp only [rowZ,fnO] at cc
      refine TR.call [(900,rowZ r2)] [(900,rowZ (P++(mrg (ltO cf) A B++S)))] _ [] (by rw [hP];exact cc) (by repeat' first|exact trivial|(intro _;assumption)|apply And.intro) (hin1 rfl) (by simp [keysO]) (by simp) ?_
      clear cc
      simp only [rowZ,x,y,z,vcd,↓vcp,seval]
      repeat' first|refine And.intro (fun h=>?_) (fun h=>?_)|refine aO ?_|(refine tA rfl rfl rfl rfl ?_;try simp only [x,y,z,vcd,↓vcp,seval])|refine aT ?_|fail
      refine RetK.mk' _ (Wk.refl _ _) (by simp only [rs202,rsb,vcd,↓vcp,seval]) (by simp only [rs202,rsb,enb,vcd,↓vcp,seval]) ?_
      simp only [enb,vcd,↓vcp,seval]
     ·have x:(decide ((e:Int)<(m:Int))&&decide ((m:Int)<(en:Int)))=true:=by rw [Bool.and_eq_true,decide_eq_true_eq,decide_eq_true_eq];omega
      have y:(decide ((a:Int)<(e:Int))&&decide ((e:Int)<(mid:Int)))=false:=by rw [Bool.and_eq_false_iff,decide_eq_false_iff_not,decide_eq_false_iff_not];omega
      have z:(decide ((mid:Int)<(en:Int))&&decide ((en:Int)<(b:Int)))=false:=by rw [Bool.and_eq_false_iff,decide_eq_false_iff_not,decide_eq_false_iff_not];omega
      simp only [rowZ,fnO,d2,w5,x,y,z,vcd,↓vcp,seval]
      repeat' first|refine And.intro (fun h=>?_) (fun h=>?_)|refine aO ?_|(refine tA rfl rfl rfl rfl ?_;try simp only [w5,x,y,z,vcd,↓vcp,seval])|refine aT ?_|fail
      repeat' first|refine And.intro (fun h=>?_) (fun h=>?_)|refine aO ?_|(refine tA rfl rfl rfl rfl ?_;try simp only [x,y,z,vcd,↓vcp,seval])|refine aT ?_|fail
      have cc:=f1 k1.1 k1.2
      simp only [rowZ,fnO] at cc
      refine TR.call [(900,rowZ r)] [(900,rowZ r1)] _ [] (by rw [hP];exact cc) (by repeat' first|exact trivial|(intro _;assumption)|apply And.intro) (hin1 rfl) (by simp [keysO]) (by simp) ?_
      clear cc
      simp only [rowZ,x,y,z,vcd,↓vcp,seval]
      rw [e2 k2]
      rw [e3 k3]
      repeat' first|refine And.intro (fun h=>?_) (fun h=>?_)|refine aO ?_|(refine tA rfl rfl rfl rfl ?_;try simp only [x,y,z,vcd,↓vcp,seval])|refine aT ?_|fail
      refine RetK.mk' _ (Wk.refl _ _) (by simp only [rs202,rsb,vcd,↓vcp,seval]) (by simp only [rs202,rsb,enb,vcd,↓vcp,seval]) ?_
      simp only [enb,vcd,↓vcp,seval]
   ·by_cases k2:a<e∧e<mid
    ·by_cases k3:mid<en∧en<b
     ·have x:(decide ((e:Int)<(m:Int))&&decide ((m:Int)<(en:Int)))=false:=by rw [Bool.and_eq_false_iff,decide_eq_false_iff_not,decide_eq_false_iff_not];omega
      have y:(decide ((a:Int)<(e:Int))&&decide ((e:Int)<(mid:Int)))=true:=by rw [Bool.and_eq_true,decide_eq_true_eq,decide_eq_true_eq];omega
      have z:(decide ((mid:Int)<(en:Int))&&decide ((en:Int)<(b:Int)))=true:=by rw [Bool.and_eq_true,decide_eq_true_eq,decide_eq_true_eq];omega
      simp only [rowZ,fnO,d2,w5,x,y,z,vcd,↓vcp,seval]
      repeat' first|refine And.intro (fun h=>?_) (fun h=>?_)|refine aO ?_|(refine tA rfl rfl rfl rfl ?_;try simp only [w5,x,y,z,vcd,↓vcp,seval])|refine aT ?_|fail
      rw [e1 k1]
      repeat' first|refine And.intro (fun h=>?_) (fun h=>?_)|refine aO ?_|(refine tA rfl rfl rfl rfl ?_;try simp only [x,y,z,vcd,↓vcp,seval])|refine aT ?_|fail
      have cc:=f2 k2.1 k2.2
      simp only [rowZ,fnO] at cc
      refine TR.call [(900,rowZ r1)] [(900,rowZ r2)] _ [] (by rw [hP];exact cc) (by repeat' first|exact trivial|(intro _;assumption)|apply And.intro) (hin1 rfl) (by simp [keysO]) (by simp) ?_
      clear cc
      simp only [rowZ,x,y,z,vcd,↓vcp,seval]
      repeat' first|refine And.intro (fun h=>?_) (fun h=>?_)|refine aO ?_|(refine tA rfl rfl rfl rfl ?_;try simp only [x,y,z,vcd,↓vcp,seval])|refine aT ?_|fail
      have cc:=f3 k3.1 k3.2
      simp only [rowZ,fnO] at cc
      refine TR.call [(900,rowZ r2)] [(900,rowZ (P++(mrg (ltO cf) A B++S)))] _ [] (by rw [hP];exact cc) (by repeat' first|exact trivial|(intro _;assumption)|apply And.intro) (hin1 rfl) (by simp [keysO]) (by simp) ?_
      clear cc
      simp only [rowZ,x,y,z,vcd,↓vcp,seval]
      repeat' first|refine And.intro (fun h=>?_) (fun h=>?_)|refine aO ?_|(refine tA rfl rfl rfl rfl ?_;try simp only [x,y,z,vcd,↓vcp,seval])|refine aT ?_|fail
      refine RetK.mk' _ (Wk.refl _ _) (by simp only [rs202,rsb,vcd,↓vcp,seval]) (by simp only [rs202,rsb,enb,vcd,↓vcp,seval]) ?_
      simp only [enb,vcd,↓vcp,seval]
     ·have x:(decide ((e:Int)<(m:Int))&&decide ((m:Int)<(en:Int)))=false:=by rw [Bool.and_eq_false_iff,decide_eq_false_iff_not,decide_eq_false_iff_not];omega
      have y:(decide ((a:Int)<(e:Int))&&decide ((e:Int)<(mid:Int)))=true:=by rw [Bool.and_eq_true,decide_eq_true_eq,decide_eq_true_eq];omega
      have z:(decide ((mid:Int)<(en:Int))&&decide ((en:Int)<(b:Int)))=false:=by rw [Bool.and_eq_false_iff,decide_eq_false_iff_not,decide_eq_false_iff_not];omega
      simp only [rowZ,fnO,d2,w5,x,y,z,vcd,↓vcp,seval]
      repeat' first|refine And.intro (fun h=>?_) (fun h=>?_)|refine aO ?_|(refine tA rfl rfl rfl rfl ?_;try simp only [w5,x,y,z,vcd,↓vcp,seval])|refine aT ?_|fail
      rw [e1 k1]
      repeat' first|refine And.intro (fun h=>?_) (fun h=>?_)|refine aO ?_|(refine tA rfl rfl rfl rfl ?_;try simp only [x,y,z,vcd,↓vcp,seval])|refine aT ?_|fail
      have cc:=f2 k2.1 k2.2
      simp only [rowZ,fnO] at cc
      refine TR.call [(900,rowZ r1)] [(900,rowZ r2)] _ [] (by rw [hP];exact cc) (by repeat' first|exact trivial|(intro _;assumption)|apply And.intro) (hin1 rfl) (by simp [keysO]) (by simp) ?_
      clear cc
      simp only [rowZ,x,y,z,vcd,↓vcp,seval]
      rw [e3 k3]
      repeat' first|refine And.intro (fun h=>?_) (fun h=>?_)|refine aO ?_|(refine tA rfl rfl rfl rfl ?_;try simp only [x,y,z,vcd,↓vcp,seval])|refine aT ?_|fail
      refine RetK.mk' _ (Wk.refl _ _) (by simp only [rs202,rsb,vcd,↓vcp,seval]) (by simp only [rs202,rsb,enb,vcd,↓vcp,seval]) ?_
      simp only [enb,vcd,↓vcp,seval]
    ·by_cases k3:mid<en∧en<b
     ·have x:(decide ((e:Int)<(m:Int))&&decide ((m:Int)<(en:Int)))=false:=by rw [Bool.and_eq_false_iff,decide_eq_false_iff_not,decide_eq_false_iff_not];omega
      have y:(decide ((a:Int)<(e:Int))&&decide ((e:Int)<(mid:Int)))=false:=by rw [Bool.and_eq_false_iff,decide_eq_false_iff_not,decide_eq_false_iff_not];omega
      have z:(decide ((mid:Int)<(en:Int))&&decide ((en:Int)<(b:Int)))=true:=by rw [Bool.and_eq_true,decide_eq_true_eq,decide_eq_true_eq];omega
      simp only [rowZ,fnO,d2,w5,x,y,z,vcd,↓vcp,seval]
      repeat' first|refine And.intro (fun h=>?_) (fun h=>?_)|refine aO ?_|(refine tA rfl rfl rfl rfl ?_;try simp only [w5,x,y,z,vcd,↓vcp,seval])|refine aT ?_|fail
      rw [e1 k1]
      rw [e2 k2]
      repeat' first|refine And.intro (fun h=>?_) (fun h=>?_)|refine aO ?_|(refine tA rfl rfl rfl rfl ?_;try simp only [x,y,z,vcd,↓vcp,seval])|refine aT ?_|fail
      have cc:=f3 k3.1 k3.2
      simp only [rowZ,fnO] at cc
      refine TR.call [(900,rowZ r2)] [(900,rowZ (P++(mrg (ltO cf) A B++S)))] _ [] (by rw [hP];exact cc) (by repeat' first|exact trivial|(intro _;assumption)|apply And.intro) (hin1 rfl) (by simp [keysO]) (by simp) ?_
      clear cc
      simp only [rowZ,x,y,z,vcd,↓vcp,seval]
      repeat' first|refine And.intro (fun h=>?_) (fun h=>?_)|refine aO ?_|(refine tA rfl rfl rfl rfl ?_;try simp only [x,y,z,vcd,↓vcp,seval])|refine aT ?_|fail
      refine RetK.mk' _ (Wk.refl _ _) (by simp only [rs202,rsb,vcd,↓vcp,seval]) (by simp only [rs202,rsb,enb,vcd,↓vcp,seval]) ?_
      simp only [enb,vcd,↓vcp,seval]
     ·have x:(decide ((e:Int)<(m:Int))&&decide ((m:Int)<(en:Int)))=false:=by rw [Bool.and_eq_false_iff,decide_eq_false_iff_not,decide_eq_false_iff_not];omega
      have y:(decide ((a:Int)<(e:Int))&&decide ((e:Int)<(mid:Int)))=false:=by rw [Bool.and_eq_false_iff,decide_eq_false_iff_not,decide_eq_false_iff_not];omega
      have z:(decide ((mid:Int)<(en:Int))&&decide ((en:Int)<(b:Int)))=false:=by rw [Bool.and_eq_false_iff,decide_eq_false_iff_not,decide_eq_false_iff_not];omega
      simp only [rowZ,fnO,d2,w5,x,y,z,vcd,↓vcp,seval]
      repeat' first|refine And.intro (fun h=>?_) (fun h=>?_)|refine aO ?_|(refine tA rfl rfl rfl rfl ?_;try simp only [w5,x,y,z,vcd,↓vcp,seval])|refine aT ?_|fail
      rw [e1 k1]
      rw [e2 k2]
      rw [e3 k3]
      repeat' first|refine And.intro (fun h=>?_) (fun h=>?_)|refine aO ?_|(refine tA rfl rfl rfl rfl ?_;try simp only [x,y,z,vcd,↓vcp,seval])|refine aT ?_|fail
      refine RetK.mk' _ (Wk.refl _ _) (by simp only [rs202,rsb,vcd,↓vcp,seval]) (by simp only [rs202,rsb,enb,vcd,↓vcp,seval]) ?_
      simp only [enb,vcd,↓vcp,seval]
theorem sSym {g:Nat} {ds:List D} {cf:Int→Int→Int} {ok:Int→Prop} (hc:CmpO g ds cf ok):∀ N,SymAt g ds cf ok N
 |0=>fun P A B S a m b _ _ _ h0 hA hB=>by omega
 |N+1=>fun P A B S a m b ha hm hb hN hA hB sA sB hok hl=>by
  by_cases hA1:A.length=1
  ·exact sSymA hc P A B S a m b ha hm hb hA hB sA sB hok hl hA1
  ·by_cases hB1:B.length=1
   ·exact sSymB hc P A B S a m b ha hm hb hA hB sA sB hok hl hA1 hB1
   ·exact sSymM hc (sSym hc N) P A B S a m b ha hm hb hN hA hB sA sB hok hl hA1 hB1
end Go.Proofs.YtanppabbmffokaaGreat
end
section
namespace Go.Proofs.YtanppabbmffokaaGreat
open Go.Bx
set_option maxRecDepth 10000
section
variable {X:Type} (lt:X→X→Bool)
def sbl (w:Nat):Nat→List X→List X
 |0,l=>srt lt [] l
 |f+1,l=>if l.length≤w then srt lt [] l else srt lt [] (l.take w)++sbl w f (l.drop w)
def sb (w:Nat) (l:List X):List X:=sbl lt w l.length l
variable {lt}
theorem sbl_fuel {w:Nat} (hw:0<w):∀ (f g:Nat) (l:List X),l.length≤f→l.length≤g→sbl lt w f l=sbl lt w g l
 |0,0,_,_,_=>rfl
 |0,g+1,l,h,_=>by rw [sbl,sbl,if_pos (by omega)]
 |f+1,0,l,_,h=>by rw [sbl,sbl,if_pos (by omega)]
 |f+1,g+1,l,h1,h2=>by
  rw [sbl,sbl]
  split
  ·rfl
  ·rw [sbl_fuel hw f g (l.drop w) (by rw [List.length_drop];omega) (by rw [List.length_drop];omega)]
theorem sb_small {w:Nat} {l:List X} (h:l.length≤w):sb lt w l=srt lt [] l:=by
 unfold sb
 cases hl:l.length with
 |zero=>rfl
 |succ n=>rw [sbl,if_pos h]
theorem sb_step {w:Nat} (hw:0<w) {l:List X} (h:w≤l.length):sb lt w l=srt lt [] (l.take w)++sb lt w (l.drop w):=by
 rcases Nat.lt_or_eq_of_le h with h|h
 ·unfold sb
  obtain ⟨n,hn⟩:∃ n,l.length=n+1:=⟨l.length-1,by omega⟩
  rw [hn,sbl,if_neg (by omega),sbl_fuel hw n (l.drop w).length (l.drop w) (by rw [List.length_drop];omega) (Nat.le_refl _)]
 ·have e1:l.take w=l:=List.take_of_length_le (by omega)
  have e2:l.drop w=[]:=List.drop_eq_nil_of_le (by omega)
  rw [sb_small (by omega),e1,e2,sb_small (by simp)]
  simp [srt]
theorem sb_len {w:Nat} (hw:0<w):∀ (f:Nat) (l:List X),(sbl lt w f l).length=l.length
 |0,l=>by rw [sbl,srt_len];simp
 |f+1,l=>by
  rw [sbl]
  split
  ·rw [srt_len];simp
  ·rw [List.length_append,srt_len,sb_len hw f];simp;omega
end
set_option maxHeartbeats 2000000 in
theorem sStable {g:Nat} {ds:List D} {cf:Int→Int→Int} {ok:Int→Prop} (hc:CmpO g ds cf ok) (L:List Int) (hok:∀ x,x∈L→ok x) (hl:L.length≤1000000) :
  Ctr Tryz.prog 183 [.osl 900,.d (.int .i64 (L.length:Int)),fnO g ds] [(900,rowZ L)] (.tup []) [(900,rowZ (srt (ltO cf) [] L))] []:=by
 refine ctr_own Tryz.func183 ok183 rfl cc183 cr183 Tryz.ntmps183 (by simp) rfl ?_
 intro c hP hfn
 obtain ⟨n,hn⟩:∃ n,n=L.length:=⟨_,rfl⟩
 rw [←hn]
 simp only [kc183,namesL,V.names,ownNames,rowZ,fnO,vcd,↓vcp,seval]
 refine vcC.loop (X:=Nat×List Int) (fun x=>⟨[(0,.osl 900),(1,.d (.int .i64 (n:Int))),(2,fnO g ds),(6,.d (.int .i64 20)),(7,.d (.int .i64 (x.1:Nat))),(8,.d (.int .i64 ((x.1+20:Nat):Int)))],[(900,rowZ x.2)],[900]⟩)
  (fun x=>∃ P Z,x.1=P.length∧P.length+Z.length=n∧x.2=P++Z∧(∀ y,y∈Z→ok y)∧sb (ltO cf) 20 L=P++sb (ltO cf) 20 Z) (fun x=>n-x.1) (0,L) ⟨[],L,rfl,by simp [hn],rfl,hok,rfl⟩ (Wk.of _ hfn rfl (by simp only [fnO,enb,vcd,↓vcp,seval]) (by simp only [rowZ,enb,vcd,↓vcp,seval])) ?_
 rintro ⟨a,r⟩ ⟨P,Z,ha,hn2,hr,hz,hs⟩
 simp only at ha hr
 by_cases hlt:20≤Z.length
 ·have d0:decide (((a+20:Nat):Int)≤(n:Int))=true:=decide_eq_true (by omega)
  have w1:IntKind.i64.wrap (((a+20:Nat):Int)+20)=((a+20+20:Nat):Int):=(wI (by omega)).trans (by omega)
  have cc:=sInsert hc P (Z.take 20) (Z.drop 20) (fun x hx=>hz x (List.mem_of_mem_take hx)) (by rw [List.length_take,List.length_drop];omega)
  rw [List.take_append_drop,←hr,←ha,List.length_take,Nat.min_eq_left hlt] at cc
  simp only [rowZ,fnO] at cc
  simp only [rowZ,fnO,d0,vcd,↓vcp,seval]
  repeat' first|refine And.intro (fun h=>?_) (fun h=>?_)|refine aO ?_|(refine tA rfl rfl rfl rfl ?_;try simp only [vcd,↓vcp,seval])|refine aT ?_|fail
  refine TR.call [(900,rowZ r)] [(900,rowZ (P++(srt (ltO cf) [] (Z.take 20)++Z.drop 20)))] _ [] (by rw [hP];exact cc) (by repeat' first|exact trivial|(intro _;assumption)|apply And.intro) (hin1 rfl) (by simp [keysO]) (by simp) ?_
  simp only [w1,vcd,↓vcp,seval]
  repeat' first|refine And.intro (fun h=>?_) (fun h=>?_)|refine aO ?_|(refine tA rfl rfl rfl rfl ?_;try simp only [w1,vcd,↓vcp,seval])|refine aT ?_|fail
  refine lopK.on (a+20,P++(srt (ltO cf) [] (Z.take 20)++Z.drop 20)) ⟨P++srt (ltO cf) [] (Z.take 20),Z.drop 20,?_,?_,by simp,fun y hy=>hz y (List.mem_of_mem_drop hy),?_⟩ (by simp only;omega) (Wk.of _ hfn rfl (by simp only [fnO,w1,enb,vcd,↓vcp,seval]) (by simp only [rowZ,enb,vcd,↓vcp,seval]))
  ·rw [List.length_append,srt_len,List.length_take];simp only [List.length_nil];omega
  ·rw [List.length_append,srt_len,List.length_take,List.length_drop];simp only [List.length_nil];omega
  ·rw [hs,sb_step (by decide) hlt];simp
 ·have d0:decide (((a+20:Nat):Int)≤(n:Int))=false:=decide_eq_false (by omega)
  have cc:=sInsert hc P Z [] hz (by simp only [List.length_nil];omega)
  rw [List.append_nil,←hr,←ha,show a+Z.length=n by omega] at cc
  have hs2:P++(srt (ltO cf) [] Z++[])=sb (ltO cf) 20 L:=by rw [hs,sb_small (by omega)];simp
  rw [hs2] at cc
  simp only [rowZ,fnO] at cc
  simp only [rowZ,fnO,d0,vcd,↓vcp,seval]
  repeat' first|refine And.intro (fun h=>?_) (fun h=>?_)|refine aO ?_|(refine tA rfl rfl rfl rfl ?_;try simp only [vcd,↓vcp,seval])|refine aT ?_|fail
  refine TR.call [(900,rowZ r)] [(900,rowZ (sb (ltO cf) 20 L))] _ [] (by rw [hP];exact cc) (by repeat' first|exact trivial|(intro _;assumption)|apply And.intro) (hin1 rfl) (by simp [keysO]) (by simp) ?_
  clear cc hs2 d0 hlt hs hz hr hn2 ha
  simp only [vcd,↓vcp,seval]
  refine vcC.loop (X:=Nat) (fun w=>⟨[(0,.osl 900),(1,.d (.int .i64 (n:Int))),(2,fnO g ds),(6,.d (.int .i64 (w:Nat)))],[(900,rowZ (sb (ltO cf) w L))],[900]⟩)
   (fun w=>0<w∧w≤2*n+20) (fun w=>n-w) 20 ⟨by decide,by omega⟩ (Wk.of _ hfn rfl (by simp only [fnO,enb,vcd,↓vcp,seval]) (by simp only [rowZ,enb,vcd,↓vcp,seval])) ?_
  rintro w ⟨hw0,hw1⟩
  by_cases hwn:w<n
  ·have d0:decide ((w:Int)<(n:Int))=true:=decide_eq_true (by omega)
   have w2:IntKind.i64.wrap (2*(w:Int))=((2*w:Nat):Int):=(wI (by omega)).trans (by omega)
   have w3:IntKind.i64.wrap ((w:Int)*2)=((2*w:Nat):Int):=(wI (by omega)).trans (by omega)
   simp only [rowZ,fnO,d0,w2,vcd,↓vcp,seval]
   repeat' first|refine And.intro (fun h=>?_) (fun h=>?_)|refine aO ?_|(refine tA rfl rfl rfl rfl ?_;try simp only [w2,vcd,↓vcp,seval])|refine aT ?_|fail
   refine vcC.loop (X:=Nat×List Int) (fun x=>⟨[(0,.osl 900),(1,.d (.int .i64 (n:Int))),(2,fnO g ds),(6,.d (.int .i64 (w:Nat))),(7,.d (.int .i64 (x.1:Nat))),(8,.d (.int .i64 ((x.1+2*w:Nat):Int)))],[(900,rowZ x.2)],[900]⟩)
    (fun x=>∃ P Z,x.1=P.length∧P.length+Z.length=n∧x.2=P++sb (ltO cf) w Z∧(∀ y,y∈Z→ok y)∧sb (ltO cf) (2*w) L=P++sb (ltO cf) (2*w) Z) (fun x=>n-x.1) (0,sb (ltO cf) w L) ⟨[],L,rfl,by simp [hn],rfl,hok,rfl⟩ (Wk.of _ hfn rfl (by simp only [fnO,Nat.zero_add,enb,vcd,↓vcp,seval]) (by simp only [rowZ,enb,vcd,↓vcp,seval])) ?_
   rintro ⟨a,r⟩ ⟨P,Z,ha,hn2,hr,hz,hs⟩
   simp only at ha hr
   have w4:IntKind.i64.wrap ((a:Int)+(w:Int))=((a+w:Nat):Int):=(wI (by omega)).trans (by omega)
   have okT:∀ (M:List Int),(∀ x,x∈M→x∈Z)→∀ x,x∈srt (ltO cf) [] M→ok x:=fun M hM x hx=>hz x (hM x (by simpa using (srt_perm (ltO cf) M []).mem_iff.1 hx))
   have slen:∀ (M:List Int),(srt (ltO cf) [] M).length=M.length:=fun M=>by rw [srt_len];simp
   by_cases hlt:2*w≤Z.length
   ·have d1:decide (((a+2*w:Nat):Int)≤(n:Int))=true:=decide_eq_true (by omega)
    have w5:IntKind.i64.wrap (((a+2*w:Nat):Int)+((2*w:Nat):Int))=((a+2*w+2*w:Nat):Int):=(wI (by omega)).trans (by omega)
    have e1:sb (ltO cf) w Z=srt (ltO cf) [] (Z.take w)++(srt (ltO cf) [] ((Z.drop w).take w)++sb (ltO cf) w (Z.drop (2*w))):=by
     rw [sb_step hw0 (by omega),sb_step hw0 (l:=Z.drop w) (by rw [List.length_drop];omega),List.drop_drop,show w+w=2*w by omega]
    have e2:mrg (ltO cf) (srt (ltO cf) [] (Z.take w)) (srt (ltO cf) [] ((Z.drop w).take w))=srt (ltO cf) [] (Z.take (2*w)):=by
     rw [srt_two hc.w,show 2*w=w+w by omega,List.take_add]
    have l1:(srt (ltO cf) [] (Z.take w)).length=w:=by rw [slen,List.length_take];omega
    have l2:(srt (ltO cf) [] ((Z.drop w).take w)).length=w:=by rw [slen,List.length_take,List.length_drop];omega
    have l3:(sb (ltO cf) w (Z.drop (2*w))).length=Z.length-2*w:=by rw [sb,sb_len hw0,List.length_drop]
    have cc:=sSym hc (w+w) P (srt (ltO cf) [] (Z.take w)) (srt (ltO cf) [] ((Z.drop w).take w)) (sb (ltO cf) w (Z.drop (2*w))) a (a+w) (a+2*w) ha (by omega) (by omega) (by omega) (by omega) (by omega) (srt_sorted hc.w _ [] List.Pairwise.nil) (srt_sorted hc.w _ [] List.Pairwise.nil)
     (fun x hx=>by
      rcases List.mem_append.1 hx with h|h
      ·exact okT _ (fun y hy=>List.mem_of_mem_take hy) x h
      ·exact okT _ (fun y hy=>List.mem_of_mem_drop (List.mem_of_mem_take hy)) x h) (by omega)
    rw [←e1,←hr,e2] at cc
    simp only [rowZ,fnO] at cc
    simp only [rowZ,fnO,d1,w2,w4,vcd,↓vcp,seval]
    repeat' first|refine And.intro (fun h=>?_) (fun h=>?_)|refine aO ?_|(refine tA rfl rfl rfl rfl ?_;try simp only [w4,vcd,↓vcp,seval])|refine aT ?_|fail
    refine TR.call [(900,rowZ r)] [(900,rowZ (P++(srt (ltO cf) [] (Z.take (2*w))++sb (ltO cf) w (Z.drop (2*w)))))] _ [] (by rw [hP];exact cc) (by repeat' first|exact trivial|(intro _;assumption)|apply And.intro) (hin1 rfl) (by simp [keysO]) (by simp) ?_
    clear cc
    simp only [w2,w5,vcd,↓vcp,seval]
    repeat' first|refine And.intro (fun h=>?_) (fun h=>?_)|refine aO ?_|(refine tA rfl rfl rfl rfl ?_;try simp only [w2,w5,vcd,↓vcp,seval])|refine aT ?_|fail
    refine lopK.on (a+2*w,P++(srt (ltO cf) [] (Z.take (2*w))++sb (ltO cf) w (Z.drop (2*w)))) ⟨P++srt (ltO cf) [] (Z.take (2*w)),Z.drop (2*w),?_,?_,by simp,fun y hy=>hz y (List.mem_of_mem_drop hy),?_⟩ (by simp only;omega) (Wk.of _ hfn rfl (by simp only [fnO,w5,enb,vcd,↓vcp,seval]) (by simp only [rowZ,enb,vcd,↓vcp,seval]))
    ·rw [List.length_append,slen,List.length_take];simp only;omega
    ·rw [List.length_append,slen,List.length_take,List.length_drop];omega
    ·rw [hs,sb_step (by omega) hlt];simp
   ·have d1:decide (((a+2*w:Nat):Int)≤(n:Int))=false:=decide_eq_false (by omega)
    have e3:sb (ltO cf) (2*w) L=P++srt (ltO cf) [] Z:=by rw [hs,sb_small (by omega)]
    by_cases hm:w<Z.length
    ·have d2:decide (((a+w:Nat):Int)<(n:Int))=true:=decide_eq_true (by omega)
     have e1:sb (ltO cf) w Z=srt (ltO cf) [] (Z.take w)++(srt (ltO cf) [] (Z.drop w)++[]):=by
      rw [sb_step hw0 (by omega),sb_small (l:=Z.drop w) (by rw [List.length_drop];omega),List.append_nil]
     have e2:mrg (ltO cf) (srt (ltO cf) [] (Z.take w)) (srt (ltO cf) [] (Z.drop w))=srt (ltO cf) [] Z:=by
      rw [srt_two hc.w,List.take_append_drop]
     have l1:(srt (ltO cf) [] (Z.take w)).length=w:=by rw [slen,List.length_take];omega
     have l2:(srt (ltO cf) [] (Z.drop w)).length=Z.length-w:=by rw [slen,List.length_drop]
     have cc:=sSym hc (w+w) P (srt (ltO cf) [] (Z.take w)) (srt (ltO cf) [] (Z.drop w)) [] a (a+w) n ha (by omega) (by omega) (by omega) (by omega) (by omega) (srt_sorted hc.w _ [] List.Pairwise.nil) (srt_sorted hc.w _ [] List.Pairwise.nil)
      (fun x hx=>by
       rcases List.mem_append.1 hx with h|h
       ·exact okT _ (fun y hy=>List.mem_of_mem_take hy) x h
       ·exact okT _ (fun y hy=>List.mem_of_mem_drop hy) x h) (by simp only [List.length_nil];omega)
     rw [←e1,←hr,e2,List.append_nil,←e3] at cc
     simp only [rowZ,fnO] at cc
     simp only [rowZ,fnO,d1,d2,w3,w4,vcd,↓vcp,seval]
     repeat' first|refine And.intro (fun h=>?_) (fun h=>?_)|refine aO ?_|(refine tA rfl rfl rfl rfl ?_;try simp only [w4,vcd,↓vcp,seval])|refine aT ?_|fail
     refine TR.call [(900,rowZ r)] [(900,rowZ (sb (ltO cf) (2*w) L))] _ [] (by rw [hP];exact cc) (by repeat' first|exact trivial|(intro _;assumption)|apply And.intro) (hin1 rfl) (by simp [keysO]) (by simp) ?_
     clear cc
     simp only [w3,vcd,↓vcp,seval]
     repeat' first|refine And.intro (fun h=>?_) (fun h=>?_)|refine aO ?_|(refine tA rfl rfl rfl rfl ?_;try simp only [w3,vcd,↓vcp,seval])|refine aT ?_|fail
     exact lopK.on (2*w) ⟨by omega,by omega⟩ (by omega) (Wk.of _ hfn rfl (by simp only [fnO,w3,enb,vcd,↓vcp,seval]) (by simp only [rowZ,enb,vcd,↓vcp,seval]))
    ·have d2:decide (((a+w:Nat):Int)<(n:Int))=false:=decide_eq_false (by omega)
     have e4:r=sb (ltO cf) (2*w) L:=by rw [hr,e3,sb_small (by omega)]
     simp only [rowZ,fnO,d1,d2,w3,w4,vcd,↓vcp,seval]
     repeat' first|refine And.intro (fun h=>?_) (fun h=>?_)|refine aO ?_|(refine tA rfl rfl rfl rfl ?_;try simp only [w4,w3,vcd,↓vcp,seval])|refine aT ?_|fail
     exact lopK.on (2*w) ⟨by omega,by omega⟩ (by omega) (Wk.of _ hfn rfl (by simp only [fnO,w3,enb,vcd,↓vcp,seval]) (by simp only [rowZ,e4,enb,vcd,↓vcp,seval]))
  ·have d0:decide ((w:Int)<(n:Int))=false:=decide_eq_false (by omega)
   have e:sb (ltO cf) w L=srt (ltO cf) [] L:=sb_small (by omega)
   simp only [rowZ,fnO,d0,e,vcd,↓vcp,seval]
   repeat' first|refine And.intro (fun h=>?_) (fun h=>?_)|refine aO ?_|(refine tA rfl rfl rfl rfl ?_;try simp only [vcd,↓vcp,seval])|refine aT ?_|fail
   refine RetK.mk' _ (Wk.refl _ _) (by simp only [rs183,rsb,vcd,↓vcp,seval]) (by simp only [rs183,rsb,enb,vcd,↓vcp,seval]) ?_
   simp only [enb,vcd,↓vcp,seval]
theorem sSortSt {g:Nat} {ds:List D} {cf:Int→Int→Int} {ok:Int→Prop} (hc:CmpO g ds cf ok) (L:List Int) (hok:∀ x,x∈L→ok x) (hl:L.length≤1000000) :
  Ctr Tryz.prog 153 [.osl 900,fnO g ds] [(900,rowZ L)] (.tup []) [(900,rowZ (srt (ltO cf) [] L))] []:=by
 refine ctr_own Tryz.func153 ok153 rfl cc153 cr153 Tryz.ntmps153 (by simp) rfl ?_
 intro c hP hfn
 have cc:=sStable hc L hok hl
 simp only [rowZ,fnO] at cc
 simp only [kc153,namesL,V.names,ownNames,rowZ,fnO,vcd,↓vcp,seval]
 refine TR.call [(900,rowZ L)] [(900,rowZ (srt (ltO cf) [] L))] _ [] (by rw [hP];exact cc) (by repeat' first|exact trivial|(intro _;assumption)|apply And.intro) (hin1 rfl) (by simp [keysO]) (by simp) ?_
 simp only [vcd,↓vcp,seval]
 repeat' first|refine And.intro (fun h=>?_) (fun h=>?_)|refine aO ?_|(refine tA rfl rfl rfl rfl ?_;try simp only [vcd,↓vcp,seval])|refine aT ?_|fail
 refine RetK.mk' _ (Wk.refl _ _) (by simp only [rs153,rsb,vcd,↓vcp,seval]) (by simp only [rs153,rsb,enb,vcd,↓vcp,seval]) ?_
 simp only [rowZ,enb,vcd,↓vcp,seval]
end Go.Proofs.YtanppabbmffokaaGreat
end
section
namespace Go.Proofs.YtanppabbmffokaaGreat
open Go.Bx
def vErr (e:Int):V:=.ifc 40 (.d (.int .i64 e))
theorem dTold0 (k:Nat) (e:Int):CtrD Tryz.prog 53 [k] none [(k,.fix [.d (.int .i64 e)])] [(k,.fix [.d (.int .i64 e)])]:=by
 refine ⟨ok53,by simp [keysO],by simp [keysO],fun E0 β w vals pv hE hsz hv hins _=>?_⟩
 obtain ⟨v,rfl⟩:∃ v,vals=#[v]:=by
  match vals,hsz with
  |⟨[v]⟩,_=>exact ⟨v,rfl⟩
 have h1:=hv 0 v k rfl rfl
 obtain ⟨b,rfl,hb⟩:∃ b,v=.pointer (some ⟨b,0,none⟩)∧β k=some (.pointer (some ⟨b,0,none⟩)):=by
  cases h1 with
  |own _ off b h=>exact ⟨b,rfl,h⟩
 refine (callsDIn_of_wpSIn (R:=fun e u' w'=>e=.returned (.tuple #[])∧u'=.returning∧w'=w) Tryz.func53 rfl trivial fun c₀ cs hu=>?_).mono ?_
 ·simp only [modeP] at hu
  apply wpSIn_seq
  apply wpSIn_region
  simp [wpOpsSIn,go_sem,recoverD,hu,Tryz.ntmps53,Exit.thenS]
  apply wpSIn_seq
  apply wpSIn_region
  simp [wpOpsSIn,go_sem,Tryz.ntmps53,Exit.thenS]
  refine wpSIn_cond (t:=false) (by simp [Act.eval,Array.replicate]) ?_
  simp only [Bool.false_eq_true,if_false]
  refine wpSIn_of_wpIn rfl (wpIn_skip ?_)
  cases c₀
  simp_all [bodyPostS,results,Tryz.results53]
 ·rintro e u' w' ⟨rfl,rfl,rfl⟩
  exact ⟨_,rfl,rfl,hins,Keeps.refl _ _⟩
theorem fix_at {E0:Nat→Prop} {β:Names} {w:World} {own:List (Nat×Own)} {k b:Nat} {x:V} (h:OwnsOk E0 β w own) (hk:(k,Own.fix [x])∈own) (hb:β k=some (.pointer (some ⟨b,0,none⟩))) :
  ∃ v e,w.heap[b]?=some (.cells #[v] e (0,0))∧w.cell? ⟨b,0,none⟩=some v∧w.frozen? ⟨b,0,none⟩=false∧RelV β (Eo E0 β own) w v x:=by
 obtain ⟨b',arr,e,h1,h2,h3,h4⟩:=h.ok k _ hk
 rw [hb] at h1
 injection h1 with h1;injection h1 with h1;injection h1 with h1;injection h1 with h1
 subst h1
 match arr,h3 with
 |⟨[v]⟩,_=>exact ⟨v,e,h2,by simp [World.cell?,h2],by simp [World.frozen?,h2],h4 0 v x rfl rfl⟩
theorem set_heap {w:World} {b:Nat} {u v:Value} {e:TypeId} (h:w.heap[b]?=some (.cells #[u] e (0,0))):(w.setCell ⟨b,0,none⟩ v).heap[b]?=some (.cells #[v] e (0,0)):=by
 simp [World.setCell,Array.getElem?_modify,h]
theorem set_other {w:World} {b i:Nat} {v:Value} (h:b≠i):(w.setCell ⟨b,0,none⟩ v).heap[i]?=w.heap[i]?:=by
 simp [World.setCell,Array.getElem?_modify,h]
theorem set_keeps {w:World} {b:Nat} {v:Value} {L:Nat→Prop} (h:L b):Keeps L w (w.setCell ⟨b,0,none⟩ v):=
 ⟨rfl,rfl,rfl,by simp,fun i _ hl=>set_other (fun e=>hl (e▸h))⟩
theorem own_set {E0:Nat→Prop} {β:Names} {w:World} {own:List (Nat×Own)} {k b:Nat} {x:V} (h:OwnsOk E0 β w own) (hk:(k,Own.fix [x])∈own) (hb:β k=some (.pointer (some ⟨b,0,none⟩))) {v:Value} {y:V}
  (hv:RelV β (Eo E0 β own) w v y):OwnsOk E0 β (w.setCell ⟨b,0,none⟩ v) (setO own k (.fix [y])):=by
 obtain ⟨u,e,h1,-,-,-⟩:=fix_at h hk hb
 have hkk:k∈keysO own:=mem_keys hk
 have hE:Eo E0 β (setO own k (.fix [y]))=Eo E0 β own:=Eo_setO_same hkk
 have hbk:β.blk k=some b:=by simp [Names.blk,hb,blkOf]
 have hl:Lasts (Eo E0 β own) (Eo E0 β (setO own k (.fix [y]))) w (w.setCell ⟨b,0,none⟩ v):=fun i hi hn=>by
  rw [hE]
  refine ⟨hn,set_other fun e=>hn (.inr ⟨k,hkk,by rw [hbk,e]⟩)⟩
 have hks:∀ j,j∈keysO (setO own k (.fix [y]))→j∈keysO own:=fun j hj=>by
  obtain ⟨o,ho⟩:=key_iff.1 hj
  rw [own?_setO] at ho
  split at ho
  ·rename_i e;rw [e];exact hkk
  ·exact mem_keys (own?_mem ho)
 refine ⟨fun j o hj=>?_,nodup_setO h.nodup,fun j j' h1 h2=>h.apart j j' (hks j h1) (hks j' h2),fun j hj i hi=>by
  have:=h.lt j (hks j hj) i hi
  simpa using this⟩
 have ho:=mem_own? (nodup_setO h.nodup) hj
 rw [own?_setO] at ho
 split at ho
 ·rename_i e1
  cases ho
  subst e1
  refine ⟨b,#[v],e,hb,set_heap h1,rfl,fun q u' x' hq hx'=>?_⟩
  have:q=0:=by
   have:=(Array.getElem?_eq_some_iff.1 hq).1;simp at this;exact this
  subst this
  cases hq;cases hx'
  exact hv.lasts hl (fun _ _=>rfl)
 ·rename_i e1
  refine (h.ok j o (own?_mem ho)).lasts hl (Names.le.refl β) (fun i hi=>set_other fun e2=>?_)
  exact h.apart j k (mem_keys (own?_mem ho)) hkk e1 i hi (by rw [hbk,e2])
theorem run_tasT {P:Program} {t xt:TypeId} (hr:concB P t=true) (v:Value) (w:World):(Instr.typeAssert (.iface t v) xt t true).run P w=.ok (.tuple #[v,.bool true]) w:=by
 unfold concB at hr
 split at hr
 ·cases hr
 ·rename_i dd hne hdd
  simp only [Instr.typeAssert,Sem.run_bind,run_underlying hdd,Result.andThen_ok]
  split<;>first
   |(rename_i hm;exact absurd (hm▸hdd) (hne _))
   |simp_all
 ·cases hr
theorem dTold1 (k:Nat) (e n:Int):CtrD Tryz.prog 53 [k] (some (vErr n)) [(k,.fix [.d (.int .i64 e)])] [(k,.fix [.d (.int .i64 n)])]:=by
 refine ⟨ok53,by simp [keysO],by simp [keysO],fun E0 β w vals pv hE hsz hv hins hp=>?_⟩
 obtain ⟨v,rfl⟩:∃ v,vals=#[v]:=by
  match vals,hsz with
  |⟨[v]⟩,_=>exact ⟨v,rfl⟩
 have h1:=hv 0 v k rfl rfl
 obtain ⟨b,rfl,hb⟩:∃ b,v=.pointer (some ⟨b,0,none⟩)∧β k=some (.pointer (some ⟨b,0,none⟩)):=by
  cases h1 with
  |own _ off b h=>exact ⟨b,rfl,h⟩
 obtain rfl:pv=.iface 40 (.int .i64 n):=by
  have:=hp _ rfl
  cases this with
  |ifc t v x h=>cases h with|d _ _ h=>cases h;rfl
 obtain ⟨u,ty,g1,g2,g3,-⟩:=fix_at (x:=.d (.int .i64 e)) hins (by simp) hb
 refine (callsDIn_of_wpSIn (R:=fun e u' w'=>e=.returned (.tuple #[])∧u'=.panicking [{ v:=.iface 40 (.int .i64 n),recovered:=true }]∧w'=w.setCell ⟨b,0,none⟩ (.int .i64 n)) Tryz.func53 rfl trivial fun c₀ cs hu=>?_).mono ?_
 ·simp only [modeP] at hu
  apply wpSIn_seq
  apply wpSIn_region
  simp [wpOpsSIn,go_sem,recoverD,hu,Tryz.ntmps53,Exit.thenS]
  apply wpSIn_seq
  apply wpSIn_region
  simp [wpOpsSIn,go_sem,Tryz.ntmps53,Exit.thenS]
  refine wpSIn_cond (t:=true) (by simp [Act.eval,Array.replicate]) ?_
  simp only [if_true]
  apply wpSIn_region
  have q1:=run_tasT (P:=Tryz.prog) (t:=40) (xt:=20) (by kernel_rfl) (.int .i64 n) w
  simp [wpOpsSIn,go_sem,q1,g2,g3,bodyPostS,results,Tryz.results53]
 ·rintro e' u' w' ⟨rfl,rfl,rfl⟩
  refine ⟨_,rfl,rfl,?_,set_keeps ⟨k,by simp [keysO],by simp [Names.blk,hb,blkOf]⟩⟩
  have:=own_set (x:=.d (.int .i64 e)) hins (by simp) hb (v:=.int .i64 n) (y:=.d (.int .i64 n)) (.d _ _ (.int _ _))
  simpa [setO] using this
end Go.Proofs.YtanppabbmffokaaGreat
end
section
namespace Go.Proofs.YtanppabbmffokaaGreat
open Go.Bx
set_option maxRecDepth 10000
def slB (l:List (Int×Int)):D:=.sl false 2 l.length (fun i=>[.int .i64 (l.getD i default).1,.int .i64 (l.getD i default).2])
def bandsR:Int→List (Int×Int)→Bool
 |_,[]=>true
 |last,b::r=>decide (last<b.1∧b.1≤200∧0≤b.2∧b.2≤100000)&&bandsR b.1 r
def bandsL (l:List (Int×Int)):Bool:=bandsR (-1) l&&decide (l.length≤100)
theorem sBands (l:List (Int×Int)) (hl:l.length≤9223372036854775807):Ctr Tryz.prog 103 [.d (slB l)] [] (.d (.bool (bandsL l))) [] []:=by
 refine ctr_pure Tryz.func103 ok103 rfl cc103 cr103 Tryz.ntmps103 (by simp) rfl rfl ?_;intro c hP hfn;simp only [kc103,slB,vcd,↓vcp,seval]
 refine vcC.loop (X:=Nat×Int) (fun x=>⟨[(0,.d (slB l)),(3,.d (.int .i64 x.2)),(6,.d (slB l)),(7,.d (.int .i64 l.length)),(8,.d (.int .i64 x.1))],[],[]⟩)
  (fun x=>x.1≤l.length∧bandsR (-1) l=bandsR x.2 (l.drop x.1)) (fun x=>l.length-x.1) (0,-1) ⟨Nat.zero_le _,rfl⟩ (Wk.of [] hfn rfl (by (simp only [slB,enb,vcd,↓vcp,seval])<;>(first|exact wS (by omega)|(rw [List.length_append];exact wS (by omega))|assumption)) (by simp only [enb,vcd,↓vcp,seval])) ?_
 rintro ⟨k,last⟩ ⟨hk,he⟩
 simp only at hk he
 simp only [slB,vcd,↓vcp,seval]
 refine ⟨fun h1=>?_,fun h1=>?_⟩
 ·have hlt:k<l.length:=by have:=of_decide_eq_true h1;omega
  obtain ⟨x,hd,hg,-,-⟩:=drop_at hlt
  simp only [hg]
  rw [hd,bandsR] at he
  repeat' first|refine And.intro (fun h=>?_) (fun h=>?_)|refine aO ?_|(refine tA rfl rfl rfl rfl ?_;try simp only [hg,vcd,↓vcp,seval])|refine aT ?_|fail
  ·have hb:¬ (last<x.1∧x.1≤200∧0≤x.2∧x.2≤100000):=by simp only [Bool.or_eq_true,decide_eq_true_eq] at h;omega
   exact RetK.pure (by simp only [rs103,rsb,vcd,↓vcp,seval]) (by (simp only [rs103,rsb,enb,vcd,↓vcp,seval])<;>(first|(rw [bandsL,he];simp [hb])))
  ·have hb:(last<x.1∧x.1≤200∧0≤x.2∧x.2≤100000):=by simp only [Bool.or_eq_false_iff,decide_eq_false_iff_not] at h;omega
   refine lopK.on (k+1,x.1) ⟨hlt,?_⟩ (by simp only;omega) (Wk.of [] hfn rfl (by (simp only [slB,enb,vcd,↓vcp,seval])<;>(first|exact wS (by omega)|(rw [List.length_append];exact wS (by omega))|assumption)) (by simp only [enb,vcd,↓vcp,seval]))
   rw [he];simp [hb]
 ·have hkl:k=l.length:=by have:=of_decide_eq_false h1;omega
  rw [hkl,List.drop_length,bandsR] at he
  exact RetK.pure (by simp only [rs103,rsb,vcd,↓vcp,seval]) (by (simp only [rs103,rsb,enb,vcd,↓vcp,seval])<;>(first|(rw [bandsL,he,Bool.true_and,Bool.eq_iff_iff];simp only [decide_eq_true_eq];omega)))
def bandR:List (Int×Int)→Int→Int
 |[],_=>10000
 |b::r,a=>if b.1<a then bandR r a else b.2
theorem slB_drop {full:Bool} {l:List (Int×Int)} {k m:Nat} (hm:m=(l.drop (k+1)).length):VLe (.d (.sl full 2 m (fun i=>[.int .i64 ((l.drop k).getD (1+i) default).1,.int .i64 ((l.drop k).getD (1+i) default).2]))) (.d (slB (l.drop (k+1)))):=
 VLe.sl hm (fun _=>rfl) (by simp) fun i hi=>by
  have:∀ d,(l.drop k).getD (1+i) d=(l.drop (k+1)).getD i d:=fun d=>by
   rw [List.getD_eq_getElem?_getD,List.getD_eq_getElem?_getD,List.getElem?_drop,List.getElem?_drop,show k+(1+i)=k+1+i by omega]
  rw [this]
theorem sBand (l:List (Int×Int)) (a:Int) (hl:l.length≤9223372036854775807):Ctr Tryz.prog 157 [.d (slB l),.d (.int .i64 a)] [] (.d (.int .i64 (bandR l a))) [] []:=by
 refine ctr_pure Tryz.func157 ok157 rfl cc157 cr157 Tryz.ntmps157 (by simp) rfl rfl ?_;intro c hP hfn;simp only [kc157,vcd,↓vcp,seval]
 have nxt:∀ k,k≤l.length→bandR l a=bandR (l.drop k) a→∀ J:St→Prop,(∀ st',k<l.length→bandR l a=bandR (l.drop (k+1)) a→(Wk c st' ⟨[(0,.d (slB (l.drop (k+1)))),(1,.d (.int .i64 a))],[],[]⟩)→J st')→True:=fun _ _ _ _ _=>trivial
 clear nxt
 refine vcC.scope (X:=Nat) (fun k=>⟨[(0,.d (slB (l.drop k))),(1,.d (.int .i64 a))],[],[]⟩) (fun k=>k≤l.length∧bandR l a=bandR (l.drop k) a) (fun k=>l.length-k) ?_ ?_
 ·simp only [slB,vcd,↓vcp,seval]
  refine ⟨fun h1=>?_,fun h1=>?_⟩
  ·have:l=[]:=by simpa using h1
   subst this
   exact RetK.pure (by simp only [rs157,rsb,vcd,↓vcp,seval]) (by (simp only [rs157,rsb,enb,vcd,↓vcp,seval])<;>(first|rfl))
  have hlt:0<l.length:=by simp at h1;exact List.length_pos_iff.2 h1
  obtain ⟨x,hd,hg,-,-⟩:=drop_at hlt
  rw [List.drop_zero] at hd
  have hb:bandR l a=if x.1<a then bandR (l.drop 1) a else x.2:=by
   have:=congrArg (bandR · a) hd
   simpa [bandR] using this
  simp only [hg,vcd,↓vcp,seval]
  repeat' first|refine And.intro (fun h=>?_) (fun h=>?_)|refine aO ?_|(refine tA rfl rfl rfl rfl ?_;try simp only [vcd,↓vcp,seval])|refine aT ?_|fail
  ·refine ⟨1,⟨hlt,?_⟩,Wk.of [] hfn rfl (by simp only [enb,vcd,↓vcp,seval,Int.reduceToNat];exact slB_drop (l:=l) (k:=0) (by simp)) (by simp only [enb,vcd,↓vcp,seval])⟩
   rw [hb,if_pos (of_decide_eq_true h)]
  ·exact RetK.pure (by simp only [rs157,rsb,vcd,↓vcp,seval]) (by (simp only [rs157,rsb,enb,vcd,↓vcp,seval])<;>(first|(rw [hb,if_neg (of_decide_eq_false h)])))
 ·rintro k ⟨hk,he⟩
  simp only [slB,vcd,↓vcp,seval]
  refine ⟨fun h1=>?_,fun h1=>?_⟩
  ·have:l.drop k=[]:=List.eq_nil_of_length_eq_zero (by simpa using h1)
   rw [this] at he
   exact RetK.pure (by simp only [rs157,rsb,vcd,↓vcp,seval]) (by (simp only [rs157,rsb,enb,vcd,↓vcp,seval])<;>(first|(rw [he];rfl)))
  have hlt:k<l.length:=by simp at h1;omega
  obtain ⟨x,hd,hg,-,-⟩:=drop_at hlt
  have hg0:∀ d,(l.drop k).getD 0 d=x:=fun d=>by rw [hd];rfl
  rw [hd,bandR] at he
  have hlen:(l.drop k).length=l.length-k:=List.length_drop
  simp only [hg0,vcd,↓vcp,seval]
  repeat' first|refine And.intro (fun h=>?_) (fun h=>?_)|refine aO ?_|(refine tA rfl rfl rfl rfl ?_;try simp only [vcd,↓vcp,seval])|refine aT ?_|fail
  ·rw [if_pos (of_decide_eq_true h)] at he
   refine ⟨k+1,⟨hlt,he⟩,Wk.of [] hfn rfl (by simp only [enb,vcd,↓vcp,seval,Int.reduceToNat];exact slB_drop (l:=l) (k:=k) (by simp;omega)) (by simp only [enb,vcd,↓vcp,seval]),by omega⟩
  ·rw [if_neg (of_decide_eq_false h)] at he
   exact RetK.pure (by simp only [rs157,rsb,vcd,↓vcp,seval]) (by (simp only [rs157,rsb,enb,vcd,↓vcp,seval])<;>(first|(rw [he])))
structure Vs where
 fr:Int
 b0:Int
 b1:Int
 b2:Int
 b3:Int
 age:List (Int×Int)
 zn:List Int
 pr:List Int
 mn:Int
instance:Inhabited Vs:=⟨⟨0,0,0,0,0,[],[],[],0⟩⟩
def cV (v:Vs):List V:=[.d (.int .i64 v.fr),.d (.int .i64 v.b0),.d (.int .i64 v.b1),.d (.int .i64 v.b2),.d (.int .i64 v.b3),.d (slB v.age),.d (slK .i64 v.zn),.d (slK .i64 v.pr),.d (.int .i64 v.mn)]
def vV (v:Vs):V:=.ag (cV v)
structure ShortV (v:Vs):Prop where
 age:v.age.length≤9223372036854775807
 zn:v.zn.length≤9223372036854775807
 pr:v.pr.length≤9223372036854775807
def headV (v:Vs):Bool:=decide (1≤v.fr∧v.fr≤292194∧0≤v.mn∧v.mn≤1000000000000000∧v.age.length≤100∧1≤v.zn.length∧v.zn.length≤100∧v.pr.length=8)
def rightV (v:Vs):Bool:=headV v&&([v.b0,v.b1,v.b2,v.b3].all facB&&v.zn.all facB&&v.pr.all facB&&bandsL v.age)
theorem headV_iff {v:Vs}:headV v=true↔1≤v.fr∧v.fr≤292194∧0≤v.mn∧v.mn≤1000000000000000∧v.age.length≤100∧1≤v.zn.length∧v.zn.length≤100∧v.pr.length=8:=by simp only [headV,decide_eq_true_eq]
theorem sFactors4 {full:Bool} {l:List Int} {F:Nat→List D} (hl:l.length=4) (hF:∀ i,i<4→F i=[.int .i64 (l.getD i 0)]):Ctr Tryz.prog 102 [.d (.sl full 1 4 F)] [] (.d (.bool (l.all facB))) [] []:=
 (sFactors l (by omega)).arg ⟨VLe.sl hl.symm (fun _=>rfl) (by simp) hF,trivial⟩
theorem sVersion (v:Vs) (hv:ShortV v):Ctr Tryz.prog 58 [vV v] [] (.d (.bool (rightV v))) [] []:=by
 have hh:=@headV_iff v
 have c1:=sFactors4 (full:=true) (l:=[v.b0,v.b1,v.b2,v.b3]) (F:=litRow 1 [.int .i64 v.b0,.int .i64 v.b1,.int .i64 v.b2,.int .i64 v.b3,slB v.age,slK .i64 v.zn,slK .i64 v.pr,.int .i64 v.mn]) rfl (by intro i hi;rcases i with _|_|_|_|i<;>first|rfl|omega)
 have cb:=sBands v.age hv.age
 have h1:=hv.age
 have h2:=hv.zn
 have h3:=hv.pr
 simp only [slB,slK] at c1 cb
 refine ctr_pure Tryz.func58 ok58 rfl cc58 cr58 Tryz.ntmps58 (by simp) rfl rfl ?_;intro c hP hfn;simp only [kc58,vV,cV,slB,slK,vcd,↓vcp,seval]
 repeat' first|((first|refine tp hP (by first|exact c1|exact sFactors v.zn hv.zn|exact sFactors v.pr hv.pr|exact cb) ?_|refine tg hP (fun _=>by first|exact c1|exact sFactors v.zn hv.zn|exact sFactors v.pr hv.pr|exact cb) ?_|refine tv hP rfl (by first|exact c1|exact sFactors v.zn hv.zn|exact sFactors v.pr hv.pr|exact cb) ?_);try simp only [vcd,↓vcp,seval])|refine And.intro (fun h=>?_) (fun h=>?_)|refine aO ?_|(refine tA rfl rfl rfl rfl ?_;try simp only [vcd,↓vcp,seval])|refine aT ?_|fail
 ·have hb:headV v=false:=by rw [←Bool.not_eq_true,hh];simp only [Bool.or_eq_true,decide_eq_true_eq] at h;omega
  exact RetK.pure (by simp only [rs58,rsb,vcd,↓vcp,seval]) (by (simp only [rs58,rsb,enb,vcd,↓vcp,seval])<;>(first|(rw [rightV,hb];rfl)))
 ·rename_i h0
  have hb:headV v=false:=by rw [←Bool.not_eq_true,hh];simp only [Bool.or_eq_true,bne_iff_ne,ne_eq,decide_eq_true_eq] at h;omega
  exact RetK.pure (by simp only [rs58,rsb,vcd,↓vcp,seval]) (by (simp only [rs58,rsb,enb,vcd,↓vcp,seval])<;>(first|(rw [rightV,hb];rfl)))
 ·rename_i h0
  have hb:headV v=true:=by
   rw [hh]
   simp only [Bool.or_eq_false_iff,bne_eq_false_iff_eq,decide_eq_false_iff_not] at h0 h
   omega
  exact RetK.pure (by simp only [rs58,rsb,vcd,↓vcp,seval]) (by (simp only [rs58,rsb,enb,vcd,↓vcp,seval])<;>(first|(rw [rightV,hb];simp [Bool.and_assoc])))
end Go.Proofs.YtanppabbmffokaaGreat
end
section
namespace Go.Proofs.YtanppabbmffokaaGreat
open Go.Bx
set_option maxRecDepth 10000
def goQ:Int→List Int→Int×Int
 |m,[]=>(m,0)
 |m,f::r=>if (bpR m f).2=0 then goQ (bpR m f).1 r else (0,(bpR m f).2)
theorem bpR_fst (a b:Int):0≤(bpR a b).1∧(bpR a b).1≤4000000000000000000:=by
 unfold bpR ofR
 generalize (if upE (a.toNat*b.toNat / (10000:Int).toNat) (a.toNat*b.toNat % (10000:Int).toNat) (10000:Int).toNat=true then 1 else 0)=u
 generalize a.toNat*b.toNat / (10000:Int).toNat=q
 (repeat' split)<;>first
  |(simp;done)
  |(constructor<;>simp only<;>omega)
def baseR (v:Vs) (k:Int):Int:=if k=0 then v.b0 else if k=1 then v.b1 else if k=2 then v.b2 else v.b3
def facsR (v:Vs) (r:Rk) (c:Cv):List Int:=[baseR v r.kd,bandR v.age r.ag,v.zn.getD r.zo.toNat 0,v.pr.getD c.pe.toNat 0,c.sh]
def mayQ (v:Vs) (r:Rk) (c:Cv):Bool:=rightV v&&rightR r&&rightC c
def oneR (v:Vs) (r:Rk) (c:Cv):Int×Int:=
 if mayQ v r c=false then (0,1) else if (v.zn.length:Int)≤r.zo then (0,7)
 else if (goQ r.va (facsR v r c)).2=0 then (max (goQ r.va (facsR v r c)).1 v.mn,0) else (0,(goQ r.va (facsR v r c)).2)
theorem rightC_weak {c:Cv} (h:rightC c=true):0≤c.pe∧c.pe<8∧1≤c.sh∧c.sh≤10000:=by
 simp only [rightC,Bool.and_eq_true,decide_eq_true_eq] at h
 omega
theorem bandR_le {l:List (Int×Int)} {last:Int} (h:bandsR last l=true) (a:Int):0≤bandR l a∧bandR l a≤100000:=by
 induction l generalizing last with
 |nil=>simp [bandR]
 |cons b r ih =>
  simp only [bandsR,Bool.and_eq_true,decide_eq_true_eq] at h
  simp only [bandR]
  split
  ·exact ih h.2
  ·omega
structure FacsOk (v:Vs) (r:Rk) (c:Cv):Prop where
 head:headV v=true
 kd:0≤r.kd∧r.kd<4
 va:1≤r.va∧r.va≤1000000000000000
 zo:0≤r.zo∧r.zo<100
 pe:0≤c.pe∧c.pe<8
 mn:0≤v.mn∧v.mn≤1000000000000000
 pr:v.pr.length=8
 all:∀ x,x∈facsR v r c→0≤x∧x≤100000
theorem getD_all {l:List Int} (h:l.all facB=true) (n:Nat):0≤l.getD n 0∧l.getD n 0≤100000:=by
 by_cases hn:n<l.length
 ·have:=List.all_eq_true.1 h (l.getD n 0) (by rw [List.getD_eq_getElem?_getD,List.getElem?_eq_getElem hn];exact List.getElem_mem hn)
  exact facB_iff.1 this
 ·rw [List.getD_eq_getElem?_getD,List.getElem?_eq_none (by omega)];simp
theorem facs_ok {v:Vs} {r:Rk} {c:Cv} (h:mayQ v r c=true):FacsOk v r c:=by
 simp only [mayQ,rightV,Bool.and_eq_true,List.all_cons,List.all_nil,Bool.and_true] at h
 obtain ⟨⟨⟨h1,⟨⟨⟨g0,g1,g2,g3⟩,h3⟩,h4⟩,h5⟩,h6⟩,h7⟩:=h
 rw [facB_iff] at g0 g1 g2 g3
 have k1:=headV_iff.1 h1
 have k6:=rightR_iff.1 h6
 have k7:=rightC_weak h7
 simp only [bandsL,Bool.and_eq_true] at h5
 refine ⟨h1,by omega,by omega,by omega,by omega,by omega,by omega,fun x hx=>?_⟩
 simp only [facsR,List.mem_cons,List.not_mem_nil,or_false] at hx
 rcases hx with rfl|rfl|rfl|rfl|rfl
 ·unfold baseR;split;· omega
  split;· omega
  split<;>omega
 ·exact bandR_le h5.1 _
 ·exact getD_all h3 _
 ·exact getD_all h4 _
 ·omega
end Go.Proofs.YtanppabbmffokaaGreat
end
section
namespace Go.Proofs.YtanppabbmffokaaGreat
open Go.Bx
set_option maxRecDepth 10000
theorem base_nth {v:Vs} {k:Int} (h:0≤k∧k<4) (a b c d:V) (x:V):nth [x,.d (.int .i64 v.b0),.d (.int .i64 v.b1),.d (.int .i64 v.b2),.d (.int .i64 v.b3),a,b,c,d] (1+k.toNat)=.d (.int .i64 (baseR v k)):=by
 have:k=0∨k=1∨k=2∨k=3:=by omega
 rcases this with rfl|rfl|rfl|rfl<;>rfl
theorem facs_nth {v:Vs} {r:Rk} {c:Cv} {k:Nat} (h:k<5):nth [.d (.int .i64 (baseR v r.kd)),.d (.int .i64 (bandR v.age r.ag)),.d (.int .i64 (v.zn.getD r.zo.toNat 0)),.d (.int .i64 (v.pr.getD c.pe.toNat 0)),.d (.int .i64 c.sh)] k=.d (.int .i64 ((facsR v r c).getD k 0)):=by
 have:k=0∨k=1∨k=2∨k=3∨k=4:=by omega
 rcases this with rfl|rfl|rfl|rfl|rfl<;>rfl
theorem oneR_bad {v:Vs} {r:Rk} {c:Cv} (h:mayQ v r c=false):oneR v r c=(0,1):=by rw [oneR,if_pos h]
theorem oneR_none {v:Vs} {r:Rk} {c:Cv} (h:mayQ v r c=true) (h2:(v.zn.length:Int)≤r.zo):oneR v r c=(0,7):=by rw [oneR,if_neg (by rw [h];simp),if_pos h2]
theorem oneR_go {v:Vs} {r:Rk} {c:Cv} (h:mayQ v r c=true) (h2:¬ (v.zn.length:Int)≤r.zo) :
  oneR v r c=if (goQ r.va (facsR v r c)).2=0 then (max (goQ r.va (facsR v r c)).1 v.mn,0) else (0,(goQ r.va (facsR v r c)).2):=by rw [oneR,if_neg (by rw [h];simp),if_neg h2]
set_option maxHeartbeats 2000000 in
theorem sOne (v:Vs) (r:Rk) (w:Cv) (hv:ShortV v):Ctr Tryz.prog 114 [vV v,vR r,vC w] [] (.tup [.d (.int .i64 (oneR v r w).1),.d (.int .i64 (oneR v r w).2)]) [] []:=by
 have c1:=sVersion v hv
 have c2:=sRisk r
 have c3:=sCover w
 have c4:=sBand v.age r.ag hv.age
 have hm2:mayQ v r w=(rightV v&&rightR r&&rightC w):=rfl
 have hz2:=hv.zn
 have hp2:=hv.pr
 simp only [vV,cV,vR,cR,vC,cC,slB,slK] at c1 c2 c3 c4
 generalize rightV v=q1 at c1 hm2
 generalize rightR r=q2 at c2 hm2
 generalize rightC w=q3 at c3 hm2
 refine ctr_pure Tryz.func114 ok114 rfl cc114 cr114 Tryz.ntmps114 (by simp) rfl rfl ?_;intro c hP hfn;simp only [kc114,vV,cV,vR,cR,vC,cC,slB,slK,vcd,↓vcp,seval]
 refine vcC.scope0 ?_
 simp only [vcd,↓vcp,seval]
 repeat' first|((first|refine tp hP (by first|exact c1|exact c2|exact c3) ?_|refine tg hP (fun _=>by first|exact c1|exact c2|exact c3) ?_|refine tv hP rfl (by first|exact c1|exact c2|exact c3) ?_);try simp only [vcd,↓vcp,seval])|refine And.intro (fun h=>?_) (fun h=>?_)|refine aO ?_|(refine tA rfl rfl rfl rfl ?_;try simp only [vcd,↓vcp,seval])|refine aT ?_|fail
 ·have hm:mayQ v r w=false:=by rw [hm2];cases q1<;>cases q2<;>cases q3<;>simp_all
  (refine RetK.pure (by simp only [rs114,rsb,vcd,↓vcp,seval]) (VLe.tups ?_);simp only [rs114,rsb,vcd,↓vcp,seval])
  rw [oneR_bad hm];exact ⟨VLe.refl _,VLe.refl _,trivial⟩
 ·rename_i h0
  have hm:mayQ v r w=true:=by rw [hm2];cases q1<;>cases q2<;>cases q3<;>simp_all
  (refine RetK.pure (by simp only [rs114,rsb,vcd,↓vcp,seval]) (VLe.tups ?_);simp only [rs114,rsb,vcd,↓vcp,seval])
  rw [oneR_none hm (of_decide_eq_true h)];exact ⟨VLe.refl _,VLe.refl _,trivial⟩
 rename_i h0
 have hm:mayQ v r w=true:=by rw [hm2];cases q1<;>cases q2<;>cases q3<;>simp_all
 clear h0
 have hf:=facs_ok hm
 obtain ⟨f1,f2,f3,f4,f5,f6,f7,f8⟩:=hf
 have hbn:=base_nth (v:=v) f2 (.d (slB v.age)) (.d (slK .i64 v.zn)) (.d (slK .i64 v.pr)) (.d (.int .i64 v.mn)) (.d (.int .i64 v.fr))
 simp only [slB,slK] at hbn
 have hz:¬ (v.zn.length:Int)≤r.zo:=of_decide_eq_false h
 have he:=oneR_go hm hz
 have hpr:(v.pr.length:Int)=8:=by omega
 clear h
 simp only [hbn]
 repeat' first|((first|refine tp hP (by exact c4) ?_|refine tg hP (fun _=>by exact c4) ?_|refine tv hP rfl (by exact c4) ?_);try simp only [hbn,vcd,↓vcp,seval])|refine And.intro (fun h=>?_) (fun h=>?_)|refine aO ?_|(refine tA rfl rfl rfl rfl ?_;try simp only [hbn,vcd,↓vcp,seval])|refine aT ?_|fail
 refine vcC.loop (X:=Nat×Int) (fun x=>⟨[(3,.own 3 0),(8,.d (.int .i64 x.2)),(9,.d (.int .i64 0)),(59,.ag [.d (.int .i64 (baseR v r.kd)),.d (.int .i64 (bandR v.age r.ag)),.d (.int .i64 (v.zn.getD r.zo.toNat 0)),.d (.int .i64 (v.pr.getD w.pe.toNat 0)),.d (.int .i64 w.sh)]),(60,.d (.int .i64 x.1))],[(3,.fix (cV v))],[3]⟩)
  (fun x=>x.1≤5∧0≤x.2∧x.2≤4000000000000000000∧goQ r.va (facsR v r w)=goQ x.2 ((facsR v r w).drop x.1)) (fun x=>5-x.1) (0,r.va) ⟨by omega,by simp only;omega,by simp only;omega,rfl⟩ (Wk.of [] hfn rfl (by simp only [cV,slB,slK,enb,vcd,↓vcp,seval]) (by simp only [cV,slB,slK,enb,vcd,↓vcp,seval])) ?_
 rintro ⟨k,m⟩ ⟨hk,hm0,hm1,hgo⟩
 simp only at hk hm0 hm1 hgo
 simp only [cV,slB,slK,vcd,↓vcp,seval]
 refine ⟨fun h1=>?_,fun h1=>?_⟩
 ·have hlt:k<5:=by have:=of_decide_eq_true h1;omega
  have hn:=facs_nth (v:=v) (r:=r) (c:=w) hlt
  obtain ⟨x,hd,hg,hmem,-⟩:=drop_at (l:=facsR v r w) (show k<(facsR v r w).length from hlt)
  have hx:=f8 x hmem
  have c5:=sBp m x (by omega) (by omega)
  have hb:=bpR_fst m x
  rw [hd,goQ] at hgo
  simp only [hn,hg,vcd,↓vcp,seval]
  repeat' first|((first|refine tp hP (by exact c5) ?_|refine tg hP (fun _=>by exact c5) ?_|refine tv hP rfl (by exact c5) ?_);try simp only [vcd,↓vcp,seval])|refine And.intro (fun h=>?_) (fun h=>?_)|refine aO ?_|(refine tA rfl rfl rfl rfl ?_;try simp only [vcd,↓vcp,seval])|refine aT ?_|fail
  ·have h':¬ (bpR m x).2=0:=by simpa using h
   rw [if_neg h'] at hgo
   rw [hgo,if_neg h'] at he
   (refine RetK.pure (by simp only [rs114,rsb,vcd,↓vcp,seval]) (VLe.tups ?_);simp only [rs114,rsb,vcd,↓vcp,seval])
   rw [he];exact ⟨VLe.refl _,VLe.refl _,trivial⟩
  ·rename_i g;rw [g] at h;cases h
  ·have h':(bpR m x).2=0:=by simpa using h
   rw [if_pos h'] at hgo
   rw [h']
   exact lopK.on (k+1,(bpR m x).1) ⟨hlt,hb.1,hb.2,hgo⟩ (by simp only;omega) (Wk.of [] hfn rfl (by (simp only [cV,slB,slK,enb,vcd,↓vcp,seval])<;>(first|exact wS (by omega)|(rw [List.length_append];exact wS (by omega))|assumption)) (by simp only [cV,slB,slK,enb,vcd,↓vcp,seval]))
 ·have hk5:k=5:=by have:=of_decide_eq_false h1;omega
  rw [hk5,show (facsR v r w).drop 5=[] from rfl,goQ] at hgo
  rw [hgo,if_pos rfl] at he
  repeat' first|refine And.intro (fun h=>?_) (fun h=>?_)|refine aO ?_|(refine tA rfl rfl rfl rfl ?_;try simp only [vcd,↓vcp,seval])|refine aT ?_|fail
  all_goals try (exact absurd h (by decide))
  (refine RetK.pure (by simp only [rs114,rsb,vcd,↓vcp,seval]) (VLe.tups ?_);simp only [rs114,rsb,vcd,↓vcp,seval])
  rw [he];exact ⟨VLe.refl _,VLe.refl _,trivial⟩
end Go.Proofs.YtanppabbmffokaaGreat
end
section
namespace Go.Proofs.YtanppabbmffokaaGreat
open Go.Bx
set_option maxRecDepth 10000
def slC (l:List Cv):D:=.sl false 5 l.length (fun i=>[.int .i64 (l.getD i default).pe,.int .i64 (l.getD i default).li,.int .i64 (l.getD i default).ag,.int .i64 (l.getD i default).de,.int .i64 (l.getD i default).sh])
def errQ (v:Vs) (r:Rk):List Cv→Int
 |[]=>0
 |c::l=>if (oneR v r c).2=0 then errQ v r l else (oneR v r c).2
def msQ (v:Vs) (r:Rk) (l:List Cv):List Int:=l.map fun c=>(oneR v r c).1
def yearR (v:Vs) (r:Rk) (l:List Cv):Int×Int:=
 if errQ v r l≠0 then (0,errQ v r l) else if 4000000000000000000<(msQ v r l).sum then (0,5) else ((msQ v r l).sum,0)
theorem goQ_fst {l:List Int}:∀ {m:Int},0≤m→m≤4000000000000000000→0≤(goQ m l).1∧(goQ m l).1≤4000000000000000000:=by
 induction l with
 |nil=>intro m h1 h2;exact ⟨h1,h2⟩
 |cons f r ih =>
  intro m h1 h2
  rw [goQ]
  split
  ·exact ih (bpR_fst m f).1 (bpR_fst m f).2
  ·simp
theorem oneR_fst (v:Vs) (r:Rk) (c:Cv):0≤(oneR v r c).1∧(oneR v r c).1≤4000000000000000000:=by
 unfold oneR
 split
 ·simp
 ·rename_i h
  have hf:=facs_ok (v:=v) (r:=r) (c:=c) (by simpa using h)
  have h1:=hf.va
  have h2:=hf.mn
  split
  ·simp
  ·split
   ·have:=goQ_fst (l:=facsR v r c) (m:=r.va) (by omega) (by omega)
    constructor<;>simp only<;>omega
   ·simp
theorem sumQ_nonneg:∀ {l:List Int},(∀ x,x∈l→0≤x)→0≤l.sum
 |[],_=>by simp
 |a::t,h=>by
  have h1:=h a (by simp)
  have h2:=sumQ_nonneg (l:=t) (fun x hx=>h x (by simp [hx]))
  simp only [List.sum_cons];omega
theorem msQ_pos (v:Vs) (r:Rk) (l:List Cv):∀ x,x∈msQ v r l→0≤x∧x≤4000000000000000000:=by
 intro x hx
 obtain ⟨c,-,rfl⟩:=List.mem_map.1 hx
 exact oneR_fst v r c
theorem msQ_snoc (v:Vs) (r:Rk) {l:List Cv} {k:Nat} {c:Cv} (h:l[k]?=some c):msQ v r (l.take (k+1))=msQ v r (l.take k)++[(oneR v r c).1]:=by
 rw [List.take_add_one,h];simp [msQ]
theorem sAdder:Ctr Tryz.prog 113 [] [] (.fn (.func 155) [] [.own 1 0]) [(1,.fix [.d (.int .i64 0)])] [1]:=by
 refine ctr_own Tryz.func113 ok113 rfl cc113 cr113 Tryz.ntmps113 (by simp) rfl ?_
 intro c hP hfn
 simp only [kc113,namesL,V.names,ownNames,vcd,↓vcp,seval]
 repeat' first|refine And.intro (fun h=>?_) (fun h=>?_)|refine aO ?_|(refine tA rfl rfl rfl rfl ?_;try simp only [vcd,↓vcp,seval])|refine aT ?_|fail
 exact RetK.mk _ (Wk.refl _ _) (by simp only [rs113,rsb,vcd,↓vcp,seval]) (by simp only [rs113,rsb,enb,vcd,↓vcp,seval]) (by simp only [enb,vcd,↓vcp,seval])
def addR (s m:Int):Int×Bool:=if 4000000000000000000-s<m then (0,false) else (s+m,true)
theorem sAdd (s m:Int) (h1:0≤s) (h2:s≤4000000000000000000) (h3:0≤m) (h4:m≤4000000000000000000) :
  Ctr Tryz.prog 155 [.d (.int .i64 m),.own 1 0] [(1,.fix [.d (.int .i64 s)])] (.tup [.d (.int .i64 (addR s m).1),.d (.bool (addR s m).2)]) [(1,.fix [.d (.int .i64 (if (addR s m).2=true then s+m else s))])] []:=by
 refine ctr_own Tryz.func155 ok155 rfl cc155 cr155 Tryz.ntmps155 (by simp) rfl ?_
 intro c hP hfn
 have e1:IntKind.i64.wrap (4000000000000000000-s)=4000000000000000000-s:=wI (by omega)
 simp only [kc155,namesL,V.names,ownNames,e1,vcd,↓vcp,seval]
 repeat' first|refine And.intro (fun h=>?_) (fun h=>?_)|refine aO ?_|(refine tA rfl rfl rfl rfl ?_;try simp only [vcd,↓vcp,seval])|refine aT ?_|fail
 ·have e:addR s m=(0,false):=by rw [addR,if_pos (by have:=of_decide_eq_true h;omega)]
  rw [e]
  exact RetK.mk _ (Wk.refl _ _) (by simp only [rs155,rsb,vcd,↓vcp,seval]) (VLe.tups (by simp only [rs155,rsb,enb,vcd,↓vcp,seval])) (by simp only [enb,vcd,↓vcp,seval])
 ·have e:addR s m=(s+m,true):=by rw [addR,if_neg (by have:=of_decide_eq_false h;omega)]
  have e2:IntKind.i64.wrap (s+m)=s+m:=by have:=of_decide_eq_false h;exact wI (by omega)
  rw [e]
  simp only [e2]
  exact RetK.mk _ (Wk.refl _ _) (by simp only [rs155,rsb,vcd,↓vcp,seval]) (VLe.tups (by simp only [rs155,rsb,enb,vcd,↓vcp,seval])) (by simp only [enb,vcd,↓vcp,seval])
end Go.Proofs.YtanppabbmffokaaGreat
end
section
namespace Go.Proofs.YtanppabbmffokaaGreat
open Go.Bx
set_option maxRecDepth 10000
structure YrI (v:Vs) (r:Rk) (l:List Cv) (k:Nat) (acc s:Int) (b:Bool):Prop where
 le:k≤l.length
 er:errQ v r l=errQ v r (l.drop k)
 fit:b=true→acc=(msQ v r (l.take k)).sum∧s=acc∧acc≤4000000000000000000
 not:b=false→4000000000000000000<(msQ v r (l.take k)).sum
set_option maxHeartbeats 2000000 in
theorem sYear (v:Vs) (r:Rk) (l:List Cv) (hv:ShortV v) (hl:l.length≤9223372036854775807):Ctr Tryz.prog 67 [vV v,vR r,.d (slC l)] [] (.tup [.d (.int .i64 (yearR v r l).1),.d (.int .i64 (yearR v r l).2)]) [] []:=by
 have hy:yearR v r l=if errQ v r l≠0 then (0,errQ v r l) else if 4000000000000000000<(msQ v r l).sum then (0,5) else ((msQ v r l).sum,0):=rfl
 refine ctr_pure Tryz.func67 ok67 rfl cc67 cr67 Tryz.ntmps67 (by simp) rfl rfl ?_;intro c hP hfn;simp only [kc67,vV,cV,vR,cR,slC,slB,slK,vcd,↓vcp,seval]
 refine TR.call [] [(1,.fix [.d (.int .i64 0)])] _ [1] (by rw [hP];exact sAdder) trivial (by simp) (by simp [keysO]) (by simp) ?_
 simp only [vcd,↓vcp,seval]
 refine vcC.loop (X:=Nat×Int×Int×Bool) (fun x=>⟨[(3,.own 3 0),(4,.own 4 0),(8,.fn (.func 155) [] [.own 1 0]),(9,.d (.int .i64 x.2.2.1)),(10,.d (.bool x.2.2.2)),(16,.d (slC l)),(17,.d (.int .i64 l.length)),(18,.d (.int .i64 x.1))],
   [(1,.fix [.d (.int .i64 x.2.1)]),(3,.fix (cV v)),(4,.fix (cR r))],[1,3,4]⟩)
  (fun x=>YrI v r l x.1 x.2.1 x.2.2.1 x.2.2.2) (fun x=>l.length-x.1) (0,0,0,true) ⟨Nat.zero_le _,rfl,fun _=>(by simp [msQ]),fun h=>(by cases h)⟩
  (Wk.of [] hfn rfl (by simp only [slC,enb,vcd,↓vcp,seval]) (by simp only [cV,cR,slB,slK,enb,vcd,↓vcp,seval])) ?_
 rintro ⟨k,acc,s,b⟩ ⟨hk,he,hft,hfn2⟩
 simp only at hk he hft hfn2
 simp only [cV,cR,slB,slK,slC,vcd,↓vcp,seval]
 refine ⟨fun h1=>?_,fun h1=>?_⟩
 ·have hlt:k<l.length:=by have:=of_decide_eq_true h1;omega
  obtain ⟨x,hd,hg,hmem,hat⟩:=drop_at hlt
  have c1:=sOne v r x hv
  simp only [vV,cV,vR,cR,vC,cC,slB,slK] at c1
  rw [hd,errQ] at he
  have hsn:=msQ_snoc v r hat
  have hpos:=oneR_fst v r x
  simp only [hg,vcd,↓vcp,seval]
  repeat' first|((first|refine tp hP (by exact c1) ?_|refine tg hP (fun _=>by exact c1) ?_|refine tv hP rfl (by exact c1) ?_);try simp only [vcd,↓vcp,seval])|refine And.intro (fun h=>?_) (fun h=>?_)|refine aO ?_|(refine tA rfl rfl rfl rfl ?_;try simp only [vcd,↓vcp,seval])|refine aT ?_|fail
  ·have h':¬ (oneR v r x).2=0:=by simpa using h
   rw [if_neg h'] at he
   rw [if_pos (by rw [he];exact h'),he] at hy
   (refine RetK.pure (by simp only [rs67,rsb,vcd,↓vcp,seval]) (VLe.tups ?_);simp only [rs67,rsb,vcd,↓vcp,seval])
   rw [hy];exact ⟨VLe.refl _,VLe.refl _,trivial⟩
  ·rename_i h2
   have h':(oneR v r x).2=0:=by simpa using h2
   rw [if_pos h'] at he
   obtain ⟨g1,g2,g3⟩:=hft h
   have g0:0≤acc:=by rw [g1];exact sumQ_nonneg (fun y hy=>(msQ_pos v r _ y hy).1)
   have c2:=sAdd acc (oneR v r x).1 g0 g3 hpos.1 hpos.2
   refine TR.cv1 hP rfl c2 trivial (by repeat' first|exact trivial|(intro _;assumption)|apply And.intro) rfl ?_
   simp only [vcd,↓vcp,seval]
   have hs:(msQ v r (l.take (k+1))).sum=acc+(oneR v r x).1:=by rw [hsn,List.sum_append,g1];simp
   by_cases hov:4000000000000000000-acc<(oneR v r x).1
   ·have e:addR acc (oneR v r x).1=(0,false):=by rw [addR,if_pos hov]
    rw [e]
    exact lopK.on (k+1,acc,0,false) ⟨hlt,he,fun h=>(by cases h),fun _=>by simp only;omega⟩ (by simp only;omega) (Wk.of [] hfn rfl (by (simp only [slC,cV,cR,slB,slK,enb,vcd,↓vcp,seval])<;>(first|exact wS (by omega)|(rw [List.length_append];exact wS (by omega))|assumption)) (by simp only [cV,cR,slB,slK,enb,vcd,↓vcp,seval]))
   ·have e:addR acc (oneR v r x).1=(acc+(oneR v r x).1,true):=by rw [addR,if_neg hov]
    rw [e]
    exact lopK.on (k+1,acc+(oneR v r x).1,acc+(oneR v r x).1,true) ⟨hlt,he,fun _=>⟨by simp only;omega,rfl,by simp only;omega⟩,fun h=>by cases h⟩ (by simp only;omega) (Wk.of [] hfn rfl (by (simp only [slC,cV,cR,slB,slK,enb,vcd,↓vcp,seval])<;>(first|exact wS (by omega)|(rw [List.length_append];exact wS (by omega))|assumption)) (by simp only [cV,cR,slB,slK,enb,vcd,↓vcp,seval]))
  ·rename_i h2
   have h':(oneR v r x).2=0:=by simpa using h2
   rw [if_pos h'] at he
   have hs:=hfn2 h
   have h3:(msQ v r (l.take (k+1))).sum=(msQ v r (l.take k)).sum+(oneR v r x).1:=by rw [hsn,List.sum_append];simp
   exact lopK.on (k+1,acc,s,b) ⟨hlt,he,fun g=>(by rw [h] at g;cases g),fun _=>by simp only;omega⟩ (by simp only;omega) (Wk.of [] hfn rfl (by (simp only [slC,cV,cR,slB,slK,enb,vcd,↓vcp,seval])<;>(first|exact wS (by omega)|(rw [List.length_append];exact wS (by omega))|assumption)) (by simp only [cV,cR,slB,slK,enb,vcd,↓vcp,seval]))
 ·have hkl:k=l.length:=by have:=of_decide_eq_false h1;omega
  rw [hkl,List.drop_length,errQ] at he
  rw [hkl,List.take_length] at hft hfn2
  rw [he,if_neg (by simp)] at hy
  repeat' first|refine And.intro (fun h=>?_) (fun h=>?_)|refine aO ?_|(refine tA rfl rfl rfl rfl ?_;try simp only [vcd,↓vcp,seval])|refine aT ?_|fail
  ·have hb:b=false:=by simpa using h
   rw [if_pos (hfn2 hb)] at hy
   (refine RetK.pure (by simp only [rs67,rsb,vcd,↓vcp,seval]) (VLe.tups ?_);simp only [rs67,rsb,vcd,↓vcp,seval])
   rw [hy];exact ⟨VLe.refl _,VLe.refl _,trivial⟩
  ·have hb:b=true:=by simpa using h
   obtain ⟨g1,g2,g3⟩:=hft hb
   rw [if_neg (by omega),←g1] at hy
   (refine RetK.pure (by simp only [rs67,rsb,vcd,↓vcp,seval]) (VLe.tups ?_);simp only [rs67,rsb,vcd,↓vcp,seval])
   rw [hy,g2];exact ⟨VLe.refl _,VLe.refl _,trivial⟩
end Go.Proofs.YtanppabbmffokaaGreat
end
section
namespace Go.Proofs.YtanppabbmffokaaGreat
open Go.Bx
set_option maxRecDepth 10000
def upD (_ _ _:Nat):Bool:=false
theorem sDown1 (q r c:Nat) (_:r<c) (_:c<9223372036854775808):Ctr Tryz.prog 199 [.d (.int .u64 q),.d (.int .u64 r),.d (.int .u64 c)] [] (.d (.bool (upD q r c))) [] []:=by
 refine ctr_pure Tryz.func199 ok199 rfl cc199 cr199 Tryz.ntmps199 (by simp) rfl rfl ?_;intro c hP hfn;simp only [kc199,vcd,↓vcp,seval]
 exact RetK.pure (by simp only [rs199,rsb,vcd,↓vcp,seval]) (by simp only [rs199,rsb,enb,vcd,↓vcp,seval,upD])
theorem sDown0:Ctr Tryz.prog 175 [] [] (.ag [.fn (.func 199) [] []]) [] []:=by
 refine ctr_pure Tryz.func175 ok175 rfl cc175 cr175 Tryz.ntmps175 (by simp) rfl rfl ?_;intro c hP hfn;simp only [kc175,vcd,↓vcp,seval]
 exact RetK.pure (by simp only [rs175,rsb,vcd,↓vcp,seval]) (by simp only [rs175,rsb,enb,vcd,↓vcp,seval])
def downR (a b k:Int):Int×Int:=ofR upD a b k
theorem sDown (a b k:Int) (ha:a≤9223372036854775807) (hb:b≤9223372036854775807) (hc:k≤9223372036854775807) :
  Ctr Tryz.prog 137 [.d (.int .i64 a),.d (.int .i64 b),.d (.int .i64 k)] [] (.tup [.d (.int .i64 (downR a b k).1),.d (.int .i64 (downR a b k).2)]) [] []:=by
 refine ctr_pure Tryz.func137 ok137 rfl cc137 cr137 Tryz.ntmps137 (by simp) rfl rfl ?_;intro c hP hfn;simp only [kc137,vcd,↓vcp,seval]
 repeat' first|((first|refine tp hP (by first|exact sDown0|exact sOf 199 upD sDown1 a b k ha hb hc) ?_|refine tg hP (fun _=>by first|exact sDown0|exact sOf 199 upD sDown1 a b k ha hb hc) ?_|refine tv hP rfl (by first|exact sDown0|exact sOf 199 upD sDown1 a b k ha hb hc) ?_);try simp only [vcd,↓vcp,seval])|refine And.intro (fun h=>?_) (fun h=>?_)|refine aO ?_|(refine tA rfl rfl rfl rfl ?_;try simp only [vcd,↓vcp,seval])|refine aT ?_|fail
 (refine RetK.pure (by simp only [rs137,rsb,vcd,↓vcp,seval]) (VLe.tups ?_);simp only [rs137,rsb,vcd,↓vcp,seval])
 exact ⟨VLe.refl _,VLe.refl _,trivial⟩
def psums:Int→List Int→List Int
 |_,[]=>[]
 |n,p::r=>(n+p)::psums (n+p) r
def deal2 (m S:Int):Int→List Int→List Int
 |_,[]=>[]
 |d,s::r=>IntKind.i64.wrap ((downR m s S).1-d)::deal2 m S (downR m s S).1 r
def splitR (m:Int) (parts:List Int):List Int×Int:=
 if m<0∨2000<parts.length then ([],1)
 else if parts.any (fun p=>decide (p<0))=true then ([],1)
 else if 4000000000000000000<parts.sum∨4000000000000000000<m then ([],5)
 else if parts.sum=0 then ([],6)
 else (deal2 m parts.sum 0 (psums 0 parts),0)
theorem psums_len:∀ (l:List Int) (n:Int),(psums n l).length=l.length
 |[],_=>rfl
 |p::r,n=>by simp [psums,psums_len r]
theorem psums_snoc:∀ (l:List Int) (n x:Int),psums n (l++[x])=psums n l++[n+l.sum+x]
 |[],n,x=>by simp [psums]
 |p::r,n,x=>by simp [psums,psums_snoc r];omega
theorem psums_last {l:List Int} {n:Int} (h:0<l.length):(psums n l).getD (l.length-1) 0=n+l.sum:=by
 obtain ⟨r,x,rfl⟩:∃ r x,l=r++[x]:=by
  cases l with
  |nil=>simp at h
  |cons p r=>exact ⟨(p::r).dropLast,(p::r).getLast (by simp),(List.dropLast_concat_getLast (by simp)).symm⟩
 rw [psums_snoc]
 simp [psums_len]
 omega
def runR (s p:Int):(Int×Int)×Int:=
 if p<0 then ((0,1),s)
 else if IntKind.i64.wrap (s+p)>4000000000000000000∨IntKind.i64.wrap (s+p)<0 then ((0,5),4000000000000000001)
 else ((IntKind.i64.wrap (s+p),0),IntKind.i64.wrap (s+p))
theorem sRun1 (s p:Int):Ctr Tryz.prog 174 [.d (.int .i64 p),.own 1 0] [(1,.fix [.d (.int .i64 s)])] (.tup [.d (.int .i64 (runR s p).1.1),.d (.int .i64 (runR s p).1.2)]) [(1,.fix [.d (.int .i64 (runR s p).2)])] []:=by
 refine ctr_own Tryz.func174 ok174 rfl cc174 cr174 Tryz.ntmps174 (by simp) rfl ?_
 intro c hP hfn
 simp only [kc174,namesL,V.names,ownNames,vcd,↓vcp,seval]
 refine ⟨fun h=>?_,fun h=>⟨fun h2=>?_,fun h2=>?_⟩⟩
 ·have e:runR s p=((0,1),s):=by rw [runR,if_pos (of_decide_eq_true h)]
  rw [e]
  exact RetK.mk _ (Wk.refl _ _) (by simp only [rs174,rsb,vcd,↓vcp,seval]) (by simp only [rs174,rsb,enb,vcd,↓vcp,seval]) (by simp only [enb,vcd,↓vcp,seval])
 ·have h2':IntKind.i64.wrap (s+p)>4000000000000000000∨IntKind.i64.wrap (s+p)<0:=by simpa using h2
  have e:runR s p=((0,5),4000000000000000001):=by rw [runR,if_neg (of_decide_eq_false h),if_pos h2']
  rw [e]
  exact RetK.mk _ (Wk.refl _ _) (by simp only [rs174,rsb,vcd,↓vcp,seval]) (by simp only [rs174,rsb,enb,vcd,↓vcp,seval]) (by simp only [enb,vcd,↓vcp,seval])
 ·have h2':¬ (IntKind.i64.wrap (s+p)>4000000000000000000∨IntKind.i64.wrap (s+p)<0):=by simpa using h2
  have e:runR s p=((IntKind.i64.wrap (s+p),0),IntKind.i64.wrap (s+p)):=by rw [runR,if_neg (of_decide_eq_false h),if_neg h2']
  rw [e]
  exact RetK.mk _ (Wk.refl _ _) (by simp only [rs174,rsb,vcd,↓vcp,seval]) (by simp only [rs174,rsb,enb,vcd,↓vcp,seval]) (by simp only [enb,vcd,↓vcp,seval])
theorem sRun:Ctr Tryz.prog 136 [] [] (.fn (.func 174) [] [.own 1 0]) [(1,.fix [.d (.int .i64 0)])] [1]:=by
 refine ctr_own Tryz.func136 ok136 rfl cc136 cr136 Tryz.ntmps136 (by simp) rfl ?_
 intro c hP hfn
 simp only [kc136,namesL,V.names,ownNames,vcd,↓vcp,seval]
 exact RetK.mk _ (Wk.refl _ _) (by simp only [rs136,rsb,vcd,↓vcp,seval]) (by simp only [rs136,rsb,enb,vcd,↓vcp,seval]) (by simp only [enb,vcd,↓vcp,seval])
structure SpI (m:Int) (l:List Int) (k:Nat) (dn:List Int) (s:Int) (over:Bool):Prop where
 len:dn.length=k
 le:k≤l.length
 nn:∀ x,x∈l.take k→0≤x
 st:((l.take k).sum≤4000000000000000000∧s=(l.take k).sum∧dn=psums 0 (l.take k)∧over=decide (m>4000000000000000000))∨(4000000000000000000<(l.take k).sum∧s=4000000000000000001∧over=true)
theorem sum_nonneg:∀ {l:List Int},(∀ x,x∈l→0≤x)→0≤l.sum
 |[],_=>by simp
 |p::r,h=>by
  have:=h p (by simp)
  have ih:=sum_nonneg (l:=r) (fun x hx=>h x (by simp [hx]))
  simp only [List.sum_cons];omega
theorem spI_step {m:Int} {l:List Int} {k:Nat} {dn:List Int} {s:Int} {over:Bool} {x:Int} (h:SpI m l k dn s over) (hlt:k<l.length) (hat:l[k]?=some x) (hx:x≤9223372036854775807) :
  ((runR s x).1.2=1∧x<0)∨(0≤x∧(runR s x).1.2≠1∧SpI m l (k+1) (dn++[(runR s x).1.1]) (runR s x).2 (over || ((runR s x).1.2 == 5))):=by
 have ht:l.take (k+1)=l.take k++[x]:=by rw [List.take_add_one,hat];rfl
 by_cases hneg:x<0
 ·left;rw [runR,if_pos hneg];exact ⟨rfl,hneg⟩
 right
 have hs0:=sum_nonneg h.nn
 have hnn:∀ y,y∈l.take (k+1)→0≤y:=by
  intro y hy
  rw [ht] at hy
  rcases List.mem_append.1 hy with hy|hy
  ·exact h.nn y hy
  ·simp at hy;omega
 have hsum:(l.take (k+1)).sum=(l.take k).sum+x:=by rw [ht];simp
 rcases h.st with ⟨h1,h2,h3,h4⟩|⟨h1,h2,h3⟩
 ·by_cases hov:4000000000000000000<(l.take k).sum+x
  ·have hw:IntKind.i64.wrap (s+x)>4000000000000000000∨IntKind.i64.wrap (s+x)<0:=by rw [IntKind.wrap_i64];omega
   rw [runR,if_neg hneg,if_pos hw]
   exact ⟨by omega,by simp,⟨by simp [h.len],hlt,hnn,.inr ⟨by omega,rfl,by simp⟩⟩⟩
  ·have hw:IntKind.i64.wrap (s+x)=s+x:=wI (by omega)
   rw [runR,if_neg hneg,hw,if_neg (by omega)]
   refine ⟨by omega,by simp,⟨by simp [h.len],hlt,hnn,.inl ⟨by omega,by simp only;omega,?_,by simp [h4]⟩⟩⟩
   rw [ht,psums_snoc,h3,h2];simp
 ·have hw:IntKind.i64.wrap (s+x)>4000000000000000000∨IntKind.i64.wrap (s+x)<0:=by rw [IntKind.wrap_i64];omega
  rw [runR,if_neg hneg,if_pos hw]
  exact ⟨by omega,by simp,⟨by simp [h.len],hlt,hnn,.inr ⟨by omega,rfl,by simp⟩⟩⟩
theorem any_neg {l:List Int} {x:Int} (hx:x∈l) (h:x<0):l.any (fun p=>decide (p<0))=true:=by
 rw [List.any_eq_true];exact ⟨x,hx,by simpa using h⟩
theorem any_nonneg {l:List Int} (h:∀ x,x∈l→0≤x):¬ (l.any (fun p=>decide (p<0))=true):=by
 rw [List.any_eq_true];rintro ⟨x,hx,h2⟩;have:=h x hx;simp at h2;omega
theorem psums_le {l:List Int} (h:∀ x,x∈l→0≤x):∀ (n:Int),0≤n→∀ s,s∈psums n l→0≤s∧s≤n+l.sum:=by
 induction l with
 |nil=>intro n _ s hs;simp [psums] at hs
 |cons p r ih =>
  intro n hn s hs
  have hp:=h p (by simp)
  have hr:=sum_nonneg (l:=r) (fun x hx=>h x (by simp [hx]))
  simp only [psums,List.mem_cons] at hs
  simp only [List.sum_cons]
  rcases hs with rfl|hs
  ·omega
  ·have:=ih (fun x hx=>h x (by simp [hx])) (n+p) (by omega) s hs
   omega
theorem sSplit (m:Int) (l:List Int) (hm:m≤9223372036854775807) (hl:l.length≤9223372036854775807) (hx:∀ x,x∈l→x≤9223372036854775807) :
  Ctr Tryz.prog 90 [.d (.int .i64 m),.d (slK .i64 l)] [] (.tup [.d (slK .i64 (splitR m l).1),.d (.int .i64 (splitR m l).2)]) [] []:=by
 refine ctr_pure Tryz.func90 ok90 rfl cc90 cr90 Tryz.ntmps90 (by simp) rfl rfl ?_;intro c hP hfn;simp only [kc90,vcd,↓vcp,seval]
 refine ⟨fun h=>?_,fun h=>?_⟩
 ·have h':m<0∨2000<l.length:=by simp only [Bool.or_eq_true,decide_eq_true_eq] at h;omega
  (refine RetK.pure (by simp only [rs90,rsb,vcd,↓vcp,seval]) (VLe.tups ?_);simp only [rs90,rsb,vcd,↓vcp,seval])
  rw [splitR,if_pos h'];exact ⟨nilK,VLe.refl _,trivial⟩
 have h0:¬ (m<0∨2000<l.length):=by simp only [Bool.or_eq_false_iff,decide_eq_false_iff_not] at h;omega
 clear h
 refine TR.call [] [(1,.fix [.d (.int .i64 0)])] _ [1] (hP▸sRun) (by repeat' first|exact trivial|(intro _;assumption)|apply And.intro) (by simp) (by simp [keysO]) (by simp) ?_
 simp only [vcd,↓vcp,seval]
 repeat' first|refine And.intro (fun h=>?_) (fun h=>?_)|refine aO ?_|(refine tA rfl rfl rfl rfl ?_;try simp only [vcd,↓vcp,seval])|refine aT ?_|fail
 refine vcC.loop (X:=Nat×List Int×Int×Bool) (fun x=>⟨[(8,.osl 1000),(0,.d (.int .i64 m)),(6,.fn (.func 174) [] [.own 1 0]),(7,.d (.bool x.2.2.2)),(33,.d (slK .i64 l)),(34,.d (.int .i64 l.length)),(35,.d (.int .i64 x.1))],
    [(1000,.row 3 1 x.2.1.length (fun i=>[.int .i64 (x.2.1.getD i 0)])),(1,.fix [.d (.int .i64 x.2.2.1)])],[1000,1]⟩)
   (fun x=>SpI m l x.1 x.2.1 x.2.2.1 x.2.2.2) (fun x=>l.length-x.1) (0,[],0,decide (m>4000000000000000000)) ⟨rfl,Nat.zero_le _,by simp,.inl ⟨by simp,by simp,by simp [psums],rfl⟩⟩
   (Wk.snoc (k:=32) _ hfn rfl rfl rfl rfl (OLe.row rfl (fun i hi=>absurd hi (Nat.not_lt_zero i))) (by (simp only [enb,vcd,↓vcp,seval])<;>(first|exact wS (by omega)|(rw [List.length_append];exact wS (by omega))|assumption)) (by simp only [enb,vcd,↓vcp,seval]) (by simp) (by simp only [enb,vcd,↓vcp,seval]) (by simp only [enb,vcd,↓vcp,seval])) ?_
 rintro ⟨k,dn,s,over⟩ hk
 simp only at hk
 simp only [vcd,↓vcp,seval]
 refine ⟨fun h1=>?_,fun h1=>?_⟩
 ·have hlt:k<l.length:=by have:=of_decide_eq_true h1;omega
  obtain ⟨x,hd,hg,hmx,hat⟩:=drop_at hlt
  have hst:=spI_step hk hlt hat (hx x hmx)
  simp only [hg]
  repeat' first|refine And.intro (fun h=>?_) (fun h=>?_)|refine aO ?_|(refine tA rfl rfl rfl rfl ?_;try simp only [vcd,↓vcp,seval])|refine aT ?_|fail
  refine TR.cv1 hP rfl (sRun1 s x) trivial (by repeat' first|exact trivial|(intro _;assumption)|apply And.intro) (by simp only [vcd,↓vcp,seval]) ?_
  simp only [vcd,↓vcp,seval]
  have hdl:=hk.len
  repeat' first|refine And.intro (fun h=>?_) (fun h=>?_)|refine aO ?_|(refine tA rfl rfl rfl rfl ?_;try simp only [vcd,↓vcp,seval])|refine aT ?_|fail
  ·have he:(runR s x).1.2=1:=eq_of_beq h
   have hneg:x<0:=by rcases hst with h|h;exact h.2;exact absurd he h.2.1
   (refine RetK.pure (by simp only [rs90,rsb,vcd,↓vcp,seval]) (VLe.tups ?_);simp only [rs90,rsb,vcd,↓vcp,seval])
   rw [splitR,if_neg h0,if_pos (any_neg hmx hneg),he];exact ⟨nilK,VLe.refl _,trivial⟩
  ·have hne:(runR s x).1.2≠1:=by simpa using h
   have hst2:SpI m l (k+1) (dn++[(runR s x).1.1]) (runR s x).2 (over || ((runR s x).1.2 == 5)):=by
    rcases hst with h|h
    ·exact absurd h.1 hne
    ·exact h.2.2
   exact lopK.on (k+1,dn++[(runR s x).1.1],(runR s x).2,(over || ((runR s x).1.2 == 5))) hst2 (by simp only;omega) (Wk.snoc (k:=56) _ hfn rfl rfl rfl rfl (OLe.app1 (cells:=fun n=>[.int .i64 n]) (fun i hi=>by simp only [if_pos hi]) (by simp)) (by (simp only [enb,vcd,↓vcp,seval])<;>(first|exact wS (by omega)|(rw [List.length_append];exact wS (by omega))|assumption)) (by simp only [enb,vcd,↓vcp,seval]) (by simp) (by simp only [enb,vcd,↓vcp,seval]) (by simp only [enb,vcd,↓vcp,seval]))
 have hkl:k=l.length:=by have:=of_decide_eq_false h1;have:=hk.le;omega
 have hnn:=hk.nn
 have hst:=hk.st
 have hdl:=hk.len
 rw [hkl,List.take_length] at hnn hst
 rw [hkl] at hdl
 clear hk h1
 refine ⟨fun h2=>?_,fun h2=>?_⟩
 ·have h2':4000000000000000000<l.sum∨4000000000000000000<m:=by
   subst h2
   rcases hst with h|h
   ·have:=of_decide_eq_true h.2.2.2.symm;omega
   ·omega
  (refine RetK.pure (by simp only [rs90,rsb,vcd,↓vcp,seval]) (VLe.tups ?_);simp only [rs90,rsb,vcd,↓vcp,seval])
  rw [splitR,if_neg h0,if_neg (any_nonneg hnn),if_pos h2'];exact ⟨nilK,VLe.refl _,trivial⟩
 have hst:l.sum≤4000000000000000000∧dn=psums 0 l∧¬ (m>4000000000000000000):=by
  subst h2
  rcases hst with h|h
  ·exact ⟨h.1,h.2.2.1,of_decide_eq_false h.2.2.2.symm⟩
  ·cases h.2.2
 have h2':¬ (4000000000000000000<l.sum∨4000000000000000000<m):=by omega
 have hS0:=sum_nonneg hnn
 have hbase:splitR m l=if l.sum=0 then ([],6) else (deal2 m l.sum 0 (psums 0 l),0):=by
  rw [splitR,if_neg h0,if_neg (any_nonneg hnn),if_neg h2']
 have hlast:0<l.length→dn.getD (dn.length-1) 0=l.sum:=fun h=>by
  rw [hdl,hst.2.1,psums_last h];omega
 have e1:0<l.length→IntKind.i64.wrap ((dn.length:Int)-1)=((dn.length-1:Nat):Int):=fun h=>(wI (by omega)).trans (by omega)
 rcases Nat.eq_zero_or_pos l.length with hz|hpos
 ·have hd0:dn.length=0:=by omega
  refine ⟨fun h=>?_,fun h=>?_,fun h=>?_,fun h=>?_⟩
  ·exfalso;simp [hd0] at h
  ·exfalso;simp [hd0] at h
  ·have hl0:l=[]:=List.eq_nil_of_length_eq_zero hz
   (refine RetK.pure (by simp only [rs90,rsb,vcd,↓vcp,seval]) (VLe.tups ?_);simp only [rs90,rsb,vcd,↓vcp,seval])
   rw [hbase,if_pos (by rw [hl0];rfl)];exact ⟨nilK,VLe.refl _,trivial⟩
  ·exfalso;simp [hd0] at h
 simp only [e1 hpos,Int.toNat_natCast,hlast hpos]
 refine ⟨fun _=>⟨by omega,by omega⟩,fun _=>by omega,fun h=>?_,fun h=>?_⟩
 ·have h':l.sum=0:=by
   simp only [Bool.or_eq_true,beq_iff_eq] at h;omega
  (refine RetK.pure (by simp only [rs90,rsb,vcd,↓vcp,seval]) (VLe.tups ?_);simp only [rs90,rsb,vcd,↓vcp,seval])
  rw [hbase,if_pos h'];exact ⟨nilK,VLe.refl _,trivial⟩
 have hSn:¬ l.sum=0:=by
  simp only [Bool.or_eq_false_iff,beq_eq_false_iff_ne,ne_eq] at h;exact h.2
 clear h
 rw [if_neg hSn] at hbase
 repeat' first|refine And.intro (fun h=>?_) (fun h=>?_)|refine aO ?_|(refine tA rfl rfl rfl rfl ?_;try simp only [e1 hpos,Int.toNat_natCast,hlast hpos,vcd,↓vcp,seval])|refine aT ?_|fail
 refine vcC.loop (X:=List Int×Int) (fun x=>⟨[(0,.d (.int .i64 m)),(13,.d (.int .i64 l.sum)),(14,.osl 81),(15,.d (.int .i64 x.2)),(82,.osl 1000),(83,.d (.int .i64 dn.length)),(84,.d (.int .i64 x.1.length))],
    [(1000,.row 3 1 dn.length (fun i=>[.int .i64 (dn.getD i 0)])),(81,.row 3 1 dn.length (fun i=>[.int .i64 (x.1.getD i 0)]))],[1000,81]⟩)
   (fun x=>x.1.length≤dn.length∧deal2 m l.sum 0 dn=x.1++deal2 m l.sum x.2 (dn.drop x.1.length)) (fun x=>dn.length-x.1.length) ([],0) ⟨Nat.zero_le _,rfl⟩
   (Wk.of _ hfn rfl (by simp only [enb,vcd,↓vcp,seval]) (by simp only [enb,vcd,↓vcp,seval];exact OLe.row rfl fun i _=>by simp)) ?_
 rintro ⟨out,dealt⟩ ⟨hk,he⟩
 simp only at hk he
 simp only [vcd,↓vcp,seval]
 refine ⟨fun h1=>?_,fun h1=>?_⟩
 ·have hlt:out.length<dn.length:=by have:=of_decide_eq_true h1;omega
  obtain ⟨x,hd,hg,hmx,hat⟩:=drop_at hlt
  have hxb:=psums_le hnn 0 (by omega) x (by rw [←hst.2.1];exact hmx)
  rw [hd,deal2] at he
  simp only [hg]
  repeat' first|((first|refine tp hP (by exact sDown m x l.sum hm (by omega) (by omega)) ?_|refine tg hP (fun _=>by exact sDown m x l.sum hm (by omega) (by omega)) ?_|refine tv hP rfl (by exact sDown m x l.sum hm (by omega) (by omega)) ?_);try simp only [hg,vcd,↓vcp,seval])|refine And.intro (fun h=>?_) (fun h=>?_)|refine aO ?_|(refine tA rfl rfl rfl rfl ?_;try simp only [hg,vcd,↓vcp,seval])|refine aT ?_|fail
  exact lopK.on (out++[IntKind.i64.wrap ((downR m x l.sum).1-dealt)],(downR m x l.sum).1) ⟨by simp;omega,by rw [he];simp⟩ (by simp;omega) (Wk.of _ hfn rfl (by (simp only [enb,vcd,↓vcp,seval])<;>(first|exact wS (by omega)|(rw [List.length_append];exact wS (by omega))|assumption)) (by simp only [enb,vcd,↓vcp,seval];exact OLe.snoc))
 ·have hkl:out.length=dn.length:=by have:=of_decide_eq_false h1;omega
  rw [hkl,List.drop_length,deal2,List.append_nil] at he
  repeat' first|refine And.intro (fun h=>?_) (fun h=>?_)|refine aO ?_|(refine tA rfl rfl rfl rfl ?_;try simp only [vcd,↓vcp,seval])|refine aT ?_|fail
  refine RetK.mk _ (Wk.pub 81 rfl) (by simp only [rs90,rsb,vcd,↓vcp,seval]) ?_ trivial
  simp only [rs90,rsb,vcd,↓vcp,seval]
  rw [hbase,←hst.2.1,he]
  exact VLe.tups ⟨VLe.sl hkl.symm (fun _=>rfl) id fun i hi=>rfl,VLe.refl _,trivial⟩
end Go.Proofs.YtanppabbmffokaaGreat
end
