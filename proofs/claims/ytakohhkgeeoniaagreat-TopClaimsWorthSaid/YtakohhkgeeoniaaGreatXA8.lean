import Derived.Test.YtakohhkgeeoniaaGreatXA7
import Derived.Test.YtakohhkgeeoniaaGreatRows
import Derived.KernelRfl
set_option linter.unusedSimpArgs false
set_option linter.unusedVariables false
set_option maxHeartbeats 8000000
section
namespace Go.Proofs.YtakohhkgeeoniaaGreat
open Go.Bx
set_option maxRecDepth 10000
theorem Xv {g:Nat} {ds:List D} (l:List Int) (a b n:Nat) (h1:a+n≤b) (h2:b+n≤l.length) (hl:l.length≤4611686018427387904) :
  Aj Tryz.prog 187 [.osl 900,.d (.int .i64 (a:Int)),.d (.int .i64 (b:Int)),.d (.int .i64 (n:Int)),Bk g ds] [(900,A9 l)] (.tup []) [(900,A9 (Gb 0 l a b n))] []:=by
 refine qO Tryz.func187 ?_
 intro c hP hfn
 simp only [A5,V.names,A4,A9,Bk,A0,↓A3,seval]
 refine B4.loop (X:=Nat×List Int) (λx=>⟨[(0,.osl 900),(1,.d (.int .i64 (a:Int))),(2,.d (.int .i64 (b:Int))),(3,.d (.int .i64 (n:Int))),(10,.d (.int .i64 (x.1:Nat)))],[(900,A9 x.2)],[900]⟩)
  (λx=>x.1≤n∧x.2=Gb 0 l a b x.1) (λx=>n-x.1) (0,l) ⟨Nat.zero_le _,(S4 0 l a b).symm⟩ (Wk.of _ hfn rfl (by simp only [Bk,A7,A0,↓A3,seval]) (by simp only [A9,A7,A0,↓A3,seval])) ?_
 rintro ⟨k,r⟩ ⟨hk,hr⟩
 simp only at hk hr
 have hrl:r.length=l.length:=by rw [hr,Fv]
 by_cases hlt:k<n
 ·have d0:decide ((k:Int)<(n:Int))=true:=decide_eq_true (by omega)
  have w1:IntKind.i64.wrap ((a:Int)+(k:Int))=((a+k:Nat):Int):=(wI (by omega)).trans (by omega)
  have w2:IntKind.i64.wrap ((b:Int)+(k:Int))=((b+k:Nat):Int):=(wI (by omega)).trans (by omega)
  have w3:IntKind.i64.wrap ((k:Int)+1)=((k+1:Nat):Int):=wS (by omega)
  have b1:(0:Int)≤((a+k:Nat):Int)∧((a+k:Nat):Int)<(r.length:Int):=by omega
  have b2:(0:Int)≤((b+k:Nat):Int)∧((b+k:Nat):Int)<(r.length:Int):=by omega
  obtain ⟨u,gu⟩:∃ u,r.getD (a+k) 0=u:=⟨_,rfl⟩
  obtain ⟨v,gv⟩:∃ v,r.getD (b+k) 0=v:=⟨_,rfl⟩
  simp only [A9,d0,w1,w2,gu,gv,A0,↓A3,seval]
  repeat' first|refine ⟨λh=>?_,λh=>?_⟩|refine aX ?_|fail
  refine Al.on (k+1,Rx 0 r (a+k) (b+k)) ⟨by simp only;omega,?_⟩ (by simp only;omega) (Wk.of _ hfn rfl (by simp only [w3,A7,A0,↓A3,seval]) ?_)
  ·simp only [hr];exact S5 0 (by omega) (by omega)
  ·simp only [A9,A7,A0,↓A3,seval]
   exact Bf.swz (by omega) (by omega) gu gv rfl
 ·have d0:decide ((k:Int)<(n:Int))=false:=decide_eq_false (by omega)
  have hkn:k=n:=by omega
  subst hkn
  simp only [A9,d0,A0,↓A3,seval]
  repeat' first|refine ⟨λh=>?_,λh=>?_⟩|refine aX ?_|fail
  refine Et (Wk.refl _ _) ?_
  simp only [hr,A7,A0,↓A3,seval]
theorem ua {g:Nat} {ds:List D} (P U W S:List Int) (hu:0<U.length) (hw:0<W.length) (hl:P.length+U.length+W.length+S.length≤4611686018427387904) :
  Aj Tryz.prog 185 [.osl 900,.d (.int .i64 (P.length:Int)),.d (.int .i64 ((P.length+U.length:Nat):Int)),.d (.int .i64 ((P.length+U.length+W.length:Nat):Int)),Bk g ds] [(900,A9 (P++(U++(W++S))))] (.tup []) [(900,A9 (P++(W++(U++S))))] []:=by
 refine qO Tryz.func185 ?_
 intro c hP hfn
 have w1:IntKind.i64.wrap (((P.length+U.length:Nat):Int)-(P.length:Int))=((U.length:Nat):Int):=(wI (by omega)).trans (by omega)
 have w2:IntKind.i64.wrap (((P.length+U.length+W.length:Nat):Int)-((P.length+U.length:Nat):Int))=((W.length:Nat):Int):=(wI (by omega)).trans (by omega)
 simp only [A5,V.names,A4,A9,Bk,w1,w2,A0,↓A3,seval]
 refine B4.loop (X:=Nat×Nat×List Int) (λx=>⟨[(0,.osl 900),(2,.d (.int .i64 ((P.length+U.length:Nat):Int))),(4,Bk g ds),(10,.d (.int .i64 (x.1:Nat))),(11,.d (.int .i64 (x.2.1:Nat)))],[(900,A9 x.2.2)],[900]⟩)
  (λx=>∃ P' U' W' S',x.1=U'.length∧x.2.1=W'.length∧0<U'.length∧0<W'.length∧P'.length+U'.length=P.length+U.length∧P'.length+U'.length+W'.length+S'.length≤4611686018427387904∧x.2.2=P'++(U'++(W'++S'))∧P++(W++(U++S))=P'++(W'++(U'++S'))) (λx=>x.1+x.2.1) (U.length,W.length,P++(U++(W++S)))
  ⟨P,U,W,S,rfl,rfl,hu,hw,rfl,hl,rfl,rfl⟩ (Wk.of _ hfn rfl (by simp only [Bk,A7,A0,↓A3,seval]) (by simp only [A9,A7,A0,↓A3,seval])) ?_
 rintro ⟨i,j,r⟩ ⟨P',U',W',S',hi,hj,h1,h2,h3,h5,hr,h4⟩
 simp only at hi hj hr
 have hrl:r.length=P'.length+U'.length+W'.length+S'.length:=by rw [hr];simp only [List.length_append];omega
 have w3:IntKind.i64.wrap (((P.length+U.length:Nat):Int)-(i:Int))=((P'.length:Nat):Int):=(wI (by omega)).trans (by omega)
 by_cases hne:i=j
 ·have d0:((i:Int) != (j:Int))=false:=by rw [bne_eq_false_iff_eq];omega
  have cc:=Xv (g:=g) (ds:=ds) r P'.length (P.length+U.length) i (by omega) (by omega) (by omega)
  simp only [A9,Bk] at cc
  simp only [A9,Bk,d0,w3,A0,↓A3,seval]
  repeat' first|refine ⟨λh=>?_,λh=>?_⟩|refine aX ?_|fail
  refine tC [(900,A9 r)] [(900,A9 (Gb 0 r P'.length (P.length+U.length) i))] hP cc (B7 rfl) ?_
  simp only [A0,↓A3,seval]
  repeat' first|refine ⟨λh=>?_,λh=>?_⟩|refine aX ?_|fail
  refine Et (Wk.refl _ _) ?_
  have e:Gb 0 r P'.length (P.length+U.length) i=P++(W++(U++S)):=by
   rw [hr,h4,hi]
   have:=Hs 0 P' U' [] W' S' (by omega) (a:=P'.length) (b:=P.length+U.length) rfl (by simp;omega)
   simpa using this
  rw [e]
  simp only [A9,A7,A0,↓A3,seval]
 ·have d0:((i:Int) != (j:Int))=true:=by rw [bne_iff_ne];omega
  by_cases hgt:i>j
  ·have d1:decide ((i:Int)>(j:Int))=true:=decide_eq_true (by omega)
   have cc:=Xv (g:=g) (ds:=ds) r P'.length (P.length+U.length) j (by omega) (by omega) (by omega)
   have w4:IntKind.i64.wrap ((i:Int)-(j:Int))=((i-j:Nat):Int):=(wI (by omega)).trans (by omega)
   simp only [A9,Bk] at cc
   simp only [A9,Bk,d0,d1,w3,A0,↓A3,seval]
   repeat' first|refine ⟨λh=>?_,λh=>?_⟩|refine aX ?_|fail
   refine tC [(900,A9 r)] [(900,A9 (Gb 0 r P'.length (P.length+U.length) j))] hP cc (B7 rfl) ?_
   simp only [w4,A0,↓A3,seval]
   repeat' first|refine ⟨λh=>?_,λh=>?_⟩|refine aX ?_|fail
   have tk:∀ Z,U'.take j++(U'.drop j++Z)=U'++Z:=λZ=>by rw [←List.append_assoc,List.take_append_drop]
   have e:Gb 0 r P'.length (P.length+U.length) j=(P'++W')++(U'.drop j++(U'.take j++S')):=by
    rw [hr]
    have:=Hs 0 P' (U'.take j) (U'.drop j) W' S' (by rw [List.length_take];omega) (a:=P'.length) (b:=P.length+U.length) rfl (by rw [List.length_take,List.length_drop];omega)
    rw [List.length_take,Nat.min_eq_left (by omega)] at this
    simpa [tk] using this
   rw [e]
   refine Al.on (i-j,j,(P'++W')++(U'.drop j++(U'.take j++S'))) ⟨P'++W',U'.drop j,U'.take j,S',?_,?_,?_,?_,?_,?_,rfl,?_⟩ (by simp only;omega) (Wk.of _ hfn rfl (by simp only [Bk,w4,A7,A0,↓A3,seval]) (by simp only [A9,A7,A0,↓A3,seval]))
   ·rw [List.length_drop];simp only;omega
   ·rw [List.length_take];simp only;omega
   ·rw [List.length_drop];omega
   ·rw [List.length_take];omega
   ·rw [List.length_drop,List.length_append];omega
   ·rw [List.length_drop,List.length_append,List.length_take];omega
   ·rw [h4];simp [tk]
  ·have d1:decide ((i:Int)>(j:Int))=false:=decide_eq_false (by omega)
   have w5:IntKind.i64.wrap (((P.length+U.length:Nat):Int)+(j:Int))=((P.length+U.length+j:Nat):Int):=(wI (by omega)).trans (by omega)
   have w6:IntKind.i64.wrap (((P.length+U.length+j:Nat):Int)-(i:Int))=((P.length+U.length+j-i:Nat):Int):=(wI (by omega)).trans (by omega)
   have w4:IntKind.i64.wrap ((j:Int)-(i:Int))=((j-i:Nat):Int):=(wI (by omega)).trans (by omega)
   have cc:=Xv (g:=g) (ds:=ds) r P'.length (P.length+U.length+j-i) i (by omega) (by omega) (by omega)
   simp only [A9,Bk] at cc
   simp only [A9,Bk,d0,d1,w3,w5,w6,A0,↓A3,seval]
   repeat' first|refine ⟨λh=>?_,λh=>?_⟩|refine aX ?_|fail
   refine tC [(900,A9 r)] [(900,A9 (Gb 0 r P'.length (P.length+U.length+j-i) i))] hP cc (B7 rfl) ?_
   simp only [w4,A0,↓A3,seval]
   repeat' first|refine ⟨λh=>?_,λh=>?_⟩|refine aX ?_|fail
   have tk:∀ Z,W'.take (j-i)++(W'.drop (j-i)++Z)=W'++Z:=λZ=>by rw [←List.append_assoc,List.take_append_drop]
   have e:Gb 0 r P'.length (P.length+U.length+j-i) i=P'++(W'.drop (j-i)++(W'.take (j-i)++(U'++S'))):=by
    rw [hr,hi]
    have:=Hs 0 P' U' (W'.take (j-U'.length)) (W'.drop (j-U'.length)) S' (by rw [List.length_drop];omega) (a:=P'.length) (b:=P.length+U.length+j-U'.length) rfl (by rw [List.length_take];omega)
    rw [←hi] at this ⊢
    simpa [tk] using this
   rw [e]
   refine Al.on (i,j-i,P'++(W'.drop (j-i)++(W'.take (j-i)++(U'++S')))) ⟨P',W'.drop (j-i),W'.take (j-i),U'++S',?_,?_,?_,?_,?_,?_,rfl,?_⟩ (by simp only;omega) (Wk.of _ hfn rfl (by simp only [Bk,w4,A7,A0,↓A3,seval]) (by simp only [A9,A7,A0,↓A3,seval]))
   ·rw [List.length_drop];simp only;omega
   ·rw [List.length_take];simp only;omega
   ·rw [List.length_drop];omega
   ·rw [List.length_take];omega
   ·rw [List.length_drop];omega
   ·rw [List.length_drop,List.length_append,List.length_take];omega
   ·rw [h4];simp [tk]
theorem ez {i j:Nat} (h:i+j≤9223372036854775807):IntKind.i64.wrap ((IntKind.u64.wrap (IntKind.i64.wrap ((i:Int)+(j:Int)))).fdiv (2 ^ min 1 IntKind.u64.bits))=(((i+j) / 2:Nat):Int):=by
 have e1:IntKind.i64.wrap ((i:Int)+(j:Int))=((i+j:Nat):Int):=(wI (by omega)).trans (by omega)
 have e2:IntKind.u64.wrap ((i+j:Nat):Int)=((i+j:Nat):Int):=by
  rw [IntWalk.u64_in _ (by omega)]
 have e3:((i+j:Nat):Int).fdiv (2 ^ min 1 IntKind.u64.bits)=(((i+j) / 2:Nat):Int):=by
  have:(2:Int) ^ min 1 IntKind.u64.bits=2:=rfl
  rw [this,Int.fdiv_eq_ediv_of_nonneg _ (by omega)];omega
 rw [e1,e2,e3,wI (by omega)]
theorem ins_lo {lt:Int→Int→Bool} (w:bq lt) {x:Int} {B:List Int} (hB:Ge lt B) {j:Nat} (hj:j≤B.length) (h1:0<j→lt (B.getD (j-1) 0) x=true) (h2:j<B.length→lt (B.getD j 0) x=false):Bt lt [x] B=B.take j++x::B.drop j:=by
 have e1:=Fh 0 w (List.pairwise_singleton _ x) hB 0 j (Nat.zero_le _) hj (λ_ h=>by simpa using h1 h) (λh=>absurd h (Nat.lt_irrefl _))
 have hD:Ge lt (B.drop j):=List.Pairwise.sublist (List.drop_sublist j B) hB
 have e2:=Fh 0 w (List.pairwise_singleton _ x) hD 1 0 (by simp) (Nat.zero_le _) (λh=>absurd h (by simp)) (λ_ h=>by
  have h3:j<B.length:=by rw [List.length_drop] at h;omega
  simpa [List.getD_eq_getElem?_getD] using h2 h3)
 simp only [List.take_zero,List.drop_zero,Bu] at e1
 simp [C3,Bu] at e2
 rw [e1,e2]
theorem zm {lt:Int→Int→Bool} (w:bq lt) {x:Int} {A:List Int} (hA:Ge lt A) {i:Nat} (hi:i≤A.length) (h1:i<A.length→lt x (A.getD i 0)=true) (h2:0<i→lt x (A.getD (i-1) 0)=false):Bt lt A [x]=A.take i++x::A.drop i:=by
 have e1:=Fh 0 w hA (List.pairwise_singleton _ x) i 0 hi (Nat.zero_le _) (λ_ h=>absurd h (Nat.lt_irrefl _)) (λh _=>by simpa using h2 h)
 have hD:Ge lt (A.drop i):=List.Pairwise.sublist (List.drop_sublist i A) hA
 have e2:=Fh 0 w hD (List.pairwise_singleton _ x) 0 1 (Nat.zero_le _) (by simp) (λh _=>by
  have h3:i<A.length:=by rw [List.length_drop] at h;omega
  simpa [List.getD_eq_getElem?_getD] using h1 h3) (λh=>absurd h (Nat.lt_irrefl _))
 simp only [List.take_zero,List.drop_zero,C3] at e1
 simp [C3,Bu] at e2
 rw [e1,e2]
theorem sRot {g:Nat} {ds:List D} (P U W S:List Int) (a m b:Nat) (ha:a=P.length) (hm:m=a+U.length) (hb:b=m+W.length) (hu:0<U.length) (hw:0<W.length) (hl:b+S.length≤4611686018427387904) :
  Aj Tryz.prog 185 [.osl 900,.d (.int .i64 (a:Int)),.d (.int .i64 (m:Int)),.d (.int .i64 (b:Int)),Bk g ds] [(900,A9 (P++(U++(W++S))))] (.tup []) [(900,A9 (P++(W++(U++S))))] []:=by
 subst ha;subst hm;subst hb
 exact ua P U W S hu hw hl
def jy (g : Nat) (ds : List D) (cf : Int → Int → Int) (ok : Int → Prop) (N : Nat) : Prop := ∀ (P A B S : List Int) (a m b : Nat), a = P.length → m = a + A.length → b = m + B.length → A.length + B.length ≤ N → 0 < A.length → 0 < B.length → Ge (Bp cf) A → Ge (Bp cf) B → (∀ x, x ∈ A ++ B → ok x) → b + S.length ≤ 2305843009213693952 →
    Aj Tryz.prog 182 [.osl 900,.d (.int .i64 (a:Int)),.d (.int .i64 (m:Int)),.d (.int .i64 (b:Int)),Bk g ds] [(900,A9 (P++(A++(B++S))))] (.tup []) [(900,A9 (P++(Bt (Bp cf) A B++S)))] []
theorem sSymA {g:Nat} {ds:List D} {cf:Int→Int→Int} {ok:Int→Prop} (hc:U3 g ds cf ok) (P A B S:List Int) (a m b:Nat) (ha:a=P.length) (hm:m=a+A.length) (hb:b=m+B.length) (hA:0<A.length) (hB:0<B.length) (sA:Ge (Bp cf) A) (sB:Ge (Bp cf) B) (hok:∀ x,x∈A++B→ok x) (hl:b+S.length≤2305843009213693952) (hA1:A.length=1) :
  Aj Tryz.prog 182 [.osl 900,.d (.int .i64 (a:Int)),.d (.int .i64 (m:Int)),.d (.int .i64 (b:Int)),Bk g ds] [(900,A9 (P++(A++(B++S))))] (.tup []) [(900,A9 (P++(Bt (Bp cf) A B++S)))] []:=by
 refine qO Tryz.func182 ?_
 intro c hP hfn
 obtain ⟨r,hr⟩:∃ r,r=P++(A++(B++S)):=⟨_,rfl⟩
 have hrl:r.length=b+S.length:=by rw [hr];simp only [List.length_append];omega
 have gA:∀ k,k<A.length→r.getD (a+k) 0=A.getD k 0:=λk hk=>by
  rw [hr];simp only [D8];rw [if_neg (by omega),if_pos (by omega)];congr 1;omega
 have gB:∀ k,k<B.length→r.getD (m+k) 0=B.getD k 0:=λk hk=>by
  rw [hr];simp only [D8];rw [if_neg (by omega),if_neg (by omega),if_pos (by omega)];congr 1;omega
 have okA:∀ k,k<A.length→ok (A.getD k 0):=λk hk=>by
  obtain ⟨x,-,hx,hm,-⟩:=Ae hk;rw [hx];exact hok x (by simp [hm])
 have okB:∀ k,k<B.length→ok (B.getD k 0):=λk hk=>by
  obtain ⟨x,-,hx,hm,-⟩:=Ae hk;rw [hx];exact hok x (by simp [hm])
 rw [←hr]
 have wa:IntKind.i64.wrap ((m:Int)-(a:Int))=1:=(wI (by omega)).trans (by omega)
 simp only [A5,V.names,A4,A9,Bk,wa,A0,↓A3,seval]
 repeat' first|refine ⟨λh=>?_,λh=>?_⟩|refine aX ?_|fail
 refine B4.loop (X:=Nat×Nat) (λx=>⟨[(0,.osl 900),(1,.d (.int .i64 (a:Int))),(4,Bk g ds),(10,.d (.int .i64 (x.1:Nat))),(11,.d (.int .i64 (x.2:Nat)))],[(900,A9 r)],[900]⟩)
  (λx=>m≤x.1∧x.1≤x.2∧x.2≤b∧(m<x.1→Bp cf (B.getD (x.1-1-m) 0) (A.getD 0 0)=true)∧(x.2<b→Bp cf (B.getD (x.2-m) 0) (A.getD 0 0)=false)) (λx=>x.2-x.1) (m,b) ⟨Nat.le_refl _,by simp only;omega,Nat.le_refl _,λh=>absurd h (Nat.lt_irrefl _),λh=>absurd h (Nat.lt_irrefl _)⟩ (Wk.of _ hfn rfl (by simp only [Bk,A7,A0,↓A3,seval]) (by simp only [A9,A7,A0,↓A3,seval])) ?_
 rintro ⟨i,j⟩ ⟨h1,h2,h3,h4,h5⟩
 simp only at h1 h2 h3 h4 h5
 by_cases hij:i<j
 ·have d1:decide ((i:Int)<(j:Int))=true:=decide_eq_true (by omega)
  have wm:=ez (i:=i) (j:=j) (by omega)
  obtain ⟨q,hh⟩:∃ q,q=(i+j) / 2:=⟨_,rfl⟩
  have hb1:i≤q∧q<j:=by omega
  rw [←hh] at wm
  have g1:r.getD q 0=B.getD (q-m) 0:=by rw [←gB _ (by omega)];congr 1;omega
  have g2:r.getD a 0=A.getD 0 0:=by have:=gA 0 hA;simpa using this
  have cc:=hc.c _ _ (okB (q-m) (by omega)) (okA 0 hA)
  have bh:(0:Int)≤(q:Int)∧(q:Int)<(r.length:Int):=by omega
  have ba:(0:Int)≤(a:Int)∧(a:Int)<(r.length:Int):=by omega
  have w2:IntKind.i64.wrap ((q:Int)+1)=((q+1:Nat):Int):=wS (by omega)
  simp only [A9,Bk,d1,wm,g1,g2,A0,↓A3,seval]
  repeat' first|(refine tz hP cc ?_;try simp only [wm,g1,g2,A0,↓A3,seval])|refine ⟨λh=>?_,λh=>?_⟩|refine aX ?_|fail
  ·exact Al.on (q+1,j) ⟨by simp only;omega,by simp only;omega,h3,λ_=>by simpa [Bp] using h,h5⟩ (by simp only;omega) (Wk.of _ hfn rfl (by simp only [Bk,w2,A7,A0,↓A3,seval]) (by simp only [A9,A7,A0,↓A3,seval]))
  ·exact Al.on (i,q) ⟨h1,by simp only;omega,by simp only;omega,h4,λ_=>h⟩ (by simp only;omega) (Wk.of _ hfn rfl (by simp only [Bk,A7,A0,↓A3,seval]) (by simp only [A9,A7,A0,↓A3,seval]))
 ·have d1:decide ((i:Int)<(j:Int))=false:=decide_eq_false (by omega)
  have hij2:j=i:=by omega
  subst hij2
  obtain ⟨x,rfl⟩:∃ x,A=[x]:=by
   match A,hA1 with
   |[x],_=>exact ⟨x,rfl⟩
  have hml:m=a+1:=hm
  have hmr:=ins_lo hc.w (x:=x) sB (j:=j-m) (by omega) (λh=>by have:=h4 (by omega);rw [show j-m-1=j-1-m by omega];simpa using this) (λh=>by have:=h5 (by omega);simpa using this)
  have w3:IntKind.i64.wrap ((j:Int)-1)=((j-1:Nat):Int):=(wI (by omega)).trans (by omega)
  simp only [A9,Bk,d1,A0,↓A3,seval]
  repeat' first|refine ⟨λh=>?_,λh=>?_⟩|refine aX ?_|fail
  refine B4.loop (X:=Nat×List Int) (λx=>⟨[(0,.osl 900),(10,.d (.int .i64 (j:Nat))),(13,.d (.int .i64 (x.1:Nat)))],[(900,A9 x.2)],[900]⟩)
   (λy=>∃ t,y.1=a+t∧t≤j-m∧y.2=P++(B.take t++(x::(B.drop t++S)))) (λy=>j-y.1) (a,r) ⟨0,rfl,Nat.zero_le _,by simpa using hr⟩ (Wk.of _ hfn rfl (by simp only [Bk,A7,A0,↓A3,seval]) (by simp only [A9,A7,A0,↓A3,seval])) ?_
  rintro ⟨k,l⟩ ⟨t,hk,ht,hL⟩
  simp only at hk hL
  by_cases hlt:t<j-m
  ·have d2:decide ((k:Int)<((j-1:Nat):Int))=true:=decide_eq_true (by omega)
   have w4:IntKind.i64.wrap ((k:Int)+1)=((k+1:Nat):Int):=wS (by omega)
   obtain ⟨y,hd,-,-,he⟩:=Ae (l:=B) (k:=t) (by omega)
   have hL2:l=(P++B.take t)++x::y::(B.drop (t+1)++S):=by rw [hL,hd];simp
   have hll:l.length=P.length+t+1+1+(B.length-(t+1))+S.length:=by rw [hL2];simp only [List.length_append,List.length_cons,List.length_take,List.length_drop];omega
   have u1:l.getD k 0=x:=by rw [hL2];exact Kb (by simp only [List.length_append,List.length_take];omega)
   have u2:l.getD (k+1) 0=y:=by
    rw [hL2,show (P++B.take t)++x::y::(B.drop (t+1)++S)=(P++B.take t++[x])++y::(B.drop (t+1)++S) by simp]
    exact Kb (by simp only [List.length_append,List.length_take,List.length_singleton];omega)
   have b1:(0:Int)≤(k:Int)∧(k:Int)<(l.length:Int):=by omega
   have b2:(0:Int)≤((k+1:Nat):Int)∧((k+1:Nat):Int)<(l.length:Int):=by omega
   simp only [A9,w3,w4,d2,u1,u2,A0,↓A3,seval]
   repeat' first|refine ⟨λh=>?_,λh=>?_⟩|refine aX ?_|fail
   refine Al.on (k+1,Rx 0 l k (k+1)) ⟨t+1,by simp only;omega,hlt,?_⟩ (by simp only;omega) (Wk.of _ hfn rfl (by simp only [w4,A7,A0,↓A3,seval]) ?_)
   ·simp only [hL2]
    rw [Qf 0 (P++B.take t) x y _ (by simp only [List.length_append,List.length_take];omega) (by simp only [List.length_append,List.length_take];omega),List.take_add_one,he]
    simp
   ·simp only [A9,A7,A0,↓A3,seval]
    have:=Bf.swz (e:=3) (l:=l) (i:=k) (j:=k+1) (by omega) (by omega) u1 u2 rfl
    simp only [show ¬ k+1=k by omega,if_false] at this
    exact this
  ·have d2:decide ((k:Int)<((j-1:Nat):Int))=false:=decide_eq_false (by omega)
   have ht2:t=j-m:=by omega
   have hL2:l=P++(Bt (Bp cf) [x] B++S):=by rw [hL,hmr,ht2];simp
   simp only [A9,w3,d2,A0,↓A3,seval]
   repeat' first|refine ⟨λh=>?_,λh=>?_⟩|refine aX ?_|fail
   refine rK (Wk.refl _ _) ?_
   simp only [hL2,A7,A0,↓A3,seval]
theorem sSymB {g:Nat} {ds:List D} {cf:Int→Int→Int} {ok:Int→Prop} (hc:U3 g ds cf ok) (P A B S:List Int) (a m b:Nat) (ha:a=P.length) (hm:m=a+A.length) (hb:b=m+B.length) (hA:0<A.length) (hB:0<B.length) (sA:Ge (Bp cf) A) (sB:Ge (Bp cf) B) (hok:∀ x,x∈A++B→ok x) (hl:b+S.length≤2305843009213693952) (hA1:¬ A.length=1) (hB1:B.length=1) :
  Aj Tryz.prog 182 [.osl 900,.d (.int .i64 (a:Int)),.d (.int .i64 (m:Int)),.d (.int .i64 (b:Int)),Bk g ds] [(900,A9 (P++(A++(B++S))))] (.tup []) [(900,A9 (P++(Bt (Bp cf) A B++S)))] []:=by
 refine qO Tryz.func182 ?_
 intro c hP hfn
 obtain ⟨r,hr⟩:∃ r,r=P++(A++(B++S)):=⟨_,rfl⟩
 have hrl:r.length=b+S.length:=by rw [hr];simp only [List.length_append];omega
 have gA:∀ k,k<A.length→r.getD (a+k) 0=A.getD k 0:=λk hk=>by
  rw [hr];simp only [D8];rw [if_neg (by omega),if_pos (by omega)];congr 1;omega
 have gB:∀ k,k<B.length→r.getD (m+k) 0=B.getD k 0:=λk hk=>by
  rw [hr];simp only [D8];rw [if_neg (by omega),if_neg (by omega),if_pos (by omega)];congr 1;omega
 have okA:∀ k,k<A.length→ok (A.getD k 0):=λk hk=>by
  obtain ⟨x,-,hx,hm,-⟩:=Ae hk;rw [hx];exact hok x (by simp [hm])
 have okB:∀ k,k<B.length→ok (B.getD k 0):=λk hk=>by
  obtain ⟨x,-,hx,hm,-⟩:=Ae hk;rw [hx];exact hok x (by simp [hm])
 rw [←hr]
 have wa:(IntKind.i64.wrap ((m:Int)-(a:Int)) == 1)=false:=by rw [beq_eq_false_iff_ne,wI (by omega)];omega
 have wb:(IntKind.i64.wrap ((b:Int)-(m:Int)) == 1)=true:=by rw [beq_iff_eq,wI (by omega)];omega
 simp only [A5,V.names,A4,A9,Bk,wa,wb,A0,↓A3,seval]
 repeat' first|refine ⟨λh=>?_,λh=>?_⟩|refine aX ?_|fail
 refine B4.loop (X:=Nat×Nat) (λx=>⟨[(0,.osl 900),(2,.d (.int .i64 (m:Int))),(4,Bk g ds),(14,.d (.int .i64 (x.1:Nat))),(15,.d (.int .i64 (x.2:Nat)))],[(900,A9 r)],[900]⟩)
  (λx=>a≤x.1∧x.1≤x.2∧x.2≤m∧(a<x.1→Bp cf (B.getD 0 0) (A.getD (x.1-1-a) 0)=false)∧(x.2<m→Bp cf (B.getD 0 0) (A.getD (x.2-a) 0)=true)) (λx=>x.2-x.1) (a,m) ⟨Nat.le_refl _,by simp only;omega,Nat.le_refl _,λh=>absurd h (Nat.lt_irrefl _),λh=>absurd h (Nat.lt_irrefl _)⟩ (Wk.of _ hfn rfl (by simp only [Bk,A7,A0,↓A3,seval]) (by simp only [A9,A7,A0,↓A3,seval])) ?_
 rintro ⟨i,j⟩ ⟨h1,h2,h3,h4,h5⟩
 simp only at h1 h2 h3 h4 h5
 by_cases hij:i<j
 ·have d1:decide ((i:Int)<(j:Int))=true:=decide_eq_true (by omega)
  have wm:=ez (i:=i) (j:=j) (by omega)
  obtain ⟨q,hh⟩:∃ q,q=(i+j) / 2:=⟨_,rfl⟩
  have hb1:i≤q∧q<j:=by omega
  rw [←hh] at wm
  have g1:r.getD q 0=A.getD (q-a) 0:=by rw [←gA _ (by omega)];congr 1;omega
  have g2:r.getD m 0=B.getD 0 0:=by have:=gB 0 hB;simpa using this
  have cc:=hc.c _ _ (okB 0 hB) (okA (q-a) (by omega))
  have bh:(0:Int)≤(q:Int)∧(q:Int)<(r.length:Int):=by omega
  have ba:(0:Int)≤(m:Int)∧(m:Int)<(r.length:Int):=by omega
  have w2:IntKind.i64.wrap ((q:Int)+1)=((q+1:Nat):Int):=wS (by omega)
  simp only [A9,Bk,d1,wm,g1,g2,A0,↓A3,seval]
  repeat' first|(refine tz hP cc ?_;try simp only [wm,g1,g2,A0,↓A3,seval])|refine ⟨λh=>?_,λh=>?_⟩|refine aX ?_|fail
  ·exact Al.on (q+1,j) ⟨by simp only;omega,by simp only;omega,h3,λ_=>by simpa [Bp] using h,h5⟩ (by simp only;omega) (Wk.of _ hfn rfl (by simp only [Bk,w2,A7,A0,↓A3,seval]) (by simp only [A9,A7,A0,↓A3,seval]))
  ·exact Al.on (i,q) ⟨h1,by simp only;omega,by simp only;omega,h4,λ_=>by simpa [Bp] using h⟩ (by simp only;omega) (Wk.of _ hfn rfl (by simp only [Bk,A7,A0,↓A3,seval]) (by simp only [A9,A7,A0,↓A3,seval]))
 ·have d1:decide ((i:Int)<(j:Int))=false:=decide_eq_false (by omega)
  have hij2:j=i:=by omega
  subst hij2
  obtain ⟨x,rfl⟩:∃ x,B=[x]:=by
   match B,hB1 with
   |[x],_=>exact ⟨x,rfl⟩
  have hmr:=zm hc.w (x:=x) sA (i:=j-a) (by omega) (λh=>by have:=h5 (by omega);simpa using this) (λh=>by have:=h4 (by omega);rw [show j-a-1=j-1-a by omega];simpa using this)
  simp only [A9,Bk,d1,A0,↓A3,seval]
  repeat' first|refine ⟨λh=>?_,λh=>?_⟩|refine aX ?_|fail
  refine B4.loop (X:=Nat×List Int) (λx=>⟨[(0,.osl 900),(14,.d (.int .i64 (j:Nat))),(17,.d (.int .i64 (x.1:Nat)))],[(900,A9 x.2)],[900]⟩)
   (λy=>∃ t,y.1=a+t∧j-a≤t∧t≤A.length∧y.2=P++(A.take t++(x::(A.drop t++S)))) (λy=>y.1) (m,r) ⟨A.length,hm,by omega,Nat.le_refl _,by simpa using hr⟩ (Wk.of _ hfn rfl (by simp only [Bk,A7,A0,↓A3,seval]) (by simp only [A9,A7,A0,↓A3,seval])) ?_
  rintro ⟨k,l⟩ ⟨t,hk,ht,htA,hL⟩
  simp only at hk hL
  by_cases hlt:j-a<t
  ·have d2:decide ((k:Int)>(j:Int))=true:=decide_eq_true (by omega)
   have w4:IntKind.i64.wrap ((k:Int)-1)=((k-1:Nat):Int):=(wI (by omega)).trans (by omega)
   obtain ⟨t,rfl⟩:∃ t',t=t'+1:=⟨t-1,by omega⟩
   obtain ⟨y,hd,-,-,he⟩:=Ae (l:=A) (k:=t) (by omega)
   have hL2:l=(P++A.take t)++y::x::(A.drop (t+1)++S):=by rw [hL,List.take_add_one,he];simp
   have hll:l.length=P.length+t+1+1+(A.length-(t+1))+S.length:=by rw [hL2];simp only [List.length_append,List.length_cons,List.length_take,List.length_drop];omega
   have u2:l.getD (k-1) 0=y:=by rw [hL2];exact Kb (by simp only [List.length_append,List.length_take];omega)
   have u1:l.getD k 0=x:=by
    rw [hL2,show (P++A.take t)++y::x::(A.drop (t+1)++S)=(P++A.take t++[y])++x::(A.drop (t+1)++S) by simp]
    exact Kb (by simp only [List.length_append,List.length_take,List.length_singleton];omega)
   have b1:(0:Int)≤(k:Int)∧(k:Int)<(l.length:Int):=by omega
   have b2:(0:Int)≤((k-1:Nat):Int)∧((k-1:Nat):Int)<(l.length:Int):=by omega
   simp only [A9,w4,d2,u1,u2,A0,↓A3,seval]
   repeat' first|refine ⟨λh=>?_,λh=>?_⟩|refine aX ?_|fail
   refine Al.on (k-1,Rx 0 l k (k-1)) ⟨t,by simp only;omega,by omega,by omega,?_⟩ (by simp only;omega) (Wk.of _ hfn rfl (by simp only [w4,A7,A0,↓A3,seval]) ?_)
   ·simp only [hL2]
    rw [Kk 0 (P++A.take t) y x _ (by simp only [List.length_append,List.length_take];omega) (by simp only [List.length_append,List.length_take];omega),hd]
    simp
   ·simp only [A9,A7,A0,↓A3,seval]
    exact Bf.swz (by omega) (by omega) u1 u2 rfl
  ·have d2:decide ((k:Int)>(j:Int))=false:=decide_eq_false (by omega)
   have ht2:t=j-a:=by omega
   have hL2:l=P++(Bt (Bp cf) A [x]++S):=by rw [hL,hmr,ht2];simp
   simp only [A9,d2,A0,↓A3,seval]
   repeat' first|refine ⟨λh=>?_,λh=>?_⟩|refine aX ?_|fail
   refine rK (Wk.refl _ _) ?_
   simp only [hL2,A7,A0,↓A3,seval]
theorem jo {g:Nat} {ds:List D} {cf:Int→Int→Int} {ok:Int→Prop} (hc:U3 g ds cf ok) {N:Nat} (ih:jy g ds cf ok N) (P A B S:List Int) (a m b:Nat) (ha:a=P.length) (hm:m=a+A.length) (hb:b=m+B.length) (hN:A.length+B.length≤N+1) (hA:0<A.length) (hB:0<B.length) (sA:Ge (Bp cf) A) (sB:Ge (Bp cf) B) (hok:∀ x,x∈A++B→ok x) (hl:b+S.length≤2305843009213693952) {e mid en:Nat} (c1:a≤e) (c2:e≤m) (c3:e≤mid) (c4:mid+m≤e+b) (c5:a<mid) (c6:mid<b) (hen:en+e=mid+m)
  (hcut:Bt (Bp cf) A B=Bt (Bp cf) (A.take (e-a)) (B.take (mid-e))++Bt (Bp cf) (A.drop (e-a)) (B.drop (mid-e))) :
  ∃ r1 r2,(e<m→m<en→Aj Tryz.prog 185 [.osl 900,.d (.int .i64 (e:Int)),.d (.int .i64 (m:Int)),.d (.int .i64 (en:Int)),Bk g ds] [(900,A9 (P++(A++(B++S))))] (.tup []) [(900,A9 r1)] []) ∧
  (¬ (e<m∧m<en)→P++(A++(B++S))=r1) ∧
  (a<e→e<mid→Aj Tryz.prog 182 [.osl 900,.d (.int .i64 (a:Int)),.d (.int .i64 (e:Int)),.d (.int .i64 (mid:Int)),Bk g ds] [(900,A9 r1)] (.tup []) [(900,A9 r2)] [])∧(¬ (a<e∧e<mid)→r1=r2) ∧
  (mid<en→en<b→Aj Tryz.prog 182 [.osl 900,.d (.int .i64 (mid:Int)),.d (.int .i64 (en:Int)),.d (.int .i64 (b:Int)),Bk g ds] [(900,A9 r2)] (.tup []) [(900,A9 (P++(Bt (Bp cf) A B++S)))] [])∧(¬ (mid<en∧en<b)→r2=P++(Bt (Bp cf) A B++S)):=by
 obtain ⟨A1,hA1'⟩:∃ q,q=A.take (e-a):=⟨_,rfl⟩
 obtain ⟨A2,hA2'⟩:∃ q,q=A.drop (e-a):=⟨_,rfl⟩
 obtain ⟨B1,hB1'⟩:∃ q,q=B.take (mid-e):=⟨_,rfl⟩
 obtain ⟨B2,hB2'⟩:∃ q,q=B.drop (mid-e):=⟨_,rfl⟩
 have lA1:A1.length=e-a:=by rw [hA1',List.length_take];omega
 have lA2:A2.length=m-e:=by rw [hA2',List.length_drop];omega
 have lB1:B1.length=en-m:=by rw [hB1',List.length_take];omega
 have lB2:B2.length=b-en:=by rw [hB2',List.length_drop];omega
 have eA:A1++A2=A:=by rw [hA1',hA2',List.take_append_drop]
 have eB:B1++B2=B:=by rw [hB1',hB2',List.take_append_drop]
 rw [←hA1',←hA2',←hB1',←hB2'] at hcut
 have sA1:Ge (Bp cf) A1:=by rw [hA1'];exact List.Pairwise.sublist (List.take_sublist _ A) sA
 have sA2:Ge (Bp cf) A2:=by rw [hA2'];exact List.Pairwise.sublist (List.drop_sublist _ A) sA
 have sB1:Ge (Bp cf) B1:=by rw [hB1'];exact List.Pairwise.sublist (List.take_sublist _ B) sB
 have sB2:Ge (Bp cf) B2:=by rw [hB2'];exact List.Pairwise.sublist (List.drop_sublist _ B) sB
 have ok1:∀ x,x∈A1++B1→ok x:=λx hx=>hok x (by rw [←eA,←eB];simp only [List.mem_append] at hx ⊢;rcases hx with h|h<;>simp [h])
 have ok2:∀ x,x∈A2++B2→ok x:=λx hx=>hok x (by rw [←eA,←eB];simp only [List.mem_append] at hx ⊢;rcases hx with h|h<;>simp [h])
 obtain ⟨r1,hr1⟩:∃ q,q=P++(A1++(B1++(A2++(B2++S)))):=⟨_,rfl⟩
 obtain ⟨r2,hr2⟩:∃ q,q=P++(Bt (Bp cf) A1 B1++(A2++(B2++S))):=⟨_,rfl⟩
 have hr0:P++(A++(B++S))=(P++A1)++(A2++(B1++(B2++S))):=by rw [←eA,←eB];simp
 have hr3:P++(Bt (Bp cf) A B++S)=(P++Bt (Bp cf) A1 B1)++(Bt (Bp cf) A2 B2++S):=by rw [hcut];simp
 have lM:(Bt (Bp cf) A1 B1).length=mid-a:=by rw [Yt];omega
 have f1:e<m→m<en→Aj Tryz.prog 185 [.osl 900,.d (.int .i64 (e:Int)),.d (.int .i64 (m:Int)),.d (.int .i64 (en:Int)),Bk g ds] [(900,A9 (P++(A++(B++S))))] (.tup []) [(900,A9 r1)] []:=λg1 g2=>by
  have:=sRot (g:=g) (ds:=ds) (P++A1) A2 B1 (B2++S) e m en (by rw [List.length_append];omega) (by omega) (by omega) (by omega) (by omega) (by rw [List.length_append];omega)
  rw [hr0,hr1]
  simpa using this
 have e1:¬ (e<m∧m<en)→P++(A++(B++S))=r1:=λg1=>by
  rw [hr0,hr1]
  by_cases g2:e<m
  ·have:B1=[]:=List.eq_nil_of_length_eq_zero (by omega)
   rw [this];simp
  ·have:A2=[]:=List.eq_nil_of_length_eq_zero (by omega)
   rw [this];simp
 have f2:a<e→e<mid→Aj Tryz.prog 182 [.osl 900,.d (.int .i64 (a:Int)),.d (.int .i64 (e:Int)),.d (.int .i64 (mid:Int)),Bk g ds] [(900,A9 r1)] (.tup []) [(900,A9 r2)] []:=λg1 g2=>by
  have:=ih P A1 B1 (A2++(B2++S)) a e mid ha (by omega) (by omega) (by omega) (by omega) (by omega) sA1 sB1 ok1 (by simp only [List.length_append];omega)
  rw [hr1,hr2];exact this
 have e2:¬ (a<e∧e<mid)→r1=r2:=λg1=>by
  rw [hr1,hr2]
  by_cases g2:a<e
  ·have:B1=[]:=List.eq_nil_of_length_eq_zero (by omega)
   rw [this,C3];simp
  ·have:A1=[]:=List.eq_nil_of_length_eq_zero (by omega)
   rw [this,Bu];simp
 have f3:mid<en→en<b→Aj Tryz.prog 182 [.osl 900,.d (.int .i64 (mid:Int)),.d (.int .i64 (en:Int)),.d (.int .i64 (b:Int)),Bk g ds] [(900,A9 r2)] (.tup []) [(900,A9 (P++(Bt (Bp cf) A B++S)))] []:=λg1 g2=>by
  have:=ih (P++Bt (Bp cf) A1 B1) A2 B2 S mid en b (by rw [List.length_append,lM];omega) (by omega) (by omega) (by omega) (by omega) (by omega) sA2 sB2 ok2 hl
  rw [hr2,hr3]
  simpa using this
 have e3:¬ (mid<en∧en<b)→r2=P++(Bt (Bp cf) A B++S):=λg1=>by
  rw [hr2,hr3]
  by_cases g2:mid<en
  ·have:B2=[]:=List.eq_nil_of_length_eq_zero (by omega)
   rw [this,C3];simp
  ·have:A2=[]:=List.eq_nil_of_length_eq_zero (by omega)
   rw [this,Bu];simp
 exact ⟨r1,r2,f1,e1,f2,e2,f3,e3⟩
theorem sSymM {g:Nat} {ds:List D} {cf:Int→Int→Int} {ok:Int→Prop} (hc:U3 g ds cf ok) {N:Nat} (ih:jy g ds cf ok N) (P A B S:List Int) (a m b:Nat) (ha:a=P.length) (hm:m=a+A.length) (hb:b=m+B.length) (hN:A.length+B.length≤N+1) (hA:0<A.length) (hB:0<B.length) (sA:Ge (Bp cf) A) (sB:Ge (Bp cf) B) (hok:∀ x,x∈A++B→ok x) (hl:b+S.length≤2305843009213693952) (hA1:¬ A.length=1) (hB1:¬ B.length=1) :
  Aj Tryz.prog 182 [.osl 900,.d (.int .i64 (a:Int)),.d (.int .i64 (m:Int)),.d (.int .i64 (b:Int)),Bk g ds] [(900,A9 (P++(A++(B++S))))] (.tup []) [(900,A9 (P++(Bt (Bp cf) A B++S)))] []:=by
 refine qO Tryz.func182 ?_
 intro c hP hfn
 obtain ⟨r,hr⟩:∃ r,r=P++(A++(B++S)):=⟨_,rfl⟩
 have hrl:r.length=b+S.length:=by rw [hr];simp only [List.length_append];omega
 have gA:∀ k,k<A.length→r.getD (a+k) 0=A.getD k 0:=λk hk=>by
  rw [hr];simp only [D8];rw [if_neg (by omega),if_pos (by omega)];congr 1;omega
 have gB:∀ k,k<B.length→r.getD (m+k) 0=B.getD k 0:=λk hk=>by
  rw [hr];simp only [D8];rw [if_neg (by omega),if_neg (by omega),if_pos (by omega)];congr 1;omega
 have okA:∀ k,k<A.length→ok (A.getD k 0):=λk hk=>by
  obtain ⟨x,-,hx,hm,-⟩:=Ae hk;rw [hx];exact hok x (by simp [hm])
 have okB:∀ k,k<B.length→ok (B.getD k 0):=λk hk=>by
  obtain ⟨x,-,hx,hm,-⟩:=Ae hk;rw [hx];exact hok x (by simp [hm])
 rw [←hr]
 have wa:(IntKind.i64.wrap ((m:Int)-(a:Int)) == 1)=false:=by rw [beq_eq_false_iff_ne,wI (by omega)];omega
 have wb:(IntKind.i64.wrap ((b:Int)-(m:Int)) == 1)=false:=by rw [beq_eq_false_iff_ne,wI (by omega)];omega
 obtain ⟨mid,hmid⟩:∃ q,q=(a+b) / 2:=⟨_,rfl⟩
 have wm:=ez (i:=a) (j:=b) (by omega)
 rw [←hmid] at wm
 have w1:IntKind.i64.wrap ((mid:Int)+(m:Int))=((mid+m:Nat):Int):=(wI (by omega)).trans (by omega)
 have w2:IntKind.i64.wrap (((mid+m:Nat):Int)-(b:Int))=((mid+m:Nat):Int)-(b:Int):=wI (by omega)
 have w3:IntKind.i64.wrap (((mid+m:Nat):Int)-1)=((mid+m-1:Nat):Int):=(wI (by omega)).trans (by omega)
 obtain ⟨lo,hlo⟩:∃ q,q=if m>mid then mid+m-b else a:=⟨_,rfl⟩
 obtain ⟨hi,hhi⟩:∃ q,q=if m>mid then mid else m:=⟨_,rfl⟩
 have hlo2:a≤lo∧mid+m-b≤lo∧(lo=a∨lo+b=mid+m)∧lo≤hi:=by split at hlo<;>split at hhi<;>omega
 have hhi2:hi≤m∧hi≤mid∧(hi=m∨hi=mid):=by split at hhi<;>omega
 obtain ⟨x1,x2,x3⟩:(m>mid→(((mid+m:Nat):Int)-(b:Int))=(lo:Int)∧(mid:Int)=(hi:Int))∧(¬ m>mid→(a:Int)=(lo:Int)∧(m:Int)=(hi:Int))∧True:=by
  refine ⟨λh=>?_,λh=>?_,trivial⟩
  ·rw [if_pos h] at hlo hhi;omega
  ·rw [if_neg h] at hlo hhi;omega
 have hcutW:∀ s:Nat,lo≤s→s≤hi→(lo<s→Bp cf (B.getD (mid-s) 0) (A.getD (s-1-a) 0)=false)→(s<hi→Bp cf (B.getD (mid-1-s) 0) (A.getD (s-a) 0)=true) →
   Bt (Bp cf) A B=Bt (Bp cf) (A.take (s-a)) (B.take (mid-s))++Bt (Bp cf) (A.drop (s-a)) (B.drop (mid-s)):=λs h1 h2 h3 h4 =>
  Fh 0 hc.w sA sB (s-a) (mid-s) (by omega) (by omega) (λg1 g2=>by rw [show mid-s-1=mid-1-s by omega];exact h4 (by omega)) (λg1 g2=>by rw [show s-a-1=s-1-a by omega];exact h3 (by omega))
 have hlo3:a≤lo∧mid+m≤lo+b∧lo≤hi∧hi≤m∧hi≤mid∧a<mid∧mid<b:=by omega
 clear hlo2 hhi2 hlo hhi hmid
 by_cases hgt:m>mid
 ·have d1:decide ((m:Int)>(mid:Int))=true:=decide_eq_true (by omega)
  obtain ⟨x1,x2⟩:=x1 hgt
  simp only [A5,V.names,A4,A9,Bk,wa,wb,wm,w1,w2,w3,d1,A0,↓A3,seval]
  repeat' first|refine ⟨λh=>?_,λh=>?_⟩|refine aX ?_|fail
  refine B4.loop (X:=Nat×Nat) (λx=>⟨[(0,.osl 900),(1,.d (.int .i64 (a:Int))),(2,.d (.int .i64 (m:Int))),(3,.d (.int .i64 (b:Int))),(4,Bk g ds),(18,.d (.int .i64 (mid:Int))),(19,.d (.int .i64 ((mid+m:Nat):Int))),(20,.d (.int .i64 (x.1:Nat))),(21,.d (.int .i64 (x.2:Nat))),(22,.d (.int .i64 ((mid+m-1:Nat):Int)))],[(900,A9 r)],[900]⟩)
   (λx=>lo≤x.1∧x.1≤x.2∧x.2≤hi∧(lo<x.1→Bp cf (B.getD (mid-x.1) 0) (A.getD (x.1-1-a) 0)=false)∧(x.2<hi→Bp cf (B.getD (mid-1-x.2) 0) (A.getD (x.2-a) 0)=true)) (λx=>x.2-x.1) (lo,hi) ⟨Nat.le_refl _,by simp only;omega,Nat.le_refl _,λh=>absurd h (Nat.lt_irrefl _),λh=>absurd h (Nat.lt_irrefl _)⟩ (Wk.of _ hfn rfl (by simp only [Bk,wm,w1,w2,w3,A7,A0,↓A3,seval]<;>omega) (by simp only [A9,A7,A0,↓A3,seval])) ?_
  rintro ⟨s,e⟩ ⟨h1,h2,h3,h4,h5⟩
  simp only at h1 h2 h3 h4 h5
  by_cases hij:s<e
  ·have d2:decide ((s:Int)<(e:Int))=true:=decide_eq_true (by omega)
   have wq:=ez (i:=s) (j:=e) (by omega)
   obtain ⟨q,hh⟩:∃ q,q=(s+e) / 2:=⟨_,rfl⟩
   have hb1:s≤q∧q<e:=by omega
   rw [←hh] at wq
   have wp:IntKind.i64.wrap (((mid+m-1:Nat):Int)-(q:Int))=((mid+m-1-q:Nat):Int):=(wI (by omega)).trans (by omega)
   have g1:r.getD (mid+m-1-q) 0=B.getD (mid-1-q) 0:=by rw [←gB _ (by omega)];congr 1;omega
   have g2:r.getD q 0=A.getD (q-a) 0:=by rw [←gA _ (by omega)];congr 1;omega
   have cc:=hc.c _ _ (okB (mid-1-q) (by omega)) (okA (q-a) (by omega))
   have bh:(0:Int)≤((mid+m-1-q:Nat):Int)∧((mid+m-1-q:Nat):Int)<(r.length:Int):=by omega
   have ba:(0:Int)≤(q:Int)∧(q:Int)<(r.length:Int):=by omega
   have w4:IntKind.i64.wrap ((q:Int)+1)=((q+1:Nat):Int):=wS (by omega)
   simp only [A9,Bk,d2,wq,wp,g1,g2,A0,↓A3,seval]
   repeat' first|(refine tz hP cc ?_;try simp only [wq,wp,g1,g2,A0,↓A3,seval])|refine ⟨λh=>?_,λh=>?_⟩|refine aX ?_|fail
   ·exact Al.on (q+1,e) ⟨by simp only;omega,by simp only;omega,h3,λ_=>by rw [show mid-(q+1)=mid-1-q by omega,show q+1-1-a=q-a by omega];simpa [Bp] using h,h5⟩ (by simp only;omega) (Wk.of _ hfn rfl (by simp only [Bk,w4,A7,A0,↓A3,seval]) (by simp only [A9,A7,A0,↓A3,seval]))
   ·exact Al.on (s,q) ⟨h1,by simp only;omega,by simp only;omega,h4,λ_=>by simpa [Bp] using h⟩ (by simp only;omega) (Wk.of _ hfn rfl (by simp only [Bk,A7,A0,↓A3,seval]) (by simp only [A9,A7,A0,↓A3,seval]))
  ·have d2:decide ((s:Int)<(e:Int))=false:=decide_eq_false (by omega)
   obtain rfl:e=s:=by omega
   have hcut:=hcutW e h1 (by omega) h4 h5
   obtain ⟨en,hen⟩:∃ q,q=mid+m-e:=⟨_,rfl⟩
   have w5:IntKind.i64.wrap (((mid+m:Nat):Int)-(e:Int))=(en:Int):=(wI (by omega)).trans (by omega)
   obtain ⟨r1,r2,f1,e1,f2,e2,f3,e3⟩:=jo hc ih P A B S a m b ha hm hb hN hA hB sA sB hok hl (e:=e) (mid:=mid) (en:=en) (by omega) (by omega) (by omega) (by omega) (by omega) (by omega) (by omega) hcut
   rw [←hr] at f1 e1
   clear hcut hcutW h1 h2 h3 h4 h5 hij wm w1 w2 w3 wa wb hen hlo3 hrl gA gB okA okB ih hN hA hB sA sB hok hl x1 x2 hr d1 hgt ha hm hb hA1 hB1
   by_cases k1:e<m∧m<en
   ·by_cases k2:a<e∧e<mid
    ·by_cases k3:mid<en∧en<b
     ·have x:(decide ((e:Int)<(m:Int))&&decide ((m:Int)<(en:Int)))=true:=by rw [Bool.and_eq_true,decide_eq_true_eq,decide_eq_true_eq];omega
      have y:(decide ((a:Int)<(e:Int))&&decide ((e:Int)<(mid:Int)))=true:=by rw [Bool.and_eq_true,decide_eq_true_eq,decide_eq_true_eq];omega
      have z:(decide ((mid:Int)<(en:Int))&&decide ((en:Int)<(b:Int)))=true:=by rw [Bool.and_eq_true,decide_eq_true_eq,decide_eq_true_eq];omega
      simp only [A9,Bk,d2,w5,x,y,z,A0,↓A3,seval]
      repeat' first|refine ⟨λh=>?_,λh=>?_⟩|refine aX ?_|fail
      repeat' first|refine ⟨λh=>?_,λh=>?_⟩|refine aX ?_|fail
      have cc:=f1 k1.1 k1.2
      simp only [A9,Bk] at cc
      refine tC [(900,A9 r)] [(900,A9 r1)] hP cc (B7 rfl) ?_
      clear cc
      simp only [A9,x,y,z,A0,↓A3,seval]
      repeat' first|refine ⟨λh=>?_,λh=>?_⟩|refine aX ?_|fail
      have cc:=f2 k2.1 k2.2
      simp only [A9,Bk] at cc
      refine tC [(900,A9 r1)] [(900,A9 r2)] hP cc (B7 rfl) ?_
      clear cc
      simp only [A9,x,y,z,A0,↓A3,seval]
      repeat' first|refine ⟨λh=>?_,λh=>?_⟩|refine aX ?_|fail
      have cc:=f3 k3.1 k3.2
      simp only [A9,Bk] at cc
      refine tC [(900,A9 r2)] [(900,A9 (P++(Bt (Bp cf) A B++S)))] hP cc (B7 rfl) ?_
      clear cc
      simp only [A9,x,y,z,A0,↓A3,seval]
      repeat' first|refine ⟨λh=>?_,λh=>?_⟩|refine aX ?_|fail
      refine Et (Wk.refl _ _) ?_
      simp only [A7,A0,↓A3,seval]
     ·have x:(decide ((e:Int)<(m:Int))&&decide ((m:Int)<(en:Int)))=true:=by rw [Bool.and_eq_true,decide_eq_true_eq,decide_eq_true_eq];omega
      have y:(decide ((a:Int)<(e:Int))&&decide ((e:Int)<(mid:Int)))=true:=by rw [Bool.and_eq_true,decide_eq_true_eq,decide_eq_true_eq];omega
      have z:(decide ((mid:Int)<(en:Int))&&decide ((en:Int)<(b:Int)))=false:=by rw [Bool.and_eq_false_iff,decide_eq_false_iff_not,decide_eq_false_iff_not];omega
      simp only [A9,Bk,d2,w5,x,y,z,A0,↓A3,seval]
      repeat' first|refine ⟨λh=>?_,λh=>?_⟩|refine aX ?_|fail
      repeat' first|refine ⟨λh=>?_,λh=>?_⟩|refine aX ?_|fail
      have cc:=f1 k1.1 k1.2
      simp only [A9,Bk] at cc
      refine tC [(900,A9 r)] [(900,A9 r1)] hP cc (B7 rfl) ?_
      clear cc
      simp only [A9,x,y,z,A0,↓A3,seval]
      repeat' first|refine ⟨λh=>?_,λh=>?_⟩|refine aX ?_|fail
      have cc:=f2 k2.1 k2.2
      simp only [A9,Bk] at cc
      refine tC [(900,A9 r1)] [(900,A9 r2)] hP cc (B7 rfl) ?_
      clear cc
      simp only [A9,x,y,z,A0,↓A3,seval]
      rw [e3 k3]
      repeat' first|refine ⟨λh=>?_,λh=>?_⟩|refine aX ?_|fail
      refine Et (Wk.refl _ _) ?_
      simp only [A7,A0,↓A3,seval]
    ·by_cases k3:mid<en∧en<b
     ·have x:(decide ((e:Int)<(m:Int))&&decide ((m:Int)<(en:Int)))=true:=by rw [Bool.and_eq_true,decide_eq_true_eq,decide_eq_true_eq];omega
      have y:(decide ((a:Int)<(e:Int))&&decide ((e:Int)<(mid:Int)))=false:=by rw [Bool.and_eq_false_iff,decide_eq_false_iff_not,decide_eq_false_iff_not];omega
      have z:(decide ((mid:Int)<(en:Int))&&decide ((en:Int)<(b:Int)))=true:=by rw [Bool.and_eq_true,decide_eq_true_eq,decide_eq_true_eq];omega
      simp only [A9,Bk,d2,w5,x,y,z,A0,↓A3,seval]
      repeat' first|refine ⟨λh=>?_,λh=>?_⟩|refine aX ?_|fail
      repeat' first|refine ⟨λh=>?_,λh=>?_⟩|refine aX ?_|fail
      have cc:=f1 k1.1 k1.2
      simp only [A9,Bk] at cc
      refine tC [(900,A9 r)] [(900,A9 r1)] hP cc (B7 rfl) ?_
      clear cc
      simp only [A9,x,y,z,A0,↓A3,seval]
      rw [e2 k2]
      repeat' first|refine ⟨λh=>?_,λh=>?_⟩|refine aX ?_|fail
      have cc:=f3 k3.1 k3.2
      simp only [A9,Bk] at cc
      refine tC [(900,A9 r2)] [(900,A9 (P++(Bt (Bp cf) A B++S)))] hP cc (B7 rfl) ?_
      clear cc
      simp only [A9,x,y,z,A0,↓A3,seval]
      repeat' first|refine ⟨λh=>?_,λh=>?_⟩|refine aX ?_|fail
      refine Et (Wk.refl _ _) ?_
      simp only [A7,A0,↓A3,seval]
     ·have x:(decide ((e:Int)<(m:Int))&&decide ((m:Int)<(en:Int)))=true:=by rw [Bool.and_eq_true,decide_eq_true_eq,decide_eq_true_eq];omega
      have y:(decide ((a:Int)<(e:Int))&&decide ((e:Int)<(mid:Int)))=false:=by rw [Bool.and_eq_false_iff,decide_eq_false_iff_not,decide_eq_false_iff_not];omega
      have z:(decide ((mid:Int)<(en:Int))&&decide ((en:Int)<(b:Int)))=false:=by rw [Bool.and_eq_false_iff,decide_eq_false_iff_not,decide_eq_false_iff_not];omega
      simp only [A9,Bk,d2,w5,x,y,z,A0,↓A3,seval]
      repeat' first|refine ⟨λh=>?_,λh=>?_⟩|refine aX ?_|fail
      repeat' first|refine ⟨λh=>?_,λh=>?_⟩|refine aX ?_|fail
      have cc:=f1 k1.1 k1.2
      simp only [A9,Bk] at cc
      refine tC [(900,A9 r)] [(900,A9 r1)] hP cc (B7 rfl) ?_
      clear cc
      simp only [A9,x,y,z,A0,↓A3,seval]
      rw [e2 k2]
      rw [e3 k3]
      repeat' first|refine ⟨λh=>?_,λh=>?_⟩|refine aX ?_|fail
      refine Et (Wk.refl _ _) ?_
      simp only [A7,A0,↓A3,seval]
   ·by_cases k2:a<e∧e<mid
    ·by_cases k3:mid<en∧en<b
     ·have x:(decide ((e:Int)<(m:Int))&&decide ((m:Int)<(en:Int)))=false:=by rw [Bool.and_eq_false_iff,decide_eq_false_iff_not,decide_eq_false_iff_not];omega
      have y:(decide ((a:Int)<(e:Int))&&decide ((e:Int)<(mid:Int)))=true:=by rw [Bool.and_eq_true,decide_eq_true_eq,decide_eq_true_eq];omega
      have z:(decide ((mid:Int)<(en:Int))&&decide ((en:Int)<(b:Int)))=true:=by rw [Bool.and_eq_true,decide_eq_true_eq,decide_eq_true_eq];omega
      simp only [A9,Bk,d2,w5,x,y,z,A0,↓A3,seval]
      repeat' first|refine ⟨λh=>?_,λh=>?_⟩|refine aX ?_|fail
      rw [e1 k1]
      repeat' first|refine ⟨λh=>?_,λh=>?_⟩|refine aX ?_|fail
      have cc:=f2 k2.1 k2.2
      simp only [A9,Bk] at cc
      refine tC [(900,A9 r1)] [(900,A9 r2)] hP cc (B7 rfl) ?_
      clear cc
      simp only [A9,x,y,z,A0,↓A3,seval]
      repeat' first|refine ⟨λh=>?_,λh=>?_⟩|refine aX ?_|fail
      have cc:=f3 k3.1 k3.2
      simp only [A9,Bk] at cc
      refine tC [(900,A9 r2)] [(900,A9 (P++(Bt (Bp cf) A B++S)))] hP cc (B7 rfl) ?_
      clear cc
      simp only [A9,x,y,z,A0,↓A3,seval]
      repeat' first|refine ⟨λh=>?_,λh=>?_⟩|refine aX ?_|fail
      refine Et (Wk.refl _ _) ?_
      simp only [A7,A0,↓A3,seval]
     ·have x:(decide ((e:Int)<(m:Int))&&decide ((m:Int)<(en:Int)))=false:=by rw [Bool.and_eq_false_iff,decide_eq_false_iff_not,decide_eq_false_iff_not];omega
      have y:(decide ((a:Int)<(e:Int))&&decide ((e:Int)<(mid:Int)))=true:=by rw [Bool.and_eq_true,decide_eq_true_eq,decide_eq_true_eq];omega
      have z:(decide ((mid:Int)<(en:Int))&&decide ((en:Int)<(b:Int)))=false:=by rw [Bool.and_eq_false_iff,decide_eq_false_iff_not,decide_eq_false_iff_not];omega
      simp only [A9,Bk,d2,w5,x,y,z,A0,↓A3,seval]
      repeat' first|refine ⟨λh=>?_,λh=>?_⟩|refine aX ?_|fail
      rw [e1 k1]
      repeat' first|refine ⟨λh=>?_,λh=>?_⟩|refine aX ?_|fail
      have cc:=f2 k2.1 k2.2
      simp only [A9,Bk] at cc
      refine tC [(900,A9 r1)] [(900,A9 r2)] hP cc (B7 rfl) ?_
      clear cc
      simp only [A9,x,y,z,A0,↓A3,seval]
      rw [e3 k3]
      repeat' first|refine ⟨λh=>?_,λh=>?_⟩|refine aX ?_|fail
      refine Et (Wk.refl _ _) ?_
      simp only [A7,A0,↓A3,seval]
    ·by_cases k3:mid<en∧en<b
     ·have x:(decide ((e:Int)<(m:Int))&&decide ((m:Int)<(en:Int)))=false:=by rw [Bool.and_eq_false_iff,decide_eq_false_iff_not,decide_eq_false_iff_not];omega
      have y:(decide ((a:Int)<(e:Int))&&decide ((e:Int)<(mid:Int)))=false:=by rw [Bool.and_eq_false_iff,decide_eq_false_iff_not,decide_eq_false_iff_not];omega
      have z:(decide ((mid:Int)<(en:Int))&&decide ((en:Int)<(b:Int)))=true:=by rw [Bool.and_eq_true,decide_eq_true_eq,decide_eq_true_eq];omega
      simp only [A9,Bk,d2,w5,x,y,z,A0,↓A3,seval]
      repeat' first|refine ⟨λh=>?_,λh=>?_⟩|refine aX ?_|fail
      rw [e1 k1]
      rw [e2 k2]
      repeat' first|refine ⟨λh=>?_,λh=>?_⟩|refine aX ?_|fail
      have cc:=f3 k3.1 k3.2
      simp only [A9,Bk] at cc
      refine tC [(900,A9 r2)] [(900,A9 (P++(Bt (Bp cf) A B++S)))] hP cc (B7 rfl) ?_
      clear cc
      simp only [A9,x,y,z,A0,↓A3,seval]
      repeat' first|refine ⟨λh=>?_,λh=>?_⟩|refine aX ?_|fail
      refine Et (Wk.refl _ _) ?_
      simp only [A7,A0,↓A3,seval]
     ·have x:(decide ((e:Int)<(m:Int))&&decide ((m:Int)<(en:Int)))=false:=by rw [Bool.and_eq_false_iff,decide_eq_false_iff_not,decide_eq_false_iff_not];omega
      have y:(decide ((a:Int)<(e:Int))&&decide ((e:Int)<(mid:Int)))=false:=by rw [Bool.and_eq_false_iff,decide_eq_false_iff_not,decide_eq_false_iff_not];omega
      have z:(decide ((mid:Int)<(en:Int))&&decide ((en:Int)<(b:Int)))=false:=by rw [Bool.and_eq_false_iff,decide_eq_false_iff_not,decide_eq_false_iff_not];omega
      simp only [A9,Bk,d2,w5,x,y,z,A0,↓A3,seval]
      repeat' first|refine ⟨λh=>?_,λh=>?_⟩|refine aX ?_|fail
      rw [e1 k1]
      rw [e2 k2]
      rw [e3 k3]
      repeat' first|refine ⟨λh=>?_,λh=>?_⟩|refine aX ?_|fail
      refine Et (Wk.refl _ _) ?_
      simp only [A7,A0,↓A3,seval]
 ·have d1:decide ((m:Int)>(mid:Int))=false:=decide_eq_false (by omega)
  obtain ⟨x1,x2⟩:=x2 hgt
  simp only [A5,V.names,A4,A9,Bk,wa,wb,wm,w1,w2,w3,d1,A0,↓A3,seval]
  repeat' first|refine ⟨λh=>?_,λh=>?_⟩|refine aX ?_|fail
  refine B4.loop (X:=Nat×Nat) (λx=>⟨[(0,.osl 900),(1,.d (.int .i64 (a:Int))),(2,.d (.int .i64 (m:Int))),(3,.d (.int .i64 (b:Int))),(4,Bk g ds),(18,.d (.int .i64 (mid:Int))),(19,.d (.int .i64 ((mid+m:Nat):Int))),(20,.d (.int .i64 (x.1:Nat))),(21,.d (.int .i64 (x.2:Nat))),(22,.d (.int .i64 ((mid+m-1:Nat):Int)))],[(900,A9 r)],[900]⟩)
   (λx=>lo≤x.1∧x.1≤x.2∧x.2≤hi∧(lo<x.1→Bp cf (B.getD (mid-x.1) 0) (A.getD (x.1-1-a) 0)=false)∧(x.2<hi→Bp cf (B.getD (mid-1-x.2) 0) (A.getD (x.2-a) 0)=true)) (λx=>x.2-x.1) (lo,hi) ⟨Nat.le_refl _,by simp only;omega,Nat.le_refl _,λh=>absurd h (Nat.lt_irrefl _),λh=>absurd h (Nat.lt_irrefl _)⟩ (Wk.of _ hfn rfl (by simp only [Bk,wm,w1,w2,w3,A7,A0,↓A3,seval]<;>omega) (by simp only [A9,A7,A0,↓A3,seval])) ?_
  rintro ⟨s,e⟩ ⟨h1,h2,h3,h4,h5⟩
  simp only at h1 h2 h3 h4 h5
  by_cases hij:s<e
  ·have d2:decide ((s:Int)<(e:Int))=true:=decide_eq_true (by omega)
   have wq:=ez (i:=s) (j:=e) (by omega)
   obtain ⟨q,hh⟩:∃ q,q=(s+e) / 2:=⟨_,rfl⟩
   have hb1:s≤q∧q<e:=by omega
   rw [←hh] at wq
   have wp:IntKind.i64.wrap (((mid+m-1:Nat):Int)-(q:Int))=((mid+m-1-q:Nat):Int):=(wI (by omega)).trans (by omega)
   have g1:r.getD (mid+m-1-q) 0=B.getD (mid-1-q) 0:=by rw [←gB _ (by omega)];congr 1;omega
   have g2:r.getD q 0=A.getD (q-a) 0:=by rw [←gA _ (by omega)];congr 1;omega
   have cc:=hc.c _ _ (okB (mid-1-q) (by omega)) (okA (q-a) (by omega))
   have bh:(0:Int)≤((mid+m-1-q:Nat):Int)∧((mid+m-1-q:Nat):Int)<(r.length:Int):=by omega
   have ba:(0:Int)≤(q:Int)∧(q:Int)<(r.length:Int):=by omega
   have w4:IntKind.i64.wrap ((q:Int)+1)=((q+1:Nat):Int):=wS (by omega)
   simp only [A9,Bk,d2,wq,wp,g1,g2,A0,↓A3,seval]
   repeat' first|(refine tz hP cc ?_;try simp only [wq,wp,g1,g2,A0,↓A3,seval])|refine ⟨λh=>?_,λh=>?_⟩|refine aX ?_|fail
   ·exact Al.on (q+1,e) ⟨by simp only;omega,by simp only;omega,h3,λ_=>by rw [show mid-(q+1)=mid-1-q by omega,show q+1-1-a=q-a by omega];simpa [Bp] using h,h5⟩ (by simp only;omega) (Wk.of _ hfn rfl (by simp only [Bk,w4,A7,A0,↓A3,seval]) (by simp only [A9,A7,A0,↓A3,seval]))
   ·exact Al.on (s,q) ⟨h1,by simp only;omega,by simp only;omega,h4,λ_=>by simpa [Bp] using h⟩ (by simp only;omega) (Wk.of _ hfn rfl (by simp only [Bk,A7,A0,↓A3,seval]) (by simp only [A9,A7,A0,↓A3,seval]))
  ·have d2:decide ((s:Int)<(e:Int))=false:=decide_eq_false (by omega)
   obtain rfl:e=s:=by omega
   have hcut:=hcutW e h1 (by omega) h4 h5
   obtain ⟨en,hen⟩:∃ q,q=mid+m-e:=⟨_,rfl⟩
   have w5:IntKind.i64.wrap (((mid+m:Nat):Int)-(e:Int))=(en:Int):=(wI (by omega)).trans (by omega)
   obtain ⟨r1,r2,f1,e1,f2,e2,f3,e3⟩:=jo hc ih P A B S a m b ha hm hb hN hA hB sA sB hok hl (e:=e) (mid:=mid) (en:=en) (by omega) (by omega) (by omega) (by omega) (by omega) (by omega) (by omega) hcut
   rw [←hr] at f1 e1
   clear hcut hcutW h1 h2 h3 h4 h5 hij wm w1 w2 w3 wa wb hen hlo3 hrl gA gB okA okB ih hN hA hB sA sB hok hl x1 x2 hr d1 hgt ha hm hb hA1 hB1
   by_cases k1:e<m∧m<en
   ·by_cases k2:a<e∧e<mid
    ·by_cases k3:mid<en∧en<b
     ·have x:(decide ((e:Int)<(m:Int))&&decide ((m:Int)<(en:Int)))=true:=by rw [Bool.and_eq_true,decide_eq_true_eq,decide_eq_true_eq];omega
      have y:(decide ((a:Int)<(e:Int))&&decide ((e:Int)<(mid:Int)))=true:=by rw [Bool.and_eq_true,decide_eq_true_eq,decide_eq_true_eq];omega
      have z:(decide ((mid:Int)<(en:Int))&&decide ((en:Int)<(b:Int)))=true:=by rw [Bool.and_eq_true,decide_eq_true_eq,decide_eq_true_eq];omega
      simp only [A9,Bk,d2,w5,x,y,z,A0,↓A3,seval]
      repeat' first|refine ⟨λh=>?_,λh=>?_⟩|refine aX ?_|fail
      repeat' first|refine ⟨λh=>?_,λh=>?_⟩|refine aX ?_|fail
      have cc:=f1 k1.1 k1.2
      simp only [A9,Bk] at cc
      refine tC [(900,A9 r)] [(900,A9 r1)] hP cc (B7 rfl) ?_
      clear cc
      simp only [A9,x,y,z,A0,↓A3,seval]
      repeat' first|refine ⟨λh=>?_,λh=>?_⟩|refine aX ?_|fail
      have cc:=f2 k2.1 k2.2
      simp only [A9,Bk] at cc
      refine tC [(900,A9 r1)] [(900,A9 r2)] hP cc (B7 rfl) ?_
      clear cc
      simp only [A9,x,y,z,A0,↓A3,seval]
      repeat' first|refine ⟨λh=>?_,λh=>?_⟩|refine aX ?_|fail
      have cc:=f3 k3.1 k3.2
      simp only [A9,Bk] at cc
      refine tC [(900,A9 r2)] [(900,A9 (P++(Bt (Bp cf) A B++S)))] hP cc (B7 rfl) ?_
      clear cc
      simp only [A9,x,y,z,A0,↓A3,seval]
      repeat' first|refine ⟨λh=>?_,λh=>?_⟩|refine aX ?_|fail
      refine Et (Wk.refl _ _) ?_
      simp only [A7,A0,↓A3,seval]
     ·have x:(decide ((e:Int)<(m:Int))&&decide ((m:Int)<(en:Int)))=true:=by rw [Bool.and_eq_true,decide_eq_true_eq,decide_eq_true_eq];omega
      have y:(decide ((a:Int)<(e:Int))&&decide ((e:Int)<(mid:Int)))=true:=by rw [Bool.and_eq_true,decide_eq_true_eq,decide_eq_true_eq];omega
      have z:(decide ((mid:Int)<(en:Int))&&decide ((en:Int)<(b:Int)))=false:=by rw [Bool.and_eq_false_iff,decide_eq_false_iff_not,decide_eq_false_iff_not];omega
      simp only [A9,Bk,d2,w5,x,y,z,A0,↓A3,seval]
      repeat' first|refine ⟨λh=>?_,λh=>?_⟩|refine aX ?_|fail
      repeat' first|refine ⟨λh=>?_,λh=>?_⟩|refine aX ?_|fail
      have cc:=f1 k1.1 k1.2
      simp only [A9,Bk] at cc
      refine tC [(900,A9 r)] [(900,A9 r1)] hP cc (B7 rfl) ?_
      clear cc
      simp only [A9,x,y,z,A0,↓A3,seval]
      repeat' first|refine ⟨λh=>?_,λh=>?_⟩|refine aX ?_|fail
      have cc:=f2 k2.1 k2.2
      simp only [A9,Bk] at cc
      refine tC [(900,A9 r1)] [(900,A9 r2)] hP cc (B7 rfl) ?_
      clear cc
      simp only [A9,x,y,z,A0,↓A3,seval]
      rw [e3 k3]
      repeat' first|refine ⟨λh=>?_,λh=>?_⟩|refine aX ?_|fail
      refine Et (Wk.refl _ _) ?_
      simp only [A7,A0,↓A3,seval]
    ·by_cases k3:mid<en∧en<b
     ·have x:(decide ((e:Int)<(m:Int))&&decide ((m:Int)<(en:Int)))=true:=by rw [Bool.and_eq_true,decide_eq_true_eq,decide_eq_true_eq];omega
      have y:(decide ((a:Int)<(e:Int))&&decide ((e:Int)<(mid:Int)))=false:=by rw [Bool.and_eq_false_iff,decide_eq_false_iff_not,decide_eq_false_iff_not];omega
      have z:(decide ((mid:Int)<(en:Int))&&decide ((en:Int)<(b:Int)))=true:=by rw [Bool.and_eq_true,decide_eq_true_eq,decide_eq_true_eq];omega
      simp only [A9,Bk,d2,w5,x,y,z,A0,↓A3,seval]
      repeat' first|refine ⟨λh=>?_,λh=>?_⟩|refine aX ?_|fail
      repeat' first|refine ⟨λh=>?_,λh=>?_⟩|refine aX ?_|fail
      have cc:=f1 k1.1 k1.2
      simp only [A9,Bk] at cc
      refine tC [(900,A9 r)] [(900,A9 r1)] hP cc (B7 rfl) ?_
      clear cc
      simp only [A9,x,y,z,A0,↓A3,seval]
      rw [e2 k2]
      repeat' first|refine ⟨λh=>?_,λh=>?_⟩|refine aX ?_|fail
      have cc:=f3 k3.1 k3.2
      simp only [A9,Bk] at cc
      refine tC [(900,A9 r2)] [(900,A9 (P++(Bt (Bp cf) A B++S)))] hP cc (B7 rfl) ?_
      clear cc
      simp only [A9,x,y,z,A0,↓A3,seval]
      repeat' first|refine ⟨λh=>?_,λh=>?_⟩|refine aX ?_|fail
      refine Et (Wk.refl _ _) ?_
      simp only [A7,A0,↓A3,seval]
     ·have x:(decide ((e:Int)<(m:Int))&&decide ((m:Int)<(en:Int)))=true:=by rw [Bool.and_eq_true,decide_eq_true_eq,decide_eq_true_eq];omega
      have y:(decide ((a:Int)<(e:Int))&&decide ((e:Int)<(mid:Int)))=false:=by rw [Bool.and_eq_false_iff,decide_eq_false_iff_not,decide_eq_false_iff_not];omega
      have z:(decide ((mid:Int)<(en:Int))&&decide ((en:Int)<(b:Int)))=false:=by rw [Bool.and_eq_false_iff,decide_eq_false_iff_not,decide_eq_false_iff_not];omega
      simp only [A9,Bk,d2,w5,x,y,z,A0,↓A3,seval]
      repeat' first|refine ⟨λh=>?_,λh=>?_⟩|refine aX ?_|fail
      repeat' first|refine ⟨λh=>?_,λh=>?_⟩|refine aX ?_|fail
      have cc:=f1 k1.1 k1.2
      simp only [A9,Bk] at cc
      refine tC [(900,A9 r)] [(900,A9 r1)] hP cc (B7 rfl) ?_
      clear cc
      simp only [A9,x,y,z,A0,↓A3,seval]
      rw [e2 k2]
      rw [e3 k3]
      repeat' first|refine ⟨λh=>?_,λh=>?_⟩|refine aX ?_|fail
      refine Et (Wk.refl _ _) ?_
      simp only [A7,A0,↓A3,seval]
   ·by_cases k2:a<e∧e<mid
    ·by_cases k3:mid<en∧en<b
     ·have x:(decide ((e:Int)<(m:Int))&&decide ((m:Int)<(en:Int)))=false:=by rw [Bool.and_eq_false_iff,decide_eq_false_iff_not,decide_eq_false_iff_not];omega
      have y:(decide ((a:Int)<(e:Int))&&decide ((e:Int)<(mid:Int)))=true:=by rw [Bool.and_eq_true,decide_eq_true_eq,decide_eq_true_eq];omega
      have z:(decide ((mid:Int)<(en:Int))&&decide ((en:Int)<(b:Int)))=true:=by rw [Bool.and_eq_true,decide_eq_true_eq,decide_eq_true_eq];omega
      simp only [A9,Bk,d2,w5,x,y,z,A0,↓A3,seval]
      repeat' first|refine ⟨λh=>?_,λh=>?_⟩|refine aX ?_|fail
      rw [e1 k1]
      repeat' first|refine ⟨λh=>?_,λh=>?_⟩|refine aX ?_|fail
      have cc:=f2 k2.1 k2.2
      simp only [A9,Bk] at cc
      refine tC [(900,A9 r1)] [(900,A9 r2)] hP cc (B7 rfl) ?_
      clear cc
      simp only [A9,x,y,z,A0,↓A3,seval]
      repeat' first|refine ⟨λh=>?_,λh=>?_⟩|refine aX ?_|fail
      have cc:=f3 k3.1 k3.2
      simp only [A9,Bk] at cc
      refine tC [(900,A9 r2)] [(900,A9 (P++(Bt (Bp cf) A B++S)))] hP cc (B7 rfl) ?_
      clear cc
      simp only [A9,x,y,z,A0,↓A3,seval]
      repeat' first|refine ⟨λh=>?_,λh=>?_⟩|refine aX ?_|fail
      refine Et (Wk.refl _ _) ?_
      simp only [A7,A0,↓A3,seval]
     ·have x:(decide ((e:Int)<(m:Int))&&decide ((m:Int)<(en:Int)))=false:=by rw [Bool.and_eq_false_iff,decide_eq_false_iff_not,decide_eq_false_iff_not];omega
      have y:(decide ((a:Int)<(e:Int))&&decide ((e:Int)<(mid:Int)))=true:=by rw [Bool.and_eq_true,decide_eq_true_eq,decide_eq_true_eq];omega
      have z:(decide ((mid:Int)<(en:Int))&&decide ((en:Int)<(b:Int)))=false:=by rw [Bool.and_eq_false_iff,decide_eq_false_iff_not,decide_eq_false_iff_not];omega
      simp only [A9,Bk,d2,w5,x,y,z,A0,↓A3,seval]
      repeat' first|refine ⟨λh=>?_,λh=>?_⟩|refine aX ?_|fail
      rw [e1 k1]
      repeat' first|refine ⟨λh=>?_,λh=>?_⟩|refine aX ?_|fail
      have cc:=f2 k2.1 k2.2
      simp only [A9,Bk] at cc
      refine tC [(900,A9 r1)] [(900,A9 r2)] hP cc (B7 rfl) ?_
      clear cc
      simp only [A9,x,y,z,A0,↓A3,seval]
      rw [e3 k3]
      repeat' first|refine ⟨λh=>?_,λh=>?_⟩|refine aX ?_|fail
      refine Et (Wk.refl _ _) ?_
      simp only [A7,A0,↓A3,seval]
    ·by_cases k3:mid<en∧en<b
     ·have x:(decide ((e:Int)<(m:Int))&&decide ((m:Int)<(en:Int)))=false:=by rw [Bool.and_eq_false_iff,decide_eq_false_iff_not,decide_eq_false_iff_not];omega
      have y:(decide ((a:Int)<(e:Int))&&decide ((e:Int)<(mid:Int)))=false:=by rw [Bool.and_eq_false_iff,decide_eq_false_iff_not,decide_eq_false_iff_not];omega
      have z:(decide ((mid:Int)<(en:Int))&&decide ((en:Int)<(b:Int)))=true:=by rw [Bool.and_eq_true,decide_eq_true_eq,decide_eq_true_eq];omega
      simp only [A9,Bk,d2,w5,x,y,z,A0,↓A3,seval]
      repeat' first|refine ⟨λh=>?_,λh=>?_⟩|refine aX ?_|fail
      rw [e1 k1]
      rw [e2 k2]
      repeat' first|refine ⟨λh=>?_,λh=>?_⟩|refine aX ?_|fail
      have cc:=f3 k3.1 k3.2
      simp only [A9,Bk] at cc
      refine tC [(900,A9 r2)] [(900,A9 (P++(Bt (Bp cf) A B++S)))] hP cc (B7 rfl) ?_
      clear cc
      simp only [A9,x,y,z,A0,↓A3,seval]
      repeat' first|refine ⟨λh=>?_,λh=>?_⟩|refine aX ?_|fail
      refine Et (Wk.refl _ _) ?_
      simp only [A7,A0,↓A3,seval]
     ·have x:(decide ((e:Int)<(m:Int))&&decide ((m:Int)<(en:Int)))=false:=by rw [Bool.and_eq_false_iff,decide_eq_false_iff_not,decide_eq_false_iff_not];omega
      have y:(decide ((a:Int)<(e:Int))&&decide ((e:Int)<(mid:Int)))=false:=by rw [Bool.and_eq_false_iff,decide_eq_false_iff_not,decide_eq_false_iff_not];omega
      have z:(decide ((mid:Int)<(en:Int))&&decide ((en:Int)<(b:Int)))=false:=by rw [Bool.and_eq_false_iff,decide_eq_false_iff_not,decide_eq_false_iff_not];omega
      simp only [A9,Bk,d2,w5,x,y,z,A0,↓A3,seval]
      repeat' first|refine ⟨λh=>?_,λh=>?_⟩|refine aX ?_|fail
      rw [e1 k1]
      rw [e2 k2]
      rw [e3 k3]
      repeat' first|refine ⟨λh=>?_,λh=>?_⟩|refine aX ?_|fail
      refine Et (Wk.refl _ _) ?_
      simp only [A7,A0,↓A3,seval]
theorem sSym {g:Nat} {ds:List D} {cf:Int→Int→Int} {ok:Int→Prop} (hc:U3 g ds cf ok):∀ N,jy g ds cf ok N
 |0=>λP A B S a m b _ _ _ h0 hA hB=>by omega
 |N+1=>λP A B S a m b ha hm hb hN hA hB sA sB hok hl=>by
  by_cases hA1:A.length=1
  ·exact sSymA hc P A B S a m b ha hm hb hA hB sA sB hok hl hA1
  ·by_cases hB1:B.length=1
   ·exact sSymB hc P A B S a m b ha hm hb hA hB sA sB hok hl hA1 hB1
   ·exact sSymM hc (sSym hc N) P A B S a m b ha hm hb hN hA hB sA sB hok hl hA1 hB1
end Go.Proofs.YtakohhkgeeoniaaGreat
end
section
namespace Go.Proofs.YtakohhkgeeoniaaGreat
open Go.Bx
section
variable {X:Type} (lt:X→X→Bool)
def Y9 (w:Nat):Nat→List X→List X
 |0,l=>srt lt [] l
 |f+1,l=>if l.length≤w then srt lt [] l else srt lt [] (l.take w)++Y9 w f (l.drop w)
def sb (w:Nat) (l:List X):List X:=Y9 lt w l.length l
variable {lt}
theorem Wr {w:Nat} (hw:0<w):∀ (f g:Nat) (l:List X),l.length≤f→l.length≤g→Y9 lt w f l=Y9 lt w g l
 |0,0,_,_,_=>rfl
 |0,g+1,l,h,_=>by rw [Y9,Y9,if_pos (by omega)]
 |f+1,0,l,_,h=>by rw [Y9,Y9,if_pos (by omega)]
 |f+1,g+1,l,h1,h2=>by
  rw [Y9,Y9]
  split
  ·rfl
  ·rw [Wr hw f g (l.drop w) (by rw [List.length_drop];omega) (by rw [List.length_drop];omega)]
theorem Dm {w:Nat} {l:List X} (h:l.length≤w):sb lt w l=srt lt [] l:=by
 unfold sb
 cases hl:l.length with
 |zero=>rfl
 |succ n=>rw [Y9,if_pos h]
theorem Fk {w:Nat} (hw:0<w) {l:List X} (h:w≤l.length):sb lt w l=srt lt [] (l.take w)++sb lt w (l.drop w):=by
 rcases Nat.lt_or_eq_of_le h with h|h
 ·unfold sb
  obtain ⟨n,hn⟩:∃ n,l.length=n+1:=⟨l.length-1,by omega⟩
  rw [hn,Y9,if_neg (by omega),Wr hw n (l.drop w).length (l.drop w) (by rw [List.length_drop];omega) (Nat.le_refl _)]
 ·have e1:l.take w=l:=List.take_of_length_le (by omega)
  have e2:l.drop w=[]:=List.drop_eq_nil_of_le (by omega)
  rw [Dm (by omega),e1,e2,Dm (by simp)]
  simp [srt]
theorem Xi {w:Nat} (hw:0<w):∀ (f:Nat) (l:List X),(Y9 lt w f l).length=l.length
 |0,l=>by rw [Y9,F1];simp
 |f+1,l=>by
  rw [Y9]
  split
  ·rw [F1];simp
  ·rw [List.length_append,F1,Xi hw f];simp;omega
end
end Go.Proofs.YtakohhkgeeoniaaGreat
end
section
namespace Go.Proofs.YtakohhkgeeoniaaGreat
open Go.Bx
set_option maxRecDepth 10000
theorem uj {g:Nat} {ds:List D} {cf:Int→Int→Int} {ok:Int→Prop} (hc:U3 g ds cf ok) (L:List Int) (hok:∀ x,x∈L→ok x) (hl:L.length≤1000000) :
  Aj Tryz.prog 177 [.osl 900,.d (.int .i64 (L.length:Int)),Bk g ds] [(900,A9 L)] (.tup []) [(900,A9 (srt (Bp cf) [] L))] []:=by
 refine qO Tryz.func177 ?_
 intro c hP hfn
 obtain ⟨n,hn⟩:∃ n,n=L.length:=⟨_,rfl⟩
 rw [←hn]
 simp only [A5,V.names,A4,A9,Bk,A0,↓A3,seval]
 refine B4.loop (X:=Nat×List Int) (λx=>⟨[(0,.osl 900),(1,.d (.int .i64 (n:Int))),(2,Bk g ds),(6,.d (.int .i64 20)),(7,.d (.int .i64 (x.1:Nat))),(8,.d (.int .i64 ((x.1+20:Nat):Int)))],[(900,A9 x.2)],[900]⟩)
  (λx=>∃ P Z,x.1=P.length∧P.length+Z.length=n∧x.2=P++Z∧(∀ y,y∈Z→ok y)∧sb (Bp cf) 20 L=P++sb (Bp cf) 20 Z) (λx=>n-x.1) (0,L) ⟨[],L,rfl,by simp [hn],rfl,hok,rfl⟩ (Wk.of _ hfn rfl (by simp only [Bk,A7,A0,↓A3,seval]) (by simp only [A9,A7,A0,↓A3,seval])) ?_
 rintro ⟨a,r⟩ ⟨P,Z,ha,hn2,hr,hz,hs⟩
 simp only at ha hr
 by_cases hlt:20≤Z.length
 ·have d0:decide (((a+20:Nat):Int)≤(n:Int))=true:=decide_eq_true (by omega)
  have w1:IntKind.i64.wrap (((a+20:Nat):Int)+20)=((a+20+20:Nat):Int):=(wI (by omega)).trans (by omega)
  have cc:=Zo hc P (Z.take 20) (Z.drop 20) (λx hx=>hz x (List.mem_of_mem_take hx)) (by rw [List.length_take,List.length_drop];omega)
  rw [List.take_append_drop,←hr,←ha,List.length_take,Nat.min_eq_left hlt] at cc
  simp only [A9,Bk] at cc
  simp only [A9,Bk,d0,A0,↓A3,seval]
  repeat' first|refine ⟨λh=>?_,λh=>?_⟩|refine aX ?_|fail
  refine tC [(900,A9 r)] [(900,A9 (P++(srt (Bp cf) [] (Z.take 20)++Z.drop 20)))] hP cc (B7 rfl) ?_
  simp only [w1,A0,↓A3,seval]
  repeat' first|refine ⟨λh=>?_,λh=>?_⟩|refine aX ?_|fail
  refine Al.on (a+20,P++(srt (Bp cf) [] (Z.take 20)++Z.drop 20)) ⟨P++srt (Bp cf) [] (Z.take 20),Z.drop 20,?_,?_,by simp,λy hy=>hz y (List.mem_of_mem_drop hy),?_⟩ (by simp only;omega) (Wk.of _ hfn rfl (by simp only [Bk,w1,A7,A0,↓A3,seval]) (by simp only [A9,A7,A0,↓A3,seval]))
  ·rw [List.length_append,F1,List.length_take];simp only [List.length_nil];omega
  ·rw [List.length_append,F1,List.length_take,List.length_drop];simp only [List.length_nil];omega
  ·rw [hs,Fk (by decide) hlt];simp
 ·have d0:decide (((a+20:Nat):Int)≤(n:Int))=false:=decide_eq_false (by omega)
  have cc:=Zo hc P Z [] hz (by simp only [List.length_nil];omega)
  rw [List.append_nil,←hr,←ha,show a+Z.length=n by omega] at cc
  have hs2:P++(srt (Bp cf) [] Z++[])=sb (Bp cf) 20 L:=by rw [hs,Dm (by omega)];simp
  rw [hs2] at cc
  simp only [A9,Bk] at cc
  simp only [A9,Bk,d0,A0,↓A3,seval]
  repeat' first|refine ⟨λh=>?_,λh=>?_⟩|refine aX ?_|fail
  refine tC [(900,A9 r)] [(900,A9 (sb (Bp cf) 20 L))] hP cc (B7 rfl) ?_
  clear cc hs2 d0 hlt hs hz hr hn2 ha
  simp only [A0,↓A3,seval]
  refine B4.loop (X:=Nat) (λw=>⟨[(0,.osl 900),(1,.d (.int .i64 (n:Int))),(2,Bk g ds),(6,.d (.int .i64 (w:Nat)))],[(900,A9 (sb (Bp cf) w L))],[900]⟩)
   (λw=>0<w∧w≤2*n+20) (λw=>n-w) 20 ⟨by decide,by omega⟩ (Wk.of _ hfn rfl (by simp only [Bk,A7,A0,↓A3,seval]) (by simp only [A9,A7,A0,↓A3,seval])) ?_
  rintro w ⟨hw0,hw1⟩
  by_cases hwn:w<n
  ·have d0:decide ((w:Int)<(n:Int))=true:=decide_eq_true (by omega)
   have w2:IntKind.i64.wrap (2*(w:Int))=((2*w:Nat):Int):=(wI (by omega)).trans (by omega)
   have w3:IntKind.i64.wrap ((w:Int)*2)=((2*w:Nat):Int):=(wI (by omega)).trans (by omega)
   simp only [A9,Bk,d0,w2,A0,↓A3,seval]
   repeat' first|refine ⟨λh=>?_,λh=>?_⟩|refine aX ?_|fail
   refine B4.loop (X:=Nat×List Int) (λx=>⟨[(0,.osl 900),(1,.d (.int .i64 (n:Int))),(2,Bk g ds),(6,.d (.int .i64 (w:Nat))),(7,.d (.int .i64 (x.1:Nat))),(8,.d (.int .i64 ((x.1+2*w:Nat):Int)))],[(900,A9 x.2)],[900]⟩)
    (λx=>∃ P Z,x.1=P.length∧P.length+Z.length=n∧x.2=P++sb (Bp cf) w Z∧(∀ y,y∈Z→ok y)∧sb (Bp cf) (2*w) L=P++sb (Bp cf) (2*w) Z) (λx=>n-x.1) (0,sb (Bp cf) w L) ⟨[],L,rfl,by simp [hn],rfl,hok,rfl⟩ (Wk.of _ hfn rfl (by simp only [Bk,Nat.zero_add,A7,A0,↓A3,seval]) (by simp only [A9,A7,A0,↓A3,seval])) ?_
   rintro ⟨a,r⟩ ⟨P,Z,ha,hn2,hr,hz,hs⟩
   simp only at ha hr
   have w4:IntKind.i64.wrap ((a:Int)+(w:Int))=((a+w:Nat):Int):=(wI (by omega)).trans (by omega)
   have okT:∀ (M:List Int),(∀ x,x∈M→x∈Z)→∀ x,x∈srt (Bp cf) [] M→ok x:=λM hM x hx=>hz x (hM x (by simpa using (Fo (Bp cf) M []).mem_iff.1 hx))
   have slen:∀ (M:List Int),(srt (Bp cf) [] M).length=M.length:=λM=>by rw [F1];simp
   by_cases hlt:2*w≤Z.length
   ·have d1:decide (((a+2*w:Nat):Int)≤(n:Int))=true:=decide_eq_true (by omega)
    have w5:IntKind.i64.wrap (((a+2*w:Nat):Int)+((2*w:Nat):Int))=((a+2*w+2*w:Nat):Int):=(wI (by omega)).trans (by omega)
    have e1:sb (Bp cf) w Z=srt (Bp cf) [] (Z.take w)++(srt (Bp cf) [] ((Z.drop w).take w)++sb (Bp cf) w (Z.drop (2*w))):=by
     rw [Fk hw0 (by omega),Fk hw0 (l:=Z.drop w) (by rw [List.length_drop];omega),List.drop_drop,show w+w=2*w by omega]
    have e2:Bt (Bp cf) (srt (Bp cf) [] (Z.take w)) (srt (Bp cf) [] ((Z.drop w).take w))=srt (Bp cf) [] (Z.take (2*w)):=by
     rw [Oo hc.w,show 2*w=w+w by omega,List.take_add]
    have l1:(srt (Bp cf) [] (Z.take w)).length=w:=by rw [slen,List.length_take];omega
    have l2:(srt (Bp cf) [] ((Z.drop w).take w)).length=w:=by rw [slen,List.length_take,List.length_drop];omega
    have l3:(sb (Bp cf) w (Z.drop (2*w))).length=Z.length-2*w:=by rw [sb,Xi hw0,List.length_drop]
    have cc:=sSym hc (w+w) P (srt (Bp cf) [] (Z.take w)) (srt (Bp cf) [] ((Z.drop w).take w)) (sb (Bp cf) w (Z.drop (2*w))) a (a+w) (a+2*w) ha (by omega) (by omega) (by omega) (by omega) (by omega) (C7 hc.w _ [] List.Pairwise.nil) (C7 hc.w _ [] List.Pairwise.nil)
     (λx hx=>by
      rcases List.mem_append.1 hx with h|h
      ·exact okT _ (λy hy=>List.mem_of_mem_take hy) x h
      ·exact okT _ (λy hy=>List.mem_of_mem_drop (List.mem_of_mem_take hy)) x h) (by omega)
    rw [←e1,←hr,e2] at cc
    simp only [A9,Bk] at cc
    simp only [A9,Bk,d1,w2,w4,A0,↓A3,seval]
    repeat' first|refine ⟨λh=>?_,λh=>?_⟩|refine aX ?_|fail
    refine tC [(900,A9 r)] [(900,A9 (P++(srt (Bp cf) [] (Z.take (2*w))++sb (Bp cf) w (Z.drop (2*w)))))] hP cc (B7 rfl) ?_
    clear cc
    simp only [w2,w5,A0,↓A3,seval]
    repeat' first|refine ⟨λh=>?_,λh=>?_⟩|refine aX ?_|fail
    refine Al.on (a+2*w,P++(srt (Bp cf) [] (Z.take (2*w))++sb (Bp cf) w (Z.drop (2*w)))) ⟨P++srt (Bp cf) [] (Z.take (2*w)),Z.drop (2*w),?_,?_,by simp,λy hy=>hz y (List.mem_of_mem_drop hy),?_⟩ (by simp only;omega) (Wk.of _ hfn rfl (by simp only [Bk,w5,A7,A0,↓A3,seval]) (by simp only [A9,A7,A0,↓A3,seval]))
    ·rw [List.length_append,slen,List.length_take];simp only;omega
    ·rw [List.length_append,slen,List.length_take,List.length_drop];omega
    ·rw [hs,Fk (by omega) hlt];simp
   ·have d1:decide (((a+2*w:Nat):Int)≤(n:Int))=false:=decide_eq_false (by omega)
    have e3:sb (Bp cf) (2*w) L=P++srt (Bp cf) [] Z:=by rw [hs,Dm (by omega)]
    by_cases hm:w<Z.length
    ·have d2:decide (((a+w:Nat):Int)<(n:Int))=true:=decide_eq_true (by omega)
     have e1:sb (Bp cf) w Z=srt (Bp cf) [] (Z.take w)++(srt (Bp cf) [] (Z.drop w)++[]):=by
      rw [Fk hw0 (by omega),Dm (l:=Z.drop w) (by rw [List.length_drop];omega),List.append_nil]
     have e2:Bt (Bp cf) (srt (Bp cf) [] (Z.take w)) (srt (Bp cf) [] (Z.drop w))=srt (Bp cf) [] Z:=by
      rw [Oo hc.w,List.take_append_drop]
     have l1:(srt (Bp cf) [] (Z.take w)).length=w:=by rw [slen,List.length_take];omega
     have l2:(srt (Bp cf) [] (Z.drop w)).length=Z.length-w:=by rw [slen,List.length_drop]
     have cc:=sSym hc (w+w) P (srt (Bp cf) [] (Z.take w)) (srt (Bp cf) [] (Z.drop w)) [] a (a+w) n ha (by omega) (by omega) (by omega) (by omega) (by omega) (C7 hc.w _ [] List.Pairwise.nil) (C7 hc.w _ [] List.Pairwise.nil)
      (λx hx=>by
       rcases List.mem_append.1 hx with h|h
       ·exact okT _ (λy hy=>List.mem_of_mem_take hy) x h
       ·exact okT _ (λy hy=>List.mem_of_mem_drop hy) x h) (by simp only [List.length_nil];omega)
     rw [←e1,←hr,e2,List.append_nil,←e3] at cc
     simp only [A9,Bk] at cc
     simp only [A9,Bk,d1,d2,w3,w4,A0,↓A3,seval]
     repeat' first|refine ⟨λh=>?_,λh=>?_⟩|refine aX ?_|fail
     refine tC [(900,A9 r)] [(900,A9 (sb (Bp cf) (2*w) L))] hP cc (B7 rfl) ?_
     clear cc
     simp only [w3,A0,↓A3,seval]
     repeat' first|refine ⟨λh=>?_,λh=>?_⟩|refine aX ?_|fail
     exact Al.on (2*w) ⟨by omega,by omega⟩ (by omega) (Wk.of _ hfn rfl (by simp only [Bk,w3,A7,A0,↓A3,seval]) (by simp only [A9,A7,A0,↓A3,seval]))
    ·have d2:decide (((a+w:Nat):Int)<(n:Int))=false:=decide_eq_false (by omega)
     have e4:r=sb (Bp cf) (2*w) L:=by rw [hr,e3,Dm (by omega)]
     simp only [A9,Bk,d1,d2,w3,w4,A0,↓A3,seval]
     repeat' first|refine ⟨λh=>?_,λh=>?_⟩|refine aX ?_|fail
     exact Al.on (2*w) ⟨by omega,by omega⟩ (by omega) (Wk.of _ hfn rfl (by simp only [Bk,w3,A7,A0,↓A3,seval]) (by simp only [A9,e4,A7,A0,↓A3,seval]))
  ·have d0:decide ((w:Int)<(n:Int))=false:=decide_eq_false (by omega)
   have e:sb (Bp cf) w L=srt (Bp cf) [] L:=Dm (by omega)
   simp only [A9,Bk,d0,e,A0,↓A3,seval]
   repeat' first|refine ⟨λh=>?_,λh=>?_⟩|refine aX ?_|fail
   refine Et (Wk.refl _ _) ?_
   simp only [A7,A0,↓A3,seval]
theorem vl {g:Nat} {ds:List D} {cf:Int→Int→Int} {ok:Int→Prop} (hc:U3 g ds cf ok) (L:List Int) (hok:∀ x,x∈L→ok x) (hl:L.length≤1000000) :
  Aj Tryz.prog 162 [.osl 900,Bk g ds] [(900,A9 L)] (.tup []) [(900,A9 (srt (Bp cf) [] L))] []:=by
 refine qO Tryz.func162 ?_
 intro c hP hfn
 have cc:=uj hc L hok hl
 simp only [A9,Bk] at cc
 simp only [A5,V.names,A4,A9,Bk,A0,↓A3,seval]
 refine tC [(900,A9 L)] [(900,A9 (srt (Bp cf) [] L))] hP cc (B7 rfl) ?_
 simp only [A0,↓A3,seval]
 repeat' first|refine ⟨λh=>?_,λh=>?_⟩|refine aX ?_|fail
 refine Et (Wk.refl _ _) ?_
 simp only [A9,A7,A0,↓A3,seval]
def z0:Sl:=⟨0,0,false,⟨0,0,0,0⟩,[],0⟩
def V3 (h:Hi):List D:=[.int .i64 h.id,.int .i64 h.bk,.int .i64 h.tm.sf,.int .i64 h.tm.st,.int .i64 h.tm.rk.kd,.int .i64 h.tm.rk.va,.int .i64 h.tm.rk.ag,.int .i64 h.tm.rk.zo,Ar h.tm.cv,Bv h.ch]
def Xp (l:List Ch) (a:Int):Int:=(l.getD a.toNat default).dy
def cfC (l:List Ch) (a b:Int):Int:=Rn (Xp l a) (Xp l b)
def okH (l:List Ch) (a:Int):Prop:=0≤a∧a<l.length
theorem sx (a b:Int):decide (Rn a b<0)=decide (a<b):=by
 unfold Rn
 by_cases h:a<b
 ·simp [h]
 ·by_cases h2:b<a<;>simp [h,h2]
theorem ltC (l:List Ch) (a b:Int):Bp (cfC l) a b=decide (Xp l a<Xp l b):=sx _ _
theorem swoC (l:List Ch):bq (Bp (cfC l)):=⟨λa b h=>by rw [ltC] at *;simp at *;omega,λa b c h1 h2=>by rw [ltC] at *;simp at *;omega⟩
theorem rg (h:Hi) (a b:Int) (ha:okH h.ch a) (hb:okH h.ch b):Aj Tryz.prog 163 [.d (.int .i64 a),.d (.int .i64 b),.mem (V3 h)] [] (.d (.int .i64 (cfC h.ch a b))) [] []:=by
 have cc:=xz (Xp h.ch a) (Xp h.ch b)
 simp only [Xp] at cc
 obtain ⟨h1,h2⟩:=ha
 obtain ⟨h3,h4⟩:=hb
 refine qP Tryz.func163 λc hP hfn=>?_;simp only [V3,Bv,Bn,A0,↓A3,seval]
 repeat' first|(refine tz hP cc ?_;try simp only [A0,↓A3,seval])|refine ⟨λh=>?_,λh=>?_⟩|refine aX ?_|fail
 exact rr
theorem cmpOC (h:Hi):U3 163 (V3 h) (cfC h.ch) (okH h.ch):=⟨swoC _,λa b ha hb=>rg h a b ha hb⟩
def Ic (n:Nat):List Int:=(List.range n).map λk:Nat=>((k:Nat):Int)
def Dc (l:List Ch):List Int:=srt (Bp (cfC l)) [] (Ic l.length)
theorem Y0 (n:Nat):Ic (n+1)=Ic n++[(n:Int)]:=by simp [Ic,List.range_succ]
theorem S7 (n:Nat):(Ic n).length=n:=by simp [Ic]
theorem O4 (l:List Ch):(Dc l).Perm (Ic l.length):=by have:=Fo (Bp (cfC l)) (Ic l.length) [];rwa [List.nil_append] at this
theorem P7 (l:List Ch):(Dc l).length=l.length:=by rw [(O4 l).length_eq,S7]
theorem Kr (l:List Ch):∀ x,x∈Dc l→okH l x:=λx hx=>by
 have:=(O4 l).mem_iff.1 hx
 simp only [Ic,List.mem_map,List.mem_range] at this
 obtain ⟨k,hk,rfl⟩:=this
 exact ⟨by omega,by omega⟩
theorem Zw (hh:Hi) (hl:hh.ch.length≤1000000):Aj Tryz.prog 135 [Da hh] [] (.d (slK .i64 (Dc hh.ch))) [] []:=by
 refine qP Tryz.func135 λc hP hfn=>?_;simp only [Da,Dd,Bv,A0,↓A3,seval]
 refine B4.loop (X:=Nat) (λk=>⟨[(3,.osl 1000),(1,.mem (V3 hh)),(7,.d (.int .i64 hh.ch.length)),(8,.d (.int .i64 k))],[(1000,A9 (Ic k))],[1000,1]⟩)
  (λk=>k≤hh.ch.length) (λk=>hh.ch.length-k) 0 (Nat.zero_le _) ?_ ?_
 ·refine (Wk.pubF 1 rfl rfl).trans ((Wk.row0 (s:=3) (k:=1000) (e:=3) (sz:=1) (f':=λ_=>[]) rfl rfl (by simp)).trans (Wk.of _ hfn rfl ?_ ?_))
  ·simp only [V3,Bv,Ar,A7,A0,↓A3,seval]
  ·simp only [A9,A7,A0,↓A3,seval];exact Bf.row rfl (λi hi=>absurd hi (Nat.not_lt_zero i))
 intro k hk
 have il:=S7 k
 by_cases hlt:k<hh.ch.length
 ·have d0:decide ((k:Int)<(hh.ch.length:Int))=true:=decide_eq_true (by omega)
  have w1:IntKind.i64.wrap ((k:Int)+1)=((k+1:Nat):Int):=wS (by omega)
  simp only [A9,d0,A0,↓A3,seval]
  repeat' first|refine ⟨λh=>?_,λh=>?_⟩|refine aX ?_|fail
  refine Al.on (k+1) (by omega) (by omega) ((Wk.sw 14 1000 _ hfn (by simp) (by simp)).trans (Wk.of _ hfn rfl (by simp only [w1,A7,A0,↓A3,seval]) ?_))
  simp only [A9,Y0,A7,A0,↓A3,seval]
  exact Bf.app1 (λn:Int=>[.int .i64 n]) (λi hi=>by simp [hi]) (by simp [litRow])
 ·have d0:decide ((k:Int)<(hh.ch.length:Int))=false:=decide_eq_false (by omega)
  obtain rfl:k=hh.ch.length:=by omega
  have cc:=(vl (cmpOC hh) (Ic hh.ch.length) (λx hx=>by
   simp only [Ic,List.mem_map,List.mem_range] at hx
   obtain ⟨k,hk,rfl⟩:=hx
   exact ⟨by omega,by omega⟩) (by omega)).sw 900 1000
  simp only [A9,Bk,A0,↓A3,seval] at cc
  simp only [A9,d0,A0,↓A3,seval]
  repeat' first|refine ⟨λh=>?_,λh=>?_⟩|refine aX ?_|fail
  refine tC [(1000,A9 (Ic hh.ch.length))] [(1000,A9 (Dc hh.ch))] hP cc (B7 rfl) ?_
  simp only [A9,A0,↓A3,seval]
  repeat' first|refine ⟨λh=>?_,λh=>?_⟩|refine aX ?_|fail
  refine rK (Wk.pub 1000 rfl) trivial ?_
  simp only [B8,A0,↓A3,seval]
  exact Ag.refl _
def F8 (s:Sl) (c:Ch):Sl:=
 if c.kd=1 then { s with rk:=c.rk } else if c.kd=2 then { s with cv:=c.cv } else if c.kd=3 then { s with on:=false } else if c.kd=4 then { s with on:=true } else s
theorem sDoes (s:Sl) (h:Ch) (hl:h.cv.length≤1000000):Aj Tryz.prog 136 [.own 1 0,Ia h] [(1,.fix (Dt s))] (.tup []) [(1,.fix (Dt (F8 s h)))] []:=by
 refine qO Tryz.func136 ?_
 intro c hP hfn
 have hr:h.kd=1∨h.kd=2∨h.kd=3∨h.kd=4∨(¬ h.kd=1∧¬ h.kd=2∧¬ h.kd=3∧¬ h.kd=4):=by omega
 have n2:((2:Int) == 1)=false:=rfl
 have n3:((3:Int) == 1)=false:=rfl
 have n4:((4:Int) == 1)=false:=rfl
 have n5:((3:Int) == 2)=false:=rfl
 have n6:((4:Int) == 2)=false:=rfl
 have n7:((4:Int) == 3)=false:=rfl
 rcases hr with e1|e1|e1|e1|⟨e1,e2,e3,e4⟩
 ·have hd:F8 s h={ s with rk:=h.rk }:=by simp [F8,e1]
  rw [hd]
  simp only [A5,V.names,A4,Ia,Js,Dt,Ar,e1,A0,↓A3,seval]
  repeat' first|refine ⟨λh=>?_,λh=>?_⟩|refine aX ?_|fail
  all_goals
   refine Et (Wk.refl _ _) ?_
   simp only [A7,A0,↓A3,seval]
 ·have hd:F8 s h={ s with cv:=h.cv }:=by simp [F8,e1]
  rw [hd]
  have hb:h.cv.length*40≤140737488355328∧h.cv.length≤maxLen:=⟨by omega,by simp only [maxLen];omega⟩
  simp only [A5,V.names,A4,Ia,Js,Dt,Ar,e1,n2,A0,↓A3,seval]
  repeat' first|refine ⟨λh=>?_,λh=>?_⟩|refine aX ?_|fail
  all_goals
   refine Et (Wk.pub 24 rfl) ?_
   simp only [A7,A0,↓A3,seval]
 ·have hd:F8 s h={ s with on:=false }:=by simp [F8,e1]
  rw [hd]
  simp only [A5,V.names,A4,Ia,Js,Dt,Ar,e1,n3,n5,A0,↓A3,seval]
  repeat' first|refine ⟨λh=>?_,λh=>?_⟩|refine aX ?_|fail
  all_goals
   refine Et (Wk.refl _ _) ?_
   simp only [A7,A0,↓A3,seval]
 ·have hd:F8 s h={ s with on:=true }:=by simp [F8,e1]
  rw [hd]
  simp only [A5,V.names,A4,Ia,Js,Dt,Ar,e1,n4,n6,n7,A0,↓A3,seval]
  repeat' first|refine ⟨λh=>?_,λh=>?_⟩|refine aX ?_|fail
  all_goals
   refine Et (Wk.refl _ _) ?_
   simp only [A7,A0,↓A3,seval]
 ·have hd:F8 s h=s:=by simp [F8,e1,e2,e3,e4]
  have m1:(h.kd == 1)=false:=beq_false_of_ne e1
  have m2:(h.kd == 2)=false:=beq_false_of_ne e2
  have m3:(h.kd == 3)=false:=beq_false_of_ne e3
  have m4:(h.kd == 4)=false:=beq_false_of_ne e4
  rw [hd]
  simp only [A5,V.names,A4,Ia,Js,Dt,Ar,m1,m2,m3,m4,A0,↓A3,seval]
  repeat' first|refine ⟨λh=>?_,λh=>?_⟩|refine aX ?_|fail
  all_goals
   refine Et (Wk.refl _ _) ?_
   simp only [A7,A0,↓A3,seval]
def Ca (l:List Sl):Go.Bx.Own:=.row 140 9 l.length (λi=>Ea (l.getD i default))
def Um (now:Sl) (out:List Sl) (d:Int):Bool:=decide (0<out.length)&&R7 (out.getD (out.length-1) default) { now with st:=d }
def Hj (now:Sl) (out:List Sl) (d:Int):List Sl:=
 if now.sf=d then out else if Um now out d=true then out.set (out.length-1) { (out.getD (out.length-1) default) with st:=d } else out++[{ now with st:=d }]
theorem xa (now:Sl) (out:List Sl) (d:Int) (ho:out.length≤1000000) (hc:∀ s,s∈out→s.cv.length≤1000000) (h:now.sf=d∨Um now out d=true) :
  Aj Tryz.prog 133 [.d (.int .i64 d),.own 901 0,.own 902 0] [(901,.fix (Dt now)),(902,.fix [.osl 1000]),(1000,Ca out)] (.tup []) [(901,.fix (Dt { now with sf:=d })),(902,.fix [.osl 1000]),(1000,Ca (Hj now out d))] []:=by
 refine qO Tryz.func133 ?_
 intro c hP hfn
 by_cases h1:now.sf=d
 ·have e:Hj now out d=out:=by rw [Hj,if_pos h1]
  have d0:(now.sf == d)=true:=beq_iff_eq.2 h1
  rw [e]
  simp only [A5,V.names,A4,Dt,Ar,Ca,Ea,d0,A0,↓A3,seval]
  repeat' first|refine ⟨λh=>?_,λh=>?_⟩|refine aX ?_|fail
  refine Et (Wk.refl _ _) ?_
  simp only [A7,A0,↓A3,seval]
 ·have hb:=h.resolve_left h1
  have e:Hj now out d=out.set (out.length-1) { (out.getD (out.length-1) default) with st:=d }:=by rw [Hj,if_neg h1,if_pos hb]
  have d0:(now.sf == d)=false:=beq_false_of_ne h1
  simp only [Um,Bool.and_eq_true,decide_eq_true_eq] at hb
  have w1:IntKind.i64.wrap ((out.length:Int)-1)=((out.length-1:Nat):Int):=(wI (by omega)).trans (by omega)
  obtain ⟨x,hx,hxm⟩:∃ x,(∀ d,out.getD (out.length-1) d=x)∧x∈out:=by
   obtain ⟨x,-,hg,hm,-⟩:=Ae (l:=out) (k:=out.length-1) (by omega)
   exact ⟨x,hg,hm⟩
  rw [hx] at hb e
  have d1:decide (((out.length-1:Nat):Int)≥0)=true:=decide_eq_true (by omega)
  have cc:=ma x { now with st:=d } (by have:=hc x hxm;omega)
  rw [hb.2] at cc
  simp only [ib,Dt,Ar] at cc
  have b1:(0:Int)≤((out.length-1:Nat):Int)∧((out.length-1:Nat):Int)<(out.length:Int):=by omega
  rw [e]
  simp only [A5,V.names,A4,Dt,Ar,Ca,Ea,d0,w1,d1,hx,A0,↓A3,seval]
  repeat' first|(refine tz hP cc ?_;try simp only [d0,w1,d1,hx,A0,↓A3,seval])|refine ⟨λh=>?_,λh=>?_⟩|refine aX ?_|fail
  refine Et (Wk.refl _ _) ?_
  simp only [A7,A0,↓A3,seval]
  refine Bf.row (by rw [List.length_set]) λi hi=>?_
  have hgi:(out.set (out.length-1) { x with st:=d }).getD i default=if i=out.length-1 then { x with st:=d } else out.getD i default:=by
   simp only [List.getD_eq_getElem?_getD,List.getElem?_set]
   by_cases hi2:out.length-1=i
   ·rw [if_pos hi2,if_pos (by omega),if_pos hi2.symm];rfl
   ·rw [if_neg hi2,if_neg (λh=>hi2 h.symm)]
  rw [hgi]
  by_cases hi2:i=out.length-1
  ·rw [if_pos hi2,if_pos hi2]
   simp [Db]
  ·rw [if_neg hi2,if_neg hi2]
theorem xe (now:Sl) (out:List Sl) (d:Int) (ho:out.length≤1000000) (hc:∀ s,s∈out→s.cv.length≤1000000) (h:¬ (now.sf=d∨Um now out d=true)) :
  Aj Tryz.prog 133 [.d (.int .i64 d),.own 901 0,.own 902 0] [(901,.fix (Dt now)),(902,.fix [.osl 1000]),(1000,Ca out)] (.tup []) [(901,.fix (Dt { now with sf:=d })),(902,.fix [.osl 1001]),(1001,Ca (Hj now out d))] [1001]:=by
 refine qO Tryz.func133 ?_
 intro c hP hfn
 have h1:¬ now.sf=d:=λe=>h (.inl e)
 have hb:¬ Um now out d=true:=λe=>h (.inr e)
 have e:Hj now out d=out++[{ now with st:=d }]:=by rw [Hj,if_neg h1,if_neg hb]
 have d0:(now.sf == d)=false:=beq_false_of_ne h1
 have hroom:(out.length+1)*88≤140737488355328∧out.length+1≤maxLen:=⟨by omega,by simp only [maxLen];omega⟩
 by_cases h0:out.length=0
 ·have w1:IntKind.i64.wrap ((out.length:Int)-1)=-1:=(wI (by omega)).trans (by omega)
  have d1:decide ((-1:Int)≥0)=false:=rfl
  rw [e]
  simp only [A5,V.names,A4,Dt,Ar,Ca,Ea,d0,w1,d1,A0,↓A3,seval]
  refine TR.gp (gc:=false) (res:=.d (.bool false)) hP rfl (λh=>by cases h) (λh=>by cases h) ?_
  simp only [d0,w1,d1,A0,↓A3,seval]
  repeat' first|refine ⟨λh=>?_,λh=>?_⟩|refine aX ?_|fail
  refine Et (Wk.sw 16 1001 _ hfn (by simp [A5,V.names,A4,Ca,Dt]) (by simp [A5,V.names,A4,Ca,Dt])) ?_
  simp only [Ca,Dt,Ar,Ea,A7,A0,↓A3,seval]
  exact Bf.app1 Ea (λi hi=>by simp [hi,Ea,Ar]) (by simp [Ea,Ar,litRow])
 ·have w1:IntKind.i64.wrap ((out.length:Int)-1)=((out.length-1:Nat):Int):=(wI (by omega)).trans (by omega)
  obtain ⟨x,hx,hxm⟩:∃ x,(∀ d,out.getD (out.length-1) d=x)∧x∈out:=by
   obtain ⟨x,-,hg,hm,-⟩:=Ae (l:=out) (k:=out.length-1) (by omega)
   exact ⟨x,hg,hm⟩
  rw [e]
  rw [Um,hx] at hb
  have hb2:R7 x { now with st:=d }=false:=by
   cases hq:R7 x { now with st:=d } with
   |false=>rfl
   |true=>rw [hq,decide_eq_true (by omega:0<out.length)] at hb;exact absurd rfl hb
  have d1:decide (((out.length-1:Nat):Int)≥0)=true:=decide_eq_true (by omega)
  have cc:=ma x { now with st:=d } (by have:=hc x hxm;omega)
  rw [hb2] at cc
  simp only [ib,Dt,Ar] at cc
  have b1:(0:Int)≤((out.length-1:Nat):Int)∧((out.length-1:Nat):Int)<(out.length:Int):=by omega
  simp only [A5,V.names,A4,Dt,Ar,Ca,Ea,d0,w1,d1,hx,A0,↓A3,seval]
  repeat' first|(refine tz hP cc ?_;try simp only [d0,w1,d1,hx,A0,↓A3,seval])|refine ⟨λh=>?_,λh=>?_⟩|refine aX ?_|fail
  refine Et (Wk.sw 16 1001 _ hfn (by simp [A5,V.names,A4,Ca,Dt]) (by simp [A5,V.names,A4,Ca,Dt])) ?_
  simp only [Ca,Dt,Ar,Ea,A7,A0,↓A3,seval]
  exact Bf.app1 Ea (λi hi=>by simp [hi,Ea,Ar]) (by simp [Ea,Ar,litRow])
theorem Kw {own:List (Nat×Go.Bx.Own)} {k1 k2 k3:Nat} {o1 o2 o3:Go.Bx.Own} (h1:own? own k1=some o1) (h2:own? own k2=some o2) (h3:own? own k3=some o3):∀ k' o',(k',o')∈[(k1,o1),(k2,o2),(k3,o3)]→own? own k'=some o':=λk' o' hm=>by
 simp only [List.mem_cons,Prod.mk.injEq,List.not_mem_nil,or_false] at hm
 rcases hm with ⟨rfl,rfl⟩|⟨rfl,rfl⟩|⟨rfl,rfl⟩
 ·exact h1
 ·exact h2
 ·exact h3
def G9 (ch:List Ch) (x:Sl×List Sl) (i:Int):Sl×List Sl:=(F8 { x.1 with sf:=(ch.getD i.toNat default).dy } (ch.getD i.toNat default),Hj x.1 x.2 (ch.getD i.toNat default).dy)
def zw (h:Hi):Sl×List Sl:=(⟨h.tm.sf,0,true,h.tm.rk,h.tm.cv,0⟩,[])
def E4 (h:Hi) (k:Nat):Sl×List Sl:=((Dc h.ch).take k).foldl (G9 h.ch) (zw h)
def M8 (h:Hi):List Sl:=Hj (E4 h h.ch.length).1 (E4 h h.ch.length).2 h.tm.st
structure vv (Q:List Cv→Prop) (k:Nat) (x:Sl×List Sl):Prop where
 len:x.2.length≤k
 now:Q x.1.cv
 cv:∀ s,s∈x.2→Q s.cv
theorem Wt (now:Sl) (out:List Sl) (d:Int):(Hj now out d).length≤out.length+1:=by
 unfold Hj
 split
 ·omega
 ·split
  ·simp
  ·simp
theorem Ug {Q:List Cv→Prop} {now:Sl} {out:List Sl} {d:Int} (h1:Q now.cv) (h2:∀ s,s∈out→Q s.cv):∀ s,s∈Hj now out d→Q s.cv:=by
 unfold Hj
 split
 ·exact h2
 ·split
  ·rename_i hb
   simp only [Um,Bool.and_eq_true,decide_eq_true_eq] at hb
   intro s hs
   rcases List.mem_or_eq_of_mem_set hs with h|h
   ·exact h2 s h
   ·obtain ⟨x,-,hg,hm,-⟩:=Ae (l:=out) (k:=out.length-1) (by omega)
    rw [h,hg];exact h2 x hm
  ·intro s hs
   rcases List.mem_append.1 hs with h|h
   ·exact h2 s h
   ·rw [List.mem_singleton.1 h];exact h1
theorem ja {Q:List Cv→Prop} {s:Sl} {c:Ch} (h1:Q s.cv) (h2:Q c.cv):Q (F8 s c).cv:=by
 unfold F8
 split
 ·exact h1
 ·split
  ·exact h2
  ·split
   ·exact h1
   ·split<;>exact h1
theorem vv.step {Q:List Cv→Prop} {h:Hi} (hc:∀ c,c∈h.ch→Q c.cv) {k:Nat} {x:Sl×List Sl} (hx:vv Q k x) {i:Int} (hi:okH h.ch i):vv Q (k+1) (G9 h.ch x i):=by
 obtain ⟨c,-,hg,hm,-⟩:=Ae (l:=h.ch) (k:=i.toNat) (by have:=hi.1;have:=hi.2;omega)
 refine ⟨?_,?_,?_⟩
 ·have:=Wt x.1 x.2 (h.ch.getD i.toNat default).dy
  have:=hx.len
  simp only [G9];omega
 ·simp only [G9];rw [hg];exact ja hx.now (hc c hm)
 ·simp only [G9];exact Ug hx.now hx.cv
theorem Mf {Q:List Cv→Prop} {h:Hi} (ht:Q h.tm.cv) (hc:∀ c,c∈h.ch→Q c.cv):∀ k,vv Q k (E4 h k)
 |0=>⟨Nat.le_refl _,ht,λs hs=>by simp [E4,zw] at hs⟩
 |k+1=>by
  by_cases hk:k<(Dc h.ch).length
  ·obtain ⟨x,hd,hg,hm,he⟩:=Ae hk
   have:E4 h (k+1)=G9 h.ch (E4 h k) x:=by rw [E4,List.take_add_one,he,List.foldl_append];rfl
   rw [this]
   exact (Mf ht hc k).step hc (Kr _ x hm)
  ·have:E4 h (k+1)=E4 h k:=by rw [E4,E4,List.take_of_length_le (by omega),List.take_of_length_le (by omega)]
   rw [this]
   have:=Mf ht hc k
   exact ⟨by have:=this.len;omega,this.now,this.cv⟩
structure Oh (h:Hi):Prop where
 t:h.tm.cv.length≤1000000
 n:h.ch.length≤100000
 c:∀ c,c∈h.ch→c.cv.length≤1000000
theorem sCut (hh:Hi) (z:Oh hh):Aj Tryz.prog 109 [Da hh] [] (.osl 7) [(7,Ca (M8 hh))] [7]:=by
 have co:=Zw hh (by have:=z.n;omega)
 simp only [Da,Dd,Ar,Bv,Bn] at co
 have hb:hh.tm.cv.length*40≤140737488355328∧hh.tm.cv.length≤maxLen:=⟨by have:=z.t;omega,by have:=z.t;simp only [maxLen];omega⟩
 have hol:=P7 hh.ch
 refine qO Tryz.func109 ?_
 intro c hP hfn
 replace hfn:c.fn=[]:=hfn
 simp only [A5,V.names,A4,Da,Dd,Ar,Bv,Bn,A0,↓A3,seval]
 repeat' first|(refine tz hP co ?_;try simp only [A0,↓A3,seval])|refine ⟨λh=>?_,λh=>?_⟩|refine aX ?_|fail
 refine B4.loop (X:=Nat) (λk=>⟨[(1,.mem (V3 hh)),(3,.own 3 0),(4,.own 4 0),(5,.own 5 0),(6,.fn (.func 133) [] [.own 4 0,.own 5 0]),(26,.d (slK .i64 (Dc hh.ch))),(27,.d (.int .i64 (Dc hh.ch).length)),(28,.d (.int .i64 k))],[(3,.fix [.d (.int .i64 hh.tm.sf),.d (.int .i64 hh.tm.st)]),(4,.fix (Dt (E4 hh k).1)),(5,.fix [.osl 1000]),(1000,Ca (E4 hh k).2)],[1,3,4,5,1000]⟩)
  (λk=>k≤(Dc hh.ch).length) (λk=>(Dc hh.ch).length-k) 0 (Nat.zero_le _) ?_ ?_
 ·refine (Wk.pubF 1 rfl rfl).trans ((Wk.pub 22 rfl).trans ((Wk.row0F 5 0 1000 140 9 (λ_=>[]) rfl rfl (by simp)).trans (Wk.of _ hfn rfl ?_ ?_)))
  ·simp only [V3,Bv,Ar,Bn,A7,A0,↓A3,seval]
  ·simp only [Ca,E4,zw,Dt,Ar,List.foldl_nil,A7,A0,↓A3,seval]
   exact Bf.row rfl (λi hi=>absurd hi (Nat.not_lt_zero i))
 intro k hk
 have hI:=Mf (Q:=λl=>l.length≤1000000) z.t z.c k
 by_cases hlt:k<(Dc hh.ch).length
 ·obtain ⟨i,hd,hg,hm,he⟩:=Ae hlt
  have hi:=Kr _ i hm
  obtain ⟨h1,h2⟩:=hi
  obtain ⟨c',hd',hg',hm',-⟩:=Ae (l:=hh.ch) (k:=i.toNat) (by omega)
  have hS:E4 hh (k+1)=G9 hh.ch (E4 hh k) i:=by rw [E4,List.take_add_one,he,List.foldl_append];rfl
  have hS2:G9 hh.ch (E4 hh k) i=(F8 { (E4 hh k).1 with sf:=c'.dy } c',Hj (E4 hh k).1 (E4 hh k).2 c'.dy):=by rw [G9,hg']
  rw [hS2] at hS
  have hfin:∀ st:St,Wk c st ⟨[(1,.mem (V3 hh)),(3,.own 3 0),(4,.own 4 0),(5,.own 5 0),(6,.fn (.func 133) [] [.own 4 0,.own 5 0]),(26,.d (slK .i64 (Dc hh.ch))),(27,.d (.int .i64 (Dc hh.ch).length)),(28,.d (.int .i64 ((k+1:Nat):Int)))],[(3,.fix [.d (.int .i64 hh.tm.sf),.d (.int .i64 hh.tm.st)]),(4,.fix (Dt (F8 { (E4 hh k).1 with sf:=c'.dy } c'))),(5,.fix [.osl 1000]),(1000,Ca (Hj (E4 hh k).1 (E4 hh k).2 c'.dy))],[1,3,4,5,1000]⟩→Wk c st ⟨[(1,.mem (V3 hh)),(3,.own 3 0),(4,.own 4 0),(5,.own 5 0),(6,.fn (.func 133) [] [.own 4 0,.own 5 0]),(26,.d (slK .i64 (Dc hh.ch))),(27,.d (.int .i64 (Dc hh.ch).length)),(28,.d (.int .i64 ((k+1:Nat):Int)))],[(3,.fix [.d (.int .i64 hh.tm.sf),.d (.int .i64 hh.tm.st)]),(4,.fix (Dt (E4 hh (k+1)).1)),(5,.fix [.osl 1000]),(1000,Ca (E4 hh (k+1)).2)],[1,3,4,5,1000]⟩:=λst h=>by rw [hS];exact h
  have dc:=(sDoes { (E4 hh k).1 with sf:=c'.dy } c' (z.c c' hm')).sw 1 4
  have d0:decide ((k:Int)<((Dc hh.ch).length:Int))=true:=decide_eq_true (by omega)
  have w1:IntKind.i64.wrap ((k:Int)+1)=((k+1:Nat):Int):=wS (by have:=z.n;omega)
  generalize E4 hh k=x at *
  obtain ⟨now,out⟩:=x
  have hl:out.length≤k:=hI.len
  have hn:=z.n
  simp only [Ia,Js,Dt,Ar,A0,↓A3,seval] at dc
  by_cases hb:now.sf=c'.dy∨Um now out c'.dy=true
  ·have ec:=((xa now out c'.dy (by omega) hI.cv hb).sw 901 4).sw 902 5
   simp only [Ca,Dt,Ar,A0,↓A3,seval] at ec
   simp only [V3,Bv,Bn,Ar,Dt,Ca,hg,hg',d0,A0,↓A3,seval]
   repeat' first|refine ⟨λh=>?_,λh=>?_⟩|refine aX ?_|fail
   refine TR.callv [(4,.fix (Dt now)),(5,.fix [.osl 1000]),(1000,Ca out)] [(4,.fix (Dt { now with sf:=c'.dy })),(5,.fix [.osl 1000]),(1000,Ca (Hj now out c'.dy))] _ [] rfl (by rw [hP];exact ec) trivial (by repeat' first|exact trivial|(intro _;assumption)|apply And.intro) (Kw rfl rfl rfl) (by simp [keysO]) (by simp) ?_
   simp only [hg,hg',Dt,Ar,Ca,A0,↓A3,seval]
   repeat' first|refine ⟨λh=>?_,λh=>?_⟩|refine aX ?_|fail
   refine tC [(4,.fix (Dt { now with sf:=c'.dy }))] [(4,.fix (Dt (F8 { now with sf:=c'.dy } c')))] hP dc (B7 rfl) ?_
   simp only [w1,Dt,Ar,A0,↓A3,seval]
   repeat' first|refine ⟨λh=>?_,λh=>?_⟩|refine aX ?_|fail
   refine Al.on (k+1) hlt (by omega) (hfin _ (Wk.of _ hfn rfl (by simp only [V3,Bv,Bn,Ar,w1,A7,A0,↓A3,seval]) (by simp only [Ca,Dt,Ar,A7,A0,↓A3,seval])))
  ·have ec:=((((xe now out c'.dy (by omega) hI.cv hb).sw 901 4).sw 902 5))
   simp only [Ca,Dt,Ar,A0,↓A3,seval] at ec
   simp only [V3,Bv,Bn,Ar,Dt,Ca,hg,hg',d0,A0,↓A3,seval]
   repeat' first|refine ⟨λh=>?_,λh=>?_⟩|refine aX ?_|fail
   refine TR.callv [(4,.fix (Dt now)),(5,.fix [.osl 1000]),(1000,Ca out)] [(4,.fix (Dt { now with sf:=c'.dy })),(5,.fix [.osl 1001]),(1001,Ca (Hj now out c'.dy))] _ [1001] rfl (by rw [hP];exact ec) trivial (by repeat' first|exact trivial|(intro _;assumption)|apply And.intro) (Kw rfl rfl rfl) (by simp [keysO]) (by simp) ?_
   simp only [hg,hg',Dt,Ar,Ca,A0,↓A3,seval]
   repeat' first|refine ⟨λh=>?_,λh=>?_⟩|refine aX ?_|fail
   refine tC [(4,.fix (Dt { now with sf:=c'.dy }))] [(4,.fix (Dt (F8 { now with sf:=c'.dy } c')))] hP dc (B7 rfl) ?_
   simp only [w1,Dt,Ar,A0,↓A3,seval]
   repeat' first|refine ⟨λh=>?_,λh=>?_⟩|refine aX ?_|fail
   refine Al.on (k+1) hlt (by omega) (hfin _ ((Wk.sw 1001 1000 _ hfn (by simp) (by simp)).trans (Wk.of _ hfn rfl (by simp only [V3,Bv,Bn,Ar,w1,A7,A0,↓A3,seval]) (by simp only [Ca,Dt,Ar,A7,A0,↓A3,seval]))))
 ·have d0:decide ((k:Int)<((Dc hh.ch).length:Int))=false:=decide_eq_false (by omega)
  have hkn:k=hh.ch.length:=by omega
  subst hkn
  have hC:M8 hh=Hj (E4 hh hh.ch.length).1 (E4 hh hh.ch.length).2 hh.tm.st:=rfl
  rw [hC]
  generalize E4 hh hh.ch.length=x at *
  obtain ⟨now,out⟩:=x
  have hl:out.length≤hh.ch.length:=hI.len
  have hn:=z.n
  by_cases hb:now.sf=hh.tm.st∨Um now out hh.tm.st=true
  ·have ec:=((xa now out hh.tm.st (by omega) hI.cv hb).sw 901 4).sw 902 5
   simp only [Ca,Dt,Ar,A0,↓A3,seval] at ec
   simp only [V3,Bv,Bn,Ar,Dt,Ca,d0,A0,↓A3,seval]
   repeat' first|refine ⟨λh=>?_,λh=>?_⟩|refine aX ?_|fail
   refine TR.callv [(4,.fix (Dt now)),(5,.fix [.osl 1000]),(1000,Ca out)] [(4,.fix (Dt { now with sf:=hh.tm.st })),(5,.fix [.osl 1000]),(1000,Ca (Hj now out hh.tm.st))] _ [] rfl (by rw [hP];exact ec) trivial (by repeat' first|exact trivial|(intro _;assumption)|apply And.intro) (Kw rfl rfl rfl) (by simp [keysO]) (by simp) ?_
   simp only [Dt,Ar,Ca,A0,↓A3,seval]
   repeat' first|refine ⟨λh=>?_,λh=>?_⟩|refine aX ?_|fail
   refine rK (Wk.sw 1000 7 _ hfn (by simp) (by simp)) ?_
   simp only [Ca,A7,A0,↓A3,seval]
  ·have ec:=((xe now out hh.tm.st (by omega) hI.cv hb).sw 901 4).sw 902 5
   simp only [Ca,Dt,Ar,A0,↓A3,seval] at ec
   simp only [V3,Bv,Bn,Ar,Dt,Ca,d0,A0,↓A3,seval]
   repeat' first|refine ⟨λh=>?_,λh=>?_⟩|refine aX ?_|fail
   refine TR.callv [(4,.fix (Dt now)),(5,.fix [.osl 1000]),(1000,Ca out)] [(4,.fix (Dt { now with sf:=hh.tm.st })),(5,.fix [.osl 1001]),(1001,Ca (Hj now out hh.tm.st))] _ [1001] rfl (by rw [hP];exact ec) trivial (by repeat' first|exact trivial|(intro _;assumption)|apply And.intro) (Kw rfl rfl rfl) (by simp [keysO]) (by simp) ?_
   simp only [Dt,Ar,Ca,A0,↓A3,seval]
   repeat' first|refine ⟨λh=>?_,λh=>?_⟩|refine aX ?_|fail
   refine rK (Wk.sw 1001 7 _ hfn (by simp) (by simp)) ?_
   simp only [Ca,A7,A0,↓A3,seval]
theorem Oj (l:List Cv) (hl:l.length≤1000000):Aj Tryz.prog 104 [.d (Ar l)] [] (.d (Ar l)) [] []:=by
 have hb:l.length*40≤140737488355328∧l.length≤maxLen:=⟨by omega,by simp only [maxLen];omega⟩
 refine qP Tryz.func104 λc hP hfn=>?_;simp only [Ar,A0,↓A3,seval]
 refine ⟨λh=>?_,?_⟩
 ·refine rp ?_
  simp only [h,B8,A0,↓A3,seval]
  exact Ag.nil rfl (λh=>by cases h)
 ·repeat' first|refine ⟨λh=>?_,λh=>?_⟩|refine aX ?_|fail
  refine rK (Wk.pub 7 rfl) trivial ?_
  simp only [B8,A7,A0,↓A3,seval]
theorem um (l:List (Int×Int)) (hl:l.length≤1000000):Aj Tryz.prog 159 [.d (Br l)] [] (.d (Br l)) [] []:=by
 have hb:l.length*16≤140737488355328∧l.length≤maxLen:=⟨by omega,by simp only [maxLen];omega⟩
 refine qP Tryz.func159 λc hP hfn=>?_;simp only [Br,A0,↓A3,seval]
 refine ⟨λh=>?_,?_⟩
 ·refine rp ?_
  simp only [h,B8,A0,↓A3,seval]
  exact Ag.nil rfl (λh=>by cases h)
 ·repeat' first|refine ⟨λh=>?_,λh=>?_⟩|refine aX ?_|fail
  refine rK (Wk.pub 7 rfl) trivial ?_
  simp only [B8,A7,A0,↓A3,seval]
theorem Yu (l:List Int) (hl:l.length≤1000000):Aj Tryz.prog 160 [.d (slK .i64 l)] [] (.d (slK .i64 l)) [] []:=by
 have hb:l.length*8≤140737488355328∧l.length≤maxLen:=⟨by omega,by simp only [maxLen];omega⟩
 refine qP Tryz.func160 λc hP hfn=>?_;simp only [slK,A0,↓A3,seval]
 refine ⟨λh=>?_,?_⟩
 ·refine rp ?_
  simp only [h,B8,A0,↓A3,seval]
  exact Ag.nil rfl (λh=>by cases h)
 ·repeat' first|refine ⟨λh=>?_,λh=>?_⟩|refine aX ?_|fail
  refine rK (Wk.pub 7 rfl) trivial ?_
  simp only [B8,A7,A0,↓A3,seval]
structure Qo (v:Vs):Prop where
 age:v.age.length≤1000000
 zn:v.zn.length≤1000000
 pr:v.pr.length≤1000000
theorem Qo.short {v:Vs} (h:Qo v):U5 v:=⟨by have:=h.age;omega,by have:=h.zn;omega,by have:=h.pr;omega⟩
theorem sOwnV (v:Vs) (hv:Qo v):Aj Tryz.prog 132 [vV v] [] (vV v) [] []:=by
 have c1:=um v.age hv.age
 have c2:=Yu v.zn hv.zn
 have c3:=Yu v.pr hv.pr
 simp only [Br,slK] at c1 c2 c3
 refine qP Tryz.func132 λc hP hfn=>?_;simp only [vV,cV,Br,slK,A0,↓A3,seval]
 repeat' first|(refine tq hP (h:=⟨_,λ_=>by first|exact c1|exact c2|exact c3,?_⟩);try simp only [A0,↓A3,seval])|refine ⟨λh=>?_,λh=>?_⟩|refine aX ?_|fail
 exact rr
theorem ww (t:Tm) (ht:t.cv.length≤1000000):Aj Tryz.prog 214 [ie t] [] (ie t) [] []:=by
 have c1:=Oj t.cv ht
 simp only [Ar] at c1
 refine qP Tryz.func214 λc hP hfn=>?_;simp only [ie,uf,Ar,A0,↓A3,seval]
 repeat' first|(refine tz hP c1 ?_;try simp only [A0,↓A3,seval])|refine ⟨λh=>?_,λh=>?_⟩|refine aX ?_|fail
 exact rr
def De (v:Vs):List D:=[.int .i64 v.fr,.int .i64 v.b0,.int .i64 v.b1,.int .i64 v.b2,.int .i64 v.b3,Br v.age,slK .i64 v.zn,slK .i64 v.pr,.int .i64 v.mn]
def C5 (l:List Vs):D:=.sl false 9 l.length (λi=>De (l.getD i default))
theorem sBackV (l:List Vs):Aj Tryz.prog 131 [.d (C5 l)] [] (.fn (.func 158) [] [.mem [C5 l]]) [] []:=by
 refine qP Tryz.func131 λc hP hfn=>?_;simp only [C5,A0,↓A3,seval]
 repeat' first|refine ⟨λh=>?_,λh=>?_⟩|refine aX ?_|fail
 exact Ci.mk _ (Wk.pubF 1 rfl rfl) (by simp only [B8,A0,↓A3,seval]) (by simp only [B8,A7,A0,↓A3,seval]) trivial
def Tz (l:List Vs) (k:Nat):List V:=[.d (.int .i64 ((l.length-1-k:Nat):Int)),vV (l.getD (l.length-1-k) default)]
theorem jz (l:List Vs) (hl:l.length≤1000000):L3 Tryz.prog 158 [.mem [C5 l]] (Tz l) l.length:=by
 refine Ld Tryz.func158 ok158 rfl cc158 cr158 (by simp only [Tryz.ntmps158,List.length_cons,List.length_nil];decide) rfl (λ_=>rfl) ?_
 intro c l' T stop Z hP _ hZ hT hT' hY
 have w1:IntKind.i64.wrap ((l.length:Int)-1)=(l.length:Int)-1:=wI (by omega)
 simp only [vy,C5,w1,A0,↓A3,seval]
 refine B4.loop (X:=Nat) (λk=>⟨[(0,.fn (.yield l') [] []),(1,.mem [C5 l]),(3,.d (.int .i64 ((l.length:Int)-1-(k:Int))))],[]++Z k,[]++keysO (Z k)⟩)
  (λk=>k≤l.length∧k≤T∧(stop=true→k<T)) (λk=>l.length-k) 0 ⟨Nat.zero_le _,Nat.zero_le _,λh=>(hT' h).1⟩ (Wk.ofZ hZ rfl 0 (own:=[]) (nm:=[]) rfl rfl (by simp only [C5,w1,A7,A0,↓A3,seval];omega) (by simp only [A7,A0,↓A3,seval]) (λn o hm=>Ay (hZ.nodup 0) hm)) ?_
 rintro k ⟨hk,hkT,hks⟩
 by_cases hlt:k<l.length
 ·have d0:decide ((l.length:Int)-1-(k:Int)≥0)=true:=decide_eq_true (by omega)
  have e0:(l.length:Int)-1-(k:Int)=((l.length-1-k:Nat):Int):=by omega
  have e1:IntKind.i64.wrap (((l.length-1-k:Nat):Int)-1)=(l.length:Int)-1-((k+1:Nat):Int):=(wI (by omega)).trans (by omega)
  have b1:(0:Int)≤((l.length-1-k:Nat):Int)∧((l.length-1-k:Nat):Int)<(l.length:Int):=by omega
  have hlT:k<T:=by
   cases hst:stop with
   |true=>exact hks hst
   |false=>rw [hT hst];exact hlt
  rw [e0] at d0
  simp only [C5,De,e0,d0,A0,↓A3,seval]
  repeat' first|refine ⟨λh=>?_,λh=>?_⟩|refine aX ?_|fail
  refine TR.yield hZ rfl (hY k hlT) (own:=[]) (nm:=[]) rfl rfl rfl trivial (by simp only [Tz,vV,cV,C5,Br,A0,↓A3,seval]) (by simp only [A0,↓A3,seval]) ?_
  simp only [A0,↓A3,seval]
  refine ⟨λhg=>?_,λhg=>?_⟩
  ·have hT1:T=k+1:=by
    simp [F7] at hg
    have:=hks hg.2
    omega
   subst hT1
   exact Ka.mk _ (Wk.refl _ _) (OwnLe.of λn o hm=>⟨o,Ay (hZ.nodup (k+1)) hm,Bf.refl o⟩)
  ·have hg':k+1<T∨stop=false:=by
    simp [F7] at hg
    by_cases h9:k+1<T
    ·exact .inl h9
    ·exact .inr (hg (by omega))
   simp only [e1,A0,↓A3,seval]
   refine Al.on (k+1) ⟨hlt,hlT,λh=>hg'.resolve_right (by rw [h];simp)⟩ (by omega) (Wk.ofZ hZ rfl (k+1) (own:=[]) (nm:=[]) rfl rfl (by simp only [C5,e1,A7,A0,↓A3,seval]) (by simp only [A7,A0,↓A3,seval]) (λn o hm=>Ay (hZ.nodup (k+1)) hm))
 ·have hkl:k=l.length:=by omega
  have hst:stop=false:=by
   cases hst:stop with
   |false=>rfl
   |true=>have:=hks hst;have:=(hT' hst).2;omega
  have hTk:T=k:=by rw [hT hst,hkl]
  have d0:decide ((l.length:Int)-1-(k:Int)≥0)=false:=decide_eq_false (by omega)
  simp only [d0,A0,↓A3,seval]
  repeat' first|refine ⟨λh=>?_,λh=>?_⟩|refine aX ?_|fail
  rw [hTk]
  exact Ka.mk' _ (Wk.refl _ _) (OwnLe.of λn o hm=>⟨o,Ay (hZ.nodup k) hm,Bf.refl o⟩)
def zy (l:List Vs) (d:Int):Option Vs:=l.reverse.find? (λv=>decide (v.fr≤d))
def zV:Vs:=⟨0,0,0,0,0,[],[],[],0⟩
def atO (o:Option Vs):Vs:=o.getD zV
def atE (o:Option Vs):Int:=if o.isSome then 0 else 7
def N1:List V:=[.d (.int .i64 0),.d (.int .i64 0),.d (.int .i64 0),.d (.int .i64 0),.d (.int .i64 0),.d (.sl true 0 0 λ_=>[]),.d (.sl true 0 0 λ_=>[]),.d (.sl true 0 0 λ_=>[]),.d (.int .i64 0)]
theorem bk_at {l:List Vs} {k:Nat} (h:k<l.length):l.reverse[k]?=some (l.getD (l.length-1-k) default):=by
 rw [List.getElem?_reverse h,List.getD_eq_getElem?_getD]
 have:l.length-1-k<l.length:=by omega
 rw [List.getElem?_eq_getElem this];rfl
theorem Yz {X:Type} (p:X→Bool):∀ (l:List X),(∃ (k:Nat) (x:X),l[k]?=some x∧p x=true∧l.find? p=some x∧∀ (j:Nat) (y:X),j<k→l[j]?=some y→p y=false)∨(l.find? p=none∧∀ (j:Nat) (y:X),l[j]?=some y→p y=false)
 |[]=>.inr ⟨rfl,λj y h=>by simp at h⟩
 |a::l=>by
  cases ha:p a with
  |true=>exact .inl ⟨0,a,rfl,ha,by rw [List.find?_cons,ha],λj y h=>absurd h (Nat.not_lt_zero j)⟩
  |false =>
   rcases Yz p l with ⟨k,x,h1,h2,h3,h4⟩|⟨h1,h2⟩
   ·refine .inl ⟨k+1,x,h1,h2,by rw [List.find?_cons,ha];exact h3,λj y hj hy=>?_⟩
    cases j with
    |zero=>simp at hy;subst hy;exact ha
    |succ j=>exact h4 j y (by omega) (by simpa using hy)
   ·refine .inr ⟨by rw [List.find?_cons,ha];exact h1,λj y hy=>?_⟩
    cases j with
    |zero=>simp at hy;subst hy;exact ha
    |succ j=>exact h2 j y (by simpa using hy)
def Gf (d:Int) (cs:List V):List (Nat×Go.Bx.Own):=[(3,.fix [.d (.int .i64 d)]),(4,.fix cs),(5,.fix [.d (.int .i64 0)])]
def Ml (d:Int) (v:Vs) (cs:List V):List (Nat×Go.Bx.Own):=[(3,.fix [.d (.int .i64 d)]),(4,.fix cs),(5,.fix [.d (.int .i64 0)]),(7,.fix (cV v))]
def Oe (l:List Vs):List (Nat×V):=[(3,.own 3 0),(4,.own 4 0),(5,.own 5 0),(10,.fn (.func 158) [] [.mem [C5 l]])]
def Tn:List (Nat×V):=[(3,.own 3 0),(4,.own 4 0),(5,.own 5 0),(7,.own 7 0)]
theorem lq (d:Int) (cs:Nat→List V) (h:∀ k,A5 (cs k)=[]):Ma [3,4,5] (λk=>Gf d (cs k)):=by
 refine ⟨λk=>by simp [Gf,keysO],λk n hn=>?_,λk n hn=>by simpa [Gf,keysO] using hn⟩
 simp only [Gf,A4,A5,V.names,h,List.append_nil,List.nil_append] at hn
 simpa [Gf,keysO] using hn
theorem Z5 (d:Int) (v:Nat→Vs) (cs:Nat→List V) (h:∀ k,A5 (cs k)=[]):Ma [3,4,5] (λk=>Ml d (v k) (cs k)):=by
 refine ⟨λk=>by simp [Ml,keysO],λk n hn=>?_,λk n hn=>?_⟩
 ·simp only [Ml,cV,A4,A5,V.names,h,List.append_nil,List.nil_append] at hn
  simpa [Ml,keysO] using hn
 ·simp only [List.mem_cons,List.not_mem_nil,or_false] at hn
  rcases hn with h|h|h<;>simp [Ml,keysO,h]
theorem Na {l:List (Nat×V)} {NF:List Nat} (h:∀ s y,(s,y)∈l→∀ n,n∈y.names→n∈NF):∀ s n,n∈(Go.Bx.get l s).names→n∈NF:=by
 induction l with
 |nil=>intro s n hn;simp [Go.Bx.get,V.names] at hn
 |cons p l ih =>
  obtain ⟨s',y⟩:=p
  intro s n hn
  simp only [Go.Bx.get] at hn
  split at hn
  ·exact h s' y (by simp) n hn
  ·exact ih (λs y hm=>h s y (by simp [hm])) s n hn
theorem ph (l:List Vs):∀ s n,n∈(Go.Bx.get (Oe l) s).names→n∈[3,4,5]:=Na λs y hm n hn=>by
 simp only [Oe,List.mem_cons,Prod.mk.injEq,List.not_mem_nil,or_false] at hm
 rcases hm with ⟨rfl,rfl⟩|⟨rfl,rfl⟩|⟨rfl,rfl⟩|⟨rfl,rfl⟩<;>simp [V.names,A5] at hn ⊢<;>simp [hn]
theorem sAtV (l:List Vs) (d:Int) (hl:l.length≤1000000) (hz:∀ v,v∈l→Qo v):Aj Tryz.prog 108 [.ag [.d (C5 l)],.d (.int .i64 d)] [] (.tup [vV (atO (zy l d)),.d (.int .i64 (atE (zy l d)))]) [] []:=by
 have cb:=sBackV l
 simp only [C5,De] at cb
 refine qT Tryz.func108 λc hP hfn hrd=>?_;simp only [C5,De,A0,↓A3,seval]
 repeat' first|(refine tz hP cb ?_;try simp only [A0,↓A3,seval])|refine ⟨λh=>?_,λh=>?_⟩|refine aX ?_|fail
 have hI:=jz l hl
 rw [←hP] at hI
 have hv:∀ k,k<l.length→l.reverse[k]?=some (l.getD (l.length-1-k) default):=λk hk=>bk_at hk
 have hmem:∀ k,k<l.length→l.getD (l.length-1-k) default∈l:=λk hk=>by
  obtain ⟨x,-,hg,hm,-⟩:=Ae (l:=l) (k:=l.length-1-k) (by omega)
  rw [hg];exact hm
 rcases Yz (λv:Vs=>decide (v.fr≤d)) l.reverse with ⟨K,x,h1,h2,h3,h4⟩|⟨h3,h4⟩
 ·have hK:K<l.length:=by have:=(List.getElem?_eq_some_iff.1 h1).1;simpa using this
  have hx:l.getD (l.length-1-K) default=x:=by have:=hv K hK;rw [h1] at this;injection this with this;exact this.symm
  have hat:zy l d=some x:=h3
  have hcs:∀ k,A5 (if k=K+1 then cV x else N1)=[]:=λk=>by split<;>simp [cV,N1,A5,V.names]
  refine B4.rfnJ hI (K+1) (some .ret) (Oe l) [3,4,5] (λk=>Gf d (if k=K+1 then cV x else N1)) (λk=>Ml d (l.getD (l.length-1-k) default) N1) (λ_=>Tn) ?_ rfl trivial
   ⟨hrd,lq d _ hcs,Z5 d _ _ (λ_=>by simp [N1,A5,V.names]),λn hn=>(by rw [hfn] at hn;cases hn),ph l,rfl,λ_=>rfl,λ_=>rfl,λh=>(by cases h),λ_=>⟨by omega,by omega⟩,λh=>(by cases h)⟩ ?_ ?_ (λh=>by cases h) ?_
  ·refine Wk.of (b:=⟨Oe l,Gf d N1,[3,4,5]⟩) _ hfn rfl ?_ ?_
   ·simp only [Oe,C5,De,Br,A7,A0,↓A3,seval]
   ·simp only [Gf,N1,A7,A0,↓A3,seval]
  ·intro k hk cB hPB hfB
   have hne:¬ k=K+1:=by omega
   simp only [I2,Tz,vV,cV,Gf,Oe,N1,hne,if_false,A0,↓A3,seval]
   rw [Jj]
   refine Wk.of (b:=⟨Tn,Ml d (l.getD (l.length-1-k) default) N1,[3,4,5,7]⟩) _ hfB rfl ?_ ?_
   ·simp only [Tn,A7,A0,↓A3,seval]
   ·simp only [Ml,N1,cV,A7,A0,↓A3,seval]
  ·intro k hk cB hPB hfB
   have hP:=hPB.trans hP
   by_cases hkK:k=K
   ·subst hkK
    have hg:F7 (k+1) (some Ex.ret).isSome k=false:=by simp [F7]
    have d0:decide (x.fr≤d)=true:=h2
    have co:=sOwnV x (hz x (by rw [←hx];exact hmem k hK))
    simp only [vV,cV,Br] at co
    simp only [hg,hx,if_true]
    simp only [Ml,Tn,Gf,cV,Br,N1,d0,A0,↓A3,seval]
    repeat' first|(refine tz hP co ?_;try simp only [d0,A0,↓A3,seval])|refine ⟨λh=>?_,λh=>?_⟩|refine aX ?_|fail
    all_goals
     exact Wk.of (b:=⟨[],Gf d (cV x),[3,4,5]⟩) _ hfB rfl (by simp only [A7,A0,↓A3,seval]) (by simp only [Gf,cV,Br,A7,A0,↓A3,seval])
   ·have hg:F7 (K+1) (some Ex.ret).isSome k=true:=by simp [F7];omega
    have hne:¬ k+1=K+1:=by omega
    obtain ⟨y,hy⟩:∃ y,l.getD (l.length-1-k) default=y:=⟨_,rfl⟩
    have d0:decide (y.fr≤d)=false:=by rw [←hy];exact h4 k _ (by omega) (hv k (by omega))
    simp only [hg,hy,hne,if_false]
    simp only [Ml,Tn,Gf,cV,Br,N1,d0,A0,↓A3,seval]
    repeat' first|refine ⟨λh=>?_,λh=>?_⟩|refine aX ?_|fail
    all_goals
     exact Wk.of (b:=⟨[],Gf d N1,[3,4,5]⟩) _ hfB rfl (by simp only [A7,A0,↓A3,seval]) (by simp only [Gf,N1,A7,A0,↓A3,seval])
  ·intro e he
   injection he with he
   subst he
   simp only [if_true,Oe,Gf,cV,hat,atO,atE,Option.getD_some,Option.isSome_some,A0,↓A3,seval]
   refine rp ?_
   simp only [vV,cV,B8,A7,A0,↓A3,seval]
 ·have hat:zy l d=none:=h3
  refine B4.rfnAll hI (Oe l) [3,4,5] (λk=>Gf d N1) (λk=>Ml d (l.getD (l.length-1-k) default) N1) (λ_=>Tn) ?_ rfl trivial
   ⟨hrd,lq d _ (λ_=>by simp [N1,A5,V.names]),Z5 d _ _ (λ_=>by simp [N1,A5,V.names]),λn hn=>(by rw [hfn] at hn;cases hn),ph l,rfl,λ_=>rfl,λ_=>rfl,λ_=>rfl,λh=>absurd rfl h,λh=>(by cases h)⟩ ?_ ?_ ?_
  ·refine Wk.of (b:=⟨Oe l,Gf d N1,[3,4,5]⟩) _ hfn rfl ?_ ?_
   ·simp only [Oe,C5,De,Br,A7,A0,↓A3,seval]
   ·simp only [Gf,N1,A7,A0,↓A3,seval]
  ·intro k hk cB hPB hfB
   simp only [I2,Tz,vV,cV,Gf,Oe,N1,A0,↓A3,seval]
   rw [Jj]
   refine Wk.of (b:=⟨Tn,Ml d (l.getD (l.length-1-k) default) N1,[3,4,5,7]⟩) _ hfB rfl ?_ ?_
   ·simp only [Tn,A7,A0,↓A3,seval]
   ·simp only [Ml,N1,cV,A7,A0,↓A3,seval]
  ·intro k hk cB hPB hfB
   obtain ⟨y,hy⟩:∃ y,l.getD (l.length-1-k) default=y:=⟨_,rfl⟩
   have d0:decide (y.fr≤d)=false:=by rw [←hy];exact h4 k _ (hv k hk)
   simp only [hy]
   simp only [Ml,Tn,Gf,cV,Br,N1,d0,A0,↓A3,seval]
   repeat' first|refine ⟨λh=>?_,λh=>?_⟩|refine aX ?_|fail
   all_goals
    exact Wk.of (b:=⟨[],Gf d N1,[3,4,5]⟩) _ hfB rfl (by simp only [A7,A0,↓A3,seval]) (by simp only [Gf,N1,A7,A0,↓A3,seval])
  ·simp only [Oe,Gf,N1,hat,atO,atE,A0,↓A3,seval]
   refine rp ?_
   simp only [vV,cV,B8,A7,A0,↓A3,seval]
   have nl:∀ {sz:Nat} {f g:Nat→List D},Ag (.d (.sl true 0 0 g)) (.d (.sl false sz 0 f)):=Ag.nil rfl (λh=>by cases h)
   exact Ag.tups ⟨Ag.ags ⟨Ag.refl _,Ag.refl _,Ag.refl _,Ag.refl _,Ag.refl _,nl,nl,nl,Ag.refl _,trivial⟩,Ag.refl _,trivial⟩
def X0 (v:Vs) (s:Sl):Sl:=if s.on=true then { s with yr:=(P4 v s.rk s.cv).1 } else s
def Lo (v:Vs):List Sl→Int
 |[]=>0
 |s::r=>if s.on=true∧(P4 v s.rk s.cv).2≠0 then (P4 v s.rk s.cv).2 else Lo v r
def Kx (h:Hi) (t:List Vs):List Sl×Int:=
 if He h=false then ([],1) else
  match zy t h.tm.sf with
  |none=>([],7)
  |some v=>if Lo v (M8 h)=0 then ((M8 h).map (X0 v),0) else ([],Lo v (M8 h))
theorem Ua {h:Hi} (z:Oh h):(M8 h).length≤h.ch.length+1∧∀ s,s∈M8 h→s.cv.length≤1000000:=by
 have hI:=Mf (Q:=λl=>l.length≤1000000) z.t z.c h.ch.length
 refine ⟨?_,Ug (Q:=λl=>l.length≤1000000) hI.now hI.cv⟩
 have h1:=Wt (E4 h h.ch.length).1 (E4 h h.ch.length).2 h.tm.st
 have h2:=hI.len
 simp only [M8];omega
theorem Oh.hi {h:Hi} (z:Oh h):SzHi h:=⟨by have:=z.t;omega,by have:=z.n;omega,λc hc=>by have:=z.c c hc;omega⟩
def ic (v:Vs) (l:List Sl) (k:Nat):List Sl:=(l.take k).map (X0 v)++l.drop k
theorem Og (v:Vs) (l:List Sl) (k:Nat):(ic v l k).length=l.length:=by simp [ic];omega
theorem Kq {v:Vs} {l:List Sl} {k i:Nat} (hi:i<l.length):(ic v l k).getD i default=if i<k then X0 v (l.getD i default) else l.getD i default:=by
 simp only [ic,List.getD_eq_getElem?_getD,List.getElem?_append,List.length_map,List.length_take]
 by_cases h:i<k
 ·rw [if_pos (by omega),if_pos h,List.getElem?_map,List.getElem?_take_of_lt h,List.getElem?_eq_getElem hi];rfl
 ·rw [if_neg (by omega),if_neg h,List.getElem?_drop]
  congr 2;omega
theorem vr (hh:Hi) (t:List Vs) (z:Oh hh) (ht:t.length≤1000000) (hz:∀ v,v∈t→Qo v):Aj Tryz.prog 82 [Da hh,.ag [.d (C5 t)]] [] (.tup [.d (E5 (Kx hh t).1),.d (.int .i64 (Kx hh t).2)]) [] []:=by
 have cr:=kw hh z.hi
 have ca:=sAtV t hh.tm.sf ht hz
 have cc:=(sCut hh z).sw 7 1000
 obtain ⟨hl1,hl2⟩:=Ua z
 have hn:=z.n
 simp only [Da,Dd,Ar,Bv,Bn] at cr
 simp only [Da,Dd,Ar,Bv,Bn,Ca,A0,↓A3,seval] at cc
 simp only [C5,De,vV,cV,Br] at ca
 have nl:∀ {sz:Nat} {f g:Nat→List D},Ag (.d (.sl true 0 0 g)) (.d (.sl false sz 0 f)):=Ag.nil rfl (λh=>by cases h)
 cases hr:He hh with
 |false =>
  have e:Kx hh t=([],1):=by rw [Kx,if_pos hr]
  rw [hr] at cr
  rw [e]
  refine qP Tryz.func82 λc hP hfn=>?_;simp only [Da,Dd,Ar,Bv,Bn,C5,De,Br,A0,↓A3,seval]
  repeat' first|(refine tz hP cr ?_;try simp only [A0,↓A3,seval])|refine ⟨λh=>?_,λh=>?_⟩|refine aX ?_|fail
  refine rp ?_
  simp only [B8,A0,↓A3,seval]
  exact Ag.tups ⟨nl,Ag.refl _,trivial⟩
 |true =>
  rw [hr] at cr
  cases hat:zy t hh.tm.sf with
  |none =>
   have e:Kx hh t=([],7):=by rw [Kx,if_neg (by rw [hr];simp),hat]
   have n0:((7:Int) != 0)=true:=rfl
   rw [hat] at ca
   simp only [atO,atE,Option.getD_none,Option.isSome_none,Bool.false_eq_true,if_false] at ca
   rw [e]
   refine qP Tryz.func82 λc hP hfn=>?_;simp only [Da,Dd,Ar,Bv,Bn,C5,De,Br,A0,↓A3,seval]
   repeat' first|(refine tq hP (h:=⟨_,λ_=>by first|exact cr|exact ca,?_⟩);try simp only [n0,A0,↓A3,seval])|refine ⟨λh=>?_,λh=>?_⟩|refine aX ?_|fail
   refine rp ?_
   simp only [B8,A0,↓A3,seval]
   exact Ag.tups ⟨nl,Ag.refl _,trivial⟩
  |some v =>
   have hvz:Qo v:=hz v (by
    have:=List.mem_of_find?_eq_some hat
    simpa using this)
   have e:Kx hh t=if Lo v (M8 hh)=0 then ((M8 hh).map (X0 v),0) else ([],Lo v (M8 hh)):=by rw [Kx,if_neg (by rw [hr];simp),hat]
   have n0:((0:Int) != 0)=false:=rfl
   rw [hat] at ca
   simp only [atO,atE,Option.getD_some,Option.isSome_some,if_true] at ca
   rw [e]
   generalize M8 hh=L at *
   refine qP Tryz.func82 λc hP hfn=>?_;simp only [Da,Dd,Ar,Bv,Bn,C5,De,Br,A0,↓A3,seval]
   repeat' first|(refine tq hP (h:=⟨_,λ_=>by first|exact cr|exact ca,?_⟩);try simp only [n0,A0,↓A3,seval])|refine ⟨λh=>?_,λh=>?_⟩|refine aX ?_|fail
   refine TR.call [] [(1000,Ca L)] (.osl 1000) [1000] (by rw [hP];exact cc) (by repeat' first|exact trivial|(intro _;assumption)|apply And.intro) (λk o h=>by simp at h) (by simp [keysO]) (by simp) ?_
   simp only [Ca,n0,A0,↓A3,seval]
   repeat' first|refine ⟨λh=>?_,λh=>?_⟩|refine aX ?_|fail
   refine B4.loop (X:=Nat) (λk=>⟨[(6,.own 6 0),(8,.osl 1000),(28,.osl 1000),(29,.d (.int .i64 L.length)),(30,.d (.int .i64 k))],[(6,.fix (cV v)),(1000,Ca (ic v L k))],[6,1000]⟩)
    (λk=>k≤L.length∧Lo v L=Lo v (L.drop k)) (λk=>L.length-k) 0 ⟨Nat.zero_le _,rfl⟩ (Wk.of _ hfn rfl (by simp only [A7,A0,↓A3,seval]) (by simp only [cV,Br,Ca,A7,A0,↓A3,seval];exact Bf.row (Og v L 0).symm (λi hi=>by rw [Kq hi,if_neg (Nat.not_lt_zero i)]))) ?_
   clear cr ca cc
   rintro k ⟨hk,he⟩
   have hul:=Og v L k
   by_cases hlt:k<L.length
   ·obtain ⟨s,hd,hg,hm,-⟩:=Ae hlt
    have d0:decide ((k:Int)<(L.length:Int))=true:=decide_eq_true (by omega)
    have w1:IntKind.i64.wrap ((k:Int)+1)=((k+1:Nat):Int):=wS (by omega)
    have hgk:(ic v L k).getD k default=s:=by rw [Kq hlt,if_neg (Nat.lt_irrefl k),hg]
    have b1:(0:Int)≤(k:Int)∧(k:Int)<((ic v L k).length:Int):=by omega
    have cy:=sYear v s.rk s.cv hvz.short (by have:=hl2 s hm;omega)
    simp only [vV,cV,Br,vR,cR,Ar] at cy
    rw [hd,Lo] at he
    cases hon:s.on with
    |false =>
     have hrow:∀ i,i<(ic v L k).length→Ea ((ic v L k).getD i default)=Ea ((ic v L (k+1)).getD i default):=λi hi=>by
      rw [hul] at hi
      rw [Kq hi,Kq hi]
      by_cases h1:i<k
      ·rw [if_pos h1,if_pos (by omega)]
      ·rw [if_neg h1]
       by_cases h2:i=k
       ·subst h2;rw [if_pos (by omega),hg,X0,if_neg (by rw [hon];simp)]
       ·rw [if_neg (by omega)]
     have he2:Lo v L=Lo v (L.drop (k+1)):=by rw [he,if_neg (by rw [hon];simp)]
     simp only [Ca,Ea,cV,Br,Ar,d0,hgk,hon,A0,↓A3,seval]
     repeat' first|refine ⟨λh=>?_,λh=>?_⟩|refine aX ?_|fail
     refine Al.on (k+1) ⟨hlt,he2⟩ (by omega) (Wk.of _ hfn rfl (by simp only [w1,A7,A0,↓A3,seval]) ?_)
     simp only [cV,Br,Ca,A7,A0,↓A3,seval]
     exact Bf.row (by rw [hul,Og]) hrow
    |true =>
     obtain ⟨y,e1,hy⟩:∃ y e,P4 v s.rk s.cv=(y,e):=⟨_,_,rfl⟩
     rw [hy] at cy he
     simp only at cy he
     by_cases h0:e1=0
     ·subst h0
      have he2:Lo v L=Lo v (L.drop (k+1)):=by rw [he,if_neg (by simp)]
      simp only [Ca,Ea,cV,Br,Ar,d0,hgk,hon,A0,↓A3,seval]
      repeat' first|(refine tz hP cy ?_;try simp only [d0,hgk,hon,w1,n0,A0,↓A3,seval])|refine ⟨λh=>?_,λh=>?_⟩|refine aX ?_|fail
      refine Al.on (k+1) ⟨hlt,he2⟩ (by omega) (Wk.of _ hfn rfl (by simp only [w1,A7,A0,↓A3,seval]) ?_)
      simp only [cV,Br,Ca,A7,A0,↓A3,seval]
      refine Bf.row (by rw [hul,Og]) (λi hi=>?_)
      rw [hul] at hi
      rw [Kq (k:=k+1) hi]
      by_cases h2:i=k
      ·subst h2
       rw [if_pos (Nat.lt_succ_self i),hg,X0,if_pos hon,hy]
       simp [Db,Ea,Ar,hon]
      ·rw [if_neg h2,Kq hi]
       by_cases h1:i<k
       ·rw [if_pos h1,if_pos (by omega)]
       ·rw [if_neg h1,if_neg (by omega)]
     ·have n1:(e1 != 0)=true:=bne_iff_ne.2 h0
      have he2:Lo v L=e1:=by rw [he,if_pos ⟨hon,h0⟩]
      rw [he2,if_neg h0]
      simp only [Ca,Ea,cV,Br,Ar,d0,hgk,hon,A0,↓A3,seval]
      repeat' first|(refine tz hP cy ?_;try simp only [d0,hgk,hon,w1,n1,A0,↓A3,seval])|refine ⟨λh=>?_,λh=>?_⟩|refine aX ?_|fail
      refine rp ?_
      simp only [B8,A0,↓A3,seval]
      exact Ag.tups ⟨nl,Ag.refl _,trivial⟩
   ·have d0:decide ((k:Int)<(L.length:Int))=false:=decide_eq_false (by omega)
    have hkl:k=L.length:=by omega
    subst hkl
    rw [List.drop_length,Lo] at he
    have hu:ic v L L.length=L.map (X0 v):=by simp [ic]
    rw [he,if_pos rfl]
    simp only [Ca,hu,d0,A0,↓A3,seval]
    repeat' first|refine ⟨λh=>?_,λh=>?_⟩|refine aX ?_|fail
    refine rK (Wk.pub 1000 rfl) trivial ?_
    simp only [B8,A0,↓A3,seval]
    exact Ag.refl _
end Go.Proofs.YtakohhkgeeoniaaGreat
end
