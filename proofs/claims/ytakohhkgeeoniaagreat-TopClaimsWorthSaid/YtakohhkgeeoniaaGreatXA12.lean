import Derived.Test.YtakohhkgeeoniaaGreatXA11
import Derived.Test.YtakohhkgeeoniaaGreatRows
import Derived.KernelRfl
set_option linter.unusedSimpArgs false
set_option linter.unusedVariables false
set_option maxHeartbeats 8000000
section
namespace Go.Bx
theorem N4 (p:Nat→Nat):∀ (a:List V) (n:Nat) (ys:List V),renL p (putV a n ys)=putV (renL p a) n (renL p ys)
 |[],n,ys=>by simp [putV,renL]
 |_::_,_,[]=>by simp only [oh,renL]
 |v::a,0,y::ys=>by simp only [putV,renL];rw [N4 p a 0 ys]
 |v::a,n+1,y::ys=>by simp only [putV,renL];rw [N4 p a n (y::ys)];rfl
theorem Ed {a k:Nat}:sw a a k=k:=by unfold sw;split<;>simp_all
theorem own13 (N:Nat) (h:5000≤N):Hw [⟨[],[]⟩,⟨[],[]⟩,⟨[],[]⟩,⟨[],[]⟩,⟨[1000],[]⟩,⟨[],[]⟩,⟨[1000],[]⟩,⟨[6],[]⟩,⟨[],[87]⟩,⟨[N],[N,88,88]⟩,⟨[1000],[]⟩,⟨[],[]⟩,⟨[1000],[1000]⟩] [0,0,0,0,12,28,60,0,128,508,1023,2047,4095]=true:=by
 have e:List.range 13=[0,1,2,3,4,5,6,7,8,9,10,11,12]:=by decide
 simp only [Hw,List.length_cons,List.length_nil,Nat.zero_add,Nat.reduceAdd,e,List.all_cons,List.all_nil,Bool.and_true]
 simp [List.range_succ,Ep,Rv,Fw]
 exact ⟨⟨.inl (by omega),.inl (by omega),.inl (by omega),.inl ⟨by omega,by omega⟩⟩,.inl (by omega),by decide,by decide,.inl ⟨by omega,by omega⟩,by decide⟩
end Go.Bx
namespace Go.Proofs.YtakohhkgeeoniaaGreat
open Go.Bx
set_option maxRecDepth 10000
theorem Tr {p:Int} {c:Cv} {g:Gr}:V4 p c g=true↔g.po=p∧g.cv=c:=by
 rw [V4,Bool.and_eq_true,Rb,beq_iff_eq]
def UnG (G:List Gr):Prop:=G.Pairwise λa b=>¬(a.po=b.po∧a.cv=b.cv)
theorem UnG.add {p:Int} {c:Cv} {k:Int}:∀ {G:List Gr},UnG G→UnG (Lv p c k G)
 |[],_=>by simp [UnG,Lv]
 |g::r,h=>by
  have h:=List.pairwise_cons.1 h
  have hm:∀ {r:List Gr} {x:Gr},x∈Lv p c k r→(∃ y,y∈r∧y.po=x.po∧y.cv=x.cv)∨(x.po=p∧x.cv=c):=by
   intro r
   induction r with
   |nil=>intro x hx;simp [Lv] at hx;subst hx;exact .inr ⟨rfl,rfl⟩
   |cons y r ih =>
    intro x hx
    rw [Lv] at hx
    split at hx
    ·rcases List.mem_cons.1 hx with rfl|hx
     ·exact .inl ⟨y,by simp,rfl,rfl⟩
     ·exact .inl ⟨x,by simp [hx],rfl,rfl⟩
    ·rcases List.mem_cons.1 hx with rfl|hx
     ·exact .inl ⟨x,by simp,rfl,rfl⟩
     ·rcases ih hx with ⟨z,h1,h2⟩|h1
      ·exact .inl ⟨z,by simp [h1],h2⟩
      ·exact .inr h1
  rw [Lv]
  split
  ·exact List.pairwise_cons.2 ⟨λb hb=>h.1 b hb,h.2⟩
  ·rename_i hg
   refine List.pairwise_cons.2 ⟨λb hb=>?_,UnG.add h.2⟩
   rcases hm hb with ⟨y,h1,h2,h3⟩|⟨h1,h2⟩
   ·rw [←h2,←h3];exact h.1 y h1
   ·rw [h1,h2];exact λe=>hg (Tr.2 e)
def L6 {X:Type} (p:X→Bool):List X→Nat→Int→Int
 |[],_,m=>m
 |a::r,k,m=>L6 p r (k+1) (if p a=true then (k:Int) else m)
theorem Lq {X:Type} {p:X→Bool}:∀ {l:List X} {k:Nat} {m:Int},(∀ x,x∈l→p x=false)→L6 p l k m=m
 |[],_,_,_=>rfl
 |a::r,k,m,h=>by rw [L6,if_neg (by rw [h a (by simp)];simp),Lq λx hx=>h x (by simp [hx])]
theorem Qj {X:Type} {p:X→Bool} {a:X} {B:List X} (ha:p a=true) (hB:∀ x,x∈B→p x=false):∀ {A:List X} {k:Nat} {m:Int},(∀ x,x∈A→p x=false)→L6 p (A++a::B) k m=((k+A.length:Nat):Int)
 |[],k,m,_=>by rw [List.nil_append,L6,if_pos ha,Lq hB];rfl
 |x::A,k,m,h=>by
  rw [List.cons_append,L6,Qj ha hB λy hy=>h y (by simp [hy]),List.length_cons]
  congr 1;omega
def Hv (s:Se) (k:Int):Fi:=s.fi.getD k.toNat default
def Yk (s:Se):Nat→List Fi→List Gr→List Gr×Bool
 |_,[],G=>(G,true)
 |k,f::r,G=>if (Ek s f.cl.po).isSome=true∧(Rt s f).2=0 then Yk s (k+1) r (Lv f.cl.po (Rt s f).1 (k:Int) G) else ([],false)
theorem Ur {s:Se}:∀ {l:List Fi} {k:Nat} {G:List Gr},(Yk s k l G).2=true→Xa s k l G=((Yk s k l G).1,0)
 |[],_,_,_=>rfl
 |f::r,k,G,h=>by
  rw [Yk] at h ⊢
  rw [Xa]
  split at h
  ·rename_i hc
   rw [if_neg (by simp [hc.2]),if_pos hc]
   exact Ur h
  ·cases h
def Jd (G:List Gr) (i:Nat):List Int:=(G.getD i default).at'
def Pd (s:Se) (G:List Gr) (j:Nat):Go.Bx.Own:=if j % 2=0 then .row 55 7 (Jd G (j / 2)).length (λq=>Cz (Hv s ((Jd G (j / 2)).getD q 0))) else .row 3 1 (Jd G (j / 2)).length (λq=>[.int .i64 ((Jd G (j / 2)).getD q 0)])
def Vo (s:Se) (G:List Gr):D:=.sl false 8 G.length (λi=>Dz (G.getD i default)++[.sl false 7 (Jd G i).length (λq=>Cz (Hv s ((Jd G i).getD q 0))),slK .i64 (Jd G i)])
def lS (s:Se) (F:D) (n k:Nat) (G:List Gr):St:=
 ⟨[(1,.own 1 0),(4,.osl 1000),(15,.d F),(16,.d (.int .i64 n)),(17,.d (.int .i64 (k:Nat)))],(1000,.lit 47 8 G.length (Fy 2 0 (G.map Dz)))::([(1,.fix (D1 s))]++It (Pd s G) (2*G.length) 0),[1000,1]++nmI (2*G.length)⟩
def lT (s:Se) (F:D) (n k:Nat) (G:List Gr) (f:Fi) (C:Cv) (i:Nat) (m:Int):St:=
 ⟨[(1,.own 1 0),(4,.osl 1000),(5,.d (.int .i64 (k:Nat))),(6,.own 6 0),(9,.own 9 0),(11,.d (.int .i64 m)),(15,.d F),(16,.d (.int .i64 n)),(17,.d (.int .i64 (k:Nat))),(46,.osl 1000),(47,.d (.int .i64 G.length)),(48,.d (.int .i64 (i:Nat)))],
  (1000,.lit 47 8 G.length (Fy 2 0 (G.map Dz)))::([(1,.fix (D1 s)),(6,.fix (Gk f)),(9,.fix (Jb C))]++It (Pd s G) (2*G.length) 0),[1000,1,6,9]++nmI (2*G.length)⟩
theorem H8 {s:Se} {G:List Gr} (j:Nat):∃ e sz n f,Pd s G j=.row e sz n f:=by
 rw [Pd]
 split
 ·exact ⟨_,_,_,_,rfl⟩
 ·exact ⟨_,_,_,_,rfl⟩
theorem Uj {G:List Gr} {g:Gr} {i:Nat}:Jd (G++[g]) i=if i<G.length then Jd G i else if i=G.length then g.at' else []:=by
 simp only [Jd,List.getD_eq_getElem?_getD]
 by_cases h:i<G.length
 ·rw [if_pos h,List.getElem?_append_left h]
 ·rw [if_neg h,List.getElem?_append_right (by omega)]
  by_cases h2:i=G.length
  ·subst h2;simp
  ·rw [if_neg h2,List.getElem?_eq_none (by simp;omega)];rfl
theorem gat_ne {A B:List Gr} {g g':Gr} {i:Nat} (h:i≠A.length):Jd (A++g'::B) i=Jd (A++g::B) i:=by
 simp only [Jd,List.getD_eq_getElem?_getD]
 by_cases h1:i<A.length
 ·rw [List.getElem?_append_left h1,List.getElem?_append_left h1]
 ·rw [List.getElem?_append_right (by omega),List.getElem?_append_right (by omega)]
  obtain ⟨j,hj⟩:∃ j,i-A.length=j+1:=⟨i-A.length-1,by omega⟩
  rw [hj];rfl
theorem Tg {s:Se} {G:List Gr} {g:Gr} {j:Nat}:Pd s (G++[g]) j=if j<2*G.length then Pd s G j else if j=2*G.length then .row 55 7 g.at'.length (λq=>Cz (Hv s (g.at'.getD q 0))) else if j=2*G.length+1 then .row 3 1 g.at'.length (λq=>[.int .i64 (g.at'.getD q 0)]) else Pd s (G++[g]) j:=by
 by_cases h1:j<2*G.length
 ·have e:Jd (G++[g]) (j / 2)=Jd G (j / 2):=by rw [Uj,if_pos (by omega)]
  rw [if_pos h1,Pd,Pd,e]
 ·rw [if_neg h1]
  by_cases h2:j=2*G.length
  ·rw [if_pos h2,Pd,if_pos (by omega),show Jd (G++[g]) (j / 2)=g.at' by rw [Uj,if_neg (by omega),if_pos (by omega)]]
  ·rw [if_neg h2]
   by_cases h3:j=2*G.length+1
   ·rw [if_pos h3,Pd,if_neg (by omega),show Jd (G++[g]) (j / 2)=g.at' by rw [Uj,if_neg (by omega),if_pos (by omega)]]
   ·rw [if_neg h3]
theorem gh (t:List Vs) (n:Nat) (s:Se) (hs:Bd t n s) (hn:n≤900) (ht:t.length≤1000000) (hz:∀ v,v∈t→Qo v) :
    Aj Tryz.prog 7 [Dv s] [] (.tup [.d (Vo s (Yk s 0 s.fi []).1),.d (.bool (Yk s 0 s.fi []).2)]) [] []:=by
  have hl:=hs.fi.1
  have hml:(s.fi.map Cz).length=s.fi.length:=List.length_map _
  obtain ⟨F,hF⟩:∃ F,F=Bw 7 (s.fi.map Cz):=⟨_,rfl⟩
  obtain ⟨R,hR⟩:∃ R,R=Yk s 0 s.fi []:=⟨_,rfl⟩
  rw [←hR]
  refine qP Tryz.func7 λc hP hfn=>?_;simp only [Dv,D1,Bw,hml,A0,↓A3,seval]
  refine B4.loop (X:=Nat×List Gr) (λx=>lS s F s.fi.length x.1 x.2)
    (λx=>x.1≤s.fi.length∧x.2.length≤x.1∧(∀ g,g∈x.2→g.at'.length≤x.1)∧UnG x.2∧R=Yk s x.1 (s.fi.drop x.1) x.2) (λx=>s.fi.length-x.1) (0,[]) ⟨Nat.zero_le _,Nat.le_refl _,λg h=>by simp at h,List.Pairwise.nil,hR⟩
    ((Wk.row0 (s:=4) (k:=1000) (e:=47) (sz:=8) (f':=λ_=>[]) rfl rfl (by simp)).trans (Wk.of (b:=lS s F s.fi.length 0 []) _ hfn rfl (by simp only [lS,hF,Bw,hml,A7,A0,↓A3,seval]) (by simp only [lS,D1,Bw,hml,Fy,It,List.map_nil,A7,A0,↓A3,seval];exact Bf.rowLit rfl))) ?_
  rintro ⟨k,G⟩ ⟨hk,hG,hA,hU,he⟩
  simp only at hk hG hA hU he
  by_cases hlt:k<s.fi.length
  · obtain ⟨f,hd,-,hm,hat⟩:=Ae hlt
    have hg:=Jw Cz hat
    have d0:decide ((k:Int)<(s.fi.length:Int))=true:=decide_eq_true (by omega)
    have w1:IntKind.i64.wrap ((k:Int)+1)=((k+1:Nat):Int):=wS (by omega)
    have b1:(0:Int)≤(k:Int)∧(k:Int)<(s.fi.length:Int):=by omega
    have cc:=N7 s f.cl.po (by have:=hs.ao.1;omega)
    have cv:=sCov ht hz (hs.acc hn f.cl.po) f.cl
    rw [←hs.tv] at cv
    rw [hd,Yk] at he
    have hcs:Rt s f=Q4 ((Ek s f.cl.po).getD dn).hi s.tv (Xl f.cl):=rfl
    rw [←hcs] at cv
    clear hcs
    generalize Rt s f=C at cv he
    obtain ⟨C,e⟩:=C
    simp only at cv he
    generalize (Ek s f.cl.po).getD dn=a at *
    generalize (Ek s f.cl.po).isSome=b2 at *
    simp only [Dv,D1,Bw,hml,Ky,List.map,Ar,Bv,Bn] at cc
    simp only [Da,Dd,ia,qh,Ar,Bv,Bn,C5,De,Br,Jb] at cv
    by_cases h0:b2=true∧e=0
    · obtain ⟨rfl,rfl⟩:=h0
      have n0:((0:Int) != 0)=false:=rfl
      rw [if_pos ⟨rfl,rfl⟩] at he
      simp only [lS,D1,hF,Bw,hml,hg,Cz,Dr,Ar,Bv,Bn,C5,De,Br,d0,D4,C4,Af,Bh,A0,↓A3,seval]
      repeat' first|(refine tq hP (h:=⟨_,λ_=>by first|exact cc|exact cv,?_⟩);try simp only [d0,n0,hg,Cz,Dr,Ar,Bv,Bn,C5,De,Br,D4,C4,Af,Bh,A0,↓A3,seval])|refine ⟨λh=>?_,λh=>?_⟩|refine aX ?_|fail
      have hnm:∀ q,q∈A5 (Fy 2 0 (G.map Dz))→5000≤q∧q<5000+2*G.length:=λq hq=>by
        have:=Em hq
        rw [List.length_map] at this
        omega
      refine B4.loop (X:=Nat×Int) (λx=>lT s F s.fi.length k G f C x.1 x.2) (λx=>x.1≤G.length∧L6 (V4 f.cl.po C) G 0 (-1)=L6 (V4 f.cl.po C) (G.drop x.1) x.1 x.2) (λx=>G.length-x.1) (0,-1) ⟨Nat.zero_le _,rfl⟩ (Wk.inn 0 0 _ hfn (by simp) (by simp) (A:=[(1,.fix _),(6,.fix _),(9,.fix _)]) (N:=[1000,1,6,9]) rfl rfl ?_ ?_ ?_ ?_ (λj _=>H8 j) ?_) ?_
      · simp only [hF,Bw,hml,A7,A0,↓A3,seval]
      · refine ⟨⟨_,by rw [Ed];simp only [C4,Af,A7,A0,↓A3,seval];rfl,?_⟩,⟨_,by rw [Ed];simp only [C4,Af,A7,A0,↓A3,seval];rfl,?_⟩,⟨_,by rw [Ed];simp only [C4,Af,A7,A0,↓A3,seval];rfl,?_⟩,trivial⟩
        all_goals simp only [Own.ren,D1,Gk,Jb,Bw,hml,Cz,Dr,C5,De,Br,A7,A0,↓A3,seval]
      · refine ⟨_,by rw [Ed];simp only [C4,Af,A7,A0,↓A3,seval];rfl,?_⟩
        simp only [Own.ren,Ii (λq _=>Ed)]
        exact Bf.refl _
      · exact hnm
      · intro i hi
        refine ⟨_,by rw [Ed];simp only [Af,Bg,G4,G3,A7,A0,↓A3,seval];rw [if_pos (by omega),Nat.add_sub_cancel_left],?_⟩
        obtain ⟨e,sz,n,ff,hr⟩:=H8 (s:=s) (G:=G) i
        rw [hr]
        exact Bf.refl _
      rintro ⟨i,m⟩ ⟨hi,hm2⟩
      simp only at hi hm2
      by_cases hil:i<G.length
      · obtain ⟨g,hgd,-,hgm,hgat⟩:=Ae hil
        have d1:decide ((i:Int)<(G.length:Int))=true:=decide_eq_true (by omega)
        have w2:IntKind.i64.wrap ((i:Int)+1)=((i+1:Nat):Int):=wS (by omega)
        have b2:(0:Int)≤(i:Int)∧(i:Int)<(G.length:Int):=by omega
        have hrow:takeV (dropV (Fy 2 0 (G.map Dz)) (i*8)) 8=[.d (.int .i64 g.po),.d (.int .i64 g.cv.pe),.d (.int .i64 g.cv.li),.d (.int .i64 g.cv.ag),.d (.int .i64 g.cv.de),.d (.int .i64 g.cv.sh),.osl (5000+2*i),.osl (5000+(2*i+1))]:=by
          have:=Uy (w:=2) (i:=0) (k:=i) (x:=Dz g) Ev (by rw [List.getElem?_map,hgat];rfl)
          rw [this];simp [Dz,Xc,List.range_succ]
        rw [hgd,L6] at hm2
        simp only [lT,D1,Gk,Jb,hF,Bw,hml,Cz,Dr,Ar,Bv,Bn,C5,De,Br,d1,hrow,D4,C4,Af,Bh,A0,↓A3,seval]
        repeat' first|refine ⟨λh=>?_,λh=>?_⟩|refine aX ?_|fail
        all_goals
          refine Al.on (i+1,if V4 f.cl.po C g=true then (i:Int) else m) ⟨hil,hm2⟩ (by simp only;omega) ?_
          refine Wk.inn 0 0 _ hfn (by simp) (by simp) (A:=[(1,.fix _),(6,.fix _),(9,.fix _)]) (N:=[1000,1,6,9]) rfl rfl ?_ ?_ ?_ ?_ (λj _=>H8 j) ?_
          · simp only [V4,Yf,h,hF,Bw,hml,w2,A7,A0,↓A3,seval]
          · refine ⟨⟨_,by rw [Ed];simp only [C4,Af,A7,A0,↓A3,seval];rfl,?_⟩,⟨_,by rw [Ed];simp only [C4,Af,A7,A0,↓A3,seval];rfl,?_⟩,⟨_,by rw [Ed];simp only [C4,Af,A7,A0,↓A3,seval];rfl,?_⟩,trivial⟩
            all_goals simp only [Own.ren,D1,Gk,Jb,Bw,hml,Cz,Dr,C5,De,Br,A7,A0,↓A3,seval]
          · refine ⟨_,by rw [Ed];simp only [C4,Af,A7,A0,↓A3,seval];rfl,?_⟩
            simp only [Own.ren,Ii (λq _=>Ed)]
            exact Bf.refl _
          · exact hnm
          · intro j hj
            refine ⟨_,by rw [Ed];simp only [Af,Bg,G4,G3,A7,A0,↓A3,seval];rw [if_pos (by omega),Nat.add_sub_cancel_left],?_⟩
            obtain ⟨e,sz,n,ff,hr⟩:=H8 (s:=s) (G:=G) j
            rw [hr]
            exact Bf.refl _
      · obtain rfl:i=G.length:=by omega
        have d1:decide ((G.length:Int)<(G.length:Int))=false:=decide_eq_false (by omega)
        rw [List.drop_length,L6] at hm2
        rcases Ib (V4 f.cl.po C) G with h1|⟨A,g,B,rfl,h1,h2⟩
        · have hcl:(Fy 2 0 (G.map Dz)).length=G.length*8:=by rw [Ou Ev,List.length_map]
          have hnth:∀ xs j,nth (Fy 2 0 (G.map Dz)++xs) (G.length*8+j)=nth xs j:=λxs j=>by rw [←hcl];exact Up _ _ _
          have hput:∀ xs j y,putV (Fy 2 0 (G.map Dz)++xs) (G.length*8+j) [y]=Fy 2 0 (G.map Dz)++putV xs j [y]:=λxs j y=>by rw [←hcl];exact Pu _ _ _ _ _
          rw [Lq h1] at hm2
          subst hm2
          rw [Hy h1] at he
          simp only [lT,D1,Gk,Jb,hF,Bw,hml,Cz,Dr,Ar,Bv,Bn,C5,De,Br,d1,hnth,hput,D4,C4,Af,Bh,A0,↓A3,seval]
          repeat' first|refine ⟨λh=>?_,λh=>?_⟩|refine aX ?_|fail
          have hfk:Hv s (k:Int)=f:=by rw [Hv,Int.toNat_natCast,List.getD_eq_getElem?_getD,hat];rfl
          refine Al.on (k+1,G++[(⟨f.cl.po,C,[(k:Int)]⟩:Gr)]) ⟨hlt,by simp;omega,λg hg=>?_,?_,he⟩ (by simp only;omega) ((Wk.sw 88 (5000+2*G.length) _ hfn (by simp) (by simp)).trans ((Wk.sw 100 (5000+(2*G.length+1)) _ hfn (by simp) (by simp)).trans (Wk.inn 78 1000 _ hfn (by simp) (by simp) (A:=[(1,.fix _)]) (N:=[1000,1]) rfl rfl ?_ ?_ ?_ ?_ (λj _=>H8 j) ?_)))
          · rcases List.mem_append.1 hg with hg|hg
            · exact Nat.le_succ_of_le (hA g hg)
            · rw [List.mem_singleton.1 hg];simp
          · rw [←Hy h1];exact hU.add
          · simp only [hF,Bw,hml,w1,G4,G3,A7,A0,↓A3,seval]
          · refine ⟨⟨_,by rw [show Go.Bx.sw 78 1000 1=1 from rfl,Bi,Bi,Cc (k:=1) (by decide) (by omega),Cc (k:=1) (by decide) (by omega)];simp only [Af,C4,A7,A0,↓A3,seval];rfl,?_⟩,trivial⟩
            simp only [Own.ren,Bw,hml,C5,De,Br,A7,A0,↓A3,seval]
          · refine ⟨_,by rw [show Go.Bx.sw 78 1000 1000=78 from rfl,Bi,Bi,Cc (k:=78) (by decide) (by omega),Cc (k:=78) (by decide) (by omega)];simp only [Af,C4,A7,A0,↓A3,seval];rfl,?_⟩
            have h3:=Ii (w:=2) (i:=0) (a:=88) (b:=5000+2*G.length) (L:=G.map Dz) (λq hq=>by have:=hnm q hq;exact Cc (by omega) (by omega))
            have h4:=Ii (w:=2) (i:=0) (a:=100) (b:=5000+(2*G.length+1)) (L:=G.map Dz) (λq hq=>by have:=hnm q hq;exact Cc (by omega) (by omega))
            have h5:=Ii (w:=2) (i:=0) (a:=78) (b:=1000) (L:=G.map Dz) (λq hq=>by have:=hnm q hq;exact Cc (by omega) (by omega))
            have h6:Go.Bx.sw 78 1000 (Go.Bx.sw 100 (5000+(2*G.length+1)) (Go.Bx.sw 88 (5000+2*G.length) 88))=5000+2*G.length:=by
              rw [show Go.Bx.sw 88 (5000+2*G.length) 88=5000+2*G.length from if_pos rfl,Cc (a:=100) (k:=5000+2*G.length) (by omega) (by omega),Cc (by omega) (by omega)]
            have h7:Go.Bx.sw 78 1000 (Go.Bx.sw 100 (5000+(2*G.length+1)) (Go.Bx.sw 88 (5000+2*G.length) 100))=5000+(2*G.length+1):=by
              rw [Cc (a:=88) (by decide) (by omega),show Go.Bx.sw 100 (5000+(2*G.length+1)) 100=5000+(2*G.length+1) from if_pos rfl,Cc (by omega) (by omega)]
            simp only [Own.ren,Vi,h3,h4,h5,List.map_append,List.length_append,Uq,List.length_map]
            exact Bf.eq (by simp [Fy,Xc,Dz,renL,V.ren,h6,h7,List.range_succ])
          · intro q hq
            have:=Em hq
            rw [List.length_map] at this
            omega
          · intro j hj
            rw [List.length_append,List.length_singleton] at hj
            have h5:Go.Bx.sw 78 1000 (5000+j)=5000+j:=Cc (by omega) (by omega)
            by_cases e1:j=2*G.length
            · subst e1
              refine ⟨_,by rw [h5,Bi,Bi,Cc (a:=100) (by omega) (by omega),dm];simp only [Af,Bg,A7,A0,↓A3,seval];rfl,?_⟩
              rw [Tg,if_neg (by omega),if_pos (by omega)]
              simp only [Own.ren]
              refine Bf.row rfl λq hq=>?_
              obtain rfl:q=0:=by omega
              show _=Cz (Hv s (k:Int))
              rw [hfk];rfl
            · by_cases e2:j=2*G.length+1
              · subst e2
                refine ⟨_,by rw [h5,Bi,Bi,dm,Cc (a:=88) (by omega) (by omega)];simp only [Af,Bg,A7,A0,↓A3,seval];rfl,?_⟩
                rw [Tg,if_neg (by omega),if_neg (by omega),if_pos (by omega)]
                simp only [Own.ren]
                exact Bf.row rfl λq hq=>by
                  obtain rfl:q=0:=by omega
                  rfl
              · refine ⟨_,by rw [h5,Bi,Bi,Cc (a:=100) (by omega) (by omega),Cc (a:=88) (by omega) (by omega)];simp only [Af,Bg,G4,G3,A7,A0,↓A3,seval];rw [if_pos (by omega),Nat.add_sub_cancel_left];rfl,?_⟩
                rw [Tg,if_pos (by omega)]
                obtain ⟨e,sz,n,ff,hr⟩:=H8 (s:=s) (G:=G) j
                rw [hr]
                exact Bf.refl _
        · have hB:∀ x,x∈B→V4 f.cl.po C x=false:=λx hx=>by
            have h3:=(List.pairwise_cons.1 (List.pairwise_append.1 hU).2.1).1 x hx
            have h4:=Tr.1 h2
            rw [←Bool.not_eq_true]
            exact λe=>by have:=Tr.1 e;exact h3 ⟨h4.1.trans this.1.symm,h4.2.trans this.2.symm⟩
          rw [Qj h2 hB h1,Nat.zero_add] at hm2
          subst hm2
          have hU2:=hU.add (p:=f.cl.po) (c:=C) (k:=(k:Int))
          rw [Km h2 h1] at he hU2
          have d2:decide ((A.length:Int)<0)=false:=decide_eq_false (by omega)
          obtain ⟨L,hL⟩:∃ L,L=(A++g::B).length:=⟨_,rfl⟩
          have hj:A.length<L:=by rw [hL];simp
          have d3:decide ((L:Int)<(L:Int))=false:=decide_eq_false (by omega)
          have hget:=λj hj=>Iy (w:=2) (i:=0) (L:=(A++g::B).map Dz) (k:=A.length) (x:=Dz g) (j:=j) Ev (by rw [List.getElem?_map];simp) hj
          have hnth6:nth (Fy 2 0 ((A++g::B).map Dz)) (A.length*8+6)=.osl (5000+2*A.length):=by
            have:=hget 6 (by decide)
            rw [if_neg (by decide)] at this
            rw [E8 this];congr 1;omega
          have hnth7:nth (putV (Fy 2 0 ((A++g::B).map Dz)) (A.length*8+6) [.osl 88]) (A.length*8+7)=.osl (5000+(2*A.length+1)):=by
            have:=hget 7 (by decide)
            rw [if_neg (by decide)] at this
            refine E8 ?_
            rw [Fm,if_neg (by simp)]
            refine this.trans ?_
            congr 2;omega
          have hgt:Jd (A++g::B) A.length=g.at':=by rw [Jd,Gu default]
          have hrow6:own? (It (Pd s (A++g::B)) (2*L) 0) (5000+2*A.length)=some (.row 55 7 g.at'.length (λq=>Cz (Hv s (g.at'.getD q 0)))):=by
            rw [Bg,if_pos (by omega),Nat.add_sub_cancel_left,Pd,if_pos (by omega),show 2*A.length / 2=A.length by omega,hgt]
          have hrow7:own? (It (Pd s (A++g::B)) (2*L) 0) (5000+(2*A.length+1))=some (.row 3 1 g.at'.length (λq=>[.int .i64 (g.at'.getD q 0)])):=by
            rw [Bg,if_pos (by omega),Nat.add_sub_cancel_left,Pd,if_neg (by omega),show (2*A.length+1) / 2=A.length by omega,hgt]
          have hgl:=hA g (by simp)
          have e12:(5000+(2*A.length+1)=5000+2*A.length)=False:=eq_false (by omega)
          rw [←hL] at hG
          simp only [lT,D1,Gk,Jb,hF,Bw,hml,Cz,Dr,Ar,Bv,Bn,C5,De,Br,d1,d2,d3,←hL,hnth6,hnth7,hrow6,hrow7,e12,G4,G3,D4,C4,Af,Bh,A0,↓A3,seval]
          repeat' first|refine ⟨λh=>?_,λh=>?_⟩|refine aX ?_|fail
          have hL':(A++{ g with at':=g.at'++[(k:Int)] }::B).length=L:=by rw [hL];simp
          have hroom:(g.at'.length+1)*8≤140737488355328∧g.at'.length+1≤maxLen:=⟨by omega,by simp only [maxLen];omega⟩
          have hfk:Hv s (k:Int)=f:=by rw [Hv,Int.toNat_natCast,List.getD_eq_getElem?_getD,hat];rfl
          refine ⟨own13 _ (by omega),⟨by omega,by omega⟩,hj,hroom,⟨by omega,by omega⟩,hj,?_⟩
          refine Al.on (k+1,A++{ g with at':=g.at'++[(k:Int)] }::B) ⟨hlt,by simp only;omega,λx hx=>?_,hU2,he⟩ (by simp only;omega) ?_
          · rcases List.mem_append.1 hx with hx|hx
            · exact Nat.le_succ_of_le (hA x (by simp [hx]))
            · rcases List.mem_cons.1 hx with rfl|hx
              · simp only [List.length_append,List.length_singleton];omega
              · exact Nat.le_succ_of_le (hA x (by simp [hx]))
          simp only [hL']
          rw [←hL] at hnm
          refine (Wk.sw 88 (5000+2*A.length) _ hfn (by simp) (by simp)).trans (Wk.inn 100 (5000+(2*A.length+1)) _ hfn (by simp) (by simp) (A:=[(1,.fix _)]) (N:=[1000,1]) rfl rfl ?_ ?_ ?_ ?_ (λj _=>H8 j) ?_)
          · simp only [hF,Bw,hml,w1,G4,G3,A7,A0,↓A3,seval]
          · refine ⟨⟨_,by rw [Cc (k:=1) (by decide) (by omega),Bi,Cc (k:=1) (by decide) (by omega)];simp only [Af,C4,A7,A0,↓A3,seval];rfl,?_⟩,trivial⟩
            simp only [Own.ren,Bw,hml,C5,De,Br,A7,A0,↓A3,seval]
          · refine ⟨_,by rw [Cc (k:=1000) (by decide) (by omega),Bi,Cc (k:=1000) (by decide) (by omega)];simp only [Af,C4,A7,A0,↓A3,seval];rfl,?_⟩
            have h6:=Pj (w:=2) (k:=A.length) (j:=6) (d:=88) (L:=(A++g::B).map Dz) (.inr rfl) Ev (by simp) (by decide) (by decide)
            have h7:=Pj (w:=2) (k:=A.length) (j:=7) (d:=100) (L:=(A++g::B).map Dz) (.inr rfl) Ev (by simp) (by decide) (by decide)
            rw [show 5000+(2*A.length+(6-6))=5000+2*A.length by omega] at h6
            have h8:Go.Bx.sw 88 (5000+2*A.length) 100=100:=Cc (by decide) (by omega)
            simp only [Nat.reduceAdd,Nat.reduceSub] at h6 h7
            have h9:renL (Go.Bx.sw 88 (5000+2*A.length)) (putV (putV (Fy 2 0 ((A++g::B).map Dz)) (A.length*8+6) [.osl 88]) (A.length*8+7) [.osl 100])=putV (Fy 2 0 ((A++g::B).map Dz)) (A.length*8+7) [.osl 100]:=by
              rw [N4,h6];simp only [renL,V.ren,h8]
            simp only [Own.ren,h9,h7]
            exact Bf.eq (by congr 2;simp [Dz])
          · intro q hq
            have:=Em hq
            rw [List.length_map,hL'] at this
            omega
          · intro j hj2
            have hgx:∀ i,i≠A.length→Jd (A++{ g with at':=g.at'++[(k:Int)] }::B) i=Jd (A++g::B) i:=λi hi=>gat_ne hi
            have hgy:Jd (A++{ g with at':=g.at'++[(k:Int)] }::B) A.length=g.at'++[(k:Int)]:=by rw [Jd,Gu default]
            by_cases e1:j=2*A.length
            · subst e1
              refine ⟨_,by rw [Cc (a:=100) (by omega) (by omega),Bi,dm];simp only [Af,Bh,G4,G3,C4,A7,A0,↓A3,seval];rfl,?_⟩
              rw [Pd,if_pos (by omega),show 2*A.length / 2=A.length by omega,hgy]
              simp only [Own.ren]
              refine Bf.row (by simp) λq hq=>?_
              by_cases h:q<g.at'.length
              · rw [if_pos h,List.getD_eq_getElem?_getD,List.getD_eq_getElem?_getD,List.getElem?_append_left h];rfl
              · obtain rfl:q=g.at'.length:=by omega
                rw [if_neg h,Nat.sub_self,List.getD_eq_getElem?_getD,List.getElem?_append_right (Nat.le_refl _),Nat.sub_self]
                show _=Cz (Hv s (k:Int))
                rw [hfk];rfl
            · by_cases e2:j=2*A.length+1
              · subst e2
                refine ⟨_,by rw [dm,Bi,Cc (a:=88) (by omega) (by omega)];simp only [Af,C4,A7,A0,↓A3,seval];rfl,?_⟩
                rw [Pd,if_neg (by omega),show (2*A.length+1) / 2=A.length by omega,hgy]
                simp only [Own.ren]
                refine Bf.row (by simp) λq hq=>?_
                by_cases h:q<g.at'.length
                · rw [if_pos h,List.getD_eq_getElem?_getD,List.getD_eq_getElem?_getD,List.getElem?_append_left h]
                · obtain rfl:q=g.at'.length:=by omega
                  rw [if_neg h,Nat.sub_self];simp
              · have e3:(5000+j=5000+2*A.length)=False:=eq_false (by omega)
                have e4:(5000+j=5000+(2*A.length+1))=False:=eq_false (by omega)
                refine ⟨_,by rw [Cc (a:=100) (by omega) (by omega),Bi,Cc (a:=88) (by omega) (by omega)];simp only [Af,Bh,Bg,e3,e4,G4,G3,A7,A0,↓A3,seval];rw [if_pos (by omega),Nat.add_sub_cancel_left];rfl,?_⟩
                have:Pd s (A++{ g with at':=g.at'++[(k:Int)] }::B) j=Pd s (A++g::B) j:=by rw [Pd,Pd,hgx _ (by omega)]
                rw [this]
                obtain ⟨e,sz,n,ff,hr⟩:=H8 (s:=s) (G:=A++g::B) j
                rw [hr]
                exact Bf.refl _
    · have n0:(!b2 || (e != 0))=true:=by
        cases b2 with
        |false=>rfl
        |true=>simp at h0 ⊢;exact h0
      rw [if_neg h0] at he
      rw [he]
      simp only [lS,D1,hF,Bw,hml,hg,Cz,Dr,Ar,Bv,Bn,C5,De,Br,d0,D4,C4,Af,Bh,A0,↓A3,seval]
      repeat' first|(refine tq hP (h:=⟨_,λ_=>by first|exact cc|exact cv,?_⟩);try simp only [d0,n0,hg,Cz,Dr,Ar,Bv,Bn,C5,De,Br,D4,C4,Af,Bh,A0,↓A3,seval])|refine ⟨λh=>?_,λh=>?_⟩|refine aX ?_|fail
      all_goals
        refine Ci.pure (by simp only [B8,A0,↓A3,seval]) ?_
        simp only [B8,A0,↓A3,seval]
        exact Ag.tups ⟨C2,Ag.refl _,trivial⟩
  · obtain rfl:k=s.fi.length:=by omega
    have d0:decide ((s.fi.length:Int)<(s.fi.length:Int))=false:=decide_eq_false (by omega)
    rw [List.drop_length,Yk] at he
    rw [he]
    simp only [lS,D1,hF,Bw,hml,d0,A0,↓A3,seval]
    repeat' first|refine ⟨λh=>?_,λh=>?_⟩|refine aX ?_|fail
    refine rK ((Wk.deep (K':=1000) (F:=λi=>Dz (G.getD i default)++[.sl false 7 (Jd G i).length (λq=>Cz (Hv s ((Jd G i).getD q 0))),slK .i64 (Jd G i)]) rfl (λi _=>rfl) (λi j x hi hj hx=>?_)).trans (Wk.pub 1000 rfl)) trivial ?_
    · have hgi:(G.map Dz)[i]?=some (Dz (G.getD i default)):=by rw [List.getElem?_map,List.getElem?_eq_getElem hi,List.getD_eq_getElem?_getD,List.getElem?_eq_getElem hi];rfl
      have:=Iy (w:=2) (i:=0) Ev hgi (show j<6+2 by omega)
      by_cases h6:j<6
      · rw [if_pos h6] at this
        rw [List.getElem?_append_left h6] at hx
        rw [hx] at this
        exact .inl this
      · rw [if_neg h6] at this
        by_cases h7:j=6
        · subst h7
          rw [show 5000+(2*(0+i)+(6-6))=5000+2*i by omega] at this
          have hx2:D.sl false 7 (Jd G i).length (λq=>Cz (Hv s ((Jd G i).getD q 0)))=x:=by simpa [Dz] using hx
          refine .inr ⟨_,55,7,_,_,by omega,this,?_,hx2.symm⟩
          simp only [G4,G3,A0,↓A3,seval]
          rw [Bg,if_pos (by omega),Nat.add_sub_cancel_left,Pd,if_pos (by omega),show 2*i / 2=i by omega]
        · obtain rfl:j=7:=by omega
          rw [show 5000+(2*(0+i)+(7-6))=5000+(2*i+1) by omega] at this
          have hx2:slK .i64 (Jd G i)=x:=by simpa [Dz] using hx
          refine .inr ⟨_,3,1,(Jd G i).length,(λq=>[.int .i64 ((Jd G i).getD q 0)]),by omega,this,?_,hx2.symm⟩
          simp only [G4,G3,A0,↓A3,seval]
          rw [Bg,if_pos (by omega),Nat.add_sub_cancel_left,Pd,if_neg (by omega),show (2*i+1) / 2=i by omega]
    · simp only [B8,A0,↓A3,seval]
      exact Ag.refl _
end Go.Proofs.YtakohhkgeeoniaaGreat
end
section
namespace Go.Proofs.YtakohhkgeeoniaaGreat
open Go.Bx
set_option maxRecDepth 10000
def Iv (a:Int) (l:List Int):Int:=max (l.foldl min a) 0
theorem zr (a:Int) (l:List Int) (hl:l.length≤9223372036854775807):Aj Tryz.prog 24 [.d (.int .i64 a),.d (slK .i64 l)] [] (.d (.int .i64 (Iv a l))) [] []:=by
 refine qP Tryz.func24 λc hP hfn=>?_;simp only [A0,↓A3,seval]
 refine B4.loop (X:=Nat×Int) (λx=>⟨[(0,.d (.int .i64 x.2)),(7,.d (slK .i64 l)),(8,.d (.int .i64 l.length)),(9,.d (.int .i64 x.1))],[],[]⟩)
  (λx=>x.1≤l.length∧l.foldl min a=(l.drop x.1).foldl min x.2) (λx=>l.length-x.1) (0,a) ⟨Nat.zero_le _,rfl⟩ (Wk.of [] hfn rfl (by (simp only [A7,A0,↓A3,seval])<;>(first|exact wS (by omega)|(rw [List.length_append];exact wS (by omega))|assumption)) (by simp only [A7,A0,↓A3,seval])) ?_
 rintro ⟨k,n⟩ ⟨hk,he⟩
 simp only at hk he
 simp only [A0,↓A3,seval]
 refine ⟨λh1=>?_,λh1=>?_⟩
 ·have hlt:k<l.length:=by have:=of_decide_eq_true h1;omega
  obtain ⟨x,hd,hg,-,-⟩:=Ae hlt
  simp only [hg]
  rw [hd,List.foldl_cons] at he
  repeat' first|refine ⟨λh=>?_,λh=>?_⟩|refine aX ?_|fail
  exact Al.on (k+1,min n x) ⟨hlt,he⟩ (by simp only;omega) (Wk.of [] hfn rfl (by (simp only [A7,A0,↓A3,seval])<;>(first|exact wS (by omega)|(rw [List.length_append];exact wS (by omega))|assumption)) (by simp only [A7,A0,↓A3,seval]))
 ·have hkl:k=l.length:=by have:=of_decide_eq_false h1;omega
  rw [hkl,List.drop_length,List.foldl_nil] at he
  (refine rq ?_;first|exact ⟨⟩|rw [Iv,he])
theorem Zv {a:Int} {full:Bool} {n:Nat} {ds:List D} {l:List Int} (h:Pv .i64 ds l) (hn:n=l.length) (hl:l.length≤9223372036854775807):Aj Tryz.prog 24 [.d (.int .i64 a),.d (.sl full 1 n (litRow 1 ds))] [] (.d (.int .i64 (Iv a l))) [] []:=
 (zr a l hl).arg ⟨Ag.refl _,h.vle hn,trivial⟩
def Iu (c:Cv) (loss:Int):Int:=Iv (IntKind.i64.wrap (loss-c.de)) [c.li]
theorem tw (k:Cv) (loss:Int):Aj Tryz.prog 22 [vC k,.d (.int .i64 loss)] [] (.d (.int .i64 (Iu k loss))) [] []:=by
 refine qP Tryz.func22 λc hP hfn=>?_;simp only [vC,cC,A0,↓A3,seval]
 repeat' first|(refine tq hP (h:=⟨_,λ_=>by exact Zv (by repeat constructor) (by rfl) (by simp),?_⟩);try simp only [A0,↓A3,seval])|refine ⟨λh=>?_,λh=>?_⟩|refine aX ?_|fail
 exact rr
theorem uo (k:Cv) (amt:Int) (ha:amt≤9223372036854775807) (hs:k.sh≤9223372036854775807):Aj Tryz.prog 23 [vC k,.d (.int .i64 amt)] [] (.d (.int .i64 (V1 amt k.sh).1)) [] []:=by
 refine qP Tryz.func23 λc hP hfn=>?_;simp only [vC,cC,A0,↓A3,seval]
 repeat' first|(refine tz hP (sBp amt k.sh ha hs) ?_;try simp only [A0,↓A3,seval])|refine ⟨λh=>?_,λh=>?_⟩|refine aX ?_|fail
 exact rr
def Bj (c:Cv) (loss used:Int):Int:=
 if (!(E2 c) || decide (loss<0) || decide (used<0))=true then 0 else Iv (V1 (Iu c loss) c.sh).1 [IntKind.i64.wrap (c.ag-used)]
theorem kz {k:Cv} {loss:Int} (h:k.li≤9223372036854775807):Iu k loss≤9223372036854775807:=by
 simp only [Iu,Iv,List.foldl_cons,List.foldl_nil];omega
def fn2 (k:Cv):Nat→Int→Int
 |0,x=>x
 |1,x=>Iu k x
 |_,x=>(V1 (Iu k x) k.sh).1
theorem pj (k:Cv) (loss used:Int) (hli:k.li≤9223372036854775807) (hsh:k.sh≤9223372036854775807):Aj Tryz.prog 9 [vC k,.d (.int .i64 loss),.d (.int .i64 used)] [] (.d (.int .i64 (Bj k loss used))) [] []:=by
 refine qP Tryz.func9 λc hP hfn=>?_;simp only [vC,cC,A0,↓A3,seval]
 repeat' first|(refine tz hP (Uc k) ?_;try simp only [A0,↓A3,seval])|refine ⟨λh=>?_,λh=>?_⟩|refine aX ?_|fail
 ·(refine rq ?_;first|exact ⟨⟩|rw [Bj,if_pos h])
 refine B4.loop (X:=Nat) (λx=>⟨[(2,.d (.int .i64 used)),(3,.own 3 0),(7,.d (.int .i64 (fn2 k x loss))),(26,.osl 26),(27,.d (.int .i64 2)),(28,.d (.int .i64 x))],[(3,.fix (cC k)),(26,.lit 104 1 2 [.fn (.func 22) [vC k] [],.fn (.func 23) [vC k] []])],[3,26]⟩)
  (λx=>x≤2) (λx=>2-x) 0 (by omega) (Wk.of [] hfn rfl (by simp only [fn2,A7,A0,↓A3,seval]) (by simp only [cC,vC,A7,A0,↓A3,seval])) ?_
 intro x hx
 have:x=0∨x=1∨x=2:=by omega
 rcases this with rfl|rfl|rfl
 ·simp only [fn2,cC,vC,A0,↓A3,seval]
  repeat' first|(refine tz hP (tw k loss) ?_;try simp only [A0,↓A3,seval])|refine ⟨λh=>?_,λh=>?_⟩|refine aX ?_|fail
  exact Al.on 1 (by omega) (by omega) (Wk.of [] hfn rfl (by simp only [fn2,A7,A0,↓A3,seval];decide +kernel) (by simp only [cC,vC,A7,A0,↓A3,seval]))
 ·simp only [fn2,cC,vC,A0,↓A3,seval]
  repeat' first|(refine tz hP (uo k (Iu k loss) (kz hli) hsh) ?_;try simp only [A0,↓A3,seval])|refine ⟨λh=>?_,λh=>?_⟩|refine aX ?_|fail
  exact Al.on 2 (by omega) (by omega) (Wk.of [] hfn rfl (by simp only [fn2,A7,A0,↓A3,seval];decide +kernel) (by simp only [cC,vC,A7,A0,↓A3,seval]))
 ·simp only [fn2,cC,vC,A0,↓A3,seval]
  repeat' first|(refine tq hP (h:=⟨_,λ_=>by exact Zv (by repeat constructor) (by rfl) (by simp),?_⟩);try simp only [A0,↓A3,seval])|refine ⟨λh=>?_,λh=>?_⟩|refine aX ?_|fail
  (refine rq ?_;first|exact ⟨⟩|(rw [Bj,if_neg (by rw [h];simp)]))
end Go.Proofs.YtakohhkgeeoniaaGreat
end
section
namespace Go.Proofs.YtakohhkgeeoniaaGreat
open Go.Bx
theorem Oq {c:Cv} (hf:Ri c) (x u:Int):0≤Bj c x u∧(0≤u→u≤1000000000000000→Bj c x u≤max 0 (c.ag-u)):=by
 have h0:∀ a b,Iv a [b]=max (min a b) 0:=λa b=>rfl
 have ha:=hf.ag
 have h3:=hf.de
 have h4:=hf.li
 unfold Bj
 refine ⟨?_,λh1 h2=>?_⟩
 ·split
  ·exact Int.le_refl _
  ·rw [h0];omega
 ·split
  ·omega
  ·rw [h0,show IntKind.i64.wrap (c.ag-u)=c.ag-u from wI (by omega)]
   omega
structure Pi' (A:Int) (S:List Az) (x:PS):Prop where
 al:0≤x.al∧x.al≤A
 pd:∀ k,0≤x.pd k∧x.pd k≤x.al
 sh:∀ k,x.sh k=((S.filter λs=>decide (s.ac.kd=2)&&decide (s.fi=k)).map (·.ac.am)).sum
 row:∀ k,x.pd k=((x.rows.filter λp=>decide (p.1=k)).map (·.2.2)).sum
 sum:x.al=(x.rows.map (·.2.2)).sum
theorem pi0 {A:Int} (h:0≤A):Pi' A [] qj:=⟨⟨Int.le_refl _,h⟩,λk=>⟨Int.le_refl _,Int.le_refl _⟩,λk=>rfl,λk=>rfl,rfl⟩
theorem ul {A:Int} (hA:A≤1000000000000000) {f:Int→Int→Int} (hf:∀ x u,0≤f x u∧(0≤u→u≤1000000000000000→f x u≤max 0 (A-u))) {S:List Az} {x:PS} (h:Pi' A S x) (s:Az):Pi' A (S++[s]) (E9 f x s):=by
 obtain ⟨h1,h2,h3,h4,h5⟩:=h
 have hsh:∀ k,((S++[s]).filter (λs=>decide (s.ac.kd=2)&&decide (s.fi=k))).map (·.ac.am)=(S.filter λs=>decide (s.ac.kd=2)&&decide (s.fi=k)).map (·.ac.am)++if s.ac.kd=2∧s.fi=k then [s.ac.am] else []:=λk=>by
  rw [List.filter_append,List.map_append]
  congr 1
  by_cases e1:s.ac.kd=2<;>by_cases e2:s.fi=k<;>simp [e1,e2]
 unfold E9
 split
 ·rename_i hk
  exact ⟨h1,h2,λk=>by rw [hsh,if_neg (λh=>hk h.1),List.append_nil];exact h3 k,h4,h5⟩
 ·rename_i hk
  have hk2:s.ac.kd=2:=Decidable.of_not_not hk
  have hs':∀ k,F4 x.sh s.fi (x.sh s.fi+s.ac.am) k=(((S++[s]).filter λs=>decide (s.ac.kd=2)&&decide (s.fi=k)).map (·.ac.am)).sum:=λk=>by
   rw [hsh,List.sum_append,←h3]
   unfold F4
   by_cases e:k=s.fi
   ·subst e;rw [if_pos rfl,if_pos ⟨hk2,rfl⟩];simp
   ·rw [if_neg e,if_neg (λh=>e h.2.symm)];simp
  split
  ·exact ⟨h1,h2,hs',h4,h5⟩
  ·rename_i hm
   obtain ⟨F,hF⟩:∃ F,F=f (x.sh s.fi+s.ac.am) (x.al-x.pd s.fi):=⟨_,rfl⟩
   have hp:=h2 s.fi
   have hb:=hf (x.sh s.fi+s.ac.am) (x.al-x.pd s.fi)
   rw [←hF] at hb hm ⊢
   have hb2:=hb.2 (by omega) (by omega)
   refine ⟨by simp only;omega,λk=>?_,hs',λk=>?_,?_⟩
   ·simp only [F4]
    have:=h2 k
    split<;>omega
   ·simp only [F4]
    rw [List.filter_append,List.map_append,List.sum_append,←h4 k]
    by_cases e:k=s.fi
    ·subst e;simp
    ·rw [if_neg e];simp [Ne.symm e]
   ·simp only [List.map_append,List.sum_append,←h5];simp
theorem Ue {A:Int} (h0:0≤A) (hA:A≤1000000000000000) {f:Int→Int→Int} (hf:∀ x u,0≤f x u∧(0≤u→u≤1000000000000000→f x u≤max 0 (A-u))) (S:List Az):∀ k,k≤S.length→Pi' A (S.take k) (Fd f (S.take k))
 |0,_=>pi0 h0
 |k+1,hk=>by
  obtain ⟨s,-,-,-,hat⟩:=Ae (l:=S) (k:=k) (by omega)
  have ht:S.take (k+1)=S.take k++[s]:=by rw [List.take_add_one,hat];rfl
  rw [ht,Fd,List.foldl_append]
  exact ul hA hf (Ue h0 hA hf S k (by omega)) s
theorem P1 (f:Int→Int→Int):∀ (S:List Az) (x:PS),(S.foldl (E9 f) x).rows.length≤x.rows.length+S.length
 |[],x=>Nat.le_refl _
 |s::S,x=>by
  have h1:(E9 f x s).rows.length≤x.rows.length+1:=by
   unfold E9
   split
   ·exact Nat.le_succ _
   ·split
    ·exact Nat.le_succ _
    ·simp
  have h2:=P1 f S (E9 f x s)
  rw [List.foldl_cons,List.length_cons];omega
theorem X6 {A B:List Int} (h:A.Perm B):A.sum=B.sum:=by
 induction h with
 |nil=>rfl
 |cons x _ ih=>simp [ih]
 |swap x y l=>simp;omega
 |trans _ _ h1 h2=>exact h1.trans h2
theorem sum_nn {l:List Int} (h:∀ x,x∈l→0≤x):0≤l.sum:=by
 induction l with
 |nil=>exact Int.le_refl _
 |cons x l ih =>
  have:=ih λy hy=>h y (by simp [hy])
  have:=h x (by simp)
  rw [List.sum_cons];omega
def Xd (k:Nat) (s:Az):Bool:=decide (s.ac.kd=2)&&decide (s.fi=k)
theorem ni {l:List Fi} {j k:Nat} (h:k<j):(B6 j l).filter (Xd k)=[]:=List.filter_eq_nil_iff.2 λs hs=>by
 have:=(Iw hs).1
 simp only [Xd,Bool.and_eq_true,decide_eq_true_eq];omega
theorem py {M:Int} (hM:0≤M):∀ (l:List Fi) (j k:Nat),(∀ f,f∈l→((f.ac.filter λa=>decide (a.kd=2)).map (·.am)).sum≤M)→(((B6 j l).filter (Xd k)).map (·.ac.am)).sum≤M
 |[],j,k,_=>by simpa [B6] using hM
 |f::r,j,k,h=>by
  rw [B6,List.filter_append,List.map_append,List.sum_append]
  by_cases e:k=j
  ·subst e
   rw [ni (Nat.lt_succ_self k)]
   have e1:((f.ac.map λa=>(⟨k,a⟩:Az)).filter (Xd k)).map (·.ac.am)=(f.ac.filter λa=>decide (a.kd=2)).map (·.am):=by
    rw [List.filter_map,List.map_map]
    have:((Xd k) ∘ λa=>(⟨k,a⟩:Az))=λa=>decide (a.kd=2):=by funext a;simp [Xd]
    rw [this];rfl
   have:=h f (by simp)
   rw [e1];simpa using this
  ·have e1:(f.ac.map λa=>(⟨j,a⟩:Az)).filter (Xd k)=[]:=List.filter_eq_nil_iff.2 λs hs=>by
    obtain ⟨a,-,rfl⟩:=List.mem_map.1 hs
    simp [Xd,Ne.symm e]
   have:=py hM r (j+1) k λg hg=>h g (by simp [hg])
   rw [e1];simpa using this
theorem Io:∀ (l:List Fi) (j:Nat),(B6 j l).length=Dl l
 |[],_=>rfl
 |f::r,j=>by rw [B6,Dl,List.length_append,List.length_map,Io r]
theorem Q6:∀ (A B:List Fi) (j:Nat),B6 j (A++B)=B6 j A++B6 (j+A.length) B
 |[],B,j=>by simp [B6]
 |f::A,B,j=>by rw [List.cons_append,B6,B6,Q6 A B,List.append_assoc,List.length_cons,show j+1+A.length=j+(A.length+1) by omega]
theorem Fb (M:List Az):(G5 M).Perm M:=by have:=Fo ql M [];rwa [List.nil_append] at this
structure jb (c:Cv) (n:Nat) (x:PS) (s:Az):Prop where
 fi:s.fi<n
 am:0≤s.ac.am∧s.ac.am≤1000000000000000
 bk:1≤s.ac.bk∧s.ac.bk≤292194
 sh:0≤x.sh s.fi∧(s.ac.kd=2→x.sh s.fi+s.ac.am≤1000000000000000)
 pd:0≤x.pd s.fi∧x.pd s.fi≤x.al
 al:x.al≤1000000000000000
 f:0≤Bj c (x.sh s.fi+s.ac.am) (x.al-x.pd s.fi)∧Bj c (x.sh s.fi+s.ac.am) (x.al-x.pd s.fi)≤1000000000000000
theorem H9.fine {c:Cv} {l:List Fi} (h:H9 c l) (h1:R8 c.li) (h2:R8 c.ag):Ri c:=(dw h1 h2).1 h.cv
theorem H9.made {c:Cv} {l:List Fi} (h:H9 c l) {f:Fi} (hf:f∈l):mz f.cl f.ac:=Zs f.cl _ f.ac rfl (kx.1 (h.fl f hf)).2.2
def Ce (c:Cv) (l:List Fi):PS:=Fd (Bj c) (G5 (B6 0 l))
theorem aq {c:Cv} {l:List Fi} (h:H9 c l) (hf:Ri c) {k:Nat} {s:Az} (hat:(G5 (B6 0 l))[k]?=some s):jb c l.length (Fd (Bj c) ((G5 (B6 0 l)).take k)) s:=by
 obtain ⟨S,hS⟩:∃ S,S=G5 (B6 0 l):=⟨_,rfl⟩
 rw [←hS] at hat ⊢
 have hk:k<S.length:=(List.getElem?_eq_some_iff.1 hat).1
 have hag:=hf.ag
 have hde:=hf.de
 have hli:=hf.li
 have hp:=Ue (by omega) hag (Oq hf) S k (by omega)
 obtain ⟨x,hx⟩:∃ x,x=Fd (Bj c) (S.take k):=⟨_,rfl⟩
 rw [←hx] at hp ⊢
 have hmS:∀ t,t∈S→∃ f,f∈l∧l[t.fi]?=some f∧t.ac∈f.ac:=λt ht=>by
  rw [hS] at ht
  obtain ⟨-,f,h1,h2⟩:=Iw ((Fb _).mem_iff.1 ht)
  rw [Nat.sub_zero] at h1
  exact ⟨f,List.mem_of_getElem? h1,h1,h2⟩
 have hrt:∀ t,t∈S→Fz t.ac=true:=λt ht=>by
  obtain ⟨f,h1,-,h2⟩:=hmS t ht
  exact (h.made h1).rt _ h2
 have hs:=List.mem_of_getElem? hat
 obtain ⟨f,f1,f2,f3⟩:=hmS s hs
 have ha:=Kl (hrt s hs)
 have hbk:=(R5.1 (hrt s hs)).1
 have hpd:=hp.pd s.fi
 have hal:=hp.al
 have hpf:=Oq hf (x.sh s.fi+s.ac.am) (x.al-x.pd s.fi)
 have hpf2:=hpf.2 (by omega) (by omega)
 have hnn:∀ (A:List Az),(∀ t,t∈A→t∈S)→0≤((A.filter (Xd s.fi)).map (·.ac.am)).sum:=λA hA=>sum_nn λy hy=>by
  obtain ⟨t,ht,rfl⟩:=List.mem_map.1 hy
  exact (Kl (hrt t (hA t (List.mem_filter.1 ht).1))).1
 have hsh:=hp.sh s.fi
 refine ⟨(List.getElem?_eq_some_iff.1 f2).1,ha,hbk,⟨?_,λhkd=>?_⟩,hpd,by omega,hpf.1,by omega⟩
 ·rw [hsh];exact hnn (S.take k) λt ht=>List.mem_of_mem_take ht
 ·have htot:((S.filter (Xd s.fi)).map (·.ac.am)).sum≤1000000000000000:=by
   rw [hS,X6 (((Fb (B6 0 l)).filter (Xd s.fi)).map (·.ac.am))]
   exact py (by decide) l 0 s.fi λg hg=>by
    have:=(h.made hg).sh
    rw [←(h.made hg).eq];exact this.2
  have hsp:S=S.take k++s::S.drop (k+1):=by
   have:=(List.take_append_drop k S).symm
   rw [List.drop_eq_getElem_cons hk] at this
   have e:S[k]=s:=by rw [List.getElem?_eq_getElem hk] at hat;exact Option.some.inj hat
   rwa [e] at this
  rw [hsp,List.filter_append,List.map_append,List.sum_append,List.filter_cons,if_pos (by simp [Xd,hkd]),List.map_cons,List.sum_cons] at htot
  have h3:=hnn (S.drop (k+1)) λt ht=>List.mem_of_mem_drop ht
  have h4:x.sh s.fi=(((S.take k).filter (Xd s.fi)).map (·.ac.am)).sum:=hsh
  omega
end Go.Proofs.YtakohhkgeeoniaaGreat
end
section
namespace Go.Proofs.YtakohhkgeeoniaaGreat
open Go.Bx
set_option maxRecDepth 10000
theorem sMadeF (f:Fi) (hl:f.ac.length≤100000):Aj Tryz.prog 122 [Jc f] [] (.d (.bool (Sw f))) [] []:=by
 have co:=mw f.cl
 simp only [ia,qh,Jc,Gk] at co
 refine qP Tryz.func122 λc hP hfn=>?_;simp only [Jc,Gk,A0,↓A3,seval]
 repeat' first|(refine tz hP co ?_;try simp only [A0,↓A3,seval])|refine ⟨λh=>?_,λh=>?_⟩|refine aX ?_|fail
 refine B4.loop (X:=Nat×Fi×Int) (λx=>⟨[(1,.own 1 0),(3,.own 3 0),(4,.d (.int .i64 x.2.2)),(5,.d (.int .i64 (x.1:Nat)))],[(1,.fix (Gk f)),(3,.fix (Gk x.2.1))],[1,3]⟩)
  (λx=>x.1≤f.ac.length∧x.2.1.ac.length≤100001∧(x.2.2=0→x.2.1=⟨f.cl,f.ac.take x.1⟩∧Sw f=Gx f.cl (f.ac.take x.1) (f.ac.drop x.1))∧(x.2.2≠0→Sw f=false)) (λx=>f.ac.length-x.1) (0,⟨f.cl,[]⟩,0) ⟨Nat.zero_le _,by simp,λ_=>⟨rfl,rfl⟩,λh=>absurd rfl h⟩ (Wk.of _ hfn rfl (by simp only [A7,A0,↓A3,seval]) (by simp only [Gk,A7,A0,↓A3,seval])) ?_
 rintro ⟨k,x,e⟩ ⟨hk,hx,h0,h1⟩
 simp only at hk hx h0 h1
 by_cases hlt:k<f.ac.length
 ·have d0:decide ((k:Int)<(f.ac.length:Int))=true:=decide_eq_true (by omega)
  by_cases he:e=0
  ·subst he
   obtain ⟨rfl,hm⟩:=h0 rfl
   clear h0 h1 hx
   obtain ⟨a,hd,hg,-,hat⟩:=Ae hlt
   have hg:=hg default
   have n0:((0:Int) == 0)=true:=rfl
   have w1:IntKind.i64.wrap ((k:Int)+1)=((k+1:Nat):Int):=wS (by omega)
   have b1:(0:Int)≤(k:Int)∧(k:Int)<(f.ac.length:Int):=by omega
   have hTl:(f.ac.take k).length=k:=by rw [List.length_take];omega
   have cp:=yg ⟨f.cl,f.ac.take k⟩ a (by simp only [hTl];omega)
   simp only [Jc,Gk,Z8] at cp
   have ht:f.ac.take (k+1)=f.ac.take k++[a]:=by rw [List.take_add_one,hat];rfl
   rw [hd,Gx] at hm
   obtain ⟨e',he'⟩:∃ e',e'=Ir f.cl (f.ac.take k) a:=⟨_,rfl⟩
   obtain ⟨y,hy⟩:∃ y,y=Ru ⟨f.cl,f.ac.take k⟩ a:=⟨_,rfl⟩
   rw [←he'] at cp hm
   rw [←hy] at cp
   have hyl:y.ac.length≤100001:=by
    rw [hy,Ru]
    split
    ·simp only [List.length_append,hTl,List.length_singleton];omega
    ·simp [zFi]
   have hy0:e'=0→y=⟨f.cl,f.ac.take (k+1)⟩:=λh=>by rw [hy,Ru,if_pos (by rw [←he',h]),ht]
   clear hy he'
   simp only [Gk,Dr,Gh,hg,d0,n0,w1,A0,↓A3,seval]
   simp only [Dr,Gh,A0,↓A3,seval] at cp
   repeat' first|(refine tz hP cp ?_;try simp only [hg,n0,w1,A0,↓A3,seval])|refine ⟨λh=>?_,λh=>?_⟩|refine aX ?_|fail
   refine Al.on (k+1,y,e') ⟨hlt,hyl,λh=>⟨hy0 h,?_⟩,λh=>?_⟩ (by simp only;omega) (Wk.of _ hfn rfl (by simp only [w1,A7,A0,↓A3,seval]) (by simp only [Gk,Dr,Gh,A7,A0,↓A3,seval]))
   ·have h':e'=0:=h
    simp only
    rw [hm,h',ht];rfl
   ·have h':¬ e'=0:=h
    rw [hm,decide_eq_false h'];rfl
  ·have n0:(e == 0)=false:=by rw [beq_eq_false_iff_ne];exact he
   have hr:=h1 he
   simp only [Gk,Dr,Gh,d0,n0,A0,↓A3,seval]
   repeat' first|refine ⟨λh=>?_,λh=>?_⟩|refine aX ?_|fail
   (refine rq ?_;first|exact ⟨⟩|rw [hr])
 ·have d0:decide ((k:Int)<(f.ac.length:Int))=false:=decide_eq_false (by omega)
  have hr:Sw f=(e == 0):=by
   by_cases he:e=0
   ·subst he
    rw [(h0 rfl).2,List.drop_eq_nil_of_le (by omega),Gx];rfl
   ·rw [h1 he];exact (beq_eq_false_iff_ne.2 he).symm
  simp only [Gk,Dr,Gh,d0,A0,↓A3,seval]
  repeat' first|refine ⟨λh=>?_,λh=>?_⟩|refine aX ?_|fail
  (refine rq ?_;first|exact ⟨⟩|rw [hr])
theorem sBadF (k:Cv) (f:Fi) (hl:f.ac.length≤100000):Aj Tryz.prog 121 [Jc f,.mem [.int .i64 k.pe,.int .i64 k.li,.int .i64 k.ag,.int .i64 k.de,.int .i64 k.sh]] [] (.d (.bool (qd k f))) [] []:=by
 have cf:=Vl f.cl
 have cm:=sMadeF f hl
 simp only [ia,qh] at cf
 simp only [Jc,Gk] at cm
 refine qP Tryz.func121 λc hP hfn=>?_;simp only [Jc,Gk,A0,↓A3,seval]
 repeat' first|(refine tq hP (h:=⟨_,λ_=>by first|exact cf|exact cm,?_⟩);try simp only [A0,↓A3,seval])|refine ⟨λh=>?_,λh=>?_⟩|refine aX ?_|fail
 exact rr
theorem sIdxFi {g:Nat} {ds:List D} {p:Fi→Bool} (l:List Fi) (hp:∀ f,f∈l→Aj Tryz.prog g [Jc f,.mem ds] [] (.d (.bool (p f))) [] []) (hl:l.length≤1000000) :
  Aj Tryz.prog 154 [.d (Ig l),Bk g ds] [] (.d (.int .i64 (Ji p l 0))) [] []:=by
 refine qP Tryz.func154 λc hP hfn=>?_;simp only [Ig,Cz,Bk,A0,↓A3,seval]
 refine B4.loop (X:=Nat) (λk=>⟨[(0,.d (Ig l)),(1,Bk g ds),(7,.d (.int .i64 l.length)),(8,.d (.int .i64 (k:Nat)))],[],[]⟩)
  (λk=>k≤l.length∧Ji p l 0=Ji p (l.drop k) k) (λk=>l.length-k) 0 ⟨Nat.zero_le _,rfl⟩ (Wk.of _ hfn rfl (by simp only [Ig,Cz,Bk,A7,A0,↓A3,seval]) (by simp only [A7,A0,↓A3,seval])) ?_
 rintro k ⟨hk,he⟩
 by_cases hlt:k<l.length
 ·obtain ⟨a,hd,hg,hm,-⟩:=Ae hlt
  have hg:=hg default
  have d0:decide ((k:Int)<(l.length:Int))=true:=decide_eq_true (by omega)
  have w1:IntKind.i64.wrap ((k:Int)+1)=((k+1:Nat):Int):=wS (by omega)
  have b1:(0:Int)≤(k:Int)∧(k:Int)<(l.length:Int):=by omega
  have cc:=hp a hm
  simp only [Jc,Gk] at cc
  rw [hd,Ji] at he
  simp only [Ig,Cz,Bk,hg,d0,w1,A0,↓A3,seval]
  repeat' first|(refine tz hP cc ?_;try simp only [hg,w1,A0,↓A3,seval])|refine ⟨λh=>?_,λh=>?_⟩|refine aX ?_|fail
  ·rw [if_pos h] at he
   (refine rq ?_;first|exact ⟨⟩|rw [he])
  ·rw [if_neg (by rw [h];simp)] at he
   exact Al.on (k+1) ⟨hlt,he⟩ (by omega) (Wk.of _ hfn rfl (by simp only [Ig,Cz,Bk,w1,A7,A0,↓A3,seval]) (by simp only [A7,A0,↓A3,seval]))
 ·have hk2:k=l.length:=by omega
  have d0:decide ((k:Int)<(l.length:Int))=false:=decide_eq_false (by omega)
  rw [hk2,List.drop_length,Ji] at he
  simp only [Ig,Cz,Bk,d0,A0,↓A3,seval]
  repeat' first|refine ⟨λh=>?_,λh=>?_⟩|refine aX ?_|fail
  (refine rq ?_;first|exact ⟨⟩|rw [he])
theorem vd {X:Type} (p:X→Bool) (l:List X):decide (Ji p l 0≥0)=l.any p:=by
 rcases Ib p l with h|⟨A,x,B,rfl,h1,h2⟩
 ·rw [N3 p l 0 h,List.any_eq_false.2 λx hx=>by rw [h x hx];simp];rfl
 ·rw [Ni p A x B 0 h1 h2]
  have:(A++x::B).any p=true:=by rw [List.any_eq_true];exact ⟨x,by simp,h2⟩
  rw [this]
  exact decide_eq_true (by omega)
theorem yt {g:Nat} {ds:List D} {p:Fi→Bool} (l:List Fi) (hp:∀ f,f∈l→Aj Tryz.prog g [Jc f,.mem ds] [] (.d (.bool (p f))) [] []) (hl:l.length≤1000000) :
  Aj Tryz.prog 123 [.d (Ig l),Bk g ds] [] (.d (.bool (l.any p))) [] []:=by
 have ci:=sIdxFi l hp hl
 rw [←vd]
 simp only [Bk] at ci
 refine qP Tryz.func123 λc hP hfn=>?_;simp only [Bk,A0,↓A3,seval]
 repeat' first|(refine tz hP ci ?_;try simp only [A0,↓A3,seval])|refine ⟨λh=>?_,λh=>?_⟩|refine aX ?_|fail
 exact rr
theorem uz (k:Cv) (l:List Fi) (hl:ShF l):Aj Tryz.prog 87 [vC k,.d (Ig l)] [] (.d (.bool (R3 k l))) [] []:=by
 have ck:=yt l (λf hf=>sBadF k f (hl.2 f hf)) (by have:=hl.1;omega)
 have cr:=Uc k
 simp only [Bk] at ck
 simp only [vC,cC] at cr
 refine qP Tryz.func87 λc hP hfn=>?_;simp only [vC,cC,A0,↓A3,seval]
 repeat' first|refine ⟨λh=>?_,λh=>?_⟩|refine aX ?_|fail
 refine TR.wk _ (Wk.pubF 2 rfl rfl) ?_
 simp only [A0,↓A3,seval]
 repeat' first|(refine tq hP (h:=⟨_,λ_=>by first|exact cr|exact ck,?_⟩);try simp only [A0,↓A3,seval])|refine ⟨λh=>?_,λh=>?_⟩|refine aX ?_|fail
 exact rr
theorem Sd:∀ A B:List Fi,Dl (A++B)=Dl A+Dl B
 |[],B=>by simp [Dl]
 |f::A,B=>by rw [List.cons_append,Dl,Dl,Sd A B];omega
theorem Pr {l:List Fi} (h:∀ f,f∈l→f.ac.length≤100000):Dl l≤l.length*100000:=by
 induction l with
 |nil=>simp [Dl]
 |cons f l ih =>
  have:=ih λg hg=>h g (by simp [hg])
  have:=h f (by simp)
  rw [Dl,List.length_cons];omega
theorem vf (k:Cv) (l:List Fi) (hl:ShF l):Aj Tryz.prog 56 [vC k,.d (Ig l)] [] (.d (.int .i64 (Cb k l))) [] []:=by
 have cr:=uz k l hl
 obtain ⟨hl,hs⟩:=hl
 have hact:=Pr hs
 simp only [vC,cC] at cr
 cases hr:R3 k l with
 |false =>
  have e:Cb k l=1:=by rw [Cb,if_pos hr]
  rw [e]
  rw [hr] at cr
  refine qP Tryz.func56 λc hP hfn=>?_;simp only [vC,cC,A0,↓A3,seval]
  repeat' first|(refine tz hP cr ?_;try simp only [A0,↓A3,seval])|refine ⟨λh=>?_,λh=>?_⟩|refine aX ?_|fail
  all_goals exact rr
 |true =>
  rw [hr] at cr
  have e:Cb k l=if 2000<l.length∨2000<Dl l then 2 else 0:=by rw [Cb,if_neg (by rw [hr];simp)]
  simp only [Ig,Cz] at cr
  refine qP Tryz.func56 λc hP hfn=>?_;simp only [vC,cC,Ig,Cz,A0,↓A3,seval]
  repeat' first|(refine tz hP cr ?_;try simp only [A0,↓A3,seval])|refine ⟨λh=>?_,λh=>?_⟩|refine aX ?_|fail
  refine B4.loop (X:=Nat) (λx=>⟨[(1,.d (Ig l)),(5,.d (.int .i64 (Dl (l.take x):Nat))),(12,.d (Ig l)),(13,.d (.int .i64 l.length)),(14,.d (.int .i64 (x:Nat)))],[],[]⟩)
   (λx=>x≤l.length) (λx=>l.length-x) 0 (Nat.zero_le _) (Wk.of _ hfn rfl (by simp only [List.take_zero,Dl,Ig,Cz,A7,A0,↓A3,seval]) (by simp only [A7,A0,↓A3,seval])) ?_
  intro x hx
  by_cases hlt:x<l.length
  ·obtain ⟨f,-,hg,hm,hat⟩:=Ae hlt
   have hg:=hg default
   have d0:decide ((x:Int)<(l.length:Int))=true:=decide_eq_true (by omega)
   have w1:IntKind.i64.wrap ((x:Int)+1)=((x+1:Nat):Int):=wS (by omega)
   have h1:=hs f hm
   have ht:Dl (l.take (x+1))=Dl (l.take x)+f.ac.length:=by
    rw [List.take_add_one,hat,Sd];simp [Dl]
   have h2:=Pr (l:=l.take x) λg hg=>hs g (List.mem_of_mem_take hg)
   rw [List.length_take] at h2
   have w2:IntKind.i64.wrap ((Dl (l.take x):Int)+(f.ac.length:Int))=((Dl (l.take x)+f.ac.length:Nat):Int):=(wI (by omega)).trans (by omega)
   generalize Dl (l.take x)=n at *
   simp only [Ig,Cz,Dr,hg,d0,w1,w2,A0,↓A3,seval]
   repeat' first|refine ⟨λh=>?_,λh=>?_⟩|refine aX ?_|fail
   exact Al.on (x+1) hlt (by omega) (Wk.of _ hfn rfl (by simp only [ht,Ig,Cz,Dr,w1,w2,A7,A0,↓A3,seval]) (by simp only [A7,A0,↓A3,seval]))
  ·have hx2:x=l.length:=by omega
   have d0:decide ((x:Int)<(l.length:Int))=false:=decide_eq_false (by omega)
   rw [hx2,List.take_length]
   rw [hx2] at d0
   have dor:(decide ((l.length:Int)>2000) || decide ((Dl l:Int)>2000))=decide (2000<l.length∨2000<Dl l):=by
    rw [Bool.eq_iff_iff];simp;omega
   simp only [Ig,d0,A0,↓A3,seval]
   repeat' first|refine ⟨λh=>?_,λh=>?_⟩|refine aX ?_|fail
   ·(refine rq ?_;first|exact ⟨⟩|(rw [dor] at h;rw [e,if_pos (of_decide_eq_true h)]))
   ·(refine rq ?_;first|exact ⟨⟩|(rw [dor] at h;rw [e,if_neg (of_decide_eq_false h)]))
def sd:Az:=default
abbrev cT (s:Az):List D:=[.int .i64 (s.fi:Int),.int .i64 s.ac.bk,.int .i64 s.ac.kd,.int .i64 s.ac.am]
abbrev vT (s:Az):V:=.ag [.d (.int .i64 (s.fi:Int)),.d (.int .i64 s.ac.bk),.d (.int .i64 s.ac.kd),.d (.int .i64 s.ac.am)]
def A8 (l:List Az):Go.Bx.Own:=.row 164 4 l.length (λi=>cT (l.getD i sd))
def Bo (g:Nat):V:=.fn (.func g) [] []
def Bq (cf:Az→Az→Int) (a b:Az):Bool:=decide (cf a b<0)
structure Tl (g:Nat) (cf:Az→Az→Int) (ok:Az→Prop):Prop where
 w:bq (Bq cf)
 c:∀ a b,ok a→ok b→Aj Tryz.prog g [vT a,vT b] [] (.d (.int .i64 (cf a b))) [] []
theorem Nc {u:List Az} {p:Az} {w:List Az} {i:Nat} (h:i=u.length):(u++p::w).getD i sd=p:=by subst h;exact Gu sd u p w
theorem Bf.swt {e:Nat} {l l':List Az} {i j:Nat} {u v:Az} (hi:i<l.length) (hj:j<l.length) (hu:l.getD i sd=u) (hv:l.getD j sd=v) (h:l'=Rx sd l i j) :
  Bf (.row e 4 l.length (λi'=>if i'=j then Db (if j=i then Db (cT u) 0 (cT v) else cT v) 0 (cT u) else if i'=i then Db (cT u) 0 (cT v) else cT (l.getD i' sd)))
   (.row e 4 l'.length (λi=>cT (l'.getD i sd))):=by
 subst h
 refine Bf.row (Ot _ _ _ _).symm λm hm=>?_
 rw [U9 sd hi hj m,hu,hv]
 by_cases e1:m=j
 ·subst e1;simp only [if_true];split<;>simp [Db]
 ·rw [if_neg e1,if_neg e1]
  by_cases e2:m=i
  ·subst e2;simp [Db]
  ·rw [if_neg e2,if_neg e2]
theorem Zc {g:Nat} {cf:Az→Az→Int} {ok:Az→Prop} (hc:Tl g cf ok) (P M S:List Az) (hok:∀ x,x∈M→ok x) (hl:P.length+(M.length+S.length)≤4611686018427387904) :
  Aj Tryz.prog 124 [.osl 900,.d (.int .i64 P.length),.d (.int .i64 ((P.length+M.length:Nat):Int)),Bo g] [(900,A8 (P++(M++S)))] (.tup []) [(900,A8 (P++(srt (Bq cf) [] M++S)))] []:=by
 refine qO Tryz.func124 ?_
 intro c hP hfn
 have w1:IntKind.i64.wrap ((P.length:Int)+1)=((P.length+1:Nat):Int):=wS (by omega)
 simp only [A5,V.names,A4,A8,Bo,w1,A0,↓A3,seval]
 refine B4.loop (X:=Nat×List Az) (λx=>⟨[(0,.osl 900),(1,.d (.int .i64 P.length)),(2,.d (.int .i64 ((P.length+M.length:Nat):Int))),(3,Bo g),(8,.d (.int .i64 (x.1:Nat)))],[(900,A8 x.2)],[900]⟩)
  (λx=>∃ k,x.1=P.length+k∧1≤k∧(k≤M.length∨k=1)∧x.2=P++(srt (Bq cf) [] (M.take k)++(M.drop k++S))) (λx=>P.length+M.length-x.1) (P.length+1,P++(M++S)) ⟨1,rfl,Nat.le_refl _,.inr rfl,?_⟩ (Wk.of _ hfn rfl (by simp only [Bo,A7,A0,↓A3,seval]) (by simp only [A8,A7,A0,↓A3,seval])) ?_
 ·cases M with
  |nil=>rfl
  |cons a M=>simp [srt,Bt]
 rintro ⟨i,l⟩ ⟨k,hi,h1,hk,hL⟩
 simp only at hi hL
 by_cases hlt:k<M.length
 ·obtain ⟨e,hd,hg,hm,he⟩:=Ae hlt
  have oke:=hok e hm
  have d0:decide ((i:Int)<((P.length+M.length:Nat):Int))=true:=decide_eq_true (by omega)
  have tl:(srt (Bq cf) [] (M.take k)).length=k:=by rw [F1,List.length_take];simp;omega
  have okT:∀ x,x∈srt (Bq cf) [] (M.take k)→ok x:=λx hx=>hok x (List.mem_of_mem_take (by simpa using (Fo (Bq cf) (M.take k) []).mem_iff.1 hx))
  have hT2:srt (Bq cf) [] (M.take (k+1))=Bt (Bq cf) (srt (Bq cf) [] (M.take k)) [e]:=by
   rw [List.take_add_one,he,Oy];rfl
  simp only [A8,Bo,d0,A0,↓A3,seval]
  repeat' first|refine ⟨λh=>?_,λh=>?_⟩|refine aX ?_|fail
  refine B4.loop (X:=Nat×List Az) (λx=>⟨[(0,.osl 900),(1,.d (.int .i64 P.length)),(2,.d (.int .i64 ((P.length+M.length:Nat):Int))),(3,Bo g),(8,.d (.int .i64 (i:Nat))),(9,.d (.int .i64 (x.1:Nat)))],[(900,A8 x.2)],[900]⟩)
   (λx=>∃ A B,A++B=srt (Bq cf) [] (M.take k)∧(∀ b,b∈B→Bq cf e b=true)∧x.1=P.length+A.length∧x.2=P++(A++(e::(B++(M.drop (k+1)++S))))) (λx=>x.1) (i,l) ⟨_,[],List.append_nil _,λb hb=>by simp at hb,by rw [tl];exact hi,by rw [hL,hd];simp⟩ (Wk.of _ hfn rfl (by simp only [Bo,A7,A0,↓A3,seval]) (by simp only [A8,A7,A0,↓A3,seval])) ?_
  rintro ⟨j,r⟩ ⟨A,B,hAB,hB,hj,hr⟩
  simp only at hj hr
  have hlA:A.length+B.length=k:=by rw [←tl,←hAB,List.length_append]
  have hrl:r.length=P.length+(M.length+S.length):=by rw [hr];simp only [List.length_append,List.length_cons,List.length_drop];omega
  have gj:r.getD j sd=e:=by rw [hr,hj,←List.append_assoc];exact Nc (by simp)
  have bj:(0:Int)≤(j:Int)∧(j:Int)<(r.length:Int):=by omega
  have w2:IntKind.i64.wrap ((i:Int)+1)=((i+1:Nat):Int):=wS (by omega)
  by_cases hA:A.length=0
  ·have hA0:A=[]:=List.eq_nil_of_length_eq_zero hA
   subst hA0
   rw [List.nil_append] at hAB
   have hres:r=P++(srt (Bq cf) [] (M.take (k+1))++(M.drop (k+1)++S)):=by
    rw [hr,hT2,←hAB,Lp hB];simp
   have d1:decide ((j:Int)>(P.length:Int))=false:=decide_eq_false (by simp at hj;omega)
   simp only [A8,Bo,d1,w2,A0,↓A3,seval]
   refine TR.gpw (gc:=false) (first:=[]) (cap:=[]) (f:=0) (res:=.d (.int .i64 0)) hP rfl (λh=>by cases h) (λh=>by cases h) (λh=>by cases h) (λh=>by cases h) ?_
   simp only [w2,A0,↓A3,seval]
   repeat' first|refine ⟨λh=>?_,λh=>?_⟩|refine aX ?_|fail
   refine Al.on (i+1,r) ⟨k+1,by simp only;omega,by omega,.inl hlt,hres⟩ (by simp only;omega) (Wk.of _ hfn rfl (by simp only [Bo,A7,A0,↓A3,seval]) (by simp only [A8,A7,A0,↓A3,seval]))
  ·obtain ⟨A,x,rfl⟩:∃ A' x,A=A'++[x]:=by
    rcases List.eq_nil_or_concat A with h|⟨m,x,h⟩
    ·rw [h] at hA;exact absurd rfl hA
    ·exact ⟨m,x,by simpa using h⟩
   simp only [List.length_append,List.length_singleton] at hj hlA
   have d1:decide ((j:Int)>(P.length:Int))=true:=decide_eq_true (by omega)
   have e1:IntKind.i64.wrap ((j:Int)-1)=((j-1:Nat):Int):=by rw [wI (by omega)];omega
   have b1:(0:Int)≤((j-1:Nat):Int)∧((j-1:Nat):Int)<(r.length:Int):=by omega
   have g1:r.getD (j-1) sd=x:=by
    have:r=(P++A)++x::(e::(B++(M.drop (k+1)++S))):=by rw [hr];simp
    rw [this];exact Nc (by simp;omega)
   have okx:ok x:=okT x (by rw [←hAB];simp)
   have cc:=hc.c e x oke okx
   simp only [A8,Bo,d1,e1,gj,g1,A0,↓A3,seval]
   repeat' first|refine ⟨λh=>?_,λh=>?_⟩|refine aX ?_|fail
   refine TR.gpw (gc:=true) hP rfl (λ_=>rfl) (λ_=>cc) (by intro _;simp only [A0,↓A3,seval]) (by intro _;simp only [A0,↓A3,seval]) ?_
   simp only [e1,gj,g1,A0,↓A3,seval]
   repeat' first|refine ⟨λh=>?_,λh=>?_⟩|refine aX ?_|fail
   ·refine Al.on (j-1,Rx sd r j (j-1)) ⟨A,x::B,by rw [←hAB];simp,λb hb=>?_,by simp only;omega,?_⟩ (by simp only;omega) (Wk.of _ hfn rfl (by simp only [Bo,A7,A0,↓A3,seval]) ?_)
    ·rcases List.mem_cons.1 hb with rfl|hb
     ·exact h
     ·exact hB b hb
    ·have:r=(P++A)++x::e::(B++(M.drop (k+1)++S)):=by rw [hr];simp
     simp only [this]
     rw [Kk sd (P++A) x e _ (by simp;omega) (by simp;omega)];simp
    ·simp only [A8,A7,A0,↓A3,seval]
     exact Bf.swt (by omega) (by omega) gj g1 rfl
   ·have hlo:∀ a,a∈A++[x]→Bq cf e a=false:=λa ha=>by
     have hS:=C7 hc.w (M.take k) [] List.Pairwise.nil
     rw [←hAB] at hS
     have h8:Bq cf e x=false:=h
     rcases List.mem_append.1 ha with h9|h9
     ·have hS1:=(List.pairwise_append.1 (List.pairwise_append.1 hS).1).2.2 a h9 x (by simp)
      exact hc.w.nt e x a h8 hS1
     ·rw [List.mem_singleton.1 h9];exact h8
    refine Al.on (i+1,r) ⟨k+1,by simp only;omega,by omega,.inl hlt,?_⟩ (by simp only;omega) (Wk.of _ hfn rfl (by simp only [Bo,w2,A7,A0,↓A3,seval]) (by simp only [A8,A7,A0,↓A3,seval]))
    simp only
    rw [hr,hT2,←hAB,X5 hB hlo];simp
 ·have d0:decide ((i:Int)<((P.length+M.length:Nat):Int))=false:=decide_eq_false (by omega)
  have e1:M.take k=M:=List.take_of_length_le (by omega)
  have e2:M.drop k=[]:=List.drop_eq_nil_of_le (by omega)
  rw [e1,e2,List.nil_append] at hL
  simp only [A8,Bo,d0,A0,↓A3,seval]
  repeat' first|refine ⟨λh=>?_,λh=>?_⟩|refine aX ?_|fail
  refine Et (Wk.refl _ _) ?_
  simp only [hL,A7,A0,↓A3,seval]
theorem Ye {g:Nat} (l:List Az) (a b n:Nat) (h1:a+n≤b) (h2:b+n≤l.length) (hl:l.length≤4611686018427387904) :
  Aj Tryz.prog 175 [.osl 900,.d (.int .i64 (a:Int)),.d (.int .i64 (b:Int)),.d (.int .i64 (n:Int)),Bo g] [(900,A8 l)] (.tup []) [(900,A8 (Gb sd l a b n))] []:=by
 refine qO Tryz.func175 ?_
 intro c hP hfn
 simp only [A5,V.names,A4,A8,Bo,A0,↓A3,seval]
 refine B4.loop (X:=Nat×List Az) (λx=>⟨[(0,.osl 900),(1,.d (.int .i64 (a:Int))),(2,.d (.int .i64 (b:Int))),(3,.d (.int .i64 (n:Int))),(10,.d (.int .i64 (x.1:Nat)))],[(900,A8 x.2)],[900]⟩)
  (λx=>x.1≤n∧x.2=Gb sd l a b x.1) (λx=>n-x.1) (0,l) ⟨Nat.zero_le _,(S4 sd l a b).symm⟩ (Wk.of _ hfn rfl (by simp only [Bo,A7,A0,↓A3,seval]) (by simp only [A8,A7,A0,↓A3,seval])) ?_
 rintro ⟨k,r⟩ ⟨hk,hr⟩
 simp only at hk hr
 have hrl:r.length=l.length:=by rw [hr,Fv]
 by_cases hlt:k<n
 ·have d0:decide ((k:Int)<(n:Int))=true:=decide_eq_true (by omega)
  have w1:IntKind.i64.wrap ((a:Int)+(k:Int))=((a+k:Nat):Int):=(wI (by omega)).trans (by omega)
  have w2:IntKind.i64.wrap ((b:Int)+(k:Int))=((b+k:Nat):Int):=(wI (by omega)).trans (by omega)
  have w3:IntKind.i64.wrap ((k:Int)+1)=((k+1:Nat):Int):=wS (by omega)
  have b1:(0:Int)≤((a+k:Nat):Int)∧((a+k:Nat):Int)<(r.length:Int):=by omega
  have b2:(0:Int)≤((b+k:Nat):Int)∧((b+k:Nat):Int)<(r.length:Int):=by omega
  obtain ⟨u,gu⟩:∃ u,r.getD (a+k) sd=u:=⟨_,rfl⟩
  obtain ⟨v,gv⟩:∃ v,r.getD (b+k) sd=v:=⟨_,rfl⟩
  simp only [A8,d0,w1,w2,gu,gv,A0,↓A3,seval]
  repeat' first|refine ⟨λh=>?_,λh=>?_⟩|refine aX ?_|fail
  refine Al.on (k+1,Rx sd r (a+k) (b+k)) ⟨by simp only;omega,?_⟩ (by simp only;omega) (Wk.of _ hfn rfl (by simp only [w3,A7,A0,↓A3,seval]) ?_)
  ·simp only [hr];exact S5 sd (by omega) (by omega)
  ·simp only [A8,A7,A0,↓A3,seval]
   exact Bf.swt (by omega) (by omega) gu gv rfl
 ·have d0:decide ((k:Int)<(n:Int))=false:=decide_eq_false (by omega)
  have hkn:k=n:=by omega
  subst hkn
  simp only [A8,d0,A0,↓A3,seval]
  repeat' first|refine ⟨λh=>?_,λh=>?_⟩|refine aX ?_|fail
  refine Et (Wk.refl _ _) ?_
  simp only [hr,A7,A0,↓A3,seval]
theorem tx {g:Nat} (P U W S:List Az) (hu:0<U.length) (hw:0<W.length) (hl:P.length+U.length+W.length+S.length≤4611686018427387904) :
  Aj Tryz.prog 155 [.osl 900,.d (.int .i64 (P.length:Int)),.d (.int .i64 ((P.length+U.length:Nat):Int)),.d (.int .i64 ((P.length+U.length+W.length:Nat):Int)),Bo g] [(900,A8 (P++(U++(W++S))))] (.tup []) [(900,A8 (P++(W++(U++S))))] []:=by
 refine qO Tryz.func155 ?_
 intro c hP hfn
 have w1:IntKind.i64.wrap (((P.length+U.length:Nat):Int)-(P.length:Int))=((U.length:Nat):Int):=(wI (by omega)).trans (by omega)
 have w2:IntKind.i64.wrap (((P.length+U.length+W.length:Nat):Int)-((P.length+U.length:Nat):Int))=((W.length:Nat):Int):=(wI (by omega)).trans (by omega)
 simp only [A5,V.names,A4,A8,Bo,w1,w2,A0,↓A3,seval]
 refine B4.loop (X:=Nat×Nat×List Az) (λx=>⟨[(0,.osl 900),(2,.d (.int .i64 ((P.length+U.length:Nat):Int))),(4,Bo g),(10,.d (.int .i64 (x.1:Nat))),(11,.d (.int .i64 (x.2.1:Nat)))],[(900,A8 x.2.2)],[900]⟩)
  (λx=>∃ P' U' W' S',x.1=U'.length∧x.2.1=W'.length∧0<U'.length∧0<W'.length∧P'.length+U'.length=P.length+U.length∧P'.length+U'.length+W'.length+S'.length≤4611686018427387904∧x.2.2=P'++(U'++(W'++S'))∧P++(W++(U++S))=P'++(W'++(U'++S'))) (λx=>x.1+x.2.1) (U.length,W.length,P++(U++(W++S)))
  ⟨P,U,W,S,rfl,rfl,hu,hw,rfl,hl,rfl,rfl⟩ (Wk.of _ hfn rfl (by simp only [Bo,A7,A0,↓A3,seval]) (by simp only [A8,A7,A0,↓A3,seval])) ?_
 rintro ⟨i,j,r⟩ ⟨P',U',W',S',hi,hj,h1,h2,h3,h5,hr,h4⟩
 simp only at hi hj hr
 have hrl:r.length=P'.length+U'.length+W'.length+S'.length:=by rw [hr];simp only [List.length_append];omega
 have w3:IntKind.i64.wrap (((P.length+U.length:Nat):Int)-(i:Int))=((P'.length:Nat):Int):=(wI (by omega)).trans (by omega)
 by_cases hne:i=j
 ·have d0:((i:Int) != (j:Int))=false:=by rw [bne_eq_false_iff_eq];omega
  have cc:=Ye (g:=g) r P'.length (P.length+U.length) i (by omega) (by omega) (by omega)
  simp only [A8,Bo] at cc
  simp only [A8,Bo,d0,w3,A0,↓A3,seval]
  repeat' first|refine ⟨λh=>?_,λh=>?_⟩|refine aX ?_|fail
  refine tC [(900,A8 r)] [(900,A8 (Gb sd r P'.length (P.length+U.length) i))] hP cc (B7 rfl) ?_
  simp only [A0,↓A3,seval]
  repeat' first|refine ⟨λh=>?_,λh=>?_⟩|refine aX ?_|fail
  refine Et (Wk.refl _ _) ?_
  have e:Gb sd r P'.length (P.length+U.length) i=P++(W++(U++S)):=by
   rw [hr,h4,hi]
   have:=Hs sd P' U' [] W' S' (by omega) (a:=P'.length) (b:=P.length+U.length) rfl (by simp;omega)
   simpa using this
  rw [e]
  simp only [A8,A7,A0,↓A3,seval]
 ·have d0:((i:Int) != (j:Int))=true:=by rw [bne_iff_ne];omega
  by_cases hgt:i>j
  ·have d1:decide ((i:Int)>(j:Int))=true:=decide_eq_true (by omega)
   have cc:=Ye (g:=g) r P'.length (P.length+U.length) j (by omega) (by omega) (by omega)
   have w4:IntKind.i64.wrap ((i:Int)-(j:Int))=((i-j:Nat):Int):=(wI (by omega)).trans (by omega)
   simp only [A8,Bo] at cc
   simp only [A8,Bo,d0,d1,w3,A0,↓A3,seval]
   repeat' first|refine ⟨λh=>?_,λh=>?_⟩|refine aX ?_|fail
   refine tC [(900,A8 r)] [(900,A8 (Gb sd r P'.length (P.length+U.length) j))] hP cc (B7 rfl) ?_
   simp only [w4,A0,↓A3,seval]
   repeat' first|refine ⟨λh=>?_,λh=>?_⟩|refine aX ?_|fail
   have tk:∀ Z,U'.take j++(U'.drop j++Z)=U'++Z:=λZ=>by rw [←List.append_assoc,List.take_append_drop]
   have e:Gb sd r P'.length (P.length+U.length) j=(P'++W')++(U'.drop j++(U'.take j++S')):=by
    rw [hr]
    have:=Hs sd P' (U'.take j) (U'.drop j) W' S' (by rw [List.length_take];omega) (a:=P'.length) (b:=P.length+U.length) rfl (by rw [List.length_take,List.length_drop];omega)
    rw [List.length_take,Nat.min_eq_left (by omega)] at this
    simpa [tk] using this
   rw [e]
   refine Al.on (i-j,j,(P'++W')++(U'.drop j++(U'.take j++S'))) ⟨P'++W',U'.drop j,U'.take j,S',?_,?_,?_,?_,?_,?_,rfl,?_⟩ (by simp only;omega) (Wk.of _ hfn rfl (by simp only [Bo,w4,A7,A0,↓A3,seval]) (by simp only [A8,A7,A0,↓A3,seval]))
   ·rw [List.length_drop];simp only;omega
   ·rw [List.length_take];simp only;omega
   ·rw [List.length_drop];omega
   ·rw [List.length_take];omega
   ·rw [List.length_drop,List.length_append];omega
   ·rw [List.length_drop,List.length_append,List.length_take];omega
   ·rw [h4];simp [tk]
  ·have d1:decide ((i:Int)>(j:Int))=false:=decide_eq_false (by omega)
   have w5:IntKind.i64.wrap (((P.length+U.length:Nat):Int)+(j:Int))=((P.length+U.length+j:Nat):Int):=(wI (by omega)).trans (by omega)
   have w6:IntKind.i64.wrap (((P.length+U.length+j:Nat):Int)-(i:Int))=((P.length+U.length+j-i:Nat):Int):=(wI (by omega)).trans (by omega)
   have w4:IntKind.i64.wrap ((j:Int)-(i:Int))=((j-i:Nat):Int):=(wI (by omega)).trans (by omega)
   have cc:=Ye (g:=g) r P'.length (P.length+U.length+j-i) i (by omega) (by omega) (by omega)
   simp only [A8,Bo] at cc
   simp only [A8,Bo,d0,d1,w3,w5,w6,A0,↓A3,seval]
   repeat' first|refine ⟨λh=>?_,λh=>?_⟩|refine aX ?_|fail
   refine tC [(900,A8 r)] [(900,A8 (Gb sd r P'.length (P.length+U.length+j-i) i))] hP cc (B7 rfl) ?_
   simp only [w4,A0,↓A3,seval]
   repeat' first|refine ⟨λh=>?_,λh=>?_⟩|refine aX ?_|fail
   have tk:∀ Z,W'.take (j-i)++(W'.drop (j-i)++Z)=W'++Z:=λZ=>by rw [←List.append_assoc,List.take_append_drop]
   have e:Gb sd r P'.length (P.length+U.length+j-i) i=P'++(W'.drop (j-i)++(W'.take (j-i)++(U'++S'))):=by
    rw [hr,hi]
    have:=Hs sd P' U' (W'.take (j-U'.length)) (W'.drop (j-U'.length)) S' (by rw [List.length_drop];omega) (a:=P'.length) (b:=P.length+U.length+j-U'.length) rfl (by rw [List.length_take];omega)
    rw [←hi] at this ⊢
    simpa [tk] using this
   rw [e]
   refine Al.on (i,j-i,P'++(W'.drop (j-i)++(W'.take (j-i)++(U'++S')))) ⟨P',W'.drop (j-i),W'.take (j-i),U'++S',?_,?_,?_,?_,?_,?_,rfl,?_⟩ (by simp only;omega) (Wk.of _ hfn rfl (by simp only [Bo,w4,A7,A0,↓A3,seval]) (by simp only [A8,A7,A0,↓A3,seval]))
   ·rw [List.length_drop];simp only;omega
   ·rw [List.length_take];simp only;omega
   ·rw [List.length_drop];omega
   ·rw [List.length_take];omega
   ·rw [List.length_drop];omega
   ·rw [List.length_drop,List.length_append,List.length_take];omega
   ·rw [h4];simp [tk]
theorem Ws {i j:Nat} (h:i+j≤9223372036854775807):IntKind.i64.wrap ((IntKind.u64.wrap (IntKind.i64.wrap ((i:Int)+(j:Int)))).fdiv (2 ^ min 1 IntKind.u64.bits))=(((i+j) / 2:Nat):Int):=by
 have e1:IntKind.i64.wrap ((i:Int)+(j:Int))=((i+j:Nat):Int):=(wI (by omega)).trans (by omega)
 have e2:IntKind.u64.wrap ((i+j:Nat):Int)=((i+j:Nat):Int):=by
  rw [IntWalk.u64_in _ (by omega)]
 have e3:((i+j:Nat):Int).fdiv (2 ^ min 1 IntKind.u64.bits)=(((i+j) / 2:Nat):Int):=by
  have:(2:Int) ^ min 1 IntKind.u64.bits=2:=rfl
  rw [this,Int.fdiv_eq_ediv_of_nonneg _ (by omega)];omega
 rw [e1,e2,e3,wI (by omega)]
theorem qy {lt:Az→Az→Bool} (w:bq lt) {x:Az} {B:List Az} (hB:Ge lt B) {j:Nat} (hj:j≤B.length) (h1:0<j→lt (B.getD (j-1) sd) x=true) (h2:j<B.length→lt (B.getD j sd) x=false):Bt lt [x] B=B.take j++x::B.drop j:=by
 have e1:=Fh sd w (List.pairwise_singleton _ x) hB 0 j (Nat.zero_le _) hj (λ_ h=>by simpa using h1 h) (λh=>absurd h (Nat.lt_irrefl _))
 have hD:Ge lt (B.drop j):=List.Pairwise.sublist (List.drop_sublist j B) hB
 have e2:=Fh sd w (List.pairwise_singleton _ x) hD 1 0 (by simp) (Nat.zero_le _) (λh=>absurd h (by simp)) (λ_ h=>by
  have h3:j<B.length:=by rw [List.length_drop] at h;omega
  simpa [List.getD_eq_getElem?_getD] using h2 h3)
 simp only [List.take_zero,List.drop_zero,Bu] at e1
 simp [C3,Bu] at e2
 rw [e1,e2]
theorem vi {lt:Az→Az→Bool} (w:bq lt) {x:Az} {A:List Az} (hA:Ge lt A) {i:Nat} (hi:i≤A.length) (h1:i<A.length→lt x (A.getD i sd)=true) (h2:0<i→lt x (A.getD (i-1) sd)=false):Bt lt A [x]=A.take i++x::A.drop i:=by
 have e1:=Fh sd w hA (List.pairwise_singleton _ x) i 0 hi (Nat.zero_le _) (λ_ h=>absurd h (Nat.lt_irrefl _)) (λh _=>by simpa using h2 h)
 have hD:Ge lt (A.drop i):=List.Pairwise.sublist (List.drop_sublist i A) hA
 have e2:=Fh sd w hD (List.pairwise_singleton _ x) 0 1 (Nat.zero_le _) (by simp) (λh _=>by
  have h3:i<A.length:=by rw [List.length_drop] at h;omega
  simpa [List.getD_eq_getElem?_getD] using h1 h3) (λh=>absurd h (Nat.lt_irrefl _))
 simp only [List.take_zero,List.drop_zero,C3] at e1
 simp [C3,Bu] at e2
 rw [e1,e2]
theorem tRot {g:Nat} (P U W S:List Az) (a m b:Nat) (ha:a=P.length) (hm:m=a+U.length) (hb:b=m+W.length) (hu:0<U.length) (hw:0<W.length) (hl:b+S.length≤4611686018427387904) :
  Aj Tryz.prog 155 [.osl 900,.d (.int .i64 (a:Int)),.d (.int .i64 (m:Int)),.d (.int .i64 (b:Int)),Bo g] [(900,A8 (P++(U++(W++S))))] (.tup []) [(900,A8 (P++(W++(U++S))))] []:=by
 subst ha;subst hm;subst hb
 exact tx P U W S hu hw hl
def SymT (g : Nat) (cf : Az → Az → Int) (ok : Az → Prop) (N : Nat) : Prop := ∀ (P A B S : List Az) (a m b : Nat), a = P.length → m = a + A.length → b = m + B.length → A.length + B.length ≤ N → 0 < A.length → 0 < B.length → Ge (Bq cf) A → Ge (Bq cf) B → (∀ x, x ∈ A ++ B → ok x) → b + S.length ≤ 2305843009213693952 →
    Aj Tryz.prog 125 [.osl 900,.d (.int .i64 (a:Int)),.d (.int .i64 (m:Int)),.d (.int .i64 (b:Int)),Bo g] [(900,A8 (P++(A++(B++S))))] (.tup []) [(900,A8 (P++(Bt (Bq cf) A B++S)))] []
theorem tSymA {g:Nat} {cf:Az→Az→Int} {ok:Az→Prop} (hc:Tl g cf ok) (P A B S:List Az) (a m b:Nat) (ha:a=P.length) (hm:m=a+A.length) (hb:b=m+B.length) (hA:0<A.length) (hB:0<B.length) (sA:Ge (Bq cf) A) (sB:Ge (Bq cf) B) (hok:∀ x,x∈A++B→ok x) (hl:b+S.length≤2305843009213693952) (hA1:A.length=1) :
  Aj Tryz.prog 125 [.osl 900,.d (.int .i64 (a:Int)),.d (.int .i64 (m:Int)),.d (.int .i64 (b:Int)),Bo g] [(900,A8 (P++(A++(B++S))))] (.tup []) [(900,A8 (P++(Bt (Bq cf) A B++S)))] []:=by
 refine qO Tryz.func125 ?_
 intro c hP hfn
 obtain ⟨r,hr⟩:∃ r,r=P++(A++(B++S)):=⟨_,rfl⟩
 have hrl:r.length=b+S.length:=by rw [hr];simp only [List.length_append];omega
 have gA:∀ k,k<A.length→r.getD (a+k) sd=A.getD k sd:=λk hk=>by
  rw [hr];simp only [D8];rw [if_neg (by omega),if_pos (by omega)];congr 1;omega
 have gB:∀ k,k<B.length→r.getD (m+k) sd=B.getD k sd:=λk hk=>by
  rw [hr];simp only [D8];rw [if_neg (by omega),if_neg (by omega),if_pos (by omega)];congr 1;omega
 have okA:∀ k,k<A.length→ok (A.getD k sd):=λk hk=>by
  obtain ⟨x,-,hx,hm,-⟩:=Ae hk;rw [hx];exact hok x (by simp [hm])
 have okB:∀ k,k<B.length→ok (B.getD k sd):=λk hk=>by
  obtain ⟨x,-,hx,hm,-⟩:=Ae hk;rw [hx];exact hok x (by simp [hm])
 rw [←hr]
 have wa:IntKind.i64.wrap ((m:Int)-(a:Int))=1:=(wI (by omega)).trans (by omega)
 simp only [A5,V.names,A4,A8,Bo,wa,A0,↓A3,seval]
 repeat' first|refine ⟨λh=>?_,λh=>?_⟩|refine aX ?_|fail
 refine B4.loop (X:=Nat×Nat) (λx=>⟨[(0,.osl 900),(1,.d (.int .i64 (a:Int))),(4,Bo g),(10,.d (.int .i64 (x.1:Nat))),(11,.d (.int .i64 (x.2:Nat)))],[(900,A8 r)],[900]⟩)
  (λx=>m≤x.1∧x.1≤x.2∧x.2≤b∧(m<x.1→Bq cf (B.getD (x.1-1-m) sd) (A.getD 0 sd)=true)∧(x.2<b→Bq cf (B.getD (x.2-m) sd) (A.getD 0 sd)=false)) (λx=>x.2-x.1) (m,b) ⟨Nat.le_refl _,by simp only;omega,Nat.le_refl _,λh=>absurd h (Nat.lt_irrefl _),λh=>absurd h (Nat.lt_irrefl _)⟩ (Wk.of _ hfn rfl (by simp only [Bo,A7,A0,↓A3,seval]) (by simp only [A8,A7,A0,↓A3,seval])) ?_
 rintro ⟨i,j⟩ ⟨h1,h2,h3,h4,h5⟩
 simp only at h1 h2 h3 h4 h5
 by_cases hij:i<j
 ·have d1:decide ((i:Int)<(j:Int))=true:=decide_eq_true (by omega)
  have wm:=Ws (i:=i) (j:=j) (by omega)
  obtain ⟨q,hh⟩:∃ q,q=(i+j) / 2:=⟨_,rfl⟩
  have hb1:i≤q∧q<j:=by omega
  rw [←hh] at wm
  have g1:r.getD q sd=B.getD (q-m) sd:=by rw [←gB _ (by omega)];congr 1;omega
  have g2:r.getD a sd=A.getD 0 sd:=by have:=gA 0 hA;simpa using this
  have cc:=hc.c _ _ (okB (q-m) (by omega)) (okA 0 hA)
  have bh:(0:Int)≤(q:Int)∧(q:Int)<(r.length:Int):=by omega
  have ba:(0:Int)≤(a:Int)∧(a:Int)<(r.length:Int):=by omega
  have w2:IntKind.i64.wrap ((q:Int)+1)=((q+1:Nat):Int):=wS (by omega)
  simp only [A8,Bo,d1,wm,g1,g2,A0,↓A3,seval]
  repeat' first|(refine tz hP cc ?_;try simp only [wm,g1,g2,A0,↓A3,seval])|refine ⟨λh=>?_,λh=>?_⟩|refine aX ?_|fail
  ·exact Al.on (q+1,j) ⟨by simp only;omega,by simp only;omega,h3,λ_=>by simpa [Bq] using h,h5⟩ (by simp only;omega) (Wk.of _ hfn rfl (by simp only [Bo,w2,A7,A0,↓A3,seval]) (by simp only [A8,A7,A0,↓A3,seval]))
  ·exact Al.on (i,q) ⟨h1,by simp only;omega,by simp only;omega,h4,λ_=>h⟩ (by simp only;omega) (Wk.of _ hfn rfl (by simp only [Bo,A7,A0,↓A3,seval]) (by simp only [A8,A7,A0,↓A3,seval]))
 ·have d1:decide ((i:Int)<(j:Int))=false:=decide_eq_false (by omega)
  have hij2:j=i:=by omega
  subst hij2
  obtain ⟨x,rfl⟩:∃ x,A=[x]:=by
   match A,hA1 with
   |[x],_=>exact ⟨x,rfl⟩
  have hml:m=a+1:=hm
  have hmr:=qy hc.w (x:=x) sB (j:=j-m) (by omega) (λh=>by have:=h4 (by omega);rw [show j-m-1=j-1-m by omega];simpa using this) (λh=>by have:=h5 (by omega);simpa using this)
  have w3:IntKind.i64.wrap ((j:Int)-1)=((j-1:Nat):Int):=(wI (by omega)).trans (by omega)
  simp only [A8,Bo,d1,A0,↓A3,seval]
  repeat' first|refine ⟨λh=>?_,λh=>?_⟩|refine aX ?_|fail
  refine B4.loop (X:=Nat×List Az) (λx=>⟨[(0,.osl 900),(10,.d (.int .i64 (j:Nat))),(13,.d (.int .i64 (x.1:Nat)))],[(900,A8 x.2)],[900]⟩)
   (λy=>∃ t,y.1=a+t∧t≤j-m∧y.2=P++(B.take t++(x::(B.drop t++S)))) (λy=>j-y.1) (a,r) ⟨0,rfl,Nat.zero_le _,by simpa using hr⟩ (Wk.of _ hfn rfl (by simp only [Bo,A7,A0,↓A3,seval]) (by simp only [A8,A7,A0,↓A3,seval])) ?_
  rintro ⟨k,l⟩ ⟨t,hk,ht,hL⟩
  simp only at hk hL
  by_cases hlt:t<j-m
  ·have d2:decide ((k:Int)<((j-1:Nat):Int))=true:=decide_eq_true (by omega)
   have w4:IntKind.i64.wrap ((k:Int)+1)=((k+1:Nat):Int):=wS (by omega)
   obtain ⟨y,hd,-,-,he⟩:=Ae (l:=B) (k:=t) (by omega)
   have hL2:l=(P++B.take t)++x::y::(B.drop (t+1)++S):=by rw [hL,hd];simp
   have hll:l.length=P.length+t+1+1+(B.length-(t+1))+S.length:=by rw [hL2];simp only [List.length_append,List.length_cons,List.length_take,List.length_drop];omega
   have u1:l.getD k sd=x:=by rw [hL2];exact Nc (by simp only [List.length_append,List.length_take];omega)
   have u2:l.getD (k+1) sd=y:=by
    rw [hL2,show (P++B.take t)++x::y::(B.drop (t+1)++S)=(P++B.take t++[x])++y::(B.drop (t+1)++S) by simp]
    exact Nc (by simp only [List.length_append,List.length_take,List.length_singleton];omega)
   have b1:(0:Int)≤(k:Int)∧(k:Int)<(l.length:Int):=by omega
   have b2:(0:Int)≤((k+1:Nat):Int)∧((k+1:Nat):Int)<(l.length:Int):=by omega
   simp only [A8,w3,w4,d2,u1,u2,A0,↓A3,seval]
   repeat' first|refine ⟨λh=>?_,λh=>?_⟩|refine aX ?_|fail
   refine Al.on (k+1,Rx sd l k (k+1)) ⟨t+1,by simp only;omega,hlt,?_⟩ (by simp only;omega) (Wk.of _ hfn rfl (by simp only [w4,A7,A0,↓A3,seval]) ?_)
   ·simp only [hL2]
    rw [Qf sd (P++B.take t) x y _ (by simp only [List.length_append,List.length_take];omega) (by simp only [List.length_append,List.length_take];omega),List.take_add_one,he]
    simp
   ·simp only [A8,A7,A0,↓A3,seval]
    have:=Bf.swt (e:=164) (l:=l) (i:=k) (j:=k+1) (by omega) (by omega) u1 u2 rfl
    simp only [show ¬ k+1=k by omega,if_false] at this
    exact this
  ·have d2:decide ((k:Int)<((j-1:Nat):Int))=false:=decide_eq_false (by omega)
   have ht2:t=j-m:=by omega
   have hL2:l=P++(Bt (Bq cf) [x] B++S):=by rw [hL,hmr,ht2];simp
   simp only [A8,w3,d2,A0,↓A3,seval]
   repeat' first|refine ⟨λh=>?_,λh=>?_⟩|refine aX ?_|fail
   refine rK (Wk.refl _ _) ?_
   simp only [hL2,A7,A0,↓A3,seval]
theorem tSymB {g:Nat} {cf:Az→Az→Int} {ok:Az→Prop} (hc:Tl g cf ok) (P A B S:List Az) (a m b:Nat) (ha:a=P.length) (hm:m=a+A.length) (hb:b=m+B.length) (hA:0<A.length) (hB:0<B.length) (sA:Ge (Bq cf) A) (sB:Ge (Bq cf) B) (hok:∀ x,x∈A++B→ok x) (hl:b+S.length≤2305843009213693952) (hA1:¬ A.length=1) (hB1:B.length=1) :
  Aj Tryz.prog 125 [.osl 900,.d (.int .i64 (a:Int)),.d (.int .i64 (m:Int)),.d (.int .i64 (b:Int)),Bo g] [(900,A8 (P++(A++(B++S))))] (.tup []) [(900,A8 (P++(Bt (Bq cf) A B++S)))] []:=by
 refine qO Tryz.func125 ?_
 intro c hP hfn
 obtain ⟨r,hr⟩:∃ r,r=P++(A++(B++S)):=⟨_,rfl⟩
 have hrl:r.length=b+S.length:=by rw [hr];simp only [List.length_append];omega
 have gA:∀ k,k<A.length→r.getD (a+k) sd=A.getD k sd:=λk hk=>by
  rw [hr];simp only [D8];rw [if_neg (by omega),if_pos (by omega)];congr 1;omega
 have gB:∀ k,k<B.length→r.getD (m+k) sd=B.getD k sd:=λk hk=>by
  rw [hr];simp only [D8];rw [if_neg (by omega),if_neg (by omega),if_pos (by omega)];congr 1;omega
 have okA:∀ k,k<A.length→ok (A.getD k sd):=λk hk=>by
  obtain ⟨x,-,hx,hm,-⟩:=Ae hk;rw [hx];exact hok x (by simp [hm])
 have okB:∀ k,k<B.length→ok (B.getD k sd):=λk hk=>by
  obtain ⟨x,-,hx,hm,-⟩:=Ae hk;rw [hx];exact hok x (by simp [hm])
 rw [←hr]
 have wa:(IntKind.i64.wrap ((m:Int)-(a:Int)) == 1)=false:=by rw [beq_eq_false_iff_ne,wI (by omega)];omega
 have wb:(IntKind.i64.wrap ((b:Int)-(m:Int)) == 1)=true:=by rw [beq_iff_eq,wI (by omega)];omega
 simp only [A5,V.names,A4,A8,Bo,wa,wb,A0,↓A3,seval]
 repeat' first|refine ⟨λh=>?_,λh=>?_⟩|refine aX ?_|fail
 refine B4.loop (X:=Nat×Nat) (λx=>⟨[(0,.osl 900),(2,.d (.int .i64 (m:Int))),(4,Bo g),(14,.d (.int .i64 (x.1:Nat))),(15,.d (.int .i64 (x.2:Nat)))],[(900,A8 r)],[900]⟩)
  (λx=>a≤x.1∧x.1≤x.2∧x.2≤m∧(a<x.1→Bq cf (B.getD 0 sd) (A.getD (x.1-1-a) sd)=false)∧(x.2<m→Bq cf (B.getD 0 sd) (A.getD (x.2-a) sd)=true)) (λx=>x.2-x.1) (a,m) ⟨Nat.le_refl _,by simp only;omega,Nat.le_refl _,λh=>absurd h (Nat.lt_irrefl _),λh=>absurd h (Nat.lt_irrefl _)⟩ (Wk.of _ hfn rfl (by simp only [Bo,A7,A0,↓A3,seval]) (by simp only [A8,A7,A0,↓A3,seval])) ?_
 rintro ⟨i,j⟩ ⟨h1,h2,h3,h4,h5⟩
 simp only at h1 h2 h3 h4 h5
 by_cases hij:i<j
 ·have d1:decide ((i:Int)<(j:Int))=true:=decide_eq_true (by omega)
  have wm:=Ws (i:=i) (j:=j) (by omega)
  obtain ⟨q,hh⟩:∃ q,q=(i+j) / 2:=⟨_,rfl⟩
  have hb1:i≤q∧q<j:=by omega
  rw [←hh] at wm
  have g1:r.getD q sd=A.getD (q-a) sd:=by rw [←gA _ (by omega)];congr 1;omega
  have g2:r.getD m sd=B.getD 0 sd:=by have:=gB 0 hB;simpa using this
  have cc:=hc.c _ _ (okB 0 hB) (okA (q-a) (by omega))
  have bh:(0:Int)≤(q:Int)∧(q:Int)<(r.length:Int):=by omega
  have ba:(0:Int)≤(m:Int)∧(m:Int)<(r.length:Int):=by omega
  have w2:IntKind.i64.wrap ((q:Int)+1)=((q+1:Nat):Int):=wS (by omega)
  simp only [A8,Bo,d1,wm,g1,g2,A0,↓A3,seval]
  repeat' first|(refine tz hP cc ?_;try simp only [wm,g1,g2,A0,↓A3,seval])|refine ⟨λh=>?_,λh=>?_⟩|refine aX ?_|fail
  ·exact Al.on (q+1,j) ⟨by simp only;omega,by simp only;omega,h3,λ_=>by simpa [Bq] using h,h5⟩ (by simp only;omega) (Wk.of _ hfn rfl (by simp only [Bo,w2,A7,A0,↓A3,seval]) (by simp only [A8,A7,A0,↓A3,seval]))
  ·exact Al.on (i,q) ⟨h1,by simp only;omega,by simp only;omega,h4,λ_=>by simpa [Bq] using h⟩ (by simp only;omega) (Wk.of _ hfn rfl (by simp only [Bo,A7,A0,↓A3,seval]) (by simp only [A8,A7,A0,↓A3,seval]))
 ·have d1:decide ((i:Int)<(j:Int))=false:=decide_eq_false (by omega)
  have hij2:j=i:=by omega
  subst hij2
  obtain ⟨x,rfl⟩:∃ x,B=[x]:=by
   match B,hB1 with
   |[x],_=>exact ⟨x,rfl⟩
  have hmr:=vi hc.w (x:=x) sA (i:=j-a) (by omega) (λh=>by have:=h5 (by omega);simpa using this) (λh=>by have:=h4 (by omega);rw [show j-a-1=j-1-a by omega];simpa using this)
  simp only [A8,Bo,d1,A0,↓A3,seval]
  repeat' first|refine ⟨λh=>?_,λh=>?_⟩|refine aX ?_|fail
  refine B4.loop (X:=Nat×List Az) (λx=>⟨[(0,.osl 900),(14,.d (.int .i64 (j:Nat))),(17,.d (.int .i64 (x.1:Nat)))],[(900,A8 x.2)],[900]⟩)
   (λy=>∃ t,y.1=a+t∧j-a≤t∧t≤A.length∧y.2=P++(A.take t++(x::(A.drop t++S)))) (λy=>y.1) (m,r) ⟨A.length,hm,by omega,Nat.le_refl _,by simpa using hr⟩ (Wk.of _ hfn rfl (by simp only [Bo,A7,A0,↓A3,seval]) (by simp only [A8,A7,A0,↓A3,seval])) ?_
  rintro ⟨k,l⟩ ⟨t,hk,ht,htA,hL⟩
  simp only at hk hL
  by_cases hlt:j-a<t
  ·have d2:decide ((k:Int)>(j:Int))=true:=decide_eq_true (by omega)
   have w4:IntKind.i64.wrap ((k:Int)-1)=((k-1:Nat):Int):=(wI (by omega)).trans (by omega)
   obtain ⟨t,rfl⟩:∃ t',t=t'+1:=⟨t-1,by omega⟩
   obtain ⟨y,hd,-,-,he⟩:=Ae (l:=A) (k:=t) (by omega)
   have hL2:l=(P++A.take t)++y::x::(A.drop (t+1)++S):=by rw [hL,List.take_add_one,he];simp
   have hll:l.length=P.length+t+1+1+(A.length-(t+1))+S.length:=by rw [hL2];simp only [List.length_append,List.length_cons,List.length_take,List.length_drop];omega
   have u2:l.getD (k-1) sd=y:=by rw [hL2];exact Nc (by simp only [List.length_append,List.length_take];omega)
   have u1:l.getD k sd=x:=by
    rw [hL2,show (P++A.take t)++y::x::(A.drop (t+1)++S)=(P++A.take t++[y])++x::(A.drop (t+1)++S) by simp]
    exact Nc (by simp only [List.length_append,List.length_take,List.length_singleton];omega)
   have b1:(0:Int)≤(k:Int)∧(k:Int)<(l.length:Int):=by omega
   have b2:(0:Int)≤((k-1:Nat):Int)∧((k-1:Nat):Int)<(l.length:Int):=by omega
   simp only [A8,w4,d2,u1,u2,A0,↓A3,seval]
   repeat' first|refine ⟨λh=>?_,λh=>?_⟩|refine aX ?_|fail
   refine Al.on (k-1,Rx sd l k (k-1)) ⟨t,by simp only;omega,by omega,by omega,?_⟩ (by simp only;omega) (Wk.of _ hfn rfl (by simp only [w4,A7,A0,↓A3,seval]) ?_)
   ·simp only [hL2]
    rw [Kk sd (P++A.take t) y x _ (by simp only [List.length_append,List.length_take];omega) (by simp only [List.length_append,List.length_take];omega),hd]
    simp
   ·simp only [A8,A7,A0,↓A3,seval]
    exact Bf.swt (by omega) (by omega) u1 u2 rfl
  ·have d2:decide ((k:Int)>(j:Int))=false:=decide_eq_false (by omega)
   have ht2:t=j-a:=by omega
   have hL2:l=P++(Bt (Bq cf) A [x]++S):=by rw [hL,hmr,ht2];simp
   simp only [A8,d2,A0,↓A3,seval]
   repeat' first|refine ⟨λh=>?_,λh=>?_⟩|refine aX ?_|fail
   refine rK (Wk.refl _ _) ?_
   simp only [hL2,A7,A0,↓A3,seval]
theorem jv {g:Nat} {cf:Az→Az→Int} {ok:Az→Prop} (hc:Tl g cf ok) {N:Nat} (ih:SymT g cf ok N) (P A B S:List Az) (a m b:Nat) (ha:a=P.length) (hm:m=a+A.length) (hb:b=m+B.length) (hN:A.length+B.length≤N+1) (hA:0<A.length) (hB:0<B.length) (sA:Ge (Bq cf) A) (sB:Ge (Bq cf) B) (hok:∀ x,x∈A++B→ok x) (hl:b+S.length≤2305843009213693952) {e mid en:Nat} (c1:a≤e) (c2:e≤m) (c3:e≤mid) (c4:mid+m≤e+b) (c5:a<mid) (c6:mid<b) (hen:en+e=mid+m)
  (hcut:Bt (Bq cf) A B=Bt (Bq cf) (A.take (e-a)) (B.take (mid-e))++Bt (Bq cf) (A.drop (e-a)) (B.drop (mid-e))) :
  ∃ r1 r2,(e<m→m<en→Aj Tryz.prog 155 [.osl 900,.d (.int .i64 (e:Int)),.d (.int .i64 (m:Int)),.d (.int .i64 (en:Int)),Bo g] [(900,A8 (P++(A++(B++S))))] (.tup []) [(900,A8 r1)] []) ∧
  (¬ (e<m∧m<en)→P++(A++(B++S))=r1) ∧
  (a<e→e<mid→Aj Tryz.prog 125 [.osl 900,.d (.int .i64 (a:Int)),.d (.int .i64 (e:Int)),.d (.int .i64 (mid:Int)),Bo g] [(900,A8 r1)] (.tup []) [(900,A8 r2)] [])∧(¬ (a<e∧e<mid)→r1=r2) ∧
  (mid<en→en<b→Aj Tryz.prog 125 [.osl 900,.d (.int .i64 (mid:Int)),.d (.int .i64 (en:Int)),.d (.int .i64 (b:Int)),Bo g] [(900,A8 r2)] (.tup []) [(900,A8 (P++(Bt (Bq cf) A B++S)))] [])∧(¬ (mid<en∧en<b)→r2=P++(Bt (Bq cf) A B++S)):=by
 obtain ⟨A1,hA1'⟩:∃ q,q=A.take (e-a):=⟨_,rfl⟩
 obtain ⟨A2,hA2'⟩:∃ q,q=A.drop (e-a):=⟨_,rfl⟩
 obtain ⟨B1,hB1'⟩:∃ q,q=B.take (mid-e):=⟨_,rfl⟩
 obtain ⟨B2,hB2'⟩:∃ q,q=B.drop (mid-e):=⟨_,rfl⟩
 have lA1:A1.length=e-a:=by rw [hA1',List.length_take];omega
 have lA2:A2.length=m-e:=by rw [hA2',List.length_drop];omega
 have lB1:B1.length=en-m:=by rw [hB1',List.length_take];omega
 have lB2:B2.length=b-en:=by rw [hB2',List.length_drop];omega
 have eA:A1++A2=A:=by rw [hA1',hA2',List.take_append_drop]
 have eB:B1++B2=B:=by rw [hB1',hB2',List.take_append_drop]
 rw [←hA1',←hA2',←hB1',←hB2'] at hcut
 have sA1:Ge (Bq cf) A1:=by rw [hA1'];exact List.Pairwise.sublist (List.take_sublist _ A) sA
 have sA2:Ge (Bq cf) A2:=by rw [hA2'];exact List.Pairwise.sublist (List.drop_sublist _ A) sA
 have sB1:Ge (Bq cf) B1:=by rw [hB1'];exact List.Pairwise.sublist (List.take_sublist _ B) sB
 have sB2:Ge (Bq cf) B2:=by rw [hB2'];exact List.Pairwise.sublist (List.drop_sublist _ B) sB
 have ok1:∀ x,x∈A1++B1→ok x:=λx hx=>hok x (by rw [←eA,←eB];simp only [List.mem_append] at hx ⊢;rcases hx with h|h<;>simp [h])
 have ok2:∀ x,x∈A2++B2→ok x:=λx hx=>hok x (by rw [←eA,←eB];simp only [List.mem_append] at hx ⊢;rcases hx with h|h<;>simp [h])
 obtain ⟨r1,hr1⟩:∃ q,q=P++(A1++(B1++(A2++(B2++S)))):=⟨_,rfl⟩
 obtain ⟨r2,hr2⟩:∃ q,q=P++(Bt (Bq cf) A1 B1++(A2++(B2++S))):=⟨_,rfl⟩
 have hr0:P++(A++(B++S))=(P++A1)++(A2++(B1++(B2++S))):=by rw [←eA,←eB];simp
 have hr3:P++(Bt (Bq cf) A B++S)=(P++Bt (Bq cf) A1 B1)++(Bt (Bq cf) A2 B2++S):=by rw [hcut];simp
 have lM:(Bt (Bq cf) A1 B1).length=mid-a:=by rw [Yt];omega
 have f1:e<m→m<en→Aj Tryz.prog 155 [.osl 900,.d (.int .i64 (e:Int)),.d (.int .i64 (m:Int)),.d (.int .i64 (en:Int)),Bo g] [(900,A8 (P++(A++(B++S))))] (.tup []) [(900,A8 r1)] []:=λg1 g2=>by
  have:=tRot (g:=g) (P++A1) A2 B1 (B2++S) e m en (by rw [List.length_append];omega) (by omega) (by omega) (by omega) (by omega) (by rw [List.length_append];omega)
  rw [hr0,hr1]
  simpa using this
 have e1:¬ (e<m∧m<en)→P++(A++(B++S))=r1:=λg1=>by
  rw [hr0,hr1]
  by_cases g2:e<m
  ·have:B1=[]:=List.eq_nil_of_length_eq_zero (by omega)
   rw [this];simp
  ·have:A2=[]:=List.eq_nil_of_length_eq_zero (by omega)
   rw [this];simp
 have f2:a<e→e<mid→Aj Tryz.prog 125 [.osl 900,.d (.int .i64 (a:Int)),.d (.int .i64 (e:Int)),.d (.int .i64 (mid:Int)),Bo g] [(900,A8 r1)] (.tup []) [(900,A8 r2)] []:=λg1 g2=>by
  have:=ih P A1 B1 (A2++(B2++S)) a e mid ha (by omega) (by omega) (by omega) (by omega) (by omega) sA1 sB1 ok1 (by simp only [List.length_append];omega)
  rw [hr1,hr2];exact this
 have e2:¬ (a<e∧e<mid)→r1=r2:=λg1=>by
  rw [hr1,hr2]
  by_cases g2:a<e
  ·have:B1=[]:=List.eq_nil_of_length_eq_zero (by omega)
   rw [this,C3];simp
  ·have:A1=[]:=List.eq_nil_of_length_eq_zero (by omega)
   rw [this,Bu];simp
 have f3:mid<en→en<b→Aj Tryz.prog 125 [.osl 900,.d (.int .i64 (mid:Int)),.d (.int .i64 (en:Int)),.d (.int .i64 (b:Int)),Bo g] [(900,A8 r2)] (.tup []) [(900,A8 (P++(Bt (Bq cf) A B++S)))] []:=λg1 g2=>by
  have:=ih (P++Bt (Bq cf) A1 B1) A2 B2 S mid en b (by rw [List.length_append,lM];omega) (by omega) (by omega) (by omega) (by omega) (by omega) sA2 sB2 ok2 hl
  rw [hr2,hr3]
  simpa using this
 have e3:¬ (mid<en∧en<b)→r2=P++(Bt (Bq cf) A B++S):=λg1=>by
  rw [hr2,hr3]
  by_cases g2:mid<en
  ·have:B2=[]:=List.eq_nil_of_length_eq_zero (by omega)
   rw [this,C3];simp
  ·have:A2=[]:=List.eq_nil_of_length_eq_zero (by omega)
   rw [this,Bu];simp
 exact ⟨r1,r2,f1,e1,f2,e2,f3,e3⟩
theorem tSymM {g:Nat} {cf:Az→Az→Int} {ok:Az→Prop} (hc:Tl g cf ok) {N:Nat} (ih:SymT g cf ok N) (P A B S:List Az) (a m b:Nat) (ha:a=P.length) (hm:m=a+A.length) (hb:b=m+B.length) (hN:A.length+B.length≤N+1) (hA:0<A.length) (hB:0<B.length) (sA:Ge (Bq cf) A) (sB:Ge (Bq cf) B) (hok:∀ x,x∈A++B→ok x) (hl:b+S.length≤2305843009213693952) (hA1:¬ A.length=1) (hB1:¬ B.length=1) :
  Aj Tryz.prog 125 [.osl 900,.d (.int .i64 (a:Int)),.d (.int .i64 (m:Int)),.d (.int .i64 (b:Int)),Bo g] [(900,A8 (P++(A++(B++S))))] (.tup []) [(900,A8 (P++(Bt (Bq cf) A B++S)))] []:=by
 refine qO Tryz.func125 ?_
 intro c hP hfn
 obtain ⟨r,hr⟩:∃ r,r=P++(A++(B++S)):=⟨_,rfl⟩
 have hrl:r.length=b+S.length:=by rw [hr];simp only [List.length_append];omega
 have gA:∀ k,k<A.length→r.getD (a+k) sd=A.getD k sd:=λk hk=>by
  rw [hr];simp only [D8];rw [if_neg (by omega),if_pos (by omega)];congr 1;omega
 have gB:∀ k,k<B.length→r.getD (m+k) sd=B.getD k sd:=λk hk=>by
  rw [hr];simp only [D8];rw [if_neg (by omega),if_neg (by omega),if_pos (by omega)];congr 1;omega
 have okA:∀ k,k<A.length→ok (A.getD k sd):=λk hk=>by
  obtain ⟨x,-,hx,hm,-⟩:=Ae hk;rw [hx];exact hok x (by simp [hm])
 have okB:∀ k,k<B.length→ok (B.getD k sd):=λk hk=>by
  obtain ⟨x,-,hx,hm,-⟩:=Ae hk;rw [hx];exact hok x (by simp [hm])
 rw [←hr]
 have wa:(IntKind.i64.wrap ((m:Int)-(a:Int)) == 1)=false:=by rw [beq_eq_false_iff_ne,wI (by omega)];omega
 have wb:(IntKind.i64.wrap ((b:Int)-(m:Int)) == 1)=false:=by rw [beq_eq_false_iff_ne,wI (by omega)];omega
 obtain ⟨mid,hmid⟩:∃ q,q=(a+b) / 2:=⟨_,rfl⟩
 have wm:=Ws (i:=a) (j:=b) (by omega)
 rw [←hmid] at wm
 have w1:IntKind.i64.wrap ((mid:Int)+(m:Int))=((mid+m:Nat):Int):=(wI (by omega)).trans (by omega)
 have w2:IntKind.i64.wrap (((mid+m:Nat):Int)-(b:Int))=((mid+m:Nat):Int)-(b:Int):=wI (by omega)
 have w3:IntKind.i64.wrap (((mid+m:Nat):Int)-1)=((mid+m-1:Nat):Int):=(wI (by omega)).trans (by omega)
 obtain ⟨lo,hlo⟩:∃ q,q=if m>mid then mid+m-b else a:=⟨_,rfl⟩
 obtain ⟨hi,hhi⟩:∃ q,q=if m>mid then mid else m:=⟨_,rfl⟩
 have hlo2:a≤lo∧mid+m-b≤lo∧(lo=a∨lo+b=mid+m)∧lo≤hi:=by split at hlo<;>split at hhi<;>omega
 have hhi2:hi≤m∧hi≤mid∧(hi=m∨hi=mid):=by split at hhi<;>omega
 obtain ⟨x1,x2,x3⟩:(m>mid→(((mid+m:Nat):Int)-(b:Int))=(lo:Int)∧(mid:Int)=(hi:Int))∧(¬ m>mid→(a:Int)=(lo:Int)∧(m:Int)=(hi:Int))∧True:=by
  refine ⟨λh=>?_,λh=>?_,trivial⟩
  ·rw [if_pos h] at hlo hhi;omega
  ·rw [if_neg h] at hlo hhi;omega
 have hcutW:∀ s:Nat,lo≤s→s≤hi→(lo<s→Bq cf (B.getD (mid-s) sd) (A.getD (s-1-a) sd)=false)→(s<hi→Bq cf (B.getD (mid-1-s) sd) (A.getD (s-a) sd)=true) →
   Bt (Bq cf) A B=Bt (Bq cf) (A.take (s-a)) (B.take (mid-s))++Bt (Bq cf) (A.drop (s-a)) (B.drop (mid-s)):=λs h1 h2 h3 h4 =>
  Fh sd hc.w sA sB (s-a) (mid-s) (by omega) (by omega) (λg1 g2=>by rw [show mid-s-1=mid-1-s by omega];exact h4 (by omega)) (λg1 g2=>by rw [show s-a-1=s-1-a by omega];exact h3 (by omega))
 have hlo3:a≤lo∧mid+m≤lo+b∧lo≤hi∧hi≤m∧hi≤mid∧a<mid∧mid<b:=by omega
 clear hlo2 hhi2 hlo hhi hmid
 by_cases hgt:m>mid
 ·have d1:decide ((m:Int)>(mid:Int))=true:=decide_eq_true (by omega)
  obtain ⟨x1,x2⟩:=x1 hgt
  simp only [A5,V.names,A4,A8,Bo,wa,wb,wm,w1,w2,w3,d1,A0,↓A3,seval]
  repeat' first|refine ⟨λh=>?_,λh=>?_⟩|refine aX ?_|fail
  refine B4.loop (X:=Nat×Nat) (λx=>⟨[(0,.osl 900),(1,.d (.int .i64 (a:Int))),(2,.d (.int .i64 (m:Int))),(3,.d (.int .i64 (b:Int))),(4,Bo g),(18,.d (.int .i64 (mid:Int))),(19,.d (.int .i64 ((mid+m:Nat):Int))),(20,.d (.int .i64 (x.1:Nat))),(21,.d (.int .i64 (x.2:Nat))),(22,.d (.int .i64 ((mid+m-1:Nat):Int)))],[(900,A8 r)],[900]⟩)
   (λx=>lo≤x.1∧x.1≤x.2∧x.2≤hi∧(lo<x.1→Bq cf (B.getD (mid-x.1) sd) (A.getD (x.1-1-a) sd)=false)∧(x.2<hi→Bq cf (B.getD (mid-1-x.2) sd) (A.getD (x.2-a) sd)=true)) (λx=>x.2-x.1) (lo,hi) ⟨Nat.le_refl _,by simp only;omega,Nat.le_refl _,λh=>absurd h (Nat.lt_irrefl _),λh=>absurd h (Nat.lt_irrefl _)⟩ (Wk.of _ hfn rfl (by simp only [Bo,wm,w1,w2,w3,A7,A0,↓A3,seval]<;>omega) (by simp only [A8,A7,A0,↓A3,seval])) ?_
  rintro ⟨s,e⟩ ⟨h1,h2,h3,h4,h5⟩
  simp only at h1 h2 h3 h4 h5
  by_cases hij:s<e
  ·have d2:decide ((s:Int)<(e:Int))=true:=decide_eq_true (by omega)
   have wq:=Ws (i:=s) (j:=e) (by omega)
   obtain ⟨q,hh⟩:∃ q,q=(s+e) / 2:=⟨_,rfl⟩
   have hb1:s≤q∧q<e:=by omega
   rw [←hh] at wq
   have wp:IntKind.i64.wrap (((mid+m-1:Nat):Int)-(q:Int))=((mid+m-1-q:Nat):Int):=(wI (by omega)).trans (by omega)
   have g1:r.getD (mid+m-1-q) sd=B.getD (mid-1-q) sd:=by rw [←gB _ (by omega)];congr 1;omega
   have g2:r.getD q sd=A.getD (q-a) sd:=by rw [←gA _ (by omega)];congr 1;omega
   have cc:=hc.c _ _ (okB (mid-1-q) (by omega)) (okA (q-a) (by omega))
   have bh:(0:Int)≤((mid+m-1-q:Nat):Int)∧((mid+m-1-q:Nat):Int)<(r.length:Int):=by omega
   have ba:(0:Int)≤(q:Int)∧(q:Int)<(r.length:Int):=by omega
   have w4:IntKind.i64.wrap ((q:Int)+1)=((q+1:Nat):Int):=wS (by omega)
   simp only [A8,Bo,d2,wq,wp,g1,g2,A0,↓A3,seval]
   repeat' first|(refine tz hP cc ?_;try simp only [wq,wp,g1,g2,A0,↓A3,seval])|refine ⟨λh=>?_,λh=>?_⟩|refine aX ?_|fail
   ·exact Al.on (q+1,e) ⟨by simp only;omega,by simp only;omega,h3,λ_=>by rw [show mid-(q+1)=mid-1-q by omega,show q+1-1-a=q-a by omega];simpa [Bq] using h,h5⟩ (by simp only;omega) (Wk.of _ hfn rfl (by simp only [Bo,w4,A7,A0,↓A3,seval]) (by simp only [A8,A7,A0,↓A3,seval]))
   ·exact Al.on (s,q) ⟨h1,by simp only;omega,by simp only;omega,h4,λ_=>by simpa [Bq] using h⟩ (by simp only;omega) (Wk.of _ hfn rfl (by simp only [Bo,A7,A0,↓A3,seval]) (by simp only [A8,A7,A0,↓A3,seval]))
  ·have d2:decide ((s:Int)<(e:Int))=false:=decide_eq_false (by omega)
   obtain rfl:e=s:=by omega
   have hcut:=hcutW e h1 (by omega) h4 h5
   obtain ⟨en,hen⟩:∃ q,q=mid+m-e:=⟨_,rfl⟩
   have w5:IntKind.i64.wrap (((mid+m:Nat):Int)-(e:Int))=(en:Int):=(wI (by omega)).trans (by omega)
   obtain ⟨r1,r2,f1,e1,f2,e2,f3,e3⟩:=jv hc ih P A B S a m b ha hm hb hN hA hB sA sB hok hl (e:=e) (mid:=mid) (en:=en) (by omega) (by omega) (by omega) (by omega) (by omega) (by omega) (by omega) hcut
   rw [←hr] at f1 e1
   clear hcut hcutW h1 h2 h3 h4 h5 hij wm w1 w2 w3 wa wb hen hlo3 hrl gA gB okA okB ih hN hA hB sA sB hok hl x1 x2 hr d1 hgt ha hm hb hA1 hB1
   by_cases k1:e<m∧m<en
   ·by_cases k2:a<e∧e<mid
    ·by_cases k3:mid<en∧en<b
     ·have x:(decide ((e:Int)<(m:Int))&&decide ((m:Int)<(en:Int)))=true:=by rw [Bool.and_eq_true,decide_eq_true_eq,decide_eq_true_eq];omega
      have y:(decide ((a:Int)<(e:Int))&&decide ((e:Int)<(mid:Int)))=true:=by rw [Bool.and_eq_true,decide_eq_true_eq,decide_eq_true_eq];omega
      have z:(decide ((mid:Int)<(en:Int))&&decide ((en:Int)<(b:Int)))=true:=by rw [Bool.and_eq_true,decide_eq_true_eq,decide_eq_true_eq];omega
      simp only [A8,Bo,d2,w5,x,y,z,A0,↓A3,seval]
      repeat' first|refine ⟨λh=>?_,λh=>?_⟩|refine aX ?_|fail
      repeat' first|refine ⟨λh=>?_,λh=>?_⟩|refine aX ?_|fail
      have cc:=f1 k1.1 k1.2
      simp only [A8,Bo] at cc
      refine tC [(900,A8 r)] [(900,A8 r1)] hP cc (B7 rfl) ?_
      clear cc
      simp only [A8,x,y,z,A0,↓A3,seval]
      repeat' first|refine ⟨λh=>?_,λh=>?_⟩|refine aX ?_|fail
      have cc:=f2 k2.1 k2.2
      simp only [A8,Bo] at cc
      refine tC [(900,A8 r1)] [(900,A8 r2)] hP cc (B7 rfl) ?_
      clear cc
      simp only [A8,x,y,z,A0,↓A3,seval]
      repeat' first|refine ⟨λh=>?_,λh=>?_⟩|refine aX ?_|fail
      have cc:=f3 k3.1 k3.2
      simp only [A8,Bo] at cc
      refine tC [(900,A8 r2)] [(900,A8 (P++(Bt (Bq cf) A B++S)))] hP cc (B7 rfl) ?_
      clear cc
      simp only [A8,x,y,z,A0,↓A3,seval]
      repeat' first|refine ⟨λh=>?_,λh=>?_⟩|refine aX ?_|fail
      refine Et (Wk.refl _ _) ?_
      simp only [A7,A0,↓A3,seval]
     ·have x:(decide ((e:Int)<(m:Int))&&decide ((m:Int)<(en:Int)))=true:=by rw [Bool.and_eq_true,decide_eq_true_eq,decide_eq_true_eq];omega
      have y:(decide ((a:Int)<(e:Int))&&decide ((e:Int)<(mid:Int)))=true:=by rw [Bool.and_eq_true,decide_eq_true_eq,decide_eq_true_eq];omega
      have z:(decide ((mid:Int)<(en:Int))&&decide ((en:Int)<(b:Int)))=false:=by rw [Bool.and_eq_false_iff,decide_eq_false_iff_not,decide_eq_false_iff_not];omega
      simp only [A8,Bo,d2,w5,x,y,z,A0,↓A3,seval]
      repeat' first|refine ⟨λh=>?_,λh=>?_⟩|refine aX ?_|fail
      repeat' first|refine ⟨λh=>?_,λh=>?_⟩|refine aX ?_|fail
      have cc:=f1 k1.1 k1.2
      simp only [A8,Bo] at cc
      refine tC [(900,A8 r)] [(900,A8 r1)] hP cc (B7 rfl) ?_
      clear cc
      simp only [A8,x,y,z,A0,↓A3,seval]
      repeat' first|refine ⟨λh=>?_,λh=>?_⟩|refine aX ?_|fail
      have cc:=f2 k2.1 k2.2
      simp only [A8,Bo] at cc
      refine tC [(900,A8 r1)] [(900,A8 r2)] hP cc (B7 rfl) ?_
      clear cc
      simp only [A8,x,y,z,A0,↓A3,seval]
      rw [e3 k3]
      repeat' first|refine ⟨λh=>?_,λh=>?_⟩|refine aX ?_|fail
      refine Et (Wk.refl _ _) ?_
      simp only [A7,A0,↓A3,seval]
    ·by_cases k3:mid<en∧en<b
     ·have x:(decide ((e:Int)<(m:Int))&&decide ((m:Int)<(en:Int)))=true:=by rw [Bool.and_eq_true,decide_eq_true_eq,decide_eq_true_eq];omega
      have y:(decide ((a:Int)<(e:Int))&&decide ((e:Int)<(mid:Int)))=false:=by rw [Bool.and_eq_false_iff,decide_eq_false_iff_not,decide_eq_false_iff_not];omega
      have z:(decide ((mid:Int)<(en:Int))&&decide ((en:Int)<(b:Int)))=true:=by rw [Bool.and_eq_true,decide_eq_true_eq,decide_eq_true_eq];omega
      simp only [A8,Bo,d2,w5,x,y,z,A0,↓A3,seval]
      repeat' first|refine ⟨λh=>?_,λh=>?_⟩|refine aX ?_|fail
      repeat' first|refine ⟨λh=>?_,λh=>?_⟩|refine aX ?_|fail
      have cc:=f1 k1.1 k1.2
      simp only [A8,Bo] at cc
      refine tC [(900,A8 r)] [(900,A8 r1)] hP cc (B7 rfl) ?_
      clear cc
      simp only [A8,x,y,z,A0,↓A3,seval]
      rw [e2 k2]
      repeat' first|refine ⟨λh=>?_,λh=>?_⟩|refine aX ?_|fail
      have cc:=f3 k3.1 k3.2
      simp only [A8,Bo] at cc
      refine tC [(900,A8 r2)] [(900,A8 (P++(Bt (Bq cf) A B++S)))] hP cc (B7 rfl) ?_
      clear cc
      simp only [A8,x,y,z,A0,↓A3,seval]
      repeat' first|refine ⟨λh=>?_,λh=>?_⟩|refine aX ?_|fail
      refine Et (Wk.refl _ _) ?_
      simp only [A7,A0,↓A3,seval]
     ·have x:(decide ((e:Int)<(m:Int))&&decide ((m:Int)<(en:Int)))=true:=by rw [Bool.and_eq_true,decide_eq_true_eq,decide_eq_true_eq];omega
      have y:(decide ((a:Int)<(e:Int))&&decide ((e:Int)<(mid:Int)))=false:=by rw [Bool.and_eq_false_iff,decide_eq_false_iff_not,decide_eq_false_iff_not];omega
      have z:(decide ((mid:Int)<(en:Int))&&decide ((en:Int)<(b:Int)))=false:=by rw [Bool.and_eq_false_iff,decide_eq_false_iff_not,decide_eq_false_iff_not];omega
      simp only [A8,Bo,d2,w5,x,y,z,A0,↓A3,seval]
      repeat' first|refine ⟨λh=>?_,λh=>?_⟩|refine aX ?_|fail
      repeat' first|refine ⟨λh=>?_,λh=>?_⟩|refine aX ?_|fail
      have cc:=f1 k1.1 k1.2
      simp only [A8,Bo] at cc
      refine tC [(900,A8 r)] [(900,A8 r1)] hP cc (B7 rfl) ?_
      clear cc
      simp only [A8,x,y,z,A0,↓A3,seval]
      rw [e2 k2]
      rw [e3 k3]
      repeat' first|refine ⟨λh=>?_,λh=>?_⟩|refine aX ?_|fail
      refine Et (Wk.refl _ _) ?_
      simp only [A7,A0,↓A3,seval]
   ·by_cases k2:a<e∧e<mid
    ·by_cases k3:mid<en∧en<b
     ·have x:(decide ((e:Int)<(m:Int))&&decide ((m:Int)<(en:Int)))=false:=by rw [Bool.and_eq_false_iff,decide_eq_false_iff_not,decide_eq_false_iff_not];omega
      have y:(decide ((a:Int)<(e:Int))&&decide ((e:Int)<(mid:Int)))=true:=by rw [Bool.and_eq_true,decide_eq_true_eq,decide_eq_true_eq];omega
      have z:(decide ((mid:Int)<(en:Int))&&decide ((en:Int)<(b:Int)))=true:=by rw [Bool.and_eq_true,decide_eq_true_eq,decide_eq_true_eq];omega
      simp only [A8,Bo,d2,w5,x,y,z,A0,↓A3,seval]
      repeat' first|refine ⟨λh=>?_,λh=>?_⟩|refine aX ?_|fail
      rw [e1 k1]
      repeat' first|refine ⟨λh=>?_,λh=>?_⟩|refine aX ?_|fail
      have cc:=f2 k2.1 k2.2
      simp only [A8,Bo] at cc
      refine tC [(900,A8 r1)] [(900,A8 r2)] hP cc (B7 rfl) ?_
      clear cc
      simp only [A8,x,y,z,A0,↓A3,seval]
      repeat' first|refine ⟨λh=>?_,λh=>?_⟩|refine aX ?_|fail
      have cc:=f3 k3.1 k3.2
      simp only [A8,Bo] at cc
      refine tC [(900,A8 r2)] [(900,A8 (P++(Bt (Bq cf) A B++S)))] hP cc (B7 rfl) ?_
      clear cc
      simp only [A8,x,y,z,A0,↓A3,seval]
      repeat' first|refine ⟨λh=>?_,λh=>?_⟩|refine aX ?_|fail
      refine Et (Wk.refl _ _) ?_
      simp only [A7,A0,↓A3,seval]
     ·have x:(decide ((e:Int)<(m:Int))&&decide ((m:Int)<(en:Int)))=false:=by rw [Bool.and_eq_false_iff,decide_eq_false_iff_not,decide_eq_false_iff_not];omega
      have y:(decide ((a:Int)<(e:Int))&&decide ((e:Int)<(mid:Int)))=true:=by rw [Bool.and_eq_true,decide_eq_true_eq,decide_eq_true_eq];omega
      have z:(decide ((mid:Int)<(en:Int))&&decide ((en:Int)<(b:Int)))=false:=by rw [Bool.and_eq_false_iff,decide_eq_false_iff_not,decide_eq_false_iff_not];omega
      simp only [A8,Bo,d2,w5,x,y,z,A0,↓A3,seval]
      repeat' first|refine ⟨λh=>?_,λh=>?_⟩|refine aX ?_|fail
      rw [e1 k1]
      repeat' first|refine ⟨λh=>?_,λh=>?_⟩|refine aX ?_|fail
      have cc:=f2 k2.1 k2.2
      simp only [A8,Bo] at cc
      refine tC [(900,A8 r1)] [(900,A8 r2)] hP cc (B7 rfl) ?_
      clear cc
      simp only [A8,x,y,z,A0,↓A3,seval]
      rw [e3 k3]
      repeat' first|refine ⟨λh=>?_,λh=>?_⟩|refine aX ?_|fail
      refine Et (Wk.refl _ _) ?_
      simp only [A7,A0,↓A3,seval]
    ·by_cases k3:mid<en∧en<b
     ·have x:(decide ((e:Int)<(m:Int))&&decide ((m:Int)<(en:Int)))=false:=by rw [Bool.and_eq_false_iff,decide_eq_false_iff_not,decide_eq_false_iff_not];omega
      have y:(decide ((a:Int)<(e:Int))&&decide ((e:Int)<(mid:Int)))=false:=by rw [Bool.and_eq_false_iff,decide_eq_false_iff_not,decide_eq_false_iff_not];omega
      have z:(decide ((mid:Int)<(en:Int))&&decide ((en:Int)<(b:Int)))=true:=by rw [Bool.and_eq_true,decide_eq_true_eq,decide_eq_true_eq];omega
      simp only [A8,Bo,d2,w5,x,y,z,A0,↓A3,seval]
      repeat' first|refine ⟨λh=>?_,λh=>?_⟩|refine aX ?_|fail
      rw [e1 k1]
      rw [e2 k2]
      repeat' first|refine ⟨λh=>?_,λh=>?_⟩|refine aX ?_|fail
      have cc:=f3 k3.1 k3.2
      simp only [A8,Bo] at cc
      refine tC [(900,A8 r2)] [(900,A8 (P++(Bt (Bq cf) A B++S)))] hP cc (B7 rfl) ?_
      clear cc
      simp only [A8,x,y,z,A0,↓A3,seval]
      repeat' first|refine ⟨λh=>?_,λh=>?_⟩|refine aX ?_|fail
      refine Et (Wk.refl _ _) ?_
      simp only [A7,A0,↓A3,seval]
     ·have x:(decide ((e:Int)<(m:Int))&&decide ((m:Int)<(en:Int)))=false:=by rw [Bool.and_eq_false_iff,decide_eq_false_iff_not,decide_eq_false_iff_not];omega
      have y:(decide ((a:Int)<(e:Int))&&decide ((e:Int)<(mid:Int)))=false:=by rw [Bool.and_eq_false_iff,decide_eq_false_iff_not,decide_eq_false_iff_not];omega
      have z:(decide ((mid:Int)<(en:Int))&&decide ((en:Int)<(b:Int)))=false:=by rw [Bool.and_eq_false_iff,decide_eq_false_iff_not,decide_eq_false_iff_not];omega
      simp only [A8,Bo,d2,w5,x,y,z,A0,↓A3,seval]
      repeat' first|refine ⟨λh=>?_,λh=>?_⟩|refine aX ?_|fail
      rw [e1 k1]
      rw [e2 k2]
      rw [e3 k3]
      repeat' first|refine ⟨λh=>?_,λh=>?_⟩|refine aX ?_|fail
      refine Et (Wk.refl _ _) ?_
      simp only [A7,A0,↓A3,seval]
 ·have d1:decide ((m:Int)>(mid:Int))=false:=decide_eq_false (by omega)
  obtain ⟨x1,x2⟩:=x2 hgt
  simp only [A5,V.names,A4,A8,Bo,wa,wb,wm,w1,w2,w3,d1,A0,↓A3,seval]
  repeat' first|refine ⟨λh=>?_,λh=>?_⟩|refine aX ?_|fail
  refine B4.loop (X:=Nat×Nat) (λx=>⟨[(0,.osl 900),(1,.d (.int .i64 (a:Int))),(2,.d (.int .i64 (m:Int))),(3,.d (.int .i64 (b:Int))),(4,Bo g),(18,.d (.int .i64 (mid:Int))),(19,.d (.int .i64 ((mid+m:Nat):Int))),(20,.d (.int .i64 (x.1:Nat))),(21,.d (.int .i64 (x.2:Nat))),(22,.d (.int .i64 ((mid+m-1:Nat):Int)))],[(900,A8 r)],[900]⟩)
   (λx=>lo≤x.1∧x.1≤x.2∧x.2≤hi∧(lo<x.1→Bq cf (B.getD (mid-x.1) sd) (A.getD (x.1-1-a) sd)=false)∧(x.2<hi→Bq cf (B.getD (mid-1-x.2) sd) (A.getD (x.2-a) sd)=true)) (λx=>x.2-x.1) (lo,hi) ⟨Nat.le_refl _,by simp only;omega,Nat.le_refl _,λh=>absurd h (Nat.lt_irrefl _),λh=>absurd h (Nat.lt_irrefl _)⟩ (Wk.of _ hfn rfl (by simp only [Bo,wm,w1,w2,w3,A7,A0,↓A3,seval]<;>omega) (by simp only [A8,A7,A0,↓A3,seval])) ?_
  rintro ⟨s,e⟩ ⟨h1,h2,h3,h4,h5⟩
  simp only at h1 h2 h3 h4 h5
  by_cases hij:s<e
  ·have d2:decide ((s:Int)<(e:Int))=true:=decide_eq_true (by omega)
   have wq:=Ws (i:=s) (j:=e) (by omega)
   obtain ⟨q,hh⟩:∃ q,q=(s+e) / 2:=⟨_,rfl⟩
   have hb1:s≤q∧q<e:=by omega
   rw [←hh] at wq
   have wp:IntKind.i64.wrap (((mid+m-1:Nat):Int)-(q:Int))=((mid+m-1-q:Nat):Int):=(wI (by omega)).trans (by omega)
   have g1:r.getD (mid+m-1-q) sd=B.getD (mid-1-q) sd:=by rw [←gB _ (by omega)];congr 1;omega
   have g2:r.getD q sd=A.getD (q-a) sd:=by rw [←gA _ (by omega)];congr 1;omega
   have cc:=hc.c _ _ (okB (mid-1-q) (by omega)) (okA (q-a) (by omega))
   have bh:(0:Int)≤((mid+m-1-q:Nat):Int)∧((mid+m-1-q:Nat):Int)<(r.length:Int):=by omega
   have ba:(0:Int)≤(q:Int)∧(q:Int)<(r.length:Int):=by omega
   have w4:IntKind.i64.wrap ((q:Int)+1)=((q+1:Nat):Int):=wS (by omega)
   simp only [A8,Bo,d2,wq,wp,g1,g2,A0,↓A3,seval]
   repeat' first|(refine tz hP cc ?_;try simp only [wq,wp,g1,g2,A0,↓A3,seval])|refine ⟨λh=>?_,λh=>?_⟩|refine aX ?_|fail
   ·exact Al.on (q+1,e) ⟨by simp only;omega,by simp only;omega,h3,λ_=>by rw [show mid-(q+1)=mid-1-q by omega,show q+1-1-a=q-a by omega];simpa [Bq] using h,h5⟩ (by simp only;omega) (Wk.of _ hfn rfl (by simp only [Bo,w4,A7,A0,↓A3,seval]) (by simp only [A8,A7,A0,↓A3,seval]))
   ·exact Al.on (s,q) ⟨h1,by simp only;omega,by simp only;omega,h4,λ_=>by simpa [Bq] using h⟩ (by simp only;omega) (Wk.of _ hfn rfl (by simp only [Bo,A7,A0,↓A3,seval]) (by simp only [A8,A7,A0,↓A3,seval]))
  ·have d2:decide ((s:Int)<(e:Int))=false:=decide_eq_false (by omega)
   obtain rfl:e=s:=by omega
   have hcut:=hcutW e h1 (by omega) h4 h5
   obtain ⟨en,hen⟩:∃ q,q=mid+m-e:=⟨_,rfl⟩
   have w5:IntKind.i64.wrap (((mid+m:Nat):Int)-(e:Int))=(en:Int):=(wI (by omega)).trans (by omega)
   obtain ⟨r1,r2,f1,e1,f2,e2,f3,e3⟩:=jv hc ih P A B S a m b ha hm hb hN hA hB sA sB hok hl (e:=e) (mid:=mid) (en:=en) (by omega) (by omega) (by omega) (by omega) (by omega) (by omega) (by omega) hcut
   rw [←hr] at f1 e1
   clear hcut hcutW h1 h2 h3 h4 h5 hij wm w1 w2 w3 wa wb hen hlo3 hrl gA gB okA okB ih hN hA hB sA sB hok hl x1 x2 hr d1 hgt ha hm hb hA1 hB1
   by_cases k1:e<m∧m<en
   ·by_cases k2:a<e∧e<mid
    ·by_cases k3:mid<en∧en<b
     ·have x:(decide ((e:Int)<(m:Int))&&decide ((m:Int)<(en:Int)))=true:=by rw [Bool.and_eq_true,decide_eq_true_eq,decide_eq_true_eq];omega
      have y:(decide ((a:Int)<(e:Int))&&decide ((e:Int)<(mid:Int)))=true:=by rw [Bool.and_eq_true,decide_eq_true_eq,decide_eq_true_eq];omega
      have z:(decide ((mid:Int)<(en:Int))&&decide ((en:Int)<(b:Int)))=true:=by rw [Bool.and_eq_true,decide_eq_true_eq,decide_eq_true_eq];omega
      simp only [A8,Bo,d2,w5,x,y,z,A0,↓A3,seval]
      repeat' first|refine ⟨λh=>?_,λh=>?_⟩|refine aX ?_|fail
      repeat' first|refine ⟨λh=>?_,λh=>?_⟩|refine aX ?_|fail
      have cc:=f1 k1.1 k1.2
      simp only [A8,Bo] at cc
      refine tC [(900,A8 r)] [(900,A8 r1)] hP cc (B7 rfl) ?_
      clear cc
      simp only [A8,x,y,z,A0,↓A3,seval]
      repeat' first|refine ⟨λh=>?_,λh=>?_⟩|refine aX ?_|fail
      have cc:=f2 k2.1 k2.2
      simp only [A8,Bo] at cc
      refine tC [(900,A8 r1)] [(900,A8 r2)] hP cc (B7 rfl) ?_
      clear cc
      simp only [A8,x,y,z,A0,↓A3,seval]
      repeat' first|refine ⟨λh=>?_,λh=>?_⟩|refine aX ?_|fail
      have cc:=f3 k3.1 k3.2
      simp only [A8,Bo] at cc
      refine tC [(900,A8 r2)] [(900,A8 (P++(Bt (Bq cf) A B++S)))] hP cc (B7 rfl) ?_
      clear cc
      simp only [A8,x,y,z,A0,↓A3,seval]
      repeat' first|refine ⟨λh=>?_,λh=>?_⟩|refine aX ?_|fail
      refine Et (Wk.refl _ _) ?_
      simp only [A7,A0,↓A3,seval]
     ·have x:(decide ((e:Int)<(m:Int))&&decide ((m:Int)<(en:Int)))=true:=by rw [Bool.and_eq_true,decide_eq_true_eq,decide_eq_true_eq];omega
      have y:(decide ((a:Int)<(e:Int))&&decide ((e:Int)<(mid:Int)))=true:=by rw [Bool.and_eq_true,decide_eq_true_eq,decide_eq_true_eq];omega
      have z:(decide ((mid:Int)<(en:Int))&&decide ((en:Int)<(b:Int)))=false:=by rw [Bool.and_eq_false_iff,decide_eq_false_iff_not,decide_eq_false_iff_not];omega
      simp only [A8,Bo,d2,w5,x,y,z,A0,↓A3,seval]
      repeat' first|refine ⟨λh=>?_,λh=>?_⟩|refine aX ?_|fail
      repeat' first|refine ⟨λh=>?_,λh=>?_⟩|refine aX ?_|fail
      have cc:=f1 k1.1 k1.2
      simp only [A8,Bo] at cc
      refine tC [(900,A8 r)] [(900,A8 r1)] hP cc (B7 rfl) ?_
      clear cc
      simp only [A8,x,y,z,A0,↓A3,seval]
      repeat' first|refine ⟨λh=>?_,λh=>?_⟩|refine aX ?_|fail
      have cc:=f2 k2.1 k2.2
      simp only [A8,Bo] at cc
      refine tC [(900,A8 r1)] [(900,A8 r2)] hP cc (B7 rfl) ?_
      clear cc
      simp only [A8,x,y,z,A0,↓A3,seval]
      rw [e3 k3]
      repeat' first|refine ⟨λh=>?_,λh=>?_⟩|refine aX ?_|fail
      refine Et (Wk.refl _ _) ?_
      simp only [A7,A0,↓A3,seval]
    ·by_cases k3:mid<en∧en<b
     ·have x:(decide ((e:Int)<(m:Int))&&decide ((m:Int)<(en:Int)))=true:=by rw [Bool.and_eq_true,decide_eq_true_eq,decide_eq_true_eq];omega
      have y:(decide ((a:Int)<(e:Int))&&decide ((e:Int)<(mid:Int)))=false:=by rw [Bool.and_eq_false_iff,decide_eq_false_iff_not,decide_eq_false_iff_not];omega
      have z:(decide ((mid:Int)<(en:Int))&&decide ((en:Int)<(b:Int)))=true:=by rw [Bool.and_eq_true,decide_eq_true_eq,decide_eq_true_eq];omega
      simp only [A8,Bo,d2,w5,x,y,z,A0,↓A3,seval]
      repeat' first|refine ⟨λh=>?_,λh=>?_⟩|refine aX ?_|fail
      repeat' first|refine ⟨λh=>?_,λh=>?_⟩|refine aX ?_|fail
      have cc:=f1 k1.1 k1.2
      simp only [A8,Bo] at cc
      refine tC [(900,A8 r)] [(900,A8 r1)] hP cc (B7 rfl) ?_
      clear cc
      simp only [A8,x,y,z,A0,↓A3,seval]
      rw [e2 k2]
      repeat' first|refine ⟨λh=>?_,λh=>?_⟩|refine aX ?_|fail
      have cc:=f3 k3.1 k3.2
      simp only [A8,Bo] at cc
      refine tC [(900,A8 r2)] [(900,A8 (P++(Bt (Bq cf) A B++S)))] hP cc (B7 rfl) ?_
      clear cc
      simp only [A8,x,y,z,A0,↓A3,seval]
      repeat' first|refine ⟨λh=>?_,λh=>?_⟩|refine aX ?_|fail
      refine Et (Wk.refl _ _) ?_
      simp only [A7,A0,↓A3,seval]
     ·have x:(decide ((e:Int)<(m:Int))&&decide ((m:Int)<(en:Int)))=true:=by rw [Bool.and_eq_true,decide_eq_true_eq,decide_eq_true_eq];omega
      have y:(decide ((a:Int)<(e:Int))&&decide ((e:Int)<(mid:Int)))=false:=by rw [Bool.and_eq_false_iff,decide_eq_false_iff_not,decide_eq_false_iff_not];omega
      have z:(decide ((mid:Int)<(en:Int))&&decide ((en:Int)<(b:Int)))=false:=by rw [Bool.and_eq_false_iff,decide_eq_false_iff_not,decide_eq_false_iff_not];omega
      simp only [A8,Bo,d2,w5,x,y,z,A0,↓A3,seval]
      repeat' first|refine ⟨λh=>?_,λh=>?_⟩|refine aX ?_|fail
      repeat' first|refine ⟨λh=>?_,λh=>?_⟩|refine aX ?_|fail
      have cc:=f1 k1.1 k1.2
      simp only [A8,Bo] at cc
      refine tC [(900,A8 r)] [(900,A8 r1)] hP cc (B7 rfl) ?_
      clear cc
      simp only [A8,x,y,z,A0,↓A3,seval]
      rw [e2 k2]
      rw [e3 k3]
      repeat' first|refine ⟨λh=>?_,λh=>?_⟩|refine aX ?_|fail
      refine Et (Wk.refl _ _) ?_
      simp only [A7,A0,↓A3,seval]
   ·by_cases k2:a<e∧e<mid
    ·by_cases k3:mid<en∧en<b
     ·have x:(decide ((e:Int)<(m:Int))&&decide ((m:Int)<(en:Int)))=false:=by rw [Bool.and_eq_false_iff,decide_eq_false_iff_not,decide_eq_false_iff_not];omega
      have y:(decide ((a:Int)<(e:Int))&&decide ((e:Int)<(mid:Int)))=true:=by rw [Bool.and_eq_true,decide_eq_true_eq,decide_eq_true_eq];omega
      have z:(decide ((mid:Int)<(en:Int))&&decide ((en:Int)<(b:Int)))=true:=by rw [Bool.and_eq_true,decide_eq_true_eq,decide_eq_true_eq];omega
      simp only [A8,Bo,d2,w5,x,y,z,A0,↓A3,seval]
      repeat' first|refine ⟨λh=>?_,λh=>?_⟩|refine aX ?_|fail
      rw [e1 k1]
      repeat' first|refine ⟨λh=>?_,λh=>?_⟩|refine aX ?_|fail
      have cc:=f2 k2.1 k2.2
      simp only [A8,Bo] at cc
      refine tC [(900,A8 r1)] [(900,A8 r2)] hP cc (B7 rfl) ?_
      clear cc
      simp only [A8,x,y,z,A0,↓A3,seval]
      repeat' first|refine ⟨λh=>?_,λh=>?_⟩|refine aX ?_|fail
      have cc:=f3 k3.1 k3.2
      simp only [A8,Bo] at cc
      refine tC [(900,A8 r2)] [(900,A8 (P++(Bt (Bq cf) A B++S)))] hP cc (B7 rfl) ?_
      clear cc
      simp only [A8,x,y,z,A0,↓A3,seval]
      repeat' first|refine ⟨λh=>?_,λh=>?_⟩|refine aX ?_|fail
      refine Et (Wk.refl _ _) ?_
      simp only [A7,A0,↓A3,seval]
     ·have x:(decide ((e:Int)<(m:Int))&&decide ((m:Int)<(en:Int)))=false:=by rw [Bool.and_eq_false_iff,decide_eq_false_iff_not,decide_eq_false_iff_not];omega
      have y:(decide ((a:Int)<(e:Int))&&decide ((e:Int)<(mid:Int)))=true:=by rw [Bool.and_eq_true,decide_eq_true_eq,decide_eq_true_eq];omega
      have z:(decide ((mid:Int)<(en:Int))&&decide ((en:Int)<(b:Int)))=false:=by rw [Bool.and_eq_false_iff,decide_eq_false_iff_not,decide_eq_false_iff_not];omega
      simp only [A8,Bo,d2,w5,x,y,z,A0,↓A3,seval]
      repeat' first|refine ⟨λh=>?_,λh=>?_⟩|refine aX ?_|fail
      rw [e1 k1]
      repeat' first|refine ⟨λh=>?_,λh=>?_⟩|refine aX ?_|fail
      have cc:=f2 k2.1 k2.2
      simp only [A8,Bo] at cc
      refine tC [(900,A8 r1)] [(900,A8 r2)] hP cc (B7 rfl) ?_
      clear cc
      simp only [A8,x,y,z,A0,↓A3,seval]
      rw [e3 k3]
      repeat' first|refine ⟨λh=>?_,λh=>?_⟩|refine aX ?_|fail
      refine Et (Wk.refl _ _) ?_
      simp only [A7,A0,↓A3,seval]
    ·by_cases k3:mid<en∧en<b
     ·have x:(decide ((e:Int)<(m:Int))&&decide ((m:Int)<(en:Int)))=false:=by rw [Bool.and_eq_false_iff,decide_eq_false_iff_not,decide_eq_false_iff_not];omega
      have y:(decide ((a:Int)<(e:Int))&&decide ((e:Int)<(mid:Int)))=false:=by rw [Bool.and_eq_false_iff,decide_eq_false_iff_not,decide_eq_false_iff_not];omega
      have z:(decide ((mid:Int)<(en:Int))&&decide ((en:Int)<(b:Int)))=true:=by rw [Bool.and_eq_true,decide_eq_true_eq,decide_eq_true_eq];omega
      simp only [A8,Bo,d2,w5,x,y,z,A0,↓A3,seval]
      repeat' first|refine ⟨λh=>?_,λh=>?_⟩|refine aX ?_|fail
      rw [e1 k1]
      rw [e2 k2]
      repeat' first|refine ⟨λh=>?_,λh=>?_⟩|refine aX ?_|fail
      have cc:=f3 k3.1 k3.2
      simp only [A8,Bo] at cc
      refine tC [(900,A8 r2)] [(900,A8 (P++(Bt (Bq cf) A B++S)))] hP cc (B7 rfl) ?_
      clear cc
      simp only [A8,x,y,z,A0,↓A3,seval]
      repeat' first|refine ⟨λh=>?_,λh=>?_⟩|refine aX ?_|fail
      refine Et (Wk.refl _ _) ?_
      simp only [A7,A0,↓A3,seval]
     ·have x:(decide ((e:Int)<(m:Int))&&decide ((m:Int)<(en:Int)))=false:=by rw [Bool.and_eq_false_iff,decide_eq_false_iff_not,decide_eq_false_iff_not];omega
      have y:(decide ((a:Int)<(e:Int))&&decide ((e:Int)<(mid:Int)))=false:=by rw [Bool.and_eq_false_iff,decide_eq_false_iff_not,decide_eq_false_iff_not];omega
      have z:(decide ((mid:Int)<(en:Int))&&decide ((en:Int)<(b:Int)))=false:=by rw [Bool.and_eq_false_iff,decide_eq_false_iff_not,decide_eq_false_iff_not];omega
      simp only [A8,Bo,d2,w5,x,y,z,A0,↓A3,seval]
      repeat' first|refine ⟨λh=>?_,λh=>?_⟩|refine aX ?_|fail
      rw [e1 k1]
      rw [e2 k2]
      rw [e3 k3]
      repeat' first|refine ⟨λh=>?_,λh=>?_⟩|refine aX ?_|fail
      refine Et (Wk.refl _ _) ?_
      simp only [A7,A0,↓A3,seval]
theorem tSym {g:Nat} {cf:Az→Az→Int} {ok:Az→Prop} (hc:Tl g cf ok):∀ N,SymT g cf ok N
 |0=>λP A B S a m b _ _ _ h0 hA hB=>by omega
 |N+1=>λP A B S a m b ha hm hb hN hA hB sA sB hok hl=>by
  by_cases hA1:A.length=1
  ·exact tSymA hc P A B S a m b ha hm hb hA hB sA sB hok hl hA1
  ·by_cases hB1:B.length=1
   ·exact tSymB hc P A B S a m b ha hm hb hA hB sA sB hok hl hA1 hB1
   ·exact tSymM hc (tSym hc N) P A B S a m b ha hm hb hN hA hB sA sB hok hl hA1 hB1
end Go.Proofs.YtakohhkgeeoniaaGreat
end
