import Derived.Test.YtakohhkgeeoniaaGreatXA10
import Derived.Test.YtakohhkgeeoniaaGreatRows
import Derived.KernelRfl
set_option linter.unusedSimpArgs false
set_option linter.unusedVariables false
set_option maxHeartbeats 8000000
section
namespace Go.Proofs.YtakohhkgeeoniaaGreat
open Go.Bx
set_option maxRecDepth 10000
theorem Wu {P:Program} {f:FuncId} {fn:Func} {code:Code} {cc:C} {rs:List RV} {args:List V} {ins outs:List (Nat×Go.Bx.Own)} {res:V} {new:List Nat} {nt:Nat}
  (hf:P.funcs[f]?=some fn) (hok:In P f=true) (hb:fn.body=some code) (hcc:Dg P fn.ntmps code=some cc) (hrs:D2 P fn.results.toList=some rs) (hnt:fn.ntmps=nt) (hlen:args.length≤nt)
  (hB:P9 args ins res outs new=true) (h:∀ c:B3,c.P=P→c.fn=A5 args++A4 ins→c.rd=none→B4 c cc ⟨initE 0 args,ins,A5 args++A4 ins⟩ (Ci c rs res outs)):Aj P f args ins res outs new:=by
 simp only [P9,Bool.and_eq_true,List.all_eq_true,Bool.or_eq_true,List.contains_iff_mem] at hB
 obtain ⟨h1,h2,h3,h4⟩:=hB
 exact K5 hf hok hb hcc hrs (hnt▸hlen) h1 h2 (E1 h3) h4 (λc e1 _ e2 e3=>h c e1 e2 e3)
def fm (L:List Ch) (k:Nat):List (Nat×Go.Bx.Own):=[(2,.fix [.osl 900]),(900,Es (L.take k))]
def Tk (L:List Ch) (k:Nat):List (Nat×Go.Bx.Own):=[(5,.fix (Js (L.getD k default))),(2,.fix [.osl 900]),(900,Es (L.take k))]
def yb (gf:Nat) (caps:List V):List (Nat×V):=[(2,.own 2 0),(6,.fn (.func gf) [] caps)]
def uc:List (Nat×V):=[(2,.own 2 0),(5,.own 5 0)]
theorem ap_cli (L:List Ch):Ma [2] (fm L):=by
 refine ⟨λk=>by simp [fm,keysO],λk n hn=>?_,λk n hn=>by simp at hn;simp [fm,keysO,hn]⟩
 simp only [fm,Es,A4,A5,V.names,List.append_nil,List.nil_append] at hn
 simpa [fm,keysO] using hn
theorem se (L:List Ch):Ma [2] (Tk L):=by
 refine ⟨λk=>by simp [Tk,keysO],λk n hn=>?_,λk n hn=>?_⟩
 ·simp only [Tk,Es,Js,A4,A5,V.names,List.append_nil,List.nil_append] at hn
  simpa [Tk,keysO] using hn
 ·simp only [List.mem_cons,List.not_mem_nil,or_false] at hn
  simp [Tk,keysO,hn]
theorem ap_env (gf:Nat) (caps:List V) (hcp:A5 caps=[]):∀ s n,n∈(Go.Bx.get (yb gf caps) s).names→n∈[2]:=Na λs y hm n hn=>by
 simp only [yb,List.mem_cons,Prod.mk.injEq,List.not_mem_nil,or_false] at hm
 rcases hm with ⟨rfl,rfl⟩|⟨rfl,rfl⟩<;>simp [V.names,A5,hcp] at hn ⊢<;>simp [hn]
theorem Wd (gf:Nat) (caps:List V) (hcp:A5 caps=[]) (L:List Ch) (hL:L.length≤1000000) (hI:L3 Tryz.prog gf caps (λk=>[Ia (L.getD k default)]) L.length) :
  Aj Tryz.prog 129 [.d (.sl true 0 0 λ_=>[]),.fn (.func gf) [] caps] [] (.osl 7) [(7,Es L)] [7]:=by
 refine Wu Tryz.func129 ok129 rfl cc129 cr129 Tryz.ntmps129 (by simp) (by simp [P9,hcp,A5,V.names,A4,keysO,Es];decide) ?_
 intro c hP hfn hrd
 have hfn:c.fn=[]:=by rw [hfn];simp [A5,V.names,hcp,A4]
 simp only [xh,A5,V.names,A4,hcp,A0,↓A3,seval]
 repeat' first|refine ⟨λh=>?_,λh=>?_⟩|refine aX ?_|fail
 rw [←hP] at hI
 refine B4.rfnAll hI (yb gf caps) [2] (fm L) (Tk L) (λ_=>uc) ?_ rfl trivial
  ⟨hrd,ap_cli L,se L,λn hn=>(by rw [hfn] at hn;cases hn),ap_env gf caps hcp,hcp,λ_=>rfl,λ_=>rfl,λ_=>rfl,λh=>absurd rfl h,λh=>(by cases h)⟩ ?_ ?_ ?_
 ·refine (Wk.row0F 2 0 900 111 9 (λi=>Bn ((L.take 0).getD i default)) rfl rfl (by simp)).trans (Wk.of (b:=⟨yb gf caps,fm L 0,[2,900]⟩) _ hfn ?_ ?_ ?_)
  ·simp [V2,yb,fm,Es,Ez,Ff,V.names,A5,hcp,Hh,keysO]
  ·simp only [yb,A7,A0,↓A3,seval]
  ·simp only [fm,Es,A7,A0,↓A3,seval]
 ·intro k hk cB hPB hfB
  simp only [I2,Ia,Js,fm,yb,A0,↓A3,seval]
  rw [Jj]
  refine Wk.of (b:=⟨uc,Tk L k,[5,2,900]⟩) _ hfB rfl ?_ ?_
  ·simp only [uc,A7,A0,↓A3,seval]
  ·simp only [Tk,Js,A7,A0,↓A3,seval]
 ·intro k hk cB hPB hfB
  simp only [Tk,uc,Es,Js,A0,↓A3,seval]
  repeat' first|refine ⟨λh=>?_,λh=>?_⟩|refine aX ?_|fail
  have hlk:(L.take k).length=k:=by rw [List.length_take];omega
  obtain ⟨x,-,hg,-,hx⟩:=Ae hk
  have hg:=hg default
  have htk:L.take (k+1)=L.take k++[x]:=by rw [List.take_add_one,hx];rfl
  refine ⟨⟨by omega,by simp only [maxLen];omega⟩,?_⟩
  rw [pm]
  refine ⟨rfl,(Wk.sw 11 900 _ hfB (by simp) (by simp)).trans (Wk.of (b:=⟨[],fm L (k+1),[2,900]⟩) _ hfB rfl (by simp only [A7,A0,↓A3,seval]) ?_)⟩
  rw [fm,htk]
  simp only [Es,hg,A7,A0,↓A3,seval]
  exact Bf.appL Bn rfl (λi hi=>by rw [if_pos hi]) (λi hi=>by
   simp only [List.length_singleton] at hi
   rw [if_neg (by omega)]
   obtain rfl:i=0:=by omega
   simp [Bn,List.getD_eq_getElem?_getD])
 ·simp only [yb,fm,Es,List.take_length,A0,↓A3,seval]
  repeat' first|refine ⟨λh=>?_,λh=>?_⟩|refine aX ?_|fail
  refine Ci.mk _ (Wk.sw 900 7 _ hfn (by simp) (by simp)) (by simp only [nu,B8,A0,↓A3,seval]) (by simp only [nu,B8,A7,A0,↓A3,seval]) (by simp only [Es,A7,A0,↓A3,seval])
theorem cz (gf:Nat) (caps:List V) (hcp:A5 caps=[]) (L:List Ch) (hL:L.length≤1000000) (hI:L3 Tryz.prog gf caps (λk=>[Ia (L.getD k default)]) L.length) :
  Aj Tryz.prog 105 [.fn (.func gf) [] caps] [] (.osl 7) [(7,Es L)] [7]:=by
 have ca:=Wd gf caps hcp L hL hI
 refine Wu Tryz.func105 ok105 rfl cc105 cr105 Tryz.ntmps105 (by simp) (by simp [P9,hcp,A5,V.names,A4,keysO,Es];decide) ?_
 intro c hP hfn hrd
 have hfn:c.fn=[]:=by rw [hfn];simp [A5,V.names,hcp,A4]
 simp only [xc,A5,V.names,A4,hcp,A0,↓A3,seval]
 repeat' first|refine ⟨λh=>?_,λh=>?_⟩|refine aX ?_|fail
 refine TR.call [] [(7,Es L)] (.osl 7) [7] (by rw [hP];exact ca) (by repeat' first|exact trivial|(intro _;assumption)|apply And.intro) (λk o h=>by simp at h) (by simp [keysO]) (by simp) ?_
 simp only [Es,A0,↓A3,seval]
 repeat' first|refine ⟨λh=>?_,λh=>?_⟩|refine aX ?_|fail
 exact Ci.mk _ (Wk.refl _ _) (by simp only [mh,B8,A0,↓A3,seval]) (by simp only [mh,B8,A7,A0,↓A3,seval]) (by simp only [Es,A7,A0,↓A3,seval])
def F9 (l:List Ch) (on:Int):List Ch:=l.filter λc=>decide (c.bk≤on)
theorem Xk (x:Ch) (r:List Ch) (on:Int):F9 (x::r) on=if x.bk≤on then x::F9 r on else F9 r on:=by
 simp only [F9,List.filter_cons,decide_eq_true_eq]
def utC (h:Hi) (on:Int):List V:=[.mem (V3 h),.mem [.int .i64 on]]
theorem sUptoK (h:Hi) (on:Int):Aj Tryz.prog 106 [Da h,.d (.int .i64 on)] [] (.fn (.func 130) [] (utC h on)) [] []:=by
 refine qP Tryz.func106 λc hP hfn=>?_;simp only [Da,Dd,Ar,Bv,Bn,A0,↓A3,seval]
 repeat' first|refine ⟨λh=>?_,λh=>?_⟩|refine aX ?_|fail
 exact Ci.mk _ ((Wk.pubF 2 rfl rfl).trans (Wk.pubF 3 rfl rfl)) (by simp only [B8,A0,↓A3,seval]) (by simp only [utC,V3,Ar,Bv,Bn,B8,A7,A0,↓A3,seval]) trivial
def ukE (h:Hi) (on:Int) (x:Ch) (l' k:Nat):List (Nat×V):=[(21,.fn (.yield l') [] []),(22,Ia x),(0,.fn (.yield l') [] []),(2,.mem [.int .i64 on]),(7,.d (Bv h.ch)),(8,.d (.int .i64 h.ch.length)),(9,.d (.int .i64 (k:Nat)))]
theorem kv (h:Hi) (on:Int) (hl:h.ch.length≤1000000) (hc:∀ c,c∈h.ch→c.cv.length≤1000000):L3 Tryz.prog 130 (utC h on) (λk=>[Ia ((F9 h.ch on).getD k default)]) (F9 h.ch on).length:=by
 refine Ld Tryz.func130 ok130 rfl cc130 cr130 (by simp only [Tryz.ntmps130,List.length_cons,List.length_nil,utC];decide) rfl (λ_=>rfl) ?_
 intro c l' T stop Z hP _ hZ hT hT' hY
 have hbk:∀ k n o,(n,o)∈Z k→own? ([]++Z k) n=some o:=λk n o hm=>Ay (hZ.nodup k) hm
 simp only [xx,utC,V3,Ar,Bv,Bn,A0,↓A3,seval]
 refine B4.loop (X:=Nat×Nat) (λx=>⟨[(0,.fn (.yield l') [] []),(2,.mem [.int .i64 on]),(7,.d (Bv h.ch)),(8,.d (.int .i64 h.ch.length)),(9,.d (.int .i64 (x.1:Nat)))],[]++Z x.2,[]++keysO (Z x.2)⟩)
  (λx=>x.1≤h.ch.length∧(F9 h.ch on).drop x.2=F9 (h.ch.drop x.1) on∧x.2≤T∧(stop=true→x.2<T)) (λx=>h.ch.length-x.1) (0,0)
  ⟨Nat.zero_le _,rfl,Nat.zero_le _,λh=>(hT' h).1⟩ (Wk.ofZ hZ rfl 0 (own:=[]) (nm:=[]) rfl rfl (by simp only [Ar,Bv,Bn,A7,A0,↓A3,seval]) (by simp only [A7,A0,↓A3,seval]) (hbk 0)) ?_
 rintro ⟨k,m⟩ ⟨hk,hd,hm,hms⟩
 simp only at hk hd hm hms
 by_cases hlt:k<h.ch.length
 ·obtain ⟨x,hdx,hgx,hmx,-⟩:=Ae hlt
  have hgx:=hgx default
  have d0:decide ((k:Int)<(h.ch.length:Int))=true:=decide_eq_true (by omega)
  have w1:IntKind.i64.wrap ((k:Int)+1)=((k+1:Nat):Int):=wS (by omega)
  have b1:(0:Int)≤(k:Int)∧(k:Int)<(h.ch.length:Int):=by omega
  have hx5:(5∈List.map (λx=>x.fst) (Z m))=False:=eq_false λh=>by have:=hZ.ge m 5 h;omega
  have cc:=Oj x.cv (by have:=hc x hmx;omega)
  simp only [Ar] at cc
  rw [hdx,Xk] at hd
  by_cases hb:x.bk≤on
  ·have d1:decide (x.bk>on)=false:=decide_eq_false (by omega)
   rw [if_pos hb] at hd
   simp only [Ar,Bv,Bn,d0,hgx,d1,hx5,Af,A0,↓A3,seval]
   repeat' first|(refine tz hP cc ?_;try simp only [d0,hgx,w1,d1,hx5,Af,A0,↓A3,seval])|refine ⟨λh=>?_,λh=>?_⟩|refine aX ?_|fail
   have hr5:∀ n o (a b c':Go.Bx.Own),(n,o)∈Z m→own? (setO (setO (setO (Z m) 5 a) 5 b) 5 c') n=some o:=λn o a b c' hm'=>by
    have:=hZ.ge m n (Ab hm')
    rw [Af,if_neg (by omega),Af,if_neg (by omega),Af,if_neg (by omega)]
    exact Ay (hZ.nodup m) hm'
   have hlT:m<T:=by
    cases hst:stop with
    |true=>exact hms hst
    |false =>
     rw [hT hst]
     have:=congrArg List.length hd
     rw [List.length_drop,List.length_cons] at this
     omega
   have hga:(F9 h.ch on).getD m default=x:=by
    have h9:=congrArg (λl:List Ch=>l.getD 0 default) hd
    simp only [List.getD_cons_zero] at h9
    rw [←h9,List.getD_eq_getElem?_getD,List.getD_eq_getElem?_getD,List.getElem?_drop];rfl
   have hd2:(F9 h.ch on).drop (m+1)=F9 (h.ch.drop (k+1)) on:=by
    have h9:=congrArg (λl:List Ch=>l.drop 1) hd
    simp only [List.drop_drop,List.drop_succ_cons,List.drop_zero] at h9
    exact h9
   refine TR.wk _ (Wk.ofZ (env:=ukE h on x l' k) hZ rfl m (own:=[]) (nm:=[]) rfl rfl (by simp only [ukE,Ar,Bv,Bn,Ia,Js,A7,A0,↓A3,seval]) (by simp only [A7,A0,↓A3,seval]) (λn o hm'=>hr5 n o _ _ _ hm')) ?_
   refine TR.yield hZ rfl (hY m hlT) (own:=[]) (nm:=[]) rfl rfl rfl trivial (by simp only [ukE,hga,Ia,Js,A0,↓A3,seval]) (by simp only [ukE,Ia,Js,A0,↓A3,seval]) ?_
   simp only [ukE,A0,↓A3,seval]
   refine ⟨λhg=>?_,λhg=>?_⟩
   ·have hT1:T=m+1:=by
     simp [F7] at hg
     have:=hms hg.2
     omega
    subst hT1
    exact Ka.mk _ (Wk.refl _ _) (OwnLe.of λn o hm=>⟨o,Ay (hZ.nodup (m+1)) hm,Bf.refl o⟩)
   ·have hg':m+1<T∨stop=false:=by
     simp [F7] at hg
     by_cases h9:m+1<T
     ·exact .inl h9
     ·exact .inr (hg (by omega))
    simp only [w1,A0,↓A3,seval]
    exact Al.on (k+1,m+1) ⟨hlt,hd2,hlT,λh=>hg'.resolve_right (by rw [h];simp)⟩ (by simp only;omega) (Wk.ofZ hZ rfl (m+1) (own:=[]) (nm:=[]) rfl rfl (by simp only [Ar,Bv,Bn,w1,A7,A0,↓A3,seval]) (by simp only [A7,A0,↓A3,seval]) (hbk (m+1)))
  ·have d1:decide (x.bk>on)=true:=decide_eq_true (by omega)
   rw [if_neg hb] at hd
   simp only [Ar,Bv,Bn,d0,hgx,d1,hx5,Af,A0,↓A3,seval]
   repeat' first|(refine tz hP cc ?_;try simp only [d0,hgx,w1,d1,hx5,Af,A0,↓A3,seval])|refine ⟨λh=>?_,λh=>?_⟩|refine aX ?_|fail
   have hr2:∀ n o (a b:Go.Bx.Own),(n,o)∈Z m→own? (setO (setO (Z m) 5 a) 5 b) n=some o:=λn o a b hm'=>by
    have:=hZ.ge m n (Ab hm')
    rw [Af,if_neg (by omega),Af,if_neg (by omega)]
    exact Ay (hZ.nodup m) hm'
   exact Al.on (k+1,m) ⟨hlt,hd,hm,hms⟩ (by simp only;omega) (Wk.ofZ hZ rfl m (own:=[]) (nm:=[]) rfl rfl (by simp only [Ar,Bv,Bn,w1,A7,A0,↓A3,seval]) (by simp only [A7,A0,↓A3,seval]) (λn o hm'=>hr2 n o _ _ hm'))
 ·have hkl:k=h.ch.length:=by omega
  rw [hkl,List.drop_length] at hd
  have hml:(F9 h.ch on).length≤m:=List.drop_eq_nil_iff.1 hd
  have hst:stop=false:=by
   cases hst:stop with
   |false=>rfl
   |true=>have:=hms hst;have:=(hT' hst).2;omega
  have hTm:T=m:=by have:=hT hst;omega
  have d0:decide ((k:Int)<(h.ch.length:Int))=false:=decide_eq_false (by omega)
  simp only [d0,A0,↓A3,seval]
  repeat' first|refine ⟨λh=>?_,λh=>?_⟩|refine aX ?_|fail
  rw [hTm]
  exact Ka.mk' _ (Wk.refl _ _) (OwnLe.of λn o hm=>⟨o,Ay (hZ.nodup m) hm,Bf.refl o⟩)
def Xu (h:Hi) (on:Int):Hi×Int:=if h.bk>on then (Lz,7) else ({ h with ch:=F9 h.ch on },0)
theorem Sp (l:List Ch) (on:Int):(F9 l on).length≤l.length:=List.length_filter_le _ _
theorem sAtK (hh:Hi) (on:Int) (z:Oh hh):Aj Tryz.prog 81 [Da hh,.d (.int .i64 on)] [] (.tup [Da (Xu hh on).1,.d (.int .i64 (Xu hh on).2)]) [] []:=by
 have hn:=z.n
 by_cases hb:hh.bk>on
 ·have e:Xu hh on=(Lz,7):=by rw [Xu,if_pos hb]
  have d0:decide (hh.bk>on)=true:=decide_eq_true hb
  rw [e]
  refine qP Tryz.func81 λc hP hfn=>?_;simp only [Da,Dd,Ar,Bv,Bn,d0,A0,↓A3,seval]
  repeat' first|refine ⟨λh=>?_,λh=>?_⟩|refine aX ?_|fail
  refine rp ?_
  simp only [B8,A0,↓A3,seval]
  exact Ag.tups ⟨Ew,Ag.refl _,trivial⟩
 ·have e:Xu hh on=({ hh with ch:=F9 hh.ch on },0):=by rw [Xu,if_neg hb]
  have d0:decide (hh.bk>on)=false:=decide_eq_false hb
  have hll:=Sp hh.ch on
  have cc:=Oj hh.tm.cv (by have:=z.t;omega)
  have cu:=sUptoK hh on
  have cl:=cz 130 (utC hh on) rfl (F9 hh.ch on) (by omega) (kv hh on (by omega) z.c)
  simp only [Ar] at cc
  simp only [Da,Dd,Ar,Bv,Bn] at cu
  rw [e]
  generalize F9 hh.ch on=L at *
  refine qT Tryz.func81 λc hP hfn hrd=>?_;simp only [Da,Dd,Ar,Bv,Bn,d0,A0,↓A3,seval]
  repeat' first|(refine tq hP (h:=⟨_,λ_=>by first|exact cc|exact cu,?_⟩);try simp only [d0,A0,↓A3,seval])|refine ⟨λh=>?_,λh=>?_⟩|refine aX ?_|fail
  refine TR.call [] [(7,Es L)] (.osl 7) [7] (by rw [hP];exact cl) (by repeat' first|exact trivial|(intro _;assumption)|apply And.intro) (λk o h=>by simp at h) (by simp [keysO]) (by simp) ?_
  simp only [Es,A0,↓A3,seval]
  repeat' first|refine ⟨λh=>?_,λh=>?_⟩|refine aX ?_|fail
  refine rK (Wk.pub 7 rfl) trivial ?_
  simp only [Da,Dd,Bv,Ar,Bn,B8,A7,A0,↓A3,seval]
def J6 (h:Hi) (t:List Vs) (on:Int):List Sl×Int:=if (Xu h on).2≠0 then ([],(Xu h on).2) else Kx (Xu h on).1 t
theorem io {h:Hi} (z:Oh h) (on:Int):Oh (Xu h on).1:=by
 rw [Xu]
 by_cases hb:h.bk>on
 ·rw [if_pos hb];exact ⟨by simp [Lz],by simp [Lz],λc h=>by simp [Lz] at h⟩
 ·rw [if_neg hb]
  have:=Sp h.ch on
  have:=z.n
  exact ⟨z.t,by simp only;omega,λc hc=>z.c c (List.mem_filter.1 hc).1⟩
theorem jf (hh:Hi) (t:List Vs) (on:Int) (z:Oh hh) (ht:t.length≤1000000) (hz:∀ v,v∈t→Qo v):Aj Tryz.prog 43 [Da hh,.ag [.d (C5 t)],.d (.int .i64 on)] [] (.tup [.d (E5 (J6 hh t on).1),.d (.int .i64 (J6 hh t on).2)]) [] []:=by
 have ca:=sAtK hh on z
 have co:=vr (Xu hh on).1 t (io z on) ht hz
 rw [J6]
 generalize Xu hh on=A at *
 obtain ⟨A,e⟩:=A
 simp only at ca co ⊢
 simp only [Da,Dd,Ar,Bv,Bn,C5,De,Br,E5,Ea] at ca co
 by_cases h1:e=0
 ·subst h1
  have n0:((0:Int) != 0)=false:=rfl
  rw [if_neg (by simp)]
  refine qP Tryz.func43 λc hP hfn=>?_;simp only [Da,Dd,Ar,Bv,Bn,C5,De,Br,A0,↓A3,seval]
  repeat' first|(refine tq hP (h:=⟨_,λ_=>by first|exact ca|exact co,?_⟩);try simp only [n0,A0,↓A3,seval])|refine ⟨λh=>?_,λh=>?_⟩|refine aX ?_|fail
  exact rr
 ·have n1:(e != 0)=true:=bne_iff_ne.2 h1
  rw [if_pos h1]
  refine qP Tryz.func43 λc hP hfn=>?_;simp only [Da,Dd,Ar,Bv,Bn,C5,De,Br,A0,↓A3,seval]
  repeat' first|(refine tz hP ca ?_;try simp only [n1,A0,↓A3,seval])|refine ⟨λh=>?_,λh=>?_⟩|refine aX ?_|fail
  refine rp ?_
  simp only [B8,A0,↓A3,seval]
  exact Ag.tups ⟨C2,Ag.refl _,trivial⟩
def L0 (l:List Sl) (d:Int):Option Sl:=l.find? λs=>decide (d≥(F3 s.sf s.st).1)&&decide (d<(F3 s.sf s.st).2)
def kf:Sl:=⟨0,0,false,⟨0,0,0,0⟩,[],0⟩
theorem sn {g:Nat→List D}:Ag (.ag [.d (.int .i64 0),.d (.int .i64 0),.d (.bool false),.d (.int .i64 0),.d (.int .i64 0),.d (.int .i64 0),.d (.int .i64 0),.d (.sl true 0 0 g),.d (.int .i64 0)]) (ib kf):=
 Ag.ags ⟨Ag.refl _,Ag.refl _,Ag.refl _,Ag.refl _,Ag.refl _,Ag.refl _,Ag.refl _,C2,Ag.refl _,trivial⟩
def zCs:List V:=[.d (.int .i64 0),.d (.int .i64 0),.d (.bool false),.d (.int .i64 0),.d (.int .i64 0),.d (.int .i64 0),.d (.int .i64 0),.d (.sl true 0 0 λ_=>[]),.d (.int .i64 0)]
theorem dq (x:Sl) (l:List Sl) (d:Int):L0 (x::l) d=if (decide (d≥(F3 x.sf x.st).1)&&decide (d<(F3 x.sf x.st).2))=true then some x else L0 l d:=by
 rw [L0,List.find?_cons];split<;>rename_i h<;>simp only [h]<;>rfl
theorem sSlAt (l:List Sl) (d:Int) (hl:l.length≤9223372036854775807):Aj Tryz.prog 44 [.d (E5 l),.d (.int .i64 d)] [] (.tup [ib ((L0 l d).getD kf),.d (.bool (L0 l d).isSome)]) [] []:=by
 refine qP Tryz.func44 λc hP hfn=>?_;simp only [E5,Ea,Ar,A0,↓A3,seval]
 refine B4.loop (X:=Nat) (λk=>⟨[(1,.d (.int .i64 d)),(4,.own 4 0),(8,.d (E5 l)),(9,.d (.int .i64 l.length)),(10,.d (.int .i64 k))],[(4,.fix zCs)],[4]⟩)
  (λk=>k≤l.length∧L0 l d=L0 (l.drop k) d) (λk=>l.length-k) 0 ⟨Nat.zero_le _,rfl⟩ (Wk.of _ hfn rfl (by simp only [E5,Ea,Ar,A7,A0,↓A3,seval]) (by simp only [zCs,A7,A0,↓A3,seval])) ?_
 rintro k ⟨hk,he⟩
 by_cases hlt:k<l.length
 ·obtain ⟨x,hd,hg,-,-⟩:=Ae hlt
  have hg:=hg default
  have d0:decide ((k:Int)<(l.length:Int))=true:=decide_eq_true (by omega)
  have w1:IntKind.i64.wrap ((k:Int)+1)=((k+1:Nat):Int):=wS (by omega)
  have b1:(0:Int)≤(k:Int)∧(k:Int)<(l.length:Int):=by omega
  have ci:=sIn x.sf x.st d
  simp only [vS] at ci
  rw [hd,dq] at he
  cases hq:(decide (d≥(F3 x.sf x.st).1)&&decide (d<(F3 x.sf x.st).2)) with
  |true =>
   rw [hq] at ci
   rw [hq,if_pos rfl] at he
   rw [he]
   simp only [E5,Ea,Ar,zCs,d0,hg,A0,↓A3,seval]
   repeat' first|(refine tz hP ci ?_;try simp only [d0,hg,w1,A0,↓A3,seval])|refine ⟨λh=>?_,λh=>?_⟩|refine aX ?_|fail
   exact rr
  |false =>
   rw [hq] at ci
   rw [hq,if_neg (by simp)] at he
   simp only [E5,Ea,Ar,zCs,d0,hg,A0,↓A3,seval]
   repeat' first|(refine tz hP ci ?_;try simp only [d0,hg,w1,A0,↓A3,seval])|refine ⟨λh=>?_,λh=>?_⟩|refine aX ?_|fail
   exact Al.on (k+1) ⟨hlt,he⟩ (by omega) (Wk.of _ hfn rfl (by simp only [E5,Ea,Ar,w1,A7,A0,↓A3,seval]) (by simp only [zCs,A7,A0,↓A3,seval]))
 ·have d0:decide ((k:Int)<(l.length:Int))=false:=decide_eq_false (by omega)
  have e:L0 l d=none:=by rw [he,List.drop_eq_nil_of_le (by omega)];rfl
  rw [e]
  simp only [E5,Ea,Ar,zCs,d0,A0,↓A3,seval]
  repeat' first|refine ⟨λh=>?_,λh=>?_⟩|refine aX ?_|fail
  refine rp ?_
  simp only [B8,A0,↓A3,seval]
  exact Ag.tups ⟨sn,Ag.refl _,trivial⟩
def Pp (l:List Cv) (p:Int):Option Cv:=l.find? λc=>c.pe == p
def Jb (c:Cv):List V:=[.d (.int .i64 c.pe),.d (.int .i64 c.li),.d (.int .i64 c.ag),.d (.int .i64 c.de),.d (.int .i64 c.sh)]
def Od:Cv:=⟨0,0,0,0,0⟩
theorem dt (x:Cv) (l:List Cv) (p:Int):Pp (x::l) p=if (x.pe == p)=true then some x else Pp l p:=by
 rw [Pp,List.find?_cons];split<;>rename_i h<;>simp only [h]<;>rfl
theorem sFind (l:List Cv) (p:Int) (hl:l.length≤9223372036854775807):Aj Tryz.prog 45 [.d (Ar l),.d (.int .i64 p)] [] (.tup [.ag (Jb ((Pp l p).getD Od)),.d (.bool (Pp l p).isSome)]) [] []:=by
 refine qP Tryz.func45 λc hP hfn=>?_;simp only [Ar,A0,↓A3,seval]
 refine B4.loop (X:=Nat) (λk=>⟨[(1,.d (.int .i64 p)),(4,.own 4 0),(8,.d (Ar l)),(9,.d (.int .i64 l.length)),(10,.d (.int .i64 k))],[(4,.fix (Jb Od))],[4]⟩)
  (λk=>k≤l.length∧Pp l p=Pp (l.drop k) p) (λk=>l.length-k) 0 ⟨Nat.zero_le _,rfl⟩ (Wk.of _ hfn rfl (by simp only [Ar,A7,A0,↓A3,seval]) (by simp only [Jb,Od,A7,A0,↓A3,seval])) ?_
 rintro k ⟨hk,he⟩
 by_cases hlt:k<l.length
 ·obtain ⟨x,hd,hg,-,-⟩:=Ae hlt
  have hg:=hg default
  have d0:decide ((k:Int)<(l.length:Int))=true:=decide_eq_true (by omega)
  have w1:IntKind.i64.wrap ((k:Int)+1)=((k+1:Nat):Int):=wS (by omega)
  have b1:(0:Int)≤(k:Int)∧(k:Int)<(l.length:Int):=by omega
  rw [hd,dt] at he
  cases hq:(x.pe == p) with
  |true =>
   rw [hq,if_pos rfl] at he
   rw [he]
   simp only [Ar,Jb,Od,d0,hg,hq,A0,↓A3,seval]
   repeat' first|refine ⟨λh=>?_,λh=>?_⟩|refine aX ?_|fail
   exact rr
  |false =>
   rw [hq,if_neg (by simp)] at he
   simp only [Ar,Jb,Od,d0,hg,hq,A0,↓A3,seval]
   repeat' first|refine ⟨λh=>?_,λh=>?_⟩|refine aX ?_|fail
   exact Al.on (k+1) ⟨hlt,he⟩ (by omega) (Wk.of _ hfn rfl (by simp only [Ar,w1,A7,A0,↓A3,seval]) (by simp only [Jb,Od,A7,A0,↓A3,seval]))
 ·have d0:decide ((k:Int)<(l.length:Int))=false:=decide_eq_false (by omega)
  have e:Pp l p=none:=by rw [he,List.drop_eq_nil_of_le (by omega)];rfl
  rw [e]
  simp only [Ar,Jb,Od,d0,A0,↓A3,seval]
  repeat' first|refine ⟨λh=>?_,λh=>?_⟩|refine aX ?_|fail
  exact rr
structure Cl where
 id:Int
 po:Int
 pe:Int
 lo:Int
 bk:Int
 ev:Int
instance:Inhabited Cl:=⟨⟨0,0,0,0,0,0⟩⟩
def qg (c:Cl):List V:=[.d (.int .i64 c.id),.d (.int .i64 c.po),.d (.int .i64 c.pe),.d (.int .i64 c.lo),.d (.int .i64 c.bk),.d (.int .i64 c.ev)]
def ne (c:Cl):V:=.ag (qg c)
def qv (n:Int):Bool:=decide (n≥1)&&decide (n≤1000000000)
theorem sNum (n:Int):Aj Tryz.prog 79 [.d (.int .i64 n)] [] (.d (.bool (qv n))) [] []:=by
 refine qP Tryz.func79 λc hP hfn=>?_;simp only [A0,↓A3,seval]
 repeat' first|refine ⟨λh=>?_,λh=>?_⟩|refine aX ?_|fail
 exact rr
theorem sDayN (n:Int):Aj Tryz.prog 80 [.d (.int .i64 n)] [] (.d (.bool (Jz n))) [] []:=by
 refine qP Tryz.func80 λc hP hfn=>?_;simp only [A0,↓A3,seval]
 repeat' first|refine ⟨λh=>?_,λh=>?_⟩|refine aX ?_|fail
 exact rr
def M6 (c:Cl):Bool:=qv c.id&&(qv c.po&&(((c.ev == 0) || qv c.ev)&&(decide (c.pe≥0)&&(decide (c.pe≤7)&&(Jz c.lo&&Jz c.bk)))))
theorem mv (e:Int):Aj Tryz.prog 41 [.d (.bool true),.d (.int .i64 e)] [] (.tup []) [] []:=by
 refine qP Tryz.func41 λc hP hfn=>?_;simp only [A0,↓A3,seval]
 repeat' first|refine ⟨λh=>?_,λh=>?_⟩|refine aX ?_|fail
 exact rr
def Oc (e:Int):V:=.ifc 133 (.ag [.d (.int .i64 e)])
theorem Hn (e:Int):Kv Tryz.prog 41 [.d (.bool false),.d (.int .i64 e)] (Oc e):=by
 refine qN Tryz.func41 λc hP hfn hpk=>?_;simp only [A0,↓A3,seval]
 repeat' first|refine ⟨λh=>?_,λh=>?_⟩|refine aX ?_|fail
 exact TR.pnc rfl (by simp only [A0,↓A3,seval]) (by rw [hpk];exact Ag.refl _)
theorem gpN {c:B3} {b:Bool} {is:List I} {st:St} {acc:List Lg} {K:List Lg→St→Prop} {P:Program} (hP:c.P=P) {d:Option Nat} {s:Nat} {want gc:Bool} {x:X} {f:Nat} {first cap:List V} {xs:List X} {res:V} (hS:gc=true→Aj P f (first++(evVs st xs++cap)) [] res [] [])
  (h:El c b is (st.stp d { val:=.gd gc res,upd:=[],rd:=[],new:=[] }) (lgs b acc ⟨[],[]⟩) K) (hg:gOf st.env s want=some gc:=by rfl)
  (hx:gc=true→evV st x=.fn (.func f) first cap:=by intro _;rfl) (hsx:gc=true→evS true st x:=by intro _;repeat' first|exact trivial|(intro _;assumption)|apply And.intro) (hs:gc=true→evSs true st xs:=by intro _;repeat' first|exact trivial|(intro _;assumption)|apply And.intro):TR c b (⟨d,some (s,want),.callv x xs⟩::is) st acc K:=
 TR.gpv hP hg hx hS hsx hs h
theorem qp (x:Cl):Aj Tryz.prog 42 [ne x] [] (.d (.bool (M6 x))) [] []:=by
 refine qP Tryz.func42 λc hP hfn=>?_;simp only [ne,qg,A0,↓A3,seval]
 repeat' first|(refine tz hP (sNum _) ?_;try simp only [A0,↓A3,seval])|refine ⟨λh=>?_,λh=>?_⟩|refine aX ?_|(refine gpN hP (f:=79) (first:=[]) (cap:=[]) (λ_=>sNum _) ?_;try simp only [A0,↓A3,seval])|(refine gpN hP (f:=80) (first:=[]) (cap:=[]) (λ_=>sDayN _) ?_;try simp only [A0,↓A3,seval])|fail
 (refine rq ?_;first|exact ⟨⟩|simp [M6,Bool.and_assoc])
def Q3:Result Next→Prop
 |.ok (.value _) _=>True
 |.ok .skip _=>True
 |.halt (.panic _) _=>True
 |.ok _ _=>False
 |_=>True
theorem an (a:Act) (d:Option Nat) (v:Value):(a.put d v).defers=a.defers:=by cases d<;>rfl
theorem ea {F:Fence} {n:Nat} {P:Program} {o:Oper} {a:Act} {K K':Act→World→Prop} {Q Q':Exit→Act→World→Prop} {r:Result Next} (h:o.uponIn F n P a K Q r) (hc:Q3 r) (hK:∀ a' w',a'.defers=a.defers→K a' w'→K' a' w') (hQ:∀ e w',Q e a w'→Q' e a w'):o.uponIn F n P a K' Q' r:=by
 cases r with
 |ok x w'=>cases x<;>simp only [Q3] at hc<;>simp only [Oper.uponIn] at h ⊢<;>exact hK _ _ (an _ _ _) h
 |halt x w'=>cases x<;>simp only [Oper.uponIn] at h ⊢<;>first|exact hQ _ _ h|exact h
theorem Ij {F:Fence} {P:Program} {ops:Array Oper} {Q:Exit→Act→World→Prop} {d0:List Deferred} (hc:∀ (i:Nat) (o:Oper),ops[i]?=some o→∀ (ρ:Operand→Value) (w:World),Q3 ((o.semAt F.round ρ).run P w)) :
  ∀ (fuel:Nat) (listed:Array Bool) (a:Act) (w:World),a.defers=d0→wpAnyIn F 0 P .any ops Q fuel listed a w→wpAnyIn F 0 P .any ops (λe a' w'=>Q e a' w'∧a'.defers=d0) fuel listed a w
 |0,listed,a,w,hd,h=>⟨h.1,h.2,hd⟩
 |fuel+1,listed,a,w,hd,h=>by
  refine ⟨λhr=>⟨h.1 hr,hd⟩,λi hi=>?_⟩
  have hh:=h.2 i hi
  unfold wpOpIn at hh ⊢
  cases ho:ops[i]? with
  |none=>simp only [ho] at hh ⊢;exact Ij hc fuel _ _ _ hd hh
  |some o =>
   simp only [ho] at hh ⊢
   split
   ·rename_i hw
    simp only [hw,if_true] at hh
    exact ⟨hh.1,ea hh.2 (hc i o ho _ _) (λa' w' e h'=>Ij hc fuel _ _ _ (e.trans hd) h') (λe w' h'=>⟨h',hd⟩)⟩
   ·rename_i hw
    simp only [hw] at hh
    exact ⟨hh.1,Ij hc fuel _ _ _ ((an _ _ _).trans hd) hh.2⟩
theorem yv {P:Program} {w:World} (s:Sem Value):Q3 ((do pure (Next.value (←s)):Sem Next).run P w):=by
 simp only [Sem.run_bind]
 cases s.run P w with
 |ok v w'=>exact trivial
 |halt x w'=>cases x<;>exact trivial
theorem calm_u {P:Program} {w:World} (s:Sem Unit):Q3 ((do s;pure Next.skip:Sem Next).run P w):=by
 simp only [Sem.run_bind]
 cases s.run P w with
 |ok v w'=>exact trivial
 |halt x w'=>cases x<;>exact trivial
theorem drwD {c:B3} {anc:List Nat} {is:List I} {st:St} {K:Cs} (h:J9 c (Fl c K) is st is st [] (λlg st'=>Hw lg anc=true∧∀ β a w,Aa c β st' a w→K .nrm st')) (n:Nat) (code:Code) (hc:Av c.P c.nt n code=some (.drw anc is))
  (hcalm:∀ id ops dr,code=.region id ops dr→∀ (i:Nat) (o:Oper),ops[i]?=some o→∀ (ρ:Operand→Value) (w:World),Q3 ((o.semAt c.F.round ρ).run c.P w)) (β:A6) (a:Act) (w:World) (H:Aa c β st a w) :
  code.wpIn c.F 0 c.P (λe a' w'=>Fl c K e a' w'∧a'.defers=a.defers) a w:=by
 cases n with
 |zero=>simp [Av] at hc
 |succ n =>
 cases code with
 |region id ops draw =>
  simp only [Av] at hc
  split at hc
  ·rename_i is' his
   obtain ⟨hl,hcmp⟩:=Gs his
   split at hc
   ·cases hc
   ·rename_i hd
    have hd:draw=true:=by simpa using hd
    subst hd
    split at hc
    ·rename_i hh
     cases hc
     obtain ⟨ss,st',hT,hk⟩:=h
     simp only [List.nil_append] at hk
     refine wpIn_region_any hh.1 (Ij (hcalm _ _ _ rfl) _ _ _ _ rfl ?_)
     have hr0:C6 (λj=>(Array.replicate ops.size false).getD j false) 0 ((is.map (·.dst)).zip ss) st=st:=by
      have:∀ (l:List (Option Nat×Stp)) (j:Nat),C6 (λj=>(Array.replicate ops.size false).getD j false) j l st=st:=by
       intro l
       induction l with
       |nil=>intro _;rfl
       |cons p l ih =>
        intro j
        obtain ⟨d,s⟩:=p
        simp only [C6]
        have:(Array.replicate ops.size false).getD j false=false:=by
         simp only [Array.getD_eq_getD_getElem?,Array.getElem?_replicate]
         split<;>rfl
        rw [if_neg (by rw [this];simp)]
        exact ih (j+1)
      exact this _ 0
     refine Zy (c:=c) hT (by simpa using hl) (λj o i ho hi=>hcmp j o i (by simpa using ho) hi) hh.2.1 hh.2.2 hk.1 (λβ a w H'=>.inl ⟨.nrm,rfl,β,st',hk.2 β a w H',H'⟩) H.own.nodup ops.size _ β a _ (by simp) ?_ ?_ (by rw [hr0];exact H.drew _)
     ·have:(List.range ops.size).countP (λj=>(Array.replicate ops.size false).getD j false)=0:=by
       rw [List.countP_eq_zero]
       intro j hj
       have:=List.mem_range.1 hj
       simp [this]
      omega
     ·intro j o ho hj
      have hjl:=(Array.getElem?_eq_some_iff.1 ho).1
      simp [hjl] at hj
    ·cases hc
  ·cases hc
 |seq x y=>simp only [Av] at hc;split at hc<;>cases hc
 |cond x a b=>simp only [Av] at hc;split at hc<;>cases hc
 |block id a=>simp only [Av,Option.map_eq_some_iff] at hc;obtain ⟨_,_,h⟩:=hc;cases h
 |loop a=>simp only [Av,Option.map_eq_some_iff] at hc;obtain ⟨_,_,h⟩:=hc;cases h
 |scope a =>
  simp only [Av] at hc
  split at hc
  ·split at hc
   ·split at hc<;>cases hc
   ·cases hc
  ·cases hc
 |rangeFunc g ps asg body =>
  simp only [Av] at hc
  split at hc
  ·split at hc<;>cases hc
  ·cases hc
 |_=>simp [Av] at hc
def Cf (a b c d e n:Int):List (Nat×Go.Bx.Own):=[(6,.fix [.d (.int .i64 a),.d (.int .i64 b),.d (.int .i64 c),.d (.int .i64 d),.d (.int .i64 e)]),(7,.fix [.d (.int .i64 n)])]
theorem dCov0 (ins:List (Nat×Go.Bx.Own)) (hk:keysO ins=[6,7]):fu Tryz.prog 40 [6,7] none ins ins:=by
 refine ⟨ok40,by rw [hk];simp,λk h=>h,λE0 β w vals pv hE hsz hv hins _=>?_⟩
 obtain ⟨v,v',rfl⟩:∃ v v',vals=#[v,v']:=by
  match vals,hsz with
  |⟨[v,v']⟩,_=>exact ⟨v,v',rfl⟩
 refine (callsDIn_of_wpSIn (R:=λe u' w'=>e=.returned (.tuple #[])∧u'=.returning∧w'=w) Tryz.func40 rfl trivial λc₀ cs hu=>?_).mono ?_
 ·simp only [Mp] at hu
  apply wpSIn_seq
  apply wpSIn_region
  simp [wpOpsSIn,go_sem,recoverD,hu,Tryz.ntmps40,Exit.thenS]
  apply wpSIn_seq
  apply wpSIn_region
  simp [wpOpsSIn,go_sem,Tryz.ntmps40,Exit.thenS]
  refine wpSIn_cond (t:=false) (by simp [Act.eval,Array.replicate]) ?_
  simp only [Bool.false_eq_true,if_false]
  refine wpSIn_of_wpIn rfl (wpIn_skip ?_)
  cases c₀
  simp_all [bodyPostS,results,Tryz.results40]
 ·rintro e u' w' ⟨rfl,rfl,rfl⟩
  exact ⟨_,rfl,rfl,hins,Aw.refl _ _⟩
def cvD:C:=match kc40 with
 |.seq _ (.seq _ (.cond _ x _))=>x
 |x=>x
def cvA:List Nat:=match cvD with|.drw a _=>a|_=>[]
def cvI:List I:=match cvD with|.drw _ l=>l|_=>[]
def yw (a b c d e m n:Int):St:=⟨initE 0 [.own 6 0,.own 7 0,Oc n,Oc n,Oc n,.d (.bool true)],Cf a b c d e m,A5 [.own 6 0,.own 7 0,Oc n,Oc n,Oc n,.d (.bool true)]++A4 (Cf a b c d e m)⟩
theorem Wh {β β1:A6} {E E':Nat→Prop} {w:World} {v:Value} {x:V} (h:Ai β1 E w v x) (hx:∃ n,x=.d (.int .i64 n)):Ai β E' w v x:=by
 obtain ⟨n,rfl⟩:=hx
 cases h with
 |d _ _ h=>cases h;exact .d _ _ (.int _ _)
theorem od {E0:Nat→Prop} {β β1:A6} {w:World} {a b c d e n:Int} {own:List (Nat×Go.Bx.Own)} (h0:At E0 β1 w own) (hl:OwnLe own (Cf a b c d e n)) (h6:β1 6=β 6) (h7:β1 7=β 7):At E0 β w (Cf a b c d e n):=by
 have h:=h0.sub hl (by simp [Cf,keysO])
 have hb:∀ k,k∈keysO (Cf a b c d e n)→β.blk k=β1.blk k:=λk hk=>by
  simp only [Cf,keysO,List.map_cons,List.map_nil,List.mem_cons,List.not_mem_nil,or_false] at hk
  rcases hk with rfl|rfl
  ·simp [A6.blk,h6]
  ·simp [A6.blk,h7]
 refine ⟨λk o hm=>?_,h.nodup,λk k' hk hk' hne b hb1 hb2=>?_,λk hk b hb1=>?_⟩
 ·obtain hok:=h.ok k o hm
  simp only [Cf,List.mem_cons,Prod.mk.injEq,List.not_mem_nil,or_false] at hm
  rcases hm with ⟨rfl,rfl⟩|⟨rfl,rfl⟩
  ·obtain ⟨b',arr,e',g1,g2,g3,g4⟩:=hok
   refine ⟨b',arr,e',h6▸g1,g2,g3,λj v x hj hx=>?_⟩
   exact Wh (g4 j v x hj hx) (by have:=List.mem_of_getElem? hx;simp at this;rcases this with rfl|rfl|rfl|rfl|rfl<;>exact ⟨_,rfl⟩)
  ·obtain ⟨b',arr,e',g1,g2,g3,g4⟩:=hok
   refine ⟨b',arr,e',h7▸g1,g2,g3,λj v x hj hx=>?_⟩
   exact Wh (g4 j v x hj hx) (by have:=List.mem_of_getElem? hx;simp at this;exact ⟨_,this⟩)
 ·rw [hb k hk] at hb1
  rw [hb k' hk'] at hb2
  exact h.apart k k' hk hk' hne b hb1 hb2
 ·rw [hb k hk] at hb1
  exact h.lt k hk b hb1
theorem Su (a b c d e m n:Int):fu Tryz.prog 40 [6,7] (some (Oc n)) (Cf a b c d e m) (Cf 0 0 0 0 0 n):=by
 refine ⟨ok40,by simp [Cf,keysO],by simp [Cf,keysO],λE0 β w vals pv hE hsz hv hins hp=>?_⟩
 obtain ⟨v,v',rfl⟩:∃ v v',vals=#[v,v']:=by
  match vals,hsz with
  |⟨[v,v']⟩,_=>exact ⟨v,v',rfl⟩
 obtain rfl:pv=.iface 133 (.agg #[.int .i64 n]):=by
  have:=hp _ rfl
  cases this with
  |ifc t v x h =>
   cases h with
   |ag arr _ h1 r1 =>
    match arr,h1 with
    |⟨[u]⟩,_ =>
     have:=r1 0 u (.d (.int .i64 n)) rfl rfl
     cases this with
     |d _ _ h=>cases h;rfl
 have hpv:=hp _ rfl
 refine (callsDIn_of_wpSIn (R:=λq u' w'=>q=.returned (.tuple #[])∧u'=.panicking [{ v:=.iface 133 (.agg #[.int .i64 n]),recovered:=true }]∧At E0 β w' (Cf 0 0 0 0 0 n)∧Aw (Co β (Cf a b c d e m)) w w') Tryz.func40 rfl trivial λc₀ cs hu=>?_).mono ?_
 ·simp only [Mp] at hu
  apply wpSIn_seq
  apply wpSIn_region
  simp [wpOpsSIn,go_sem,recoverD,hu,Tryz.ntmps40,Exit.thenS]
  apply wpSIn_seq
  apply wpSIn_region
  simp [wpOpsSIn,go_sem,Tryz.ntmps40,Exit.thenS]
  refine wpSIn_cond (t:=true) (by simp [Act.eval,Array.replicate]) ?_
  simp only [if_true]
  refine wpSIn_of_wpIn rfl ?_
  obtain ⟨cx,βc,e1,e2,e3,e4,e5,e6,e7,e8,e9,H⟩:=Sr (P:=Tryz.prog) (fn:=Tryz.f40) (args:=[.own 6 0,.own 7 0,Oc n,Oc n,Oc n,.d (.bool true)]) (ins:=Cf a b c d e m) (by simp only [List.length_cons,List.length_nil,Tryz.ntmps40];decide) (λ_ _=>False) hE
   (vals:=#[v,v',.iface 133 (.agg #[.int .i64 n]),.iface 133 (.agg #[.int .i64 n]),.iface 133 (.agg #[.int .i64 n]),.bool true]) rfl (λj u y hj hy=>by
    match j,hj,hy with
    |0,hj,hy=>cases hj;cases hy;exact hv 0 _ _ rfl rfl
    |1,hj,hy=>cases hj;cases hy;exact hv 1 _ _ rfl rfl
    |2,hj,hy=>cases hj;cases hy;exact hpv
    |3,hj,hy=>cases hj;cases hy;exact hpv
    |4,hj,hy=>cases hj;cases hy;exact hpv
    |5,hj,hy=>cases hj;cases hy;exact .d _ _ (.bool _)
    |j+6,hj,hy=>simp at hj) hins
  have hF:cx.F=Fence.wide:=by simp only [B3.F,e7];rfl
  have hvc:J9 cx (Fl cx (λex st'=>ex=.nrm∧OwnLe st'.own (Cf 0 0 0 0 0 n))) cvI (yw a b c d e m n) cvI (yw a b c d e m n) [] (λlg st'=>Hw lg cvA=true∧∀ β a w,Aa cx β st' a w→(Ex.nrm=.nrm∧OwnLe st'.own (Cf 0 0 0 0 0 n))):=by
   refine J9.of (C1 ?_)
   simp only [cvI,cvA,cvD,yw,kc40,Cf,Oc,A5,V.names,A4,A0,↓A3,seval]
   exact ⟨rfl,λ_ _ _ _=>by simp only [A7,A0,↓A3,seval]⟩
  have hw:∀ code,Av Tryz.prog Tryz.f40.ntmps 10 code=some (.drw cvA cvI)→(∀ id ops dr,code=.region id ops dr→∀ (i:Nat) (o:Oper),ops[i]?=some o→∀ (ρ:Operand→Value) (w:World),Q3 ((o.semAt cx.F.round ρ).run cx.P w))→_:=λcode hc hcalm=>drwD hvc 10 code (by rw [e1,e5];exact hc) hcalm βc _ w H
  rw [hF,e1] at hw
  refine wpIn_mono (hw _ (by kernel_rfl) ?_) ?_
  ·intro id ops dr e0 i o ho ρ w
   injection e0 with e0 e01 e02
   subst e01
   rcases i with _|_|_|_|_|_|i<;>simp at ho<;>subst ho<;>(rw [Oper.semAt_eq _ _ _ (by intro c h;cases h)];first|exact yv _|exact calm_u _|exact trivial)
  rintro ex a' w' ⟨⟨ex',hx,β',st',hk,H'⟩|⟨ch,rfl,hpan⟩,hd⟩
  rotate_left
  ·obtain ⟨β1,st1,v1,y,rfl,hk,H1,hr⟩:=hpan
   rw [e9] at hk
   exact hk.elim
  obtain ⟨rfl,hle⟩:=hk
  cases ex<;>simp at hx
  have hn6:6∈cx.fn:=by rw [e6];simp [A5,V.names]
  have hn7:7∈cx.fn:=by rw [e6];simp [A5,V.names]
  have g:∀ (u:Value) (k:Nat) (E:Nat→Prop) (b1:A6) (W:World),Ai b1 E W u (.own k 0)→b1 k=some u:=λu k E b1 W h=>by
   cases h with
   |own k off b h=>exact h
  have h60:βc 6=β 6:=(g v 6 _ _ _ (H.env 0)).trans (g v 6 _ _ _ (hv 0 v 6 rfl rfl)).symm
  have h70:βc 7=β 7:=(g v' 7 _ _ _ (H.env 1)).trans (g v' 7 _ _ _ (hv 1 v' 7 rfl rfl)).symm
  have h6:β' 6=β 6:=((H'.fx 6 hn6).2.trans (H.fx 6 hn6).2.symm).trans h60
  have h7:β' 7=β 7:=((H'.fx 7 hn7).2.trans (H.fx 7 hn7).2.symm).trans h70
  have hown:=od H'.own hle h6 h7
  rw [e2] at hown
  have hkp:=H'.kp
  rw [e3,e4] at hkp
  exact ⟨hd,_,rfl,.tuple #[],by simp [results,Tryz.results40],rfl,rfl,hown,hkp⟩
 ·rintro e' u' w' ⟨rfl,rfl,h1,h2⟩
  exact ⟨_,rfl,rfl,h1,h2⟩
def Q4 (h:Hi) (t:List Vs) (x:Cl):Cv×Int:=
 if M6 x=false then (Od,1) else if x.bk<x.lo then (Od,4) else if x.po≠h.id then (Od,7) else
 if (J6 h t x.bk).2≠0 then (Od,(J6 h t x.bk).2) else
 if ((L0 (J6 h t x.bk).1 x.lo).isSome&&((L0 (J6 h t x.bk).1 x.lo).getD kf).on)=false then (Od,11) else
 match Pp ((L0 (J6 h t x.bk).1 x.lo).getD kf).cv x.pe with
 |none=>(Od,11)
 |some c=>(c,0)
theorem oa (hh:Hi) (t:List Vs) (x:Cl) (z:Oh hh) (ht:t.length≤1000000) (hz:∀ v,v∈t→Qo v) (hsl:(J6 hh t x.bk).1.length≤9223372036854775807) (hcv:((L0 (J6 hh t x.bk).1 x.lo).getD kf).cv.length≤9223372036854775807) :
  Aj Tryz.prog 19 [Da hh,.ag [.d (C5 t)],ne x] [] (.tup [.ag (Jb (Q4 hh t x).1),.d (.int .i64 (Q4 hh t x).2)]) [] []:=by
 have cr:=qp x
 have ck:=jf hh t x.bk z ht hz
 rw [Q4]
 generalize J6 hh t x.bk=L at *
 obtain ⟨L,e⟩:=L
 simp only at ck hsl hcv ⊢
 have ca:=sSlAt L x.lo hsl
 generalize L0 L x.lo=A at *
 have cf:=sFind (A.getD kf).cv x.pe hcv
 simp only [Da,Dd,ne,qg,ib,Dt,Ar,Bv,Bn,C5,De,Br,E5,Ea] at cr ck ca cf
 have hu:=mv
 by_cases h1:M6 x=true
 ·rw [if_neg (by rw [h1];simp)]
  rw [h1] at cr
  by_cases h2:x.bk<x.lo
  ·rw [if_pos h2]
   have d2:decide (x.bk≥x.lo)=false:=decide_eq_false (by omega)
   refine qD 40 [6,7] Tryz.func19 λc hP hfn=>?_;simp only [Da,Dd,ne,qg,Ar,Bv,Bn,C5,De,Br,A0,↓A3,seval]
   rw [Cp]
   simp only [A0,↓A3,seval]
   refine ⟨⟨_,_,rfl,trivial,by simp only [A0,↓A3,seval],rfl⟩,by simp [keysO],λc2 hP2 hfn2 hrd2 hpk2=>?_⟩
   refine Jn.of ?_
   have hP0:=hP
   have hP:=hP2.trans hP
   simp only [A0,↓A3,seval]
   repeat' first|(refine tq hP (h:=⟨_,λ_=>by first|exact cr|exact hu _,?_⟩);try simp only [d2,A0,↓A3,seval])|refine ⟨λh=>?_,λh=>?_⟩|refine aX ?_|fail
   refine TR.cpan hP (Hn 4) (by repeat' first|exact trivial|(intro _;assumption)|apply And.intro) ?_
   rw [hpk2]
   refine ⟨Cf 0 0 0 0 0 0,Cf 0 0 0 0 0 4,by rw [hP0];exact Su 0 0 0 0 0 0 4,λk o hm=>Ay (by simp [keysO]) (by simp only [Cf,List.mem_cons,Prod.mk.injEq,List.not_mem_nil,or_false] at hm;rcases hm with ⟨rfl,rfl⟩|⟨rfl,rfl⟩<;>simp),?_,?_⟩
   ·first|(simp only [Cf,B8,A0,↓A3,seval];done)|trivial
   ·simp only [Cf,Jb,Od,B8,A7,A0,↓A3,seval]
  ·rw [if_neg h2]
   have d2:decide (x.bk≥x.lo)=true:=decide_eq_true (by omega)
   by_cases h3:x.po=hh.id
   ·rw [if_neg (by simpa using h3)]
    have d3:(x.po == hh.id)=true:=by rw [beq_iff_eq];exact h3
    by_cases h4:e=0
    ·subst h4
     rw [if_neg (by simp)]
     have d4:((0:Int) == 0)=true:=rfl
     cases h5:(A.isSome&&(A.getD kf).on) with
     |false =>
      rw [if_pos rfl]
      refine qD 40 [6,7] Tryz.func19 λc hP hfn=>?_;simp only [Da,Dd,ne,qg,Ar,Bv,Bn,C5,De,Br,A0,↓A3,seval]
      rw [Cp]
      simp only [A0,↓A3,seval]
      refine ⟨⟨_,_,rfl,trivial,by simp only [A0,↓A3,seval],rfl⟩,by simp [keysO],λc2 hP2 hfn2 hrd2 hpk2=>?_⟩
      refine Jn.of ?_
      have hP0:=hP
      have hP:=hP2.trans hP
      simp only [A0,↓A3,seval]
      repeat' first|(refine tq hP (h:=⟨_,λ_=>by first|exact cr|exact hu _|exact ck|exact ca,?_⟩);try simp only [d2,d3,d4,h5,A0,↓A3,seval])|refine ⟨λh=>?_,λh=>?_⟩|refine aX ?_|fail
      refine TR.cpan hP (Hn 11) (by repeat' first|exact trivial|(intro _;assumption)|apply And.intro) ?_
      rw [hpk2]
      refine ⟨Cf 0 0 0 0 0 0,Cf 0 0 0 0 0 11,by rw [hP0];exact Su 0 0 0 0 0 0 11,λk o hm=>Ay (by simp [keysO]) (by simp only [Cf,List.mem_cons,Prod.mk.injEq,List.not_mem_nil,or_false] at hm;rcases hm with ⟨rfl,rfl⟩|⟨rfl,rfl⟩<;>simp),?_,?_⟩
      ·first|(simp only [Cf,B8,A0,↓A3,seval];done)|trivial
      ·simp only [Cf,Jb,Od,B8,A7,A0,↓A3,seval]
     |true =>
      rw [if_neg (by simp)]
      generalize hC:Pp (A.getD kf).cv x.pe=C at *
      cases C with
      |none =>
       simp only [Option.getD_none,Option.isSome_none,Jb,Od] at cf ⊢
       refine qD 40 [6,7] Tryz.func19 λc hP hfn=>?_;simp only [Da,Dd,ne,qg,Ar,Bv,Bn,C5,De,Br,A0,↓A3,seval]
       rw [Cp]
       simp only [A0,↓A3,seval]
       refine ⟨⟨_,_,rfl,trivial,by simp only [A0,↓A3,seval],rfl⟩,by simp [keysO],λc2 hP2 hfn2 hrd2 hpk2=>?_⟩
       refine Jn.of ?_
       have hP0:=hP
       have hP:=hP2.trans hP
       simp only [A0,↓A3,seval]
       repeat' first|(refine tq hP (h:=⟨_,λ_=>by first|exact cr|exact hu _|exact ck|exact ca|exact cf,?_⟩);try simp only [d2,d3,d4,h5,A0,↓A3,seval])|refine ⟨λh=>?_,λh=>?_⟩|refine aX ?_|fail
       refine TR.cpan hP (Hn 11) (by repeat' first|exact trivial|(intro _;assumption)|apply And.intro) ?_
       rw [hpk2]
       refine ⟨Cf 0 0 0 0 0 0,Cf 0 0 0 0 0 11,by rw [hP0];exact Su 0 0 0 0 0 0 11,λk o hm=>Ay (by simp [keysO]) (by simp only [Cf,List.mem_cons,Prod.mk.injEq,List.not_mem_nil,or_false] at hm;rcases hm with ⟨rfl,rfl⟩|⟨rfl,rfl⟩<;>simp),?_,?_⟩
       ·first|(simp only [Cf,B8,A0,↓A3,seval];done)|trivial
       ·simp only [Cf,Jb,Od,B8,A7,A0,↓A3,seval]
      |some cv =>
       simp only [Option.getD_some,Option.isSome_some,Jb] at cf ⊢
       refine qD 40 [6,7] Tryz.func19 λc hP hfn=>?_;simp only [Da,Dd,ne,qg,Ar,Bv,Bn,C5,De,Br,A0,↓A3,seval]
       rw [Cp]
       simp only [A0,↓A3,seval]
       refine ⟨⟨_,_,rfl,trivial,by simp only [A0,↓A3,seval],rfl⟩,by simp [keysO],λc2 hP2 hfn2 hrd2 hpk2=>?_⟩
       refine Jn.of ?_
       have hP0:=hP
       have hP:=hP2.trans hP
       simp only [A0,↓A3,seval]
       repeat' first|(refine tq hP (h:=⟨_,λ_=>by first|exact cr|exact hu _|exact ck|exact ca|exact cf,?_⟩);try simp only [d2,d3,d4,h5,A0,↓A3,seval])|refine ⟨λh=>?_,λh=>?_⟩|refine aX ?_|fail
       refine ⟨_,Cf cv.pe cv.li cv.ag cv.de cv.sh 0,Cf cv.pe cv.li cv.ag cv.de cv.sh 0,Wk.refl _ _,by rw [hP];exact dCov0 _ rfl,λk o hm=>Ay (by simp [keysO]) (by simp only [Cf,List.mem_cons,Prod.mk.injEq,List.not_mem_nil,or_false] at hm;rcases hm with ⟨rfl,rfl⟩|⟨rfl,rfl⟩<;>simp),?_,?_⟩
       ·first|(simp only [Cf,B8,A0,↓A3,seval];done)|trivial
       ·simp only [Cf,B8,A7,A0,↓A3,seval]
    ·rw [if_pos h4]
     have d4:(e == 0)=false:=by rw [beq_eq_false_iff_ne];exact h4
     refine qD 40 [6,7] Tryz.func19 λc hP hfn=>?_;simp only [Da,Dd,ne,qg,Ar,Bv,Bn,C5,De,Br,A0,↓A3,seval]
     rw [Cp]
     simp only [A0,↓A3,seval]
     refine ⟨⟨_,_,rfl,trivial,by simp only [A0,↓A3,seval],rfl⟩,by simp [keysO],λc2 hP2 hfn2 hrd2 hpk2=>?_⟩
     refine Jn.of ?_
     have hP0:=hP
     have hP:=hP2.trans hP
     simp only [A0,↓A3,seval]
     repeat' first|(refine tq hP (h:=⟨_,λ_=>by first|exact cr|exact hu _|exact ck,?_⟩);try simp only [d2,d3,d4,A0,↓A3,seval])|refine ⟨λh=>?_,λh=>?_⟩|refine aX ?_|fail
     refine TR.cpan hP (Hn e) (by repeat' first|exact trivial|(intro _;assumption)|apply And.intro) ?_
     rw [hpk2]
     refine ⟨Cf 0 0 0 0 0 0,Cf 0 0 0 0 0 e,by rw [hP0];exact Su 0 0 0 0 0 0 e,λk o hm=>Ay (by simp [keysO]) (by simp only [Cf,List.mem_cons,Prod.mk.injEq,List.not_mem_nil,or_false] at hm;rcases hm with ⟨rfl,rfl⟩|⟨rfl,rfl⟩<;>simp),?_,?_⟩
     ·first|(simp only [Cf,B8,A0,↓A3,seval];done)|trivial
     ·simp only [Cf,Jb,Od,B8,A7,A0,↓A3,seval]
   ·rw [if_pos h3]
    have d3:(x.po == hh.id)=false:=by rw [beq_eq_false_iff_ne];exact h3
    refine qD 40 [6,7] Tryz.func19 λc hP hfn=>?_;simp only [Da,Dd,ne,qg,Ar,Bv,Bn,C5,De,Br,A0,↓A3,seval]
    rw [Cp]
    simp only [A0,↓A3,seval]
    refine ⟨⟨_,_,rfl,trivial,by simp only [A0,↓A3,seval],rfl⟩,by simp [keysO],λc2 hP2 hfn2 hrd2 hpk2=>?_⟩
    refine Jn.of ?_
    have hP0:=hP
    have hP:=hP2.trans hP
    simp only [A0,↓A3,seval]
    repeat' first|(refine tq hP (h:=⟨_,λ_=>by first|exact cr|exact hu _,?_⟩);try simp only [d2,d3,A0,↓A3,seval])|refine ⟨λh=>?_,λh=>?_⟩|refine aX ?_|fail
    refine TR.cpan hP (Hn 7) (by repeat' first|exact trivial|(intro _;assumption)|apply And.intro) ?_
    rw [hpk2]
    refine ⟨Cf 0 0 0 0 0 0,Cf 0 0 0 0 0 7,by rw [hP0];exact Su 0 0 0 0 0 0 7,λk o hm=>Ay (by simp [keysO]) (by simp only [Cf,List.mem_cons,Prod.mk.injEq,List.not_mem_nil,or_false] at hm;rcases hm with ⟨rfl,rfl⟩|⟨rfl,rfl⟩<;>simp),?_,?_⟩
    ·first|(simp only [Cf,B8,A0,↓A3,seval];done)|trivial
    ·simp only [Cf,Jb,Od,B8,A7,A0,↓A3,seval]
 ·have h1:M6 x=false:=by simpa using h1
  rw [if_pos h1]
  rw [h1] at cr
  refine qD 40 [6,7] Tryz.func19 λc hP hfn=>?_;simp only [Da,Dd,ne,qg,Ar,Bv,Bn,C5,De,Br,A0,↓A3,seval]
  rw [Cp]
  simp only [A0,↓A3,seval]
  refine ⟨⟨_,_,rfl,trivial,by simp only [A0,↓A3,seval],rfl⟩,by simp [keysO],λc2 hP2 hfn2 hrd2 hpk2=>?_⟩
  refine Jn.of ?_
  have hP0:=hP
  have hP:=hP2.trans hP
  simp only [A0,↓A3,seval]
  repeat' first|(refine tz hP cr ?_;try simp only [A0,↓A3,seval])|refine ⟨λh=>?_,λh=>?_⟩|refine aX ?_|fail
  refine TR.cpan hP (Hn 1) (by repeat' first|exact trivial|(intro _;assumption)|apply And.intro) ?_
  rw [hpk2]
  refine ⟨Cf 0 0 0 0 0 0,Cf 0 0 0 0 0 1,by rw [hP0];exact Su 0 0 0 0 0 0 1,λk o hm=>Ay (by simp [keysO]) (by simp only [Cf,List.mem_cons,Prod.mk.injEq,List.not_mem_nil,or_false] at hm;rcases hm with ⟨rfl,rfl⟩|⟨rfl,rfl⟩<;>simp),?_,?_⟩
  ·first|(simp only [Cf,B8,A0,↓A3,seval];done)|trivial
  ·simp only [Cf,Jb,Od,B8,A7,A0,↓A3,seval]
theorem vh {h:Hi} {c:Ch} (e:(Mo h c).2=0):(Mo h c).1={ h with ch:=h.ch++[c] }:=by
 revert e
 rw [Mo]
 by_cases h1:(C0 c&&Xr h.tm c.dy)=false
 ·rw [if_pos h1];simp
 ·rw [if_neg h1]
  by_cases h2:c.bk<Qu h
  ·rw [if_pos h2];simp
  ·rw [if_neg h2]
   by_cases h3:h.ch.length≥2000
   ·rw [if_pos h3];simp
   ·rw [if_neg h3];simp
theorem cutS_Q {Q:List Cv→Prop} {h:Hi} (ht:Q h.tm.cv) (hc:∀ c,c∈h.ch→Q c.cv):∀ s,s∈M8 h→Q s.cv:=by
 have hI:=Mf ht hc h.ch.length
 exact Ug hI.now hI.cv
theorem ofS_Q {Q:List Cv→Prop} {h:Hi} {t:List Vs} (ht:Q h.tm.cv) (hc:∀ c,c∈h.ch→Q c.cv):∀ s,s∈(Kx h t).1→Q s.cv:=by
 have h2:=cutS_Q ht hc
 intro s hs
 rw [Kx] at hs
 by_cases h1:He h=false
 ·rw [if_pos h1] at hs;simp at hs
 ·rw [if_neg h1] at hs
  cases hv:zy t h.tm.sf with
  |none=>rw [hv] at hs;simp at hs
  |some v =>
   rw [hv] at hs
   simp only at hs
   by_cases h3:Lo v (M8 h)=0
   ·rw [if_pos h3] at hs
    simp only [List.mem_map] at hs
    obtain ⟨s',h4,rfl⟩:=hs
    have:=h2 s' h4
    rw [X0];split<;>exact this
   ·rw [if_neg h3] at hs;simp at hs
theorem pi {Q:List Cv→Prop} {h:Hi} {t:List Vs} (ht:Q h.tm.cv) (hc:∀ c,c∈h.ch→Q c.cv) (on:Int):∀ s,s∈(J6 h t on).1→Q s.cv:=by
 intro s hs
 rw [J6,Xu] at hs
 by_cases hb:h.bk>on
 ·rw [if_pos hb,if_pos (by decide)] at hs;simp at hs
 ·rw [if_neg hb,if_neg (by simp)] at hs
  exact ofS_Q (h:={ h with ch:=F9 h.ch on }) ht (λc hm=>hc c (List.mem_filter.1 hm).1) s hs
theorem qt {h:Hi} {t:List Vs} (z:Oh h) (on:Int):(J6 h t on).1.length≤200000∧∀ s,s∈(J6 h t on).1→s.cv.length≤1000000:=by
 refine ⟨?_,pi (Q:=λl=>l.length≤1000000) z.t z.c on⟩
 have z2:=io z on
 have h1:=(Ua z2).1
 have h2:=z2.n
 rw [J6]
 by_cases h3:(Xu h on).2≠0
 ·rw [if_pos h3];simp
 ·rw [if_neg h3]
  unfold Kx
  repeat' split
  all_goals simp
  omega
theorem tp {l:List Sl} {d:Int} (h:∀ s,s∈l→s.cv.length≤1000000):((L0 l d).getD kf).cv.length≤9223372036854775807:=by
 cases e:L0 l d with
 |none=>simp [kf]
 |some s =>
  have:=h s (List.mem_of_find?_eq_some e)
  simp only [Option.getD_some];omega
theorem zHi_sz:Oh Lz:=⟨by simp [Lz],by simp [Lz],λc h=>by simp [Lz] at h⟩
theorem Bd.sz {t:List Vs} {n:Nat} {s:Se} (h:Bd t n s) (hn:n≤900) {a:Ao} (ha:a∈s.ao):Oh a.hi:=⟨(h.ao.2 a ha).1.1,by have:=(h.ao.2 a ha).2.1;omega,λc hc=>((h.ao.2 a ha).2.2 c hc).1⟩
theorem Bd.acc {t:List Vs} {n:Nat} {s:Se} (h:Bd t n s) (hn:n≤900) (id:Int):Oh ((Ek s id).getD dn).hi:=by
 cases e:Ek s id with
 |none=>exact zHi_sz
 |some a=>exact h.sz hn (List.mem_of_find?_eq_some e)
def Xl (c:Cm):Cl:=⟨c.id,c.po,c.pe,c.lo,c.bk,c.ev⟩
theorem sCov {t:List Vs} (ht:t.length≤1000000) (hz:∀ v,v∈t→Qo v) {h:Hi} (z:Oh h) (c:Cm):Aj Tryz.prog 19 [Da h,.ag [.d (C5 t)],ia c] [] (.tup [.ag (Jb (Q4 h t (Xl c)).1),.d (.int .i64 (Q4 h t (Xl c)).2)]) [] []:=by
 have h1:=qt (t:=t) z c.bk
 exact oa h t (Xl c) z ht hz (by have:=h1.1;show (J6 h t c.bk).1.length≤_;omega) (tp h1.2)
def Rc (c:Cv):Prop:=R8 c.li∧R8 c.ag∧R8 c.sh
theorem covF_Q {h:Hi} {t:List Vs} {x:Cl} (ht:∀ c,c∈h.tm.cv→Rc c) (hc:∀ d,d∈h.ch→∀ c,c∈d.cv→Rc c):Rc (Q4 h t x).1:=by
 have z:Rc Od:=⟨by simp [R8,Od],by simp [R8,Od],by simp [R8,Od]⟩
 have hs:=pi (Q:=λl=>∀ c,c∈l→Rc c) (t:=t) ht hc x.bk
 unfold Q4
 repeat' (split;exact z)
 rename_i c hcv
 cases e:L0 (J6 h t x.bk).1 x.lo with
 |none=>rw [e] at hcv;simp [Pp,kf] at hcv
 |some s=>rw [e] at hcv;exact hs s (List.mem_of_find?_eq_some e) c (List.mem_of_find?_eq_some hcv)
def bdD (s:Se) (L:List Ao) (b:Bool) (e d:Int):Se×Int:=bif b then (s,8) else bif e == 0 then ({ s with ao:=L },d) else ({ s with ao:=L },e)
theorem sDoBd (t:List Vs) (n:Nat) (s:Se) (f:Fc) (hs:Bd t n s) (hn:n≤900) (ht:t.length≤1000000) (hz:∀ v,v∈t→Qo v) (hf:O8 f.tm.cv):Wl t n s f 209:=by
 have hl:=hs.ao.1
 have ca:=Mj s f.id (by omega)
 have hml:(s.ao.map Ky).length=s.ao.length:=List.length_map _
 have cb:=sBind f.id f.bk f.tm hf.1
 have he:(L7 f.id f.bk f.tm).2=0→(L7 f.id f.bk f.tm).1=⟨f.id,f.bk,f.tm,[]⟩:=by rw [L7];split<;>simp
 generalize L7 f.id f.bk f.tm=B at cb he
 obtain ⟨hh,e⟩:=B
 simp only at cb he
 have cd:e=0→Aj Tryz.prog 211 [Da hh,.ag [.d (C5 t)]] [] (.tup [.d (.int .i64 (Xm hh t).1),.d (.int .i64 (Xm hh t).2)]) [] []:=λh=>xd hh t (by rw [he h];exact ⟨hf.1,by simp,by simp⟩) ht hz
 obtain ⟨L,hL,hL2,cp⟩:=sPlG .ac Ky (λa=>⟨_,_,rfl,rfl⟩) s.ao ⟨hh,0⟩ (by omega)
 generalize (Xm hh t).2=d at *
 generalize F0 (gt f.id) 0 (s.ao.map Ky)=j at *
 have d2:decide ((s.ao.length:Int)≥2000)=false:=decide_eq_false (by omega)
 refine ⟨bdD s L (decide (j≥0)) e d,?_,λh=>?_⟩
 ·rw [←hs.tv] at cd
  simp only [Dv,D1,Bw,hml] at ca
  simp only [Da,Dd,Ar,Bv,Bn,C5,De,Br] at cd
  simp only [Da,Dd,ie,uf,Ar,Bv,Bn] at cb
  simp only [K3.sz,K3.pl,K3.idF,Ky,List.map,Bw,Ar,Bv,Bn,hml,A0,↓A3,seval] at cp
  refine qP Tryz.func209 λc hP hfn=>?_;simp only [Ec,Je,Dv,D1,Bw,hml,d2,Ar,Bv,Bn,C5,De,Br,A0,↓A3,seval]
  repeat' first|(refine tq hP (h:=⟨_,λ_=>by first|exact ca|exact cb|exact cd (beq_iff_eq.1 h)|exact cp,?_⟩);try simp only [hml,d2,Ky,Ar,Bv,Bn,C5,De,Br,A0,↓A3,seval])|refine ⟨λh=>?_,λh=>?_⟩|refine aX ?_|fail
  all_goals
   simp only [bdD, *,cond_true,cond_false,Dv,D1,Bw]
   exact rr
 ·revert h
  unfold bdD
  cases decide (j≥0)<;>cases he0:(e == 0)<;>intro h<;>simp only [cond_true,cond_false] at h ⊢
  ·rw [h] at he0;exact absurd he0 (by decide)
  ·have he1:=he (beq_iff_eq.1 he0)
   refine ⟨hs.tv,⟨by simp only;omega,λa ha=>?_⟩,hs.up.fi,hs.up.ty⟩
   rcases hL2 a ha with rfl|ha
   ·simp only [he1];exact ⟨hf,by simp,by simp⟩
   ·exact hs.up.ao.2 a ha
  ·exact absurd h (by decide)
  ·exact absurd h (by decide)
def lsD (s:Se) (L:List Fi) (b1 b2:Bool) (e:Int):Se×Int:=bif b1 then (s,8) else bif !b2 then (s,7) else ({ s with fi:=L },e)
theorem sDoLs (t:List Vs) (n:Nat) (s:Se) (f:Fc) (hs:Bd t n s) (hn:n≤900) (ht:t.length≤1000000) (hz:∀ v,v∈t→Qo v):Wl t n s f 249:=by
 have hl:=hs.fi.1
 have ca:=xw s f.cl.id (by omega)
 have hml:(s.fi.map Cz).length=s.fi.length:=List.length_map _
 have cc:=N7 s f.cl.po (by have:=hs.ao.1;omega)
 have cv:=sCov ht hz (hs.acc hn f.cl.po) f.cl
 have co:=mw f.cl
 obtain ⟨L,hL,hL2,cp⟩:=sPlG .fi Cz (λa=>⟨_,_,rfl,rfl⟩) s.fi ⟨f.cl,[]⟩ (by omega)
 rw [←hs.tv] at cv
 generalize Q4 ((Ek s f.cl.po).getD dn).hi s.tv (Xl f.cl)=C at cv
 generalize (Ek s f.cl.po).getD dn=a at *
 generalize (Ek s f.cl.po).isSome=b2 at *
 generalize F0 (gt f.cl.id) 0 (s.fi.map Cz)=j at *
 have d2:decide ((s.fi.length:Int)≥2000)=false:=decide_eq_false (by omega)
 refine ⟨lsD s L (decide (j≥0)) b2 C.2,?_,λh=>?_⟩
 ·simp only [Dv,D1,Bw,hml] at ca
  simp only [Dv,D1,Bw,hml,Ky,List.map,Ar,Bv,Bn] at cc
  simp only [Da,Dd,ia,qh,Ar,Bv,Bn,C5,De,Br,Jb] at cv
  simp only [Jc,Gk,ia,qh,Dr] at co
  simp only [K3.sz,K3.pl,K3.idF,Cz,List.map,Bw,Dr,hml,A0,↓A3,seval] at cp
  refine qP Tryz.func249 λc hP hfn=>?_;simp only [Ec,Je,Dv,D1,Bw,hml,d2,Ar,Bv,Bn,C5,De,Br,A0,↓A3,seval]
  repeat' first|(refine tq hP (h:=⟨_,λ_=>by first|exact ca|exact cc|exact cv|exact co|exact cp,?_⟩);try simp only [hml,d2,Cz,Dr,Ar,Bv,Bn,C5,De,Br,A0,↓A3,seval])|refine ⟨λh=>?_,λh=>?_⟩|refine aX ?_|fail
  all_goals
   simp only [lsD, *,cond_true,cond_false,Dv,D1,Bw]
   exact rr
 ·revert h
  unfold lsD
  cases decide (j≥0)<;>cases b2<;>intro h<;>simp only [Bool.not_true,Bool.not_false,cond_true,cond_false] at h ⊢
  ·exact absurd h (by decide)
  ·refine ⟨hs.tv,hs.up.ao,⟨by simp only;omega,λg hg=>?_⟩,hs.up.ty⟩
   rcases hL2 g hg with rfl|hg
   ·simp
   ·exact hs.up.fi.2 g hg
  ·exact absurd h (by decide)
  ·exact absurd h (by decide)
def altB (f:Fc):List D→Bool
 |_::.int _ p::_::_::.int _ b::_=>(p == f.id)&&decide (b≥f.bk)
 |_=>false
theorem sAlt1 (x:Fi) (f:Fc):Aj Tryz.prog 245 [.ag ((Cz x).map .d),.mem (T5 f)] [] (.d (.bool (altB f (Cz x)))) [] []:=by
 refine qP Tryz.func245 λc hP hfn=>?_;simp only [Cz,T5,List.map,A0,↓A3,seval]
 repeat' first|refine ⟨λh=>?_,λh=>?_⟩|refine aX ?_|fail
 exact rr
theorem sContI (l:List Fi) (f:Fc) (hl:l.length≤1000000):∃ b,Aj Tryz.prog 123 [.d (Bw 7 (l.map Cz)),.fn (.func 245) [] [.mem (T5 f)]] [] (.d (.bool b)) [] []:=by
 have ci:=W8 .fi (l.map Cz) (λx hx=>by obtain ⟨a,-,rfl⟩:=List.mem_map.1 hx;rfl) 245 [.mem (T5 f)] rfl (altB f) (λx hx=>by obtain ⟨a,-,rfl⟩:=List.mem_map.1 hx;exact sAlt1 a f) (by rw [List.length_map];exact hl)
 simp only [K3.sz,K3.ix] at ci
 refine ⟨decide (F0 (altB f) 0 (l.map Cz)≥0),?_⟩
 refine qP Tryz.func123 λc hP hfn=>?_;simp only [A0,↓A3,seval]
 repeat' first|(refine tz hP ci ?_;try simp only [A0,↓A3,seval])|refine ⟨λh=>?_,λh=>?_⟩|refine aX ?_|fail
 exact rr
def alD (s:Se) (j:Nat) (a:Ao) (b:Bool) (e d:Int):Se×Int:=bif b then (s,10) else bif e == 0 then ({ s with ao:=s.ao.set j a },d) else ({ s with ao:=s.ao.set j a },e)
theorem sDoAl (t:List Vs) (n:Nat) (s:Se) (f:Fc) (hs:Bd t n s) (hn:n≤900) (ht:t.length≤1000000) (hz:∀ v,v∈t→Qo v) (hf:O8 f.ch.cv):Wl t n s f 244:=by
 have hl:=hs.ao.1
 have ca:=Mj s f.id (by omega)
 have hml:(s.ao.map Ky).length=s.ao.length:=List.length_map _
 have hmf:(s.fi.map Cz).length=s.fi.length:=List.length_map _
 simp only [Dv,D1,Bw,hml,hmf] at ca
 rcases Jt Ky (gt f.id) s.ao 0 with ⟨h1,h2⟩|⟨j,a,h0,h1,h2⟩
 ·rw [h1] at ca
  refine ⟨(s,7),?_,λh=>by simp at h⟩
  refine qP Tryz.func244 λc hP hfn=>?_;simp only [Ec,Je,Dv,D1,Bw,hml,hmf,A0,↓A3,seval]
  repeat' first|(refine tz hP ca ?_;try simp only [A0,↓A3,seval])|refine ⟨λh=>?_,λh=>?_⟩|refine aX ?_|fail
  exact rr
 ·have hj:j<s.ao.length:=(List.getElem?_eq_some_iff.1 h0).1
  rw [h1,Nat.zero_add] at ca
  have d0:decide ((j:Int)<0)=false:=decide_eq_false (by omega)
  have hg:=Jw Ky h0
  have ham:=List.mem_of_getElem? h0
  have za:=hs.sz hn ham
  obtain ⟨b,ci⟩:=sContI s.fi f (by have:=hs.fi.1;omega)
  have cp:=sPutC a.hi f.ch za.t hf.1 (by have:=za.n;omega)
  have zp:=uh za hf.1
  have ep:=vh (h:=a.hi) (c:=f.ch)
  generalize Mo a.hi f.ch=B at cp zp ep
  obtain ⟨hh,e⟩:=B
  simp only at cp zp ep
  have cd:=xd hh t zp ht hz
  have cw:=sWiG .ac (by simp) Ky (λ_=>rfl) s.ao j ⟨hh,a.pa⟩ hj (by omega)
  generalize (Xm hh t).2=d at *
  refine ⟨alD s j ⟨hh,a.pa⟩ b e d,?_,λh=>?_⟩
  ·rw [←hs.tv] at cd
   simp only [Bw,hmf,T5,Ar] at ci
   simp only [Da,Dd,Ar,Bv,Bn,C5,De,Br] at cd
   simp only [Da,Dd,Ia,Js,Ar,Bv,Bn] at cp
   simp only [K3.sz,K3.wi,Bw,Ky,hml,List.length_map,List.map,List.length_set,Ar,Bv,Bn,A0,↓A3,seval] at cw
   refine qP Tryz.func244 λc hP hfn=>?_;simp only [Ec,Je,Dv,D1,Bw,d0,hml,hmf,Ar,Bv,Bn,C5,De,Br,A0,↓A3,seval]
   repeat' first|(refine tz hP ca ?_;try simp only [d0,hml,hmf,A0,↓A3,seval])|refine ⟨λh=>?_,λh=>?_⟩|refine aX ?_|fail
   refine TR.wk _ (Wk.pubF 2 rfl rfl) ?_
   simp only [A0,↓A3,seval]
   repeat' first|(refine tq hP (h:=⟨_,λ_=>by first|exact ci|exact cp|exact cd|exact cw,?_⟩);try simp only [d0,hg,Ky,hml,hmf,List.map,Ar,Bv,Bn,C5,De,Br,A0,↓A3,seval])|refine ⟨λh=>?_,λh=>?_⟩|refine aX ?_|fail
   all_goals
    simp only [alD, *,cond_true,cond_false,Dv,D1,Bw,List.length_map,List.length_set]
    exact rr
  ·revert h
   unfold alD
   cases b<;>cases he0:(e == 0)<;>intro h<;>simp only [cond_true,cond_false] at h ⊢
   ·rw [h] at he0;exact absurd he0 (by decide)
   ·rw [ep (beq_iff_eq.1 he0)]
    have hm:=hs.ao.2 a ham
    exact hs.setA hm.1 (by simp only [List.length_append,List.length_singleton];omega) (λc hc=>by
     rcases List.mem_append.1 hc with hc|hc
     ·exact hm.2.2 c hc
     ·rw [List.mem_singleton.1 hc];exact hf)
   ·exact absurd h (by decide)
   ·exact absurd h (by decide)
theorem sCl (t:List Vs) (n:Nat) (s:Se) (f:Fc) (hs:Bd t n s):Wl t n s f 278:=by
 refine ⟨Vb s f,qw s f,λh=>?_⟩
 rw [Vb] at h ⊢
 split
 ·exact hs.up
 ·exact ⟨hs.tv,hs.up.ao,hs.up.fi,hs.up.ty⟩
theorem sDoK (t:List Vs) (n:Nat) (s:Se) (f:Fc) (hs:Bd t n s) (hn:n≤900) (ht:t.length≤1000000) (hz:∀ v,v∈t→Qo v) (hf:O8 f.tm.cv) (hf2:O8 f.ch.cv) (τ:Nat) (h:(f.kd,τ)∈doT) :
  ∃ g fs,Ss Tryz.prog τ "bordereau/state.do"=some (g,false)∧Tryz.prog.underlying τ=some (.struct fs)∧Wl t n s f g:=by
 simp only [doT,List.mem_cons,Prod.mk.injEq,List.not_mem_nil,or_false] at h
 rcases h with ⟨-,rfl⟩|⟨-,rfl⟩|⟨-,rfl⟩|⟨-,rfl⟩|⟨-,rfl⟩|⟨-,rfl⟩|⟨-,rfl⟩
 ·exact ⟨_,_,by kernel_rfl,Tryz.underlying196,sDoBd t n s f hs hn ht hz hf⟩
 ·exact ⟨_,_,by kernel_rfl,Tryz.underlying197,sDoAl t n s f hs hn ht hz hf2⟩
 ·exact ⟨_,_,by kernel_rfl,Tryz.underlying198,sDoPd t n s f hs hn⟩
 ·exact ⟨_,_,by kernel_rfl,Tryz.underlying199,sDoLs t n s f hs hn ht hz⟩
 ·exact ⟨_,_,by kernel_rfl,Tryz.underlying200,sDoAct t n s f hs hn⟩
 ·exact ⟨_,_,by kernel_rfl,Tryz.underlying201,sDoTy t n s f hs hn⟩
 ·exact ⟨_,_,by kernel_rfl,Tryz.underlying202,sCl t n s f hs⟩
def gw:Se:=⟨[],[],[],[],0⟩
theorem Om:VsLe [.d (.sl true 0 0 λ_=>[]),.d (.sl true 0 0 λ_=>[]),.d (.sl true 0 0 λ_=>[]),.d (.sl true 0 0 λ_=>[]),.d (.int .i64 0)] (D1 gw):=⟨C2,C2,C2,C2,Ag.refl _,trivial⟩
theorem sDo (t:List Vs) (n:Nat) (s:Se) (f:Fc) (hs:Bd t n s) (hn:n≤900) (ht:t.length≤1000000) (hz:∀ v,v∈t→Qo v) (hf:O8 f.tm.cv) (hf2:O8 f.ch.cv) :
  ∃ r:Se×Int,Aj Tryz.prog 28 [Dv s,Ec f] [] (.tup [Dv r.1,.d (.int .i64 r.2)]) [] []∧(r.2=0→Bd t (n+1) r.1):=by
 obtain ⟨b,hb,hb2⟩:∃ b,Aj Tryz.prog 86 [Ec f] [] (.d (.bool b)) [] []∧(b=true→¬(f.kd<1∨7<f.kd)):=by
  by_cases h:f.kd<1∨7<f.kd
  ·exact ⟨false,fv f h,λe=>by cases e⟩
  ·obtain ⟨b,hb⟩:=je f h hf.1 hf2.1
   exact ⟨b,hb,λ_=>h⟩
 have cm:=sMay s f b hb
 by_cases h0:Rs b s f=0
 ·have hbt:b=true:=by
   cases b with
   |true=>rfl
   |false=>rw [Rs,if_pos rfl] at h0;exact absurd h0 (by decide)
  have hk:=hb2 hbt
  obtain ⟨τ,hτ⟩:∃ τ,(f.kd,τ)∈doT:=by
   have:f.kd=1∨f.kd=2∨f.kd=3∨f.kd=4∨f.kd=5∨f.kd=6∨f.kd=7:=by omega
   rcases this with h|h|h|h|h|h|h<;>rw [h]<;>exact ⟨_,by simp only [doT,List.mem_cons,Prod.mk.injEq,Int.reduceEq,true_and,false_and,false_or,or_false];first|rfl|exact .inl rfl⟩
  have ck:=sKind f τ hτ
  obtain ⟨g,fs,hm,hu,⟨r,e⟩,hd,hbd⟩:=sDoK t n s f hs hn ht hz hf hf2 τ hτ
  simp only at hd hbd
  rw [h0] at cm
  have n0:((0:Int) != 0)=false:=rfl
  simp only [Dv,D1,Ec,Je] at cm ck hd
  by_cases h1:e=0
  ·subst h1
   refine ⟨(r,0),?_,λ_=>hbd rfl⟩
   refine qP Tryz.func28 λc hP hfn=>?_;simp only [Ec,Je,Dv,D1,A0,↓A3,seval]
   repeat' first|(refine tq hP (h:=⟨_,λ_=>by first|exact cm|exact ck,?_⟩);try simp only [n0,A0,↓A3,seval])|refine ⟨λh=>?_,λh=>?_⟩|refine aX ?_|(refine tI hP hm hu hd ?_;try simp only [n0,A0,↓A3,seval])|fail
   exact rr
  ·have n1:(e != 0)=true:=by rw [bne_iff_ne];exact h1
   refine ⟨(gw,e),?_,λh=>absurd h h1⟩
   refine qP Tryz.func28 λc hP hfn=>?_;simp only [Ec,Je,Dv,D1,A0,↓A3,seval]
   repeat' first|(refine tq hP (h:=⟨_,λ_=>by first|exact cm|exact ck,?_⟩);try simp only [n0,n1,A0,↓A3,seval])|refine ⟨λh=>?_,λh=>?_⟩|refine aX ?_|(refine tI hP hm hu hd ?_;try simp only [n1,A0,↓A3,seval])|fail
   refine Ci.pure (by simp only [B8,A0,↓A3,seval]) ?_
   simp only [B8,A0,↓A3,seval]
   exact Ag.tups ⟨Ag.ags Om,Ag.refl _,trivial⟩
 ·have n0:(Rs b s f != 0)=true:=by rw [bne_iff_ne];exact h0
  refine ⟨(gw,Rs b s f),?_,λh=>absurd h h0⟩
  generalize Rs b s f=e at *
  simp only [Dv,D1,Ec,Je] at cm
  refine qP Tryz.func28 λc hP hfn=>?_;simp only [Ec,Je,Dv,D1,A0,↓A3,seval]
  repeat' first|(refine tz hP cm ?_;try simp only [n0,A0,↓A3,seval])|refine ⟨λh=>?_,λh=>?_⟩|refine aX ?_|fail
  refine Ci.pure (by simp only [B8,A0,↓A3,seval]) ?_
  simp only [B8,A0,↓A3,seval]
  exact Ag.tups ⟨Ag.ags Om,Ag.refl _,trivial⟩
def gq (f:Fc):Prop:=O8 f.tm.cv∧O8 f.ch.cv
def Qm (D:Nat→Se→Fc→Se×Int) (on:Int):Nat→List Fc→Se→Se
 |_,[],s=>s
 |k,f::r,s=>Qm D on (k+1) r (if f.bk>on then s else if (D k s f).2=0 then (D k s f).1 else s)
theorem Bd.zero (t:List Vs):Bd t 0 ⟨t,[],[],[],0⟩:=⟨rfl,⟨Nat.le_refl _,λa h=>by simp at h⟩,⟨Nat.le_refl _,λa h=>by simp at h⟩,Nat.le_refl _⟩
theorem Vx {t:List Vs} {D:Nat→Se→Fc→Se×Int} {on:Int} (hD:∀ k s f,Bd t k s→k≤900→gq f→(D k s f).2=0→Bd t (k+1) (D k s f).1):∀ (l:List Fc) (k:Nat) (s:Se),(∀ f,f∈l→gq f)→k+l.length≤900→Bd t k s→Bd t (k+l.length) (Qm D on k l s)
 |[],_,_,_,_,hs=>hs
 |f::r,k,s,hl,hk,hs=>by
  rw [List.length_cons] at hk ⊢
  rw [Qm,show k+(r.length+1)=k+1+r.length by omega]
  refine Vx hD r (k+1) _ (λg hg=>hl g (by simp [hg])) (by omega) ?_
  split
  ·exact hs.up
  ·split
   ·rename_i h;exact hD k s f hs (by omega) (hl f (by simp)) h
   ·exact hs.up
theorem sNew (t:List Vs):Aj Tryz.prog 27 [.ag [.d (C5 t)]] [] (Dv ⟨t,[],[],[],0⟩) [] []:=by
 refine qP Tryz.func27 λc hP hfn=>?_;simp only [A0,↓A3,seval]
 repeat' first|refine ⟨λh=>?_,λh=>?_⟩|refine aX ?_|fail
 refine Ci.pure (by simp only [B8,A0,↓A3,seval]) ?_
 simp only [B8,A0,↓A3,seval]
 exact Ag.ags ⟨Ag.refl _,C2,C2,C2,Ag.refl _,trivial⟩
theorem sStOf (t:List Vs) (l:List Fc) (on:Int) (hl:l.length≤800) (ht:t.length≤1000000) (hz:∀ v,v∈t→Qo v) (hf:∀ f,f∈l→gq f) :
  ∃ s,Aj Tryz.prog 11 [.ag [.d (C5 t),.d (Dy l)],.d (.int .i64 on)] [] (.tup [Dv s,.d (.int .i64 0)]) [] []∧Bd t l.length s:=by
 have hE:∀ k s f,∃ r:Se×Int,Bd t k s→k≤900→gq f→Aj Tryz.prog 28 [Dv s,Ec f] [] (.tup [Dv r.1,.d (.int .i64 r.2)]) [] []∧(r.2=0→Bd t (k+1) r.1):=λk s f=>by
  by_cases h:Bd t k s∧k≤900∧gq f
  ·obtain ⟨r,h1⟩:=sDo t k s f h.1 h.2.1 ht hz h.2.2.1 h.2.2.2
   exact ⟨r,λ_ _ _=>h1⟩
  ·exact ⟨(gw,0),λh1 h2 h3=>absurd ⟨h1,h2,h3⟩ h⟩
 obtain ⟨D,hD⟩:∃ D:Nat→Se→Fc→Se×Int,∀ k s f,Bd t k s→k≤900→gq f→Aj Tryz.prog 28 [Dv s,Ec f] [] (.tup [Dv (D k s f).1,.d (.int .i64 (D k s f).2)]) [] []∧((D k s f).2=0→Bd t (k+1) (D k s f).1):=⟨λk s f=>(hE k s f).choose,λk s f=>(hE k s f).choose_spec⟩
 clear hE
 have hB:=Vx (on:=on) (λk s f h1 h2 h3=>(hD k s f h1 h2 h3).2) l 0 ⟨t,[],[],[],0⟩ hf (by omega) (Bd.zero t)
 rw [Nat.zero_add] at hB
 refine ⟨_,?_,hB⟩
 clear hB
 obtain ⟨R,hR⟩:∃ R,R=Qm D on 0 l ⟨t,[],[],[],0⟩:=⟨_,rfl⟩
 rw [←hR]
 have cn:=sNew t
 have hfd:∀ i,T5 (l.getD i default)=T5 (l.getD i default):=λ_=>rfl
 have d2:decide ((l.length:Int)>2000)=false:=decide_eq_false (by omega)
 simp only [Dv,D1] at cn
 refine qP Tryz.func11 λc hP hfn=>?_;simp only [Dy,d2,A0,↓A3,seval]
 repeat' first|(refine tz hP cn ?_;try simp only [d2,A0,↓A3,seval])|refine ⟨λh=>?_,λh=>?_⟩|refine aX ?_|fail
 refine B4.loop (X:=Nat×Se) (λx=>⟨[(1,.d (.int .i64 on)),(4,.own 4 0),(6,.own 6 0),(20,.d (Dy l)),(21,.d (.int .i64 l.length)),(22,.d (.int .i64 (x.1:Nat)))],[(4,.fix (D1 gw)),(6,.fix (D1 x.2))],[4,6]⟩)
  (λx=>x.1≤l.length∧Bd t x.1 x.2∧R=Qm D on x.1 (l.drop x.1) x.2) (λx=>l.length-x.1) (0,⟨t,[],[],[],0⟩) ⟨Nat.zero_le _,Bd.zero t,hR⟩ (Wk.of _ hfn rfl (by simp only [Dy,A7,A0,↓A3,seval]) (by simp only [D1,A7,A0,↓A3,seval];exact Bf.fix Om)) ?_
 rintro ⟨k,s⟩ ⟨hk,hs,he⟩
 simp only at hk hs he
 by_cases hlt:k<l.length
 ·obtain ⟨f,hd,hg,hm,-⟩:=Ae hlt
  have hg:=hg default
  have d0:decide ((k:Int)<(l.length:Int))=true:=decide_eq_true (by omega)
  have w1:IntKind.i64.wrap ((k:Int)+1)=((k+1:Nat):Int):=wS (by omega)
  have b1:(0:Int)≤(k:Int)∧(k:Int)<(l.length:Int):=by omega
  obtain ⟨cd,hd2⟩:=hD k s f hs (by omega) (hf f hm)
  rw [hd,Qm] at he
  generalize D k s f=r at *
  obtain ⟨r,e⟩:=r
  simp only [Dv,D1,Ec,Je] at cd
  simp only at hd2 he
  by_cases hb:f.bk>on
  ·have d1:decide (f.bk>on)=true:=decide_eq_true hb
   rw [if_pos hb] at he
   simp only [Dy,D1,gw,hg,T5,d0,d1,w1,A0,↓A3,seval]
   repeat' first|refine ⟨λh=>?_,λh=>?_⟩|refine aX ?_|fail
   exact Al.on (k+1,s) ⟨hlt,hs.up,he⟩ (by simp only;omega) (Wk.of _ hfn rfl (by simp only [Dy,w1,A7,A0,↓A3,seval]) (by simp only [D1,gw,A7,A0,↓A3,seval]))
  ·have d1:decide (f.bk>on)=false:=decide_eq_false hb
   rw [if_neg hb] at he
   by_cases h0:e=0
   ·subst h0
    have n0:((0:Int) == 0)=true:=rfl
    rw [if_pos rfl] at he
    simp only [Dy,D1,gw,hg,T5,d0,d1,w1,A0,↓A3,seval]
    repeat' first|(refine tz hP cd ?_;try simp only [d0,d1,w1,hg,T5,n0,A0,↓A3,seval])|refine ⟨λh=>?_,λh=>?_⟩|refine aX ?_|fail
    exact Al.on (k+1,r) ⟨hlt,hd2 rfl,he⟩ (by simp only;omega) (Wk.of _ hfn rfl (by simp only [Dy,w1,A7,A0,↓A3,seval]) (by simp only [D1,gw,A7,A0,↓A3,seval]))
   ·have n0:(e == 0)=false:=by rw [beq_eq_false_iff_ne];exact h0
    rw [if_neg h0] at he
    simp only [Dy,D1,gw,hg,T5,d0,d1,w1,A0,↓A3,seval]
    repeat' first|(refine tz hP cd ?_;try simp only [d0,d1,w1,hg,T5,n0,A0,↓A3,seval])|refine ⟨λh=>?_,λh=>?_⟩|refine aX ?_|fail
    exact Al.on (k+1,s) ⟨hlt,hs.up,he⟩ (by simp only;omega) (Wk.of _ hfn rfl (by simp only [Dy,w1,A7,A0,↓A3,seval]) (by simp only [D1,gw,A7,A0,↓A3,seval]))
 ·obtain rfl:k=l.length:=by omega
  have d0:decide ((l.length:Int)<(l.length:Int))=false:=decide_eq_false (by omega)
  rw [List.drop_length,Qm] at he
  rw [he]
  simp only [Dy,D1,d0,A0,↓A3,seval]
  repeat' first|refine ⟨λh=>?_,λh=>?_⟩|refine aX ?_|fail
  exact rr
def Wc (l:List Ch):Bool:=l.all (λc=>decide (c.cv.length≤50))
def Qt (t:List Vs):Bool:=t.all (λv=>decide (v.age.length≤200)&&(decide (v.zn.length≤200)&&decide (v.pr.length≤200)))
def Nk (h:Hi) (t:List Vs):Bool:=decide (h.ch.length≤60)&&(decide (t.length≤100)&&(decide (h.tm.cv.length≤50)&&(Wc h.ch&&Qt t)))
theorem ga {l:List Ch} {k:Nat} {x:Ch} (h:l.drop k=x::l.drop (k+1)):Wc (l.drop k)=(decide (x.cv.length≤50)&&Wc (l.drop (k+1))):=by
 rw [h];rfl
theorem fo {l:List Vs} {k:Nat} {x:Vs} (h:l.drop k=x::l.drop (k+1)):Qt (l.drop k)=((decide (x.age.length≤200)&&(decide (x.zn.length≤200)&&decide (x.pr.length≤200)))&&Qt (l.drop (k+1))):=by
 rw [h];rfl
theorem sFew (hh:Hi) (t:List Vs) (h1:hh.ch.length≤9223372036854775807) (h2:t.length≤9223372036854775807):Aj Tryz.prog 25 [Da hh,.ag [.d (C5 t)]] [] (.d (.bool (Nk hh t))) [] []:=by
 by_cases a1:hh.ch.length≤60
 ·have d1:decide (((hh.ch.length:Nat):Int)>60)=false:=decide_eq_false (by omega)
  by_cases a2:t.length≤100
  ·have d2:decide (((t.length:Nat):Int)>100)=false:=decide_eq_false (by omega)
   by_cases a3:hh.tm.cv.length≤50
   ·have d3:decide (((hh.tm.cv.length:Nat):Int)>50)=false:=decide_eq_false (by omega)
    have e:Nk hh t=(Wc hh.ch&&Qt t):=by rw [Nk,decide_eq_true a1,decide_eq_true a2,decide_eq_true a3];rfl
    rw [e]
    refine qP Tryz.func25 λc hP hfn=>?_;simp only [Da,Dd,Ar,Bv,Bn,C5,De,Br,d1,d2,d3,A0,↓A3,seval]
    repeat' first|refine ⟨λh=>?_,λh=>?_⟩|refine aX ?_|fail
    refine B4.loop (X:=Nat) (λk=>⟨[(2,.own 2 0),(3,.own 3 0),(5,.d (.int .i64 k))],[(2,.fix (Dd hh)),(3,.fix [.d (C5 t)])],[2,3]⟩)
     (λk=>k≤hh.ch.length∧Wc hh.ch=Wc (hh.ch.drop k)) (λk=>hh.ch.length-k) 0 ⟨Nat.zero_le _,rfl⟩ (Wk.of _ hfn rfl (by simp only [A7,A0,↓A3,seval]) (by simp only [Dd,Ar,Bv,Bn,C5,De,Br,A7,A0,↓A3,seval])) ?_
    rintro k ⟨hk,he⟩
    by_cases hlt:k<hh.ch.length
    ·obtain ⟨x,hd,hg,-,-⟩:=Ae hlt
     have hg:=hg default
     have b0:decide ((k:Int)<(hh.ch.length:Int))=true:=decide_eq_true (by omega)
     have b1:(0:Int)≤(k:Int)∧(k:Int)<(hh.ch.length:Int):=by omega
     have ewk:IntKind.i64.wrap ((k:Int)+1)=((k+1:Nat):Int):=wS (by omega)
     rw [ga hd] at he
     by_cases hx:x.cv.length≤50
     ·have d4:decide (((x.cv.length:Nat):Int)>50)=false:=decide_eq_false (by omega)
      rw [decide_eq_true hx,Bool.true_and] at he
      simp only [Dd,Ar,Bv,Bn,C5,De,Br,b0,hg,d4,ewk,A0,↓A3,seval]
      repeat' first|refine ⟨λh=>?_,λh=>?_⟩|refine aX ?_|fail
      exact Al.on (k+1) ⟨hlt,he⟩ (by omega) (Wk.of _ hfn rfl (by simp only [ewk,A7,A0,↓A3,seval]) (by simp only [Dd,Ar,Bv,Bn,C5,De,Br,A7,A0,↓A3,seval]))
     ·have d4:decide (((x.cv.length:Nat):Int)>50)=true:=decide_eq_true (by omega)
      rw [decide_eq_false hx,Bool.false_and] at he
      simp only [Dd,Ar,Bv,Bn,C5,De,Br,b0,hg,d4,ewk,he,A0,↓A3,seval]
      repeat' first|refine ⟨λh=>?_,λh=>?_⟩|refine aX ?_|fail
      exact rr
    ·have b0:decide ((k:Int)<(hh.ch.length:Int))=false:=decide_eq_false (by omega)
     have e1:Wc hh.ch=true:=by rw [he,List.drop_eq_nil_of_le (by omega)];rfl
     rw [e1,Bool.true_and]
     simp only [Dd,Ar,Bv,Bn,C5,De,Br,b0,A0,↓A3,seval]
     repeat' first|refine ⟨λh=>?_,λh=>?_⟩|refine aX ?_|fail
     refine B4.loop (X:=Nat) (λk=>⟨[(3,.own 3 0),(6,.d (.int .i64 k))],[(3,.fix [.d (C5 t)])],[2,3]⟩)
      (λk=>k≤t.length∧Qt t=Qt (t.drop k)) (λk=>t.length-k) 0 ⟨Nat.zero_le _,rfl⟩ (Wk.of _ hfn rfl (by simp only [A7,A0,↓A3,seval]) (by simp only [C5,De,Br,A7,A0,↓A3,seval])) ?_
     rintro k ⟨hk,he⟩
     by_cases hlt:k<t.length
     ·obtain ⟨x,hd,hg,-,-⟩:=Ae hlt
      have hg:=hg default
      have b0:decide ((k:Int)<(t.length:Int))=true:=decide_eq_true (by omega)
      have b1:(0:Int)≤(k:Int)∧(k:Int)<(t.length:Int):=by omega
      have ewk:IntKind.i64.wrap ((k:Int)+1)=((k+1:Nat):Int):=wS (by omega)
      rw [fo hd] at he
      by_cases hx:x.age.length≤200
      ·have d4:decide (((x.age.length:Nat):Int)>200)=false:=decide_eq_false (by omega)
       by_cases hy:x.zn.length≤200
       ·have d5:decide (((x.zn.length:Nat):Int)>200)=false:=decide_eq_false (by omega)
        by_cases hz:x.pr.length≤200
        ·have d6:decide (((x.pr.length:Nat):Int)>200)=false:=decide_eq_false (by omega)
         rw [decide_eq_true hx,decide_eq_true hy,decide_eq_true hz] at he
         simp only [slK,C5,De,Br,b0,hg,d4,d5,d6,ewk,A0,↓A3,seval]
         repeat' first|refine ⟨λh=>?_,λh=>?_⟩|refine aX ?_|fail
         exact Al.on (k+1) ⟨hlt,he⟩ (by omega) (Wk.of _ hfn rfl (by simp only [ewk,A7,A0,↓A3,seval]) (by simp only [slK,C5,De,Br,A7,A0,↓A3,seval]))
        ·have d6:decide (((x.pr.length:Nat):Int)>200)=true:=decide_eq_true (by omega)
         rw [decide_eq_true hx,decide_eq_true hy,decide_eq_false hz] at he
         rw [show Qt t=false from he]
         simp only [slK,C5,De,Br,b0,hg,d4,d5,d6,ewk,A0,↓A3,seval]
         repeat' first|refine ⟨λh=>?_,λh=>?_⟩|refine aX ?_|fail
         exact rr
       ·have d5:decide (((x.zn.length:Nat):Int)>200)=true:=decide_eq_true (by omega)
        rw [decide_eq_true hx,decide_eq_false hy] at he
        rw [show Qt t=false from he]
        simp only [slK,C5,De,Br,b0,hg,d4,d5,ewk,A0,↓A3,seval]
        repeat' first|refine ⟨λh=>?_,λh=>?_⟩|refine aX ?_|fail
        exact rr
      ·have d4:decide (((x.age.length:Nat):Int)>200)=true:=decide_eq_true (by omega)
       rw [decide_eq_false hx] at he
       rw [show Qt t=false from he]
       simp only [slK,C5,De,Br,b0,hg,d4,ewk,A0,↓A3,seval]
       repeat' first|refine ⟨λh=>?_,λh=>?_⟩|refine aX ?_|fail
       exact rr
     ·have b0:decide ((k:Int)<(t.length:Int))=false:=decide_eq_false (by omega)
      have e1:Qt t=true:=by rw [he,List.drop_eq_nil_of_le (by omega)];rfl
      rw [e1]
      simp only [C5,De,Br,b0,A0,↓A3,seval]
      repeat' first|refine ⟨λh=>?_,λh=>?_⟩|refine aX ?_|fail
      exact rr
   ·have d3:decide (((hh.tm.cv.length:Nat):Int)>50)=true:=decide_eq_true (by omega)
    have e:Nk hh t=false:=by rw [Nk,decide_eq_true a1,decide_eq_true a2,decide_eq_false a3];rfl
    rw [e]
    refine qP Tryz.func25 λc hP hfn=>?_;simp only [Da,Dd,Ar,Bv,Bn,C5,De,Br,d1,d2,d3,A0,↓A3,seval]
    repeat' first|refine ⟨λh=>?_,λh=>?_⟩|refine aX ?_|fail
    exact rr
  ·have d2:decide (((t.length:Nat):Int)>100)=true:=decide_eq_true (by omega)
   have e:Nk hh t=false:=by rw [Nk,decide_eq_true a1,decide_eq_false a2];rfl
   rw [e]
   refine qP Tryz.func25 λc hP hfn=>?_;simp only [Da,Dd,Ar,Bv,Bn,C5,De,Br,d1,d2,A0,↓A3,seval]
   repeat' first|refine ⟨λh=>?_,λh=>?_⟩|refine aX ?_|fail
   exact rr
 ·have d1:decide (((hh.ch.length:Nat):Int)>60)=true:=decide_eq_true (by omega)
  have e:Nk hh t=false:=by rw [Nk,decide_eq_false a1];rfl
  rw [e]
  refine qP Tryz.func25 λc hP hfn=>?_;simp only [Da,Dd,Ar,Bv,Bn,C5,De,Br,d1,A0,↓A3,seval]
  repeat' first|refine ⟨λh=>?_,λh=>?_⟩|refine aX ?_|fail
  exact rr
def wo (a b:Sl):Bool:=(a.on == b.on)&&(np a.rk b.rk&&decide (a.cv=b.cv))
def Yj (a b:Sl):Bool:=((a.sf == b.sf)&&(a.st == b.st))&&((a.yr == b.yr)&&wo a b)
theorem Xx {a b:Sl}:Yj a b=true↔a=b:=by
 obtain ⟨a1,a2,a3,a4,a5,a6⟩:=a
 obtain ⟨b1,b2,b3,b4,b5,b6⟩:=b
 simp only [Yj,wo,Bool.and_eq_true,ju,beq_iff_eq,decide_eq_true_eq,Sl.mk.injEq]
 constructor
 ·rintro ⟨⟨h1,h2⟩,h3,h4,h5,h6⟩;exact ⟨h1,h2,h4,h5,h6,h3⟩
 ·rintro ⟨h1,h2,h4,h5,h6,h3⟩;exact ⟨⟨h1,h2⟩,h3,h4,h5,h6⟩
instance:DecidableEq Sl:=λa b=>decidable_of_iff (Yj a b=true) Xx
theorem zq {h:Hi} {t:List Vs} (e:Nk h t=true):t.length≤1000000∧∀ v,v∈t→Qo v:=by
 simp only [Nk,Wc,Qt,Bool.and_eq_true,decide_eq_true_eq,List.all_eq_true] at e
 obtain ⟨h1,h2,h3,h4,h5⟩:=e
 refine ⟨by omega,λv hv=>?_⟩
 have:=h5 v hv
 exact ⟨by omega,by omega,by omega⟩
def M3 (f:Fc):Bool:=decide (f.tm.cv.length≤50)&&decide (f.ch.cv.length≤50)
theorem sFewFc (f:Fc):Aj Tryz.prog 26 [Ec f] [] (.d (.bool (M3 f))) [] []:=by
 have e:M3 f=(decide ((f.tm.cv.length:Int)≤50)&&decide ((f.ch.cv.length:Int)≤50)):=by
  rw [M3,Bool.eq_iff_iff];simp;omega
 rw [e]
 refine qP Tryz.func26 λc hP hfn=>?_;simp only [Ec,Je,Ar,A0,↓A3,seval]
 repeat' first|refine ⟨λh=>?_,λh=>?_⟩|refine aX ?_|fail
 exact rr
def ut (t:List Vs) (l:List Fc):Bool:=Nk Lz t&&(decide (l.length≤25)&&l.all M3)
theorem sFewJ (t:List Vs) (l:List Fc) (ht:t.length≤9223372036854775807) (hl:l.length≤9223372036854775807) :
  Aj Tryz.prog 10 [.ag [.d (C5 t),.d (Dy l)],.d (.int .i64 25)] [] (.d (.bool (ut t l))) [] []:=by
 have cf:=(sFew Lz t (by simp [Lz]) ht).arg (args:=[.ag [.d (.int .i64 0),.d (.int .i64 0),.d (.int .i64 0),.d (.int .i64 0),.d (.int .i64 0),.d (.int .i64 0),.d (.int .i64 0),.d (.int .i64 0),.d (.sl true 0 0 λ_=>[]),.d (.sl true 0 0 λ_=>[])],.ag [.d (C5 t)]]) ⟨Ew,Ag.refl _,trivial⟩
 rw [ut]
 cases hF:Nk Lz t with
 |false =>
  rw [hF] at cf
  rw [Bool.false_and]
  refine qP Tryz.func10 λc hP hfn=>?_;simp only [Dy,A0,↓A3,seval]
  repeat' first|(refine tz hP cf ?_;try simp only [A0,↓A3,seval])|refine ⟨λh=>?_,λh=>?_⟩|refine aX ?_|fail
  exact rr
 |true =>
  rw [hF] at cf
  rw [Bool.true_and]
  by_cases h25:l.length≤25
  ·have d0:decide ((l.length:Int)>25)=false:=decide_eq_false (by omega)
   rw [decide_eq_true h25,Bool.true_and]
   refine qP Tryz.func10 λc hP hfn=>?_;simp only [Dy,d0,A0,↓A3,seval]
   repeat' first|(refine tz hP cf ?_;try simp only [d0,A0,↓A3,seval])|refine ⟨λh=>?_,λh=>?_⟩|refine aX ?_|fail
   refine B4.loop (X:=Nat) (λk=>⟨[(2,.own 2 0),(6,.d (.int .i64 (k:Nat)))],[(2,.fix [.d (C5 t),.d (Dy l)])],[2]⟩)
    (λk=>k≤l.length∧l.all M3=(l.drop k).all M3) (λk=>l.length-k) 0 ⟨Nat.zero_le _,rfl⟩ (Wk.of _ hfn rfl (by simp only [A7,A0,↓A3,seval]) (by simp only [Dy,A7,A0,↓A3,seval])) ?_
   rintro k ⟨hk,he⟩
   by_cases hlt:k<l.length
   ·obtain ⟨f,hd,hg,-,-⟩:=Ae hlt
    have hg:=hg default
    have d1:decide ((k:Int)<(l.length:Int))=true:=decide_eq_true (by omega)
    have w1:IntKind.i64.wrap ((k:Int)+1)=((k+1:Nat):Int):=wS (by omega)
    have b1:(0:Int)≤(k:Int)∧(k:Int)<(l.length:Int):=by omega
    have cc:=sFewFc f
    simp only [Ec,Je] at cc
    rw [hd,List.all_cons] at he
    simp only [Dy,hg,T5,d1,w1,A0,↓A3,seval]
    repeat' first|(refine tz hP cc ?_;try simp only [d1,w1,hg,T5,A0,↓A3,seval])|refine ⟨λh=>?_,λh=>?_⟩|refine aX ?_|fail
    ·rw [he,show M3 f=false by simpa using h,Bool.false_and];exact rr
    ·rw [show M3 f=true by simpa using h,Bool.true_and] at he
     exact Al.on (k+1) ⟨hlt,he⟩ (by omega) (Wk.of _ hfn rfl (by simp only [w1,A7,A0,↓A3,seval]) (by simp only [Dy,A7,A0,↓A3,seval]))
   ·obtain rfl:k=l.length:=by omega
    have d1:decide ((l.length:Int)<(l.length:Int))=false:=decide_eq_false (by omega)
    rw [List.drop_length,List.all_nil] at he
    rw [he]
    simp only [Dy,d1,A0,↓A3,seval]
    repeat' first|refine ⟨λh=>?_,λh=>?_⟩|refine aX ?_|fail
    exact rr
  ·have d0:decide ((l.length:Int)>25)=true:=decide_eq_true (by omega)
   rw [decide_eq_false h25,Bool.false_and]
   refine qP Tryz.func10 λc hP hfn=>?_;simp only [Dy,d0,A0,↓A3,seval]
   repeat' first|(refine tz hP cf ?_;try simp only [d0,A0,↓A3,seval])|refine ⟨λh=>?_,λh=>?_⟩|refine aX ?_|fail
   exact rr
def JoOk (t:List Vs) (l:List Fc):Prop:=t.length≤9223372036854775807∧l.length≤9223372036854775807∧∀ f,f∈l→(∀ c,c∈f.tm.cv→Rc c)∧∀ c,c∈f.ch.cv→Rc c
theorem no (t:List Vs) (l:List Fc) (on:Int) (h:JoOk t l):∃ s b,Aj Tryz.prog 4 [.ag [.d (C5 t),.d (Dy l)],.d (.int .i64 on)] [] (.tup [Dv s,.d (.bool b)]) [] []∧(b=true→Bd t 25 s∧t.length≤1000000∧∀ v,v∈t→Qo v):=by
 obtain ⟨h1,h2,h3⟩:=h
 have cf:=sFewJ t l h1 h2
 cases hF:ut t l with
 |false =>
  rw [hF] at cf
  simp only [Dy] at cf
  refine ⟨gw,false,?_,λe=>by cases e⟩
  refine qP Tryz.func4 λc hP hfn=>?_;simp only [Dy,A0,↓A3,seval]
  repeat' first|(refine tz hP cf ?_;try simp only [A0,↓A3,seval])|refine ⟨λh=>?_,λh=>?_⟩|refine aX ?_|fail
  refine Ci.pure (by simp only [B8,A0,↓A3,seval]) ?_
  simp only [B8,A0,↓A3,seval]
  exact Ag.tups ⟨Ag.ags Om,Ag.refl _,trivial⟩
 |true =>
  rw [hF] at cf
  simp only [ut,Bool.and_eq_true,decide_eq_true_eq,List.all_eq_true,M3] at hF
  obtain ⟨e1,e2,e3⟩:=hF
  obtain ⟨z1,z2⟩:=zq e1
  obtain ⟨s,cs,hb⟩:=sStOf t l on (by omega) z1 z2 (λf hf=>⟨⟨by have:=(e3 f hf).1;omega,(h3 f hf).1⟩,by have:=(e3 f hf).2;omega,(h3 f hf).2⟩)
  have hb25:Bd t 25 s:=⟨hb.tv,⟨by have:=hb.ao.1;omega,λa ha=>⟨(hb.ao.2 a ha).1,by have:=(hb.ao.2 a ha).2.1;omega,(hb.ao.2 a ha).2.2⟩⟩,⟨by have:=hb.fi.1;omega,λf hf=>by have:=hb.fi.2 f hf;omega⟩,by have:=hb.ty;omega⟩
  refine ⟨s,true,?_,λ_=>⟨hb25,z1,z2⟩⟩
  simp only [Dy,Dv,D1] at cf cs
  refine qP Tryz.func4 λc hP hfn=>?_;simp only [Dy,Dv,D1,A0,↓A3,seval]
  repeat' first|(refine tq hP (h:=⟨_,λ_=>by first|exact cf|exact cs,?_⟩);try simp only [A0,↓A3,seval])|refine ⟨λh=>?_,λh=>?_⟩|refine aX ?_|fail
  exact rr
end Go.Proofs.YtakohhkgeeoniaaGreat
end
section
namespace Go.Proofs.YtakohhkgeeoniaaGreat
open Go.ChangeShapes Go.WideShapes Go.ChangeAt Go.RowKit Go.Bx
theorem Y2:B9 Tryz.prog 298 2 (λl:Int×Int=>[.int .i64 l.1,.int .i64 l.2]) (λ_=>True):=
 (B9.struct Tryz.underlying298 (FR.cons rfl Ak (FR.cons rfl Ak FR.nil)) (by kernel_rfl)).map (λx=>(x.1,x.2.1)) _ _ (λ_=>rfl) (λ_=>rfl) (λ_ _=>trivial)
theorem W4:B9 Tryz.prog 153 1 (λl:List (Int×Int)=>[Br l]) (λ_=>True):=
 (Y2.slice Tryz.underlying153 (by kernel_rfl) (by decide)).map id _ _ (λ_=>rfl) (λ_=>rfl) (λ_ _=>trivial)
theorem P6:B9 Tryz.prog 45 1 (λl:List Int=>[slK .i64 l]) (λ_=>True):=
 (Ak.slice Tryz.underlying45 (by kernel_rfl) (by decide)).map id _ _ (λ_=>rfl) (λ_=>rfl) (λ_ _=>trivial)
theorem Y3:B9 Tryz.prog 152 4 (λt:Int×Int×Int×Int=>[.int .i64 t.1,.int .i64 t.2.1,.int .i64 t.2.2.1,.int .i64 t.2.2.2]) (λ_=>True):=
 (Ak.array Tryz.underlying152 (by kernel_rfl)).map (λg=>(g 0,g 1,g 2,g 3)) _ _ (λ_=>rfl) (λ_=>rfl) (λ_ _=>trivial)
theorem Rj:B9 Tryz.prog 155 9 De (λ_=>True):=
 (B9.struct Tryz.underlying155 (FR.cons rfl Ak (FR.cons rfl Y3 (FR.cons rfl W4 (FR.cons rfl P6 (FR.cons rfl P6 (FR.cons rfl Ak FR.nil)))))) (by kernel_rfl)).map (λx=>⟨x.1,x.2.1.1,x.2.1.2.1,x.2.1.2.2.1,x.2.1.2.2.2,x.2.2.1,x.2.2.2.1,x.2.2.2.2.1,x.2.2.2.2.2.1⟩) _ _ (λ_=>rfl) (λ_=>rfl) (λ_ _=>trivial)
theorem Qs:B9 Tryz.prog 22 1 (λl:List Vs=>[C5 l]) (λl=>l.length≤9223372036854775807):=
 (Rj.slice Tryz.underlying22 (by kernel_rfl) (by decide)).map id _ _ (λ_=>rfl) (λ_=>rfl) (λ_ h=>h.1)
theorem Tf:B9 Tryz.prog 24 1 (λl:List Vs=>[C5 l]) (λl=>l.length≤9223372036854775807):=
 (B9.struct Tryz.underlying24 (FR.cons rfl Qs FR.nil) (by kernel_rfl)).map (λx=>x.1) _ _ (λ_=>rfl) (λ_=>rfl) (λ_ h=>h.1)
theorem Qi:B9 Tryz.prog 88 4 (λr:Rk=>[.int .i64 r.kd,.int .i64 r.va,.int .i64 r.ag,.int .i64 r.zo]) (λ_=>True):=
 (B9.struct Tryz.underlying88 (FR.cons rfl Ak (FR.cons rfl Ak (FR.cons rfl Ak (FR.cons rfl Ak FR.nil)))) (by kernel_rfl)).map (λx=>⟨x.1,x.2.1,x.2.2.1,x.2.2.2.1⟩) _ _ (λ_=>rfl) (λ_=>rfl) (λ_ _=>trivial)
theorem W6:B9 Tryz.prog 44 5 (λc:Cv=>[.int .i64 c.pe,.int .i64 c.li,.int .i64 c.ag,.int .i64 c.de,.int .i64 c.sh]) Rc:=
 (B9.struct Tryz.underlying44 (FR.cons rfl Ak (FR.cons rfl Ak (FR.cons rfl Ak (FR.cons rfl Ak (FR.cons rfl Ak FR.nil))))) (by kernel_rfl)).map (λx=>⟨x.1,x.2.1,x.2.2.1,x.2.2.2.1,x.2.2.2.2.1⟩) _ _ (λ_=>rfl) (λ_=>rfl) (λ_ h=>⟨h.2.1,h.2.2.1,h.2.2.2.2.1⟩)
theorem Mq:B9 Tryz.prog 89 1 (λl:List Cv=>[Ar l]) (λl=>∀ c,c∈l→Rc c):=
 (W6.slice Tryz.underlying89 (by kernel_rfl) (by decide)).map id _ _ (λ_=>rfl) (λ_=>rfl) (λ_ h=>h.2)
theorem Pz:B9 Tryz.prog 71 2 (λl:Int×Int=>[.int .i64 l.1,.int .i64 l.2]) (λ_=>True):=
 (B9.struct Tryz.underlying71 (FR.cons rfl Ak (FR.cons rfl Ak FR.nil)) (by kernel_rfl)).map (λx=>(x.1,x.2.1)) _ _ (λ_=>rfl) (λ_=>rfl) (λ_ _=>trivial)
theorem X8:B9 Tryz.prog 91 7 (λt:Tm=>[.int .i64 t.sf,.int .i64 t.st,.int .i64 t.rk.kd,.int .i64 t.rk.va,.int .i64 t.rk.ag,.int .i64 t.rk.zo,Ar t.cv]) (λt=>∀ c,c∈t.cv→Rc c):=
 (B9.struct Tryz.underlying91 (FR.cons rfl Pz (FR.cons rfl Qi (FR.cons rfl Mq FR.nil))) (by kernel_rfl)).map (λx=>⟨x.1.1,x.1.2,x.2.1,x.2.2.1⟩) _ _ (λ_=>rfl) (λ_=>rfl) (λ_ h=>h.2.2.1)
theorem V0:B9 Tryz.prog 111 9 Bn (λc=>∀ x,x∈c.cv→Rc x):=
 (B9.struct Tryz.underlying111 (FR.cons rfl Ak (FR.cons rfl Ak (FR.cons rfl Ak (FR.cons rfl Qi (FR.cons rfl Mq (FR.cons rfl Ak FR.nil)))))) (by kernel_rfl)).map (λx=>⟨x.1,x.2.1,x.2.2.1,x.2.2.2.1,x.2.2.2.2.1,x.2.2.2.2.2.1⟩) _ _ (λ_=>rfl) (λ_=>rfl) (λ_ h=>h.2.2.2.2.1)
theorem ek:B9 Tryz.prog 61 3 (λa:Ac=>[.int .i64 a.bk,.int .i64 a.kd,.int .i64 a.am]) (λ_=>True):=
 (B9.struct Tryz.underlying61 (FR.cons rfl Ak (FR.cons rfl Ak (FR.cons rfl Ak FR.nil))) (by kernel_rfl)).map (λx=>⟨x.1,x.2.1,x.2.2.1⟩) _ _ (λ_=>rfl) (λ_=>rfl) (λ_ _=>trivial)
theorem Vn:B9 Tryz.prog 52 6 (λc:Cm=>[.int .i64 c.id,.int .i64 c.po,.int .i64 c.pe,.int .i64 c.lo,.int .i64 c.bk,.int .i64 c.ev]) (λ_=>True):=
 (B9.struct Tryz.underlying52 (FR.cons rfl Ak (FR.cons rfl Ak (FR.cons rfl Ak (FR.cons rfl Ak (FR.cons rfl Ak (FR.cons rfl Ak FR.nil)))))) (by kernel_rfl)).map (λx=>⟨x.1,x.2.1,x.2.2.1,x.2.2.2.1,x.2.2.2.2.1,x.2.2.2.2.2.1⟩) _ _ (λ_=>rfl) (λ_=>rfl) (λ_ _=>trivial)
theorem Uv:B9 Tryz.prog 73 9 Gg (λ_=>True):=
 (B9.struct Tryz.underlying73 (FR.cons rfl Ak (FR.cons rfl Ak (FR.cons rfl Pz (FR.cons rfl Ak (FR.cons rfl Ak (FR.cons rfl Ak (FR.cons rfl Ak (FR.cons rfl Ak FR.nil)))))))) (by kernel_rfl)).map (λx=>⟨x.1,x.2.1,x.2.2.1.1,x.2.2.1.2,x.2.2.2.1,x.2.2.2.2.1,x.2.2.2.2.2.1,x.2.2.2.2.2.2.1,x.2.2.2.2.2.2.2.1⟩) _ _ (λ_=>rfl) (λ_=>rfl) (λ_ _=>trivial)
theorem Xt:B9 Tryz.prog 113 39 T5 (λf=>(∀ c,c∈f.tm.cv→Rc c)∧∀ c,c∈f.ch.cv→Rc c):=
 (B9.struct Tryz.underlying113 (FR.cons rfl Ak (FR.cons rfl Ak (FR.cons rfl Ak (FR.cons rfl Ak (FR.cons rfl Ak (FR.cons rfl X8 (FR.cons rfl V0 (FR.cons rfl Vn (FR.cons rfl ek (FR.cons rfl Uv FR.nil)))))))))) (by kernel_rfl)).map (λx=>⟨x.1,x.2.1,x.2.2.1,x.2.2.2.1,x.2.2.2.2.1,x.2.2.2.2.2.1,x.2.2.2.2.2.2.1,x.2.2.2.2.2.2.2.1,x.2.2.2.2.2.2.2.2.1,x.2.2.2.2.2.2.2.2.2.1⟩) _ _ (λ_=>rfl) (λ_=>rfl) (λ_ h=>⟨h.2.2.2.2.2.1,h.2.2.2.2.2.2.1⟩)
theorem Wo:B9 Tryz.prog 25 1 (λl:List Fc=>[Dy l]) (λl=>l.length≤9223372036854775807∧∀ f,f∈l→(∀ c,c∈f.tm.cv→Rc c)∧∀ c,c∈f.ch.cv→Rc c):=
 (Xt.slice Tryz.underlying25 (by kernel_rfl) (by decide)).map id _ _ (λ_=>rfl) (λ_=>rfl) (λ_ h=>h)
theorem Rw:B9 Tryz.prog 27 2 (λj:List Vs×List Fc=>[C5 j.1,Dy j.2]) (λj=>JoOk j.1 j.2):=
 (B9.struct Tryz.underlying27 (FR.cons rfl Tf (FR.cons rfl Wo FR.nil)) (by kernel_rfl)).map (λx=>(x.1,x.2.1)) _ _ (λ_=>rfl) (λ_=>rfl) (λ_ h=>⟨h.1,h.2.1.1,h.2.1.2⟩)
end Go.Proofs.YtakohhkgeeoniaaGreat
end
section
namespace Go.Bx
open Go.RowKit
set_option maxRecDepth 10000
def It (R:Nat→Own):Nat→Nat→List (Nat×Own)
 |0,_=>[]
 |m+1,i=>(5000+i,R i)::It R m (i+1)
theorem Bg {R:Nat→Own}:∀ {m i:Nat} (k:Nat),own? (It R m i) k=if 5000+i≤k∧k<5000+i+m then some (R (k-5000)) else none
 |0,i,k=>by rw [if_neg (by omega)];rfl
 |m+1,i,k=>by
  rw [It,own?,Bg]
  by_cases h:5000+i=k
  ·subst h;rw [if_pos rfl,if_pos (by omega),show 5000+i-5000=i by omega]
  ·rw [if_neg h]
   by_cases h2:5000+(i+1)≤k∧k<5000+(i+1)+m
   ·rw [if_pos h2,if_pos (by omega)]
   ·rw [if_neg h2,if_neg (by omega)]
theorem My {R:Nat→Own}:∀ {m i k:Nat} {o:Own},(k,o)∈It R m i→∃ j,j<m∧k=5000+(i+j)∧o=R (i+j)
 |0,_,_,_,h=>by simp [It] at h
 |m+1,i,k,o,h=>by
  rcases List.mem_cons.1 h with h|h
  ·cases h;exact ⟨0,by omega,rfl,rfl⟩
  ·obtain ⟨j,h1,h2,h3⟩:=My h
   exact ⟨j+1,by omega,by omega,by rw [h3,show i+1+j=i+(j+1) by omega]⟩
theorem Sg {R:Nat→Own}:∀ {m i:Nat},(keysO (It R m i)).Nodup
 |0,_=>by simp [It,keysO]
 |m+1,i=>by
  simp only [It,keysO,List.map_cons,List.nodup_cons]
  refine ⟨λh=>?_,Sg⟩
  obtain ⟨o,h1⟩:=Ba h
  obtain ⟨j,_,h2,_⟩:=My h1
  omega
def nmI (m:Nat):List Nat:=(List.range m).map (5000+·)
theorem D4 {m k:Nat}:k∈nmI m↔5000≤k∧k<5000+m:=by
 unfold nmI
 rw [List.mem_map]
 constructor
 ·rintro ⟨i,h1,rfl⟩
  have:=List.mem_range.1 h1
  omega
 ·rintro ⟨h1,h2⟩
  exact ⟨k-5000,List.mem_range.2 (by omega),by omega⟩
theorem Bh:∀ {l:List (Nat×Own)} {k k1:Nat},k1≠k→own? (delO l k) k1=own? l k1
 |[],_,_,_=>rfl
 |(k',o)::l,k,k1,h=>by
  rw [delO]
  split
  ·rename_i e;rw [own?,if_neg (by rw [e];exact Ne.symm h)]
  ·rw [own?,own?,Bh h]
theorem Wk.inn {c:B3} {st:St} (x y:Nat) (fn:List Nat) (hfn:c.fn=fn) (hx:x∉fn) (hy:y∉fn) {env:List (Nat×V)} {A:List (Nat×Own)} {N:List Nat} {K' e' sz' n m:Nat} {cs:List V} {R:Nat→Own}
  (hB:V2 fn ⟨env,(K',.lit e' sz' 0 [])::A,N⟩=true) (hN:N.all (λk=>decide (k<5000))=true) (he:EnvLe (renE (Go.Bx.sw x y) st.env) env) (hA:Ph (Go.Bx.sw x y) st.own A)
  (hl:∃ o',own? st.own (Go.Bx.sw x y K')=some o'∧Bf (o'.ren (Go.Bx.sw x y)) (.lit e' sz' n cs)) (hcs:∀ j,j∈A5 cs→5000≤j∧j<5000+m) (hR:∀ i,i<m→∃ e sz n f,R i=.row e sz n f)
  (hi:∀ i,i<m→∃ o',own? st.own (Go.Bx.sw x y (5000+i))=some o'∧Bf (o'.ren (Go.Bx.sw x y)) (R i)) :
  Wk c st ⟨env,(K',.lit e' sz' n cs)::(A++It R m 0),N++nmI m⟩:=by
 simp only [V2,Bool.and_eq_true,List.all_eq_true,List.contains_iff_mem] at hB
 obtain ⟨h1,h2,h3,h4⟩:=hB
 have h2:=E1 h2
 simp only [keysO,List.map_cons,List.nodup_cons] at h2
 have hlt:∀ k,k∈N→k<5000:=λk hk=>by simpa using List.all_eq_true.1 hN k hk
 have hKN:K'∈N:=h4 _ (Do (List.mem_cons_self)).1
 have hAN:∀ k,k∈keysO A→k∈N:=λk hk=>by
  obtain ⟨o,ho⟩:=Ba hk
  exact h4 _ (Do (List.mem_cons_of_mem _ ho)).1
 have hin:∀ k,k∈keysO (It R m 0)→5000≤k∧k<5000+m:=λk hk=>by
  obtain ⟨o,ho⟩:=Ba hk
  obtain ⟨j,h,rfl,_⟩:=My ho
  omega
 refine Wk.rn x y fn hfn hx hy he (λk o hm=>?_) ?_ (λk hk=>?_) (λk hk=>List.mem_append_left _ (h1 k hk)) (λs v hm k hk=>List.mem_append_left _ (h3 k (Hg hm k hk))) (λk o hm j hj=>?_)
 ·rcases List.mem_cons.1 hm with hm|hm
  ·cases hm;exact hl
  ·rcases List.mem_append.1 hm with hm|hm
   ·exact hA.get k o hm
   ·obtain ⟨j,g1,rfl,rfl⟩:=My hm
    rw [Nat.zero_add]
    exact hi j g1
 ·simp only [keysO,List.map_cons,List.map_append,List.nodup_cons,List.mem_append,not_or]
  refine ⟨⟨h2.1,λhk=>?_⟩,List.nodup_append.2 ⟨h2.2,Sg,λa ha b hb hab=>?_⟩⟩
  ·have:=hlt _ hKN
   have:=hin _ hk
   omega
  ·have:=hlt _ (hAN a ha)
   have:=hin b hb
   omega
 ·simp only [keysO,List.map_cons,List.map_append,List.mem_cons,List.mem_append] at hk
  rcases hk with rfl|hk|hk
  ·exact List.mem_append_left _ hKN
  ·exact List.mem_append_left _ (hAN k hk)
  ·exact List.mem_append_right _ (D4.2 (hin k hk))
 ·rcases List.mem_cons.1 hm with hm|hm
  ·cases hm
   exact List.mem_append_right _ (D4.2 (hcs j hj))
  ·rcases List.mem_append.1 hm with hm|hm
   ·exact List.mem_append_left _ (h4 _ ((Do (List.mem_cons_of_mem _ hm)).2 j hj))
   ·obtain ⟨i,g1,rfl,rfl⟩:=My hm
    obtain ⟨e,sz,n,f,hr⟩:=hR (0+i) (by omega)
    rw [hr] at hj
    simp at hj
theorem Wk.env {c:B3} {st:St} {env:List (Nat×V)} (h:EnvLe st.env env):Wk c st ⟨env,st.own,st.nm⟩:=λβ _ _ H =>
 ⟨β,H.sz,H.df,λs=>EnvLe.get h s _ _ _ _ (H.env s),H.own,H.fr,H.kn,H.nm,H.kp,H.fx⟩
theorem Wk.deep {c:B3} {st:St} {K' e' z n:Nat} {cs:List V} {F:Nat→List D} (hl:own? st.own K'=some (.lit e' z n cs)) (hF:∀ i,i<n→(F i).length=z)
  (hc:∀ i j x,i<n→j<z→(F i)[j]?=some x→cs[i*z+j]?=some (.d x)∨∃ k e sz m f,k≠K'∧cs[i*z+j]?=some (.osl k)∧own? st.own k=some (.row e sz m f)∧x=.sl false sz m f) :
  Wk c st ⟨st.env,[(K',.row e' z n F)],st.nm⟩:=by
 intro β fr w H
 have hKK:=Ab (Ah hl)
 have hkeys:∀ k,k∈keysO [(K',Own.row e' z n F)]→k=K':=λk hk=>by simpa [keysO] using hk
 have hE:∀ x,Eo c.E0 β [(K',Own.row e' z n F)] x→Eo c.E0 β st.own x:=by
  rintro x (h|⟨k1,h1,h2⟩)
  ·exact .inl h
  ·rw [hkeys k1 h1] at h2;exact .inr ⟨K',hKK,h2⟩
 have hlast:B5 (Eo c.E0 β st.own) (Eo c.E0 β [(K',Own.row e' z n F)]) w w:=λx _ hx=>⟨λh=>hx (hE x h),rfl⟩
 refine ⟨β,H.sz,H.df,λs=>(H.env s).lasts' hlast (A6.le.refl β),⟨λk o hm=>?_,by simp [keysO],λk k' h1 h2 hne=>absurd ((hkeys k h1).trans (hkeys k' h2).symm) hne,λk h1=>by rw [hkeys k h1];exact H.own.lt K' hKK⟩,λk h1=>by rw [hkeys k h1];exact H.fr K' hKK,λk h1=>by rw [hkeys k h1];exact H.kn K' hKK,H.nm,H.kp,H.fx⟩
 simp only [List.mem_singleton,Prod.mk.injEq] at hm
 obtain ⟨rfl,rfl⟩:=hm
 obtain ⟨v,xs,g1,g2,g3,g4⟩:=Bb H hl
 refine ⟨v,xs,g1,g2,hF,λi j hi hj x hx=>?_⟩
 have hq:i*z+j<xs.length:=by
  have:(i+1)*z≤n*z:=Nat.mul_le_mul_right _ hi
  rw [Nat.succ_mul] at this
  rw [g2.1];omega
 refine ⟨xs[i*z+j],List.getElem?_eq_getElem hq,?_⟩
 rcases hc i j x hi hj hx with h|⟨k',e,sz,m,f,hne,h,hin,rfl⟩
 ·exact (J3 (g4 _ _ _ (List.getElem?_eq_getElem hq) h)).lasts hlast
 ·have hrel:=g4 _ _ _ (List.getElem?_eq_getElem hq) h
  generalize xs[i*z+j]=u at *
  obtain ⟨v1,ys,q1,q2,q3,q4⟩:=Bb H hin
  have hKi:=Ab (Ah hin)
  cases hrel with
  |osl _ _ q5 q6 =>
   rw [q1] at q5
   cases q5
   rcases q2.2 with ⟨⟨A,rfl⟩,h0⟩|⟨gb,cap,cur,rfl,hc0,hh,hnc,hcm,hcs,htk⟩
   ·rw [h0];exact .nil _ _ _ _
   ·have hlt:∀ i' j',i'<m→j'<sz→i'*sz+j'<m*sz:=λi' j' hi2 hj2=>by
     have:(i'+1)*sz≤m*sz:=Nat.mul_le_mul_right _ hi2
     rw [Nat.add_mul] at this;omega
    have hmc:m*sz≤cap*sz:=Nat.mul_le_mul_right _ hnc
    refine .sl _ _ _ _ gb 0 cap (λi j=>cur.getD (i*sz+j) undef) hnc (λh=>by cases h) q3 (λi' j' hi2 hj2=>⟨?_,?_⟩) (λi' j' hi2 hj2 x hx=>?_)
    ·rintro (h|⟨k1,h1,h2⟩)
     ·exact (H.own.lt _ hKi gb (by simp [A6.blk,q1,B0];omega)).2 h
     ·rw [hkeys k1 h1] at h2
      exact H.own.apart _ k' hKK hKi (Ne.symm hne) gb h2 (by simp [A6.blk,q1,B0];omega)
    ·have hlt2:i'*sz+j'<cur.size:=by have:=hlt i' j' hi2 hj2;omega
     rw [Nat.zero_add,cell_of_row w gb _ cur e (0,0) hh]
     simp [hlt2]
    ·obtain ⟨u,p1,p2⟩:=q4 i' j' hi2 hj2 x hx
     have:cur[i'*sz+j']?=some u:=by
      rw [←p1,←htk,List.getElem?_take,if_pos (hlt i' j' hi2 hj2)];simp
     simp only [Array.getD_eq_getD_getElem?,this,Option.getD_some]
     exact p2.lasts hlast
def Xc (w i:Nat):List V:=(List.range w).map λj=>.osl (5000+(w*i+j))
def Fy (w:Nat):Nat→List (List D)→List V
 |_,[]=>[]
 |i,x::r=>x.map .d++(Xc w i++Fy w (i+1) r)
theorem Ou {w:Nat}:∀ {i:Nat} {L:List (List D)},(∀ x,x∈L→x.length=6)→(Fy w i L).length=L.length*(6+w)
 |_,[],_=>by simp [Fy]
 |i,x::r,h=>by
  have:=Ou (w:=w) (i:=i+1) (L:=r) λy hy=>h y (by simp [hy])
  have h2:=h x (by simp)
  simp only [Fy,Xc,List.length_append,List.length_map,List.length_range,this,h2,List.length_cons,Nat.succ_mul];omega
theorem Uq {w:Nat}:∀ {i:Nat} {L M:List (List D)},Fy w i (L++M)=Fy w i L++Fy w (i+L.length) M
 |i,[],M=>by simp [Fy]
 |i,x::r,M=>by
  rw [List.cons_append,Fy,Fy,Uq,List.length_cons,show i+1+r.length=i+(r.length+1) by omega,List.append_assoc,List.append_assoc]
theorem Iy {w:Nat}:∀ {i:Nat} {L:List (List D)} {k:Nat} {x:List D} {j:Nat},(∀ x,x∈L→x.length=6)→L[k]?=some x→j<6+w→(Fy w i L)[k*(6+w)+j]?=if j<6 then x[j]?.map .d else some (.osl (5000+(w*(i+k)+(j-6))))
 |_,[],_,_,_,_,h,_=>by simp at h
 |i,y::r,0,x,j,hl,h,hj=>by
  simp at h;subst h
  have h2:=hl y (by simp)
  simp only [Fy,Nat.zero_mul,Nat.zero_add]
  by_cases h6:j<6
  ·rw [if_pos h6,List.getElem?_append_left (by simp [h2];omega),List.getElem?_map]
  ·rw [if_neg h6,List.getElem?_append_right (by simp [h2];omega),List.getElem?_append_left (by simp [Xc,h2];omega),Xc,List.getElem?_map,List.length_map,h2,List.getElem?_range (by omega)]
   rfl
 |i,y::r,k+1,x,j,hl,h,hj=>by
  have h2:=hl y (by simp)
  have ih:=Iy (w:=w) (i:=i+1) (L:=r) (k:=k) (x:=x) (j:=j) (λz hz=>hl z (by simp [hz])) (by simpa using h) hj
  rw [Fy,List.getElem?_append_right (by simp [h2,Nat.succ_mul];omega),List.getElem?_append_right (by simp [h2,Xc,Nat.succ_mul];omega)]
  rw [show (k+1)*(6+w)+j-(y.map V.d).length-(Xc w i).length=k*(6+w)+j by simp [h2,Xc,Nat.succ_mul];omega,ih,show i+1+k=i+(k+1) by omega]
theorem Em {w:Nat}:∀ {i:Nat} {L:List (List D)} {k:Nat},k∈A5 (Fy w i L)→5000+w*i≤k∧k<5000+w*(i+L.length)
 |_,[],_,h=>by simp [Fy,A5] at h
 |i,x::r,k,h=>by
  have happ:∀ a b:List V,A5 (a++b)=A5 a++A5 b:=λa b=>by
   induction a with
   |nil=>rfl
   |cons v a ih=>simp [A5,ih]
  have h0:∀ x:List D,A5 (x.map V.d)=[]:=λx=>by
   induction x with
   |nil=>rfl
   |cons a x ih=>simp [A5,V.names,ih]
  have h1:∀ l:List Nat,A5 (l.map V.osl)=l:=λl=>by
   induction l with
   |nil=>rfl
   |cons a l ih=>simp [A5,V.names,ih]
  have h2:A5 (Xc w i)=(List.range w).map λj=>5000+(w*i+j):=by
   have:=h1 ((List.range w).map λj=>5000+(w*i+j))
   rwa [List.map_map] at this
  have e1:w*(i+1)=w*i+w:=Nat.mul_succ w i
  have e2:w*(i+(r.length+1))=w*i+w*r.length+w:=by rw [Nat.mul_add,Nat.mul_succ];omega
  have e3:w*(i+1+r.length)=w*i+w+w*r.length:=by rw [Nat.mul_add,Nat.mul_succ]
  rw [Fy,happ,happ,h0 x,h2,List.nil_append,List.mem_append] at h
  rw [List.length_cons]
  rcases h with h|h
  ·obtain ⟨j,hj,rfl⟩:=List.mem_map.1 h
   have:=List.mem_range.1 hj
   omega
  ·have:=Em h
   omega
end Go.Bx
end
section
namespace Go.Proofs.YtakohhkgeeoniaaGreat
open Go.Bx
set_option maxRecDepth 10000
structure Gr where
 po:Int
 cv:Cv
 at':List Int
instance:Inhabited Gr:=⟨⟨0,Od,[]⟩⟩
def Dz (g:Gr):List D:=[.int .i64 g.po,.int .i64 g.cv.pe,.int .i64 g.cv.li,.int .i64 g.cv.ag,.int .i64 g.cv.de,.int .i64 g.cv.sh]
def V4 (p:Int) (c:Cv) (g:Gr):Bool:=(g.po == p)&&Yf g.cv c
def Lv (p:Int) (c:Cv) (k:Int):List Gr→List Gr
 |[]=>[⟨p,c,[k]⟩]
 |g::r=>if V4 p c g=true then { g with at':=g.at'++[k] }::r else g::Lv p c k r
theorem Hy {p:Int} {c:Cv} {k:Int}:∀ {G:List Gr},(∀ g,g∈G→V4 p c g=false)→Lv p c k G=G++[⟨p,c,[k]⟩]
 |[],_=>rfl
 |g::r,h=>by rw [Lv,if_neg (by rw [h g (by simp)];simp),Hy λx hx=>h x (by simp [hx])];rfl
theorem Km {p:Int} {c:Cv} {k:Int} {g:Gr} {B:List Gr} (hg:V4 p c g=true):∀ {A:List Gr},(∀ g,g∈A→V4 p c g=false)→Lv p c k (A++g::B)=A++{ g with at':=g.at'++[k] }::B
 |[],_=>by rw [List.nil_append,Lv,if_pos hg];rfl
 |x::A,h=>by rw [List.cons_append,Lv,if_neg (by rw [h x (by simp)];simp),Km hg λx hx=>h x (by simp [hx])];rfl
section
variable {c:B3} {st:St} {b:Bool} {is:List I} {acc:List Lg} {K:List Lg→St→Prop} {P:Program} {d:Option Nat} {f:Nat} {xs:List X} {ins:List (Nat×Go.Bx.Own)} {res:V}
theorem tK (hP:c.P=P) (hS:Aj P f (evVs st xs) ins res ins []) (hin:∀ p,p∈ins→own? st.own p.1=some p.2) (h:El c b is (st.stp d { val:=res,upd:=[],rd:=keysO ins,new:=[] }) (lgs b acc ⟨keysO ins,[]⟩) K)
  (hno:(keysO ins).Nodup:=by simp [keysO]) (hs:evSs true st xs:=by repeat' first|exact trivial|(intro _;assumption)|apply And.intro):TR c b (⟨d,none,.call f xs⟩::is) st acc K:=
 TR.keep _ _ (Lx (Ix (hP▸hS) hs (λk o hm=>hin (k,o) hm) hno) (λk o hm=>hin (k,o) hm) (λ_ h=>h) hno) h
theorem tKv (hP:c.P=P) {x:X} {first cap:List V} (hx:evV st x=.fn (.func f) first cap) (hS:Aj P f (first++(evVs st xs++cap)) ins res ins []) (hin:∀ p,p∈ins→own? st.own p.1=some p.2) (h:El c b is (st.stp d { val:=res,upd:=[],rd:=keysO ins,new:=[] }) (lgs b acc ⟨keysO ins,[]⟩) K)
  (hno:(keysO ins).Nodup:=by simp [keysO]) (hsx:evS true st x:=by exact trivial) (hs:evSs true st xs:=by repeat' first|exact trivial|(intro _;assumption)|apply And.intro):TR c b (⟨d,none,.callv x xs⟩::is) st acc K:=
 TR.keep _ _ (Lx (Fq hx (hP▸hS) hsx hs (λk o hm=>hin (k,o) hm) hno) (λk o hm=>hin (k,o) hm) (λ_ h=>h) hno) h
end
theorem sGr1 (g:Gr) (f:Fi) (c':Cv) (q:Nat) (hq:5000≤q):Aj Tryz.prog 38 [.ag ((Dz g).map .d++[.osl q]),.own 6 0,.own 9 0] [(6,.fix (Gk f)),(9,.fix (Jb c'))] (.d (.bool (V4 f.cl.po c' g))) [(6,.fix (Gk f)),(9,.fix (Jb c'))] []:=by
 have h3:(3=q)=False:=eq_false (by omega)
 refine qO Tryz.func38 (hB:=by simp [P9,keysO,Hh,A4,A5,V.names,Gk,Jb]) ?_
 intro c hP hfn
 simp only [Dz,Gk,Jb,List.map,A5,V.names,A4,h3,A0,↓A3,seval]
 repeat' first|refine ⟨λh=>?_,λh=>?_⟩|refine aX ?_|fail
 refine rK (Wk.refl _ _) ?_ (h2:=by simp only [B8,A7,A0,↓A3,seval];rfl)
 simp only [A7,A0,↓A3,seval]
theorem yn (G:List Gr) (cs:List V) (f:Fi) (c':Cv) (hr:∀ k g,G[k]?=some g→∃ q,5000≤q∧takeV (dropV cs (k*7)) 7=(Dz g).map .d++[.osl q]) (hl:G.length≤1000000) :
  Aj Tryz.prog 37 [.osl 1000,.fn (.func 38) [] [.own 6 0,.own 9 0]] [(1000,.lit 86 7 G.length cs),(6,.fix (Gk f)),(9,.fix (Jb c'))] (.d (.int .i64 (Ji (V4 f.cl.po c') G 0))) [(1000,.lit 86 7 G.length cs),(6,.fix (Gk f)),(9,.fix (Jb c'))] []:=by
 refine qO Tryz.func37 (hB:=by simp [P9,keysO,Hh,A4,A5,V.names,Gk,Jb];intro x h;simp [h]) ?_
 intro c hP hfn
 generalize A5 [V.osl 1000,.fn (.func 38) [] [.own 6 0,.own 9 0]]++A4 [(1000,.lit 86 7 G.length cs),(6,.fix (Gk f)),(9,.fix (Jb c'))]=N at *
 simp only [A0,↓A3,seval]
 refine B4.loop (X:=Nat) (λk=>⟨[(0,.osl 1000),(1,.fn (.func 38) [] [.own 6 0,.own 9 0]),(7,.d (.int .i64 G.length)),(8,.d (.int .i64 (k:Nat)))],[(1000,.lit 86 7 G.length cs),(6,.fix (Gk f)),(9,.fix (Jb c'))],N⟩)
  (λk=>k≤G.length∧Ji (V4 f.cl.po c') G 0=Ji (V4 f.cl.po c') (G.drop k) k) (λk=>G.length-k) 0 ⟨Nat.zero_le _,rfl⟩ (Wk.env (by simp only [A7,A0,↓A3,seval])) ?_
 rintro k ⟨hk,he⟩
 by_cases hlt:k<G.length
 ·obtain ⟨g,hd,-,hm,hat⟩:=Ae hlt
  obtain ⟨q,hq,ht⟩:=hr k g hat
  have d0:decide ((k:Int)<(G.length:Int))=true:=decide_eq_true (by omega)
  have w1:IntKind.i64.wrap ((k:Int)+1)=((k+1:Nat):Int):=wS (by omega)
  have b1:(0:Int)≤(k:Int)∧(k:Int)<(G.length:Int):=by omega
  have cg:=sGr1 g f c' q hq
  rw [hd,Ji] at he
  rw [←ht] at cg
  simp only [d0,A0,↓A3,seval]
  repeat' first|refine ⟨λh=>?_,λh=>?_⟩|refine aX ?_|fail
  refine tKv hP rfl cg (by simp [own?]) ?_
  simp only [A0,↓A3,seval]
  repeat' first|refine ⟨λh=>?_,λh=>?_⟩|refine aX ?_|fail
  ·rw [if_pos h] at he
   rw [he]
   exact rK (Wk.refl _ _) (by simp only [A7,A0,↓A3,seval])
  ·rw [if_neg (by rw [h];simp)] at he
   exact Al.on (k+1) ⟨hlt,he⟩ (by omega) (Wk.env (by simp only [w1,A7,A0,↓A3,seval]))
 ·obtain rfl:k=G.length:=by omega
  have d0:decide ((G.length:Int)<(G.length:Int))=false:=decide_eq_false (by omega)
  rw [List.drop_length,Ji] at he
  rw [he]
  simp only [d0,A0,↓A3,seval]
  repeat' first|refine ⟨λh=>?_,λh=>?_⟩|refine aX ?_|fail
  exact rK (Wk.refl _ _) (by simp only [A7,A0,↓A3,seval])
end Go.Proofs.YtakohhkgeeoniaaGreat
end
section
namespace Go.Bx
theorem Uy {w:Nat}:∀ {i:Nat} {L:List (List D)} {k:Nat} {x:List D},(∀ x,x∈L→x.length=6)→L[k]?=some x→takeV (dropV (Fy w i L) (k*(6+w))) (6+w)=x.map .d++Xc w (i+k)
 |_,[],_,_,_,h=>by simp at h
 |i,y::r,0,x,hl,h=>by
  simp at h;subst h
  have h2:=hl y (by simp)
  rw [Gq,Gp,Fy,Nat.zero_mul,List.drop_zero,←List.append_assoc,List.take_left' (by simp [Xc,h2])]
  rfl
 |i,y::r,k+1,x,hl,h=>by
  have h2:=hl y (by simp)
  have ih:=Uy (w:=w) (i:=i+1) (L:=r) (k:=k) (x:=x) (λz hz=>hl z (by simp [hz])) (by simpa using h)
  rw [Gq,Gp] at ih ⊢
  rw [Fy,←List.append_assoc,List.drop_append,List.drop_of_length_le (by simp [Xc,h2,Nat.succ_mul]),List.nil_append]
  rw [show (k+1)*(6+w)-(y.map V.d++Xc w i).length=k*(6+w) by simp [Xc,h2,Nat.succ_mul],ih,show i+1+k=i+(k+1) by omega]
theorem Up:∀ (a b:List V) (k:Nat),nth (a++b) (a.length+k)=nth b k
 |[],b,k=>by rw [List.nil_append,List.length_nil,Nat.zero_add]
 |x::a,b,k=>by rw [List.length_cons,show a.length+1+k=a.length+k+1 by omega,List.cons_append,nth,Up a b k]
theorem oh:∀ (l:List V) (n:Nat),putV l n []=l
 |[],_=>rfl
 |_::_,_=>rfl
theorem Pu:∀ (a b:List V) (y:V) (ys:List V) (k:Nat),putV (a++b) (a.length+k) (y::ys)=a++putV b k (y::ys)
 |[],b,y,ys,k=>by rw [List.nil_append,List.length_nil,Nat.zero_add,List.nil_append]
 |x::a,b,y,ys,k=>by
  rw [List.length_cons,show a.length+1+k=a.length+k+1 by omega,List.cons_append]
  simp only [putV]
  rw [Pu a b y ys k,List.cons_append]
theorem az {w:Nat}:∀ {i:Nat} {L:List (List D)} {v:V},v∈Fy w i L→(∃ x,v=.d x)∨∃ k,v=.osl k∧k∈A5 (Fy w i L)
 |_,[],_,h=>by simp [Fy] at h
 |i,x::r,v,h=>by
  have hn:∀ {l:List V} {k:Nat},V.osl k∈l→k∈A5 l:=λ{l k} hm=>by
   obtain ⟨j,hj,e⟩:=List.getElem_of_mem hm
   exact Bz (List.getElem?_eq_some_iff.2 ⟨hj,e⟩) k (by simp [V.names])
  have h0:=h
  rw [Fy,List.mem_append,List.mem_append] at h
  rcases h with h|h|h
  ·obtain ⟨a,-,rfl⟩:=List.mem_map.1 h
   exact .inl ⟨a,rfl⟩
  ·obtain ⟨j,-,rfl⟩:=List.mem_map.1 h
   exact .inr ⟨_,rfl,hn h0⟩
  ·rcases az h with h|⟨k,rfl,_⟩
   ·exact .inl h
   ·exact .inr ⟨k,rfl,hn h0⟩
theorem Ii {w i a b:Nat} {L:List (List D)} (h:∀ k,k∈A5 (Fy w i L)→sw a b k=k):renL (sw a b) (Fy w i L)=Fy w i L:=by
 rw [Cq]
 refine (List.map_congr_left λv hv=>?_).trans (List.map_id _)
 rcases az hv with ⟨x,rfl⟩|⟨k,rfl,hk⟩
 ·rfl
 ·simp only [V.ren,h k hk];rfl
theorem Vi (p:Nat→Nat) (a b:List V):renL p (a++b)=renL p a++renL p b:=by rw [Cq,Cq,Cq,List.map_append]
theorem Cc {a b k:Nat} (h1:k≠a) (h2:k≠b):sw a b k=k:=by unfold sw;rw [if_neg h1,if_neg h2]
theorem dm {a b:Nat}:sw a b b=a:=by unfold sw;split<;>simp_all
theorem Pj {w k j d:Nat} {L:List (List D)} (hw:w=1∨w=2) (hL:∀ x,x∈L→x.length=6) (hk:k<L.length) (hj:6≤j∧j<6+w) (hd:d<5000) :
  renL (sw d (5000+(w*k+(j-6)))) (putV (Fy w 0 L) (k*(6+w)+j) [.osl d])=Fy w 0 L:=by
 rw [Cq]
 apply List.ext_getElem?
 intro q
 have hlen:=Ou (w:=w) (i:=0) hL
 rw [List.getElem?_map,Fm]
 have hkz:(k+1)*(6+w)≤L.length*(6+w):=Nat.mul_le_mul_right _ hk
 rw [Nat.succ_mul] at hkz
 by_cases hq:q=k*(6+w)+j
 ·subst hq
  rw [if_pos ⟨Nat.le_refl _,by simp,by omega⟩,Nat.sub_self,Iy hL (List.getElem?_eq_getElem hk) hj.2,if_neg (by omega),Nat.zero_add]
  simp [V.ren,sw]
 ·rw [if_neg (by simp;omega)]
  by_cases hql:q<L.length*(6+w)
  ·have hz:0<6+w:=by omega
   have hm:=Nat.mod_lt q hz
   have hdv:q / (6+w)<L.length:=Nat.div_lt_of_lt_mul (by rw [Nat.mul_comm];exact hql)
   have hg:=Iy (w:=w) (i:=0) hL (List.getElem?_eq_getElem hdv) hm
   rw [Nat.div_add_mod',Nat.zero_add] at hg
   rw [hg]
   by_cases h6:q % (6+w)<6
   ·rw [if_pos h6]
    cases L[q / (6+w)][q % (6+w)]?<;>simp [V.ren]
   ·rw [if_neg h6]
    simp only [Option.map_some,V.ren]
    rw [Cc (by omega) (by rcases hw with rfl|rfl<;>omega)]
  ·rw [List.getElem?_eq_none (by omega)];rfl
end Go.Bx
namespace Go.Proofs.YtakohhkgeeoniaaGreat
open Go.Bx
set_option maxRecDepth 10000
def Rt (s:Se) (f:Fi):Cv×Int:=Q4 ((Ek s f.cl.po).getD dn).hi s.tv (Xl f.cl)
def Xa (s:Se):Nat→List Fi→List Gr→List Gr×Int
 |_,[],G=>(G,0)
 |k,f::r,G=>if (Rt s f).2≠0 then ([],(Rt s f).2) else Xa s (k+1) r (Lv f.cl.po (Rt s f).1 (k:Int) G)
def Yw (G:List Gr) (i:Nat):Go.Bx.Own:=.row 3 1 (G.getD i default).at'.length (λq=>[.int .i64 ((G.getD i default).at'.getD q 0)])
theorem ak {G:List Gr} {g:Gr} {i:Nat}:Yw (G++[g]) i=if i<G.length then Yw G i else if i=G.length then .row 3 1 g.at'.length (λq=>[.int .i64 (g.at'.getD q 0)]) else Yw [] 0:=by
 have e:(G++[g]).getD i default=if i<G.length then G.getD i default else if i=G.length then g else default:=by
  simp only [List.getD_eq_getElem?_getD]
  by_cases h:i<G.length
  ·rw [if_pos h,List.getElem?_append_left h]
  ·rw [if_neg h,List.getElem?_append_right (by omega)]
   by_cases h2:i=G.length
   ·subst h2;simp
   ·rw [if_neg h2,List.getElem?_eq_none (by simp;omega)];rfl
 rw [Yw,e]
 split
 ·rfl
 ·split<;>rfl
theorem ab {A B:List Gr} {g:Gr}:Yw (A++g::B) A.length=.row 3 1 g.at'.length (λq=>[.int .i64 (g.at'.getD q 0)]):=by
 rw [Yw,Gu default]
theorem rGr_ne {A B:List Gr} {g g':Gr} {i:Nat} (h:i≠A.length):Yw (A++g'::B) i=Yw (A++g::B) i:=by
 have e:(A++g'::B).getD i default=(A++g::B).getD i default:=by
  simp only [List.getD_eq_getElem?_getD]
  by_cases h1:i<A.length
  ·rw [List.getElem?_append_left h1,List.getElem?_append_left h1]
  ·rw [List.getElem?_append_right (by omega),List.getElem?_append_right (by omega)]
   obtain ⟨j,hj⟩:∃ j,i-A.length=j+1:=⟨i-A.length-1,by omega⟩
   rw [hj];rfl
 rw [Yw,Yw,e]
theorem C4 {R:Nat→Go.Bx.Own} {m k:Nat} (h:k<5000):own? (It R m 0) k=none:=by rw [Bg,if_neg (by omega)]
def La (G:List Gr):D:=.sl false 7 G.length (λi=>Dz (G.getD i default)++[slK .i64 (G.getD i default).at'])
theorem G4 {a i:Nat} (h:a<5000):(a=5000+i)=False:=eq_false (by omega)
theorem G3 {a i:Nat} (h:a<5000):(5000+i=a)=False:=eq_false (by omega)
theorem Ev {G:List Gr}:∀ x,x∈G.map Dz→x.length=6:=λx hx=>by obtain ⟨g,-,rfl⟩:=List.mem_map.1 hx;rfl
def gS (s:Se) (F:D) (n:Nat) (k:Nat) (G:List Gr):St:=
 ⟨[(1,.own 1 0),(4,.osl 1000),(13,.d F),(14,.d (.int .i64 n)),(15,.d (.int .i64 (k:Nat)))],(1000,.lit 86 7 G.length (Fy 1 0 (G.map Dz)))::([(1,.fix (D1 s))]++It (Yw G) G.length 0),[1000,1]++nmI G.length⟩
theorem tg (t:List Vs) (n:Nat) (s:Se) (hs:Bd t n s) (hn:n≤900) (ht:t.length≤1000000) (hz:∀ v,v∈t→Qo v) :
    Aj Tryz.prog 17 [Dv s] [] (.tup [.d (La (Xa s 0 s.fi []).1),.d (.int .i64 (Xa s 0 s.fi []).2)]) [] []:=by
  have hl:=hs.fi.1
  have hml:(s.fi.map Cz).length=s.fi.length:=List.length_map _
  obtain ⟨F,hF⟩:∃ F,F=Bw 7 (s.fi.map Cz):=⟨_,rfl⟩
  obtain ⟨R,hR⟩:∃ R,R=Xa s 0 s.fi []:=⟨_,rfl⟩
  rw [←hR]
  refine qP Tryz.func17 λc hP hfn=>?_;simp only [Dv,D1,Bw,hml,A0,↓A3,seval]
  refine B4.loop (X:=Nat×List Gr) (λx=>gS s F s.fi.length x.1 x.2)
    (λx=>x.1≤s.fi.length∧x.2.length≤x.1∧(∀ g,g∈x.2→g.at'.length≤x.1)∧R=Xa s x.1 (s.fi.drop x.1) x.2) (λx=>s.fi.length-x.1) (0,[]) ⟨Nat.zero_le _,Nat.le_refl _,λg h=>by simp at h,hR⟩
    ((Wk.row0 (s:=4) (k:=1000) (e:=86) (sz:=7) (f':=λ_=>[]) rfl rfl (by simp)).trans (Wk.of (b:=gS s F s.fi.length 0 []) _ hfn rfl (by simp only [gS,hF,Bw,hml,A7,A0,↓A3,seval]) (by simp only [gS,D1,Bw,hml,Fy,It,List.map_nil,A7,A0,↓A3,seval];exact Bf.rowLit rfl))) ?_
  rintro ⟨k,G⟩ ⟨hk,hG,hA,he⟩
  simp only at hk hG hA he
  by_cases hlt:k<s.fi.length
  · obtain ⟨f,hd,-,hm,hat⟩:=Ae hlt
    have hg:=Jw Cz hat
    have d0:decide ((k:Int)<(s.fi.length:Int))=true:=decide_eq_true (by omega)
    have w1:IntKind.i64.wrap ((k:Int)+1)=((k+1:Nat):Int):=wS (by omega)
    have b1:(0:Int)≤(k:Int)∧(k:Int)<(s.fi.length:Int):=by omega
    have cc:=N7 s f.cl.po (by have:=hs.ao.1;omega)
    have cv:=sCov ht hz (hs.acc hn f.cl.po) f.cl
    rw [←hs.tv] at cv
    rw [hd,Xa] at he
    have hcs:Rt s f=Q4 ((Ek s f.cl.po).getD dn).hi s.tv (Xl f.cl):=rfl
    rw [←hcs] at cv
    clear hcs
    generalize Rt s f=C at cv he
    obtain ⟨C,e⟩:=C
    simp only at cv he
    generalize (Ek s f.cl.po).getD dn=a at *
    generalize (Ek s f.cl.po).isSome=b2 at *
    simp only [Dv,D1,Bw,hml,Ky,List.map,Ar,Bv,Bn] at cc
    simp only [Da,Dd,ia,qh,Ar,Bv,Bn,C5,De,Br,Jb] at cv
    by_cases h0:e=0
    · subst h0
      have n0:((0:Int) != 0)=false:=rfl
      rw [if_neg (by simp)] at he
      have ci:=yn G (Fy 1 0 (G.map Dz)) f C (λi g h=>⟨_,by omega,Uy Ev (by rw [List.getElem?_map,h];rfl)⟩) (by omega)
      simp only [Gk,Dr,Jb] at ci
      rcases Ib (V4 f.cl.po C) G with h1|⟨A,g,B,rfl,h1,h2⟩
      · have hcl:(Fy 1 0 (G.map Dz)).length=G.length*7:=by rw [Ou Ev,List.length_map]
        have hnth:∀ xs,nth (Fy 1 0 (G.map Dz)++xs) (G.length*7+6)=nth xs 6:=λxs=>by rw [←hcl];exact Up _ _ _
        have hput:∀ xs y,putV (Fy 1 0 (G.map Dz)++xs) (G.length*7+6) [y]=Fy 1 0 (G.map Dz)++putV xs 6 [y]:=λxs y=>by rw [←hcl];exact Pu _ _ _ _ _
        rw [N3 _ _ _ h1] at ci
        rw [Hy h1] at he
        simp only [gS,D1,hF,Bw,hml,hg,Cz,Dr,Ar,Bv,Bn,C5,De,Br,d0,D4,Bg,Af,Bh,A0,↓A3,seval]
        repeat' first|(refine tq hP (h:=⟨_,λ_=>by first|exact cc|exact cv,?_⟩);try simp only [d0,n0,hg,Cz,Dr,Ar,Bv,Bn,C5,De,Br,D4,Bg,Af,Bh,A0,↓A3,seval])|refine ⟨λh=>?_,λh=>?_⟩|refine aX ?_|fail
        refine tK hP ci ?_ ?_
        · simp only [List.mem_cons,List.not_mem_nil,or_false,forall_eq_or_imp,forall_eq]
          simp only [Bg,Af,Bh,A0,↓A3,seval]
        simp only [hnth,hput,D4,Bg,Af,Bh,A0,↓A3,seval]
        repeat' first|refine ⟨λh=>?_,λh=>?_⟩|refine aX ?_|fail
        have hr:∀ i,i<G.length→(if i<G.length then some (Yw G i) else none)=some (Yw G i):=λi hi=>if_pos hi
        refine Al.on (k+1,G++[(⟨f.cl.po,C,[(k:Int)]⟩:Gr)]) ⟨hlt,by simp;omega,λg hg=>?_,he⟩ (by simp only;omega) ((Wk.sw 65 (5000+G.length) _ hfn (by simp) (by simp)).trans (Wk.inn 55 1000 _ hfn (by simp) (by simp) (A:=[(1,.fix _)]) (N:=[1000,1]) rfl rfl ?_ ?_ ?_ ?_ ?_ ?_))
        · rcases List.mem_append.1 hg with hg|hg
          · exact Nat.le_succ_of_le (hA g hg)
          · rw [List.mem_singleton.1 hg];simp
        · simp only [gS,hF,Bw,hml,w1,G4,G3,A7,A0,↓A3,seval]
        · refine ⟨⟨_,by rw [show Go.Bx.sw 55 1000 1=1 from rfl,Bi,Cc (by decide) (by omega)];simp only [Af,Bg,A7,A0,↓A3,seval];rfl,?_⟩,trivial⟩
          simp only [Own.ren,A7,A0,↓A3,seval]
        · refine ⟨_,by rw [show Go.Bx.sw 55 1000 1000=55 from rfl,Bi,Cc (by decide) (by omega)];simp only [Af,Bg,A7,A0,↓A3,seval];rfl,?_⟩
          have h3:=Ii (w:=1) (i:=0) (a:=65) (b:=5000+G.length) (L:=G.map Dz) (λq hq=>by have:=Em hq;rw [List.length_map] at this;exact Cc (by omega) (by omega))
          have h4:=Ii (w:=1) (i:=0) (a:=55) (b:=1000) (L:=G.map Dz) (λq hq=>by have:=Em hq;exact Cc (by omega) (by omega))
          simp only [Own.ren,Vi,h3,h4,List.map_append,List.length_append,Uq,List.length_map]
          have h6:Go.Bx.sw 55 1000 (Go.Bx.sw 65 (5000+G.length) 65)=5000+G.length:=by rw [show Go.Bx.sw 65 (5000+G.length) 65=5000+G.length from if_pos rfl];exact Cc (by omega) (by omega)
          exact Bf.eq (by simp [Fy,Xc,Dz,renL,V.ren,h6,List.range_succ])
        · intro q hq
          have:=Em hq
          rw [List.length_map] at this
          omega
        · exact λi _=>⟨_,_,_,_,rfl⟩
        · intro i hi
          rw [List.length_append,List.length_singleton] at hi
          have h5:Go.Bx.sw 55 1000 (5000+i)=5000+i:=Cc (by omega) (by omega)
          by_cases e:i=G.length
          · subst e
            refine ⟨_,by rw [h5,Bi,dm];simp only [Af,Bg,A7,A0,↓A3,seval];rfl,?_⟩
            rw [ak,if_neg (Nat.lt_irrefl _)]
            simp only [Own.ren]
            exact Bf.row rfl λq hq=>by
              obtain rfl:q=0:=by omega
              rfl
          · refine ⟨_,by rw [h5,Bi,Cc (by omega) (by omega)];simp only [Af,Bg,G4,G3,A7,A0,↓A3,seval];rw [if_pos (by omega)];rfl,?_⟩
            rw [ak,if_pos (by omega),Nat.add_sub_cancel_left]
            exact Bf.refl _
      · rw [Ni _ _ _ _ _ h1 h2,Nat.zero_add] at ci
        rw [Km h2 h1] at he
        have d1:decide ((A.length:Int)<0)=false:=decide_eq_false (by omega)
        obtain ⟨L,hL⟩:∃ L,L=(A++g::B).length:=⟨_,rfl⟩
        have hj:A.length<L:=by rw [hL];simp
        have hnth:nth (Fy 1 0 ((A++g::B).map Dz)) (A.length*7+6)=.osl (5000+A.length):=by
          have:=Iy (w:=1) (i:=0) (L:=(A++g::B).map Dz) (k:=A.length) (x:=Dz g) (j:=6) Ev (by rw [List.getElem?_map];simp) (by decide)
          rw [if_neg (by decide)] at this
          rw [E8 this];congr 1;omega
        have hrow:own? (It (Yw (A++g::B)) L 0) (5000+A.length)=some (.row 3 1 g.at'.length (λq=>[.int .i64 (g.at'.getD q 0)])):=by
          rw [Bg,if_pos (by omega),Nat.add_sub_cancel_left,ab]
        have hgl:=hA g (by simp)
        rw [←hL] at ci hG
        simp only [gS,D1,hF,Bw,hml,hg,Cz,Dr,Ar,Bv,Bn,C5,De,Br,d0,←hL,D4,C4,Af,Bh,A0,↓A3,seval]
        repeat' first|(refine tq hP (h:=⟨_,λ_=>by first|exact cc|exact cv,?_⟩);try simp only [d0,n0,hg,Cz,Dr,Ar,Bv,Bn,C5,De,Br,D4,C4,Af,Bh,A0,↓A3,seval])|refine ⟨λh=>?_,λh=>?_⟩|refine aX ?_|fail
        refine tK hP ci ?_ ?_
        · simp only [List.mem_cons,List.not_mem_nil,or_false,forall_eq_or_imp,forall_eq]
          simp only [C4,Af,Bh,A0,↓A3,seval]
        simp only [d1,hnth,hrow,G4,G3,D4,C4,Af,Bh,A0,↓A3,seval]
        repeat' first|refine ⟨λh=>?_,λh=>?_⟩|refine aX ?_|fail
        have hL':(A++{ g with at':=g.at'++[(k:Int)] }::B).length=L:=by rw [hL];simp
        refine Al.on (k+1,A++{ g with at':=g.at'++[(k:Int)] }::B) ⟨hlt,by simp only;omega,λx hx=>?_,he⟩ (by simp only;omega) ?_
        · rcases List.mem_append.1 hx with hx|hx
          · exact Nat.le_succ_of_le (hA x (by simp [hx]))
          · rcases List.mem_cons.1 hx with rfl|hx
            · simp only [List.length_append,List.length_singleton];omega
            · exact Nat.le_succ_of_le (hA x (by simp [hx]))
        simp only [hL']
        have h5:∀ i,i<5000→i≠65→Go.Bx.sw 65 (5000+A.length) i=i:=λi h1 h2=>Cc h2 (by omega)
        refine Wk.inn 65 (5000+A.length) _ hfn (by simp) (by simp) (A:=[(1,.fix _)]) (N:=[1000,1]) rfl rfl ?_ ?_ ?_ ?_ (λi _=>⟨_,_,_,_,rfl⟩) ?_
        · simp only [Bw,hml,w1,h5,G4,G3,A7,A0,↓A3,seval]
        · refine ⟨⟨_,by rw [h5 1 (by decide) (by decide)];simp only [Af,C4,A7,A0,↓A3,seval];rfl,?_⟩,trivial⟩
          simp only [Own.ren,A7,A0,↓A3,seval]
        · refine ⟨_,by rw [h5 1000 (by decide) (by decide)];simp only [Af,C4,A7,A0,↓A3,seval];rfl,?_⟩
          have h6:=Pj (w:=1) (k:=A.length) (j:=6) (d:=65) (L:=(A++g::B).map Dz) (.inl rfl) Ev (by simp) (by decide) (by decide)
          rw [show 5000+(1*A.length+(6-6))=5000+A.length by omega] at h6
          simp only [Own.ren,h6]
          exact Bf.eq (by congr 2;simp [Dz])
        · intro q hq
          have:=Em hq
          rw [List.length_map,hL'] at this
          omega
        · intro i hi
          by_cases e:i=A.length
          · subst e
            refine ⟨_,by rw [dm];simp only [Af,C4,A7,A0,↓A3,seval];rfl,?_⟩
            rw [ab]
            simp only [Own.ren]
            refine Bf.row (by simp) λq hq=>?_
            by_cases h:q<g.at'.length
            · rw [if_pos h,List.getD_eq_getElem?_getD,List.getD_eq_getElem?_getD,List.getElem?_append_left h]
            · obtain rfl:q=g.at'.length:=by omega
              rw [if_neg h,Nat.sub_self];simp
          · have e2:(5000+i=5000+A.length)=False:=eq_false (by omega)
            refine ⟨_,by rw [Cc (by omega) (by omega)];simp only [Af,Bh,Bg,e2,G4,G3,A7,A0,↓A3,seval];rw [if_pos (by omega),Nat.add_sub_cancel_left],?_⟩
            rw [rGr_ne (g:=g) (g':={ g with at':=g.at'++[(k:Int)] }) e]
            exact Bf.refl _
    · have n0:(e != 0)=true:=by rw [bne_iff_ne];exact h0
      rw [if_pos h0] at he
      rw [he]
      simp only [gS,D1,hF,Bw,hml,hg,Cz,Dr,Ar,Bv,Bn,C5,De,Br,d0,D4,Bg,Af,Bh,A0,↓A3,seval]
      repeat' first|(refine tq hP (h:=⟨_,λ_=>by first|exact cc|exact cv,?_⟩);try simp only [d0,n0,hg,Cz,Dr,Ar,Bv,Bn,C5,De,Br,D4,Bg,Af,Bh,A0,↓A3,seval])|refine ⟨λh=>?_,λh=>?_⟩|refine aX ?_|fail
      refine Ci.pure (by simp only [B8,A0,↓A3,seval]) ?_
      simp only [B8,A0,↓A3,seval]
      exact Ag.tups ⟨C2,Ag.refl _,trivial⟩
  · obtain rfl:k=s.fi.length:=by omega
    have d0:decide ((s.fi.length:Int)<(s.fi.length:Int))=false:=decide_eq_false (by omega)
    rw [List.drop_length,Xa] at he
    rw [he]
    simp only [gS,D1,hF,Bw,hml,d0,A0,↓A3,seval]
    repeat' first|refine ⟨λh=>?_,λh=>?_⟩|refine aX ?_|fail
    refine rK ((Wk.deep (K':=1000) (F:=λi=>Dz (G.getD i default)++[slK .i64 (G.getD i default).at']) rfl (λi _=>rfl) (λi j x hi hj hx=>?_)).trans (Wk.pub 1000 rfl)) trivial ?_
    · have hgi:(G.map Dz)[i]?=some (Dz (G.getD i default)):=by rw [List.getElem?_map,List.getElem?_eq_getElem hi,List.getD_eq_getElem?_getD,List.getElem?_eq_getElem hi];rfl
      have:=Iy (w:=1) (i:=0) Ev hgi (show j<6+1 by omega)
      by_cases h6:j<6
      · rw [if_pos h6] at this
        rw [List.getElem?_append_left h6] at hx
        rw [hx] at this
        exact .inl this
      · obtain rfl:j=6:=by omega
        rw [if_neg h6,show 5000+(1*(0+i)+(6-6))=5000+i by omega] at this
        have hx2:slK .i64 (G.getD i default).at'=x:=by simpa [Dz] using hx
        refine .inr ⟨_,3,1,(G.getD i default).at'.length,(λq=>[.int .i64 ((G.getD i default).at'.getD q 0)]),by omega,this,?_,hx2.symm⟩
        simp only [G4,G3,A0,↓A3,seval]
        rw [Bg,if_pos (by omega),Nat.add_sub_cancel_left]
        rfl
    · simp only [B8,A0,↓A3,seval]
      exact Ag.refl _
end Go.Proofs.YtakohhkgeeoniaaGreat
end
