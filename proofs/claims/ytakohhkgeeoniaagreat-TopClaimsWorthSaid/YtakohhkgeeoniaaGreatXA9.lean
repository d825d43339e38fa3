import Derived.Test.YtakohhkgeeoniaaGreatXA8
import Derived.Test.YtakohhkgeeoniaaGreatRows
import Derived.KernelRfl
set_option linter.unusedSimpArgs false
set_option linter.unusedVariables false
set_option maxHeartbeats 8000000
section
namespace Go.Proofs.YtakohhkgeeoniaaGreat
open Go.Bx
set_option maxRecDepth 10000
def Lz:Hi:=⟨0,0,⟨0,0,⟨0,0,0,0⟩,[]⟩,[]⟩
def Qu (h:Hi):Int:=if 0<h.ch.length then (h.ch.getD (h.ch.length-1) default).bk else h.bk
def Mo (h:Hi) (c:Ch):Hi×Int:=
 if (C0 c&&Xr h.tm c.dy)=false then (Lz,1) else if c.bk<Qu h then (Lz,4) else if h.ch.length≥2000 then (Lz,2) else ({ h with ch:=h.ch++[c] },0)
theorem C2 {sz:Nat} {f g:Nat→List D}:Ag (.d (.sl true 0 0 g)) (.d (.sl false sz 0 f)):=Ag.nil rfl (λh=>by cases h)
theorem Ew {g1 g2:Nat→List D}:Ag (.ag [.d (.int .i64 0),.d (.int .i64 0),.d (.int .i64 0),.d (.int .i64 0),.d (.int .i64 0),.d (.int .i64 0),.d (.int .i64 0),.d (.int .i64 0),.d (.sl true 0 0 g1),.d (.sl true 0 0 g2)]) (Da Lz):=
 Ag.ags ⟨Ag.refl _,Ag.refl _,Ag.refl _,Ag.refl _,Ag.refl _,Ag.refl _,Ag.refl _,Ag.refl _,C2,C2,trivial⟩
theorem Sm {l:List Ch} {c:Ch} {F:Nat→List D} (h1:∀ i,i<l.length→F i=Bn (l.getD i default)) (h2:F l.length=Bn c):Ag (.d (.sl false 9 (l.length+1) F)) (.d (Bv (l++[c]))):=
 Ag.sl (by simp) (λ_=>rfl) id λi hi=>by
  by_cases h:i<l.length
  ·rw [h1 i h,List.getD_eq_getElem?_getD,List.getD_eq_getElem?_getD,List.getElem?_append_left h]
  ·have:i=l.length:=by omega
   subst this
   rw [h2];simp [List.getD_eq_getElem?_getD]
theorem sPutC (hh:Hi) (c':Ch) (ht:hh.tm.cv.length≤1000000) (hl:c'.cv.length≤1000000) (hn:hh.ch.length≤1000000):Aj Tryz.prog 246 [Da hh,Ia c'] [] (.tup [Da (Mo hh c').1,.d (.int .i64 (Mo hh c').2)]) [] []:=by
 have cr:=Q1 c' (by omega)
 have ci:=sIn hh.tm.sf hh.tm.st c'.dy
 have cc:=Oj c'.cv hl
 have co:=ww hh.tm ht
 simp only [Ia,Js,Ar] at cr
 simp only [vS] at ci
 simp only [Ar] at cc
 simp only [ie,uf,Ar] at co
 have hlast:∀ {d:Ch},0<hh.ch.length→Qu hh=(hh.ch.getD (hh.ch.length-1) d).bk:=λ{d} h=>by
  obtain ⟨x,-,hg,-,-⟩:=Ae (l:=hh.ch) (k:=hh.ch.length-1) (by omega)
  rw [Qu,if_pos h,hg,hg]
 have w1:0<hh.ch.length→IntKind.i64.wrap ((hh.ch.length:Int)-1)=((hh.ch.length-1:Nat):Int):=λh=>(wI (by omega)).trans (by omega)
 cases hr:C0 c' with
 |false =>
  have e:Mo hh c'=(Lz,1):=by rw [Mo,if_pos (by rw [hr];rfl)]
  rw [hr] at cr
  rw [e]
  by_cases h0:0<hh.ch.length
  ·have d0:decide ((hh.ch.length:Int)>0)=true:=decide_eq_true (by omega)
   have w1:=w1 h0
   have b1:(0:Int)≤((hh.ch.length-1:Nat):Int)∧((hh.ch.length-1:Nat):Int)<(hh.ch.length:Int):=by omega
   refine qP Tryz.func246 λc hP hfn=>?_;simp only [Da,Dd,Ia,Js,Ar,Bv,Bn,d0,w1,A0,↓A3,seval]
   repeat' first|(refine tq hP (h:=⟨_,λ_=>by first|exact cr|exact ci,?_⟩);try simp only [d0,w1,A0,↓A3,seval])|refine ⟨λh=>?_,λh=>?_⟩|refine aX ?_|fail
   all_goals
    refine rp ?_
    simp only [B8,A0,↓A3,seval]
    exact Ag.tups ⟨Ew,Ag.refl _,trivial⟩
  ·have d0:decide ((hh.ch.length:Int)>0)=false:=decide_eq_false (by omega)
   refine qP Tryz.func246 λc hP hfn=>?_;simp only [Da,Dd,Ia,Js,Ar,Bv,Bn,d0,A0,↓A3,seval]
   repeat' first|(refine tq hP (h:=⟨_,λ_=>by first|exact cr|exact ci,?_⟩);try simp only [d0,A0,↓A3,seval])|refine ⟨λh=>?_,λh=>?_⟩|refine aX ?_|fail
   all_goals
    refine rp ?_
    simp only [B8,A0,↓A3,seval]
    exact Ag.tups ⟨Ew,Ag.refl _,trivial⟩
 |true =>
 rw [hr] at cr
 cases hi:Xr hh.tm c'.dy with
 |false =>
  have e:Mo hh c'=(Lz,1):=by rw [Mo,if_pos (by rw [hr,hi];rfl)]
  simp only [Xr] at hi
  rw [hi] at ci
  rw [e]
  by_cases h0:0<hh.ch.length
  ·have d0:decide ((hh.ch.length:Int)>0)=true:=decide_eq_true (by omega)
   have w1:=w1 h0
   have b1:(0:Int)≤((hh.ch.length-1:Nat):Int)∧((hh.ch.length-1:Nat):Int)<(hh.ch.length:Int):=by omega
   refine qP Tryz.func246 λc hP hfn=>?_;simp only [Da,Dd,Ia,Js,Ar,Bv,Bn,d0,w1,A0,↓A3,seval]
   repeat' first|(refine tq hP (h:=⟨_,λ_=>by first|exact cr|exact ci,?_⟩);try simp only [d0,w1,A0,↓A3,seval])|refine ⟨λh=>?_,λh=>?_⟩|refine aX ?_|fail
   all_goals
    refine rp ?_
    simp only [B8,A0,↓A3,seval]
    exact Ag.tups ⟨Ew,Ag.refl _,trivial⟩
  ·have d0:decide ((hh.ch.length:Int)>0)=false:=decide_eq_false (by omega)
   refine qP Tryz.func246 λc hP hfn=>?_;simp only [Da,Dd,Ia,Js,Ar,Bv,Bn,d0,A0,↓A3,seval]
   repeat' first|(refine tq hP (h:=⟨_,λ_=>by first|exact cr|exact ci,?_⟩);try simp only [d0,A0,↓A3,seval])|refine ⟨λh=>?_,λh=>?_⟩|refine aX ?_|fail
   all_goals
    refine rp ?_
    simp only [B8,A0,↓A3,seval]
    exact Ag.tups ⟨Ew,Ag.refl _,trivial⟩
 |true =>
 have e0:Mo hh c'=if c'.bk<Qu hh then (Lz,4) else if hh.ch.length≥2000 then (Lz,2) else ({ hh with ch:=hh.ch++[c'] },0):=by rw [Mo,if_neg (by rw [hr,hi];simp)]
 simp only [Xr] at hi
 rw [hi] at ci
 rw [e0]
 clear e0
 by_cases h0:0<hh.ch.length
 ·have d0:decide ((hh.ch.length:Int)>0)=true:=decide_eq_true (by omega)
  have w1:=w1 h0
  have b1:(0:Int)≤((hh.ch.length-1:Nat):Int)∧((hh.ch.length-1:Nat):Int)<(hh.ch.length:Int):=by omega
  rw [hlast h0 (d:=default)]
  by_cases ho:c'.bk<(hh.ch.getD (hh.ch.length-1) default).bk
  ·rw [if_pos ho]
   have dd:decide (c'.bk<(hh.ch.getD (hh.ch.length-1) default).bk)=true:=decide_eq_true ho
   refine qP Tryz.func246 λc hP hfn=>?_;simp only [Da,Dd,Ia,Js,Ar,Bv,Bn,d0,w1,dd,A0,↓A3,seval]
   repeat' first|(refine tq hP (h:=⟨_,λ_=>by first|exact cr|exact ci,?_⟩);try simp only [d0,w1,dd,A0,↓A3,seval])|refine ⟨λh=>?_,λh=>?_⟩|refine aX ?_|fail
   all_goals
    refine rp ?_
    simp only [B8,A0,↓A3,seval]
    exact Ag.tups ⟨Ew,Ag.refl _,trivial⟩
  ·rw [if_neg ho]
   have dd:decide (c'.bk<(hh.ch.getD (hh.ch.length-1) default).bk)=false:=decide_eq_false ho
   by_cases hb:hh.ch.length≥2000
   ·rw [if_pos hb]
    have de:decide ((hh.ch.length:Int)≥2000)=true:=decide_eq_true (by omega)
    refine qP Tryz.func246 λc hP hfn=>?_;simp only [Da,Dd,Ia,Js,Ar,Bv,Bn,d0,w1,dd,de,A0,↓A3,seval]
    repeat' first|(refine tq hP (h:=⟨_,λ_=>by first|exact cr|exact ci,?_⟩);try simp only [d0,w1,dd,de,A0,↓A3,seval])|refine ⟨λh=>?_,λh=>?_⟩|refine aX ?_|fail
    all_goals
     refine rp ?_
     simp only [B8,A0,↓A3,seval]
     exact Ag.tups ⟨Ew,Ag.refl _,trivial⟩
   ·rw [if_neg hb]
    have de:decide ((hh.ch.length:Int)≥2000)=false:=decide_eq_false (by omega)
    have hroom:(hh.ch.length+1)*88≤140737488355328∧hh.ch.length+1≤maxLen:=⟨by omega,by simp only [maxLen];omega⟩
    refine qP Tryz.func246 λc hP hfn=>?_;simp only [Da,Dd,Ia,Js,Ar,Bv,Bn,d0,w1,dd,de,A0,↓A3,seval]
    repeat' first|(refine tq hP (h:=⟨_,λ_=>by first|exact cr|exact ci|exact cc|exact co,?_⟩);try simp only [d0,w1,dd,de,A0,↓A3,seval])|refine ⟨λh=>?_,λh=>?_⟩|refine aX ?_|fail
    refine rK (Wk.pub 61 rfl) trivial ?_
    simp only [B8,A0,↓A3,seval]
    exact Ag.tups ⟨Ag.ags ⟨Ag.refl _,Ag.refl _,Ag.refl _,Ag.refl _,Ag.refl _,Ag.refl _,Ag.refl _,Ag.refl _,Ag.refl _,Sm (λi hi=>by simp [hi,Bn,Ar]) (by simp [Bn,Ar]),trivial⟩,Ag.refl _,trivial⟩
 ·have d0:decide ((hh.ch.length:Int)>0)=false:=decide_eq_false (by omega)
  rw [show Qu hh=hh.bk from if_neg h0]
  by_cases ho:c'.bk<hh.bk
  ·rw [if_pos ho]
   have dd:decide (c'.bk<hh.bk)=true:=decide_eq_true ho
   refine qP Tryz.func246 λc hP hfn=>?_;simp only [Da,Dd,Ia,Js,Ar,Bv,Bn,d0,dd,A0,↓A3,seval]
   repeat' first|(refine tq hP (h:=⟨_,λ_=>by first|exact cr|exact ci,?_⟩);try simp only [d0,dd,A0,↓A3,seval])|refine ⟨λh=>?_,λh=>?_⟩|refine aX ?_|fail
   all_goals
    refine rp ?_
    simp only [B8,A0,↓A3,seval]
    exact Ag.tups ⟨Ew,Ag.refl _,trivial⟩
  ·rw [if_neg ho]
   have dd:decide (c'.bk<hh.bk)=false:=decide_eq_false ho
   by_cases hb:hh.ch.length≥2000
   ·rw [if_pos hb]
    have de:decide ((hh.ch.length:Int)≥2000)=true:=decide_eq_true (by omega)
    refine qP Tryz.func246 λc hP hfn=>?_;simp only [Da,Dd,Ia,Js,Ar,Bv,Bn,d0,dd,de,A0,↓A3,seval]
    repeat' first|(refine tq hP (h:=⟨_,λ_=>by first|exact cr|exact ci,?_⟩);try simp only [d0,dd,de,A0,↓A3,seval])|refine ⟨λh=>?_,λh=>?_⟩|refine aX ?_|fail
    all_goals
     refine rp ?_
     simp only [B8,A0,↓A3,seval]
     exact Ag.tups ⟨Ew,Ag.refl _,trivial⟩
   ·rw [if_neg hb]
    have de:decide ((hh.ch.length:Int)≥2000)=false:=decide_eq_false (by omega)
    have hroom:(hh.ch.length+1)*88≤140737488355328∧hh.ch.length+1≤maxLen:=⟨by omega,by simp only [maxLen];omega⟩
    refine qP Tryz.func246 λc hP hfn=>?_;simp only [Da,Dd,Ia,Js,Ar,Bv,Bn,d0,dd,de,A0,↓A3,seval]
    repeat' first|(refine tq hP (h:=⟨_,λ_=>by first|exact cr|exact ci|exact cc|exact co,?_⟩);try simp only [d0,dd,de,A0,↓A3,seval])|refine ⟨λh=>?_,λh=>?_⟩|refine aX ?_|fail
    refine rK (Wk.pub 61 rfl) trivial ?_
    simp only [B8,A0,↓A3,seval]
    exact Ag.tups ⟨Ag.ags ⟨Ag.refl _,Ag.refl _,Ag.refl _,Ag.refl _,Ag.refl _,Ag.refl _,Ag.refl _,Ag.refl _,Ag.refl _,Sm (λi hi=>by simp [hi,Bn,Ar]) (by simp [Bn,Ar]),trivial⟩,Ag.refl _,trivial⟩
theorem Hf (n f t:Int):Aj Tryz.prog 51 [.d (.int .i64 n),.d (.int .i64 f),.d (.int .i64 t)] [] (.d (.bool (Ub n f t))) [] []:=by
 refine qP Tryz.func51 λc hP hfn=>?_;simp only [A0,↓A3,seval]
 exact rr
def qh (c:Cm):List V:=[.d (.int .i64 c.id),.d (.int .i64 c.po),.d (.int .i64 c.pe),.d (.int .i64 c.lo),.d (.int .i64 c.bk),.d (.int .i64 c.ev)]
def ia (c:Cm):V:=.ag (qh c)
def Gh (a:Ac):List D:=[.int .i64 a.bk,.int .i64 a.kd,.int .i64 a.am]
def Z8 (a:Ac):V:=.ag [.d (.int .i64 a.bk),.d (.int .i64 a.kd),.d (.int .i64 a.am)]
def Dr (l:List Ac):D:=.sl false 3 l.length (λi=>Gh (l.getD i default))
def Sb (l:List Ac):Go.Bx.Own:=.row 61 3 l.length (λi=>Gh (l.getD i default))
def Gk (f:Fi):List V:=[.d (.int .i64 f.cl.id),.d (.int .i64 f.cl.po),.d (.int .i64 f.cl.pe),.d (.int .i64 f.cl.lo),.d (.int .i64 f.cl.bk),.d (.int .i64 f.cl.ev),.d (Dr f.ac)]
def Jc (f:Fi):V:=.ag (Gk f)
def cQ (q:Qp):List V:=[.d (.int .i64 q.gr),.d (.int .i64 q.sh),.d (.int .i64 0),.d (.int .i64 q.bc),.d (.int .i64 0),.d (.bool q.op)]
def vQ (q:Qp):V:=.ag (cQ q)
theorem Vl (c':Cm):Aj Tryz.prog 119 [ia c'] [] (.d (.bool (Tv c'))) [] []:=by
 refine qP Tryz.func119 λc hP hfn=>?_;simp only [ia,qh,A0,↓A3,seval]
 repeat' first|(refine tz hP (Hf _ _ _) ?_;try simp only [A0,↓A3,seval])|refine ⟨λh=>?_,λh=>?_⟩|refine aX ?_|fail
 exact rr
theorem Zf (a:Ac):Aj Tryz.prog 120 [Z8 a] [] (.d (.bool (Fz a))) [] []:=by
 refine qP Tryz.func120 λc hP hfn=>?_;simp only [Z8,A0,↓A3,seval]
 repeat' first|(refine tz hP (Hf _ _ _) ?_;try simp only [A0,↓A3,seval])|refine ⟨λh=>?_,λh=>?_⟩|refine aX ?_|fail
 ·(refine rq ?_;first|exact ⟨⟩|rw [Fz,Rz,if_pos h])
 ·(refine rq ?_;first|exact ⟨⟩|rw [Fz,Rz,if_neg (by rw [h];simp)])
theorem Yx {c:Cm} {g:Nat→List D}:Ag (.ag [.d (.int .i64 c.id),.d (.int .i64 c.po),.d (.int .i64 c.pe),.d (.int .i64 c.lo),.d (.int .i64 c.bk),.d (.int .i64 c.ev),.d (.sl true 0 0 g)]) (Jc ⟨c,[]⟩):=
 Ag.ags ⟨Ag.refl _,Ag.refl _,Ag.refl _,Ag.refl _,Ag.refl _,Ag.refl _,C2,trivial⟩
theorem mw (c':Cm):Aj Tryz.prog 152 [ia c'] [] (Jc ⟨c',[]⟩) [] []:=by
 refine qP Tryz.func152 λc hP hfn=>?_;simp only [ia,qh,A0,↓A3,seval]
 repeat' first|refine ⟨λh=>?_,λh=>?_⟩|refine aX ?_|fail
 refine rp ?_
 simp only [B8,A0,↓A3,seval]
 exact Yx
theorem rx (q:Qp) (a:Int):Aj Tryz.prog 46 [.own 4 0,.d (.int .i64 a)] [(4,.fix (cQ q))] (.tup []) [(4,.fix (cQ { q with gr:=a }))] []:=by
 refine qO Tryz.func46 ?_
 intro c hP hfn
 simp only [A5,V.names,A4,cQ,gx,A0,↓A3,seval]
 repeat' first|refine ⟨λh=>?_,λh=>?_⟩|refine aX ?_|fail
 refine Et (Wk.refl _ _) ?_
 simp only [A7,A0,↓A3,seval]
theorem sPpay (q:Qp) (a:Int):Aj Tryz.prog 47 [.own 4 0,.d (.int .i64 a)] [(4,.fix (cQ q))] (.tup []) [(4,.fix (cQ { q with sh:=gx (q.sh+a) }))] []:=by
 refine qO Tryz.func47 ?_
 intro c hP hfn
 simp only [A5,V.names,A4,cQ,gx,A0,↓A3,seval]
 repeat' first|refine ⟨λh=>?_,λh=>?_⟩|refine aX ?_|fail
 refine Et (Wk.refl _ _) ?_
 simp only [A7,A0,↓A3,seval]
theorem sPrec (q:Qp) (a:Int):Aj Tryz.prog 48 [.own 4 0,.d (.int .i64 a)] [(4,.fix (cQ q))] (.tup []) [(4,.fix (cQ { q with bc:=gx (q.bc+a) }))] []:=by
 refine qO Tryz.func48 ?_
 intro c hP hfn
 simp only [A5,V.names,A4,cQ,gx,A0,↓A3,seval]
 repeat' first|refine ⟨λh=>?_,λh=>?_⟩|refine aX ?_|fail
 refine Et (Wk.refl _ _) ?_
 simp only [A7,A0,↓A3,seval]
theorem vm (q:Qp) (a:Int):Aj Tryz.prog 49 [.own 4 0,.d (.int .i64 a)] [(4,.fix (cQ q))] (.tup []) [(4,.fix (cQ { q with op:=false }))] []:=by
 refine qO Tryz.func49 ?_
 intro c hP hfn
 simp only [A5,V.names,A4,cQ,gx,A0,↓A3,seval]
 repeat' first|refine ⟨λh=>?_,λh=>?_⟩|refine aX ?_|fail
 refine Et (Wk.refl _ _) ?_
 simp only [A7,A0,↓A3,seval]
theorem sPreop (q:Qp) (a:Int):Aj Tryz.prog 50 [.own 4 0,.d (.int .i64 a)] [(4,.fix (cQ q))] (.tup []) [(4,.fix (cQ { q with op:=true }))] []:=by
 refine qO Tryz.func50 ?_
 intro c hP hfn
 simp only [A5,V.names,A4,cQ,gx,A0,↓A3,seval]
 repeat' first|refine ⟨λh=>?_,λh=>?_⟩|refine aX ?_|fail
 refine Et (Wk.refl _ _) ?_
 simp only [A7,A0,↓A3,seval]
def Z2:List V:=[.d (.raw .nilFunc),.fn (.func 46) [] [],.fn (.func 47) [] [],.fn (.func 48) [] [],.fn (.func 49) [] [],.fn (.func 50) [] []]
def Yh (l:List Ac) (k:Nat):List (Nat×V):=[(2,.own 2 0),(3,.own 3 0),(4,.own 4 0),(10,.d (Dr l)),(11,.d (.int .i64 l.length)),(12,.d (.int .i64 (k:Nat)))]
def Y6 (q:Qp):List (Nat×Go.Bx.Own):=[(2,.fix (cQ ⟨0,0,0,false⟩)),(3,.fix Z2),(4,.fix (cQ q))]
theorem qf (f:Fi) (hl:f.ac.length≤1000000):Aj Tryz.prog 20 [Jc f] [] (vQ (Bm f.ac)) [] []:=by
 refine qP Tryz.func20 λc hP hfn=>?_;simp only [Jc,Gk,Dr,Gh,A0,↓A3,seval]
 repeat' first|refine ⟨λh=>?_,λh=>?_⟩|refine aX ?_|fail
 refine B4.loop (X:=Nat) (λk=>⟨Yh f.ac k,Y6 (Bm (f.ac.take k)),[2,3,4]⟩)
  (λk=>k≤f.ac.length) (λk=>f.ac.length-k) 0 (Nat.zero_le _) (Wk.of _ hfn rfl (by simp only [Yh,Dr,Gh,A7,A0,↓A3,seval]) (by simp only [Y6,Z2,cQ,Bm,List.take_zero,List.foldl_nil,A7,A0,↓A3,seval])) ?_
 intro k hk
 by_cases hlt:k<f.ac.length
 ·obtain ⟨⟨bk,kd,am⟩,-,hg,-,hat⟩:=Ae hlt
  have hg:=hg default
  have d0:decide ((k:Int)<(f.ac.length:Int))=true:=decide_eq_true (by omega)
  have w1:IntKind.i64.wrap ((k:Int)+1)=((k+1:Nat):Int):=wS (by omega)
  have eq1:Bm (f.ac.take (k+1))=G7 (Bm (f.ac.take k)) ⟨bk,kd,am⟩:=by
   rw [List.take_add_one,hat];exact Ku _ _
  have hr:kd=1∨kd=2∨kd=3∨kd=4∨kd=5∨(¬ kd=1∧¬ kd=2∧¬ kd=3∧¬ kd=4∧¬ kd=5):=by omega
  rcases hr with rfl|rfl|rfl|rfl|rfl|⟨e1,e2,e3,e4,e5⟩
  ·have wk:Ub 1 1 5=true:=rfl
   have cp:=rx (Bm (f.ac.take k)) am
   generalize Bm (f.ac.take k)=q at *
   have eq2:G7 q ⟨bk,1,am⟩={ q with gr:=am }:=rfl
   simp only [cQ] at cp
   simp only [Yh,Y6,Z2,cQ,Dr,Gh,hg,d0,w1,A0,↓A3,seval]
   repeat' first|(refine tz hP (Hf _ _ _) ?_;try simp only [wk,hg,w1,A0,↓A3,seval])|refine ⟨λh=>?_,λh=>?_⟩|refine aX ?_|fail
   refine TR.cv1 (k:=4) (first:=[]) (cap:=[]) hP rfl cp (by simp only [A0,↓A3,seval]) (by simp only [A0,↓A3,seval]) rfl ?_
   simp only [w1,A0,↓A3,seval]
   repeat' first|refine ⟨λh=>?_,λh=>?_⟩|refine aX ?_|fail
   exact Al.on (k+1) hlt (by omega) (Wk.of _ hfn rfl (by simp only [Yh,Dr,Gh,w1,A7,A0,↓A3,seval]) (by simp only [Y6,eq1,eq2,Z2,cQ,A7,A0,↓A3,seval]))
  ·have wk:Ub 2 1 5=true:=rfl
   have cp:=sPpay (Bm (f.ac.take k)) am
   generalize Bm (f.ac.take k)=q at *
   have eq2:G7 q ⟨bk,2,am⟩={ q with sh:=gx (q.sh+am) }:=rfl
   simp only [cQ] at cp
   simp only [Yh,Y6,Z2,cQ,Dr,Gh,hg,d0,w1,A0,↓A3,seval]
   repeat' first|(refine tz hP (Hf _ _ _) ?_;try simp only [wk,hg,w1,A0,↓A3,seval])|refine ⟨λh=>?_,λh=>?_⟩|refine aX ?_|fail
   refine TR.cv1 (k:=4) (first:=[]) (cap:=[]) hP rfl cp (by simp only [A0,↓A3,seval]) (by simp only [A0,↓A3,seval]) rfl ?_
   simp only [w1,A0,↓A3,seval]
   repeat' first|refine ⟨λh=>?_,λh=>?_⟩|refine aX ?_|fail
   exact Al.on (k+1) hlt (by omega) (Wk.of _ hfn rfl (by simp only [Yh,Dr,Gh,w1,A7,A0,↓A3,seval]) (by simp only [Y6,eq1,eq2,Z2,cQ,A7,A0,↓A3,seval]))
  ·have wk:Ub 3 1 5=true:=rfl
   have cp:=sPrec (Bm (f.ac.take k)) am
   generalize Bm (f.ac.take k)=q at *
   have eq2:G7 q ⟨bk,3,am⟩={ q with bc:=gx (q.bc+am) }:=rfl
   simp only [cQ] at cp
   simp only [Yh,Y6,Z2,cQ,Dr,Gh,hg,d0,w1,A0,↓A3,seval]
   repeat' first|(refine tz hP (Hf _ _ _) ?_;try simp only [wk,hg,w1,A0,↓A3,seval])|refine ⟨λh=>?_,λh=>?_⟩|refine aX ?_|fail
   refine TR.cv1 (k:=4) (first:=[]) (cap:=[]) hP rfl cp (by simp only [A0,↓A3,seval]) (by simp only [A0,↓A3,seval]) rfl ?_
   simp only [w1,A0,↓A3,seval]
   repeat' first|refine ⟨λh=>?_,λh=>?_⟩|refine aX ?_|fail
   exact Al.on (k+1) hlt (by omega) (Wk.of _ hfn rfl (by simp only [Yh,Dr,Gh,w1,A7,A0,↓A3,seval]) (by simp only [Y6,eq1,eq2,Z2,cQ,A7,A0,↓A3,seval]))
  ·have wk:Ub 4 1 5=true:=rfl
   have cp:=vm (Bm (f.ac.take k)) am
   generalize Bm (f.ac.take k)=q at *
   have eq2:G7 q ⟨bk,4,am⟩={ q with op:=false }:=rfl
   simp only [cQ] at cp
   simp only [Yh,Y6,Z2,cQ,Dr,Gh,hg,d0,w1,A0,↓A3,seval]
   repeat' first|(refine tz hP (Hf _ _ _) ?_;try simp only [wk,hg,w1,A0,↓A3,seval])|refine ⟨λh=>?_,λh=>?_⟩|refine aX ?_|fail
   refine TR.cv1 (k:=4) (first:=[]) (cap:=[]) hP rfl cp (by simp only [A0,↓A3,seval]) (by simp only [A0,↓A3,seval]) rfl ?_
   simp only [w1,A0,↓A3,seval]
   repeat' first|refine ⟨λh=>?_,λh=>?_⟩|refine aX ?_|fail
   exact Al.on (k+1) hlt (by omega) (Wk.of _ hfn rfl (by simp only [Yh,Dr,Gh,w1,A7,A0,↓A3,seval]) (by simp only [Y6,eq1,eq2,Z2,cQ,A7,A0,↓A3,seval]))
  ·have wk:Ub 5 1 5=true:=rfl
   have cp:=sPreop (Bm (f.ac.take k)) am
   generalize Bm (f.ac.take k)=q at *
   have eq2:G7 q ⟨bk,5,am⟩={ q with op:=true }:=rfl
   simp only [cQ] at cp
   simp only [Yh,Y6,Z2,cQ,Dr,Gh,hg,d0,w1,A0,↓A3,seval]
   repeat' first|(refine tz hP (Hf _ _ _) ?_;try simp only [wk,hg,w1,A0,↓A3,seval])|refine ⟨λh=>?_,λh=>?_⟩|refine aX ?_|fail
   refine TR.cv1 (k:=4) (first:=[]) (cap:=[]) hP rfl cp (by simp only [A0,↓A3,seval]) (by simp only [A0,↓A3,seval]) rfl ?_
   simp only [w1,A0,↓A3,seval]
   repeat' first|refine ⟨λh=>?_,λh=>?_⟩|refine aX ?_|fail
   exact Al.on (k+1) hlt (by omega) (Wk.of _ hfn rfl (by simp only [Yh,Dr,Gh,w1,A7,A0,↓A3,seval]) (by simp only [Y6,eq1,eq2,Z2,cQ,A7,A0,↓A3,seval]))
  ·have wk:Ub kd 1 5=false:=by
    cases hw:Ub kd 1 5 with
    |false=>rfl
    |true=>simp only [Ub,Bool.and_eq_true,decide_eq_true_eq] at hw;omega
   have eq2:G7 (Bm (f.ac.take k)) ⟨bk,kd,am⟩=Bm (f.ac.take k):=by simp only [G7,if_neg e1,if_neg e2,if_neg e3,if_neg e4,if_neg e5]
   generalize Bm (f.ac.take k)=q at *
   simp only [Yh,Y6,Z2,cQ,Dr,Gh,hg,d0,w1,A0,↓A3,seval]
   repeat' first|(refine tz hP (Hf _ _ _) ?_;try simp only [wk,hg,w1,A0,↓A3,seval])|refine ⟨λh=>?_,λh=>?_⟩|refine aX ?_|fail
   exact Al.on (k+1) hlt (by omega) (Wk.of _ hfn rfl (by simp only [Yh,Dr,Gh,w1,A7,A0,↓A3,seval]) (by simp only [Y6,eq1,eq2,Z2,cQ,A7,A0,↓A3,seval]))
 ·have hk2:k=f.ac.length:=by omega
  have d0:decide ((k:Int)<(f.ac.length:Int))=false:=decide_eq_false (by omega)
  rw [hk2,List.take_length]
  rw [hk2] at d0
  simp only [Yh,Y6,cQ,Dr,Gh,d0,A0,↓A3,seval]
  repeat' first|refine ⟨λh=>?_,λh=>?_⟩|refine aX ?_|fail
  exact rr
def dv (q:Qp):Qp:={ q with gr:=max q.gr q.sh }
theorem ar (f:Fi) (hl:f.ac.length≤1000000):Aj Tryz.prog 8 [Jc f] [] (vQ (dv (Bm f.ac))) [] []:=by
 have cs:=qf f hl
 simp only [Jc,Gk,vQ,cQ] at cs
 refine qP Tryz.func8 λc hP hfn=>?_;simp only [Jc,Gk,A0,↓A3,seval]
 repeat' first|(refine tz hP cs ?_;try simp only [A0,↓A3,seval])|refine ⟨λh=>?_,λh=>?_⟩|refine aX ?_|fail
 exact rr
theorem sLastA (f:Fi) (hl:f.ac.length≤1000000):Aj Tryz.prog 173 [Jc f] [] (.d (.int .i64 (Hr f.cl f.ac))) [] []:=by
 by_cases h0:0<f.ac.length
 ·have d0:decide ((f.ac.length:Int)>0)=true:=decide_eq_true (by omega)
  have w1:IntKind.i64.wrap ((f.ac.length:Int)-1)=((f.ac.length-1:Nat):Int):=(wI (by omega)).trans (by omega)
  have b1:(0:Int)≤((f.ac.length-1:Nat):Int)∧((f.ac.length-1:Nat):Int)<(f.ac.length:Int):=by omega
  have e:Hr f.cl f.ac=(f.ac.getD (f.ac.length-1) default).bk:=by
   obtain ⟨x,-,hg,-,hat⟩:=Ae (l:=f.ac) (k:=f.ac.length-1) (by omega)
   rw [Hr,List.getLast?_eq_getElem?,hat,hg]
  rw [e]
  refine qP Tryz.func173 λc hP hfn=>?_;simp only [Jc,Gk,Dr,Gh,d0,w1,A0,↓A3,seval]
  repeat' first|refine ⟨λh=>?_,λh=>?_⟩|refine aX ?_|fail
  exact rr
 ·have d0:decide ((f.ac.length:Int)>0)=false:=decide_eq_false (by omega)
  have e:Hr f.cl f.ac=f.cl.bk:=by rw [List.eq_nil_of_length_eq_zero (l:=f.ac) (by omega)];rfl
  rw [e]
  refine qP Tryz.func173 λc hP hfn=>?_;simp only [Jc,Gk,Dr,Gh,d0,A0,↓A3,seval]
  repeat' first|refine ⟨λh=>?_,λh=>?_⟩|refine aX ?_|fail
  exact rr
structure Fc where
 bk:Int
 kd:Int
 id:Int
 am:Int
 dy:Int
 tm:Tm
 ch:Ch
 cl:Cm
 ac:Ac
 ty:Ty
instance:Inhabited Fc:=⟨⟨0,0,0,0,0,default,default,default,default,default⟩⟩
def Je (f:Fc):List V:=[.d (.int .i64 f.bk),.d (.int .i64 f.kd),.d (.int .i64 f.id),.d (.int .i64 f.am),.d (.int .i64 f.dy),.d (.int .i64 f.tm.sf),.d (.int .i64 f.tm.st),.d (.int .i64 f.tm.rk.kd),.d (.int .i64 f.tm.rk.va),.d (.int .i64 f.tm.rk.ag),.d (.int .i64 f.tm.rk.zo),.d (Ar f.tm.cv),.d (.int .i64 f.ch.bk),.d (.int .i64 f.ch.dy),.d (.int .i64 f.ch.kd),.d (.int .i64 f.ch.rk.kd),.d (.int .i64 f.ch.rk.va),.d (.int .i64 f.ch.rk.ag),.d (.int .i64 f.ch.rk.zo),.d (Ar f.ch.cv),.d (.int .i64 f.ch.wy),.d (.int .i64 f.cl.id),.d (.int .i64 f.cl.po),.d (.int .i64 f.cl.pe),.d (.int .i64 f.cl.lo),.d (.int .i64 f.cl.bk),.d (.int .i64 f.cl.ev),.d (.int .i64 f.ac.bk),.d (.int .i64 f.ac.kd),.d (.int .i64 f.ac.am),.d (.int .i64 f.ty.id),.d (.int .i64 f.ty.kd),.d (.int .i64 f.ty.sf),.d (.int .i64 f.ty.st),.d (.int .i64 f.ty.bp),.d (.int .i64 f.ty.at'),.d (.int .i64 f.ty.wi),.d (.int .i64 f.ty.ag),.d (.int .i64 f.ty.pe)]
def Ec (f:Fc):V:=.ag (Je f)
def T5 (f:Fc):List D:=[.int .i64 f.bk,.int .i64 f.kd,.int .i64 f.id,.int .i64 f.am,.int .i64 f.dy,.int .i64 f.tm.sf,.int .i64 f.tm.st,.int .i64 f.tm.rk.kd,.int .i64 f.tm.rk.va,.int .i64 f.tm.rk.ag,.int .i64 f.tm.rk.zo,Ar f.tm.cv,.int .i64 f.ch.bk,.int .i64 f.ch.dy,.int .i64 f.ch.kd,.int .i64 f.ch.rk.kd,.int .i64 f.ch.rk.va,.int .i64 f.ch.rk.ag,.int .i64 f.ch.rk.zo,Ar f.ch.cv,.int .i64 f.ch.wy,.int .i64 f.cl.id,.int .i64 f.cl.po,.int .i64 f.cl.pe,.int .i64 f.cl.lo,.int .i64 f.cl.bk,.int .i64 f.cl.ev,.int .i64 f.ac.bk,.int .i64 f.ac.kd,.int .i64 f.ac.am,.int .i64 f.ty.id,.int .i64 f.ty.kd,.int .i64 f.ty.sf,.int .i64 f.ty.st,.int .i64 f.ty.bp,.int .i64 f.ty.at',.int .i64 f.ty.wi,.int .i64 f.ty.ag,.int .i64 f.ty.pe]
def Dy (l:List Fc):D:=.sl false 39 l.length (λi=>T5 (l.getD i default))
def zTm:Tm:=⟨0,0,⟨0,0,0,0⟩,[]⟩
def zCh:Ch:=⟨0,0,0,⟨0,0,0,0⟩,[],0⟩
def Mz (f:Fc):Fc:=
 if f.kd=1 then { f with id:=0,tm:=zTm } else if f.kd=2 then { f with id:=0,ch:=zCh } else if f.kd=3 then { f with id:=0,am:=0 } else
 if f.kd=4 then { f with cl:=⟨0,0,0,0,0,0⟩ } else if f.kd=5 then { f with id:=0,ac:=⟨0,0,0⟩ } else if f.kd=6 then { f with ty:=⟨0,0,0,0,0,0,0,0,0⟩ } else { f with dy:=0 }
theorem sRest1 (f:Fc):Aj Tryz.prog 279 [.ag [],Ec f] [] (Ec { f with id:=0,tm:=zTm }) [] []:=by
 refine qP Tryz.func279 λc hP hfn=>?_;simp only [Ec,Je,zTm,A0,↓A3,seval]
 repeat' first|refine ⟨λh=>?_,λh=>?_⟩|refine aX ?_|fail
 (refine rq ?_;first|exact ⟨⟩|(refine Ag.ags ?_;repeat' first|exact trivial|exact Ag.refl _|exact C2|refine ⟨?_,?_⟩))
theorem sRest2 (f:Fc):Aj Tryz.prog 280 [.ag [],Ec f] [] (Ec { f with id:=0,ch:=zCh }) [] []:=by
 refine qP Tryz.func280 λc hP hfn=>?_;simp only [Ec,Je,zCh,A0,↓A3,seval]
 repeat' first|refine ⟨λh=>?_,λh=>?_⟩|refine aX ?_|fail
 (refine rq ?_;first|exact ⟨⟩|(refine Ag.ags ?_;repeat' first|exact trivial|exact Ag.refl _|exact C2|refine ⟨?_,?_⟩))
theorem sRest3 (f:Fc):Aj Tryz.prog 281 [.ag [],Ec f] [] (Ec { f with id:=0,am:=0 }) [] []:=by
 refine qP Tryz.func281 λc hP hfn=>?_;simp only [Ec,Je,A0,↓A3,seval]
 repeat' first|refine ⟨λh=>?_,λh=>?_⟩|refine aX ?_|fail
 exact rr
theorem yp (f:Fc):Aj Tryz.prog 282 [.ag [],Ec f] [] (Ec { f with cl:=⟨0,0,0,0,0,0⟩ }) [] []:=by
 refine qP Tryz.func282 λc hP hfn=>?_;simp only [Ec,Je,A0,↓A3,seval]
 repeat' first|refine ⟨λh=>?_,λh=>?_⟩|refine aX ?_|fail
 exact rr
theorem sRest5 (f:Fc):Aj Tryz.prog 283 [.ag [],Ec f] [] (Ec { f with id:=0,ac:=⟨0,0,0⟩ }) [] []:=by
 refine qP Tryz.func283 λc hP hfn=>?_;simp only [Ec,Je,A0,↓A3,seval]
 repeat' first|refine ⟨λh=>?_,λh=>?_⟩|refine aX ?_|fail
 exact rr
theorem sRest6 (f:Fc):Aj Tryz.prog 284 [.ag [],Ec f] [] (Ec { f with ty:=⟨0,0,0,0,0,0,0,0,0⟩ }) [] []:=by
 refine qP Tryz.func284 λc hP hfn=>?_;simp only [Ec,Je,A0,↓A3,seval]
 repeat' first|refine ⟨λh=>?_,λh=>?_⟩|refine aX ?_|fail
 exact rr
theorem sRest7 (f:Fc):Aj Tryz.prog 285 [.ag [],Ec f] [] (Ec { f with dy:=0 }) [] []:=by
 refine qP Tryz.func285 λc hP hfn=>?_;simp only [Ec,Je,A0,↓A3,seval]
 repeat' first|refine ⟨λh=>?_,λh=>?_⟩|refine aX ?_|fail
 exact rr
theorem sBare (f:Fc):∃ b,Aj Tryz.prog 116 [Ec f] [] (.d (.bool b)) [] []:=by
 refine ⟨?_,?_⟩
 rotate_left
 refine qP Tryz.func116 λc hP hfn=>?_;simp only [Ec,Je,Ar,A0,↓A3,seval]
 repeat' first|refine ⟨λh=>?_,λh=>?_⟩|refine aX ?_|fail
 exact rr
def Pe:List (Int×Nat):=[(1,250),(2,252),(3,254),(4,255),(5,256),(6,258),(7,282)]
theorem sOfK (kd:Int) (τ:Nat) (h:(kd,τ)∈Pe):Aj Tryz.prog 115 [.d (.int .i64 kd)] [] (.ifc τ (.ag [])) [] []:=by
 simp only [Pe,List.mem_cons,Prod.mk.injEq,List.not_mem_nil,or_false] at h
 rcases h with ⟨rfl,rfl⟩|⟨rfl,rfl⟩|⟨rfl,rfl⟩|⟨rfl,rfl⟩|⟨rfl,rfl⟩|⟨rfl,rfl⟩|⟨rfl,rfl⟩
 all_goals
  refine qP Tryz.func115 λc hP hfn=>?_;simp only [A0,↓A3,seval]
  repeat' first|refine ⟨λh=>?_,λh=>?_⟩|refine aX ?_|fail
  exact rr
theorem sOf0 (kd:Int) (h:kd<1∨7<kd):Aj Tryz.prog 115 [.d (.int .i64 kd)] [] (.d (.raw .nilIface)) [] []:=by
 by_cases h1:kd<1
 ·have d1:decide (kd<1)=true:=decide_eq_true h1
  refine qP Tryz.func115 λc hP hfn=>?_;simp only [d1,A0,↓A3,seval]
  repeat' first|refine ⟨λh=>?_,λh=>?_⟩|refine aX ?_|fail
  exact rr
 ·have d1:decide (kd<1)=false:=decide_eq_false h1
  have d2:decide (kd>7)=true:=decide_eq_true (by omega)
  refine qP Tryz.func115 λc hP hfn=>?_;simp only [d1,d2,A0,↓A3,seval]
  repeat' first|refine ⟨λh=>?_,λh=>?_⟩|refine aX ?_|fail
  exact rr
theorem yj (f:Fc) (τ:Nat) (h:(f.kd,τ)∈Pe):∃ g fs,Ss Tryz.prog τ "bordereau/fact.rest"=some (g,false)∧Tryz.prog.underlying τ=some (.struct fs)∧Aj Tryz.prog g [.ag [],Ec f] [] (Ec (Mz f)) [] []:=by
 simp only [Pe,List.mem_cons,Prod.mk.injEq,List.not_mem_nil,or_false] at h
 rcases h with ⟨h,rfl⟩|⟨h,rfl⟩|⟨h,rfl⟩|⟨h,rfl⟩|⟨h,rfl⟩|⟨h,rfl⟩|⟨h,rfl⟩ 
 ·exact ⟨279,_,by kernel_rfl,Tryz.underlying250,by rw [Mz,if_pos h];exact sRest1 f⟩
 ·exact ⟨280,_,by kernel_rfl,Tryz.underlying252,by rw [Mz,if_neg (by omega),if_pos h];exact sRest2 f⟩
 ·exact ⟨281,_,by kernel_rfl,Tryz.underlying254,by rw [Mz,if_neg (by omega),if_neg (by omega),if_pos h];exact sRest3 f⟩
 ·exact ⟨282,_,by kernel_rfl,Tryz.underlying255,by rw [Mz,if_neg (by omega),if_neg (by omega),if_neg (by omega),if_pos h];exact yp f⟩
 ·exact ⟨283,_,by kernel_rfl,Tryz.underlying256,by rw [Mz,if_neg (by omega),if_neg (by omega),if_neg (by omega),if_neg (by omega),if_pos h];exact sRest5 f⟩
 ·exact ⟨284,_,by kernel_rfl,Tryz.underlying258,by rw [Mz,if_neg (by omega),if_neg (by omega),if_neg (by omega),if_neg (by omega),if_neg (by omega),if_pos h];exact sRest6 f⟩
 ·exact ⟨285,_,by kernel_rfl,Tryz.underlying282,by rw [Mz,if_neg (by omega),if_neg (by omega),if_neg (by omega),if_neg (by omega),if_neg (by omega),if_neg (by omega),];exact sRest7 f⟩
theorem fv (f:Fc) (h0:f.kd<1∨7<f.kd):Aj Tryz.prog 86 [Ec f] [] (.d (.bool false)) [] []:=by
 have cf:=sOf0 f.kd h0
 refine qP Tryz.func86 λc hP hfn=>?_;simp only [Ec,Je,A0,↓A3,seval]
 repeat' first|(refine tz hP cf ?_;try simp only [A0,↓A3,seval])|refine ⟨λh=>?_,λh=>?_⟩|refine aX ?_|(refine tF ?_;try simp only [A0,↓A3,seval])|fail
 exact rr
theorem je (f:Fc) (h0:¬(f.kd<1∨7<f.kd)) (ht:f.tm.cv.length≤1000000) (hc:f.ch.cv.length≤1000000):∃ b,Aj Tryz.prog 86 [Ec f] [] (.d (.bool b)) [] []:=by
 obtain ⟨τ,hτ⟩:∃ τ,(f.kd,τ)∈Pe:=by
  have:f.kd=1∨f.kd=2∨f.kd=3∨f.kd=4∨f.kd=5∨f.kd=6∨f.kd=7:=by omega
  rcases this with h|h|h|h|h|h|h<;>rw [h]<;>exact ⟨_,by simp only [Pe,List.mem_cons,Prod.mk.injEq,Int.reduceEq,true_and,false_and,false_or,or_false];first|rfl|exact .inl rfl⟩
 have cf:=sOfK f.kd τ hτ
 obtain ⟨g,fs,hm,hu,hr⟩:=yj f τ hτ
 by_cases h1:f.bk<1∨292194<f.bk
 ·refine ⟨false,?_⟩
  by_cases h2:f.bk<1
  ·have d1:decide (f.bk<1)=true:=decide_eq_true h2
   refine qP Tryz.func86 λc hP hfn=>?_;simp only [Ec,Je,d1,A0,↓A3,seval]
   repeat' first|(refine tz hP cf ?_;try simp only [d1,A0,↓A3,seval])|refine ⟨λh=>?_,λh=>?_⟩|refine aX ?_|(refine tF ?_;try simp only [A0,↓A3,seval])|fail
   exact rr
  ·have d1:decide (f.bk<1)=false:=decide_eq_false h2
   have d2:decide (f.bk>292194)=true:=decide_eq_true (by omega)
   refine qP Tryz.func86 λc hP hfn=>?_;simp only [Ec,Je,d1,d2,A0,↓A3,seval]
   repeat' first|(refine tz hP cf ?_;try simp only [d1,d2,A0,↓A3,seval])|refine ⟨λh=>?_,λh=>?_⟩|refine aX ?_|(refine tF ?_;try simp only [A0,↓A3,seval])|fail
   exact rr
 have d1:decide (f.bk<1)=false:=decide_eq_false (by omega)
 have d2:decide (f.bk>292194)=false:=decide_eq_false (by omega)
 obtain ⟨b0,hb0⟩:=sBare (Mz f)
 have ci:=Vl f.cl
 have ca:=Zf f.ac
 have cy:=Wg f.ty
 have ct:=Y1 f.tm (by omega)
 have cc:=Q1 f.ch (by omega)
 simp only [ia,qh,Z8,sj,Rf,ie,uf,Ia,Js] at ci ca cy ct cc
 cases b0 with
 |false =>
  refine ⟨false,?_⟩
  refine qP Tryz.func86 λc hP hfn=>?_;simp only [Ec,Je,d1,d2,A0,↓A3,seval]
  repeat' first|(refine tq hP (h:=⟨_,λ_=>by first|exact cf|exact hb0,?_⟩);try simp only [d1,d2,A0,↓A3,seval])|refine ⟨λh=>?_,λh=>?_⟩|refine aX ?_|(refine tJ hP hm hu hr ?_;try simp only [d1,d2,A0,↓A3,seval])|fail
  exact rr
 |true =>
  simp only [Pe,List.mem_cons,Prod.mk.injEq,List.not_mem_nil,or_false] at hτ
  rcases hτ with ⟨hk,rfl⟩|⟨hk,rfl⟩|⟨hk,rfl⟩|⟨hk,rfl⟩|⟨hk,rfl⟩|⟨hk,rfl⟩|⟨hk,rfl⟩
  all_goals
   apply Exists.intro
   refine qP Tryz.func86 λc hP hfn=>?_;simp only [Ec,Je,d1,d2,A0,↓A3,seval]
   repeat' first|(refine tq hP (h:=⟨_,λ_=>by first|exact cf|exact hb0|exact ci|exact ca|exact cy|exact ct|exact cc,?_⟩);try simp only [d1,d2,A0,↓A3,seval])|refine ⟨λh=>?_,λh=>?_⟩|refine aX ?_|(refine tJ hP hm hu hr ?_;try simp only [d1,d2,A0,↓A3,seval])|fail
   exact rr
def kdC (l:List Ch) (i:Int):Int:=(l.getD i.toNat default).kd
def gy (l:List Ch) (i:Int):Bool:=(kdC l i == 3) || (kdC l i == 4)
def I4 (l:List Ch) (O:List Int):Option Int:=O.reverse.find? (gy l)
def Tb (h:Hi):Option Int:=I4 h.ch (Dc h.ch)
theorem Q2 (l:List Ch) (O:List Int) (x:Int):I4 l (O++[x])=if gy l x=true then some x else I4 l O:=by
 rw [I4,List.reverse_append,List.reverse_singleton,List.singleton_append,List.find?_cons]
 cases gy l x<;>rfl
theorem fj {l:List Ch} {O:List Int} {x:Int} (h:I4 l O=some x):x∈O∧gy l x=true:=by
 have h1:=List.mem_of_find?_eq_some h
 have h2:=List.find?_some h
 exact ⟨by simpa using h1,h2⟩
def pg (o:Option Int):Int:=o.getD 0
theorem sTurn (hh:Hi) (hn:hh.ch.length≤1000000):Aj Tryz.prog 220 [Da hh] [] (.tup [.d (.int .i64 (pg (Tb hh))),.d (.bool (Tb hh).isSome)]) [] []:=by
 have co:=Zw hh hn
 simp only [slK] at co
 have hol:=P7 hh.ch
 simp only [Da,Dd,Ar,Bv,Bn] at co
 obtain ⟨O,hO⟩:∃ O,O=Dc hh.ch:=⟨_,rfl⟩
 have hok:∀ x,x∈O→okH hh.ch x:=by rw [hO];exact Kr hh.ch
 rw [Tb]
 rw [←hO] at co hol ⊢
 clear hO
 refine qP Tryz.func220 λc hP hfn=>?_;simp only [Da,Dd,Ar,Bv,Bn,A0,↓A3,seval]
 refine B4.scope (X:=Nat) (λk=>⟨[(1,.own 1 0),(4,.d (slK .i64 O)),(5,.d (.int .i64 (k:Nat)))],[(1,.fix (Dd hh))],[1]⟩) (λk=>k≤O.length∧I4 hh.ch O=I4 hh.ch (O.take k)) (λk=>k) ?_ ?_
 ·by_cases h0:O.length=0
  ·have d0:(((O.length:Nat):Int) == 0)=true:=by rw [beq_iff_eq];omega
   have e:I4 hh.ch O=none:=by
    rw [List.eq_nil_of_length_eq_zero h0];rfl
   rw [e]
   simp only [slK,d0,A0,↓A3,seval]
   repeat' first|(refine tz hP co ?_;try simp only [d0,A0,↓A3,seval])|refine ⟨λh=>?_,λh=>?_⟩|refine aX ?_|fail
   exact rr
  ·have d0:(((O.length:Nat):Int) == 0)=false:=by rw [beq_eq_false_iff_ne];omega
   have w1:IntKind.i64.wrap (((O.length:Nat):Int)-1)=((O.length-1:Nat):Int):=(wI (by omega)).trans (by omega)
   obtain ⟨x,hd,hg,hm,hx⟩:=Ae (l:=O) (k:=O.length-1) (by omega)
   have hg:=hg 0
   obtain ⟨h1,h2⟩:=hok x hm
   have he2:I4 hh.ch O=if gy hh.ch x=true then some x else I4 hh.ch (O.take (O.length-1)):=by
    conv=>lhs;rw [←List.take_length (l:=O)]
    conv=>lhs;rw [show O.length=(O.length-1)+1 by omega,List.take_add_one,hx]
    exact Q2 _ _ _
   have b1:(0:Int)≤((O.length-1:Nat):Int)∧((O.length-1:Nat):Int)<(O.length:Int):=by omega
   by_cases hT:gy hh.ch x=true
   ·rw [if_pos hT] at he2
    have dk:(((hh.ch.getD x.toNat default).kd != 3)&&((hh.ch.getD x.toNat default).kd != 4))=false:=by
     simp only [gy,kdC,Bool.or_eq_true,beq_iff_eq] at hT
     rw [Bool.and_eq_false_iff,bne_eq_false_iff_eq,bne_eq_false_iff_eq];exact hT
    rw [he2]
    simp only [slK,d0,w1,hg,dk,A0,↓A3,seval]
    repeat' first|(refine tz hP co ?_;try simp only [d0,w1,hg,dk,A0,↓A3,seval])|refine ⟨λh=>?_,λh=>?_⟩|refine aX ?_|fail
    exact rr
   ·rw [if_neg hT] at he2
    have dk:(((hh.ch.getD x.toNat default).kd != 3)&&((hh.ch.getD x.toNat default).kd != 4))=true:=by
     simp only [gy,kdC,Bool.or_eq_true,beq_iff_eq] at hT
     rw [Bool.and_eq_true,bne_iff_ne,bne_iff_ne];omega
    simp only [slK,d0,w1,hg,dk,A0,↓A3,seval]
    repeat' first|(refine tz hP co ?_;try simp only [d0,w1,hg,dk,A0,↓A3,seval])|refine ⟨λh=>?_,λh=>?_⟩|refine aX ?_|fail
    refine ⟨O.length-1,⟨by omega,he2⟩,Wk.of _ hfn rfl (by simp only [slK,w1,A7,A0,↓A3,seval]) (by simp only [Dd,Ar,Bv,Bn,A7,A0,↓A3,seval])⟩
 ·rintro k ⟨hk,he⟩
  by_cases h0:k=0
  ·have d0:(((k:Nat):Int) == 0)=true:=by rw [beq_iff_eq];omega
   have e:I4 hh.ch O=none:=by
    rw [he,h0];rfl
   rw [e]
   simp only [Dd,Ar,Bv,Bn,slK,d0,A0,↓A3,seval]
   repeat' first|refine ⟨λh=>?_,λh=>?_⟩|refine aX ?_|fail
   exact rr
  ·have d0:(((k:Nat):Int) == 0)=false:=by rw [beq_eq_false_iff_ne];omega
   have w1:IntKind.i64.wrap (((k:Nat):Int)-1)=((k-1:Nat):Int):=(wI (by omega)).trans (by omega)
   obtain ⟨x,hd,hg,hm,hx⟩:=Ae (l:=O) (k:=k-1) (by omega)
   have hg:=hg 0
   obtain ⟨h1,h2⟩:=hok x hm
   have he2:I4 hh.ch O=if gy hh.ch x=true then some x else I4 hh.ch (O.take (k-1)):=by
    rw [he]
    conv=>lhs;rw [show k=(k-1)+1 by omega,List.take_add_one,hx]
    exact Q2 _ _ _
   have b1:(0:Int)≤((k-1:Nat):Int)∧((k-1:Nat):Int)<(O.length:Int):=by omega
   by_cases hT:gy hh.ch x=true
   ·rw [if_pos hT] at he2
    have dk:(((hh.ch.getD x.toNat default).kd != 3)&&((hh.ch.getD x.toNat default).kd != 4))=false:=by
     simp only [gy,kdC,Bool.or_eq_true,beq_iff_eq] at hT
     rw [Bool.and_eq_false_iff,bne_eq_false_iff_eq,bne_eq_false_iff_eq];exact hT
    rw [he2]
    simp only [Dd,Ar,Bv,Bn,slK,d0,w1,hg,dk,A0,↓A3,seval]
    repeat' first|refine ⟨λh=>?_,λh=>?_⟩|refine aX ?_|fail
    exact rr
   ·rw [if_neg hT] at he2
    have dk:(((hh.ch.getD x.toNat default).kd != 3)&&((hh.ch.getD x.toNat default).kd != 4))=true:=by
     simp only [gy,kdC,Bool.or_eq_true,beq_iff_eq] at hT
     rw [Bool.and_eq_true,bne_iff_ne,bne_iff_ne];omega
    simp only [Dd,Ar,Bv,Bn,slK,d0,w1,hg,dk,A0,↓A3,seval]
    repeat' first|refine ⟨λh=>?_,λh=>?_⟩|refine aX ?_|fail
    refine ⟨k-1,⟨by omega,he2⟩,Wk.of _ hfn rfl (by simp only [slK,w1,A7,A0,↓A3,seval]) (by simp only [Dd,Ar,Bv,Bn,A7,A0,↓A3,seval]),by omega⟩
theorem TR.yieldD {c:B3} {fn:List Nat} {Z:Nat→List (Nat×Go.Bx.Own)} (hZ:Y4 fn Z) (hfn:c.fn=fn) {k l:Nat} {go:Bool} {args:List V} (hY:YR c l args (Z k) (Z (k+1)) go) {env:List (Nat×V)} {own:List (Nat×Go.Bx.Own)} {nm:List Nat} (hB:V2 [] ⟨env,own,nm⟩=true) (hnm:(nm.all λn=>decide (n<1000000))=true)
  {d:Option Nat} {x:X} {xs:List X} {acc:List Lg} {anc:List Nat} {K:Cs} (hx:evV ⟨env,own++Z k,nm++keysO (Z k)⟩ x=.fn (.yield l) [] []) (hsx:evS true ⟨env,own++Z k,nm++keysO (Z k)⟩ x) (ha:evVs ⟨env,own++Z k,nm++keysO (Z k)⟩ xs=args) (hs:evSs true ⟨env,own++Z k,nm++keysO (Z k)⟩ xs)
  (hok:∀ lg,Hw (acc++[lg]) anc=true) (h:∀ st',Wk c st' ⟨setE env d (.d (.bool go)),own++Z (k+1),nm++keysO (Z (k+1))⟩→K .nrm st'):TR c true [⟨d,none,.callv x xs⟩] ⟨env,own++Z k,nm++keysO (Z k)⟩ acc (zz anc K):=by
 have hB':=hB
 simp only [V2,Bool.and_eq_true,List.all_eq_true,List.contains_iff_mem] at hB'
 obtain ⟨-,h2,h3,h4⟩:=hB'
 have hk:∀ n,n∈keysO own→n∈nm:=λn hk=>by obtain ⟨o,ho'⟩:=Ba hk;exact h4 n (Do ho').1
 have hlt:∀ n,n∈nm→n<1000000:=λn hn=>by simpa using List.all_eq_true.1 hnm n hn
 have hnd:(keysO (own++Z k)).Nodup:=by
  rw [Kd,List.nodup_append]
  exact ⟨E1 h2,hZ.nodup k,λa ha b hb e=>by have:=hlt a (hk a ha);have:=hZ.ge k b hb;omega⟩
 have hin:∀ n o,(n,o)∈Z k→own? (own++Z k) n=some o:=λn o hm=>Ay hnd (List.mem_append_right _ hm)
 refine TR.cons _ (hY d x xs _ hx hsx ha hs hin) (λn hn h5=>?_) (TR.nil ⟨hok _,h _ ?_⟩)
 ·obtain ⟨h6,h7⟩:=List.mem_filter.1 hn
  rcases List.mem_append.1 h5 with h5|h5
  ·have:=hlt n h5;have:=hZ.ge _ n h6;omega
  ·simp only [Bool.not_eq_true',List.contains_eq_mem,decide_eq_false_iff_not] at h7
   exact h7 h5
 ·have hcall:=λn=>Kh (ins:=Z k) (outs:=Z (k+1)) hnd (hZ.nodup (k+1)) n
  refine Wk.ofZ0 (c:=c) (st:=St.stp ⟨env,own++Z k,nm++keysO (Z k)⟩ d { val:=.d (.bool go),upd:=callU (Z k) (Z (k+1)),rd:=keysO (Z k),new:=(keysO (Z (k+1))).filter λn=>!(keysO (Z k)).contains n }) hZ hfn (k+1) (env:=setE env d (.d (.bool go))) (own:=own) (nm:=nm) ?_ hnm ?_ ?_ ?_
  ·simp only [V2,List.all_nil,Bool.true_and,Bool.and_eq_true,List.all_eq_true,List.contains_iff_mem] at hB ⊢
   refine ⟨hB.1,λn hn=>?_,hB.2.2⟩
   cases d with
   |none=>exact hB.2.1 n hn
   |some d =>
    simp only [setE,Ez,V.names,List.nil_append] at hn
    exact hB.2.1 n hn
  ·exact λs=>Ag.refl _
  ·refine OwnLe.of λn o hm=>⟨o,?_,Bf.refl o⟩
   have hn:=hlt n (hk n (Ab hm))
   show own? (applyU (own++Z k) (callU (Z k) (Z (k+1)))) n=some o
   rw [hcall,oe hZ hn]
   simp only
   rw [if_neg (λh=>by have:=hZ.ge k n h;omega)]
   exact Ay hnd (List.mem_append_left _ hm)
  ·intro n o hm
   show own? (applyU (own++Z k) (callU (Z k) (Z (k+1)))) n=some o
   rw [hcall,Ay (hZ.nodup (k+1)) hm]
def J7 (P:List (Int×Int)):List V:=[.d (slK .i64 (P.map (·.1))),.d (slK .i64 (P.map (·.2)))]
def Ms (P:List (Int×Int)):V:=.ag (J7 P)
theorem pw {P:List (Int×Int)} {k:Nat} {p:Int×Int} (h:P[k]?=some p):(P.map (·.1)).getD k 0=p.1∧(P.map (·.2)).getD k 0=p.2:=by
 simp [List.getD_eq_getElem?_getD,h]
theorem sMoney (v:Int):Aj Tryz.prog 239 [.d (.int .i64 v)] [] (.d (.bool (Lm v))) [] []:=by
 refine qP Tryz.func239 λc hP hfn=>?_;simp only [A0,↓A3,seval]
 repeat' first|refine ⟨λh=>?_,λh=>?_⟩|refine aX ?_|fail
 exact rr
theorem sFullS (a b:Int):Aj Tryz.prog 237 [vS a b] [] (.d (.bool (Sc a b))) [] []:=by
 refine qP Tryz.func237 λc hP hfn=>?_;simp only [vS,A0,↓A3,seval]
 repeat' first|refine ⟨λh=>?_,λh=>?_⟩|refine aX ?_|fail
 exact rr
theorem ru (P:List (Int×Int)) (hl:P.length≤9223372036854775806):Aj Tryz.prog 236 [Ms P] [] (.d (.bool (O0 0 0 P))) [] []:=by
 have n0:((P.length:Int) != (P.length:Int))=false:=by rw [bne_eq_false_iff_eq]
 refine qP Tryz.func236 λc hP hfn=>?_;simp only [Ms,J7,slK,List.length_map,n0,A0,↓A3,seval]
 repeat' first|refine ⟨λh=>?_,λh=>?_⟩|refine aX ?_|fail
 refine B4.loop (X:=Nat×Int×Int) (λx=>⟨[(1,.own 1 0),(3,.d (.int .i64 x.2.1)),(4,.d (.int .i64 x.2.2)),(16,.d (slK .i64 (P.map (·.1)))),(17,.d (.int .i64 P.length)),(18,.d (.int .i64 x.1))],[(1,.fix (J7 P))],[1]⟩)
  (λx=>x.1≤P.length∧O0 0 0 P=O0 x.2.1 x.2.2 (P.drop x.1)) (λx=>P.length-x.1) (0,0,0) ⟨Nat.zero_le _,rfl⟩ (Wk.of _ hfn rfl (by simp only [slK,List.length_map,A7,A0,↓A3,seval]) (by simp only [J7,slK,List.length_map,A7,A0,↓A3,seval])) ?_
 rintro ⟨k,day,val⟩ ⟨hk,he⟩
 simp only at hk he
 by_cases hlt:k<P.length
 ·obtain ⟨⟨d,v⟩,hd,-,-,hp⟩:=Ae hlt
  obtain ⟨g1,g2⟩:=pw hp
  simp only at g1 g2
  rw [hd,O0] at he
  have d0:decide ((k:Int)<(P.length:Int))=true:=decide_eq_true (by omega)
  have w1:IntKind.i64.wrap ((k:Int)+1)=((k+1:Nat):Int):=wS (by omega)
  have b1:(0:Int)≤(k:Int)∧(k:Int)<(P.length:Int):=by omega
  simp only [J7,slK,List.length_map,d0,g1,g2,A0,↓A3,seval]
  repeat' first|(refine tz hP (sMoney v) ?_;try simp only [d0,g1,g2,w1,A0,↓A3,seval])|refine ⟨λh=>?_,λh=>?_⟩|refine aX ?_|fail
  ·have hx:O0 0 0 P=false:=by rw [he,h];rfl
   rw [hx]
   exact rr
  ·rw [h] at he
   refine Al.on (k+1,d,v) ⟨hlt,he⟩ (by simp only;omega) (Wk.of _ hfn rfl (by simp only [slK,List.length_map,w1,A7,A0,↓A3,seval]) (by simp only [J7,slK,List.length_map,A7,A0,↓A3,seval]))
 ·have d0:decide ((k:Int)<(P.length:Int))=false:=decide_eq_false (by omega)
  rw [List.drop_eq_nil_of_le (by omega),O0] at he
  rw [he]
  simp only [J7,slK,List.length_map,d0,A0,↓A3,seval]
  repeat' first|refine ⟨λh=>?_,λh=>?_⟩|refine aX ?_|fail
  exact rr
theorem Nm (a:Int):Aj Tryz.prog 243 [.d (.int .i64 a)] [] (.d (.bool false)) [] []:=by
 refine qP Tryz.func243 λc hP hfn=>?_;simp only [A0,↓A3,seval]
 (refine rq ?_;first|exact ⟨⟩|simp)
def vz (A:List Int) (x:Int) (n:Nat):Prop:=n≤A.length∧(∀ j,j<n→A.getD j 0<x)∧(∀ j,n≤j→j<A.length→x≤A.getD j 0)
theorem Wj:∀ {A:List Int} (x:Int),A.Pairwise (·<·)→∃ n,vz A x n
 |[],x,_=>⟨0,Nat.le_refl _,λj hj=>absurd hj (Nat.not_lt_zero j),λj _ hj=>by simp at hj⟩
 |a::A,x,h=>by
  obtain ⟨h1,h2⟩:=List.pairwise_cons.1 h
  by_cases hx:a<x
  ·obtain ⟨n,g1,g2,g3⟩:=Wj x h2
   refine ⟨n+1,by simpa using g1,λj hj=>?_,λj hj hl=>?_⟩
   ·cases j with
    |zero=>simpa using hx
    |succ j=>simpa using g2 j (by omega)
   ·cases j with
    |zero=>omega
    |succ j=>simpa using g3 j (by omega) (by simpa using hl)
  ·refine ⟨0,Nat.zero_le _,λj hj=>absurd hj (Nat.not_lt_zero j),λj _ hl=>?_⟩
   cases j with
   |zero=>simp;omega
   |succ j =>
    have hl':j<A.length:=by simpa using hl
    have:=h1 A[j] (List.getElem_mem hl')
    simp [List.getD_eq_getElem?_getD,hl'];omega
theorem sBin (A:List Int) (x:Int) (n:Nat) (hn:vz A x n) (hl:A.length≤2305843009213693952):Aj Tryz.prog 242 [.d (slK .i64 A),.d (.int .i64 x)] [] (.tup [.d (.int .i64 (n:Int)),.d (.bool (decide (n<A.length)&&(A.getD n 0 == x)))]) [] []:=by
 obtain ⟨hnl,hlo,hhi⟩:=hn
 refine qP Tryz.func242 λc hP hfn=>?_;simp only [slK,A0,↓A3,seval]
 refine B4.loop (X:=Nat×Nat) (λy=>⟨[(0,.d (slK .i64 A)),(1,.d (.int .i64 x)),(6,.d (.int .i64 A.length)),(7,.d (.int .i64 (y.1:Nat))),(8,.d (.int .i64 (y.2:Nat)))],[],[]⟩)
  (λy=>y.1≤n∧n≤y.2∧y.2≤A.length) (λy=>y.2-y.1) (0,A.length) ⟨Nat.zero_le _,hnl,Nat.le_refl _⟩ (Wk.of _ hfn rfl (by simp only [slK,A7,A0,↓A3,seval]) (by simp only [A7,A0,↓A3,seval])) ?_
 rintro ⟨i,j⟩ ⟨h1,h2,h3⟩
 simp only at h1 h2 h3
 by_cases hij:i<j
 ·have d0:decide ((i:Int)<(j:Int))=true:=decide_eq_true (by omega)
  have wq:=ez (i:=i) (j:=j) (by omega)
  obtain ⟨q,hh⟩:∃ q,q=(i+j) / 2:=⟨_,rfl⟩
  rw [←hh] at wq
  have hq:i≤q∧q<j:=by omega
  have w1:IntKind.i64.wrap ((q:Int)+1)=((q+1:Nat):Int):=wS (by omega)
  have b1:(0:Int)≤(q:Int)∧(q:Int)<(A.length:Int):=by omega
  have cc:=yd (A.getD q 0) x
  simp only [slK,d0,wq,A0,↓A3,seval]
  repeat' first|(refine tz hP cc ?_;try simp only [d0,wq,w1,A0,↓A3,seval])|refine ⟨λh=>?_,λh=>?_⟩|refine aX ?_|fail
  ·have hx:A.getD q 0<x:=of_decide_eq_true h
   have hqn:q<n:=by
    by_cases g:q<n
    ·exact g
    ·have:=hhi q (by omega) (by omega);omega
   exact Al.on (q+1,j) ⟨hqn,h2,h3⟩ (by simp only;omega) (Wk.of _ hfn rfl (by simp only [slK,w1,A7,A0,↓A3,seval]) (by simp only [A7,A0,↓A3,seval]))
  ·have hx:¬ A.getD q 0<x:=of_decide_eq_false h
   have hqn:n≤q:=by
    by_cases g:q<n
    ·exact absurd (hlo q g) hx
    ·omega
   exact Al.on (i,q) ⟨h1,hqn,by simp only;omega⟩ (by simp only;omega) (Wk.of _ hfn rfl (by simp only [slK,A7,A0,↓A3,seval]) (by simp only [A7,A0,↓A3,seval]))
 ·have d0:decide ((i:Int)<(j:Int))=false:=decide_eq_false (by omega)
  obtain rfl:i=n:=by omega
  by_cases hb:i<A.length
  ·have d1:decide ((i:Int)<(A.length:Int))=true:=decide_eq_true (by omega)
   have d2:decide (i<A.length)=true:=decide_eq_true hb
   have b1:(0:Int)≤(i:Int)∧(i:Int)<(A.length:Int):=by omega
   rw [d2,Bool.true_and]
   cases hq:(A.getD i 0 == x) with
   |true =>
    simp only [slK,d0,d1,hq,A0,↓A3,seval]
    repeat' first|(refine tq hP (h:=⟨_,λ_=>by first|exact Nm (A.getD i 0)|exact Nm x,?_⟩);try simp only [d0,d1,hq,A0,↓A3,seval])|refine ⟨λh=>?_,λh=>?_⟩|refine aX ?_|fail
    exact rr
   |false =>
    simp only [slK,d0,d1,hq,A0,↓A3,seval]
    repeat' first|(refine tq hP (h:=⟨_,λ_=>by first|exact Nm (A.getD i 0)|exact Nm x,?_⟩);try simp only [d0,d1,hq,A0,↓A3,seval])|refine ⟨λh=>?_,λh=>?_⟩|refine aX ?_|fail
    exact rr
  ·have d1:decide ((i:Int)<(A.length:Int))=false:=decide_eq_false (by omega)
   have d2:decide (i<A.length)=false:=decide_eq_false hb
   rw [d2,Bool.false_and]
   simp only [slK,d0,d1,A0,↓A3,seval]
   repeat' first|(refine tq hP (h:=⟨_,λ_=>by first|exact Nm (A.getD i 0)|exact Nm x,?_⟩);try simp only [d0,d1,A0,↓A3,seval])|refine ⟨λh=>?_,λh=>?_⟩|refine aX ?_|fail
   exact rr
theorem sValue (P:List (Int×Int)) (day:Int) (hs:P.Pairwise (λa b=>a.1<b.1)) (hl:P.length≤2305843009213693952):Aj Tryz.prog 241 [Ms P,.d (.int .i64 day)] [] (.d (.int .i64 (Dq P day))) [] []:=by
 obtain ⟨n,hn⟩:=Wj (A:=P.map (·.1)) day (List.pairwise_map.2 hs)
 have cb:=sBin (P.map (·.1)) day n hn (by rw [List.length_map];exact hl)
 obtain ⟨h1,h2,h3⟩:=hn
 rw [List.length_map] at h1
 have hm:∀ j,j<P.length→(P.map (·.1)).getD j 0=(P.getD j (0,0)).1∧(P.map (·.2)).getD j 0=(P.getD j (0,0)).2:=λj hj=>by
  obtain ⟨p,-,hg,-,hp⟩:=Ae hj
  rw [hg];exact pw hp
 have hlt:∀ i j,i<j→j<P.length→(P.getD i (0,0)).1<(P.getD j (0,0)).1:=λi j hij hj=>by
  have:=List.pairwise_iff_getElem.1 hs i j (by omega) hj hij
  simpa [List.getD_eq_getElem?_getD,hj,(by omega:i<P.length)] using this
 rw [List.length_map] at cb
 simp only [slK,List.length_map] at cb
 by_cases hb:n<P.length∧(P.getD n (0,0)).1=day
 ·obtain ⟨hb1,hb2⟩:=hb
  have hv:Dq P day=(P.getD n (0,0)).2:=by
   have:=Uw (P:=P) (cur:=0) (day:=day) (n+1) hb1 (λj hj=>by
    by_cases g:j=n
    ·rw [g,hb2];exact Int.le_refl _
    ·have:=h2 j (by omega);rw [(hm j (by omega)).1] at this;omega) (λj hj hl=>by have:=hlt n j (by omega) hl;omega)
   rw [Dq,this,if_neg (by omega)];rfl
  have hd:(decide (n<P.length)&&((P.map (·.1)).getD n 0 == day))=true:=by rw [(hm n hb1).1,decide_eq_true hb1,hb2];simp
  rw [hd] at cb
  have d0:decide ((n:Int)<0)=false:=decide_eq_false (by omega)
  have b1:(0:Int)≤(n:Int)∧(n:Int)<(P.length:Int):=by omega
  rw [hv]
  refine qP Tryz.func241 λc hP hfn=>?_;simp only [Ms,J7,slK,List.length_map,A0,↓A3,seval]
  repeat' first|(refine tz hP cb ?_;try simp only [d0,A0,↓A3,seval])|refine ⟨λh=>?_,λh=>?_⟩|refine aX ?_|fail
  refine rp ?_
  simp only [(hm n hb1).2,B8,A0,↓A3,seval]
  exact Ag.refl _
 ·have hd:(decide (n<P.length)&&((P.map (·.1)).getD n 0 == day))=false:=by
   by_cases g:n<P.length
   ·rw [(hm n g).1,decide_eq_true g,Bool.true_and,beq_eq_false_iff_ne];exact λe=>hb ⟨g,e⟩
   ·rw [decide_eq_false g];rfl
  rw [hd] at cb
  have hv:Dq P day=if n=0 then 0 else (P.getD (n-1) (0,0)).2:=Uw (P:=P) (cur:=0) (day:=day) n h1 (λj hj=>by have:=h2 j hj;rw [(hm j (by omega)).1] at this;omega) (λj hj hl=>by
    have:=h3 j hj (by rw [List.length_map];exact hl)
    rw [(hm j hl).1] at this
    by_cases g:j=n
    ·subst g
     have:¬ (P.getD j (0,0)).1=day:=λe=>hb ⟨hl,e⟩
     omega
    ·have:=hlt n j (by omega) hl
     have g3:=h3 n (Nat.le_refl _) (by rw [List.length_map];omega)
     rw [(hm n (by omega)).1] at g3
     omega)
  by_cases h0:n=0
  ·subst h0
   have w0:IntKind.i64.wrap (-1)=-1:=wI (by omega)
   have d0:decide ((-1:Int)<0)=true:=rfl
   rw [hv,if_pos rfl]
   refine qP Tryz.func241 λc hP hfn=>?_;simp only [Ms,J7,slK,List.length_map,A0,↓A3,seval]
   repeat' first|(refine tz hP cb ?_;try simp only [w0,d0,A0,↓A3,seval])|refine ⟨λh=>?_,λh=>?_⟩|refine aX ?_|fail
   exact rr
  ·have w1:IntKind.i64.wrap ((n:Int)-1)=((n-1:Nat):Int):=(wI (by omega)).trans (by omega)
   have d0:decide (((n-1:Nat):Int)<0)=false:=decide_eq_false (by omega)
   have b1:(0:Int)≤((n-1:Nat):Int)∧((n-1:Nat):Int)<(P.length:Int):=by omega
   rw [hv,if_neg h0]
   refine qP Tryz.func241 λc hP hfn=>?_;simp only [Ms,J7,slK,List.length_map,A0,↓A3,seval]
   repeat' first|(refine tz hP cb ?_;try simp only [w1,d0,A0,↓A3,seval])|refine ⟨λh=>?_,λh=>?_⟩|refine aX ?_|fail
   refine rp ?_
   simp only [(hm (n-1) (by omega)).2,B8,A0,↓A3,seval]
   exact Ag.refl _
def G6 (P:List (Int×Int)) (a b:Int):List ((Int×Int)×Int):=Mh (Dq P) b a (P.map (·.1))
def kh (P:List (Int×Int)):List D:=[slK .i64 (P.map (·.1)),slK .i64 (P.map (·.2))]
def xo (P:List (Int×Int)) (a b:Int):V:=.fn (.func 240) [] [.mem [.int .i64 a,.int .i64 b],.mem (kh P)]
theorem tf (P:List (Int×Int)) (a b:Int):Aj Tryz.prog 238 [Ms P,vS a b] [] (xo P a b) [] []:=by
 refine qP Tryz.func238 λc hP hfn=>?_;simp only [Ms,J7,slK,List.length_map,vS,A0,↓A3,seval]
 repeat' first|refine ⟨λh=>?_,λh=>?_⟩|refine aX ?_|fail
 exact Ci.mk _ ((Wk.pubF 2 rfl rfl).trans (Wk.pubF 3 rfl rfl)) (by simp only [B8,A0,↓A3,seval]) (by simp only [xo,kh,slK,List.length_map,B8,A7,A0,↓A3,seval]) trivial
def Pa (P:List (Int×Int)) (a b:Int) (k:Nat):List V:=[vS ((G6 P a b).getD k default).1.1 ((G6 P a b).getD k default).1.2,.d (.int .i64 ((G6 P a b).getD k default).2)]
theorem Ux (f:Int→Int) (to:Int):∀ (r:List Int) (fr:Int),0<(Mh f to fr r).length
 |[],fr=>by simp [Mh]
 |d::r,fr=>by
  rw [Mh]
  split
  ·exact Ux f to r fr
  ·simp
theorem ey (P:List (Int×Int)) (a b:Int) (hs:P.Pairwise (λa b=>a.1<b.1)) (hl:P.length≤1000000):L3 Tryz.prog 240 [.mem [.int .i64 a,.int .i64 b],.mem (kh P)] (Pa P a b) (G6 P a b).length:=by
 refine Ld Tryz.func240 ok240 rfl cc240 cr240 (by simp only [Tryz.ntmps240,List.length_cons,List.length_nil];decide) rfl (λ_=>rfl) ?_
 intro c l' T stop Z hP _ hZ hT hT' hY
 have hbk:∀ k n o,(n,o)∈Z k→own? ([]++Z k) n=some o:=λk n o hm=>Ay (hZ.nodup k) hm
 simp only [xf,kh,slK,List.length_map,A0,↓A3,seval]
 refine B4.loop (X:=Nat×Int×Nat) (λx=>⟨[(0,.fn (.yield l') [] []),(1,.mem [.int .i64 a,.int .i64 b]),(2,.mem (kh P)),(4,.d (.int .i64 x.2.1)),(10,.d (slK .i64 (P.map (·.1)))),(11,.d (.int .i64 P.length)),(12,.d (.int .i64 (x.1:Nat)))],[]++Z x.2.2,[]++keysO (Z x.2.2)⟩)
  (λx=>x.1≤P.length∧(G6 P a b).drop x.2.2=Mh (Dq P) b x.2.1 ((P.map (·.1)).drop x.1)∧x.2.2<T) (λx=>P.length-x.1) (0,a,0)
  ⟨Nat.zero_le _,rfl,by
   have h1:=Ux (Dq P) b (P.map (·.1)) a
   cases hst:stop with
   |true=>exact (hT' hst).1
   |false=>rw [hT hst];exact h1⟩ (Wk.ofZ hZ rfl 0 (own:=[]) (nm:=[]) rfl rfl (by simp only [kh,slK,List.length_map,A7,A0,↓A3,seval]) (by simp only [A7,A0,↓A3,seval]) (hbk 0)) ?_
 rintro ⟨k,fr,m⟩ ⟨hk,hd,hm⟩
 simp only at hk hd hm
 have hTn:T≤(G6 P a b).length:=by
  cases hst:stop with
  |true=>exact (hT' hst).2
  |false=>rw [hT hst];exact Nat.le_refl _
 obtain ⟨x,hdx,hgx,-,-⟩:=Ae (l:=G6 P a b) (k:=m) (by omega)
 have hgx:=hgx default
 rw [hdx] at hd
 have hval:=sValue P fr hs (by omega)
 simp only [Ms,J7,slK,List.length_map] at hval
 by_cases hlt:k<P.length
 ·obtain ⟨⟨d,v⟩,hdp,-,-,hp⟩:=Ae hlt
  obtain ⟨g1,g2⟩:=pw hp
  simp only at g1
  have hdm:(P.map (·.1)).drop k=d::(P.map (·.1)).drop (k+1):=by rw [←List.map_drop,hdp,←List.map_drop];rfl
  rw [hdm,Mh] at hd
  have d0:decide ((k:Int)<(P.length:Int))=true:=decide_eq_true (by omega)
  have w1:IntKind.i64.wrap ((k:Int)+1)=((k+1:Nat):Int):=wS (by omega)
  have b1:(0:Int)≤(k:Int)∧(k:Int)<(P.length:Int):=by omega
  by_cases hskip:d≤fr∨d≥b
  ·rw [if_pos hskip] at hd
   have hc:(decide (d≤fr) || decide (d≥b))=true:=by rw [Bool.or_eq_true,decide_eq_true_eq,decide_eq_true_eq];exact hskip
   simp only [kh,slK,List.length_map,d0,g1,hc,A0,↓A3,seval]
   repeat' first|refine ⟨λh=>?_,λh=>?_⟩|refine aX ?_|fail
   exact Al.on (k+1,fr,m) ⟨hlt,by rw [hdx];exact hd,hm⟩ (by simp only;omega) (Wk.ofZ hZ rfl m (own:=[]) (nm:=[]) rfl rfl (by simp only [kh,slK,List.length_map,w1,A7,A0,↓A3,seval]) (by simp only [A7,A0,↓A3,seval]) (hbk m))
  ·rw [if_neg hskip] at hd
   have hc:(decide (d≤fr) || decide (d≥b))=false:=by rw [Bool.or_eq_false_iff,decide_eq_false_iff_not,decide_eq_false_iff_not];omega
   injection hd with hd1 hd2
   simp only [kh,slK,List.length_map,d0,g1,hc,A0,↓A3,seval]
   repeat' first|(refine tz hP hval ?_;try simp only [d0,g1,w1,hc,A0,↓A3,seval])|refine ⟨λh=>?_,λh=>?_⟩|refine aX ?_|fail
   refine TR.yield hZ rfl (hY m hm) (own:=[]) (nm:=[]) rfl rfl rfl trivial (by simp only [Pa,hgx,hd1,vS,A0,↓A3,seval]) (by simp only [A0,↓A3,seval]) ?_
   simp only [A0,↓A3,seval]
   refine ⟨λhg=>?_,λhg=>?_⟩
   ·have hT1:T=m+1:=by
     simp [F7] at hg
     omega
    subst hT1
    exact Ka.mk _ (Wk.refl _ _) (OwnLe.of λn o hm=>⟨o,Ay (hZ.nodup (m+1)) hm,Bf.refl o⟩)
   ·have hmT:m+1<T:=by
     simp [F7] at hg
     by_cases h9:m+1<T
     ·exact h9
     ·have h8:=hT (hg (by omega))
      have h7:=Ux (Dq P) b ((P.map (·.1)).drop (k+1)) d
      rw [←hd2,List.length_drop] at h7
      omega
    simp only [w1,A0,↓A3,seval]
    exact Al.on (k+1,d,m+1) ⟨hlt,hd2,hmT⟩ (by simp only;omega) (Wk.ofZ hZ rfl (m+1) (own:=[]) (nm:=[]) rfl rfl (by simp only [kh,slK,List.length_map,w1,A7,A0,↓A3,seval]) (by simp only [A7,A0,↓A3,seval]) (hbk (m+1)))
 ·have d0:decide ((k:Int)<(P.length:Int))=false:=decide_eq_false (by omega)
  have hdm:(P.map (·.1)).drop k=[]:=List.drop_eq_nil_of_le (by rw [List.length_map];omega)
  rw [hdm,Mh] at hd
  injection hd with hd1 hd2
  have hTm:T=m+1:=by
   have:=congrArg List.length hd2
   simp at this
   omega
  simp only [kh,slK,List.length_map,d0,A0,↓A3,seval]
  repeat' first|(refine tz hP hval ?_;try simp only [d0,A0,↓A3,seval])|refine ⟨λh=>?_,λh=>?_⟩|refine aX ?_|fail
  refine TR.yieldD hZ rfl (hY m hm) (own:=[]) (nm:=[]) rfl rfl rfl trivial (by simp only [Pa,hgx,hd1,vS,A0,↓A3,seval]) (by simp only [A0,↓A3,seval]) ?_ ?_
  ·intro lg
   simp [Hw,Ep,Rv,List.range,List.range.loop]
  ·intro st' hw
   rw [hTm]
   exact Ka.mk' _ hw (OwnLe.of λn o hm=>⟨o,Ay (hZ.nodup (m+1)) hm,Bf.refl o⟩)
def D6 (L:List ((Int×Int)×Int)) (k:Nat):Int×Int:=(L.take k).foldl (λs p=>(s.1+(p.1.2-p.1.1)*p.2,s.2+(p.1.2-p.1.1)*max p.2 (-p.2))) (0,0)
def Lj (all:Int) (p:(Int×Int)×Int):Prop:=max p.2 (-p.2)>(4000000000000000000-all) / (p.1.2-p.1.1)
instance (all:Int) (p:(Int×Int)×Int):Decidable (Lj all p):=inferInstanceAs (Decidable (_>_))
theorem Kt {L:List ((Int×Int)×Int)} {k:Nat} {p:(Int×Int)×Int} (h:L[k]?=some p):D6 L (k+1)=((D6 L k).1+(p.1.2-p.1.1)*p.2,(D6 L k).2+(p.1.2-p.1.1)*max p.2 (-p.2)):=by
 rw [D6,List.take_add_one,h,List.foldl_append];rfl
theorem T6 {L:List ((Int×Int)×Int)} {k:Nat} {p:(Int×Int)×Int} (h:L[k]?=some p):Nn (D6 L k).1 (D6 L k).2 (L.drop k)=if Lj (D6 L k).2 p then (0,5) else Nn (D6 L (k+1)).1 (D6 L (k+1)).2 (L.drop (k+1)):=by
 obtain ⟨hk,rfl⟩:=List.getElem?_eq_some_iff.1 h
 rw [List.drop_eq_getElem_cons hk,Kt h,Nn]
 rfl
structure ro (p:(Int×Int)×Int):Prop where
 fr:1≤p.1.1
 lt:p.1.1<p.1.2
 to:p.1.2≤292195
 v1:-4000000000000000000≤p.2
 v2:p.2≤4000000000000000000
theorem cut_ok {g:Int→Int} {a b:Int} {l:List ((Int×Int)×Int)} (h:tu g a b l) (ha:1≤a) (hb:b≤292195) (hg:∀ d,-4000000000000000000≤g d∧g d≤4000000000000000000):∀ p,p∈l→ro p:=by
 induction h with
 |nil=>intro p hp;simp at hp
 |@cons a b c l hab _ hl ih =>
  intro p hp
  have:=hl.le
  rcases List.mem_cons.1 hp with rfl|hp
  ·exact ⟨ha,hab,by simp only;omega,(hg a).1,(hg a).2⟩
  ·exact ih (by omega) hb p hp
theorem P5 {all:Int} {p:(Int×Int)×Int} (hp:ro p):Lj all p↔all+(p.1.2-p.1.1)*max p.2 (-p.2)>4000000000000000000:=by
 have h0:0<p.1.2-p.1.1:=by have:=hp.lt;omega
 have:=Int.le_ediv_iff_mul_le (a:=max p.2 (-p.2)) (b:=4000000000000000000-all) h0
 rw [Int.mul_comm] at this
 unfold Lj
 omega
theorem U7 {L:List ((Int×Int)×Int)} (hp:∀ p,p∈L→ro p):∀ {k:Nat},k≤L.length→(∀ j p,j<k→L[j]?=some p→¬ Lj (D6 L j).2 p)→0≤(D6 L k).2∧(D6 L k).2≤4000000000000000000∧(D6 L k).1≤(D6 L k).2∧-(D6 L k).2≤(D6 L k).1
 |0,_,_=>⟨Int.le_refl _,by simp [D6],Int.le_refl _,Int.le_refl _⟩
 |k+1,hk,hb=>by
  obtain ⟨h1,h2,h3,h4⟩:=U7 hp (k:=k) (by omega) (λj p hj hjp=>hb j p (by omega) hjp)
  have he:L[k]?=some L[k]:=List.getElem?_eq_getElem (by omega)
  have hpo:=hp L[k] (List.getElem_mem _)
  have hnb:=mt (P5 (all:=(D6 L k).2) hpo).2 (hb k _ (Nat.lt_succ_self k) he)
  rw [Kt he]
  generalize L[k]=p at *
  have hn:0≤p.1.2-p.1.1:=by have:=hpo.lt;omega
  have m1:=Int.mul_le_mul_of_nonneg_left (show p.2≤max p.2 (-p.2) by omega) hn
  have m2:=Int.mul_le_mul_of_nonneg_left (show -p.2≤max p.2 (-p.2) by omega) hn
  rw [Int.mul_neg] at m2
  have m3:0≤(p.1.2-p.1.1)*max p.2 (-p.2):=Int.mul_nonneg hn (by omega)
  simp only
  omega
theorem jc (L:List ((Int×Int)×Int)):∀ (n:Nat),n≤L.length→(∃ K p,K<n∧L[K]?=some p∧Lj (D6 L K).2 p∧∀ j q,j<K→L[j]?=some q→¬ Lj (D6 L j).2 q)∨(∀ j q,j<n→L[j]?=some q→¬ Lj (D6 L j).2 q)
 |0,_=>.inr λj q hj=>absurd hj (Nat.not_lt_zero j)
 |n+1,hn=>by
  rcases jc L n (by omega) with ⟨K,p,h1,h2,h3,h4⟩|h
  ·exact .inl ⟨K,p,by omega,h2,h3,h4⟩
  ·have he:L[n]?=some L[n]:=List.getElem?_eq_getElem (by omega)
   by_cases hb:Lj (D6 L n).2 L[n]
   ·exact .inl ⟨n,_,by omega,he,hb,h⟩
   ·refine .inr λj q hj hq=>?_
    by_cases e:j=n
    ·subst e;rw [he] at hq;injection hq with hq;subst hq;exact hb
    ·exact h j q (by omega) hq
theorem Nh {L:List ((Int×Int)×Int)}:∀ {k:Nat},k≤L.length→(∀ j q,j<k→L[j]?=some q→¬ Lj (D6 L j).2 q)→Nn 0 0 L=Nn (D6 L k).1 (D6 L k).2 (L.drop k)
 |0,_,_=>rfl
 |k+1,hk,hb=>by
  have he:L[k]?=some L[k]:=List.getElem?_eq_getElem (by omega)
  rw [Nh (k:=k) (by omega) (λj q hj hq=>hb j q (by omega) hq),T6 he,if_neg (hb k _ (Nat.lt_succ_self k) he)]
def Gc (e s a:Int):List (Nat×Go.Bx.Own):=[(4,.fix [.d (.int .i64 0)]),(5,.fix [.d (.int .i64 e)]),(6,.fix [.d (.int .i64 s)]),(7,.fix [.d (.int .i64 a)])]
def Mr (p:(Int×Int)×Int) (s a:Int):List (Nat×Go.Bx.Own):=[(4,.fix [.d (.int .i64 0)]),(5,.fix [.d (.int .i64 0)]),(6,.fix [.d (.int .i64 s)]),(7,.fix [.d (.int .i64 a)]),(8,.fix [.d (.int .i64 p.1.1),.d (.int .i64 p.1.2)])]
def O9 (P:List (Int×Int)) (a b:Int):List (Nat×V):=[(4,.own 4 0),(5,.own 5 0),(6,.own 6 0),(7,.own 7 0),(22,xo P a b)]
def Uh (p:(Int×Int)×Int):List (Nat×V):=[(4,.own 4 0),(5,.own 5 0),(6,.own 6 0),(7,.own 7 0),(8,.own 8 0),(9,.d (.int .i64 p.2))]
theorem kr (e s a:Nat→Int):Ma [4,5,6,7] (λk=>Gc (e k) (s k) (a k)):=by
 refine ⟨λk=>by simp [Gc,keysO],λk n hn=>?_,λk n hn=>by simpa [Gc,keysO] using hn⟩
 simp only [Gc,A4,A5,V.names,List.append_nil,List.nil_append] at hn
 simpa [Gc,keysO] using hn
theorem bi (p:Nat→(Int×Int)×Int) (s a:Nat→Int):Ma [4,5,6,7] (λk=>Mr (p k) (s k) (a k)):=by
 refine ⟨λk=>by simp [Mr,keysO],λk n hn=>?_,λk n hn=>?_⟩
 ·simp only [Mr,A4,A5,V.names,List.append_nil,List.nil_append] at hn
  simpa [Mr,keysO] using hn
 ·simp only [List.mem_cons,List.not_mem_nil,or_false] at hn
  rcases hn with h|h|h|h<;>simp [Mr,keysO,h]
theorem jh (P:List (Int×Int)) (a b:Int):∀ s n,n∈(Go.Bx.get (O9 P a b) s).names→n∈[4,5,6,7]:=Na λs y hm n hn=>by
 simp only [O9,xo,List.mem_cons,Prod.mk.injEq,List.not_mem_nil,or_false] at hm
 rcases hm with ⟨rfl,rfl⟩|⟨rfl,rfl⟩|⟨rfl,rfl⟩|⟨rfl,rfl⟩|⟨rfl,rfl⟩<;>simp [V.names,A5] at hn ⊢<;>simp [hn]
theorem yi (P:List (Int×Int)) (a b:Int) (hl:P.length≤1000000):Aj Tryz.prog 234 [Ms P,vS a b] [] (.tup [.d (.int .i64 (H6 P a b).1),.d (.int .i64 (H6 P a b).2)]) [] []:=by
 have cr:=ru P (by omega)
 have cf:=sFullS a b
 have cp:=tf P a b
 simp only [Ms,J7,slK,List.length_map] at cr
 simp only [vS] at cf
 simp only [Ms,J7,slK,List.length_map,vS] at cp
 cases hR:O0 0 0 P with
 |false =>
  have e:H6 P a b=(0,1):=by rw [H6,hR];rfl
  rw [hR] at cr
  rw [e]
  refine qT Tryz.func234 λc hP hfn hrd=>?_;simp only [Ms,J7,slK,List.length_map,vS,A0,↓A3,seval]
  repeat' first|(refine tq hP (h:=⟨_,λ_=>by first|exact cr|exact cf,?_⟩);try simp only [A0,↓A3,seval])|refine ⟨λh=>?_,λh=>?_⟩|refine aX ?_|fail
  all_goals exact rr
 |true =>
 rw [hR] at cr
 cases hF:Sc a b with
 |false =>
  have e:H6 P a b=(0,1):=by rw [H6,hR,hF];rfl
  rw [hF] at cf
  rw [e]
  refine qT Tryz.func234 λc hP hfn hrd=>?_;simp only [Ms,J7,slK,List.length_map,vS,A0,↓A3,seval]
  repeat' first|(refine tq hP (h:=⟨_,λ_=>by first|exact cr|exact cf,?_⟩);try simp only [A0,↓A3,seval])|refine ⟨λh=>?_,λh=>?_⟩|refine aX ?_|fail
  all_goals exact rr
 |true =>
 rw [hF] at cf
 have e:H6 P a b=Nn 0 0 (G6 P a b):=by rw [H6,hR,hF];rfl
 obtain ⟨hS1,hS2⟩:=M7 hR
 have hfb:1≤a∧a<b∧b≤292195:=by simp only [Sc,Bool.and_eq_true,decide_eq_true_eq] at hF;omega
 have hcut:tu (Dq P) a b (G6 P a b):=Mc (by omega) (List.pairwise_map.2 hS2) λd hd=>.inr hd
 have hpo:=cut_ok hcut hfb.1 hfb.2.2 (λd=>by
  rcases Ww (P:=P) (cur:=0) (day:=d) with h|⟨p,hp,h⟩
  ·rw [Dq,h];omega
  ·rw [Dq,h];exact ⟨(hS1 p hp).2.2.1,(hS1 p hp).2.2.2⟩)
 have hI:=ey P a b hS2 hl
 rw [e]
 refine qT Tryz.func234 λc hP hfn hrd=>?_;simp only [Ms,J7,slK,List.length_map,vS,A0,↓A3,seval]
 repeat' first|(refine tq hP (h:=⟨_,λ_=>by first|exact cr|exact cf|exact cp,?_⟩);try simp only [A0,↓A3,seval])|refine ⟨λh=>?_,λh=>?_⟩|refine aX ?_|fail
 rw [←hP] at hI
 have hpk:∀ k,k<(G6 P a b).length→ro ((G6 P a b).getD k default)∧(G6 P a b)[k]?=some ((G6 P a b).getD k default):=λk hk=>by
  obtain ⟨x,-,hg,hm,he⟩:=Ae hk
  rw [hg];exact ⟨hpo x hm,he⟩
 clear cr cf cp
 rcases jc (G6 P a b) (G6 P a b).length (Nat.le_refl _) with ⟨K,p,hK,hp,hbad,hnb⟩|hnb
 ·have hres:Nn 0 0 (G6 P a b)=(0,5):=by rw [Nh (k:=K) (by omega) hnb,T6 hp,if_pos hbad]
  rw [hres]
  refine B4.rfnJ hI (K+1) (some .ret) (O9 P a b) [4,5,6,7] (λk=>Gc (if k=K+1 then 5 else 0) (if k=K+1 then (D6 (G6 P a b) K).1 else (D6 (G6 P a b) k).1) (if k=K+1 then (D6 (G6 P a b) K).2 else (D6 (G6 P a b) k).2)) (λk=>Mr ((G6 P a b).getD k default) (D6 (G6 P a b) k).1 (D6 (G6 P a b) k).2) (λk=>Uh ((G6 P a b).getD k default)) ?_ rfl trivial
   ⟨hrd,kr _ _ _,bi _ _ _,λn hn=>(by rw [hfn] at hn;cases hn),jh P a b,rfl,λ_=>rfl,λ_=>rfl,λh=>(by cases h),λ_=>⟨by omega,by omega⟩,λh=>(by cases h)⟩ ?_ ?_ (λh=>by cases h) ?_
  ·refine Wk.of (b:=⟨O9 P a b,Gc 0 0 0,[4,5,6,7]⟩) _ hfn rfl ?_ ?_
   ·simp only [O9,A7,A0,↓A3,seval]
   ·simp only [Gc,A7,A0,↓A3,seval]
  ·intro k hk cB hPB hfB
   have hne:¬ k=K+1:=by omega
   generalize D6 (G6 P a b) k=r at *
   simp only [hne,if_false,I2,Pa,vS,Gc,O9,xo,A0,↓A3,seval]
   rw [Jj]
   refine Wk.of (b:=⟨Uh ((G6 P a b).getD k default),Mr ((G6 P a b).getD k default) r.1 r.2,[4,5,6,7,8]⟩) _ hfB rfl ?_ ?_
   ·simp only [Uh,A7,A0,↓A3,seval]
   ·simp only [Mr,A7,A0,↓A3,seval]
  ·intro k hk cB hPB hfB
   have hnb':∀ j q,j<k→(G6 P a b)[j]?=some q→¬ Lj (D6 (G6 P a b) j).2 q:=λj q hj hq=>hnb j q (by omega) hq
   obtain ⟨i1,i2,i3,i4⟩:=U7 hpo (k:=k) (by omega) hnb'
   obtain ⟨po,pe⟩:=hpk k (by omega)
   by_cases hkK:k=K
   ·subst hkK
    have hg:F7 (k+1) (some Ex.ret).isSome k=false:=by simp [F7]
    rw [hp] at pe
    injection pe with pe
    rw [←pe] at po ⊢
    generalize D6 (G6 P a b) k=r at *
    obtain ⟨r1,r2⟩:=r
    simp only at i1 i2 i3 i4
    obtain ⟨⟨q1,q2⟩,v⟩:=p
    obtain ⟨p1,p2,p3,p4,p5⟩:=po
    simp only at p1 p2 p3 p4 p5
    simp only [Lj] at hbad
    have wn:IntKind.i64.wrap (q2-q1)=q2-q1:=wI (by omega)
    have wv:IntKind.i64.wrap (0-v)=-v:=(wI (by omega)).trans (by omega)
    have wm:IntKind.i64.wrap (4000000000000000000-r2)=4000000000000000000-r2:=wI (by omega)
    have hq:(4000000000000000000-r2).tdiv (q2-q1)=(4000000000000000000-r2) / (q2-q1):=Int.tdiv_eq_ediv_of_nonneg (by omega)
    have hq0:0≤(4000000000000000000-r2) / (q2-q1):=Int.ediv_nonneg (by omega) (by omega)
    have hq1:(4000000000000000000-r2) / (q2-q1)≤4000000000000000000-r2:=Int.ediv_le_self _ (by omega)
    have wq:IntKind.i64.wrap ((4000000000000000000-r2).tdiv (q2-q1))=(4000000000000000000-r2) / (q2-q1):=by rw [hq];exact wI (by omega)
    have hz:q2-q1≠0:=by omega
    have d0:decide (max v (-v)>(4000000000000000000-r2) / (q2-q1))=true:=decide_eq_true hbad
    simp only [hg,if_true]
    simp only [Mr,Uh,Gc,wn,wv,wm,wq,d0,A0,↓A3,seval]
    repeat' first|refine ⟨λh=>?_,λh=>?_⟩|refine aX ?_|fail
    all_goals exact Wk.of (b:=⟨[],Gc 5 r1 r2,[4,5,6,7]⟩) _ hfB rfl (by simp only [A7,A0,↓A3,seval]) (by simp only [Gc,A7,A0,↓A3,seval])
   ·have hg:F7 (K+1) (some Ex.ret).isSome k=true:=by simp [F7];omega
    have hne:¬ k+1=K+1:=by omega
    have hsu:=Kt pe
    have hbk:=hnb k _ (by omega) pe
    rw [hsu]
    generalize (G6 P a b).getD k default=p at *
    generalize D6 (G6 P a b) k=r at *
    obtain ⟨r1,r2⟩:=r
    simp only at i1 i2 i3 i4
    obtain ⟨⟨q1,q2⟩,v⟩:=p
    have hnbd:=mt (P5 (all:=r2) po).2 hbk
    obtain ⟨p1,p2,p3,p4,p5⟩:=po
    simp only at p1 p2 p3 p4 p5 hnbd
    simp only [Lj] at hbk
    have wn:IntKind.i64.wrap (q2-q1)=q2-q1:=wI (by omega)
    have wv:IntKind.i64.wrap (0-v)=-v:=(wI (by omega)).trans (by omega)
    have wm:IntKind.i64.wrap (4000000000000000000-r2)=4000000000000000000-r2:=wI (by omega)
    have hq:(4000000000000000000-r2).tdiv (q2-q1)=(4000000000000000000-r2) / (q2-q1):=Int.tdiv_eq_ediv_of_nonneg (by omega)
    have hq0:0≤(4000000000000000000-r2) / (q2-q1):=Int.ediv_nonneg (by omega) (by omega)
    have hq1:(4000000000000000000-r2) / (q2-q1)≤4000000000000000000-r2:=Int.ediv_le_self _ (by omega)
    have wq:IntKind.i64.wrap ((4000000000000000000-r2).tdiv (q2-q1))=(4000000000000000000-r2) / (q2-q1):=by rw [hq];exact wI (by omega)
    have hz:q2-q1≠0:=by omega
    have hn:0≤q2-q1:=by omega
    have m1:=Int.mul_le_mul_of_nonneg_left (show v≤max v (-v) by omega) hn
    have m2:=Int.mul_le_mul_of_nonneg_left (show -v≤max v (-v) by omega) hn
    rw [Int.mul_neg] at m2
    have m3:0≤(q2-q1)*max v (-v):=Int.mul_nonneg hn (by omega)
    have d0:decide (max v (-v)>(4000000000000000000-r2) / (q2-q1))=false:=decide_eq_false hbk
    have wx:IntKind.i64.wrap ((q2-q1)*v)=(q2-q1)*v:=wI (by omega)
    have wy:IntKind.i64.wrap ((q2-q1)*max v (-v))=(q2-q1)*max v (-v):=wI (by omega)
    have w1:IntKind.i64.wrap (r1+(q2-q1)*v)=r1+(q2-q1)*v:=wI (by omega)
    have w2:IntKind.i64.wrap (r2+(q2-q1)*max v (-v))=r2+(q2-q1)*max v (-v):=wI (by omega)
    clear m1 m2 m3 hq hq0 hq1 hnbd hbk
    simp only [hg,hne,if_false]
    simp only [Mr,Uh,Gc,wn,wv,wm,wq,d0,wx,wy,w1,w2,A0,↓A3,seval]
    repeat' first|refine ⟨λh=>?_,λh=>?_⟩|refine aX ?_|fail
    all_goals exact Wk.of (b:=⟨[],Gc 0 (r1+(q2-q1)*v) (r2+(q2-q1)*max v (-v)),[4,5,6,7]⟩) _ hfB rfl (by simp only [A7,A0,↓A3,seval]) (by simp only [Gc,w1,w2,A7,A0,↓A3,seval])
  ·intro e he
   injection he with he
   subst he
   simp only [if_true,O9,xo,Gc,A0,↓A3,seval]
   exact rr
 ·have hres:Nn 0 0 (G6 P a b)=((D6 (G6 P a b) (G6 P a b).length).1,0):=by rw [Nh (Nat.le_refl _) hnb,List.drop_length];rfl
  rw [hres]
  refine B4.rfnAll hI (O9 P a b) [4,5,6,7] (λk=>Gc 0 (D6 (G6 P a b) k).1 (D6 (G6 P a b) k).2) (λk=>Mr ((G6 P a b).getD k default) (D6 (G6 P a b) k).1 (D6 (G6 P a b) k).2) (λk=>Uh ((G6 P a b).getD k default)) ?_ rfl trivial
   ⟨hrd,kr _ _ _,bi _ _ _,λn hn=>(by rw [hfn] at hn;cases hn),jh P a b,rfl,λ_=>rfl,λ_=>rfl,λ_=>rfl,λh=>absurd rfl h,λh=>(by cases h)⟩ ?_ ?_ ?_
  ·refine Wk.of (b:=⟨O9 P a b,Gc 0 0 0,[4,5,6,7]⟩) _ hfn rfl ?_ ?_
   ·simp only [O9,A7,A0,↓A3,seval]
   ·simp only [Gc,A7,A0,↓A3,seval]
  ·intro k hk cB hPB hfB
   generalize D6 (G6 P a b) k=r at *
   simp only [I2,Pa,vS,Gc,O9,xo,A0,↓A3,seval]
   rw [Jj]
   refine Wk.of (b:=⟨Uh ((G6 P a b).getD k default),Mr ((G6 P a b).getD k default) r.1 r.2,[4,5,6,7,8]⟩) _ hfB rfl ?_ ?_
   ·simp only [Uh,A7,A0,↓A3,seval]
   ·simp only [Mr,A7,A0,↓A3,seval]
  ·intro k hk cB hPB hfB
   have hnb':∀ j q,j<k→(G6 P a b)[j]?=some q→¬ Lj (D6 (G6 P a b) j).2 q:=λj q hj hq=>hnb j q (by omega) hq
   obtain ⟨i1,i2,i3,i4⟩:=U7 hpo (k:=k) (by omega) hnb'
   obtain ⟨po,pe⟩:=hpk k hk
   have hsu:=Kt pe
   have hbk:=hnb k _ hk pe
   rw [hsu]
   generalize (G6 P a b).getD k default=p at *
   generalize D6 (G6 P a b) k=r at *
   obtain ⟨r1,r2⟩:=r
   simp only at i1 i2 i3 i4
   obtain ⟨⟨q1,q2⟩,v⟩:=p
   have hnbd:=mt (P5 (all:=r2) po).2 hbk
   obtain ⟨p1,p2,p3,p4,p5⟩:=po
   simp only at p1 p2 p3 p4 p5 hnbd
   simp only [Lj] at hbk
   have wn:IntKind.i64.wrap (q2-q1)=q2-q1:=wI (by omega)
   have wv:IntKind.i64.wrap (0-v)=-v:=(wI (by omega)).trans (by omega)
   have wm:IntKind.i64.wrap (4000000000000000000-r2)=4000000000000000000-r2:=wI (by omega)
   have hq:(4000000000000000000-r2).tdiv (q2-q1)=(4000000000000000000-r2) / (q2-q1):=Int.tdiv_eq_ediv_of_nonneg (by omega)
   have hq0:0≤(4000000000000000000-r2) / (q2-q1):=Int.ediv_nonneg (by omega) (by omega)
   have hq1:(4000000000000000000-r2) / (q2-q1)≤4000000000000000000-r2:=Int.ediv_le_self _ (by omega)
   have wq:IntKind.i64.wrap ((4000000000000000000-r2).tdiv (q2-q1))=(4000000000000000000-r2) / (q2-q1):=by rw [hq];exact wI (by omega)
   have hz:q2-q1≠0:=by omega
   have hn:0≤q2-q1:=by omega
   have m1:=Int.mul_le_mul_of_nonneg_left (show v≤max v (-v) by omega) hn
   have m2:=Int.mul_le_mul_of_nonneg_left (show -v≤max v (-v) by omega) hn
   rw [Int.mul_neg] at m2
   have m3:0≤(q2-q1)*max v (-v):=Int.mul_nonneg hn (by omega)
   have d0:decide (max v (-v)>(4000000000000000000-r2) / (q2-q1))=false:=decide_eq_false hbk
   have wx:IntKind.i64.wrap ((q2-q1)*v)=(q2-q1)*v:=wI (by omega)
   have wy:IntKind.i64.wrap ((q2-q1)*max v (-v))=(q2-q1)*max v (-v):=wI (by omega)
   have w1:IntKind.i64.wrap (r1+(q2-q1)*v)=r1+(q2-q1)*v:=wI (by omega)
   have w2:IntKind.i64.wrap (r2+(q2-q1)*max v (-v))=r2+(q2-q1)*max v (-v):=wI (by omega)
   clear m1 m2 m3 hq hq0 hq1 hnbd hbk
   skip
   simp only [Mr,Uh,Gc,wn,wv,wm,wq,d0,wx,wy,w1,w2,A0,↓A3,seval]
   repeat' first|refine ⟨λh=>?_,λh=>?_⟩|refine aX ?_|fail
   all_goals exact Wk.of (b:=⟨[],Gc 0 (r1+(q2-q1)*v) (r2+(q2-q1)*max v (-v)),[4,5,6,7]⟩) _ hfB rfl (by simp only [A7,A0,↓A3,seval]) (by simp only [Gc,w1,w2,A7,A0,↓A3,seval])
  ·generalize D6 (G6 P a b) (G6 P a b).length=r at *
   simp only [O9,xo,Gc,A0,↓A3,seval]
   exact rr
theorem af (s:Sl) (e:Int):Aj Tryz.prog 233 [ib s,.d (.int .i64 e)] [] (.d (.bool (Iq s e))) [] []:=by
 refine qP Tryz.func233 λc hP hfn=>?_;simp only [ib,Dt,Ar,A0,↓A3,seval]
 repeat' first|refine ⟨λh=>?_,λh=>?_⟩|refine aX ?_|fail
 (refine rq ?_;first|exact ⟨⟩|simp only [Iq,Bool.and_assoc])
def Ng (P:List (Int×Int)) (day:Int):Prop:=0<P.length∧(P.getD (P.length-1) (0,0)).1=day
def I8 (P:List (Int×Int)) (day v:Int):Prop:=v≠(P.getD (P.length-1) (0,0)).2∧day≤292194
instance (P:List (Int×Int)) (day:Int):Decidable (Ng P day):=inferInstanceAs (Decidable (_∧_))
instance (P:List (Int×Int)) (day v:Int):Decidable (I8 P day v):=inferInstanceAs (Decidable (_∧_))
def Aq (P:List (Int×Int)):Go.Bx.Own:=.row 3 1 P.length (λi=>[.int .i64 (P.getD i (0,0)).1])
def Ap (P:List (Int×Int)):Go.Bx.Own:=.row 3 1 P.length (λi=>[.int .i64 (P.getD i (0,0)).2])
theorem Kn {P:List (Int×Int)} {n i:Nat} (h:i<n):(P.take n).getD i (0,0)=P.getD i (0,0):=by
 simp [List.getD_eq_getElem?_getD,List.getElem?_take,h]
theorem sAdd11 (P:List (Int×Int)) (day v:Int) (hl:P.length≤100000) (hc:Ng P day) (hp:I8 (Gw P day) day v) :
  Aj Tryz.prog 232 [.d (.int .i64 day),.d (.int .i64 v),.own 903 0] [(903,.fix [.osl 1000,.osl 1001]),(1000,Aq P),(1001,Ap P)] (.tup []) [(903,.fix [.osl 1002,.osl 1003]),(1002,Aq (Au P day v)),(1003,Ap (Au P day v))] [1002,1003]:=by
 refine M2 Tryz.func232 Yv rfl Zr Z3 Tryz.ntmps232 (by simp) rfl ?_
 intro c hP hfn
 have e:Gw P day=(P.take (P.length-1)):=if_pos hc
 have e2:Au P day v=((P.take (P.length-1))++[(day,v)]):=(if_pos hp).trans (by rw [e])
 rw [e] at hp
 rw [e2]
 obtain ⟨h1,h2⟩:=hc
 have d0:decide ((P.length:Int)>0)=true:=decide_eq_true (by omega)
 have w1:IntKind.i64.wrap ((P.length:Int)-1)=((P.length-1:Nat):Int):=(wI (by omega)).trans (by omega)
 have b1:(0:Int)≤((P.length-1:Nat):Int)∧((P.length-1:Nat):Int)<(P.length:Int):=by omega
 have b2:(0:Int)≤((P.length-1:Nat):Int)∧((P.length-1:Nat):Int)≤(P.length:Int):=by omega
 have d1:((P.getD (P.length-1) (0,0)).1 == day)=true:=beq_iff_eq.2 h2
 simp only [A5,V.names,A4,Aq,Ap,d0,w1,d1,A0,↓A3,seval]
 repeat' first|refine ⟨λh=>?_,λh=>?_⟩|refine aX ?_|fail
 rw [I5]
 refine ⟨⟨[(0,.d (.int .i64 day)),(1,.d (.int .i64 v)),(2,.own 903 0)],[(903,.fix [.osl 1004,.osl 1005]),(1004,Aq (P.take (P.length-1))),(1005,Ap (P.take (P.length-1)))],[903,1000,1001,1004,1005]⟩,(Wk.shr 1000 1004 (P.length-1) rfl (by omega) (by simp)).trans ((Wk.shr 1001 1005 (P.length-1) rfl (by omega) (by simp)).trans (Wk.of _ hfn rfl (by simp only [A7,A0,↓A3,seval]) ?_)),?_⟩
 ·simp only [Aq,Ap,A7,A0,↓A3,seval]
  exact ⟨Bf.row (by rw [List.length_take];omega) λi hi=>by rw [Kn hi],Bf.row (by rw [List.length_take];omega) λi hi=>by rw [Kn hi]⟩
 clear d0 w1 b1 b2 d1 h2 e e2
 have hQl:(P.take (P.length-1)).length≤100000:=by rw [List.length_take];omega
 generalize P.take (P.length-1)=Q at *
 by_cases h0:Q.length=0
 ·have hx:((v != (Q.getD (Q.length-1) (0,0)).2)&&decide (day≤292194))=true:=by rw [Bool.and_eq_true,bne_iff_ne,decide_eq_true_eq];exact hp
  have hroom:(Q.length+1)*8≤140737488355328∧Q.length+1≤maxLen:=⟨by omega,by simp only [maxLen];omega⟩
  have g0:decide ((Q.length:Int)>0)=false:=decide_eq_false (by omega)
  have gl:(Q.getD (Q.length-1) (0,0)).2=0:=by
   have:Q=[]:=List.eq_nil_of_length_eq_zero (by omega)
   rw [this];rfl
  rw [gl] at hx
  simp only [Aq,Ap,g0,hx,A0,↓A3,seval]
  repeat' first|refine ⟨λh=>?_,λh=>?_⟩|refine aX ?_|fail
  refine Ci.mk' _ ((Wk.sw 57 1002 _ hfn (by simp [A5,V.names,A4,Aq,Ap]) (by simp [A5,V.names,A4,Aq,Ap])).trans (Wk.sw 62 1003 _ hfn (by simp [A5,V.names,A4,Aq,Ap]) (by simp [A5,V.names,A4,Aq,Ap]))) (by simp only [Ft,B8,A0,↓A3,seval]) (by simp only [Ft,B8,A7,A0,↓A3,seval]) ?_
  simp only [Aq,Ap,A7,A0,↓A3,seval]
  exact ⟨Bf.app1 (λp:Int×Int=>[.int .i64 p.1]) (λi hi=>by simp [hi]) (by simp [litRow]),Bf.app1 (λp:Int×Int=>[.int .i64 p.2]) (λi hi=>by simp [hi]) (by simp [litRow])⟩
 ·have hx:((v != (Q.getD (Q.length-1) (0,0)).2)&&decide (day≤292194))=true:=by rw [Bool.and_eq_true,bne_iff_ne,decide_eq_true_eq];exact hp
  have hroom:(Q.length+1)*8≤140737488355328∧Q.length+1≤maxLen:=⟨by omega,by simp only [maxLen];omega⟩
  have g0:decide ((Q.length:Int)>0)=true:=decide_eq_true (by omega)
  have v1:IntKind.i64.wrap ((Q.length:Int)-1)=((Q.length-1:Nat):Int):=(wI (by omega)).trans (by omega)
  have c1:(0:Int)≤((Q.length-1:Nat):Int)∧((Q.length-1:Nat):Int)<(Q.length:Int):=by omega
  simp only [Aq,Ap,g0,v1,hx,A0,↓A3,seval]
  repeat' first|refine ⟨λh=>?_,λh=>?_⟩|refine aX ?_|fail
  refine Ci.mk' _ ((Wk.sw 57 1002 _ hfn (by simp [A5,V.names,A4,Aq,Ap]) (by simp [A5,V.names,A4,Aq,Ap])).trans (Wk.sw 62 1003 _ hfn (by simp [A5,V.names,A4,Aq,Ap]) (by simp [A5,V.names,A4,Aq,Ap]))) (by simp only [Ft,B8,A0,↓A3,seval]) (by simp only [Ft,B8,A7,A0,↓A3,seval]) ?_
  simp only [Aq,Ap,A7,A0,↓A3,seval]
  exact ⟨Bf.app1 (λp:Int×Int=>[.int .i64 p.1]) (λi hi=>by simp [hi]) (by simp [litRow]),Bf.app1 (λp:Int×Int=>[.int .i64 p.2]) (λi hi=>by simp [hi]) (by simp [litRow])⟩
theorem sAdd10 (P:List (Int×Int)) (day v:Int) (hl:P.length≤100000) (hc:Ng P day) (hp:¬ I8 (Gw P day) day v) :
  Aj Tryz.prog 232 [.d (.int .i64 day),.d (.int .i64 v),.own 903 0] [(903,.fix [.osl 1000,.osl 1001]),(1000,Aq P),(1001,Ap P)] (.tup []) [(903,.fix [.osl 1002,.osl 1003]),(1002,Aq (Au P day v)),(1003,Ap (Au P day v))] [1002,1003]:=by
 refine M2 Tryz.func232 Yv rfl Zr Z3 Tryz.ntmps232 (by simp) rfl ?_
 intro c hP hfn
 have e:Gw P day=(P.take (P.length-1)):=if_pos hc
 have e2:Au P day v=(P.take (P.length-1)):=(if_neg hp).trans (by rw [e])
 rw [e] at hp
 rw [e2]
 obtain ⟨h1,h2⟩:=hc
 have d0:decide ((P.length:Int)>0)=true:=decide_eq_true (by omega)
 have w1:IntKind.i64.wrap ((P.length:Int)-1)=((P.length-1:Nat):Int):=(wI (by omega)).trans (by omega)
 have b1:(0:Int)≤((P.length-1:Nat):Int)∧((P.length-1:Nat):Int)<(P.length:Int):=by omega
 have b2:(0:Int)≤((P.length-1:Nat):Int)∧((P.length-1:Nat):Int)≤(P.length:Int):=by omega
 have d1:((P.getD (P.length-1) (0,0)).1 == day)=true:=beq_iff_eq.2 h2
 simp only [A5,V.names,A4,Aq,Ap,d0,w1,d1,A0,↓A3,seval]
 repeat' first|refine ⟨λh=>?_,λh=>?_⟩|refine aX ?_|fail
 rw [I5]
 refine ⟨⟨[(0,.d (.int .i64 day)),(1,.d (.int .i64 v)),(2,.own 903 0)],[(903,.fix [.osl 1004,.osl 1005]),(1004,Aq (P.take (P.length-1))),(1005,Ap (P.take (P.length-1)))],[903,1000,1001,1004,1005]⟩,(Wk.shr 1000 1004 (P.length-1) rfl (by omega) (by simp)).trans ((Wk.shr 1001 1005 (P.length-1) rfl (by omega) (by simp)).trans (Wk.of _ hfn rfl (by simp only [A7,A0,↓A3,seval]) ?_)),?_⟩
 ·simp only [Aq,Ap,A7,A0,↓A3,seval]
  exact ⟨Bf.row (by rw [List.length_take];omega) λi hi=>by rw [Kn hi],Bf.row (by rw [List.length_take];omega) λi hi=>by rw [Kn hi]⟩
 clear d0 w1 b1 b2 d1 h2 e e2
 have hQl:(P.take (P.length-1)).length≤100000:=by rw [List.length_take];omega
 generalize P.take (P.length-1)=Q at *
 by_cases h0:Q.length=0
 ·have hx:((v != (Q.getD (Q.length-1) (0,0)).2)&&decide (day≤292194))=false:=by
   rw [Bool.and_eq_false_iff,bne_eq_false_iff_eq,decide_eq_false_iff_not]
   by_cases h:v=(Q.getD (Q.length-1) (0,0)).2
   ·exact .inl h
   ·exact .inr λg=>hp ⟨h,g⟩
  have hroom:(Q.length+1)*8≤140737488355328∧Q.length+1≤maxLen:=⟨by omega,by simp only [maxLen];omega⟩
  have g0:decide ((Q.length:Int)>0)=false:=decide_eq_false (by omega)
  have gl:(Q.getD (Q.length-1) (0,0)).2=0:=by
   have:Q=[]:=List.eq_nil_of_length_eq_zero (by omega)
   rw [this];rfl
  rw [gl] at hx
  simp only [Aq,Ap,g0,hx,A0,↓A3,seval]
  repeat' first|refine ⟨λh=>?_,λh=>?_⟩|refine aX ?_|fail
  refine Ci.mk' _ ((Wk.sw 1004 1002 _ hfn (by simp [A5,V.names,A4,Aq,Ap]) (by simp [A5,V.names,A4,Aq,Ap])).trans (Wk.sw 1005 1003 _ hfn (by simp [A5,V.names,A4,Aq,Ap]) (by simp [A5,V.names,A4,Aq,Ap]))) (by simp only [Ft,B8,A0,↓A3,seval]) (by simp only [Ft,B8,A7,A0,↓A3,seval]) ?_
  simp only [Aq,Ap,A7,A0,↓A3,seval]
 ·have hx:((v != (Q.getD (Q.length-1) (0,0)).2)&&decide (day≤292194))=false:=by
   rw [Bool.and_eq_false_iff,bne_eq_false_iff_eq,decide_eq_false_iff_not]
   by_cases h:v=(Q.getD (Q.length-1) (0,0)).2
   ·exact .inl h
   ·exact .inr λg=>hp ⟨h,g⟩
  have hroom:(Q.length+1)*8≤140737488355328∧Q.length+1≤maxLen:=⟨by omega,by simp only [maxLen];omega⟩
  have g0:decide ((Q.length:Int)>0)=true:=decide_eq_true (by omega)
  have v1:IntKind.i64.wrap ((Q.length:Int)-1)=((Q.length-1:Nat):Int):=(wI (by omega)).trans (by omega)
  have c1:(0:Int)≤((Q.length-1:Nat):Int)∧((Q.length-1:Nat):Int)<(Q.length:Int):=by omega
  simp only [Aq,Ap,g0,v1,hx,A0,↓A3,seval]
  repeat' first|refine ⟨λh=>?_,λh=>?_⟩|refine aX ?_|fail
  refine Ci.mk' _ ((Wk.sw 1004 1002 _ hfn (by simp [A5,V.names,A4,Aq,Ap]) (by simp [A5,V.names,A4,Aq,Ap])).trans (Wk.sw 1005 1003 _ hfn (by simp [A5,V.names,A4,Aq,Ap]) (by simp [A5,V.names,A4,Aq,Ap]))) (by simp only [Ft,B8,A0,↓A3,seval]) (by simp only [Ft,B8,A7,A0,↓A3,seval]) ?_
  simp only [Aq,Ap,A7,A0,↓A3,seval]
theorem sAdd01 (P:List (Int×Int)) (day v:Int) (hl:P.length≤100000) (hc:¬ Ng P day) (hp:I8 (Gw P day) day v) :
  Aj Tryz.prog 232 [.d (.int .i64 day),.d (.int .i64 v),.own 903 0] [(903,.fix [.osl 1000,.osl 1001]),(1000,Aq P),(1001,Ap P)] (.tup []) [(903,.fix [.osl 1002,.osl 1003]),(1002,Aq (Au P day v)),(1003,Ap (Au P day v))] [1002,1003]:=by
 refine M2 Tryz.func232 Yv rfl Zr Z3 Tryz.ntmps232 (by simp) rfl ?_
 intro c hP hfn
 have e:Gw P day=P:=if_neg hc
 have e2:Au P day v=(P++[(day,v)]):=(if_pos hp).trans (by rw [e])
 rw [e] at hp
 rw [e2]
 have hcond:(decide ((P.length:Int)>0)&&((P.getD (P.length-1) (0,0)).1 == day))=false:=by
  rw [Bool.and_eq_false_iff,decide_eq_false_iff_not,beq_eq_false_iff_ne]
  by_cases h:0<P.length
  ·exact .inr λe=>hc ⟨h,e⟩
  ·exact .inl (by omega)
 by_cases h0:P.length=0
 ·have d0:decide ((P.length:Int)>0)=false:=decide_eq_false (by omega)
  simp only [A5,V.names,A4,Aq,Ap,d0,A0,↓A3,seval]
  repeat' first|refine ⟨λh=>?_,λh=>?_⟩|refine aX ?_|fail
  rw [I5]
  refine ⟨⟨[(0,.d (.int .i64 day)),(1,.d (.int .i64 v)),(2,.own 903 0)],[(903,.fix [.osl 1000,.osl 1001]),(1000,Aq P),(1001,Ap P)],[903,1000,1001]⟩,Wk.of _ hfn rfl (by simp only [A7,A0,↓A3,seval]) (by simp only [Aq,Ap,A7,A0,↓A3,seval]),?_⟩
  have hx:((v != (P.getD (P.length-1) (0,0)).2)&&decide (day≤292194))=true:=by rw [Bool.and_eq_true,bne_iff_ne,decide_eq_true_eq];exact hp
  have hroom:(P.length+1)*8≤140737488355328∧P.length+1≤maxLen:=⟨by omega,by simp only [maxLen];omega⟩
  have g0:decide ((P.length:Int)>0)=false:=decide_eq_false (by omega)
  have gl:(P.getD (P.length-1) (0,0)).2=0:=by
   have:P=[]:=List.eq_nil_of_length_eq_zero (by omega)
   rw [this];rfl
  rw [gl] at hx
  simp only [Aq,Ap,g0,hx,A0,↓A3,seval]
  repeat' first|refine ⟨λh=>?_,λh=>?_⟩|refine aX ?_|fail
  refine Ci.mk' _ ((Wk.sw 57 1002 _ hfn (by simp [A5,V.names,A4,Aq,Ap]) (by simp [A5,V.names,A4,Aq,Ap])).trans (Wk.sw 62 1003 _ hfn (by simp [A5,V.names,A4,Aq,Ap]) (by simp [A5,V.names,A4,Aq,Ap]))) (by simp only [Ft,B8,A0,↓A3,seval]) (by simp only [Ft,B8,A7,A0,↓A3,seval]) ?_
  simp only [Aq,Ap,A7,A0,↓A3,seval]
  exact ⟨Bf.app1 (λp:Int×Int=>[.int .i64 p.1]) (λi hi=>by simp [hi]) (by simp [litRow]),Bf.app1 (λp:Int×Int=>[.int .i64 p.2]) (λi hi=>by simp [hi]) (by simp [litRow])⟩
 ·have d0:decide ((P.length:Int)>0)=true:=decide_eq_true (by omega)
  have w1:IntKind.i64.wrap ((P.length:Int)-1)=((P.length-1:Nat):Int):=(wI (by omega)).trans (by omega)
  have b1:(0:Int)≤((P.length-1:Nat):Int)∧((P.length-1:Nat):Int)<(P.length:Int):=by omega
  have d1:((P.getD (P.length-1) (0,0)).1 == day)=false:=by rw [d0,Bool.true_and] at hcond;exact hcond
  simp only [A5,V.names,A4,Aq,Ap,d0,w1,d1,A0,↓A3,seval]
  repeat' first|refine ⟨λh=>?_,λh=>?_⟩|refine aX ?_|fail
  rw [I5]
  refine ⟨⟨[(0,.d (.int .i64 day)),(1,.d (.int .i64 v)),(2,.own 903 0)],[(903,.fix [.osl 1000,.osl 1001]),(1000,Aq P),(1001,Ap P)],[903,1000,1001]⟩,Wk.of _ hfn rfl (by simp only [A7,A0,↓A3,seval]) (by simp only [Aq,Ap,A7,A0,↓A3,seval]),?_⟩
  clear d0 w1 b1 d1
  have hx:((v != (P.getD (P.length-1) (0,0)).2)&&decide (day≤292194))=true:=by rw [Bool.and_eq_true,bne_iff_ne,decide_eq_true_eq];exact hp
  have hroom:(P.length+1)*8≤140737488355328∧P.length+1≤maxLen:=⟨by omega,by simp only [maxLen];omega⟩
  have g0:decide ((P.length:Int)>0)=true:=decide_eq_true (by omega)
  have v1:IntKind.i64.wrap ((P.length:Int)-1)=((P.length-1:Nat):Int):=(wI (by omega)).trans (by omega)
  have c1:(0:Int)≤((P.length-1:Nat):Int)∧((P.length-1:Nat):Int)<(P.length:Int):=by omega
  simp only [Aq,Ap,g0,v1,hx,A0,↓A3,seval]
  repeat' first|refine ⟨λh=>?_,λh=>?_⟩|refine aX ?_|fail
  refine Ci.mk' _ ((Wk.sw 57 1002 _ hfn (by simp [A5,V.names,A4,Aq,Ap]) (by simp [A5,V.names,A4,Aq,Ap])).trans (Wk.sw 62 1003 _ hfn (by simp [A5,V.names,A4,Aq,Ap]) (by simp [A5,V.names,A4,Aq,Ap]))) (by simp only [Ft,B8,A0,↓A3,seval]) (by simp only [Ft,B8,A7,A0,↓A3,seval]) ?_
  simp only [Aq,Ap,A7,A0,↓A3,seval]
  exact ⟨Bf.app1 (λp:Int×Int=>[.int .i64 p.1]) (λi hi=>by simp [hi]) (by simp [litRow]),Bf.app1 (λp:Int×Int=>[.int .i64 p.2]) (λi hi=>by simp [hi]) (by simp [litRow])⟩
theorem Nd (P:List (Int×Int)) (day v:Int) (hl:P.length≤100000) (hc:¬ Ng P day) (hp:¬ I8 (Gw P day) day v) :
  Aj Tryz.prog 232 [.d (.int .i64 day),.d (.int .i64 v),.own 903 0] [(903,.fix [.osl 1000,.osl 1001]),(1000,Aq P),(1001,Ap P)] (.tup []) [(903,.fix [.osl 1000,.osl 1001]),(1000,Aq (Au P day v)),(1001,Ap (Au P day v))] []:=by
 refine M2 Tryz.func232 Yv rfl Zr Z3 Tryz.ntmps232 (by simp) rfl ?_
 intro c hP hfn
 have e:Gw P day=P:=if_neg hc
 have e2:Au P day v=P:=(if_neg hp).trans (by rw [e])
 rw [e] at hp
 rw [e2]
 have hcond:(decide ((P.length:Int)>0)&&((P.getD (P.length-1) (0,0)).1 == day))=false:=by
  rw [Bool.and_eq_false_iff,decide_eq_false_iff_not,beq_eq_false_iff_ne]
  by_cases h:0<P.length
  ·exact .inr λe=>hc ⟨h,e⟩
  ·exact .inl (by omega)
 by_cases h0:P.length=0
 ·have d0:decide ((P.length:Int)>0)=false:=decide_eq_false (by omega)
  simp only [A5,V.names,A4,Aq,Ap,d0,A0,↓A3,seval]
  repeat' first|refine ⟨λh=>?_,λh=>?_⟩|refine aX ?_|fail
  rw [I5]
  refine ⟨⟨[(0,.d (.int .i64 day)),(1,.d (.int .i64 v)),(2,.own 903 0)],[(903,.fix [.osl 1000,.osl 1001]),(1000,Aq P),(1001,Ap P)],[903,1000,1001]⟩,Wk.of _ hfn rfl (by simp only [A7,A0,↓A3,seval]) (by simp only [Aq,Ap,A7,A0,↓A3,seval]),?_⟩
  have hx:((v != (P.getD (P.length-1) (0,0)).2)&&decide (day≤292194))=false:=by
   rw [Bool.and_eq_false_iff,bne_eq_false_iff_eq,decide_eq_false_iff_not]
   by_cases h:v=(P.getD (P.length-1) (0,0)).2
   ·exact .inl h
   ·exact .inr λg=>hp ⟨h,g⟩
  have hroom:(P.length+1)*8≤140737488355328∧P.length+1≤maxLen:=⟨by omega,by simp only [maxLen];omega⟩
  have g0:decide ((P.length:Int)>0)=false:=decide_eq_false (by omega)
  have gl:(P.getD (P.length-1) (0,0)).2=0:=by
   have:P=[]:=List.eq_nil_of_length_eq_zero (by omega)
   rw [this];rfl
  rw [gl] at hx
  simp only [Aq,Ap,g0,hx,A0,↓A3,seval]
  repeat' first|refine ⟨λh=>?_,λh=>?_⟩|refine aX ?_|fail
  refine Ci.mk' _ (Wk.refl _ _) (by simp only [Ft,B8,A0,↓A3,seval]) (by simp only [Ft,B8,A7,A0,↓A3,seval]) ?_
  simp only [Aq,Ap,A7,A0,↓A3,seval]
 ·have d0:decide ((P.length:Int)>0)=true:=decide_eq_true (by omega)
  have w1:IntKind.i64.wrap ((P.length:Int)-1)=((P.length-1:Nat):Int):=(wI (by omega)).trans (by omega)
  have b1:(0:Int)≤((P.length-1:Nat):Int)∧((P.length-1:Nat):Int)<(P.length:Int):=by omega
  have d1:((P.getD (P.length-1) (0,0)).1 == day)=false:=by rw [d0,Bool.true_and] at hcond;exact hcond
  simp only [A5,V.names,A4,Aq,Ap,d0,w1,d1,A0,↓A3,seval]
  repeat' first|refine ⟨λh=>?_,λh=>?_⟩|refine aX ?_|fail
  rw [I5]
  refine ⟨⟨[(0,.d (.int .i64 day)),(1,.d (.int .i64 v)),(2,.own 903 0)],[(903,.fix [.osl 1000,.osl 1001]),(1000,Aq P),(1001,Ap P)],[903,1000,1001]⟩,Wk.of _ hfn rfl (by simp only [A7,A0,↓A3,seval]) (by simp only [Aq,Ap,A7,A0,↓A3,seval]),?_⟩
  clear d0 w1 b1 d1
  have hx:((v != (P.getD (P.length-1) (0,0)).2)&&decide (day≤292194))=false:=by
   rw [Bool.and_eq_false_iff,bne_eq_false_iff_eq,decide_eq_false_iff_not]
   by_cases h:v=(P.getD (P.length-1) (0,0)).2
   ·exact .inl h
   ·exact .inr λg=>hp ⟨h,g⟩
  have hroom:(P.length+1)*8≤140737488355328∧P.length+1≤maxLen:=⟨by omega,by simp only [maxLen];omega⟩
  have g0:decide ((P.length:Int)>0)=true:=decide_eq_true (by omega)
  have v1:IntKind.i64.wrap ((P.length:Int)-1)=((P.length-1:Nat):Int):=(wI (by omega)).trans (by omega)
  have c1:(0:Int)≤((P.length-1:Nat):Int)∧((P.length-1:Nat):Int)<(P.length:Int):=by omega
  simp only [Aq,Ap,g0,v1,hx,A0,↓A3,seval]
  repeat' first|refine ⟨λh=>?_,λh=>?_⟩|refine aX ?_|fail
  refine Ci.mk' _ (Wk.refl _ _) (by simp only [Ft,B8,A0,↓A3,seval]) (by simp only [Ft,B8,A7,A0,↓A3,seval]) ?_
  simp only [Aq,Ap,A7,A0,↓A3,seval]
theorem Hq (P:List (Int×Int)) (d v:Int):(Au P d v).length≤P.length+1:=by
 unfold Au Sq Gw
 split<;>split<;>(try simp only [List.length_append,List.length_take,List.length_singleton])<;>omega
theorem og {P:List (Int×Int)}:Ag (.d (.sl false 1 P.length (λi=>[.int .i64 (P.getD i (0,0)).1]))) (.d (slK .i64 (P.map (·.1)))):=
 Ag.sl (by rw [List.length_map]) (λ_=>rfl) id λi hi=>by
  obtain ⟨p,-,hg,-,he⟩:=Ae hi
  rw [(pw he).1,hg]
theorem mg {P:List (Int×Int)}:Ag (.d (.sl false 1 P.length (λi=>[.int .i64 (P.getD i (0,0)).2]))) (.d (slK .i64 (P.map (·.2)))):=
 Ag.sl (by rw [List.length_map]) (λ_=>rfl) id λi hi=>by
  obtain ⟨p,-,hg,-,he⟩:=Ae hi
  rw [(pw he).2,hg]
theorem Si (P:List (Int×Int)) (day v:Int) (hl:P.length≤100000) (h:Ng P day∨I8 (Gw P day) day v) :
  Aj Tryz.prog 232 [.d (.int .i64 day),.d (.int .i64 v),.own 903 0] [(903,.fix [.osl 1000,.osl 1001]),(1000,Aq P),(1001,Ap P)] (.tup []) [(903,.fix [.osl 1002,.osl 1003]),(1002,Aq (Au P day v)),(1003,Ap (Au P day v))] [1002,1003]:=by
 by_cases h1:Ng P day
 ·by_cases h2:I8 (Gw P day) day v
  ·exact sAdd11 P day v hl h1 h2
  ·exact sAdd10 P day v hl h1 h2
 ·exact sAdd01 P day v hl h1 (h.resolve_left h1)
theorem nk (l:List Sl) (P0:List (Int×Int)) (h:Oa l=some P0):Aj Tryz.prog 228 [.d (E5 l)] [] (Ms P0) [] []:=by
 have hlen:l.length≤2000:=(Zn h).2.1
 have hG:Ly [] 1 l=some P0:=by rw [Oa,if_neg (by omega)] at h;exact h
 have dl:decide ((l.length:Int)>2000)=false:=decide_eq_false (by omega)
 refine qP Tryz.func228 λc hP hfn=>?_;simp only [E5,dl,A0,↓A3,seval]
 repeat' first|refine ⟨λh=>?_,λh=>?_⟩|refine aX ?_|fail
 refine B4.loop (X:=Nat×List (Int×Int)×Int) (λx=>⟨[(4,.fn (.func 232) [] [.own 3 0]),(2,.own 2 0),(3,.own 3 0),(5,.d (.int .i64 x.2.2)),(13,.d (E5 l)),(14,.d (.int .i64 l.length)),(15,.d (.int .i64 x.1))],[(2,.fix [.d (.sl true 0 0 λ_=>[]),.d (.sl true 0 0 λ_=>[])]),(3,.fix [.osl 1000,.osl 1001]),(1000,Aq x.2.1),(1001,Ap x.2.1)],[2,3,1000,1001]⟩)
  (λx=>x.1≤l.length∧Ly x.2.1 x.2.2 (l.drop x.1)=some P0∧x.2.1.length≤2*x.1) (λx=>l.length-x.1) (0,[],1) ⟨Nat.zero_le _,hG,Nat.le_refl _⟩ ?_ ?_
 ·refine (Wk.row0F 3 0 1000 3 1 (λ_=>[]) rfl rfl (by simp)).trans ((Wk.row0F 3 1 1001 3 1 (λ_=>[]) rfl rfl (by simp)).trans (Wk.of _ hfn rfl ?_ ?_))
  ·simp only [E5,A7,A0,↓A3,seval]
  ·simp only [Aq,Ap,A7,A0,↓A3,seval]
   exact ⟨Bf.row rfl (λi hi=>absurd hi (Nat.not_lt_zero i)),Bf.row rfl (λi hi=>absurd hi (Nat.not_lt_zero i))⟩
 rintro ⟨k,P,e⟩ ⟨hk,he,hPl⟩
 simp only at hk he hPl
 by_cases hlt:k<l.length
 ·obtain ⟨s,hd,hg,-,-⟩:=Ae hlt
  have hg:=hg default
  have d0:decide ((k:Int)<(l.length:Int))=true:=decide_eq_true (by omega)
  have w1:IntKind.i64.wrap ((k:Int)+1)=((k+1:Nat):Int):=wS (by omega)
  have b1:(0:Int)≤(k:Int)∧(k:Int)<(l.length:Int):=by omega
  have cf:=af s e
  simp only [ib,Dt,Ar] at cf
  rw [hd,Ly] at he
  have hl1:=Hq P s.sf s.yr
  have hl2:=Hq (Au P s.sf s.yr) s.st 0
  by_cases hf:Iq s e=true
  ·rw [if_pos hf] at he
   rw [hf] at cf
   simp only [E5,Ea,Ar,Aq,Ap,d0,hg,A0,↓A3,seval]
   repeat' first|(refine tz hP cf ?_;try simp only [d0,hg,w1,A0,↓A3,seval])|refine ⟨λh=>?_,λh=>?_⟩|refine aX ?_|fail
   by_cases hN:Ng P s.sf∨I8 (Gw P s.sf) s.sf s.yr
   ·have ac:=(Si P s.sf s.yr (by omega) hN).sw 903 3
    simp only [Aq,Ap,A0,↓A3,seval] at ac
    clear hN
    refine TR.callv [(3,.fix [.osl 1000,.osl 1001]),(1000,Aq P),(1001,Ap P)] [(3,.fix [.osl 1002,.osl 1003]),(1002,Aq (Au P s.sf s.yr)),(1003,Ap (Au P s.sf s.yr))] _ [1002,1003] rfl (by rw [hP];exact ac) trivial (by repeat' first|exact trivial|(intro _;assumption)|apply And.intro) (Kw rfl rfl rfl) (by simp [keysO]) (by simp) ?_
    clear ac
    simp only [Aq,Ap,Ar,w1,A0,↓A3,seval]
    repeat' first|refine ⟨λh=>?_,λh=>?_⟩|refine aX ?_|fail
    refine TR.wk ⟨[(4,.fn (.func 232) [] [.own 3 0]),(2,.own 2 0),(3,.own 3 0),(5,.d (.int .i64 e)),(7,.own 7 0),(13,.d (E5 l)),(14,.d (.int .i64 l.length)),(15,.d (.int .i64 k)),(31,.fn (.func 232) [] [.own 3 0]),(34,.d (.int .i64 s.st))],[(2,.fix [.d (.sl true 0 0 λ_=>[]),.d (.sl true 0 0 λ_=>[])]),(3,.fix [.osl 1000,.osl 1001]),(7,.fix (Dt s)),(1000,Aq (Au P s.sf s.yr)),(1001,Ap (Au P s.sf s.yr))],[2,3,7,1000,1001]⟩ ((Wk.sw 1002 1000 _ hfn (by simp) (by simp)).trans ((Wk.sw 1003 1001 _ hfn (by simp) (by simp)).trans (Wk.of _ hfn rfl (by simp only [E5,Ea,Ar,A7,A0,↓A3,seval]) (by simp only [Aq,Ap,Dt,Ar,A7,A0,↓A3,seval])))) ?_
    simp only [Aq,Ap,Dt,E5,Ea,Ar,A0,↓A3,seval]
    by_cases hN:Ng (Au P s.sf s.yr) s.st∨I8 (Gw (Au P s.sf s.yr) s.st) s.st 0
    ·have ac:=(Si (Au P s.sf s.yr) s.st 0 (by omega) hN).sw 903 3
     simp only [Aq,Ap,A0,↓A3,seval] at ac
     clear hN
     refine TR.callv [(3,.fix [.osl 1000,.osl 1001]),(1000,Aq (Au P s.sf s.yr)),(1001,Ap (Au P s.sf s.yr))] [(3,.fix [.osl 1002,.osl 1003]),(1002,Aq (Au (Au P s.sf s.yr) s.st 0)),(1003,Ap (Au (Au P s.sf s.yr) s.st 0))] _ [1002,1003] rfl (by rw [hP];exact ac) trivial (by repeat' first|exact trivial|(intro _;assumption)|apply And.intro) (Kw rfl rfl rfl) (by simp [keysO]) (by simp) ?_
     clear ac
     simp only [Aq,Ap,Ar,w1,A0,↓A3,seval]
     repeat' first|refine ⟨λh=>?_,λh=>?_⟩|refine aX ?_|fail
     exact Al.on (k+1,Au (Au P s.sf s.yr) s.st 0,s.st) ⟨hlt,he,by simp only;omega⟩ (by simp only;omega) ((Wk.sw 1002 1000 _ hfn (by simp) (by simp)).trans ((Wk.sw 1003 1001 _ hfn (by simp) (by simp)).trans (Wk.of _ hfn rfl (by simp only [E5,Ea,Ar,w1,A7,A0,↓A3,seval]) (by simp only [Aq,Ap,A7,A0,↓A3,seval]))))
    ·have ac:=(Nd (Au P s.sf s.yr) s.st 0 (by omega) (λh=>hN (.inl h)) (λh=>hN (.inr h))).sw 903 3
     simp only [Aq,Ap,A0,↓A3,seval] at ac
     clear hN
     refine TR.callv [(3,.fix [.osl 1000,.osl 1001]),(1000,Aq (Au P s.sf s.yr)),(1001,Ap (Au P s.sf s.yr))] [(3,.fix [.osl 1000,.osl 1001]),(1000,Aq (Au (Au P s.sf s.yr) s.st 0)),(1001,Ap (Au (Au P s.sf s.yr) s.st 0))] _ [] rfl (by rw [hP];exact ac) trivial (by repeat' first|exact trivial|(intro _;assumption)|apply And.intro) (Kw rfl rfl rfl) (by simp [keysO]) (by simp) ?_
     clear ac
     simp only [Aq,Ap,Ar,w1,A0,↓A3,seval]
     repeat' first|refine ⟨λh=>?_,λh=>?_⟩|refine aX ?_|fail
     exact Al.on (k+1,Au (Au P s.sf s.yr) s.st 0,s.st) ⟨hlt,he,by simp only;omega⟩ (by simp only;omega) (Wk.of _ hfn rfl (by simp only [E5,Ea,Ar,w1,A7,A0,↓A3,seval]) (by simp only [Aq,Ap,A7,A0,↓A3,seval]))
   ·have ac:=(Nd P s.sf s.yr (by omega) (λh=>hN (.inl h)) (λh=>hN (.inr h))).sw 903 3
    simp only [Aq,Ap,A0,↓A3,seval] at ac
    clear hN
    refine TR.callv [(3,.fix [.osl 1000,.osl 1001]),(1000,Aq P),(1001,Ap P)] [(3,.fix [.osl 1000,.osl 1001]),(1000,Aq (Au P s.sf s.yr)),(1001,Ap (Au P s.sf s.yr))] _ [] rfl (by rw [hP];exact ac) trivial (by repeat' first|exact trivial|(intro _;assumption)|apply And.intro) (Kw rfl rfl rfl) (by simp [keysO]) (by simp) ?_
    clear ac
    simp only [Aq,Ap,Ar,w1,A0,↓A3,seval]
    repeat' first|refine ⟨λh=>?_,λh=>?_⟩|refine aX ?_|fail
    refine TR.wk ⟨[(4,.fn (.func 232) [] [.own 3 0]),(2,.own 2 0),(3,.own 3 0),(5,.d (.int .i64 e)),(7,.own 7 0),(13,.d (E5 l)),(14,.d (.int .i64 l.length)),(15,.d (.int .i64 k)),(31,.fn (.func 232) [] [.own 3 0]),(34,.d (.int .i64 s.st))],[(2,.fix [.d (.sl true 0 0 λ_=>[]),.d (.sl true 0 0 λ_=>[])]),(3,.fix [.osl 1000,.osl 1001]),(7,.fix (Dt s)),(1000,Aq (Au P s.sf s.yr)),(1001,Ap (Au P s.sf s.yr))],[2,3,7,1000,1001]⟩ (Wk.of _ hfn rfl (by simp only [E5,Ea,Ar,A7,A0,↓A3,seval]) (by simp only [Aq,Ap,Dt,Ar,A7,A0,↓A3,seval])) ?_
    simp only [Aq,Ap,Dt,E5,Ea,Ar,A0,↓A3,seval]
    by_cases hN:Ng (Au P s.sf s.yr) s.st∨I8 (Gw (Au P s.sf s.yr) s.st) s.st 0
    ·have ac:=(Si (Au P s.sf s.yr) s.st 0 (by omega) hN).sw 903 3
     simp only [Aq,Ap,A0,↓A3,seval] at ac
     clear hN
     refine TR.callv [(3,.fix [.osl 1000,.osl 1001]),(1000,Aq (Au P s.sf s.yr)),(1001,Ap (Au P s.sf s.yr))] [(3,.fix [.osl 1002,.osl 1003]),(1002,Aq (Au (Au P s.sf s.yr) s.st 0)),(1003,Ap (Au (Au P s.sf s.yr) s.st 0))] _ [1002,1003] rfl (by rw [hP];exact ac) trivial (by repeat' first|exact trivial|(intro _;assumption)|apply And.intro) (Kw rfl rfl rfl) (by simp [keysO]) (by simp) ?_
     clear ac
     simp only [Aq,Ap,Ar,w1,A0,↓A3,seval]
     repeat' first|refine ⟨λh=>?_,λh=>?_⟩|refine aX ?_|fail
     exact Al.on (k+1,Au (Au P s.sf s.yr) s.st 0,s.st) ⟨hlt,he,by simp only;omega⟩ (by simp only;omega) ((Wk.sw 1002 1000 _ hfn (by simp) (by simp)).trans ((Wk.sw 1003 1001 _ hfn (by simp) (by simp)).trans (Wk.of _ hfn rfl (by simp only [E5,Ea,Ar,w1,A7,A0,↓A3,seval]) (by simp only [Aq,Ap,A7,A0,↓A3,seval]))))
    ·have ac:=(Nd (Au P s.sf s.yr) s.st 0 (by omega) (λh=>hN (.inl h)) (λh=>hN (.inr h))).sw 903 3
     simp only [Aq,Ap,A0,↓A3,seval] at ac
     clear hN
     refine TR.callv [(3,.fix [.osl 1000,.osl 1001]),(1000,Aq (Au P s.sf s.yr)),(1001,Ap (Au P s.sf s.yr))] [(3,.fix [.osl 1000,.osl 1001]),(1000,Aq (Au (Au P s.sf s.yr) s.st 0)),(1001,Ap (Au (Au P s.sf s.yr) s.st 0))] _ [] rfl (by rw [hP];exact ac) trivial (by repeat' first|exact trivial|(intro _;assumption)|apply And.intro) (Kw rfl rfl rfl) (by simp [keysO]) (by simp) ?_
     clear ac
     simp only [Aq,Ap,Ar,w1,A0,↓A3,seval]
     repeat' first|refine ⟨λh=>?_,λh=>?_⟩|refine aX ?_|fail
     exact Al.on (k+1,Au (Au P s.sf s.yr) s.st 0,s.st) ⟨hlt,he,by simp only;omega⟩ (by simp only;omega) (Wk.of _ hfn rfl (by simp only [E5,Ea,Ar,w1,A7,A0,↓A3,seval]) (by simp only [Aq,Ap,A7,A0,↓A3,seval]))
  ·rw [if_neg hf] at he;cases he
 ·have d0:decide ((k:Int)<(l.length:Int))=false:=decide_eq_false (by omega)
  rw [List.drop_eq_nil_of_le (by omega),Ly] at he
  injection he with he
  subst he
  simp only [E5,Aq,Ap,d0,A0,↓A3,seval]
  repeat' first|refine ⟨λh=>?_,λh=>?_⟩|refine aX ?_|fail
  refine rK ((Wk.pub 1000 rfl).trans (Wk.pub 1001 rfl)) trivial ?_
  simp only [Ms,J7,B8,A0,↓A3,seval]
  exact Ag.ags ⟨og,mg,trivial⟩
theorem Z4 (l:List Sl) (h:Oa l=none) (hl:l.length≤9223372036854775807):Kv Tryz.prog 228 [.d (E5 l)] (ku 1):=by
 by_cases hlen:l.length>2000
 ·have dl:decide ((l.length:Int)>2000)=true:=decide_eq_true (by omega)
  refine qN Tryz.func228 λc hP hfn hpk=>?_;simp only [E5,dl,A0,↓A3,seval]
  repeat' first|refine ⟨λh=>?_,λh=>?_⟩|refine aX ?_|fail
  exact TR.cpan hP (Q5 1 (by decide)) (by repeat' first|exact trivial|(intro _;assumption)|apply And.intro) (by rw [hpk];exact Ag.refl _)
 have hG:Ly [] 1 l=none:=by rw [Oa,if_neg (by omega)] at h;exact h
 have dl:decide ((l.length:Int)>2000)=false:=decide_eq_false (by omega)
 refine qN Tryz.func228 λc hP hfn hpk=>?_;simp only [E5,dl,A0,↓A3,seval]
 repeat' first|refine ⟨λh=>?_,λh=>?_⟩|refine aX ?_|fail
 refine B4.loop (X:=Nat×List (Int×Int)×Int) (λx=>⟨[(4,.fn (.func 232) [] [.own 3 0]),(2,.own 2 0),(3,.own 3 0),(5,.d (.int .i64 x.2.2)),(13,.d (E5 l)),(14,.d (.int .i64 l.length)),(15,.d (.int .i64 x.1))],[(2,.fix [.d (.sl true 0 0 λ_=>[]),.d (.sl true 0 0 λ_=>[])]),(3,.fix [.osl 1000,.osl 1001]),(1000,Aq x.2.1),(1001,Ap x.2.1)],[2,3,1000,1001]⟩)
  (λx=>x.1≤l.length∧Ly x.2.1 x.2.2 (l.drop x.1)=none∧x.2.1.length≤2*x.1) (λx=>l.length-x.1) (0,[],1) ⟨Nat.zero_le _,hG,Nat.le_refl _⟩ ?_ ?_
 ·refine (Wk.row0F 3 0 1000 3 1 (λ_=>[]) rfl rfl (by simp)).trans ((Wk.row0F 3 1 1001 3 1 (λ_=>[]) rfl rfl (by simp)).trans (Wk.of _ hfn rfl ?_ ?_))
  ·simp only [E5,A7,A0,↓A3,seval]
  ·simp only [Aq,Ap,A7,A0,↓A3,seval]
   exact ⟨Bf.row rfl (λi hi=>absurd hi (Nat.not_lt_zero i)),Bf.row rfl (λi hi=>absurd hi (Nat.not_lt_zero i))⟩
 rintro ⟨k,P,e⟩ ⟨hk,he,hPl⟩
 simp only at hk he hPl
 by_cases hlt:k<l.length
 ·obtain ⟨s,hd,hg,-,-⟩:=Ae hlt
  have hg:=hg default
  have d0:decide ((k:Int)<(l.length:Int))=true:=decide_eq_true (by omega)
  have w1:IntKind.i64.wrap ((k:Int)+1)=((k+1:Nat):Int):=wS (by omega)
  have b1:(0:Int)≤(k:Int)∧(k:Int)<(l.length:Int):=by omega
  have cf:=af s e
  simp only [ib,Dt,Ar] at cf
  rw [hd,Ly] at he
  have hl1:=Hq P s.sf s.yr
  have hl2:=Hq (Au P s.sf s.yr) s.st 0
  by_cases hf:Iq s e=true
  ·rw [if_pos hf] at he
   rw [hf] at cf
   simp only [E5,Ea,Ar,Aq,Ap,d0,hg,A0,↓A3,seval]
   repeat' first|(refine tz hP cf ?_;try simp only [d0,hg,w1,A0,↓A3,seval])|refine ⟨λh=>?_,λh=>?_⟩|refine aX ?_|fail
   by_cases hN:Ng P s.sf∨I8 (Gw P s.sf) s.sf s.yr
   ·have ac:=(Si P s.sf s.yr (by omega) hN).sw 903 3
    simp only [Aq,Ap,A0,↓A3,seval] at ac
    clear hN
    refine TR.callv [(3,.fix [.osl 1000,.osl 1001]),(1000,Aq P),(1001,Ap P)] [(3,.fix [.osl 1002,.osl 1003]),(1002,Aq (Au P s.sf s.yr)),(1003,Ap (Au P s.sf s.yr))] _ [1002,1003] rfl (by rw [hP];exact ac) trivial (by repeat' first|exact trivial|(intro _;assumption)|apply And.intro) (Kw rfl rfl rfl) (by simp [keysO]) (by simp) ?_
    clear ac
    simp only [Aq,Ap,Ar,w1,A0,↓A3,seval]
    repeat' first|refine ⟨λh=>?_,λh=>?_⟩|refine aX ?_|fail
    refine TR.wk ⟨[(4,.fn (.func 232) [] [.own 3 0]),(2,.own 2 0),(3,.own 3 0),(5,.d (.int .i64 e)),(7,.own 7 0),(13,.d (E5 l)),(14,.d (.int .i64 l.length)),(15,.d (.int .i64 k)),(31,.fn (.func 232) [] [.own 3 0]),(34,.d (.int .i64 s.st))],[(2,.fix [.d (.sl true 0 0 λ_=>[]),.d (.sl true 0 0 λ_=>[])]),(3,.fix [.osl 1000,.osl 1001]),(7,.fix (Dt s)),(1000,Aq (Au P s.sf s.yr)),(1001,Ap (Au P s.sf s.yr))],[2,3,7,1000,1001]⟩ ((Wk.sw 1002 1000 _ hfn (by simp) (by simp)).trans ((Wk.sw 1003 1001 _ hfn (by simp) (by simp)).trans (Wk.of _ hfn rfl (by simp only [E5,Ea,Ar,A7,A0,↓A3,seval]) (by simp only [Aq,Ap,Dt,Ar,A7,A0,↓A3,seval])))) ?_
    simp only [Aq,Ap,Dt,E5,Ea,Ar,A0,↓A3,seval]
    by_cases hN:Ng (Au P s.sf s.yr) s.st∨I8 (Gw (Au P s.sf s.yr) s.st) s.st 0
    ·have ac:=(Si (Au P s.sf s.yr) s.st 0 (by omega) hN).sw 903 3
     simp only [Aq,Ap,A0,↓A3,seval] at ac
     clear hN
     refine TR.callv [(3,.fix [.osl 1000,.osl 1001]),(1000,Aq (Au P s.sf s.yr)),(1001,Ap (Au P s.sf s.yr))] [(3,.fix [.osl 1002,.osl 1003]),(1002,Aq (Au (Au P s.sf s.yr) s.st 0)),(1003,Ap (Au (Au P s.sf s.yr) s.st 0))] _ [1002,1003] rfl (by rw [hP];exact ac) trivial (by repeat' first|exact trivial|(intro _;assumption)|apply And.intro) (Kw rfl rfl rfl) (by simp [keysO]) (by simp) ?_
     clear ac
     simp only [Aq,Ap,Ar,w1,A0,↓A3,seval]
     repeat' first|refine ⟨λh=>?_,λh=>?_⟩|refine aX ?_|fail
     exact Al.on (k+1,Au (Au P s.sf s.yr) s.st 0,s.st) ⟨hlt,he,by simp only;omega⟩ (by simp only;omega) ((Wk.sw 1002 1000 _ hfn (by simp) (by simp)).trans ((Wk.sw 1003 1001 _ hfn (by simp) (by simp)).trans (Wk.of _ hfn rfl (by simp only [E5,Ea,Ar,w1,A7,A0,↓A3,seval]) (by simp only [Aq,Ap,A7,A0,↓A3,seval]))))
    ·have ac:=(Nd (Au P s.sf s.yr) s.st 0 (by omega) (λh=>hN (.inl h)) (λh=>hN (.inr h))).sw 903 3
     simp only [Aq,Ap,A0,↓A3,seval] at ac
     clear hN
     refine TR.callv [(3,.fix [.osl 1000,.osl 1001]),(1000,Aq (Au P s.sf s.yr)),(1001,Ap (Au P s.sf s.yr))] [(3,.fix [.osl 1000,.osl 1001]),(1000,Aq (Au (Au P s.sf s.yr) s.st 0)),(1001,Ap (Au (Au P s.sf s.yr) s.st 0))] _ [] rfl (by rw [hP];exact ac) trivial (by repeat' first|exact trivial|(intro _;assumption)|apply And.intro) (Kw rfl rfl rfl) (by simp [keysO]) (by simp) ?_
     clear ac
     simp only [Aq,Ap,Ar,w1,A0,↓A3,seval]
     repeat' first|refine ⟨λh=>?_,λh=>?_⟩|refine aX ?_|fail
     exact Al.on (k+1,Au (Au P s.sf s.yr) s.st 0,s.st) ⟨hlt,he,by simp only;omega⟩ (by simp only;omega) (Wk.of _ hfn rfl (by simp only [E5,Ea,Ar,w1,A7,A0,↓A3,seval]) (by simp only [Aq,Ap,A7,A0,↓A3,seval]))
   ·have ac:=(Nd P s.sf s.yr (by omega) (λh=>hN (.inl h)) (λh=>hN (.inr h))).sw 903 3
    simp only [Aq,Ap,A0,↓A3,seval] at ac
    clear hN
    refine TR.callv [(3,.fix [.osl 1000,.osl 1001]),(1000,Aq P),(1001,Ap P)] [(3,.fix [.osl 1000,.osl 1001]),(1000,Aq (Au P s.sf s.yr)),(1001,Ap (Au P s.sf s.yr))] _ [] rfl (by rw [hP];exact ac) trivial (by repeat' first|exact trivial|(intro _;assumption)|apply And.intro) (Kw rfl rfl rfl) (by simp [keysO]) (by simp) ?_
    clear ac
    simp only [Aq,Ap,Ar,w1,A0,↓A3,seval]
    repeat' first|refine ⟨λh=>?_,λh=>?_⟩|refine aX ?_|fail
    refine TR.wk ⟨[(4,.fn (.func 232) [] [.own 3 0]),(2,.own 2 0),(3,.own 3 0),(5,.d (.int .i64 e)),(7,.own 7 0),(13,.d (E5 l)),(14,.d (.int .i64 l.length)),(15,.d (.int .i64 k)),(31,.fn (.func 232) [] [.own 3 0]),(34,.d (.int .i64 s.st))],[(2,.fix [.d (.sl true 0 0 λ_=>[]),.d (.sl true 0 0 λ_=>[])]),(3,.fix [.osl 1000,.osl 1001]),(7,.fix (Dt s)),(1000,Aq (Au P s.sf s.yr)),(1001,Ap (Au P s.sf s.yr))],[2,3,7,1000,1001]⟩ (Wk.of _ hfn rfl (by simp only [E5,Ea,Ar,A7,A0,↓A3,seval]) (by simp only [Aq,Ap,Dt,Ar,A7,A0,↓A3,seval])) ?_
    simp only [Aq,Ap,Dt,E5,Ea,Ar,A0,↓A3,seval]
    by_cases hN:Ng (Au P s.sf s.yr) s.st∨I8 (Gw (Au P s.sf s.yr) s.st) s.st 0
    ·have ac:=(Si (Au P s.sf s.yr) s.st 0 (by omega) hN).sw 903 3
     simp only [Aq,Ap,A0,↓A3,seval] at ac
     clear hN
     refine TR.callv [(3,.fix [.osl 1000,.osl 1001]),(1000,Aq (Au P s.sf s.yr)),(1001,Ap (Au P s.sf s.yr))] [(3,.fix [.osl 1002,.osl 1003]),(1002,Aq (Au (Au P s.sf s.yr) s.st 0)),(1003,Ap (Au (Au P s.sf s.yr) s.st 0))] _ [1002,1003] rfl (by rw [hP];exact ac) trivial (by repeat' first|exact trivial|(intro _;assumption)|apply And.intro) (Kw rfl rfl rfl) (by simp [keysO]) (by simp) ?_
     clear ac
     simp only [Aq,Ap,Ar,w1,A0,↓A3,seval]
     repeat' first|refine ⟨λh=>?_,λh=>?_⟩|refine aX ?_|fail
     exact Al.on (k+1,Au (Au P s.sf s.yr) s.st 0,s.st) ⟨hlt,he,by simp only;omega⟩ (by simp only;omega) ((Wk.sw 1002 1000 _ hfn (by simp) (by simp)).trans ((Wk.sw 1003 1001 _ hfn (by simp) (by simp)).trans (Wk.of _ hfn rfl (by simp only [E5,Ea,Ar,w1,A7,A0,↓A3,seval]) (by simp only [Aq,Ap,A7,A0,↓A3,seval]))))
    ·have ac:=(Nd (Au P s.sf s.yr) s.st 0 (by omega) (λh=>hN (.inl h)) (λh=>hN (.inr h))).sw 903 3
     simp only [Aq,Ap,A0,↓A3,seval] at ac
     clear hN
     refine TR.callv [(3,.fix [.osl 1000,.osl 1001]),(1000,Aq (Au P s.sf s.yr)),(1001,Ap (Au P s.sf s.yr))] [(3,.fix [.osl 1000,.osl 1001]),(1000,Aq (Au (Au P s.sf s.yr) s.st 0)),(1001,Ap (Au (Au P s.sf s.yr) s.st 0))] _ [] rfl (by rw [hP];exact ac) trivial (by repeat' first|exact trivial|(intro _;assumption)|apply And.intro) (Kw rfl rfl rfl) (by simp [keysO]) (by simp) ?_
     clear ac
     simp only [Aq,Ap,Ar,w1,A0,↓A3,seval]
     repeat' first|refine ⟨λh=>?_,λh=>?_⟩|refine aX ?_|fail
     exact Al.on (k+1,Au (Au P s.sf s.yr) s.st 0,s.st) ⟨hlt,he,by simp only;omega⟩ (by simp only;omega) (Wk.of _ hfn rfl (by simp only [E5,Ea,Ar,w1,A7,A0,↓A3,seval]) (by simp only [Aq,Ap,A7,A0,↓A3,seval]))
  ·have hf:Iq s e=false:=by simpa using hf
   rw [hf] at cf
   simp only [E5,Ea,Ar,Aq,Ap,d0,hg,A0,↓A3,seval]
   repeat' first|(refine tz hP cf ?_;try simp only [d0,hg,w1,A0,↓A3,seval])|refine ⟨λh=>?_,λh=>?_⟩|refine aX ?_|fail
   exact TR.cpan hP (Q5 1 (by decide)) (by repeat' first|exact trivial|(intro _;assumption)|apply And.intro) (by rw [hpk];exact Ag.refl _)
 ·rw [List.drop_eq_nil_of_le (by omega),Ly] at he
  cases he
theorem ap {g g':Int→Int}:∀ (n:Nat) (a:Int),(∀ d,g d≤g' d)→F6 g a n≤F6 g' a n
 |0,a,_=>Int.le_refl _
 |n+1,a,h=>by
  have h1:=h a
  have h2:=ap n (a+1) h
  rw [F6,F6];omega
theorem Ys (P:List (Int×Int)) (a b:Int):(H6 P a b).1≤4000000000000000000:=by
 rw [ve]
 split
 ·split
  ·simp
  ·rename_i h
   have:=ap (g:=Dq P) (g':=λd=>max (Dq P d) (-(Dq P d))) (b-a).toNat a (λd=>by omega)
   simp only;omega
 ·simp
def Re (day:Int):Int:=min (max day 1) 292195
def By (P:List (Int×Int)) (day:Int):Int×Int:=
 if Re day=1 then (0,0) else if (H6 P 1 (Re day)).2≠0 then (0,(H6 P 1 (Re day)).2) else Tq ig (H6 P 1 (Re day)).1 1 365
theorem sg {up:Nat→Nat→Nat→Bool} {a b c:Int} (h:(Tq up a b c).2≠0):(Tq up a b c).1=0:=by
 revert h
 unfold Tq
 repeat' split
 all_goals simp
theorem fe {P:List (Int×Int)} {day:Int} (h:(By P day).2≠0):(By P day).1=0:=by
 unfold By at h ⊢
 split at h
 ·simp at h
 ·split at h
  ·rename_i h1 h2;rw [if_neg h1,if_pos h2]
  ·rename_i h1 h2;rw [if_neg h1,if_neg h2];exact sg h
theorem Uz (P:List (Int×Int)) (day:Int) (hl:P.length≤1000000) (h:(By P day).2=0):Aj Tryz.prog 230 [Ms P,.d (.int .i64 day)] [] (.d (.int .i64 (By P day).1)) [] []:=by
 have cs:=yi P 1 (Re day) hl
 have ce:=nf (H6 P 1 (Re day)).1 1 365 (by have:=Ys P 1 (Re day);omega) (by omega) (by omega)
 simp only [Ms,J7,slK,List.length_map,vS] at cs
 by_cases h1:Re day=1
 ·have d0:(min (max day 1) 292195 == 1)=true:=beq_iff_eq.2 h1
  have e:By P day=(0,0):=by rw [By,if_pos h1]
  rw [e]
  refine qP Tryz.func230 λc hP hfn=>?_;simp only [Ms,J7,slK,List.length_map,d0,A0,↓A3,seval]
  repeat' first|refine ⟨λh=>?_,λh=>?_⟩|refine aX ?_|fail
  exact rr
 ·have d0:(min (max day 1) 292195 == 1)=false:=beq_false_of_ne h1
  have n0:((0:Int) != 0)=false:=rfl
  by_cases h2:(H6 P 1 (Re day)).2=0
  ·have e:By P day=Tq ig (H6 P 1 (Re day)).1 1 365:=by rw [By,if_neg h1,if_neg (by simpa using h2)]
   rw [e] at h ⊢
   rw [h2] at cs
   rw [h] at ce
   simp only [Re] at cs ce ⊢
   refine qP Tryz.func230 λc hP hfn=>?_;simp only [Ms,J7,slK,List.length_map,d0,A0,↓A3,seval]
   repeat' first|(refine tq hP (h:=⟨_,λ_=>by first|exact cs|exact ce|exact mq,?_⟩);try simp only [d0,A0,↓A3,seval])|refine ⟨λh=>?_,λh=>?_⟩|refine aX ?_|fail
   exact rr
  ·have e:By P day=(0,(H6 P 1 (Re day)).2):=by rw [By,if_neg h1,if_pos h2]
   rw [e] at h
   exact absurd h h2
theorem Xs (P:List (Int×Int)) (day:Int) (hl:P.length≤1000000) (h:(By P day).2≠0):Kv Tryz.prog 230 [Ms P,.d (.int .i64 day)] (ku (By P day).2):=by
 have cs:=yi P 1 (Re day) hl
 have ce:=nf (H6 P 1 (Re day)).1 1 365 (by have:=Ys P 1 (Re day);omega) (by omega) (by omega)
 simp only [Ms,J7,slK,List.length_map,vS] at cs
 by_cases h1:Re day=1
 ·have e:By P day=(0,0):=by rw [By,if_pos h1]
  rw [e] at h
  exact absurd rfl h
 ·have d0:(min (max day 1) 292195 == 1)=false:=beq_false_of_ne h1
  by_cases h2:(H6 P 1 (Re day)).2=0
  ·have e:By P day=Tq ig (H6 P 1 (Re day)).1 1 365:=by rw [By,if_neg h1,if_neg (by simpa using h2)]
   rw [e] at h ⊢
   rw [h2] at cs
   simp only [Re] at cs ce h ⊢
   refine qN Tryz.func230 λc hP hfn hpk=>?_;simp only [Ms,J7,slK,List.length_map,d0,A0,↓A3,seval]
   repeat' first|(refine tq hP (h:=⟨_,λ_=>by first|exact cs|exact ce|exact mq,?_⟩);try simp only [d0,A0,↓A3,seval])|refine ⟨λh=>?_,λh=>?_⟩|refine aX ?_|fail
   exact TR.cpan hP (Q5 _ h) (by repeat' first|exact trivial|(intro _;assumption)|apply And.intro) (by rw [hpk];exact Ag.refl _)
  ·have e:By P day=(0,(H6 P 1 (Re day)).2):=by rw [By,if_neg h1,if_pos h2]
   rw [e]
   simp only [Re] at cs h2 ⊢
   refine qN Tryz.func230 λc hP hfn hpk=>?_;simp only [Ms,J7,slK,List.length_map,d0,A0,↓A3,seval]
   repeat' first|(refine tz hP cs ?_;try simp only [d0,A0,↓A3,seval])|refine ⟨λh=>?_,λh=>?_⟩|refine aX ?_|fail
   exact TR.cpan hP (Q5 _ h2) (by repeat' first|exact trivial|(intro _;assumption)|apply And.intro) (by rw [hpk];exact Ag.refl _)
theorem X2 {l:List Sl} {P:List (Int×Int)} (h:Oa l=some P):P.length≤10000:=by
 have:∀ (l:List Sl) (P Q:List (Int×Int)) (e:Int),Ly P e l=some Q→Q.length≤P.length+2*l.length:=by
  intro l
  induction l with
  |nil=>intro P Q e h;simp only [Ly,Option.some.injEq] at h;subst h;simp
  |cons s l ih =>
   intro P Q e h
   rw [Ly] at h
   split at h
   ·have h1:=ih _ _ _ h
    have h2:=Hq (Au P s.sf s.yr) s.st 0
    have h3:=Hq P s.sf s.yr
    rw [List.length_cons];omega
   ·cases h
 have h1:=(Zn h).2.1
 rw [Oa,if_neg (by omega)] at h
 have:=this _ _ _ _ h
 simp only [List.length_nil] at this
 omega
def I0 (l:List Sl) (day:Int):Int×Int:=match Oa l with|none=>(0,1)|some P=>By P day
theorem sUptoF (l:List Sl) (day:Int) (hl:l.length≤9223372036854775807):Aj Tryz.prog 223 [.d (E5 l),.d (.int .i64 day)] [] (.tup [.d (.int .i64 (I0 l day).1),.d (.int .i64 (I0 l day).2)]) [] []:=by
 cases hc:Oa l with
 |none =>
  have e:I0 l day=(0,1):=by rw [I0,hc]
  have cp:=Z4 l hc hl
  simp only [E5,Ea,Ar] at cp
  rw [e]
  refine qD 227 [5] Tryz.func223 λc hP hfn=>?_;simp only [E5,Ea,Ar,A0,↓A3,seval]
  rw [Cp]
  simp only [A0,↓A3,seval]
  refine ⟨⟨_,_,rfl,trivial,by simp only [A0,↓A3,seval],rfl⟩,by simp [keysO],λc2 hP2 hfn2 hrd2 hpk2=>?_⟩
  refine Jn.of ?_
  simp only [A0,↓A3,seval]
  refine TR.cpan (hP2.trans hP) cp (by repeat' first|exact trivial|(intro _;assumption)|apply And.intro) ?_
  rw [hpk2]
  refine ⟨[(5,.fix [.d (.int .i64 0)])],[(5,.fix [.d (.int .i64 1)])],by rw [hP];exact Qq 5 0 1,λk o hm=>Ay (by simp [keysO]) hm,?_,?_⟩
  ·first|(simp only [B8,A0,↓A3,seval];done)|trivial
  ·simp only [B8,A7,A0,↓A3,seval]
 |some P =>
  have hPl:=X2 hc
  have cc:=nk l P hc
  simp only [E5,Ea,Ar] at cc
  have e:I0 l day=By P day:=by rw [I0,hc]
  rw [e]
  by_cases h:(By P day).2=0
  ·have cu:=Uz P day (by omega) h
   rw [h]
   refine qD 227 [5] Tryz.func223 λc hP hfn=>?_;simp only [E5,Ea,Ar,A0,↓A3,seval]
   rw [Cp]
   simp only [A0,↓A3,seval]
   refine ⟨⟨_,_,rfl,trivial,by simp only [A0,↓A3,seval],rfl⟩,by simp [keysO],λc2 hP2 hfn2 hrd2 hpk2=>?_⟩
   refine Jn.of ?_
   have hP:=hP2.trans hP
   simp only [A0,↓A3,seval]
   repeat' first|(refine tq hP (h:=⟨_,λ_=>by first|exact cc|exact cu,?_⟩);try simp only [A0,↓A3,seval])|refine ⟨λh=>?_,λh=>?_⟩|refine aX ?_|fail
   refine ⟨_,[(5,.fix [.d (.int .i64 0)])],[(5,.fix [.d (.int .i64 0)])],Wk.refl _ _,by rw [hP];exact nw 5 0,λk o hm=>Ay (by simp [keysO]) hm,?_,?_⟩
   ·first|(simp only [B8,A0,↓A3,seval];done)|trivial
   ·simp only [B8,A7,A0,↓A3,seval]
  ·have cu:=Xs P day (by omega) h
   have e0:=fe h
   rw [e0]
   refine qD 227 [5] Tryz.func223 λc hP hfn=>?_;simp only [E5,Ea,Ar,A0,↓A3,seval]
   rw [Cp]
   simp only [A0,↓A3,seval]
   refine ⟨⟨_,_,rfl,trivial,by simp only [A0,↓A3,seval],rfl⟩,by simp [keysO],λc2 hP2 hfn2 hrd2 hpk2=>?_⟩
   refine Jn.of ?_
   have hP:=hP2.trans hP
   simp only [A0,↓A3,seval]
   repeat' first|(refine tz hP cc ?_;try simp only [A0,↓A3,seval])|refine ⟨λh=>?_,λh=>?_⟩|refine aX ?_|fail
   refine TR.cpan hP cu (by repeat' first|exact trivial|(intro _;assumption)|apply And.intro) ?_
   rw [hpk2]
   refine ⟨[(5,.fix [.d (.int .i64 0)])],[(5,.fix [.d (.int .i64 (By P day).2)])],by rw [←hP2,hP];exact Qq 5 0 _,λk o hm=>Ay (by simp [keysO]) hm,?_,?_⟩
   ·first|(simp only [B8,A0,↓A3,seval];done)|trivial
   ·simp only [B8,A7,A0,↓A3,seval]
theorem lc (l:List Sl) (hl:l.length≤9223372036854775807):Aj Tryz.prog 216 [.d (E5 l)] [] (.tup [.d (.int .i64 (I0 l 292195).1),.d (.int .i64 (I0 l 292195).2)]) [] []:=by
 have cu:=sUptoF l 292195 hl
 simp only [E5,Ea,Ar] at cu
 refine qP Tryz.func216 λc hP hfn=>?_;simp only [E5,Ea,Ar,A0,↓A3,seval]
 repeat' first|(refine tz hP cu ?_;try simp only [A0,↓A3,seval])|refine ⟨λh=>?_,λh=>?_⟩|refine aX ?_|fail
 exact rr
def J8 (l:List Sl) (a b:Int):Int×Int:=
 match Oa l with
 |none=>(0,1)
 |some P=>if okS a b=false then (0,1) else if (By P b).2≠0 then (0,(By P b).2) else if (By P a).2≠0 then (0,(By P a).2) else (IntKind.i64.wrap ((By P b).1-(By P a).1),0)
def Yn (l:List Sl) (a b:Int):V:=if (J8 l a b).2=0 then .d (.int .i64 (J8 l a b).1) else .un
theorem pan5 {st1:St} (h1:own? st1.own 5=some (.fix [.d (.int .i64 0)])) (h2:Go.Bx.get st1.env 5=.own 5 0) (e:Int):uy Tryz.prog 227 [5] [.tmp 4,.cell 5 1 false] (.tup [.un,.d (.int .i64 e)]) (ku e) st1:=by
 have ho:own? (applyU st1.own (callU [(5,Go.Bx.Own.fix [.d (.int .i64 0)])] [(5,.fix [.d (.int .i64 e)])])) 5=some (.fix [.d (.int .i64 e)]):=by
  simp only [callU,List.map_cons,List.map_nil,List.append_nil,applyU,Af,A0,↓A3,seval]
 refine ⟨[(5,.fix [.d (.int .i64 0)])],[(5,.fix [.d (.int .i64 e)])],Qq 5 0 e,λk o hm=>?_,?_,?_⟩
 ·simp only [List.mem_cons,Prod.mk.injEq,List.not_mem_nil,or_false] at hm
  obtain ⟨rfl,rfl⟩:=hm
  exact h1
 ·simp only [ressS,resS,h2,ho]
  simp
 ·simp only [retV,ressV,resV,h2,ho]
  exact Ag.tups ⟨Ag.un _,Ag.refl _,trivial⟩
end Go.Proofs.YtakohhkgeeoniaaGreat
end
