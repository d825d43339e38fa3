import Derived.Test.YtmccbkekpjgdbaaGreatXA11
set_option linter.unusedSimpArgs false
set_option linter.unusedVariables false
section
namespace Go.Proofs.YtmccbkekpjgdbaaGreat
open Go.Bx
theorem daysL_ok (l:List Fi):(daysL l).Pairwise (·<·)∧∀ n,n∈daysL l↔n∈bksL l:=by
 obtain ⟨h1,h2⟩:=dedup_nd (bksL l)
 have hp:(daysL l).Perm (dedupL (bksL l)):=List.mergeSort_perm _ _
 have hs:(daysL l).Pairwise (·≤·):=by
  have:=List.pairwise_mergeSort (le:=fun x y:Int=>decide (x≤y)) (fun a b c h1 h2=>by simp at *;omega) (fun a b=>by simp;omega) (dedupL (bksL l))
  exact this.imp fun h=>by simpa using h
 refine ⟨?_,fun n=>by rw [hp.mem_iff,h2]⟩
 have hn:(daysL l).Nodup:=hp.nodup_iff.2 h1
 exact (hs.and hn).imp fun ⟨a,b⟩=>by omega
theorem mem_bksL {l:List Fi} {n:Int}:n∈bksL l↔∃ f,f∈l∧(n=f.cl.bk∨∃ a,a∈f.ac∧a.bk=n):=by
 simp only [bksL,List.mem_flatMap,List.mem_cons,List.mem_map]
theorem bksL_n (l:List Fi):(bksL l).length=l.length+actsN l:=by
 induction l with
 |nil=>rfl
 |cons f l ih =>
  have:bksL (f::l)=(f.cl.bk::f.ac.map (·.bk))++bksL l:=rfl
  rw [this,List.length_append,ih,List.length_cons,List.length_map,actsN,List.length_cons];omega
theorem curve_val {c:Cv} {l:List Fi} (h:RightOk c l) (h1:I64 c.li) (h2:I64 c.ag):stG 0 0 (curY (vDay c l) (daysL l))=true∧∀ d,valS (curY (vDay c l) (daysL l)) d=paidBy (rowsP c l).rows d:=by
 have hf:=h.fine h1 h2
 obtain ⟨hd1,hd2⟩:=daysL_ok l
 have ro:=rows_ok h hf
 have hv:∀ d,vDay c l d=paidBy (rowsP c l).rows d:=fun d=>by
  rw [vDay,sumL_pd (known_ok h d) hf]
  exact known_al (paysC c) l h.aft d
 have hvb:∀ d,0≤vDay c l d∧vDay c l d≤4000000000000000000:=fun d=>by
  have:=(rows_ok (known_ok h d) hf).al
  rw [vDay,sumL_pd (known_ok h d) hf];omega
 have hdr:∀ d,d∈daysL l→1≤d∧d≤292194:=fun d hd=>by
  obtain ⟨f,hf',h3⟩:=mem_bksL.1 ((hd2 d).1 hd)
  rcases h3 with rfl|⟨a,ha,rfl⟩
  ·exact (formedC_iff.1 (badF_iff.1 (h.fl f hf')).1).2.1.2
  ·exact (rightA_iff.1 ((h.made hf').rt a ha)).1
 have ok:=curY_ok (vDay c l) hvb (daysL l) hd1 hdr _ (Nat.le_refl _)
 rw [List.take_length] at ok
 refine ⟨ok.st,fun d=>?_⟩
 have e:vDay c l=paidBy (rowsP c l).rows:=funext hv
 rw [ok.val d,e]
 refine lastV_eq hd1 (fun p hp=>?_) d
 obtain ⟨s,hs,-,hb⟩:=ro.bk p hp
 obtain ⟨-,f,h3,h4⟩:=stepsL_mem hs
 rw [hd2,mem_bksL]
 exact ⟨f,List.mem_of_getElem? h3,.inr ⟨s.ac,h4,hb.symm⟩⟩
def rowsW (l:List Fi) (Q:List (Nat×Int×Int)):List Rw:=Q.map fun p=>((l.getD p.1 default).cl.lo,p.2.1,p.2.2)
theorem rowsW_by (l:List Fi) (Q:List (Nat×Int×Int)) (d:Int):(((rowsW l Q).filter fun x=>decide (x.2.1≤d)).map (·.2.2)).sum=paidBy Q d:=by
 rw [rowsW,List.filter_map,List.map_map,paidBy]
 rfl
theorem rowsW_ok {c:Cv} {l:List Fi} (h:RightOk c l) (h1:I64 c.li) (h2:I64 c.ag):RwOk (rowsW l (rowsP c l).rows):=by
 have hf:=h.fine h1 h2
 have ro:=rows_ok h hf
 have key:∀ x,x∈rowsW l (rowsP c l).rows→∃ p f,p∈(rowsP c l).rows∧f∈l∧x=(f.cl.lo,p.2.1,p.2.2):=fun x hx=>by
  obtain ⟨p,hp,rfl⟩:=List.mem_map.1 hx
  obtain ⟨f,-,hg,hm,-⟩:=drop_at (ro.fi p hp)
  exact ⟨p,f,hp,hm,by rw [hg]⟩
 refine ⟨by rw [rowsW,List.length_map];exact ro.len,fun x hx=>?_,fun x hx=>?_,fun x hx=>?_,?_⟩
 ·obtain ⟨p,f,hp,hm,rfl⟩:=key x hx
  exact (formedC_iff.1 (badF_iff.1 (h.fl f hm)).1).2.1.1
 ·obtain ⟨p,f,hp,hm,rfl⟩:=key x hx
  obtain ⟨s,hs,-,hb⟩:=ro.bk p hp
  obtain ⟨-,g,h3,h4⟩:=stepsL_mem hs
  show 1≤p.2.1∧p.2.1≤292194
  rw [hb]
  exact (rightA_iff.1 ((h.made (List.mem_of_getElem? h3)).rt s.ac h4)).1
 ·obtain ⟨p,f,hp,hm,rfl⟩:=key x hx
  exact ro.ps p hp
 ·have e:(rowsW l (rowsP c l).rows).map (·.2.2)=(rowsP c l).rows.map (·.2.2):=by rw [rowsW,List.map_map];rfl
  rw [e,←ro.sum];exact ro.al.2
theorem diag_ok {R:List Rw} (h:RwOk R) (he:triE R=0):R≠[]∧1601≤frF R∧frF R+nT R≤2401∧∀ k:Nat,sumR (fun i=>cellT (frF R) R i ((k:Int)-i)) (k+1)=((R.filter fun x=>decide (x.2.1≤ahD (frF R+k+1))).map (·.2.2)).sum:=by
 unfold triE at he
 split at he
 ·cases he
 ·rename_i h0
  split at he
  ·cases he
  ·rename_i hb
   have hbad:∀ x,x∈R→x.1≤x.2.1:=fun x hx=>by
    have:R.any badR=false:=by simpa using hb
    have:=List.any_eq_false.1 this x hx
    simp only [badR,decide_eq_true_eq] at this;omega
   obtain ⟨f1,f2,f3⟩:=frF_le R 2401
   obtain ⟨t1,t2,t3⟩:=toF_le R 0
   have hfr:R.foldl (fun a x=>min a (yrD x.1)) 2401=frF R:=rfl
   have hto:R.foldl (fun a x=>max a (yrD x.2.1)) 0=toF R:=rfl
   rw [hfr] at f1 f2 f3
   rw [hto] at t1 t2 t3
   have hb1:1601≤frF R:=by
    rcases f3 with e|⟨x,hx,e⟩
    ·omega
    ·have:=yr_bd (h.a x hx);omega
   have hb2:toF R≤2400:=by
    rcases t3 with e|⟨x,hx,e⟩
    ·omega
    ·have:=yr_bd (h.b x hx);omega
   exact ⟨h0,hb1,by unfold nT;omega,fun k=>tri_diag hb1 k R fun x hx=>⟨(h.a x hx).1,hbad x hx,(h.b x hx).2,f2 x hx⟩⟩
theorem triN_pos {R:List Rw} (h:RwOk R) (he:triE R=0):1≤nT R∧nT R≤20:=by
 unfold triE at he
 split at he
 ·cases he
 ·rename_i h0
  split at he
  ·cases he
  ·rename_i hb
   split at he
   ·cases he
   ·rename_i hn
    refine ⟨?_,by omega⟩
    obtain ⟨x,hx⟩:∃ x,x∈R:=by
     cases R with
     |nil=>exact absurd rfl h0
     |cons x R=>exact ⟨x,by simp⟩
    have hbx:x.1≤x.2.1:=by
     have:R.any badR=false:=by simpa using hb
     have:=List.any_eq_false.1 this x hx
     simp only [badR,decide_eq_true_eq] at this;omega
    have v1:=(frF_le R 2401).2.1 x hx
    have v2:=(toF_le R 0).2.1 x hx
    have v3:=yr_mono (h.a x hx).1 hbx (h.b x hx).2
    have hfr:R.foldl (fun a x=>min a (yrD x.1)) 2401=frF R:=rfl
    have hto:R.foldl (fun a x=>max a (yrD x.2.1)) 0=toF R:=rfl
    rw [hfr] at v1
    rw [hto] at v2
    unfold nT;omega
end Go.Proofs.YtmccbkekpjgdbaaGreat
end
section
namespace Go.Proofs.YtmccbkekpjgdbaaGreat
open Go.Bx
set_option maxRecDepth 10000
def kdC (l:List Ch) (i:Int):Int:=(l.getD i.toNat default).kd
def isT (l:List Ch) (i:Int):Bool:=(kdC l i == 3) || (kdC l i == 4)
def turnL (l:List Ch) (O:List Int):Option Int:=O.reverse.find? (isT l)
def turnS (h:Hi):Option Int:=turnL h.ch (orderC h.ch)
theorem turnL_snoc (l:List Ch) (O:List Int) (x:Int):turnL l (O++[x])=if isT l x=true then some x else turnL l O:=by
 rw [turnL,List.reverse_append,List.reverse_singleton,List.singleton_append,List.find?_cons]
 cases isT l x<;>rfl
theorem turnL_mem {l:List Ch} {O:List Int} {x:Int} (h:turnL l O=some x):x∈O∧isT l x=true:=by
 have h1:=List.mem_of_find?_eq_some h
 have h2:=List.find?_some h
 exact ⟨by simpa using h1,h2⟩
def turnV (o:Option Int):Int:=o.getD 0
set_option maxHeartbeats 1000000 in
theorem sTurn (hh:Hi) (hn:hh.ch.length≤18):Ctr Tryz.prog 61 [vHi hh] [] (.tup [.d (.int .i64 (turnV (turnS hh))),.d (.bool (turnS hh).isSome)]) [] []:=by
 have co:=sOrderC hh hn
 simp only [slK] at co
 have hol:=orderC_len hh.ch
 simp only [vHi,cHi,slC,slH,dCh] at co
 obtain ⟨O,hO⟩:∃ O,O=orderC hh.ch:=⟨_,rfl⟩
 have hok:∀ x,x∈O→okH hh.ch x:=by rw [hO];exact orderC_ok hh.ch
 rw [turnS]
 rw [←hO] at co hol ⊢
 clear hO
 refine qP Tryz.func61 fun c hP hfn=>?_;simp only [vHi,cHi,slC,slH,dCh,vcd,↓vcp,seval]
 refine vcC.scope (X:=Nat) (fun k=>⟨[(1,.own 1 0),(4,.d (slK .i64 O)),(5,.d (.int .i64 (k:Nat)))],[(1,.fix (cHi hh))],[1]⟩) (fun k=>k≤O.length∧turnL hh.ch O=turnL hh.ch (O.take k)) (fun k=>k) ?_ ?_
 ·by_cases h0:O.length=0
  ·have d0:(((O.length:Nat):Int) == 0)=true:=by rw [beq_iff_eq];omega
   have e:turnL hh.ch O=none:=by
    rw [List.eq_nil_of_length_eq_zero h0];rfl
   rw [e]
   simp only [slK,d0,vcd,↓vcp,seval]
   repeat' first|(refine tq hP (h:=⟨_,fun _=>by exact co,?_⟩);try simp only [d0,vcd,↓vcp,seval])|refine ⟨fun h=>?_,fun h=>?_⟩|refine aX ?_|fail
   exact rr
  ·have d0:(((O.length:Nat):Int) == 0)=false:=by rw [beq_eq_false_iff_ne];omega
   have w1:IntKind.i64.wrap (((O.length:Nat):Int)-1)=((O.length-1:Nat):Int):=(wI (by omega)).trans (by omega)
   obtain ⟨x,hd,hg,hm,hx⟩:=drop_at (l:=O) (k:=O.length-1) (by omega)
   have hg:=hg 0
   obtain ⟨h1,h2⟩:=hok x hm
   have he2:turnL hh.ch O=if isT hh.ch x=true then some x else turnL hh.ch (O.take (O.length-1)):=by
    conv=>lhs;rw [←List.take_length (l:=O)]
    conv=>lhs;rw [show O.length=(O.length-1)+1 by omega,List.take_add_one,hx]
    exact turnL_snoc _ _ _
   have b1:(0:Int)≤((O.length-1:Nat):Int)∧((O.length-1:Nat):Int)<(O.length:Int):=by omega
   by_cases hT:isT hh.ch x=true
   ·rw [if_pos hT] at he2
    have dk:(((hh.ch.getD x.toNat default).kd != 3)&&((hh.ch.getD x.toNat default).kd != 4))=false:=by
     simp only [isT,kdC,Bool.or_eq_true,beq_iff_eq] at hT
     rw [Bool.and_eq_false_iff,bne_eq_false_iff_eq,bne_eq_false_iff_eq];exact hT
    rw [he2]
    simp only [slK,d0,w1,hg,dk,vcd,↓vcp,seval]
    repeat' first|(refine tq hP (h:=⟨_,fun _=>by exact co,?_⟩);try simp only [d0,w1,hg,dk,vcd,↓vcp,seval])|refine ⟨fun h=>?_,fun h=>?_⟩|refine aX ?_|fail
    exact rr
   ·rw [if_neg hT] at he2
    have dk:(((hh.ch.getD x.toNat default).kd != 3)&&((hh.ch.getD x.toNat default).kd != 4))=true:=by
     simp only [isT,kdC,Bool.or_eq_true,beq_iff_eq] at hT
     rw [Bool.and_eq_true,bne_iff_ne,bne_iff_ne];omega
    simp only [slK,d0,w1,hg,dk,vcd,↓vcp,seval]
    repeat' first|(refine tq hP (h:=⟨_,fun _=>by exact co,?_⟩);try simp only [d0,w1,hg,dk,vcd,↓vcp,seval])|refine ⟨fun h=>?_,fun h=>?_⟩|refine aX ?_|fail
    refine ⟨O.length-1,⟨by omega,he2⟩,Wk.of _ hfn rfl (by simp only [slK,w1,enb,vcd,↓vcp,seval]) (by simp only [cHi,slC,slH,dCh,enb,vcd,↓vcp,seval])⟩
 ·rintro k ⟨hk,he⟩
  by_cases h0:k=0
  ·have d0:(((k:Nat):Int) == 0)=true:=by rw [beq_iff_eq];omega
   have e:turnL hh.ch O=none:=by
    rw [he,h0];rfl
   rw [e]
   simp only [cHi,slC,slH,dCh,slK,d0,vcd,↓vcp,seval]
   repeat' first|refine ⟨fun h=>?_,fun h=>?_⟩|refine aX ?_|fail
   exact rr
  ·have d0:(((k:Nat):Int) == 0)=false:=by rw [beq_eq_false_iff_ne];omega
   have w1:IntKind.i64.wrap (((k:Nat):Int)-1)=((k-1:Nat):Int):=(wI (by omega)).trans (by omega)
   obtain ⟨x,hd,hg,hm,hx⟩:=drop_at (l:=O) (k:=k-1) (by omega)
   have hg:=hg 0
   obtain ⟨h1,h2⟩:=hok x hm
   have he2:turnL hh.ch O=if isT hh.ch x=true then some x else turnL hh.ch (O.take (k-1)):=by
    rw [he]
    conv=>lhs;rw [show k=(k-1)+1 by omega,List.take_add_one,hx]
    exact turnL_snoc _ _ _
   have b1:(0:Int)≤((k-1:Nat):Int)∧((k-1:Nat):Int)<(O.length:Int):=by omega
   by_cases hT:isT hh.ch x=true
   ·rw [if_pos hT] at he2
    have dk:(((hh.ch.getD x.toNat default).kd != 3)&&((hh.ch.getD x.toNat default).kd != 4))=false:=by
     simp only [isT,kdC,Bool.or_eq_true,beq_iff_eq] at hT
     rw [Bool.and_eq_false_iff,bne_eq_false_iff_eq,bne_eq_false_iff_eq];exact hT
    rw [he2]
    simp only [cHi,slC,slH,dCh,slK,d0,w1,hg,dk,vcd,↓vcp,seval]
    repeat' first|refine ⟨fun h=>?_,fun h=>?_⟩|refine aX ?_|fail
    exact rr
   ·rw [if_neg hT] at he2
    have dk:(((hh.ch.getD x.toNat default).kd != 3)&&((hh.ch.getD x.toNat default).kd != 4))=true:=by
     simp only [isT,kdC,Bool.or_eq_true,beq_iff_eq] at hT
     rw [Bool.and_eq_true,bne_iff_ne,bne_iff_ne];omega
    simp only [cHi,slC,slH,dCh,slK,d0,w1,hg,dk,vcd,↓vcp,seval]
    repeat' first|refine ⟨fun h=>?_,fun h=>?_⟩|refine aX ?_|fail
    refine ⟨k-1,⟨by omega,he2⟩,Wk.of _ hfn rfl (by simp only [slK,w1,enb,vcd,↓vcp,seval]) (by simp only [cHi,slC,slH,dCh,enb,vcd,↓vcp,seval]),by omega⟩
end Go.Proofs.YtmccbkekpjgdbaaGreat
end
section
namespace Go.Proofs.YtmccbkekpjgdbaaGreat
open Go.Bx
set_option maxRecDepth 10000
theorem dSum_le {g g':Int→Int}:∀ (n:Nat) (a:Int),(∀ d,g d≤g' d)→dSum g a n≤dSum g' a n
 |0,a,_=>Int.le_refl _
 |n+1,a,h=>by
  have h1:=h a
  have h2:=dSum_le n (a+1) h
  rw [dSum,dSum];omega
theorem sumS_le (P:List (Int×Int)) (a b:Int):(sumS P a b).1≤4000000000000000000:=by
 rw [sumS_eq]
 split
 ·split
  ·simp
  ·rename_i h
   have:=dSum_le (g:=valS P) (g':=fun d=>max (valS P d) (-(valS P d))) (b-a).toNat a (fun d=>by omega)
   simp only;omega
 ·simp
def toD (day:Int):Int:=min (max day 1) 292195
def uptoR (P:List (Int×Int)) (day:Int):Int×Int:=
 if toD day=1 then (0,0) else if (sumS P 1 (toD day)).2≠0 then (0,(sumS P 1 (toD day)).2) else ofR upE (sumS P 1 (toD day)).1 1 365
theorem ofR_err {up:Nat→Nat→Nat→Bool} {a b c:Int} (h:(ofR up a b c).2≠0):(ofR up a b c).1=0:=by
 revert h
 unfold ofR
 repeat' split
 all_goals simp
theorem uptoR_err {P:List (Int×Int)} {day:Int} (h:(uptoR P day).2≠0):(uptoR P day).1=0:=by
 unfold uptoR at h ⊢
 split at h
 ·simp at h
 ·split at h
  ·rename_i h1 h2;rw [if_neg h1,if_pos h2]
  ·rename_i h1 h2;rw [if_neg h1,if_neg h2];exact ofR_err h
theorem sUptoR (P:List (Int×Int)) (day:Int) (hl:P.length≤1000000) (h:(uptoR P day).2=0):Ctr Tryz.prog 39 [vSt P,.d (.int .i64 day)] [] (.d (.int .i64 (uptoR P day).1)) [] []:=by
 have cs:=sSumS P 1 (toD day) hl
 have ce:=sEven (sumS P 1 (toD day)).1 1 365 (by have:=sumS_le P 1 (toD day);omega) (by omega) (by omega)
 simp only [vSt,cSt,slK,List.length_map,vS] at cs
 by_cases h1:toD day=1
 ·have d0:(min (max day 1) 292195 == 1)=true:=beq_iff_eq.2 h1
  have e:uptoR P day=(0,0):=by rw [uptoR,if_pos h1]
  rw [e]
  refine qP Tryz.func39 fun c hP hfn=>?_;simp only [vSt,cSt,slK,List.length_map,d0,vcd,↓vcp,seval]
  repeat' first|refine ⟨fun h=>?_,fun h=>?_⟩|refine aX ?_|fail
  exact rr
 ·have d0:(min (max day 1) 292195 == 1)=false:=beq_false_of_ne h1
  have n0:((0:Int) != 0)=false:=rfl
  by_cases h2:(sumS P 1 (toD day)).2=0
  ·have e:uptoR P day=ofR upE (sumS P 1 (toD day)).1 1 365:=by rw [uptoR,if_neg h1,if_neg (by simpa using h2)]
   rw [e] at h ⊢
   rw [h2] at cs
   rw [h] at ce
   simp only [toD] at cs ce ⊢
   refine qP Tryz.func39 fun c hP hfn=>?_;simp only [vSt,cSt,slK,List.length_map,d0,vcd,↓vcp,seval]
   repeat' first|(refine tq hP (h:=⟨_,fun _=>by first|exact cs|exact ce|exact sMust0,?_⟩);try simp only [d0,vcd,↓vcp,seval])|refine ⟨fun h=>?_,fun h=>?_⟩|refine aX ?_|fail
   exact rr
  ·have e:uptoR P day=(0,(sumS P 1 (toD day)).2):=by rw [uptoR,if_neg h1,if_pos h2]
   rw [e] at h
   exact absurd h h2
theorem sUptoP (P:List (Int×Int)) (day:Int) (hl:P.length≤1000000) (h:(uptoR P day).2≠0):CtrP Tryz.prog 39 [vSt P,.d (.int .i64 day)] (vErr (uptoR P day).2):=by
 have cs:=sSumS P 1 (toD day) hl
 have ce:=sEven (sumS P 1 (toD day)).1 1 365 (by have:=sumS_le P 1 (toD day);omega) (by omega) (by omega)
 simp only [vSt,cSt,slK,List.length_map,vS] at cs
 by_cases h1:toD day=1
 ·have e:uptoR P day=(0,0):=by rw [uptoR,if_pos h1]
  rw [e] at h
  exact absurd rfl h
 ·have d0:(min (max day 1) 292195 == 1)=false:=beq_false_of_ne h1
  by_cases h2:(sumS P 1 (toD day)).2=0
  ·have e:uptoR P day=ofR upE (sumS P 1 (toD day)).1 1 365:=by rw [uptoR,if_neg h1,if_neg (by simpa using h2)]
   rw [e] at h ⊢
   rw [h2] at cs
   simp only [toD] at cs ce h ⊢
   refine qN Tryz.func39 fun c hP hfn hpk=>?_;simp only [vSt,cSt,slK,List.length_map,d0,vcd,↓vcp,seval]
   repeat' first|(refine tq hP (h:=⟨_,fun _=>by first|exact cs|exact ce|exact sMust0,?_⟩);try simp only [d0,vcd,↓vcp,seval])|refine ⟨fun h=>?_,fun h=>?_⟩|refine aX ?_|fail
   exact TR.cpan hP (sMust1 _ h) (by repeat' first|exact trivial|(intro _;assumption)|apply And.intro) (by rw [hpk];exact VLe.refl _)
  ·have e:uptoR P day=(0,(sumS P 1 (toD day)).2):=by rw [uptoR,if_neg h1,if_pos h2]
   rw [e]
   simp only [toD] at cs h2 ⊢
   refine qN Tryz.func39 fun c hP hfn hpk=>?_;simp only [vSt,cSt,slK,List.length_map,d0,vcd,↓vcp,seval]
   repeat' first|(refine tq hP (h:=⟨_,fun _=>by exact cs,?_⟩);try simp only [d0,vcd,↓vcp,seval])|refine ⟨fun h=>?_,fun h=>?_⟩|refine aX ?_|fail
   exact TR.cpan hP (sMust1 _ h2) (by repeat' first|exact trivial|(intro _;assumption)|apply And.intro) (by rw [hpk];exact VLe.refl _)
theorem curS_len {l:List Sl} {P:List (Int×Int)} (h:curS l=some P):P.length≤10000:=by
 have:∀ (l:List Sl) (P Q:List (Int×Int)) (e:Int),curG P e l=some Q→Q.length≤P.length+2*l.length:=by
  intro l
  induction l with
  |nil=>intro P Q e h;simp only [curG,Option.some.injEq] at h;subst h;simp
  |cons s l ih =>
   intro P Q e h
   rw [curG] at h
   split at h
   ·have h1:=ih _ _ _ h
    have h2:=addP_len (addP P s.sf s.yr) s.st 0
    have h3:=addP_len P s.sf s.yr
    rw [List.length_cons];omega
   ·cases h
 have h1:=(curS_ok h).2.1
 rw [curS,if_neg (by omega)] at h
 have:=this _ _ _ _ h
 simp only [List.length_nil] at this
 omega
def uptoF (l:List Sl) (day:Int):Int×Int:=match curS l with|none=>(0,1)|some P=>uptoR P day
theorem sUptoF (l:List Sl) (day:Int) (hl:l.length≤9223372036854775807):Ctr Tryz.prog 15 [.d (slS l),.d (.int .i64 day)] [] (.tup [.d (.int .i64 (uptoF l day).1),.d (.int .i64 (uptoF l day).2)]) [] []:=by
 cases hc:curS l with
 |none =>
  have e:uptoF l day=(0,1):=by rw [uptoF,hc]
  have cp:=sCurveP l hc hl
  simp only [slS,dSl,slC] at cp
  rw [e]
  refine qD 38 [5] Tryz.func15 fun c hP hfn=>?_;simp only [slS,dSl,slC,vcd,↓vcp,seval]
  rw [layK_nrm]
  simp only [vcd,↓vcp,seval]
  refine ⟨⟨_,_,rfl,trivial,by simp only [vcd,↓vcp,seval],rfl⟩,by simp [keysO],fun c2 hP2 hfn2 hrd2 hpk2=>?_⟩
  refine vcS.of ?_
  simp only [vcd,↓vcp,seval]
  refine TR.cpan (hP2.trans hP) cp (by repeat' first|exact trivial|(intro _;assumption)|apply And.intro) ?_
  rw [hpk2]
  refine ⟨[(5,.fix [.d (.int .i64 0)])],[(5,.fix [.d (.int .i64 1)])],by rw [hP];exact dTold1 5 0 1,fun k o hm=>mem_own? (by simp [keysO]) hm,?_,?_⟩
  ·first|(simp only [rsb,vcd,↓vcp,seval];done)|trivial
  ·simp only [rsb,enb,vcd,↓vcp,seval]
 |some P =>
  have hPl:=curS_len hc
  have cc:=sCurve l P hc
  simp only [slS,dSl,slC] at cc
  have e:uptoF l day=uptoR P day:=by rw [uptoF,hc]
  rw [e]
  by_cases h:(uptoR P day).2=0
  ·have cu:=sUptoR P day (by omega) h
   rw [h]
   refine qD 38 [5] Tryz.func15 fun c hP hfn=>?_;simp only [slS,dSl,slC,vcd,↓vcp,seval]
   rw [layK_nrm]
   simp only [vcd,↓vcp,seval]
   refine ⟨⟨_,_,rfl,trivial,by simp only [vcd,↓vcp,seval],rfl⟩,by simp [keysO],fun c2 hP2 hfn2 hrd2 hpk2=>?_⟩
   refine vcS.of ?_
   have hP:=hP2.trans hP
   simp only [vcd,↓vcp,seval]
   repeat' first|(refine tq hP (h:=⟨_,fun _=>by first|exact cc|exact cu,?_⟩);try simp only [vcd,↓vcp,seval])|refine ⟨fun h=>?_,fun h=>?_⟩|refine aX ?_|fail
   refine ⟨_,[(5,.fix [.d (.int .i64 0)])],[(5,.fix [.d (.int .i64 0)])],Wk.refl _ _,by rw [hP];exact dTold0 5 0,fun k o hm=>mem_own? (by simp [keysO]) hm,?_,?_⟩
   ·first|(simp only [rsb,vcd,↓vcp,seval];done)|trivial
   ·simp only [rsb,enb,vcd,↓vcp,seval]
  ·have cu:=sUptoP P day (by omega) h
   have e0:=uptoR_err h
   rw [e0]
   refine qD 38 [5] Tryz.func15 fun c hP hfn=>?_;simp only [slS,dSl,slC,vcd,↓vcp,seval]
   rw [layK_nrm]
   simp only [vcd,↓vcp,seval]
   refine ⟨⟨_,_,rfl,trivial,by simp only [vcd,↓vcp,seval],rfl⟩,by simp [keysO],fun c2 hP2 hfn2 hrd2 hpk2=>?_⟩
   refine vcS.of ?_
   have hP:=hP2.trans hP
   simp only [vcd,↓vcp,seval]
   repeat' first|(refine tq hP (h:=⟨_,fun _=>by exact cc,?_⟩);try simp only [vcd,↓vcp,seval])|refine ⟨fun h=>?_,fun h=>?_⟩|refine aX ?_|fail
   refine TR.cpan hP cu (by repeat' first|exact trivial|(intro _;assumption)|apply And.intro) ?_
   rw [hpk2]
   refine ⟨[(5,.fix [.d (.int .i64 0)])],[(5,.fix [.d (.int .i64 (uptoR P day).2)])],by rw [←hP2,hP];exact dTold1 5 0 _,fun k o hm=>mem_own? (by simp [keysO]) hm,?_,?_⟩
   ·first|(simp only [rsb,vcd,↓vcp,seval];done)|trivial
   ·simp only [rsb,enb,vcd,↓vcp,seval]
end Go.Proofs.YtmccbkekpjgdbaaGreat
end
section
namespace Go.Proofs.YtmccbkekpjgdbaaGreat
open Go.Bx
set_option maxRecDepth 10000
theorem sWritten (l:List Sl) (hl:l.length≤9223372036854775807):Ctr Tryz.prog 33 [.d (slS l)] [] (.tup [.d (.int .i64 (uptoF l 292195).1),.d (.int .i64 (uptoF l 292195).2)]) [] []:=by
 have cu:=sUptoF l 292195 hl
 simp only [slS,dSl,slC] at cu
 refine qP Tryz.func33 fun c hP hfn=>?_;simp only [slS,dSl,slC,vcd,↓vcp,seval]
 repeat' first|(refine tq hP (h:=⟨_,fun _=>by exact cu,?_⟩);try simp only [vcd,↓vcp,seval])|refine ⟨fun h=>?_,fun h=>?_⟩|refine aX ?_|fail
 exact rr
def betF (l:List Sl) (a b:Int):Int×Int:=
 match curS l with
 |none=>(0,1)
 |some P=>if okS a b=false then (0,1) else if (uptoR P b).2≠0 then (0,(uptoR P b).2) else if (uptoR P a).2≠0 then (0,(uptoR P a).2) else (IntKind.i64.wrap ((uptoR P b).1-(uptoR P a).1),0)
def betV (l:List Sl) (a b:Int):V:=if (betF l a b).2=0 then .d (.int .i64 (betF l a b).1) else .un
theorem pan5 {st1:St} (h1:own? st1.own 5=some (.fix [.d (.int .i64 0)])) (h2:Go.Bx.get st1.env 5=.own 5 0) (e:Int):panD Tryz.prog 38 [5] [.tmp 4,.cell 5 1 false] (.tup [.un,.d (.int .i64 e)]) (vErr e) st1:=by
 have ho:own? (applyU st1.own (callU [(5,Go.Bx.Own.fix [.d (.int .i64 0)])] [(5,.fix [.d (.int .i64 e)])])) 5=some (.fix [.d (.int .i64 e)]):=by
  simp only [callU,List.map_cons,List.map_nil,List.append_nil,applyU,own?_setO,vcd,↓vcp,seval]
 refine ⟨[(5,.fix [.d (.int .i64 0)])],[(5,.fix [.d (.int .i64 e)])],dTold1 5 0 e,fun k o hm=>?_,?_,?_⟩
 ·simp only [List.mem_cons,Prod.mk.injEq,List.not_mem_nil,or_false] at hm
  obtain ⟨rfl,rfl⟩:=hm
  exact h1
 ·simp only [ressS,resS,h2,ho]
  simp
 ·simp only [retV,ressV,resV,h2,ho]
  exact VLe.tups ⟨VLe.un _,VLe.refl _,trivial⟩
end Go.Proofs.YtmccbkekpjgdbaaGreat
end
section
namespace Go.Proofs.YtmccbkekpjgdbaaGreat
open Go.Bx
set_option maxRecDepth 10000
def rowH (l:List Ch):Go.Bx.Own:=.row 68 9 l.length (fun i=>dCh (l.getD i default))
theorem sGrowH (n:Nat) (hn:n≤1000000000000):Ctr Tryz.prog 106 [.d (.sl true 0 0 fun _=>[]),.d (.int .i64 (n:Int))] [] (.osl 903) [(903,rowH [])] [903]:=by
 refine qO Tryz.func106 ?_
 intro c hP hfn
 have e1:IntKind.i64.wrap ((0:Int)-0)=0:=wI (by omega)
 have e0:IntKind.i64.wrap 0=0:=wI (by omega)
 have e2:IntKind.i64.wrap ((n:Int)-0)=(n:Int):=(wI (by omega)).trans (by omega)
 simp only [namesL,V.names,ownNames,e0,e1,e2,vcd,↓vcp,seval]
 repeat' first|refine ⟨fun h=>?_,fun h=>?_⟩|refine aX ?_|fail
 ·exfalso;have:=of_decide_eq_true h;omega
 ·exact RetK.mk _ (Wk.shr 22 903 0 rfl (Nat.zero_le _) (by simp)) (by simp only [rsb,vcd,↓vcp,seval]) (by simp only [rsb,enb,vcd,↓vcp,seval]) (by simp only [rowH,enb,vcd,↓vcp,seval];exact OLe.row rfl (fun i hi=>absurd hi (Nat.not_lt_zero i)))
 ·exact rK (Wk.row0 (s:=4) (k:=903) (e:=68) (sz:=9) (f':=fun i=>dCh (([]:List Ch).getD i default)) rfl rfl (by simp)) (by simp only [rowH,enb,vcd,↓vcp,seval])
def gH (G:List (List Ch)) (bs:Nat→Bool) (g:Nat→Nat→List D):D:=.sl true 1 G.length (fun i=>[.sl (bs i) 9 (G.getD i []).length (g i)])
theorem flatH_take {G:List (List Ch)} {k:Nat} {g:List Ch} (h:G[k]?=some g):(G.take (k+1)).flatten=(G.take k).flatten++g:=by
 rw [List.take_add_one,h];simp
theorem flatH_le (G:List (List Ch)) (k:Nat):(G.take k).flatten.length≤G.flatten.length:=by
 conv=>rhs;rw [←List.take_append_drop k G,List.flatten_append,List.length_append]
 omega
set_option maxHeartbeats 2000000 in
theorem sConcatH (G:List (List Ch)) (bs:Nat→Bool) (g:Nat→Nat→List D) (hg':∀ i j,i<G.length→j<(G.getD i []).length→g i j=dCh ((G.getD i []).getD j default)) (hG:G.length≤1000000) (hF:G.flatten.length≤1000000000) :
  Ctr Tryz.prog 62 [.d (gH G bs g)] [] (.d (slH G.flatten)) [] []:=by
 refine qP Tryz.func62 fun c hP hfn=>?_;simp only [gH,vcd,↓vcp,seval]
 refine vcC.loop (X:=Nat) (fun k=>⟨[(0,.d (gH G bs g)),(3,.d (.int .i64 (G.take k).flatten.length)),(9,.d (gH G bs g)),(10,.d (.int .i64 G.length)),(11,.d (.int .i64 k))],[],[]⟩)
  (fun k=>k≤G.length) (fun k=>G.length-k) 0 (Nat.zero_le _) (Wk.of _ hfn rfl (by simp only [gH,List.take_zero,List.flatten_nil,enb,vcd,↓vcp,seval]) (by simp only [enb,vcd,↓vcp,seval])) ?_
 rintro k hk
 have hle:=flatH_le G k
 by_cases hlt:k<G.length
 ·obtain ⟨q,hd,hq,hgm,hat⟩:=drop_at hlt
  have hq:=hq []
  have d0:decide ((k:Int)<(G.length:Int))=true:=decide_eq_true (by omega)
  have w1:IntKind.i64.wrap ((k:Int)+1)=((k+1:Nat):Int):=wS (by omega)
  have hfl:=flatH_take hat
  have hle2:=flatH_le G (k+1)
  have hlen:((G.take (k+1)).flatten.length:Int)=(G.take k).flatten.length+q.length:=by rw [hfl,List.length_append];omega
  have ew:IntKind.i64.wrap (((G.take k).flatten.length:Int)+(q.length:Int))=((G.take (k+1)).flatten.length:Int):=by rw [hlen];exact wI (by omega)
  have d1:decide (((G.take (k+1)).flatten.length:Int)<0)=false:=decide_eq_false (by omega)
  simp only [gH,d0,hq,ew,d1,vcd,↓vcp,seval]
  repeat' first|refine ⟨fun h=>?_,fun h=>?_⟩|refine aX ?_|fail
  exact lopK.on (k+1) hlt (by omega) (Wk.of _ hfn rfl (by simp only [gH,w1,enb,vcd,↓vcp,seval]) (by simp only [enb,vcd,↓vcp,seval]))
 ·have d0:decide ((k:Int)<(G.length:Int))=false:=decide_eq_false (by omega)
  obtain rfl:k=G.length:=by omega
  have cg:=sGrowH G.flatten.length (by omega)
  simp only [rowH,vcd,↓vcp,seval] at cg
  simp only [gH,d0,List.take_length,vcd,↓vcp,seval]
  repeat' first|refine ⟨fun h=>?_,fun h=>?_⟩|refine aX ?_|fail
  refine TR.call [] [(903,rowH [])] _ [903] (by rw [hP];exact cg) (by repeat' first|exact trivial|(intro _;assumption)|apply And.intro) (by simp) (by simp [keysO]) (by simp) ?_
  simp only [rowH,vcd,↓vcp,seval]
  repeat' first|refine ⟨fun h=>?_,fun h=>?_⟩|refine aX ?_|fail
  refine vcC.loop (X:=Nat) (fun k=>⟨[(6,.osl 903),(25,.d (gH G bs g)),(26,.d (.int .i64 G.length)),(27,.d (.int .i64 k))],[(903,rowH (G.take k).flatten)],[903]⟩)
   (fun k=>k≤G.length) (fun k=>G.length-k) 0 (Nat.zero_le _) (Wk.of _ hfn rfl (by simp only [gH,enb,vcd,↓vcp,seval]) (by simp only [rowH,List.take_zero,List.flatten_nil,enb,vcd,↓vcp,seval])) ?_
  rintro k hk
  have hle:=flatH_le G k
  by_cases hlt:k<G.length
  ·obtain ⟨q,hd,hq,hgm,hat⟩:=drop_at hlt
   have hq:=hq []
   have hgq:∀ j,j<q.length→g k j=dCh (q.getD j default):=fun j hj=>by have:=hg' k j hlt (by rw [hq];exact hj);rw [hq] at this;exact this
   have d1:decide ((k:Int)<(G.length:Int))=true:=decide_eq_true (by omega)
   have w1:IntKind.i64.wrap ((k:Int)+1)=((k+1:Nat):Int):=wS (by omega)
   have hfl:=flatH_take hat
   have hle2:=flatH_le G (k+1)
   have hlen:(G.take (k+1)).flatten.length=(G.take k).flatten.length+q.length:=by rw [hfl,List.length_append]
   have hroom:((G.take k).flatten.length+q.length)*88≤140737488355328∧(G.take k).flatten.length+q.length≤maxLen:=⟨by omega,by simp only [maxLen];omega⟩
   simp only [gH,rowH,d1,hq,vcd,↓vcp,seval]
   repeat' first|refine ⟨fun h=>?_,fun h=>?_⟩|refine aX ?_|fail
   exact lopK.on (k+1) hlt (by omega) ((Wk.sw 33 903 _ hfn (by simp) (by simp)).trans (Wk.of _ hfn rfl (by simp only [gH,w1,enb,vcd,↓vcp,seval]) (by simp only [rowH,hfl,enb,vcd,↓vcp,seval];exact OLe.appL dCh rfl (fun i hi=>by rw [if_pos hi]) (fun i hi=>by rw [if_neg (by omega),Nat.add_sub_cancel_left];exact hgq i hi))))
  ·have d1:decide ((k:Int)<(G.length:Int))=false:=decide_eq_false (by omega)
   obtain rfl:k=G.length:=by omega
   simp only [gH,rowH,d1,List.take_length,vcd,↓vcp,seval]
   repeat' first|refine ⟨fun h=>?_,fun h=>?_⟩|refine aX ?_|fail
   refine rK (Wk.pub 903 rfl) trivial ?_
   simp only [rsb,vcd,↓vcp,seval,slH,enb,vcd,↓vcp,seval]
end Go.Proofs.YtmccbkekpjgdbaaGreat
end
section
namespace Go.Proofs.YtmccbkekpjgdbaaGreat
open Go.Bx
set_option maxRecDepth 10000
def betR (l:List Sl) (a b:Int):V:=.tup [betV l a b,.d (.int .i64 (betF l a b).2)]
theorem own_vac {E0:Nat→Prop} {β:Names} {w:World} {own:List (Nat×Go.Bx.Own)} {k:Nat} (h:OwnsOk E0 β w own) (hk:own? own k=some (.fix [vNo])):False:=by
 obtain ⟨b,arr,e,_,_,hsz,hv⟩:=h.ok k _ (own?_mem hk)
 have h0:0<arr.size:=by rw [hsz];simp
 exact vNo_no (hv 0 arr[0] vNo (Array.getElem?_eq_getElem h0) rfl)
theorem TRQ.panU {c:Ctx} {K0:Kont} {IS:List I} {s0:St} {d:Option Nat} {f:Nat} {xs:List X} {is:List I} {K:List Lg→St→Prop} {st:St} {acc:List Lg} {P:Program} (hP:c.P=P) {x:V} (k:Nat) (hS:CtrP P f (evVs st xs) x) (hs:evSs true st xs)
  (hk:∀ st1:St,(∀ j,j∈[k]→own? st1.own j=own? st.own j)→(∀ k,(∀ ii,ii∈IS→ii.dst≠some k)→get st1.env k=get s0.env k)→c.pk x st1)
  (h:TRQ c (PostX c K0) IS s0 is (st.stp d { val:=vNo,upd:=[(k,some (.fix [vNo]))],rd:=[k],new:=[] }) (acc++[⟨[k],[k]⟩]) K):TRQ c (PostX c K0) IS s0 (⟨d,none,.call f xs⟩::is) st acc K:=by
 refine TRQ.cons { val:=vNo,upd:=[(k,some (.fix [vNo]))],rd:=[k],new:=[] } (fun st1 h1 h2 _ h4 ops o hc β a w H K hK=>?_) (fun k hk=>by simp at hk) h
 have hsl:∀ k,k∈xsSlots xs→get st1.env k=get st.env k:=fun k hk=>h1 k (gslots_call k hk)
 have hS':CtrP c.P f (evVs st1 xs) x:=by rw [evVs_congr hsl,hP];exact hS
 have hs':evSs true st1 xs:=by rw [evSs_congr hsl];exact hs
 obtain ⟨q1,q2⟩:=panics_call (d:=d) hS' hs' ops o hc β a w H (PostX c K0) K (fun β' a' w' v H' hv=>.inr ⟨_,rfl,β',st1,v,x,rfl,hk st1 h2 h4,H',hv⟩)
 rw [if_pos q1]
 exact q2
theorem TRQ.vacO {c:Ctx} {Q:Exit→Act→World→Prop} {IS:List I} {s0:St} {i:I} {is:List I} {K:List Lg→St→Prop} {st:St} {acc:List Lg} (k:Nat) (hg:own? st.own k=some (.fix [vNo])) (h:TRQ c Q IS s0 is (st.stp i.dst { val:=vNo,upd:=[],rd:=[k],new:=[] }) (acc++[⟨[k],[]⟩]) K):TRQ c Q IS s0 (i::is) st acc K:=by
 refine TRQ.cons { val:=vNo,upd:=[],rd:=[k],new:=[] } (fun st1 _ h2 _ _ ops o hc β a w H K hK=>?_) (fun k hk=>by simp at hk) h
 exact (own_vac H.own (by rw [h2 k (by simp),hg])).elim
def betS (P:List (Int×Int)) (a b:Int):St:=⟨[(3,.own 3 0),(5,.own 5 0),(6,.own 6 0)],[(3,.fix [.d (.int .i64 a),.d (.int .i64 b)]),(5,.fix [.d (.int .i64 0)]),(6,.fix (cSt P))],[3,5,6]⟩
set_option maxHeartbeats 2000000 in
theorem sBet (l:List Sl) (a b:Int) (hl:l.length≤9223372036854775807):Ctr Tryz.prog 63 [.d (slS l),vS a b] [] (betR l a b) [] []:=by
 cases hc:curS l with
 |none =>
  have e:betF l a b=(0,1):=by rw [betF,hc]
  have cp:=sCurveP l hc hl
  simp only [slS,dSl,slC] at cp
  rw [betR,betV,e]
  refine qD 38 [5] Tryz.func63 fun c hP hfn=>?_;simp only [slS,dSl,slC,vS,vcd,↓vcp,seval]
  rw [layK_nrm]
  simp only [vcd,↓vcp,seval]
  refine ⟨⟨_,_,rfl,trivial,by simp only [vcd,↓vcp,seval],rfl⟩,by simp [keysO],fun c2 hP2 hfn2 hrd2 hpk2=>?_⟩
  refine vcS.of ?_
  simp only [vcd,↓vcp,seval]
  refine TR.cpan (hP2.trans hP) cp (by repeat' first|exact trivial|(intro _;assumption)|apply And.intro) ?_
  rw [hpk2]
  refine ⟨[(5,.fix [.d (.int .i64 0)])],[(5,.fix [.d (.int .i64 1)])],by rw [hP];exact dTold1 5 0 1,fun k o hm=>mem_own? (by simp [keysO]) (List.mem_cons_of_mem _ hm),?_,?_⟩
  ·first|(simp only [rsb,vcd,↓vcp,seval];done)|trivial
  ·simp only [rsb,enb,vcd,↓vcp,seval]
   exact VLe.tups ⟨VLe.un _,VLe.refl _,trivial⟩
 |some P =>
  have hPl:=curS_len hc
  have cc:=sCurve l P hc
  have cr:=sSpanRight a b
  simp only [slS,dSl,slC,vSt,cSt,slK,List.length_map] at cc
  simp only [vS] at cr
  cases ho:okS a b with
  |false =>
   have e:betF l a b=(0,1):=by rw [betF,hc];simp only [ho,if_true]
   rw [ho] at cr
   rw [betR,betV,e]
   refine qD 38 [5] Tryz.func63 fun c hP hfn=>?_;simp only [slS,dSl,slC,vS,vcd,↓vcp,seval]
   rw [layK_nrm]
   simp only [vcd,↓vcp,seval]
   refine ⟨⟨_,_,rfl,trivial,by simp only [vcd,↓vcp,seval],rfl⟩,by simp [keysO],fun c2 hP2 hfn2 hrd2 hpk2=>?_⟩
   refine vcS.of ?_
   have hP:=hP2.trans hP
   simp only [vcd,↓vcp,seval]
   repeat' first|(refine tq hP (h:=⟨_,fun _=>by first|exact cc|exact cr,?_⟩);try simp only [vcd,↓vcp,seval])|refine ⟨fun h=>?_,fun h=>?_⟩|refine aX ?_|fail
   refine TR.cpan hP (sMust1 1 (by decide)) (by repeat' first|exact trivial|(intro _;assumption)|apply And.intro) ?_
   rw [hpk2]
   refine ⟨[(5,.fix [.d (.int .i64 0)])],[(5,.fix [.d (.int .i64 1)])],by rw [←hP2,hP];exact dTold1 5 0 1,fun k o hm=>mem_own? (by simp [keysO]) (by simp only [List.mem_cons,List.not_mem_nil,or_false] at hm;simp [hm]),?_,?_⟩
   ·first|(simp only [rsb,vcd,↓vcp,seval];done)|trivial
   ·simp only [rsb,enb,vcd,↓vcp,seval]
    exact VLe.tups ⟨VLe.un _,VLe.refl _,trivial⟩
  |true =>
   rw [ho] at cr
   have e:betF l a b=if (uptoR P b).2≠0 then (0,(uptoR P b).2) else if (uptoR P a).2≠0 then (0,(uptoR P a).2) else (IntKind.i64.wrap ((uptoR P b).1-(uptoR P a).1),0):=by rw [betF,hc];simp only [ho,if_neg (show ¬ (true=false) by simp)]
   by_cases h1:(uptoR P b).2=0
   ·by_cases h2:(uptoR P a).2=0
    ·have e1:betF l a b=(IntKind.i64.wrap ((uptoR P b).1-(uptoR P a).1),0):=by rw [e,if_neg (by simpa using h1),if_neg (by simpa using h2)]
     have u1:=sUptoR P b (by omega) h1
     have u2:=sUptoR P a (by omega) h2
     simp only [vSt,cSt,slK,List.length_map] at u1 u2
     rw [betR,betV,e1]
     refine qD 38 [5] Tryz.func63 fun c hP hfn=>?_;simp only [slS,dSl,slC,vS,vcd,↓vcp,seval]
     rw [layK_nrm]
     simp only [vcd,↓vcp,seval]
     refine ⟨⟨_,_,rfl,trivial,by simp only [vcd,↓vcp,seval],rfl⟩,by simp [keysO],fun c2 hP2 hfn2 hrd2 hpk2=>?_⟩
     refine vcS.of ?_
     have hP:=hP2.trans hP
     simp only [vcd,↓vcp,seval]
     repeat' first|(refine tq hP (h:=⟨_,fun _=>by first|exact cc|exact cr|exact u1|exact u2,?_⟩);try simp only [vcd,↓vcp,seval])|refine ⟨fun h=>?_,fun h=>?_⟩|refine aX ?_|fail
     refine ⟨_,[(5,.fix [.d (.int .i64 0)])],[(5,.fix [.d (.int .i64 0)])],Wk.refl _ _,by rw [hP];exact dTold0 5 0,fun k o hm=>mem_own? (by simp [keysO]) (by simp only [List.mem_cons,List.not_mem_nil,or_false] at hm;simp [hm]),?_,?_⟩
     ·first|(simp only [rsb,vcd,↓vcp,seval];done)|trivial
     ·simp only [rsb,enb,vcd,↓vcp,seval]
    ·have e1:betF l a b=(0,(uptoR P a).2):=by rw [e,if_neg (by simpa using h1),if_pos h2]
     have u1:=sUptoR P b (by omega) h1
     have u2:=sUptoP P a (by omega) h2
     simp only [vSt,cSt,slK,List.length_map] at u1 u2
     rw [betR,betV,e1,if_neg h2]
     refine qD 38 [5] Tryz.func63 fun c hP hfn=>?_;simp only [slS,dSl,slC,vS,vcd,↓vcp,seval]
     rw [layK_nrm]
     simp only [vcd,↓vcp,seval]
     refine ⟨⟨_,_,rfl,trivial,by simp only [vcd,↓vcp,seval],rfl⟩,by simp [keysO],fun c2 hP2 hfn2 hrd2 hpk2=>?_⟩
     have hP0:=hP
     have hP:=hP2.trans hP
     refine vcS.seq (K1:=fun e st'=>e=.nrm∧Wk c2 st' (betS P a b)) (vcS.of ?_) (fun st' h=>⟨betS P a b,h.2,?_⟩) (fun i st' h=>by cases h.1) (fun st' h=>by cases h.1)
     ·simp only [vcd,↓vcp,seval]
      repeat' first|(refine tq hP (h:=⟨_,fun _=>by exact cc,?_⟩);try simp only [vcd,↓vcp,seval])|refine ⟨fun h=>?_,fun h=>?_⟩|refine aX ?_|fail
      exact Wk.of _ hfn2 rfl (by simp only [betS,enb,vcd,↓vcp,seval]) (by simp only [betS,cSt,slK,List.length_map,enb,vcd,↓vcp,seval])
     refine vcS.seq (K1:=fun e st'=>e=.nrm∧Wk c2 st' (betS P a b)) (vcS.of ?_) (fun st' h=>⟨betS P a b,h.2,?_⟩) (fun i st' h=>by cases h.1) (fun st' h=>by cases h.1)
     ·simp only [betS,cSt,vcd,↓vcp,seval]
      repeat' first|(refine tq hP (h:=⟨_,fun _=>by exact cr,?_⟩);try simp only [vcd,↓vcp,seval])|refine ⟨fun h=>?_,fun h=>?_⟩|refine aX ?_|fail
      exact Wk.of _ hfn2 rfl (by simp only [betS,enb,vcd,↓vcp,seval]) (by simp only [betS,cSt,enb,vcd,↓vcp,seval])
     refine vcS.seq (K1:=fun _ _=>False) (vcS.drw ?_) (fun st' h=>h.elim) (fun i st' h=>h.elim) (fun st' h=>h.elim)
     refine TRQ.app (pre:=[_,_,_,_,_,_,_]) ?_
     refine vcR_ok ?_
     simp only [betS,cSt,slK,List.length_map,vcd,↓vcp,seval]
     repeat' first|(refine tq hP (h:=⟨_,fun _=>by exact u1,?_⟩);try simp only [vcd,↓vcp,seval])|refine ⟨fun h=>?_,fun h=>?_⟩|refine aX ?_|fail
     refine TRQ.panU hP 5 u2 (by simp only [vcd,↓vcp,seval]) (fun st1 h1 h2=>by rw [hpk2,hP0];exact pan5 (h1 5 (by simp)) (h2 5 (by simp)) _) ?_
     refine TRQ.vacO 5 (by simp only [St.stp,applyU,vcd,↓vcp,seval]) ?_
     refine TRQ.vacO 5 (by simp only [St.stp,applyU,vcd,↓vcp,seval]) ?_
     refine TRQ.vacO 5 (by simp only [St.stp,applyU,vcd,↓vcp,seval]) ?_
     refine ⟨[],_,.nil _,?_,?_⟩
     ·rfl
     ·intro β a w H
      exact own_vac (k:=5) H.own (by simp only [St.stp,applyU,vcd,↓vcp,seval])
   ·have e1:betF l a b=(0,(uptoR P b).2):=by rw [e,if_pos h1]
    have u1:=sUptoP P b (by omega) h1
    simp only [vSt,cSt,slK,List.length_map] at u1
    rw [betR,betV,e1,if_neg h1]
    refine qD 38 [5] Tryz.func63 fun c hP hfn=>?_;simp only [slS,dSl,slC,vS,vcd,↓vcp,seval]
    rw [layK_nrm]
    simp only [vcd,↓vcp,seval]
    refine ⟨⟨_,_,rfl,trivial,by simp only [vcd,↓vcp,seval],rfl⟩,by simp [keysO],fun c2 hP2 hfn2 hrd2 hpk2=>?_⟩
    have hP0:=hP
    have hP:=hP2.trans hP
    refine vcS.seq (K1:=fun e st'=>e=.nrm∧Wk c2 st' (betS P a b)) (vcS.of ?_) (fun st' h=>⟨betS P a b,h.2,?_⟩) (fun i st' h=>by cases h.1) (fun st' h=>by cases h.1)
    ·simp only [vcd,↓vcp,seval]
     repeat' first|(refine tq hP (h:=⟨_,fun _=>by exact cc,?_⟩);try simp only [vcd,↓vcp,seval])|refine ⟨fun h=>?_,fun h=>?_⟩|refine aX ?_|fail
     exact Wk.of _ hfn2 rfl (by simp only [betS,enb,vcd,↓vcp,seval]) (by simp only [betS,cSt,slK,List.length_map,enb,vcd,↓vcp,seval])
    refine vcS.seq (K1:=fun e st'=>e=.nrm∧Wk c2 st' (betS P a b)) (vcS.of ?_) (fun st' h=>⟨betS P a b,h.2,?_⟩) (fun i st' h=>by cases h.1) (fun st' h=>by cases h.1)
    ·simp only [betS,cSt,vcd,↓vcp,seval]
     repeat' first|(refine tq hP (h:=⟨_,fun _=>by exact cr,?_⟩);try simp only [vcd,↓vcp,seval])|refine ⟨fun h=>?_,fun h=>?_⟩|refine aX ?_|fail
     exact Wk.of _ hfn2 rfl (by simp only [betS,enb,vcd,↓vcp,seval]) (by simp only [betS,cSt,enb,vcd,↓vcp,seval])
    refine vcS.seq (K1:=fun _ _=>False) (vcS.drw ?_) (fun st' h=>h.elim) (fun i st' h=>h.elim) (fun st' h=>h.elim)
    refine TRQ.app (pre:=[_,_,_]) ?_
    refine vcR_ok ?_
    simp only [betS,cSt,slK,List.length_map,vcd,↓vcp,seval]
    refine TRQ.panU hP 5 u1 (by simp only [vcd,↓vcp,seval]) (fun st1 h1 h2=>by rw [hpk2,hP0];exact pan5 (h1 5 (by simp)) (h2 5 (by simp)) _) ?_
    refine TRQ.app (pre:=[_,_,_]) ?_
    refine vcR_ok ?_
    simp only [vcd,↓vcp,seval]
    refine TRQ.vacO 5 (by simp only [vcd,↓vcp,seval]) ?_
    refine TRQ.vacO 5 (by simp only [St.stp,applyU,vcd,↓vcp,seval]) ?_
    refine TRQ.vacO 5 (by simp only [St.stp,applyU,vcd,↓vcp,seval]) ?_
    refine TRQ.vacO 5 (by simp only [St.stp,applyU,vcd,↓vcp,seval]) ?_
    refine ⟨[],_,.nil _,?_,?_⟩
    ·rfl
    ·intro β a w H
     exact own_vac (k:=5) H.own (by simp only [St.stp,applyU,vcd,↓vcp,seval])
end Go.Proofs.YtmccbkekpjgdbaaGreat
end
section
namespace Go.Proofs.YtmccbkekpjgdbaaGreat
open Go.Bx
set_option maxRecDepth 10000
def withOut (h:Hi) (x:Int):Hi:={ h with ch:=h.ch.take x.toNat++h.ch.drop (x.toNat+1) }
def keptC (h:Hi) (t:List Vs) (x:Int):Int×Int:=
 if (ofS (withOut h x) t).2≠0 then (0,(ofS (withOut h x) t).2) else
 if (betF (ofS (withOut h x) t).1 (h.ch.getD x.toNat default).dy h.tm.st).2≠0 then (0,(betF (ofS (withOut h x) t).1 (h.ch.getD x.toNat default).dy h.tm.st).2) else
  bpR (betF (ofS (withOut h x) t).1 (h.ch.getD x.toNat default).dy h.tm.st).1 1000
def keptF (h:Hi) (t:List Vs):Int×Int:=
 if (ofS h t).2≠0 then (0,(ofS h t).2) else
  match turnS h with
  |none=>(0,0)
  |some x=>if (h.ch.getD x.toNat default).kd≠3∨(h.ch.getD x.toNat default).wy≠1 then (0,0) else keptC h t x
theorem turnS_ok {h:Hi} {x:Int} (e:turnS h=some x):okH h.ch x:=orderC_ok h.ch x (turnL_mem e).1
theorem withOut_sz {h:Hi} (z:SzC h) (x:Int):SzC (withOut h x):=by
 refine ⟨z.t,?_,fun c hc=>?_⟩
 ·have:=z.n
  simp only [withOut,List.length_append,List.length_take,List.length_drop];omega
 ·simp only [withOut,List.mem_append] at hc
  rcases hc with hc|hc
  ·exact z.c c (List.mem_of_mem_take hc)
  ·exact z.c c (List.mem_of_mem_drop hc)
theorem wrap_le (x:Int):IntKind.i64.wrap x≤9223372036854775807:=by
 have h:IntKind.i64.wrap x=if x % 18446744073709551616≥9223372036854775808 then x % 18446744073709551616-18446744073709551616 else x % 18446744073709551616:=by
  simp [IntKind.wrap,IntKind.signed,IntKind.bits]
 rw [h];split<;>omega
theorem betF_le (l:List Sl) (a b:Int):(betF l a b).1≤9223372036854775807:=by
 unfold betF
 repeat' split
 all_goals first|exact wrap_le _|simp
theorem sOut (h:Hi) (x:Int) (hx:0≤x∧x<(h.ch.length:Int)) (hn:h.ch.length≤1000000) :
  Ctr Tryz.prog 62 [.d (.sl true 1 2 (litRow 1 [.sl false 9 x.toNat (fun i=>dCh (h.ch.getD i default)),.sl false 9 (h.ch.length-(x+1).toNat) (fun i=>dCh (h.ch.getD ((x+1).toNat+i) default))]))] [] (.d (slH (withOut h x).ch)) [] []:=by
 have e1:(x+1).toNat=x.toNat+1:=by omega
 have h0:x.toNat<h.ch.length:=by omega
 have lt:(h.ch.take x.toNat).length=x.toNat:=by rw [List.length_take];omega
 have ld:(h.ch.drop (x.toNat+1)).length=h.ch.length-(x.toNat+1):=by rw [List.length_drop]
 have hc:=sConcatH [h.ch.take x.toNat,h.ch.drop (x.toNat+1)] (fun _=>false) (fun i j=>if i=0 then dCh (h.ch.getD j default) else dCh (h.ch.getD ((x+1).toNat+j) default)) ?_ (by simp) ?_
 ·have ef:[h.ch.take x.toNat,h.ch.drop (x.toNat+1)].flatten=(withOut h x).ch:=by simp [withOut]
  rw [ef] at hc
  refine hc.arg ⟨VLe.sl rfl (fun _=>rfl) (fun _=>rfl) (fun i hi=>?_),trivial⟩
  have:i=0∨i=1:=by omega
  rcases this with rfl|rfl
  ·simp [litRow,lt]
  ·simp [litRow,ld,e1]
 ·intro i j hi hj
  have:i=0∨i=1:=by simp at hi;omega
  rcases this with rfl|rfl
  ·simp only [List.getD_cons_zero] at hj ⊢
   rw [lt] at hj
   rw [if_pos trivial,List.getD_eq_getElem?_getD,List.getD_eq_getElem?_getD,List.getElem?_take_of_lt hj]
  ·simp only [List.getD_cons_succ,List.getD_cons_zero] at hj ⊢
   rw [if_neg (by omega),List.getD_eq_getElem?_getD,List.getD_eq_getElem?_getD,List.getElem?_drop,e1]
 ·simp;omega
set_option maxHeartbeats 2000000 in
theorem sKeptF (hh:Hi) (t:List Vs) (z:SzC hh) (ht:t.length≤1000000) (hz:∀ v,v∈t→SzV v) (hl:∀ x,(ofS (withOut hh x) t).1.length≤9223372036854775807) :
  Ctr Tryz.prog 32 [vHi hh,.ag [.d (slV t)]] [] (.tup [.d (.int .i64 (keptF hh t).1),.d (.int .i64 (keptF hh t).2)]) [] []:=by
 have co:=sOfS hh t z ht hz
 have ct:=sTurn hh (by have:=z.n;omega)
 simp only [vHi,cHi,slC,slH,dCh,slV,dVs,slB,slS,dSl] at co ct
 by_cases h0:(ofS hh t).2=0
 ·have n0:((0:Int) != 0)=false:=rfl
  rw [h0] at co
  cases hx:turnS hh with
  |none =>
   have e:keptF hh t=(0,0):=by rw [keptF,if_neg (by simpa using h0),hx]
   rw [hx] at ct
   simp only [turnV,Option.getD_none,Option.isSome_none] at ct
   rw [e]
   refine qP Tryz.func32 fun c hP hfn=>?_;simp only [vHi,cHi,slC,slH,dCh,slV,dVs,slB,vcd,↓vcp,seval]
   repeat' first|(refine tq hP (h:=⟨_,fun _=>by first|exact co|exact ct,?_⟩);try simp only [n0,vcd,↓vcp,seval])|refine ⟨fun h=>?_,fun h=>?_⟩|refine aX ?_|fail
   exact rr
  |some x =>
   obtain ⟨hx0,hx1⟩:=turnS_ok hx
   have hn:=z.n
   rw [hx] at ct
   simp only [turnV,Option.getD_some,Option.isSome_some] at ct
   have b1:(0:Int)≤x∧x<(hh.ch.length:Int):=by omega
   by_cases hk:(hh.ch.getD x.toNat default).kd≠3∨(hh.ch.getD x.toNat default).wy≠1
   ·have e:keptF hh t=(0,0):=by rw [keptF,if_neg (by simpa using h0),hx];simp only [if_pos hk]
    rw [e]
    by_cases hk3:(hh.ch.getD x.toNat default).kd=3
    ·have d3:((hh.ch.getD x.toNat default).kd != 3)=false:=by rw [bne_eq_false_iff_eq];exact hk3
     have d1:((hh.ch.getD x.toNat default).wy != 1)=true:=by rw [bne_iff_ne];rcases hk with h|h;exact absurd hk3 h;exact h
     refine qP Tryz.func32 fun c hP hfn=>?_;simp only [vHi,cHi,slC,slH,dCh,slV,dVs,slB,vcd,↓vcp,seval]
     repeat' first|(refine tq hP (h:=⟨_,fun _=>by first|exact co|exact ct,?_⟩);try simp only [n0,d3,d1,vcd,↓vcp,seval])|refine ⟨fun h=>?_,fun h=>?_⟩|refine aX ?_|fail
     exact rr
    ·have d3:((hh.ch.getD x.toNat default).kd != 3)=true:=by rw [bne_iff_ne];exact hk3
     refine qP Tryz.func32 fun c hP hfn=>?_;simp only [vHi,cHi,slC,slH,dCh,slV,dVs,slB,vcd,↓vcp,seval]
     repeat' first|(refine tq hP (h:=⟨_,fun _=>by first|exact co|exact ct,?_⟩);try simp only [n0,d3,vcd,↓vcp,seval])|refine ⟨fun h=>?_,fun h=>?_⟩|refine aX ?_|fail
     exact rr
   ·have e:keptF hh t=keptC hh t x:=by rw [keptF,if_neg (by simpa using h0),hx];simp only [if_neg hk]
    have hk3:(hh.ch.getD x.toNat default).kd=3:=by omega
    have hk1:(hh.ch.getD x.toNat default).wy=1:=by omega
    have d3:((hh.ch.getD x.toNat default).kd != 3)=false:=by rw [bne_eq_false_iff_eq];exact hk3
    have d1:((hh.ch.getD x.toNat default).wy != 1)=false:=by rw [bne_eq_false_iff_eq];exact hk1
    have w1:IntKind.i64.wrap (x+1)=x+1:=wI (by omega)
    rw [e]
    have cx:=sOut hh x b1 (by omega)
    have cf:=sOfS (withOut hh x) t (withOut_sz z x) ht hz
    have hl:=hl x
    rw [keptC]
    generalize hL:(ofS (withOut hh x) t).1=L at *
    generalize hE:(ofS (withOut hh x) t).2=e1 at *
    have hw:(withOut hh x).id=hh.id∧(withOut hh x).bk=hh.bk∧(withOut hh x).tm=hh.tm:=⟨rfl,rfl,rfl⟩
    generalize withOut hh x=h2 at *
    obtain ⟨w5,w6,w7⟩:=hw
    simp only [vHi,cHi,slC,slH,dCh,slV,dVs,slB,slS,dSl,w5,w6,w7] at cx cf
    by_cases h1:e1=0
    ·subst h1
     have cb:=sBet L (hh.ch.getD x.toNat default).dy hh.tm.st hl
     have hle:=betF_le L (hh.ch.getD x.toNat default).dy hh.tm.st
     rw [if_neg (by simp)]
     simp only [betR,betV] at cb
     generalize hB:betF L (hh.ch.getD x.toNat default).dy hh.tm.st=B at *
     obtain ⟨bn,be⟩:=B
     simp only at cb hle ⊢
     simp only [vHi,cHi,slC,slH,dCh,slV,dVs,slB,slS,dSl,vS] at cb
     by_cases h3:be=0
     ·subst h3
      have cp:=sBp bn 1000 hle (by omega)
      simp only [if_true] at cb
      rw [if_neg (by simp)]
      refine qP Tryz.func32 fun c hP hfn=>?_;simp only [vHi,cHi,slC,slH,dCh,slV,dVs,slB,vcd,↓vcp,seval]
      repeat' first|(refine tq hP (h:=⟨_,fun _=>by first|exact co|exact ct|exact cx|exact cf|exact cb|exact cp,?_⟩);try simp only [n0,d3,d1,w1,vcd,↓vcp,seval])|refine ⟨fun h=>?_,fun h=>?_⟩|refine aX ?_|fail
      exact rr
     ·have n3:(be != 0)=true:=bne_iff_ne.2 h3
      simp only [if_neg h3] at cb
      rw [if_pos h3]
      refine qP Tryz.func32 fun c hP hfn=>?_;simp only [vHi,cHi,slC,slH,dCh,slV,dVs,slB,vcd,↓vcp,seval]
      repeat' first|(refine tq hP (h:=⟨_,fun _=>by first|exact co|exact ct|exact cx|exact cf|exact cb,?_⟩);try simp only [n0,d3,d1,w1,n3,vcd,↓vcp,seval])|refine ⟨fun h=>?_,fun h=>?_⟩|refine aX ?_|fail
      exact rr
    ·have n3:(e1 != 0)=true:=bne_iff_ne.2 h1
     rw [if_pos h1]
     refine qP Tryz.func32 fun c hP hfn=>?_;simp only [vHi,cHi,slC,slH,dCh,slV,dVs,slB,vcd,↓vcp,seval]
     repeat' first|(refine tq hP (h:=⟨_,fun _=>by first|exact co|exact ct|exact cx|exact cf,?_⟩);try simp only [n0,d3,d1,w1,n3,vcd,↓vcp,seval])|refine ⟨fun h=>?_,fun h=>?_⟩|refine aX ?_|fail
     exact rr
 ·have n1:((ofS hh t).2 != 0)=true:=bne_iff_ne.2 h0
  have e:keptF hh t=(0,(ofS hh t).2):=by rw [keptF,if_pos h0]
  rw [e]
  refine qP Tryz.func32 fun c hP hfn=>?_;simp only [vHi,cHi,slC,slH,dCh,slV,dVs,slB,vcd,↓vcp,seval]
  repeat' first|(refine tq hP (h:=⟨_,fun _=>by exact co,?_⟩);try simp only [n1,vcd,↓vcp,seval])|refine ⟨fun h=>?_,fun h=>?_⟩|refine aX ?_|fail
  exact rr
end Go.Proofs.YtmccbkekpjgdbaaGreat
end
section
namespace Go.Proofs.YtmccbkekpjgdbaaGreat
open Go.Bx
set_option maxRecDepth 10000
theorem ofS_len {h:Hi} {t:List Vs} (z:SzC h):(ofS h t).1.length≤9223372036854775807:=by
 have h1:=(cutS_ok z).1
 have h2:=z.n
 unfold ofS
 repeat' split
 all_goals simp
 omega
theorem sKept2 (hh:Hi) (t:List Vs) (z:SzC hh) (ht:t.length≤1000000) (hz:∀ v,v∈t→SzV v) :
  Ctr Tryz.prog 32 [vHi hh,.ag [.d (slV t)]] [] (.tup [.d (.int .i64 (keptF hh t).1),.d (.int .i64 (keptF hh t).2)]) [] []:=sKeptF hh t z ht hz fun x=>ofS_len (withOut_sz z x)
def dueF (h:Hi) (t:List Vs):Int×Int:=
 if (keptF h t).2≠0 then (0,(keptF h t).2) else
 if (uptoF (ofS h t).1 292195).2≠0 then (0,(uptoF (ofS h t).1 292195).2) else
 if (uptoF (ofS h t).1 292195).1>IntKind.i64.wrap (4000000000000000000-(keptF h t).1) then (0,5) else (IntKind.i64.wrap ((uptoF (ofS h t).1 292195).1+(keptF h t).1),0)
set_option maxHeartbeats 2000000 in
theorem sDueF (hh:Hi) (t:List Vs) (z:SzC hh) (ht:t.length≤1000000) (hz:∀ v,v∈t→SzV v) :
  Ctr Tryz.prog 13 [vHi hh,.ag [.d (slV t)]] [] (.tup [.d (.int .i64 (dueF hh t).1),.d (.int .i64 (dueF hh t).2)]) [] []:=by
 have ck:=sKept2 hh t z ht hz
 have co:=sOfS hh t z ht hz
 have cw:=sWritten (ofS hh t).1 (ofS_len z)
 rw [dueF]
 generalize keptF hh t=K at *
 generalize ofS hh t=L at *
 generalize uptoF L.1 292195=U at *
 obtain ⟨k,ke⟩:=K
 obtain ⟨L,le⟩:=L
 obtain ⟨u,ue⟩:=U
 simp only [vHi,cHi,slC,slH,dCh,slV,dVs,slB,slS,dSl] at ck co cw
 by_cases h1:ke=0
 ·subst h1
  have n0:((0:Int) != 0)=false:=rfl
  rw [if_neg (by simp)]
  by_cases h2:ue=0
  ·subst h2
   rw [if_neg (by simp)]
   generalize hw:IntKind.i64.wrap (4000000000000000000-k)=m at *
   by_cases h3:u>m
   ·have d3:decide (u>m)=true:=decide_eq_true h3
    rw [if_pos h3]
    refine qP Tryz.func13 fun c hP hfn=>?_;simp only [vHi,cHi,slC,slH,dCh,slV,dVs,slB,vcd,↓vcp,seval]
    repeat' first|(refine tq hP (h:=⟨_,fun _=>by first|exact ck|exact co|exact cw,?_⟩);try simp only [n0,hw,d3,vcd,↓vcp,seval])|refine ⟨fun h=>?_,fun h=>?_⟩|refine aX ?_|fail
    exact rr
   ·have d3:decide (u>m)=false:=decide_eq_false h3
    rw [if_neg h3]
    refine qP Tryz.func13 fun c hP hfn=>?_;simp only [vHi,cHi,slC,slH,dCh,slV,dVs,slB,vcd,↓vcp,seval]
    repeat' first|(refine tq hP (h:=⟨_,fun _=>by first|exact ck|exact co|exact cw,?_⟩);try simp only [n0,hw,d3,vcd,↓vcp,seval])|refine ⟨fun h=>?_,fun h=>?_⟩|refine aX ?_|fail
    exact rr
  ·have n1:(ue != 0)=true:=bne_iff_ne.2 h2
   rw [if_pos h2]
   refine qP Tryz.func13 fun c hP hfn=>?_;simp only [vHi,cHi,slC,slH,dCh,slV,dVs,slB,vcd,↓vcp,seval]
   repeat' first|(refine tq hP (h:=⟨_,fun _=>by first|exact ck|exact co|exact cw,?_⟩);try simp only [n0,n1,vcd,↓vcp,seval])|refine ⟨fun h=>?_,fun h=>?_⟩|refine aX ?_|fail
   exact rr
 ·have n1:(ke != 0)=true:=bne_iff_ne.2 h1
  rw [if_pos h1]
  refine qP Tryz.func13 fun c hP hfn=>?_;simp only [vHi,cHi,slC,slH,dCh,slV,dVs,slB,vcd,↓vcp,seval]
  repeat' first|(refine tq hP (h:=⟨_,fun _=>by exact ck,?_⟩);try simp only [n1,vcd,↓vcp,seval])|refine ⟨fun h=>?_,fun h=>?_⟩|refine aX ?_|fail
  exact rr
def givenF (h:Hi) (t:List Vs) (c:Ch):Int×Int:=
 if (putC h c).2≠0 then (0,(putC h c).2) else
 if (dueF h t).2≠0 then (0,(dueF h t).2) else
 if (dueF (putC h c).1 t).2≠0 then (0,(dueF (putC h c).1 t).2) else
  (IntKind.i64.wrap ((dueF h t).1-(dueF (putC h c).1 t).1),0)
theorem putC_sz {h:Hi} {c:Ch} (z:SzC h) (hc:c.cv.length≤1000000) (h17:h.ch.length≤17):SzC (putC h c).1:=by
 have z0:SzC zHi:=⟨by simp [zHi],by simp [zHi],fun c h=>by simp [zHi] at h⟩
 rw [putC]
 by_cases h1:(rightCh c&&inT h.tm c.dy)=false
 ·rw [if_pos h1];exact z0
 ·rw [if_neg h1]
  by_cases h2:c.bk<lastB h
  ·rw [if_pos h2];exact z0
  ·rw [if_neg h2]
   by_cases h3:h.ch.length≥2000
   ·rw [if_pos h3];exact z0
   ·rw [if_neg h3]
    refine ⟨z.t,by simp;omega,fun x hx=>?_⟩
    simp only [List.mem_append,List.mem_singleton] at hx
    rcases hx with hx|rfl
    ·exact z.c x hx
    ·exact hc
set_option maxHeartbeats 2000000 in
theorem sGivenF (hh:Hi) (t:List Vs) (c':Ch) (z:SzC hh) (ht:t.length≤1000000) (hz:∀ v,v∈t→SzV v) (hcv:c'.cv.length≤1000000) (h17:hh.ch.length≤17) :
  Ctr Tryz.prog 16 [vHi hh,.ag [.d (slV t)],vCh c'] [] (.tup [.d (.int .i64 (givenF hh t c').1),.d (.int .i64 (givenF hh t c').2)]) [] []:=by
 have cp:=sPutC hh c' z.t hcv (by have:=z.n;omega)
 have cd:=sDueF hh t z ht hz
 have ce:=sDueF (putC hh c').1 t (putC_sz z hcv h17) ht hz
 rw [givenF]
 generalize putC hh c'=X at *
 obtain ⟨X,xe⟩:=X
 simp only at ce ⊢
 generalize dueF hh t=D1 at *
 generalize dueF X t=D2 at *
 obtain ⟨d1,de1⟩:=D1
 obtain ⟨d2,de2⟩:=D2
 simp only [vHi,cHi,vCh,cCh,slC,slH,dCh,slV,dVs,slB] at cp cd ce
 by_cases h1:xe=0
 ·subst h1
  have n0:((0:Int) != 0)=false:=rfl
  rw [if_neg (by simp)]
  by_cases h2:de1=0
  ·subst h2
   rw [if_neg (by simp)]
   by_cases h3:de2=0
   ·subst h3
    rw [if_neg (by simp)]
    refine qP Tryz.func16 fun c hP hfn=>?_;simp only [vHi,cHi,vCh,cCh,slC,slH,dCh,slV,dVs,slB,vcd,↓vcp,seval]
    repeat' first|(refine tq hP (h:=⟨_,fun _=>by first|exact cp|exact cd|exact ce,?_⟩);try simp only [n0,vcd,↓vcp,seval])|refine ⟨fun h=>?_,fun h=>?_⟩|refine aX ?_|fail
    exact rr
   ·have n1:(de2 != 0)=true:=bne_iff_ne.2 h3
    rw [if_pos h3]
    refine qP Tryz.func16 fun c hP hfn=>?_;simp only [vHi,cHi,vCh,cCh,slC,slH,dCh,slV,dVs,slB,vcd,↓vcp,seval]
    repeat' first|(refine tq hP (h:=⟨_,fun _=>by first|exact cp|exact cd|exact ce,?_⟩);try simp only [n0,n1,vcd,↓vcp,seval])|refine ⟨fun h=>?_,fun h=>?_⟩|refine aX ?_|fail
    exact rr
  ·have n1:(de1 != 0)=true:=bne_iff_ne.2 h2
   rw [if_pos h2]
   refine qP Tryz.func16 fun c hP hfn=>?_;simp only [vHi,cHi,vCh,cCh,slC,slH,dCh,slV,dVs,slB,vcd,↓vcp,seval]
   repeat' first|(refine tq hP (h:=⟨_,fun _=>by first|exact cp|exact cd,?_⟩);try simp only [n0,n1,vcd,↓vcp,seval])|refine ⟨fun h=>?_,fun h=>?_⟩|refine aX ?_|fail
   exact rr
 ·have n1:(xe != 0)=true:=bne_iff_ne.2 h1
  rw [if_pos h1]
  refine qP Tryz.func16 fun c hP hfn=>?_;simp only [vHi,cHi,vCh,cCh,slC,slH,dCh,slV,dVs,slB,vcd,↓vcp,seval]
  repeat' first|(refine tq hP (h:=⟨_,fun _=>by exact cp,?_⟩);try simp only [n1,vcd,↓vcp,seval])|refine ⟨fun h=>?_,fun h=>?_⟩|refine aX ?_|fail
  exact rr
end Go.Proofs.YtmccbkekpjgdbaaGreat
end
section
namespace Go.Proofs.YtmccbkekpjgdbaaGreat
open Go.Bx
set_option maxRecDepth 10000
def likeB (a b:Sl):Bool:=(a.on == b.on)&&(eqRk a.rk b.rk&&decide (a.cv=b.cv))
def same12 (a b:Sl):Bool:=((a.sf == b.sf)&&(a.st == b.st))&&((a.yr == b.yr)&&likeB a b)
theorem same12_iff {a b:Sl}:same12 a b=true↔a=b:=by
 obtain ⟨a1,a2,a3,a4,a5,a6⟩:=a
 obtain ⟨b1,b2,b3,b4,b5,b6⟩:=b
 simp only [same12,likeB,Bool.and_eq_true,eqRk_iff,beq_iff_eq,decide_eq_true_eq,Sl.mk.injEq]
 constructor
 ·rintro ⟨⟨h1,h2⟩,h3,h4,h5,h6⟩;exact ⟨h1,h2,h4,h5,h6,h3⟩
 ·rintro ⟨h1,h2,h4,h5,h6,h3⟩;exact ⟨⟨h1,h2⟩,h3,h4,h5,h6⟩
instance:DecidableEq Sl:=fun a b=>decidable_of_iff (same12 a b=true) same12_iff
end Go.Proofs.YtmccbkekpjgdbaaGreat
end
section
namespace Go.Proofs.YtmccbkekpjgdbaaGreat
open Go.Bx
set_option maxRecDepth 10000
def DLe (x y:D):Prop:=∀ E w v,RelD E w v x→RelD E w v y
theorem DLe.refl (x:D):DLe x x:=fun _ _ _ h=>h
theorem DLe.v {x y:D} (h:DLe x y):VLe (.d x) (.d y):=fun β E w v hv=>by
 cases hv with
 |d _ _ hv=>exact .d _ _ (h _ _ _ hv)
def DsLe:List D→List D→Prop
 |[],[]=>True
 |x::xs,y::ys=>DLe x y∧DsLe xs ys
 |_,_=>False
theorem DsLe.get:∀ {xs ys:List D},DsLe xs ys→xs.length=ys.length∧∀ (j:Nat) (y:D),ys[j]?=some y→∃ x,xs[j]?=some x∧DLe x y
 |[],[],_=>⟨rfl,fun j y h=>by simp at h⟩
 |x::xs,y::ys,h=>by
  obtain ⟨e,hr⟩:=DsLe.get h.2
  refine ⟨by simp [e],fun j b hb=>?_⟩
  cases j with
  |zero=>simp at hb;subst hb;exact ⟨x,rfl,h.1⟩
  |succ j=>simpa using hr j b (by simpa using hb)
 |[],_::_,h=>h.elim
 |_::_,[],h=>h.elim
theorem DLe.sl {full full':Bool} {sz sz' n n':Nat} {f f':Nat→List D} (hn:n=n') (hz:0<n→sz=sz') (hb:full'=true→full=true) (hf:∀ i,i<n→DsLe (f i) (f' i)):DLe (.sl full sz n f) (.sl full' sz' n' f'):=by
 subst hn
 intro E w v hv
 cases hv with
 |nil _ _ _ _=>exact .nil _ _ _ _
 |sl _ _ _ _ b off c g hc hfu hl hcell hrel =>
  rcases Nat.eq_zero_or_pos n with h0|h0
  ·subst h0
   exact .sl _ _ _ _ b off c g hc (fun h=>hfu (hb h)) (fun i hi=>by omega) (fun i j hi=>by omega) (fun i j hi=>by omega)
  ·have:=hz h0
   subst this
   refine .sl _ _ _ _ b off c g hc (fun h=>hfu (hb h)) (fun i hi=>((hf i hi).get.1).symm.trans (hl i hi)) hcell (fun i j hi hj x hx=>?_)
   obtain ⟨y,h1,h2⟩:=(hf i hi).get.2 j x hx
   exact h2 _ _ _ (hrel i j hi hj y h1)
def pV:Vs:=⟨1,10000,0,0,0,[],[10000],[10000,10000,10000,10000,10000,10000,10000,10000],0⟩
def pH:Hi:=⟨1,1,⟨1,101,⟨0,36500,0,0⟩,[⟨1,10,10,0,10000⟩]⟩,[]⟩
def pC:Ch:=⟨5,41,3,⟨0,0,0,0⟩,[],0⟩
def pS:List Sl:=[⟨1,101,true,⟨0,36500,0,0⟩,[⟨1,10,10,0,10000⟩],36500⟩]
def pB:List Bl:=[⟨1,5000,0⟩,⟨182,5000,0⟩]
theorem sPolicy:Ctr Tryz.prog 12 [] [] (.tup [vHi pH,.ag [.d (slV [pV])]]) [] []:=by
 refine qP Tryz.func12 fun c hP hfn=>?_;simp only [vcd,↓vcp,seval]
 repeat' first|refine ⟨fun h=>?_,fun h=>?_⟩|refine aX ?_|fail
 have n0:∀ {sz:Nat} {f g:Nat→List D},DLe (.sl true 0 0 f) (.sl false sz 0 g):=DLe.sl rfl (fun h=>by omega) (fun h=>by cases h) (fun i hi=>by omega)
 refine rp ?_
 simp only [rsb,vcd,↓vcp,seval]
 refine VLe.tups ⟨VLe.ags ⟨VLe.refl _,VLe.refl _,VLe.refl _,VLe.refl _,VLe.refl _,VLe.refl _,VLe.refl _,VLe.refl _,DLe.v (DLe.sl rfl (fun _=>rfl) (fun h=>by cases h) (fun i hi=>?_)),DLe.v n0,trivial⟩,VLe.ags ⟨DLe.v (DLe.sl rfl (fun _=>rfl) (fun h=>by cases h) (fun i hi=>?_)),trivial⟩,trivial⟩
 ·obtain rfl:i=0:=by omega
  exact ⟨DLe.refl _,DLe.refl _,DLe.refl _,DLe.refl _,DLe.refl _,trivial⟩
 ·obtain rfl:i=0:=by omega
  refine ⟨DLe.refl _,DLe.refl _,DLe.refl _,DLe.refl _,DLe.refl _,n0,DLe.sl rfl (fun _=>rfl) (fun h=>by cases h) (fun i hi=>?_),DLe.sl rfl (fun _=>rfl) (fun h=>by cases h) (fun i hi=>?_),DLe.refl _,trivial⟩
  ·obtain rfl:i=0:=by omega
   exact ⟨DLe.refl _,trivial⟩
  ·rcases i with _|_|_|_|_|_|_|_|i<;>first|exact ⟨DLe.refl _,trivial⟩|omega
set_option maxHeartbeats 2000000 in
theorem sAlive:Ctr Tryz.prog 4 [] [] (.d (.bool true)) [] []:=by
 have hz:SzC pH:=⟨by decide,by decide,fun c h=>by simp [pH] at h⟩
 have hv:∀ v,v∈[pV]→SzV v:=fun v h=>by
  rw [List.mem_singleton] at h;subst h
  exact ⟨by decide,by decide,by decide⟩
 have k0:=sPolicy
 have k1:=sDueF pH [pV] hz (by decide) hv
 rw [show dueF pH [pV]=(10000,0) by decide +kernel] at k1
 have k2:=sOfS pH [pV] hz (by decide) hv
 rw [show ofS pH [pV]=(pS,0) by decide +kernel] at k2
 have k3:=sUptoF pS 41 (by decide)
 rw [show uptoF pS 41=(4000,0) by decide +kernel] at k3
 have k4:=sGivenF pH [pV] pC hz (by decide) hv (by decide) (by decide)
 rw [show givenF pH [pV] pC=(6000,0) by decide +kernel] at k4
 have k5:=sPlan 10000 1 101 2
 rw [show planR 10000 1 101 2=(pB,0) by decide +kernel] at k5
 have k6:=rSame pB pB (by decide) (by decide)
 rw [decide_eq_true rfl] at k6
 have k7:Ctr Tryz.prog 18 [.d (slL pB),.d (.sl true 3 2 (litRow 3 [.int .i64 1,.int .i64 5000,.int .i64 0,.int .i64 182,.int .i64 5000,.int .i64 0]))] [] (.d (.bool true)) [] []:=
  k6.arg ⟨VLe.refl _,VLe_slL rfl (by intro i hi;rcases i with _|_|i<;>first|rfl|omega),trivial⟩
 have k8:Ctr Tryz.prog 16 [vHi pH,.ag [.d (slV [pV])],.ag [.d (.int .i64 5),.d (.int .i64 41),.d (.int .i64 3),.d (.int .i64 0),.d (.int .i64 0),.d (.int .i64 0),.d (.int .i64 0),.d (.sl true 0 0 fun _=>[]),.d (.int .i64 0)]] [] (.tup [.d (.int .i64 6000),.d (.int .i64 0)]) [] []:=
  k4.arg ⟨VLe.refl _,VLe.refl _,VLe.ags ⟨VLe.refl _,VLe.refl _,VLe.refl _,VLe.refl _,VLe.refl _,VLe.refl _,VLe.refl _,vle_nil,VLe.refl _,trivial⟩,trivial⟩
 have b1:∀ i:Int,(i == i)=true:=fun i=>by simp
 obtain ⟨h1,h2,h3,h4,h5,h6,h7⟩:pH.id=1∧pH.bk=1∧pH.tm.sf=1∧pH.tm.st=101∧pH.tm.rk=⟨0,36500,0,0⟩∧pH.tm.cv=pH.tm.cv∧pH.ch=pH.ch:=⟨rfl,rfl,rfl,rfl,rfl,rfl,rfl⟩
 simp only [vHi,cHi,h1,h2,h3,h4,h5] at k0 k1 k2 k8
 simp only [vS] at k5
 generalize slV [pV]=t at *
 generalize slH pH.ch=z at *
 generalize slC pH.tm.cv=y at *
 generalize slS pS=x at *
 refine qP Tryz.func4 fun c hP hfn=>?_;simp only [vcd,↓vcp,seval]
 repeat' first|(refine tq hP (h:=⟨_,fun _=>by first|exact k0|exact k1|exact k2|exact k3|exact k8|exact k5|exact k7,?_⟩);try simp only [b1,Int.reduceBEq,vcd,↓vcp,seval])|refine ⟨fun h=>?_,fun h=>?_⟩|refine aX ?_|fail
 all_goals exact rr
end Go.Proofs.YtmccbkekpjgdbaaGreat
end
section
namespace Go.Proofs.YtmccbkekpjgdbaaGreat
open Go.Bx
set_option maxRecDepth 10000
theorem sFirstD (y:Int) (h:1601≤y∧y≤2401):Ctr Tryz.prog 10 [.d (.int .i64 y)] [] (.tup [.d (.int .i64 (ahD y+1)),.d (.int .i64 0)]) [] []:=by
 obtain ⟨n,rfl⟩:∃ n:Nat,y=(n:Int):=⟨y.toNat,by omega⟩
 have ca:=sAhead n (by omega) (by omega)
 have d1:decide ((n:Int)<1601)=false:=decide_eq_false (by omega)
 have d2:decide ((n:Int)>2401)=false:=decide_eq_false (by omega)
 have hb:ahN n≤ahN 2401:=ah_mono (by omega) (by omega)
 have hb2:ahN 2401=292194:=by decide +kernel
 have e:ahD (n:Int)=(ahN n:Nat):=by rw [ahD,Int.toNat_natCast]
 have w1:IntKind.i64.wrap (((ahN n:Nat):Int)+1)=((ahN n:Nat):Int)+1:=wI (by omega)
 rw [e]
 refine qP Tryz.func10 fun c hP hfn=>?_;simp only [d1,d2,w1,vcd,↓vcp,seval]
 repeat' first|(refine tq hP (h:=⟨_,fun _=>by exact ca,?_⟩);try simp only [d1,d2,w1,vcd,↓vcp,seval])|refine ⟨fun h=>?_,fun h=>?_⟩|refine aX ?_|fail
 all_goals
  refine rp ?_
  simp only [w1,rsb,vcd,↓vcp,seval]
  exact VLe.refl _
theorem sStepAt (P:List (Int×Int)) (d:Int) (h:stG 0 0 P=true) (hs:P.Pairwise (fun a b=>a.1<b.1)) (hl:P.length≤2305843009213693952):Ctr Tryz.prog 11 [vSt P,.d (.int .i64 d)] [] (.d (.int .i64 (valS P d))) [] []:=by
 have c1:=sRightS P (by omega)
 have c2:=sValue P d hs hl
 rw [h] at c1
 simp only [vSt,cSt] at c1 c2
 refine qP Tryz.func11 fun c hP hfn=>?_;simp only [vSt,cSt,vcd,↓vcp,seval]
 repeat' first|(refine tq hP (h:=⟨_,fun _=>by first|exact c1|exact c2,?_⟩);try simp only [vcd,↓vcp,seval])|refine ⟨fun h=>?_,fun h=>?_⟩|refine aX ?_|fail
 all_goals exact rr
def fewL (l:List Fi):Bool:=decide (l.length≤20)&&l.all fun f=>decide (f.ac.length≤40)
theorem sFew20 (l:List Fi) (hl:l.length≤9223372036854775807) (hs:∀ f,f∈l→f.ac.length≤9223372036854775807):Ctr Tryz.prog 5 [.d (slF l)] [] (.d (.bool (fewL l))) [] []:=by
 by_cases h20:l.length>20
 ·have d0:decide ((l.length:Int)>20)=true:=decide_eq_true (by omega)
  have e:fewL l=false:=by rw [fewL,decide_eq_false (by omega)];rfl
  rw [e]
  refine qP Tryz.func5 fun c hP hfn=>?_;simp only [slF,dFi,d0,vcd,↓vcp,seval]
  repeat' first|refine ⟨fun h=>?_,fun h=>?_⟩|refine aX ?_|fail
  all_goals exact rr
 ·have d0:decide ((l.length:Int)>20)=false:=decide_eq_false (by omega)
  have e:fewL l=l.all fun f=>decide (f.ac.length≤40):=by rw [fewL,decide_eq_true (by omega)];rfl
  rw [e]
  refine qP Tryz.func5 fun c hP hfn=>?_;simp only [slF,dFi,d0,vcd,↓vcp,seval]
  repeat' first|refine ⟨fun h=>?_,fun h=>?_⟩|refine aX ?_|fail
  refine vcC.loop (X:=Nat) (fun k=>⟨[(0,.d (slF l)),(3,.d (.int .i64 (k:Nat)))],[],[]⟩)
   (fun k=>k≤l.length∧(l.all fun f=>decide (f.ac.length≤40))=(l.drop k).all fun f=>decide (f.ac.length≤40)) (fun k=>l.length-k) 0 ⟨Nat.zero_le _,rfl⟩ (Wk.of _ hfn rfl (by simp only [slF,dFi,enb,vcd,↓vcp,seval]) (by simp only [enb,vcd,↓vcp,seval])) ?_
  rintro k ⟨hk,he⟩
  by_cases hlt:k<l.length
  ·obtain ⟨f,hd,hg,hm,-⟩:=drop_at hlt
   have hg:=hg default
   have d1:decide ((k:Int)<(l.length:Int))=true:=decide_eq_true (by omega)
   have w1:IntKind.i64.wrap ((k:Int)+1)=((k+1:Nat):Int):=wS (by omega)
   have b1:(0:Int)≤(k:Int)∧(k:Int)<(l.length:Int):=by omega
   rw [hd,List.all_cons] at he
   by_cases h40:f.ac.length>40
   ·have d2:decide ((f.ac.length:Int)>40)=true:=decide_eq_true (by omega)
    rw [decide_eq_false (by omega),Bool.false_and] at he
    simp only [slF,dFi,slA,hg,d1,w1,d2,vcd,↓vcp,seval]
    repeat' first|refine ⟨fun h=>?_,fun h=>?_⟩|refine aX ?_|fail
    all_goals (refine rq ?_;first|exact ⟨⟩|rw [he])
   ·have d2:decide ((f.ac.length:Int)>40)=false:=decide_eq_false (by omega)
    rw [decide_eq_true (by omega),Bool.true_and] at he
    simp only [slF,dFi,slA,hg,d1,w1,d2,vcd,↓vcp,seval]
    repeat' first|refine ⟨fun h=>?_,fun h=>?_⟩|refine aX ?_|fail
    exact lopK.on (k+1) ⟨hlt,he⟩ (by omega) (Wk.of _ hfn rfl (by simp only [slF,dFi,slA,w1,enb,vcd,↓vcp,seval]) (by simp only [enb,vcd,↓vcp,seval]))
  ·have hk2:k=l.length:=by omega
   have d1:decide ((k:Int)<(l.length:Int))=false:=decide_eq_false (by omega)
   rw [hk2,List.drop_length,List.all_nil] at he
   simp only [slF,dFi,d1,vcd,↓vcp,seval]
   repeat' first|refine ⟨fun h=>?_,fun h=>?_⟩|refine aX ?_|fail
   all_goals (refine rq ?_;first|exact ⟨⟩|rw [he])
def rowWo (R:List Rw):Go.Bx.Own:=.row 90 3 R.length (fun i=>dW (R.getD i default))
theorem sPremRows (l:List Fi) (Q:List (Nat×Int×Int)) (hl:l.length≤1000000) (hQ:Q.length≤1000000) (hfi:∀ p,p∈Q→p.1<l.length):Ctr Tryz.prog 9 [.d (slF l),.d (slR Q)] [] (.d (slW (rowsW l Q))) [] []:=by
 refine qP Tryz.func9 fun c hP hfn=>?_;simp only [slF,dFi,slR,cPr,vcd,↓vcp,seval]
 refine vcC.loop (X:=Nat) (fun k=>⟨[(5,.osl 1000),(0,.d (slF l)),(1,.d (slR Q)),(6,.d (.int .i64 (k:Nat)))],[(1000,rowWo (rowsW l (Q.take k)))],[1000]⟩)
  (fun k=>k≤Q.length) (fun k=>Q.length-k) 0 (Nat.zero_le _) ?_ ?_
 ·refine (Wk.row0 (s:=5) (k:=1000) (e:=90) (sz:=3) (f':=fun _=>[]) rfl rfl (by simp)).trans (Wk.of _ hfn rfl ?_ ?_)
  ·simp only [slF,dFi,slR,cPr,enb,vcd,↓vcp,seval]
  ·simp only [rowWo,rowsW,List.take_zero,List.map_nil,enb,vcd,↓vcp,seval];exact OLe.row rfl (fun i hi=>absurd hi (Nat.not_lt_zero i))
 intro k hk
 by_cases hlt:k<Q.length
 ·obtain ⟨p,-,hg,hm,hat⟩:=drop_at hlt
  have hg:=hg default
  have hp:=hfi p hm
  obtain ⟨f,-,hgf,-,-⟩:=drop_at hp
  have hgf:=hgf default
  have d1:decide ((k:Int)<(Q.length:Int))=true:=decide_eq_true (by omega)
  have w1:IntKind.i64.wrap ((k:Int)+1)=((k+1:Nat):Int):=wS (by omega)
  have b1:(0:Int)≤(k:Int)∧(k:Int)<(Q.length:Int):=by omega
  have b2:(0:Int)≤(p.1:Int)∧(p.1:Int)<(l.length:Int):=by omega
  have d2:decide ((p.1:Int)<0)=false:=decide_eq_false (by omega)
  have d3:decide ((p.1:Int)≥(l.length:Int))=false:=decide_eq_false (by omega)
  have ht:rowsW l (Q.take (k+1))=rowsW l (Q.take k)++[(f.cl.lo,p.2.1,p.2.2)]:=by rw [rowsW,rowsW,List.take_add_one,hat,List.map_append];simp only [Option.toList_some,List.map_cons,List.map_nil,hgf]
  have hTl:(rowsW l (Q.take k)).length=k:=by rw [rowsW,List.length_map,List.length_take];omega
  generalize rowsW l (Q.take k)=T at *
  have hroom:(T.length+1)*24≤140737488355328∧T.length+1≤maxLen:=⟨by omega,by simp only [maxLen];omega⟩
  simp only [rowWo,slF,dFi,slR,cPr,hg,hgf,d1,w1,d2,d3,vcd,↓vcp,seval]
  repeat' first|refine ⟨fun h=>?_,fun h=>?_⟩|refine aX ?_|fail
  exact lopK.on (k+1) hlt (by omega) (Wk.snoc (k:=52) _ hfn rfl rfl rfl rfl (OLe.appE dW ht (fun i hi=>if_pos hi) (by simp [litRow,dW])) (by (simp only [slF,dFi,slR,cPr,w1,enb,vcd,↓vcp,seval])<;>(first|exact wS (by omega)|(rw [List.length_append];exact wS (by omega))|assumption)) (by simp only [enb,vcd,↓vcp,seval]) (by simp) (by simp only [enb,vcd,↓vcp,seval]) (by simp only [enb,vcd,↓vcp,seval]))
 ·have hk2:k=Q.length:=by omega
  have d1:decide ((k:Int)<(Q.length:Int))=false:=decide_eq_false (by omega)
  rw [hk2,List.take_length]
  rw [hk2] at d1
  simp only [rowWo,slR,cPr,d1,vcd,↓vcp,seval]
  repeat' first|refine ⟨fun h=>?_,fun h=>?_⟩|refine aX ?_|fail
  refine rK (Wk.pub 1000 rfl) trivial ?_
  simp only [slW,rsb,vcd,↓vcp,seval]
  exact VLe.refl _
end Go.Proofs.YtmccbkekpjgdbaaGreat
end
section
namespace Go.Proofs.YtmccbkekpjgdbaaGreat
open Go.Bx
set_option maxRecDepth 10000
theorem few_sh {l:List Fi} (h:fewL l=true):ShF l∧(bksL l).length≤1000000∧l.length≤20:=by
 rw [fewL,Bool.and_eq_true,decide_eq_true_eq,List.all_eq_true] at h
 have h2:∀ f,f∈l→f.ac.length≤40:=fun f hf=>by simpa using h.2 f hf
 refine ⟨⟨by omega,fun f hf=>by have:=h2 f hf;omega⟩,?_,h.1⟩
 have:=bksL_len (l:=l) fun f hf=>by have:=h2 f hf;omega
 have h3:(bksL l).length=l.length+actsN l:=bksL_n l
 have h4:actsN l≤l.length*40:=by
  clear this h3
  have hh:=h2
  clear h2 h
  induction l with
  |nil=>simp [actsN]
  |cons f l ih =>
   have a:=ih fun g hg=>hh g (by simp [hg])
   have b:=hh f (by simp)
   rw [actsN,List.length_cons];omega
 omega
theorem st_pair {P:List (Int×Int)} (h:stG 0 0 P=true):P.Pairwise (fun a b=>a.1<b.1):=(stG_iff h).2
theorem lYears (k':Cv) (l:List Fi) (hli:I64 k'.li) (hag:I64 k'.ag) (hsh:I64 k'.sh) (hl:l.length≤9223372036854775807) (hs:∀ f,f∈l→f.ac.length≤9223372036854775807):Ctr Tryz.prog 3 [vC k',.d (slF l)] [] (.d (.bool true)) [] []:=by
 have ka:=sAlive
 have kf:=sFew20 l hl hs
 cases hfew:fewL l with
 |false =>
  rw [hfew] at kf
  refine qP Tryz.func3 fun c hP hfn=>?_;simp only [vC,cC,vcd,↓vcp,seval]
  repeat' first|(refine tq hP (h:=⟨_,fun _=>by first|exact ka|exact kf,?_⟩);try simp only [vcd,↓vcp,seval])|refine ⟨fun h=>?_,fun h=>?_⟩|refine aX ?_|fail
  all_goals exact rr
 |true =>
 rw [hfew] at kf
 obtain ⟨sh,hb,h20⟩:=few_sh hfew
 have kp:=sPaidF k' l sh hli hag hsh
 have kc:=sCurves k' l (sDays l sh hb) sh hli hag hsh
 simp only [vC,cC] at kp kc
 simp only [vSt,cSt] at kc
 by_cases he:checkL k' l=0
 ·by_cases hc:curE k' l=0
  ·have R:=check_ok he
   have n0:((0:Int) != 0)=false:=rfl
   have ro:=rows_ok R (R.fine hli hag)
   have rw':=rowsW_ok R hli hag
   obtain ⟨c1,c2⟩:=curve_val R hli hag
   have kr:=sPremRows l (rowsP k' l).rows (by omega) (by have:=ro.len;omega) ro.fi
   have kt:=sTriOf _ rw'
   have hcl:(curY (vDay k' l) (daysL l)).length≤1000000:=by
    have h1:=curY_len (vDay k' l) (daysL l) []
    have h2:(daysL l).length≤(bksL l).length:=by
     obtain ⟨d1,d2⟩:=daysL_ok l
     exact nodup_le (d1.imp fun h=>by omega) fun a ha=>(d2 a).1 ha
    simp only [List.length_nil] at h1
    rw [curY];omega
   rw [hc] at kc
   rw [curP,curH,if_pos hc,if_pos hc] at kc
   rw [paidL,if_pos he] at kp
   have hby:=rowsW_by l (rowsP k' l).rows
   have hlp:rowsW l (rowsP k' l).rows≠[]→0<l.length:=fun h=>by
    cases hr:(rowsP k' l).rows with
    |nil=>rw [hr] at h;exact absurd rfl h
    |cons p r=>have:=ro.fi p (by rw [hr];simp);omega
   clear ro he hc R
   generalize (rowsP k' l).rows=Q at *
   generalize rowsW l Q=W at *
   generalize curY (vDay k' l) (daysL l)=P at *
   generalize curY (hDay k' l) (daysL l)=H at *
   by_cases ht:triE W=0
   ·rw [triV,if_pos ht] at kt
    obtain ⟨g0,g1,g2,g3⟩:=diag_ok rw' ht
    obtain ⟨n1,n2⟩:=triN_pos rw' ht
    have hpos:=hlp g0
    obtain ⟨n,hn⟩:∃ n:Nat,nT W=n:=⟨(nT W).toNat,by omega⟩
    have hG:triG W=gridP n n fun i j=>cellT (frF W) W i (j:Int):=by rw [triG,hn,Int.toNat_natCast]
    rw [hG,hn,Int.toNat_natCast] at kt
    rw [hn] at g2 n1 n2
    clear hG hn ht g0 hlp
    generalize frF W=fr at *
    have hst:=st_pair c1
    have kA:=fun d=>sStepAt P d c1 hst (by omega)
    simp only [vSt,cSt] at kA
    have dpos:decide ((l.length:Int)>0)=true:=decide_eq_true (by omega)
    have hcb:∀ (i:Nat) (j:Int),0≤cellT fr W i j:=fun i j=>by
     have:=(cell_bd rw' fr i j W.length).1
     rwa [List.take_length] at this
    have hdg:∀ k:Nat,sumR (fun i=>cellT fr W i ((k:Int)-i)) (k+1)≤1000000000000000∧sumR (fun i=>cellT fr W i ((k:Int)-i)) (k+1)=valS P (ahD (fr+k+1)):=fun k=>by
     rw [g3 k]
     refine ⟨Int.le_trans (sum_filt rw'.c _).2 rw'.s,?_⟩
     rw [hby,c2]
    have hgr:∀ i,i<n→(gridP n n fun i j=>cellT fr W i (j:Int)).getD i []=(List.range (n-i)).map fun j:Nat=>cellT fr W i (j:Int):=fun i hi=>by
     rw [List.getD_eq_getElem?_getD,gridP_get hi];rfl
    refine qP Tryz.func3 fun c hP hfn=>?_;simp only [vC,cC,vcd,↓vcp,seval]
    repeat' first|(refine tq hP (h:=⟨_,fun _=>by first|exact ka|exact kf|exact kp|exact kc|exact kr|exact kt,?_⟩);try simp only [n0,vcd,↓vcp,seval])|refine ⟨fun h=>?_,fun h=>?_⟩|refine aX ?_|fail
    refine vcC.loop (X:=Nat) (fun k=>⟨[(1,.d (slF l)),(5,.d (.bool true)),(9,.own 9 0),(12,.own 12 0),(14,.d (.int .i64 (k:Nat)))],[(9,.fix (cSt P)),(12,.fix [.d (.int .i64 fr),.d (.sl false 1 n (nestD 0 cI 1 (gridP n n fun i j=>cellT fr W i (j:Int))))])],[9,12]⟩)
     (fun k=>k≤n) (fun k=>n-k) 0 (Nat.zero_le _) (Wk.of _ hfn rfl (by simp only [enb,vcd,↓vcp,seval]) (by simp only [cSt,enb,vcd,↓vcp,seval])) ?_
    intro k hk
    by_cases hlt:k<n
    ·have d0:decide ((k:Int)<(n:Int))=true:=decide_eq_true (by omega)
     have w1:IntKind.i64.wrap ((k:Int)+1)=((k+1:Nat):Int):=wS (by omega)
     have w2:IntKind.i64.wrap (IntKind.i64.wrap (fr+(k:Int))+1)=fr+k+1:=by rw [wI (a:=fr+(k:Int)) (by omega),wI (by omega)]
     have cf:=sFirstD (fr+k+1) (by omega)
     obtain ⟨hd1,hd2⟩:=hdg k
     have kA:=kA (ahD (fr+k+1))
     have hab:0≤ahD (fr+k+1)∧ahD (fr+k+1)≤292194:=by
      have hb2:ahN 2401=292194:=by decide +kernel
      have hb:ahN (fr+k+1).toNat≤ahN 2401:=ah_mono (by omega) (by omega)
      unfold ahD;omega
     generalize ahD (fr+k+1)=D at *
     have w6:IntKind.i64.wrap (D+1-1)=D:=(wI (by omega)).trans (by omega)
     simp only [cSt,nestD,d0,w1,w2,vcd,↓vcp,seval]
     repeat' first|(refine tq hP (h:=⟨_,fun _=>by exact cf,?_⟩);try simp only [w1,w2,n0,vcd,↓vcp,seval])|refine ⟨fun h=>?_,fun h=>?_⟩|refine aX ?_|fail
     refine vcC.loop (X:=Nat) (fun i=>⟨[(1,.d (slF l)),(5,.d (.bool true)),(9,.own 9 0),(12,.own 12 0),(14,.d (.int .i64 (k:Nat))),(15,.d (.int .i64 (D+1))),(17,.d (.int .i64 (sumR (fun i=>cellT fr W i ((k:Int)-i)) i))),(18,.d (.int .i64 (i:Nat)))],[(9,.fix (cSt P)),(12,.fix [.d (.int .i64 fr),.d (.sl false 1 n (nestD 0 cI 1 (gridP n n fun i j=>cellT fr W i (j:Int))))])],[9,12]⟩)
      (fun i=>i≤k+1) (fun i=>k+1-i) 0 (Nat.zero_le _) (Wk.of _ hfn rfl (by simp only [sumR,enb,vcd,↓vcp,seval]) (by simp only [cSt,nestD,enb,vcd,↓vcp,seval])) ?_
     intro i hi
     by_cases hit:i<k+1
     ·have d1:decide ((i:Int)≤(k:Int))=true:=decide_eq_true (by omega)
      have w3:IntKind.i64.wrap ((k:Int)-(i:Int))=((k-i:Nat):Int):=(wI (by omega)).trans (by omega)
      have w5:IntKind.i64.wrap ((i:Int)+1)=((i+1:Nat):Int):=wS (by omega)
      have hr:=hgr i (by omega)
      have hln:((List.range (n-i)).map fun j:Nat=>cellT fr W i (j:Int)).length=n-i:=row_len _ _
      have d2:decide (((k-i:Nat):Int)≥((n-i:Nat):Int))=false:=decide_eq_false (by omega)
      have hv:((List.range (n-i)).map fun j:Nat=>cellT fr W i (j:Int)).getD (k-i) 0=cellT fr W i ((k:Int)-i):=by
       rw [row_get (by omega)];congr 1;omega
      have hs1:=sumR_le (f:=fun i=>cellT fr W i ((k:Int)-i)) (fun i=>hcb i _) (n:=k+1) (k:=i) (by omega)
      have hs2:=sumR_le (f:=fun i=>cellT fr W i ((k:Int)-i)) (fun i=>hcb i _) (n:=k+1) (k:=i+1) (by omega)
      have hsu:sumR (fun i=>cellT fr W i ((k:Int)-i)) (i+1)=sumR (fun i=>cellT fr W i ((k:Int)-i)) i+cellT fr W i ((k:Int)-i):=rfl
      have w4:IntKind.i64.wrap (sumR (fun i=>cellT fr W i ((k:Int)-i)) i+cellT fr W i ((k:Int)-i))=sumR (fun i=>cellT fr W i ((k:Int)-i)) i+cellT fr W i ((k:Int)-i):=wI (by omega)
      have b1:(0:Int)≤(i:Int)∧(i:Int)<(n:Int):=by omega
      have b2:(0:Int)≤((k-i:Nat):Int)∧((k-i:Nat):Int)<((n-i:Nat):Int):=by omega
      simp only [cSt,nestD,cI,hr,hln,hv,d1,d2,w3,w4,w5,vcd,↓vcp,seval]
      repeat' first|refine ⟨fun h=>?_,fun h=>?_⟩|refine aX ?_|fail
      exact lopK.on (i+1) (by omega) (by omega) (Wk.of _ hfn rfl (by simp only [hsu,w5,enb,vcd,↓vcp,seval]) (by simp only [cSt,nestD,cI,enb,vcd,↓vcp,seval]))
     ·have hi2:i=k+1:=by omega
      have d1:decide ((i:Int)≤(k:Int))=false:=decide_eq_false (by omega)
      rw [hi2,hd2]
      rw [hi2] at d1
      have n3:(valS P D != valS P D)=false:=by simp
      simp only [cSt,nestD,d1,w1,w6,n3,vcd,↓vcp,seval]
      repeat' first|(refine tq hP (h:=⟨_,fun _=>by exact kA,?_⟩);try simp only [w1,w6,n3,vcd,↓vcp,seval])|refine ⟨fun h=>?_,fun h=>?_⟩|refine aX ?_|fail
      exact lopK.on (k+1) hlt (by omega) (Wk.of _ hfn rfl (by simp only [w1,enb,vcd,↓vcp,seval]) (by simp only [cSt,nestD,enb,vcd,↓vcp,seval]))
    ·have hk2:k=n:=by omega
     have d0:decide ((k:Int)<(n:Int))=false:=decide_eq_false (by omega)
     rw [hk2]
     rw [hk2] at d0
     simp only [cSt,nestD,slF,d0,dpos,vcd,↓vcp,seval]
     repeat' first|refine ⟨fun h=>?_,fun h=>?_⟩|refine aX ?_|fail
     all_goals exact rr
   ·rw [triV,if_neg ht] at kt
    have n1:(triE W != 0)=true:=by rw [bne_iff_ne];exact ht
    refine qP Tryz.func3 fun c hP hfn=>?_;simp only [vC,cC,vcd,↓vcp,seval]
    repeat' first|(refine tq hP (h:=⟨_,fun _=>by first|exact ka|exact kf|exact kp|exact kc|exact kr|exact kt,?_⟩);try simp only [n0,n1,vcd,↓vcp,seval])|refine ⟨fun h=>?_,fun h=>?_⟩|refine aX ?_|fail
    all_goals exact rr
  ·have n0:((0:Int) != 0)=false:=rfl
   have n1:(curE k' l != 0)=true:=by rw [bne_iff_ne];exact hc
   rw [paidL,if_pos he] at kp
   refine qP Tryz.func3 fun c hP hfn=>?_;simp only [vC,cC,vcd,↓vcp,seval]
   repeat' first|(refine tq hP (h:=⟨_,fun _=>by first|exact ka|exact kf|exact kp|exact kc,?_⟩);try simp only [n0,n1,vcd,↓vcp,seval])|refine ⟨fun h=>?_,fun h=>?_⟩|refine aX ?_|fail
   all_goals exact rr
 ·have n1:(checkL k' l != 0)=true:=by rw [bne_iff_ne];exact he
  rw [paidL,if_neg he] at kp
  refine qP Tryz.func3 fun c hP hfn=>?_;simp only [vC,cC,vcd,↓vcp,seval]
  repeat' first|(refine tq hP (h:=⟨_,fun _=>by first|exact ka|exact kf|exact kp|exact kc,?_⟩);try simp only [n1,vcd,↓vcp,seval])|refine ⟨fun h=>?_,fun h=>?_⟩|refine aX ?_|fail
  all_goals exact rr
end Go.Proofs.YtmccbkekpjgdbaaGreat
end
section
namespace Go.Proofs.YtmccbkekpjgdbaaGreat
open Go.ChangeShapes Go.WideShapes Go.ChangeAt Go.RowKit Go.Bx
set_option maxRecDepth 100000
theorem topYearsCurve_lifted (os:Os) (started:os.Started) (H:Type) (enc:TypeId×Value→H) :
  ReturnsInHanded {} Tryz.checked os 3 .any (Rows.topYearsCurveSpec.pre6 enc Tryz.prog Tryz.f3 Rows.topYearsCurveRow.domain false) (Rows.topYearsCurveSpec.post enc Tryz.prog Tryz.f3 false true false false):=by
 refine returnsInHanded_of_change (C:=Tryz.checked) Tryz.own started (by kernel_rfl) Tryz.func3
  (ChangeSpec.witness6 (enc:=enc) (C:=Tryz.checked) false ⟨#[],#[.agg #[.int .i64 0,.int .i64 0,.int .i64 0,.int .i64 0,.int .i64 0],.slice none 0 0],[]⟩ 8 (by kernel_rfl) (by kernel_rfl) (by kernel_rfl) (by kernel_rfl)) ?_
 intro W base args ds gs before hval hW _ _
 refine law_calls (tb:=4) Tryz.laidOut (by kernel_rfl) (by kernel_rfl) Tryz.underlying4 rfl ?_ ?_ W base args ds gs before hval hW
 ·intro ds hd
  match ds,hd with
  |[_,_],_=>rfl
 ·intro W base args ds p hval hA
  rw [show Tryz.f3.params.toList=[23,24] by kernel_rfl] at hA
  obtain ⟨v0,v1,d0,d1,p0,p1,rfl,rfl,_,h0,h1⟩:=trodAll_two hA
  obtain ⟨c,ck,r0⟩:=cover_reads.agg (by kernel_rfl) (hval 0 23 v0 rfl rfl) h0
  obtain ⟨l,lk,r1⟩:=files_reads.cell (by kernel_rfl) (hval 1 24 v1 rfl rfl) h1
  exact ⟨[vC c,.d (slF l)],rfl,rel2 r0 r1,lYears c l ck.1 ck.2.1 ck.2.2 lk.1 lk.2⟩
theorem topYearsCurve_holds:Rows.TopYearsCurveSaid:=
 OpenClaim.holds_of_wide 3 Tryz.f3 rfl rfl rfl rfl rfl rfl rfl ⟨rfl,rfl,rfl,rfl,rfl⟩ rfl rfl rfl rfl rfl (by kernel_rfl) Tryz.func3 (by kernel_rfl)
  (of_decide_eq_true (by kernel_rfl)) (by unfold Func.isWrapper;first|(rw [if_pos (by decide +kernel)];kernel_rfl)|(rw [if_neg (by decide +kernel)];exact ⟨rfl,rfl⟩))
  (fun os started H enc _=>topYearsCurve_lifted os started H enc)
end Go.Proofs.YtmccbkekpjgdbaaGreat
end
