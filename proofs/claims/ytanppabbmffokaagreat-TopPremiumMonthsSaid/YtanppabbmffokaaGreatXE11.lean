import Derived.Test.YtanppabbmffokaaGreatXE10
set_option linter.unusedSimpArgs false
set_option linter.unusedVariables false
section
namespace Go.Proofs.YtanppabbmffokaaGreat
open Go.Bx
set_option maxRecDepth 10000
theorem sFullSl (s:Sl) (e:Int):Ctr Tryz.prog 98 [vSl s,.d (.int .i64 e)] [] (.d (.bool (fullSl s e))) [] []:=by
 refine ctr_pure Tryz.func98 ok98 rfl cc98 cr98 Tryz.ntmps98 (by simp) rfl rfl ?_;intro c hP hfn;simp only [kc98,vSl,cSl,slC,vcd,↓vcp,seval]
 repeat' first|refine And.intro (fun h=>?_) (fun h=>?_)|refine aO ?_|(refine tA rfl rfl rfl rfl ?_;try simp only [vcd,↓vcp,seval])|refine aT ?_|fail
 exact RetK.pure (by simp only [rs98,rsb,vcd,↓vcp,seval]) (by (simp only [rs98,rsb,enb,vcd,↓vcp,seval])<;>(first|simp only [fullSl,Bool.and_assoc]))
def popC (P:List (Int×Int)) (day:Int):Prop:=0<P.length∧(P.getD (P.length-1) (0,0)).1=day
def pushC (P:List (Int×Int)) (day v:Int):Prop:=v≠(P.getD (P.length-1) (0,0)).2∧day≤292194
instance (P:List (Int×Int)) (day:Int):Decidable (popC P day):=inferInstanceAs (Decidable (_∧_))
instance (P:List (Int×Int)) (day v:Int):Decidable (pushC P day v):=inferInstanceAs (Decidable (_∧_))
def rowA (P:List (Int×Int)):Go.Bx.Own:=.row 3 1 P.length (fun i=>[.int .i64 (P.getD i (0,0)).1])
def rowV (P:List (Int×Int)):Go.Bx.Own:=.row 3 1 P.length (fun i=>[.int .i64 (P.getD i (0,0)).2])
theorem take_getD {P:List (Int×Int)} {n i:Nat} (h:i<n):(P.take n).getD i (0,0)=P.getD i (0,0):=by
 simp [List.getD_eq_getElem?_getD,List.getElem?_take,h]
set_option maxHeartbeats 2000000 in
theorem sAdd11 (P:List (Int×Int)) (day v:Int) (hl:P.length≤100000) (hc:popC P day) (hp:pushC (popP P day) day v) :
  Ctr Tryz.prog 97 [.d (.int .i64 day),.d (.int .i64 v),.own 903 0] [(903,.fix [.osl 1000,.osl 1001]),(1000,rowA P),(1001,rowV P)] (.tup []) [(903,.fix [.osl 1002,.osl 1003]),(1002,rowA (addP P day v)),(1003,rowV (addP P day v))] [1002,1003]:=by
 refine ctr_ownW Tryz.func97 ok97 rfl cc97 cr97 Tryz.ntmps97 (by simp) rfl ?_
 intro c hP hfn
 have e:popP P day=(P.take (P.length-1)):=if_pos hc
 have e2:addP P day v=((P.take (P.length-1))++[(day,v)]):=(if_pos hp).trans (by rw [e])
 rw [e] at hp
 rw [e2]
 obtain ⟨h1,h2⟩:=hc
 have d0:decide ((P.length:Int)>0)=true:=decide_eq_true (by omega)
 have w1:IntKind.i64.wrap ((P.length:Int)-1)=((P.length-1:Nat):Int):=(wI (by omega)).trans (by omega)
 have b1:(0:Int)≤((P.length-1:Nat):Int)∧((P.length-1:Nat):Int)<(P.length:Int):=by omega
 have b2:(0:Int)≤((P.length-1:Nat):Int)∧((P.length-1:Nat):Int)≤(P.length:Int):=by omega
 have d1:((P.getD (P.length-1) (0,0)).1 == day)=true:=beq_iff_eq.2 h2
 simp only [namesL,V.names,ownNames,rowA,rowV,d0,w1,d1,vcd,↓vcp,seval]
 repeat' first|refine And.intro (fun h=>?_) (fun h=>?_)|refine aO ?_|(refine tA rfl rfl rfl rfl ?_;try simp only [d0,w1,d1,vcd,↓vcp,seval])|refine aT ?_|fail
 rw [seqW_nrm]
 refine ⟨⟨[(0,.d (.int .i64 day)),(1,.d (.int .i64 v)),(2,.own 903 0)],[(903,.fix [.osl 1004,.osl 1005]),(1004,rowA (P.take (P.length-1))),(1005,rowV (P.take (P.length-1)))],[903,1000,1001,1004,1005]⟩,(Wk.shr 1000 1004 (P.length-1) rfl (by omega) (by simp)).trans ((Wk.shr 1001 1005 (P.length-1) rfl (by omega) (by simp)).trans (Wk.of _ hfn rfl (by simp only [enb,vcd,↓vcp,seval]) ?_)),?_⟩
 ·simp only [rowA,rowV,enb,vcd,↓vcp,seval]
  exact ⟨OLe.row (by rw [List.length_take];omega) fun i hi=>by rw [take_getD hi],OLe.row (by rw [List.length_take];omega) fun i hi=>by rw [take_getD hi]⟩
 clear d0 w1 b1 b2 d1 h2 e e2
 have hQl:(P.take (P.length-1)).length≤100000:=by rw [List.length_take];omega
 generalize P.take (P.length-1)=Q at *
 by_cases h0:Q.length=0
 ·have hx:((v != (Q.getD (Q.length-1) (0,0)).2)&&decide (day≤292194))=true:=by rw [Bool.and_eq_true,bne_iff_ne,decide_eq_true_eq];exact hp
  have hroom:(Q.length+1)*8≤140737488355328∧Q.length+1≤maxLen:=⟨by omega,by simp only [maxLen];omega⟩
  have g0:decide ((Q.length:Int)>0)=false:=decide_eq_false (by omega)
  have gl:(Q.getD (Q.length-1) (0,0)).2=0:=by
   have:Q=[]:=List.eq_nil_of_length_eq_zero (by omega)
   rw [this];rfl
  rw [gl] at hx
  simp only [rowA,rowV,g0,hx,vcd,↓vcp,seval]
  repeat' first|refine And.intro (fun h=>?_) (fun h=>?_)|refine aO ?_|(refine tA rfl rfl rfl rfl ?_;try simp only [g0,hx,vcd,↓vcp,seval])|refine aT ?_|fail
  refine RetK.mk' _ ((Wk.sw 57 1002 _ hfn (by simp [namesL,V.names,ownNames,rowA,rowV]) (by simp [namesL,V.names,ownNames,rowA,rowV])).trans (Wk.sw 62 1003 _ hfn (by simp [namesL,V.names,ownNames,rowA,rowV]) (by simp [namesL,V.names,ownNames,rowA,rowV]))) (by simp only [rs97,rsb,vcd,↓vcp,seval]) (by simp only [rs97,rsb,enb,vcd,↓vcp,seval]) ?_
  simp only [rowA,rowV,enb,vcd,↓vcp,seval]
  exact ⟨OLe.app1 (fun p:Int×Int=>[.int .i64 p.1]) (fun i hi=>by simp [hi]) (by simp [litRow]),OLe.app1 (fun p:Int×Int=>[.int .i64 p.2]) (fun i hi=>by simp [hi]) (by simp [litRow])⟩
 ·have hx:((v != (Q.getD (Q.length-1) (0,0)).2)&&decide (day≤292194))=true:=by rw [Bool.and_eq_true,bne_iff_ne,decide_eq_true_eq];exact hp
  have hroom:(Q.length+1)*8≤140737488355328∧Q.length+1≤maxLen:=⟨by omega,by simp only [maxLen];omega⟩
  have g0:decide ((Q.length:Int)>0)=true:=decide_eq_true (by omega)
  have v1:IntKind.i64.wrap ((Q.length:Int)-1)=((Q.length-1:Nat):Int):=(wI (by omega)).trans (by omega)
  have c1:(0:Int)≤((Q.length-1:Nat):Int)∧((Q.length-1:Nat):Int)<(Q.length:Int):=by omega
  simp only [rowA,rowV,g0,v1,hx,vcd,↓vcp,seval]
  repeat' first|refine And.intro (fun h=>?_) (fun h=>?_)|refine aO ?_|(refine tA rfl rfl rfl rfl ?_;try simp only [g0,v1,hx,vcd,↓vcp,seval])|refine aT ?_|fail
  refine RetK.mk' _ ((Wk.sw 57 1002 _ hfn (by simp [namesL,V.names,ownNames,rowA,rowV]) (by simp [namesL,V.names,ownNames,rowA,rowV])).trans (Wk.sw 62 1003 _ hfn (by simp [namesL,V.names,ownNames,rowA,rowV]) (by simp [namesL,V.names,ownNames,rowA,rowV]))) (by simp only [rs97,rsb,vcd,↓vcp,seval]) (by simp only [rs97,rsb,enb,vcd,↓vcp,seval]) ?_
  simp only [rowA,rowV,enb,vcd,↓vcp,seval]
  exact ⟨OLe.app1 (fun p:Int×Int=>[.int .i64 p.1]) (fun i hi=>by simp [hi]) (by simp [litRow]),OLe.app1 (fun p:Int×Int=>[.int .i64 p.2]) (fun i hi=>by simp [hi]) (by simp [litRow])⟩
set_option maxHeartbeats 2000000 in
theorem sAdd10 (P:List (Int×Int)) (day v:Int) (hl:P.length≤100000) (hc:popC P day) (hp:¬ pushC (popP P day) day v) :
  Ctr Tryz.prog 97 [.d (.int .i64 day),.d (.int .i64 v),.own 903 0] [(903,.fix [.osl 1000,.osl 1001]),(1000,rowA P),(1001,rowV P)] (.tup []) [(903,.fix [.osl 1002,.osl 1003]),(1002,rowA (addP P day v)),(1003,rowV (addP P day v))] [1002,1003]:=by
 refine ctr_ownW Tryz.func97 ok97 rfl cc97 cr97 Tryz.ntmps97 (by simp) rfl ?_
 intro c hP hfn
 have e:popP P day=(P.take (P.length-1)):=if_pos hc
 have e2:addP P day v=(P.take (P.length-1)):=(if_neg hp).trans (by rw [e])
 rw [e] at hp
 rw [e2]
 obtain ⟨h1,h2⟩:=hc
 have d0:decide ((P.length:Int)>0)=true:=decide_eq_true (by omega)
 have w1:IntKind.i64.wrap ((P.length:Int)-1)=((P.length-1:Nat):Int):=(wI (by omega)).trans (by omega)
 have b1:(0:Int)≤((P.length-1:Nat):Int)∧((P.length-1:Nat):Int)<(P.length:Int):=by omega
 have b2:(0:Int)≤((P.length-1:Nat):Int)∧((P.length-1:Nat):Int)≤(P.length:Int):=by omega
 have d1:((P.getD (P.length-1) (0,0)).1 == day)=true:=beq_iff_eq.2 h2
 simp only [namesL,V.names,ownNames,rowA,rowV,d0,w1,d1,vcd,↓vcp,seval]
 repeat' first|refine And.intro (fun h=>?_) (fun h=>?_)|refine aO ?_|(refine tA rfl rfl rfl rfl ?_;try simp only [d0,w1,d1,vcd,↓vcp,seval])|refine aT ?_|fail
 rw [seqW_nrm]
 refine ⟨⟨[(0,.d (.int .i64 day)),(1,.d (.int .i64 v)),(2,.own 903 0)],[(903,.fix [.osl 1004,.osl 1005]),(1004,rowA (P.take (P.length-1))),(1005,rowV (P.take (P.length-1)))],[903,1000,1001,1004,1005]⟩,(Wk.shr 1000 1004 (P.length-1) rfl (by omega) (by simp)).trans ((Wk.shr 1001 1005 (P.length-1) rfl (by omega) (by simp)).trans (Wk.of _ hfn rfl (by simp only [enb,vcd,↓vcp,seval]) ?_)),?_⟩
 ·simp only [rowA,rowV,enb,vcd,↓vcp,seval]
  exact ⟨OLe.row (by rw [List.length_take];omega) fun i hi=>by rw [take_getD hi],OLe.row (by rw [List.length_take];omega) fun i hi=>by rw [take_getD hi]⟩
 clear d0 w1 b1 b2 d1 h2 e e2
 have hQl:(P.take (P.length-1)).length≤100000:=by rw [List.length_take];omega
 generalize P.take (P.length-1)=Q at *
 by_cases h0:Q.length=0
 ·have hx:((v != (Q.getD (Q.length-1) (0,0)).2)&&decide (day≤292194))=false:=by
   rw [Bool.and_eq_false_iff,bne_eq_false_iff_eq,decide_eq_false_iff_not]
   by_cases h:v=(Q.getD (Q.length-1) (0,0)).2
   ·exact .inl h
   ·exact .inr fun g=>hp ⟨h,g⟩
  have hroom:(Q.length+1)*8≤140737488355328∧Q.length+1≤maxLen:=⟨by omega,by simp only [maxLen];omega⟩
  have g0:decide ((Q.length:Int)>0)=false:=decide_eq_false (by omega)
  have gl:(Q.getD (Q.length-1) (0,0)).2=0:=by
   have:Q=[]:=List.eq_nil_of_length_eq_zero (by omega)
   rw [this];rfl
  rw [gl] at hx
  simp only [rowA,rowV,g0,hx,vcd,↓vcp,seval]
  repeat' first|refine And.intro (fun h=>?_) (fun h=>?_)|refine aO ?_|(refine tA rfl rfl rfl rfl ?_;try simp only [g0,hx,vcd,↓vcp,seval])|refine aT ?_|fail
  refine RetK.mk' _ ((Wk.sw 1004 1002 _ hfn (by simp [namesL,V.names,ownNames,rowA,rowV]) (by simp [namesL,V.names,ownNames,rowA,rowV])).trans (Wk.sw 1005 1003 _ hfn (by simp [namesL,V.names,ownNames,rowA,rowV]) (by simp [namesL,V.names,ownNames,rowA,rowV]))) (by simp only [rs97,rsb,vcd,↓vcp,seval]) (by simp only [rs97,rsb,enb,vcd,↓vcp,seval]) ?_
  simp only [rowA,rowV,enb,vcd,↓vcp,seval]
 ·have hx:((v != (Q.getD (Q.length-1) (0,0)).2)&&decide (day≤292194))=false:=by
   rw [Bool.and_eq_false_iff,bne_eq_false_iff_eq,decide_eq_false_iff_not]
   by_cases h:v=(Q.getD (Q.length-1) (0,0)).2
   ·exact .inl h
   ·exact .inr fun g=>hp ⟨h,g⟩
  have hroom:(Q.length+1)*8≤140737488355328∧Q.length+1≤maxLen:=⟨by omega,by simp only [maxLen];omega⟩
  have g0:decide ((Q.length:Int)>0)=true:=decide_eq_true (by omega)
  have v1:IntKind.i64.wrap ((Q.length:Int)-1)=((Q.length-1:Nat):Int):=(wI (by omega)).trans (by omega)
  have c1:(0:Int)≤((Q.length-1:Nat):Int)∧((Q.length-1:Nat):Int)<(Q.length:Int):=by omega
  simp only [rowA,rowV,g0,v1,hx,vcd,↓vcp,seval]
  repeat' first|refine And.intro (fun h=>?_) (fun h=>?_)|refine aO ?_|(refine tA rfl rfl rfl rfl ?_;try simp only [g0,v1,hx,vcd,↓vcp,seval])|refine aT ?_|fail
  refine RetK.mk' _ ((Wk.sw 1004 1002 _ hfn (by simp [namesL,V.names,ownNames,rowA,rowV]) (by simp [namesL,V.names,ownNames,rowA,rowV])).trans (Wk.sw 1005 1003 _ hfn (by simp [namesL,V.names,ownNames,rowA,rowV]) (by simp [namesL,V.names,ownNames,rowA,rowV]))) (by simp only [rs97,rsb,vcd,↓vcp,seval]) (by simp only [rs97,rsb,enb,vcd,↓vcp,seval]) ?_
  simp only [rowA,rowV,enb,vcd,↓vcp,seval]
set_option maxHeartbeats 2000000 in
theorem sAdd01 (P:List (Int×Int)) (day v:Int) (hl:P.length≤100000) (hc:¬ popC P day) (hp:pushC (popP P day) day v) :
  Ctr Tryz.prog 97 [.d (.int .i64 day),.d (.int .i64 v),.own 903 0] [(903,.fix [.osl 1000,.osl 1001]),(1000,rowA P),(1001,rowV P)] (.tup []) [(903,.fix [.osl 1002,.osl 1003]),(1002,rowA (addP P day v)),(1003,rowV (addP P day v))] [1002,1003]:=by
 refine ctr_ownW Tryz.func97 ok97 rfl cc97 cr97 Tryz.ntmps97 (by simp) rfl ?_
 intro c hP hfn
 have e:popP P day=P:=if_neg hc
 have e2:addP P day v=(P++[(day,v)]):=(if_pos hp).trans (by rw [e])
 rw [e] at hp
 rw [e2]
 have hcond:(decide ((P.length:Int)>0)&&((P.getD (P.length-1) (0,0)).1 == day))=false:=by
  rw [Bool.and_eq_false_iff,decide_eq_false_iff_not,beq_eq_false_iff_ne]
  by_cases h:0<P.length
  ·exact .inr fun e=>hc ⟨h,e⟩
  ·exact .inl (by omega)
 by_cases h0:P.length=0
 ·have d0:decide ((P.length:Int)>0)=false:=decide_eq_false (by omega)
  simp only [namesL,V.names,ownNames,rowA,rowV,d0,vcd,↓vcp,seval]
  repeat' first|refine And.intro (fun h=>?_) (fun h=>?_)|refine aO ?_|(refine tA rfl rfl rfl rfl ?_;try simp only [d0,vcd,↓vcp,seval])|refine aT ?_|fail
  rw [seqW_nrm]
  refine ⟨⟨[(0,.d (.int .i64 day)),(1,.d (.int .i64 v)),(2,.own 903 0)],[(903,.fix [.osl 1000,.osl 1001]),(1000,rowA P),(1001,rowV P)],[903,1000,1001]⟩,Wk.of _ hfn rfl (by simp only [enb,vcd,↓vcp,seval]) (by simp only [rowA,rowV,enb,vcd,↓vcp,seval]),?_⟩
  have hx:((v != (P.getD (P.length-1) (0,0)).2)&&decide (day≤292194))=true:=by rw [Bool.and_eq_true,bne_iff_ne,decide_eq_true_eq];exact hp
  have hroom:(P.length+1)*8≤140737488355328∧P.length+1≤maxLen:=⟨by omega,by simp only [maxLen];omega⟩
  have g0:decide ((P.length:Int)>0)=false:=decide_eq_false (by omega)
  have gl:(P.getD (P.length-1) (0,0)).2=0:=by
   have:P=[]:=List.eq_nil_of_length_eq_zero (by omega)
   rw [this];rfl
  rw [gl] at hx
  simp only [rowA,rowV,g0,hx,vcd,↓vcp,seval]
  repeat' first|refine And.intro (fun h=>?_) (fun h=>?_)|refine aO ?_|(refine tA rfl rfl rfl rfl ?_;try simp only [g0,hx,vcd,↓vcp,seval])|refine aT ?_|fail
  refine RetK.mk' _ ((Wk.sw 57 1002 _ hfn (by simp [namesL,V.names,ownNames,rowA,rowV]) (by simp [namesL,V.names,ownNames,rowA,rowV])).trans (Wk.sw 62 1003 _ hfn (by simp [namesL,V.names,ownNames,rowA,rowV]) (by simp [namesL,V.names,ownNames,rowA,rowV]))) (by simp only [rs97,rsb,vcd,↓vcp,seval]) (by simp only [rs97,rsb,enb,vcd,↓vcp,seval]) ?_
  simp only [rowA,rowV,enb,vcd,↓vcp,seval]
  exact ⟨OLe.app1 (fun p:Int×Int=>[.int .i64 p.1]) (fun i hi=>by simp [hi]) (by simp [litRow]),OLe.app1 (fun p:Int×Int=>[.int .i64 p.2]) (fun i hi=>by simp [hi]) (by simp [litRow])⟩
 ·have d0:decide ((P.length:Int)>0)=true:=decide_eq_true (by omega)
  have w1:IntKind.i64.wrap ((P.length:Int)-1)=((P.length-1:Nat):Int):=(wI (by omega)).trans (by omega)
  have b1:(0:Int)≤((P.length-1:Nat):Int)∧((P.length-1:Nat):Int)<(P.length:Int):=by omega
  have d1:((P.getD (P.length-1) (0,0)).1 == day)=false:=by rw [d0,Bool.true_and] at hcond;exact hcond
  simp only [namesL,V.names,ownNames,rowA,rowV,d0,w1,d1,vcd,↓vcp,seval]
  repeat' first|refine And.intro (fun h=>?_) (fun h=>?_)|refine aO ?_|(refine tA rfl rfl rfl rfl ?_;try simp only [d0,w1,d1,vcd,↓vcp,seval])|refine aT ?_|fail
  rw [seqW_nrm]
  refine ⟨⟨[(0,.d (.int .i64 day)),(1,.d (.int .i64 v)),(2,.own 903 0)],[(903,.fix [.osl 1000,.osl 1001]),(1000,rowA P),(1001,rowV P)],[903,1000,1001]⟩,Wk.of _ hfn rfl (by simp only [enb,vcd,↓vcp,seval]) (by simp only [rowA,rowV,enb,vcd,↓vcp,seval]),?_⟩
  clear d0 w1 b1 d1
  have hx:((v != (P.getD (P.length-1) (0,0)).2)&&decide (day≤292194))=true:=by rw [Bool.and_eq_true,bne_iff_ne,decide_eq_true_eq];exact hp
  have hroom:(P.length+1)*8≤140737488355328∧P.length+1≤maxLen:=⟨by omega,by simp only [maxLen];omega⟩
  have g0:decide ((P.length:Int)>0)=true:=decide_eq_true (by omega)
  have v1:IntKind.i64.wrap ((P.length:Int)-1)=((P.length-1:Nat):Int):=(wI (by omega)).trans (by omega)
  have c1:(0:Int)≤((P.length-1:Nat):Int)∧((P.length-1:Nat):Int)<(P.length:Int):=by omega
  simp only [rowA,rowV,g0,v1,hx,vcd,↓vcp,seval]
  repeat' first|refine And.intro (fun h=>?_) (fun h=>?_)|refine aO ?_|(refine tA rfl rfl rfl rfl ?_;try simp only [g0,v1,hx,vcd,↓vcp,seval])|refine aT ?_|fail
  refine RetK.mk' _ ((Wk.sw 57 1002 _ hfn (by simp [namesL,V.names,ownNames,rowA,rowV]) (by simp [namesL,V.names,ownNames,rowA,rowV])).trans (Wk.sw 62 1003 _ hfn (by simp [namesL,V.names,ownNames,rowA,rowV]) (by simp [namesL,V.names,ownNames,rowA,rowV]))) (by simp only [rs97,rsb,vcd,↓vcp,seval]) (by simp only [rs97,rsb,enb,vcd,↓vcp,seval]) ?_
  simp only [rowA,rowV,enb,vcd,↓vcp,seval]
  exact ⟨OLe.app1 (fun p:Int×Int=>[.int .i64 p.1]) (fun i hi=>by simp [hi]) (by simp [litRow]),OLe.app1 (fun p:Int×Int=>[.int .i64 p.2]) (fun i hi=>by simp [hi]) (by simp [litRow])⟩
set_option maxHeartbeats 2000000 in
theorem sAdd00 (P:List (Int×Int)) (day v:Int) (hl:P.length≤100000) (hc:¬ popC P day) (hp:¬ pushC (popP P day) day v) :
  Ctr Tryz.prog 97 [.d (.int .i64 day),.d (.int .i64 v),.own 903 0] [(903,.fix [.osl 1000,.osl 1001]),(1000,rowA P),(1001,rowV P)] (.tup []) [(903,.fix [.osl 1000,.osl 1001]),(1000,rowA (addP P day v)),(1001,rowV (addP P day v))] []:=by
 refine ctr_ownW Tryz.func97 ok97 rfl cc97 cr97 Tryz.ntmps97 (by simp) rfl ?_
 intro c hP hfn
 have e:popP P day=P:=if_neg hc
 have e2:addP P day v=P:=(if_neg hp).trans (by rw [e])
 rw [e] at hp
 rw [e2]
 have hcond:(decide ((P.length:Int)>0)&&((P.getD (P.length-1) (0,0)).1 == day))=false:=by
  rw [Bool.and_eq_false_iff,decide_eq_false_iff_not,beq_eq_false_iff_ne]
  by_cases h:0<P.length
  ·exact .inr fun e=>hc ⟨h,e⟩
  ·exact .inl (by omega)
 by_cases h0:P.length=0
 ·have d0:decide ((P.length:Int)>0)=false:=decide_eq_false (by omega)
  simp only [namesL,V.names,ownNames,rowA,rowV,d0,vcd,↓vcp,seval]
  repeat' first|refine And.intro (fun h=>?_) (fun h=>?_)|refine aO ?_|(refine tA rfl rfl rfl rfl ?_;try simp only [d0,vcd,↓vcp,seval])|refine aT ?_|fail
  rw [seqW_nrm]
  refine ⟨⟨[(0,.d (.int .i64 day)),(1,.d (.int .i64 v)),(2,.own 903 0)],[(903,.fix [.osl 1000,.osl 1001]),(1000,rowA P),(1001,rowV P)],[903,1000,1001]⟩,Wk.of _ hfn rfl (by simp only [enb,vcd,↓vcp,seval]) (by simp only [rowA,rowV,enb,vcd,↓vcp,seval]),?_⟩
  have hx:((v != (P.getD (P.length-1) (0,0)).2)&&decide (day≤292194))=false:=by
   rw [Bool.and_eq_false_iff,bne_eq_false_iff_eq,decide_eq_false_iff_not]
   by_cases h:v=(P.getD (P.length-1) (0,0)).2
   ·exact .inl h
   ·exact .inr fun g=>hp ⟨h,g⟩
  have hroom:(P.length+1)*8≤140737488355328∧P.length+1≤maxLen:=⟨by omega,by simp only [maxLen];omega⟩
  have g0:decide ((P.length:Int)>0)=false:=decide_eq_false (by omega)
  have gl:(P.getD (P.length-1) (0,0)).2=0:=by
   have:P=[]:=List.eq_nil_of_length_eq_zero (by omega)
   rw [this];rfl
  rw [gl] at hx
  simp only [rowA,rowV,g0,hx,vcd,↓vcp,seval]
  repeat' first|refine And.intro (fun h=>?_) (fun h=>?_)|refine aO ?_|(refine tA rfl rfl rfl rfl ?_;try simp only [g0,hx,vcd,↓vcp,seval])|refine aT ?_|fail
  refine RetK.mk' _ (Wk.refl _ _) (by simp only [rs97,rsb,vcd,↓vcp,seval]) (by simp only [rs97,rsb,enb,vcd,↓vcp,seval]) ?_
  simp only [rowA,rowV,enb,vcd,↓vcp,seval]
 ·have d0:decide ((P.length:Int)>0)=true:=decide_eq_true (by omega)
  have w1:IntKind.i64.wrap ((P.length:Int)-1)=((P.length-1:Nat):Int):=(wI (by omega)).trans (by omega)
  have b1:(0:Int)≤((P.length-1:Nat):Int)∧((P.length-1:Nat):Int)<(P.length:Int):=by omega
  have d1:((P.getD (P.length-1) (0,0)).1 == day)=false:=by rw [d0,Bool.true_and] at hcond;exact hcond
  simp only [namesL,V.names,ownNames,rowA,rowV,d0,w1,d1,vcd,↓vcp,seval]
  repeat' first|refine And.intro (fun h=>?_) (fun h=>?_)|refine aO ?_|(refine tA rfl rfl rfl rfl ?_;try simp only [d0,w1,d1,vcd,↓vcp,seval])|refine aT ?_|fail
  rw [seqW_nrm]
  refine ⟨⟨[(0,.d (.int .i64 day)),(1,.d (.int .i64 v)),(2,.own 903 0)],[(903,.fix [.osl 1000,.osl 1001]),(1000,rowA P),(1001,rowV P)],[903,1000,1001]⟩,Wk.of _ hfn rfl (by simp only [enb,vcd,↓vcp,seval]) (by simp only [rowA,rowV,enb,vcd,↓vcp,seval]),?_⟩
  clear d0 w1 b1 d1
  have hx:((v != (P.getD (P.length-1) (0,0)).2)&&decide (day≤292194))=false:=by
   rw [Bool.and_eq_false_iff,bne_eq_false_iff_eq,decide_eq_false_iff_not]
   by_cases h:v=(P.getD (P.length-1) (0,0)).2
   ·exact .inl h
   ·exact .inr fun g=>hp ⟨h,g⟩
  have hroom:(P.length+1)*8≤140737488355328∧P.length+1≤maxLen:=⟨by omega,by simp only [maxLen];omega⟩
  have g0:decide ((P.length:Int)>0)=true:=decide_eq_true (by omega)
  have v1:IntKind.i64.wrap ((P.length:Int)-1)=((P.length-1:Nat):Int):=(wI (by omega)).trans (by omega)
  have c1:(0:Int)≤((P.length-1:Nat):Int)∧((P.length-1:Nat):Int)<(P.length:Int):=by omega
  simp only [rowA,rowV,g0,v1,hx,vcd,↓vcp,seval]
  repeat' first|refine And.intro (fun h=>?_) (fun h=>?_)|refine aO ?_|(refine tA rfl rfl rfl rfl ?_;try simp only [g0,v1,hx,vcd,↓vcp,seval])|refine aT ?_|fail
  refine RetK.mk' _ (Wk.refl _ _) (by simp only [rs97,rsb,vcd,↓vcp,seval]) (by simp only [rs97,rsb,enb,vcd,↓vcp,seval]) ?_
  simp only [rowA,rowV,enb,vcd,↓vcp,seval]
end Go.Proofs.YtanppabbmffokaaGreat
end
section
namespace Go.Proofs.YtanppabbmffokaaGreat
open Go.Bx
set_option maxRecDepth 10000
theorem addP_len (P:List (Int×Int)) (d v:Int):(addP P d v).length≤P.length+1:=by
 unfold addP pushP popP
 split<;>split<;>(try simp only [List.length_append,List.length_take,List.length_singleton])<;>omega
theorem vle_slK1 {P:List (Int×Int)}:VLe (.d (.sl false 1 P.length (fun i=>[.int .i64 (P.getD i (0,0)).1]))) (.d (slK .i64 (P.map (·.1)))):=
 VLe.sl (by rw [List.length_map]) (fun _=>rfl) id fun i hi=>by
  obtain ⟨p,-,hg,-,he⟩:=drop_at hi
  rw [(map1 he).1,hg]
theorem vle_slK2 {P:List (Int×Int)}:VLe (.d (.sl false 1 P.length (fun i=>[.int .i64 (P.getD i (0,0)).2]))) (.d (slK .i64 (P.map (·.2)))):=
 VLe.sl (by rw [List.length_map]) (fun _=>rfl) id fun i hi=>by
  obtain ⟨p,-,hg,-,he⟩:=drop_at hi
  rw [(map1 he).2,hg]
set_option maxHeartbeats 4000000 in
theorem sCurve (l:List Sl) (P0:List (Int×Int)) (h:curS l=some P0):Ctr Tryz.prog 55 [.d (slS l)] [] (vSt P0) [] []:=by
 have hlen:l.length≤2000:=(curS_ok h).2.1
 have hG:curG [] 1 l=some P0:=by rw [curS,if_neg (by omega)] at h;exact h
 have dl:decide ((l.length:Int)>2000)=false:=decide_eq_false (by omega)
 refine ctr_pure Tryz.func55 ok55 rfl cc55 cr55 Tryz.ntmps55 (by simp) rfl rfl ?_;intro c hP hfn;simp only [kc55,slS,dl,vcd,↓vcp,seval]
 repeat' first|refine And.intro (fun h=>?_) (fun h=>?_)|refine aO ?_|(refine tA rfl rfl rfl rfl ?_;try simp only [dl,vcd,↓vcp,seval])|refine aT ?_|fail
 refine vcC.loop (X:=Nat×List (Int×Int)×Int) (fun x=>⟨[(4,.fn (.func 97) [] [.own 3 0]),(2,.own 2 0),(3,.own 3 0),(5,.d (.int .i64 x.2.2)),(13,.d (slS l)),(14,.d (.int .i64 l.length)),(15,.d (.int .i64 x.1))],[(2,.fix [.d (.sl true 0 0 fun _=>[]),.d (.sl true 0 0 fun _=>[])]),(3,.fix [.osl 1000,.osl 1001]),(1000,rowA x.2.1),(1001,rowV x.2.1)],[2,3,1000,1001]⟩)
  (fun x=>x.1≤l.length∧curG x.2.1 x.2.2 (l.drop x.1)=some P0∧x.2.1.length≤2*x.1) (fun x=>l.length-x.1) (0,[],1) ⟨Nat.zero_le _,hG,Nat.le_refl _⟩ ?_ ?_
 ·refine (Wk.row0F 3 0 1000 3 1 (fun _=>[]) rfl rfl (by simp)).trans ((Wk.row0F 3 1 1001 3 1 (fun _=>[]) rfl rfl (by simp)).trans (Wk.of _ hfn rfl ?_ ?_))
  ·simp only [slS,enb,vcd,↓vcp,seval]
  ·simp only [rowA,rowV,enb,vcd,↓vcp,seval]
   exact ⟨OLe.row rfl (fun i hi=>absurd hi (Nat.not_lt_zero i)),OLe.row rfl (fun i hi=>absurd hi (Nat.not_lt_zero i))⟩
 rintro ⟨k,P,e⟩ ⟨hk,he,hPl⟩
 simp only at hk he hPl
 by_cases hlt:k<l.length
 ·obtain ⟨s,hd,hg,-,-⟩:=drop_at hlt
  have hg:=hg default
  have d0:decide ((k:Int)<(l.length:Int))=true:=decide_eq_true (by omega)
  have w1:IntKind.i64.wrap ((k:Int)+1)=((k+1:Nat):Int):=wS (by omega)
  have b1:(0:Int)≤(k:Int)∧(k:Int)<(l.length:Int):=by omega
  have cf:=sFullSl s e
  simp only [vSl,cSl,slC] at cf
  rw [hd,curG] at he
  have hl1:=addP_len P s.sf s.yr
  have hl2:=addP_len (addP P s.sf s.yr) s.st 0
  by_cases hf:fullSl s e=true
  ·rw [if_pos hf] at he
   rw [hf] at cf
   simp only [slS,dSl,slC,rowA,rowV,d0,hg,vcd,↓vcp,seval]
   repeat' first|((first|refine tp hP (by exact cf) ?_|refine tg hP (fun _=>by exact cf) ?_|refine tv hP rfl (by exact cf) ?_);try simp only [d0,hg,w1,vcd,↓vcp,seval])|refine And.intro (fun h=>?_) (fun h=>?_)|refine aO ?_|(refine tA rfl rfl rfl rfl ?_;try simp only [d0,hg,w1,vcd,↓vcp,seval])|refine aT ?_|fail
   by_cases hpc:popC P s.sf
   ·by_cases hpu:pushC (popP P s.sf) s.sf s.yr
    ·have ac:=(sAdd11 P s.sf s.yr (by omega) hpc hpu).sw 903 3
     simp only [rowA,rowV,vcd,↓vcp,seval] at ac
     clear hpc hpu
     refine TR.callv [(3,.fix [.osl 1000,.osl 1001]),(1000,rowA P),(1001,rowV P)] [(3,.fix [.osl 1002,.osl 1003]),(1002,rowA (addP P s.sf s.yr)),(1003,rowV (addP P s.sf s.yr))] _ [1002,1003] rfl (by rw [hP];exact ac) trivial (by repeat' first|exact trivial|(intro _;assumption)|apply And.intro) (hin3 rfl rfl rfl) (by simp [keysO]) (by simp) ?_
     clear ac
     simp only [rowA,rowV,slC,w1,vcd,↓vcp,seval]
     repeat' first|refine And.intro (fun h=>?_) (fun h=>?_)|refine aO ?_|(refine tA rfl rfl rfl rfl ?_;try simp only [w1,vcd,↓vcp,seval])|refine aT ?_|fail
     refine TR.wk ⟨[(4,.fn (.func 97) [] [.own 3 0]),(2,.own 2 0),(3,.own 3 0),(5,.d (.int .i64 e)),(7,.own 7 0),(13,.d (slS l)),(14,.d (.int .i64 l.length)),(15,.d (.int .i64 k)),(31,.fn (.func 97) [] [.own 3 0]),(34,.d (.int .i64 s.st))],[(2,.fix [.d (.sl true 0 0 fun _=>[]),.d (.sl true 0 0 fun _=>[])]),(3,.fix [.osl 1000,.osl 1001]),(7,.fix (cSl s)),(1000,rowA (addP P s.sf s.yr)),(1001,rowV (addP P s.sf s.yr))],[2,3,7,1000,1001]⟩ ((Wk.sw 1002 1000 _ hfn (by simp) (by simp)).trans ((Wk.sw 1003 1001 _ hfn (by simp) (by simp)).trans (Wk.of _ hfn rfl (by simp only [slS,dSl,slC,enb,vcd,↓vcp,seval]) (by simp only [rowA,rowV,cSl,slC,enb,vcd,↓vcp,seval])))) ?_
     simp only [rowA,rowV,cSl,slS,dSl,slC,vcd,↓vcp,seval]
     by_cases hpc:popC (addP P s.sf s.yr) s.st
     ·by_cases hpu:pushC (popP (addP P s.sf s.yr) s.st) s.st 0
      ·have ac:=(sAdd11 (addP P s.sf s.yr) s.st 0 (by omega) hpc hpu).sw 903 3
       simp only [rowA,rowV,vcd,↓vcp,seval] at ac
       clear hpc hpu
       refine TR.callv [(3,.fix [.osl 1000,.osl 1001]),(1000,rowA (addP P s.sf s.yr)),(1001,rowV (addP P s.sf s.yr))] [(3,.fix [.osl 1002,.osl 1003]),(1002,rowA (addP (addP P s.sf s.yr) s.st 0)),(1003,rowV (addP (addP P s.sf s.yr) s.st 0))] _ [1002,1003] rfl (by rw [hP];exact ac) trivial (by repeat' first|exact trivial|(intro _;assumption)|apply And.intro) (hin3 rfl rfl rfl) (by simp [keysO]) (by simp) ?_
       clear ac
       simp only [rowA,rowV,slC,w1,vcd,↓vcp,seval]
       repeat' first|refine And.intro (fun h=>?_) (fun h=>?_)|refine aO ?_|(refine tA rfl rfl rfl rfl ?_;try simp only [w1,vcd,↓vcp,seval])|refine aT ?_|fail
       exact lopK.on (k+1,addP (addP P s.sf s.yr) s.st 0,s.st) ⟨hlt,he,by simp only;omega⟩ (by simp only;omega) ((Wk.sw 1002 1000 _ hfn (by simp) (by simp)).trans ((Wk.sw 1003 1001 _ hfn (by simp) (by simp)).trans (Wk.of _ hfn rfl (by simp only [slS,dSl,slC,w1,enb,vcd,↓vcp,seval]) (by simp only [rowA,rowV,enb,vcd,↓vcp,seval]))))
      ·have ac:=(sAdd10 (addP P s.sf s.yr) s.st 0 (by omega) hpc hpu).sw 903 3
       simp only [rowA,rowV,vcd,↓vcp,seval] at ac
       clear hpc hpu
       refine TR.callv [(3,.fix [.osl 1000,.osl 1001]),(1000,rowA (addP P s.sf s.yr)),(1001,rowV (addP P s.sf s.yr))] [(3,.fix [.osl 1002,.osl 1003]),(1002,rowA (addP (addP P s.sf s.yr) s.st 0)),(1003,rowV (addP (addP P s.sf s.yr) s.st 0))] _ [1002,1003] rfl (by rw [hP];exact ac) trivial (by repeat' first|exact trivial|(intro _;assumption)|apply And.intro) (hin3 rfl rfl rfl) (by simp [keysO]) (by simp) ?_
       clear ac
       simp only [rowA,rowV,slC,w1,vcd,↓vcp,seval]
       repeat' first|refine And.intro (fun h=>?_) (fun h=>?_)|refine aO ?_|(refine tA rfl rfl rfl rfl ?_;try simp only [w1,vcd,↓vcp,seval])|refine aT ?_|fail
       exact lopK.on (k+1,addP (addP P s.sf s.yr) s.st 0,s.st) ⟨hlt,he,by simp only;omega⟩ (by simp only;omega) ((Wk.sw 1002 1000 _ hfn (by simp) (by simp)).trans ((Wk.sw 1003 1001 _ hfn (by simp) (by simp)).trans (Wk.of _ hfn rfl (by simp only [slS,dSl,slC,w1,enb,vcd,↓vcp,seval]) (by simp only [rowA,rowV,enb,vcd,↓vcp,seval]))))
     ·by_cases hpu:pushC (popP (addP P s.sf s.yr) s.st) s.st 0
      ·have ac:=(sAdd01 (addP P s.sf s.yr) s.st 0 (by omega) hpc hpu).sw 903 3
       simp only [rowA,rowV,vcd,↓vcp,seval] at ac
       clear hpc hpu
       refine TR.callv [(3,.fix [.osl 1000,.osl 1001]),(1000,rowA (addP P s.sf s.yr)),(1001,rowV (addP P s.sf s.yr))] [(3,.fix [.osl 1002,.osl 1003]),(1002,rowA (addP (addP P s.sf s.yr) s.st 0)),(1003,rowV (addP (addP P s.sf s.yr) s.st 0))] _ [1002,1003] rfl (by rw [hP];exact ac) trivial (by repeat' first|exact trivial|(intro _;assumption)|apply And.intro) (hin3 rfl rfl rfl) (by simp [keysO]) (by simp) ?_
       clear ac
       simp only [rowA,rowV,slC,w1,vcd,↓vcp,seval]
       repeat' first|refine And.intro (fun h=>?_) (fun h=>?_)|refine aO ?_|(refine tA rfl rfl rfl rfl ?_;try simp only [w1,vcd,↓vcp,seval])|refine aT ?_|fail
       exact lopK.on (k+1,addP (addP P s.sf s.yr) s.st 0,s.st) ⟨hlt,he,by simp only;omega⟩ (by simp only;omega) ((Wk.sw 1002 1000 _ hfn (by simp) (by simp)).trans ((Wk.sw 1003 1001 _ hfn (by simp) (by simp)).trans (Wk.of _ hfn rfl (by simp only [slS,dSl,slC,w1,enb,vcd,↓vcp,seval]) (by simp only [rowA,rowV,enb,vcd,↓vcp,seval]))))
      ·have ac:=(sAdd00 (addP P s.sf s.yr) s.st 0 (by omega) hpc hpu).sw 903 3
       simp only [rowA,rowV,vcd,↓vcp,seval] at ac
       clear hpc hpu
       refine TR.callv [(3,.fix [.osl 1000,.osl 1001]),(1000,rowA (addP P s.sf s.yr)),(1001,rowV (addP P s.sf s.yr))] [(3,.fix [.osl 1000,.osl 1001]),(1000,rowA (addP (addP P s.sf s.yr) s.st 0)),(1001,rowV (addP (addP P s.sf s.yr) s.st 0))] _ [] rfl (by rw [hP];exact ac) trivial (by repeat' first|exact trivial|(intro _;assumption)|apply And.intro) (hin3 rfl rfl rfl) (by simp [keysO]) (by simp) ?_
       clear ac
       simp only [rowA,rowV,slC,w1,vcd,↓vcp,seval]
       repeat' first|refine And.intro (fun h=>?_) (fun h=>?_)|refine aO ?_|(refine tA rfl rfl rfl rfl ?_;try simp only [w1,vcd,↓vcp,seval])|refine aT ?_|fail
       exact lopK.on (k+1,addP (addP P s.sf s.yr) s.st 0,s.st) ⟨hlt,he,by simp only;omega⟩ (by simp only;omega) (Wk.of _ hfn rfl (by simp only [slS,dSl,slC,w1,enb,vcd,↓vcp,seval]) (by simp only [rowA,rowV,enb,vcd,↓vcp,seval]))
    ·have ac:=(sAdd10 P s.sf s.yr (by omega) hpc hpu).sw 903 3
     simp only [rowA,rowV,vcd,↓vcp,seval] at ac
     clear hpc hpu
     refine TR.callv [(3,.fix [.osl 1000,.osl 1001]),(1000,rowA P),(1001,rowV P)] [(3,.fix [.osl 1002,.osl 1003]),(1002,rowA (addP P s.sf s.yr)),(1003,rowV (addP P s.sf s.yr))] _ [1002,1003] rfl (by rw [hP];exact ac) trivial (by repeat' first|exact trivial|(intro _;assumption)|apply And.intro) (hin3 rfl rfl rfl) (by simp [keysO]) (by simp) ?_
     clear ac
     simp only [rowA,rowV,slC,w1,vcd,↓vcp,seval]
     repeat' first|refine And.intro (fun h=>?_) (fun h=>?_)|refine aO ?_|(refine tA rfl rfl rfl rfl ?_;try simp only [w1,vcd,↓vcp,seval])|refine aT ?_|fail
     refine TR.wk ⟨[(4,.fn (.func 97) [] [.own 3 0]),(2,.own 2 0),(3,.own 3 0),(5,.d (.int .i64 e)),(7,.own 7 0),(13,.d (slS l)),(14,.d (.int .i64 l.length)),(15,.d (.int .i64 k)),(31,.fn (.func 97) [] [.own 3 0]),(34,.d (.int .i64 s.st))],[(2,.fix [.d (.sl true 0 0 fun _=>[]),.d (.sl true 0 0 fun _=>[])]),(3,.fix [.osl 1000,.osl 1001]),(7,.fix (cSl s)),(1000,rowA (addP P s.sf s.yr)),(1001,rowV (addP P s.sf s.yr))],[2,3,7,1000,1001]⟩ ((Wk.sw 1002 1000 _ hfn (by simp) (by simp)).trans ((Wk.sw 1003 1001 _ hfn (by simp) (by simp)).trans (Wk.of _ hfn rfl (by simp only [slS,dSl,slC,enb,vcd,↓vcp,seval]) (by simp only [rowA,rowV,cSl,slC,enb,vcd,↓vcp,seval])))) ?_
     simp only [rowA,rowV,cSl,slS,dSl,slC,vcd,↓vcp,seval]
     by_cases hpc:popC (addP P s.sf s.yr) s.st
     ·by_cases hpu:pushC (popP (addP P s.sf s.yr) s.st) s.st 0
      ·have ac:=(sAdd11 (addP P s.sf s.yr) s.st 0 (by omega) hpc hpu).sw 903 3
       simp only [rowA,rowV,vcd,↓vcp,seval] at ac
       clear hpc hpu
       refine TR.callv [(3,.fix [.osl 1000,.osl 1001]),(1000,rowA (addP P s.sf s.yr)),(1001,rowV (addP P s.sf s.yr))] [(3,.fix [.osl 1002,.osl 1003]),(1002,rowA (addP (addP P s.sf s.yr) s.st 0)),(1003,rowV (addP (addP P s.sf s.yr) s.st 0))] _ [1002,1003] rfl (by rw [hP];exact ac) trivial (by repeat' first|exact trivial|(intro _;assumption)|apply And.intro) (hin3 rfl rfl rfl) (by simp [keysO]) (by simp) ?_
       clear ac
       simp only [rowA,rowV,slC,w1,vcd,↓vcp,seval]
       repeat' first|refine And.intro (fun h=>?_) (fun h=>?_)|refine aO ?_|(refine tA rfl rfl rfl rfl ?_;try simp only [w1,vcd,↓vcp,seval])|refine aT ?_|fail
       exact lopK.on (k+1,addP (addP P s.sf s.yr) s.st 0,s.st) ⟨hlt,he,by simp only;omega⟩ (by simp only;omega) ((Wk.sw 1002 1000 _ hfn (by simp) (by simp)).trans ((Wk.sw 1003 1001 _ hfn (by simp) (by simp)).trans (Wk.of _ hfn rfl (by simp only [slS,dSl,slC,w1,enb,vcd,↓vcp,seval]) (by simp only [rowA,rowV,enb,vcd,↓vcp,seval]))))
      ·have ac:=(sAdd10 (addP P s.sf s.yr) s.st 0 (by omega) hpc hpu).sw 903 3
       simp only [rowA,rowV,vcd,↓vcp,seval] at ac
       clear hpc hpu
       refine TR.callv [(3,.fix [.osl 1000,.osl 1001]),(1000,rowA (addP P s.sf s.yr)),(1001,rowV (addP P s.sf s.yr))] [(3,.fix [.osl 1002,.osl 1003]),(1002,rowA (addP (addP P s.sf s.yr) s.st 0)),(1003,rowV (addP (addP P s.sf s.yr) s.st 0))] _ [1002,1003] rfl (by rw [hP];exact ac) trivial (by repeat' first|exact trivial|(intro _;assumption)|apply And.intro) (hin3 rfl rfl rfl) (by simp [keysO]) (by simp) ?_
       clear ac
       simp only [rowA,rowV,slC,w1,vcd,↓vcp,seval]
       repeat' first|refine And.intro (fun h=>?_) (fun h=>?_)|refine aO ?_|(refine tA rfl rfl rfl rfl ?_;try simp only [w1,vcd,↓vcp,seval])|refine aT ?_|fail
       exact lopK.on (k+1,addP (addP P s.sf s.yr) s.st 0,s.st) ⟨hlt,he,by simp only;omega⟩ (by simp only;omega) ((Wk.sw 1002 1000 _ hfn (by simp) (by simp)).trans ((Wk.sw 1003 1001 _ hfn (by simp) (by simp)).trans (Wk.of _ hfn rfl (by simp only [slS,dSl,slC,w1,enb,vcd,↓vcp,seval]) (by simp only [rowA,rowV,enb,vcd,↓vcp,seval]))))
     ·by_cases hpu:pushC (popP (addP P s.sf s.yr) s.st) s.st 0
      ·have ac:=(sAdd01 (addP P s.sf s.yr) s.st 0 (by omega) hpc hpu).sw 903 3
       simp only [rowA,rowV,vcd,↓vcp,seval] at ac
       clear hpc hpu
       refine TR.callv [(3,.fix [.osl 1000,.osl 1001]),(1000,rowA (addP P s.sf s.yr)),(1001,rowV (addP P s.sf s.yr))] [(3,.fix [.osl 1002,.osl 1003]),(1002,rowA (addP (addP P s.sf s.yr) s.st 0)),(1003,rowV (addP (addP P s.sf s.yr) s.st 0))] _ [1002,1003] rfl (by rw [hP];exact ac) trivial (by repeat' first|exact trivial|(intro _;assumption)|apply And.intro) (hin3 rfl rfl rfl) (by simp [keysO]) (by simp) ?_
       clear ac
       simp only [rowA,rowV,slC,w1,vcd,↓vcp,seval]
       repeat' first|refine And.intro (fun h=>?_) (fun h=>?_)|refine aO ?_|(refine tA rfl rfl rfl rfl ?_;try simp only [w1,vcd,↓vcp,seval])|refine aT ?_|fail
       exact lopK.on (k+1,addP (addP P s.sf s.yr) s.st 0,s.st) ⟨hlt,he,by simp only;omega⟩ (by simp only;omega) ((Wk.sw 1002 1000 _ hfn (by simp) (by simp)).trans ((Wk.sw 1003 1001 _ hfn (by simp) (by simp)).trans (Wk.of _ hfn rfl (by simp only [slS,dSl,slC,w1,enb,vcd,↓vcp,seval]) (by simp only [rowA,rowV,enb,vcd,↓vcp,seval]))))
      ·have ac:=(sAdd00 (addP P s.sf s.yr) s.st 0 (by omega) hpc hpu).sw 903 3
       simp only [rowA,rowV,vcd,↓vcp,seval] at ac
       clear hpc hpu
       refine TR.callv [(3,.fix [.osl 1000,.osl 1001]),(1000,rowA (addP P s.sf s.yr)),(1001,rowV (addP P s.sf s.yr))] [(3,.fix [.osl 1000,.osl 1001]),(1000,rowA (addP (addP P s.sf s.yr) s.st 0)),(1001,rowV (addP (addP P s.sf s.yr) s.st 0))] _ [] rfl (by rw [hP];exact ac) trivial (by repeat' first|exact trivial|(intro _;assumption)|apply And.intro) (hin3 rfl rfl rfl) (by simp [keysO]) (by simp) ?_
       clear ac
       simp only [rowA,rowV,slC,w1,vcd,↓vcp,seval]
       repeat' first|refine And.intro (fun h=>?_) (fun h=>?_)|refine aO ?_|(refine tA rfl rfl rfl rfl ?_;try simp only [w1,vcd,↓vcp,seval])|refine aT ?_|fail
       exact lopK.on (k+1,addP (addP P s.sf s.yr) s.st 0,s.st) ⟨hlt,he,by simp only;omega⟩ (by simp only;omega) (Wk.of _ hfn rfl (by simp only [slS,dSl,slC,w1,enb,vcd,↓vcp,seval]) (by simp only [rowA,rowV,enb,vcd,↓vcp,seval]))
   ·by_cases hpu:pushC (popP P s.sf) s.sf s.yr
    ·have ac:=(sAdd01 P s.sf s.yr (by omega) hpc hpu).sw 903 3
     simp only [rowA,rowV,vcd,↓vcp,seval] at ac
     clear hpc hpu
     refine TR.callv [(3,.fix [.osl 1000,.osl 1001]),(1000,rowA P),(1001,rowV P)] [(3,.fix [.osl 1002,.osl 1003]),(1002,rowA (addP P s.sf s.yr)),(1003,rowV (addP P s.sf s.yr))] _ [1002,1003] rfl (by rw [hP];exact ac) trivial (by repeat' first|exact trivial|(intro _;assumption)|apply And.intro) (hin3 rfl rfl rfl) (by simp [keysO]) (by simp) ?_
     clear ac
     simp only [rowA,rowV,slC,w1,vcd,↓vcp,seval]
     repeat' first|refine And.intro (fun h=>?_) (fun h=>?_)|refine aO ?_|(refine tA rfl rfl rfl rfl ?_;try simp only [w1,vcd,↓vcp,seval])|refine aT ?_|fail
     refine TR.wk ⟨[(4,.fn (.func 97) [] [.own 3 0]),(2,.own 2 0),(3,.own 3 0),(5,.d (.int .i64 e)),(7,.own 7 0),(13,.d (slS l)),(14,.d (.int .i64 l.length)),(15,.d (.int .i64 k)),(31,.fn (.func 97) [] [.own 3 0]),(34,.d (.int .i64 s.st))],[(2,.fix [.d (.sl true 0 0 fun _=>[]),.d (.sl true 0 0 fun _=>[])]),(3,.fix [.osl 1000,.osl 1001]),(7,.fix (cSl s)),(1000,rowA (addP P s.sf s.yr)),(1001,rowV (addP P s.sf s.yr))],[2,3,7,1000,1001]⟩ ((Wk.sw 1002 1000 _ hfn (by simp) (by simp)).trans ((Wk.sw 1003 1001 _ hfn (by simp) (by simp)).trans (Wk.of _ hfn rfl (by simp only [slS,dSl,slC,enb,vcd,↓vcp,seval]) (by simp only [rowA,rowV,cSl,slC,enb,vcd,↓vcp,seval])))) ?_
     simp only [rowA,rowV,cSl,slS,dSl,slC,vcd,↓vcp,seval]
     by_cases hpc:popC (addP P s.sf s.yr) s.st
     ·by_cases hpu:pushC (popP (addP P s.sf s.yr) s.st) s.st 0
      ·have ac:=(sAdd11 (addP P s.sf s.yr) s.st 0 (by omega) hpc hpu).sw 903 3
       simp only [rowA,rowV,vcd,↓vcp,seval] at ac
       clear hpc hpu
       refine TR.callv [(3,.fix [.osl 1000,.osl 1001]),(1000,rowA (addP P s.sf s.yr)),(1001,rowV (addP P s.sf s.yr))] [(3,.fix [.osl 1002,.osl 1003]),(1002,rowA (addP (addP P s.sf s.yr) s.st 0)),(1003,rowV (addP (addP P s.sf s.yr) s.st 0))] _ [1002,1003] rfl (by rw [hP];exact ac) trivial (by repeat' first|exact trivial|(intro _;assumption)|apply And.intro) (hin3 rfl rfl rfl) (by simp [keysO]) (by simp) ?_
       clear ac
       simp only [rowA,rowV,slC,w1,vcd,↓vcp,seval]
       repeat' first|refine And.intro (fun h=>?_) (fun h=>?_)|refine aO ?_|(refine tA rfl rfl rfl rfl ?_;try simp only [w1,vcd,↓vcp,seval])|refine aT ?_|fail
       exact lopK.on (k+1,addP (addP P s.sf s.yr) s.st 0,s.st) ⟨hlt,he,by simp only;omega⟩ (by simp only;omega) ((Wk.sw 1002 1000 _ hfn (by simp) (by simp)).trans ((Wk.sw 1003 1001 _ hfn (by simp) (by simp)).trans (Wk.of _ hfn rfl (by simp only [slS,dSl,slC,w1,enb,vcd,↓vcp,seval]) (by simp only [rowA,rowV,enb,vcd,↓vcp,seval]))))
      ·have ac:=(sAdd10 (addP P s.sf s.yr) s.st 0 (by omega) hpc hpu).sw 903 3
       simp only [rowA,rowV,vcd,↓vcp,seval] at ac
       clear hpc hpu
       refine TR.callv [(3,.fix [.osl 1000,.osl 1001]),(1000,rowA (addP P s.sf s.yr)),(1001,rowV (addP P s.sf s.yr))] [(3,.fix [.osl 1002,.osl 1003]),(1002,rowA (addP (addP P s.sf s.yr) s.st 0)),(1003,rowV (addP (addP P s.sf s.yr) s.st 0))] _ [1002,1003] rfl (by rw [hP];exact ac) trivial (by repeat' first|exact trivial|(intro _;assumption)|apply And.intro) (hin3 rfl rfl rfl) (by simp [keysO]) (by simp) ?_
       clear ac
       simp only [rowA,rowV,slC,w1,vcd,↓vcp,seval]
       repeat' first|refine And.intro (fun h=>?_) (fun h=>?_)|refine aO ?_|(refine tA rfl rfl rfl rfl ?_;try simp only [w1,vcd,↓vcp,seval])|refine aT ?_|fail
       exact lopK.on (k+1,addP (addP P s.sf s.yr) s.st 0,s.st) ⟨hlt,he,by simp only;omega⟩ (by simp only;omega) ((Wk.sw 1002 1000 _ hfn (by simp) (by simp)).trans ((Wk.sw 1003 1001 _ hfn (by simp) (by simp)).trans (Wk.of _ hfn rfl (by simp only [slS,dSl,slC,w1,enb,vcd,↓vcp,seval]) (by simp only [rowA,rowV,enb,vcd,↓vcp,seval]))))
     ·by_cases hpu:pushC (popP (addP P s.sf s.yr) s.st) s.st 0
      ·have ac:=(sAdd01 (addP P s.sf s.yr) s.st 0 (by omega) hpc hpu).sw 903 3
       simp only [rowA,rowV,vcd,↓vcp,seval] at ac
       clear hpc hpu
       refine TR.callv [(3,.fix [.osl 1000,.osl 1001]),(1000,rowA (addP P s.sf s.yr)),(1001,rowV (addP P s.sf s.yr))] [(3,.fix [.osl 1002,.osl 1003]),(1002,rowA (addP (addP P s.sf s.yr) s.st 0)),(1003,rowV (addP (addP P s.sf s.yr) s.st 0))] _ [1002,1003] rfl (by rw [hP];exact ac) trivial (by repeat' first|exact trivial|(intro _;assumption)|apply And.intro) (hin3 rfl rfl rfl) (by simp [keysO]) (by simp) ?_
       clear ac
       simp only [rowA,rowV,slC,w1,vcd,↓vcp,seval]
       repeat' first|refine And.intro (fun h=>?_) (fun h=>?_)|refine aO ?_|(refine tA rfl rfl rfl rfl ?_;try simp only [w1,vcd,↓vcp,seval])|refine aT ?_|fail
       exact lopK.on (k+1,addP (addP P s.sf s.yr) s.st 0,s.st) ⟨hlt,he,by simp only;omega⟩ (by simp only;omega) ((Wk.sw 1002 1000 _ hfn (by simp) (by simp)).trans ((Wk.sw 1003 1001 _ hfn (by simp) (by simp)).trans (Wk.of _ hfn rfl (by simp only [slS,dSl,slC,w1,enb,vcd,↓vcp,seval]) (by simp only [rowA,rowV,enb,vcd,↓vcp,seval]))))
      ·have ac:=(sAdd00 (addP P s.sf s.yr) s.st 0 (by omega) hpc hpu).sw 903 3
       simp only [rowA,rowV,vcd,↓vcp,seval] at ac
       clear hpc hpu
       refine TR.callv [(3,.fix [.osl 1000,.osl 1001]),(1000,rowA (addP P s.sf s.yr)),(1001,rowV (addP P s.sf s.yr))] [(3,.fix [.osl 1000,.osl 1001]),(1000,rowA (addP (addP P s.sf s.yr) s.st 0)),(1001,rowV (addP (addP P s.sf s.yr) s.st 0))] _ [] rfl (by rw [hP];exact ac) trivial (by repeat' first|exact trivial|(intro _;assumption)|apply And.intro) (hin3 rfl rfl rfl) (by simp [keysO]) (by simp) ?_
       clear ac
       simp only [rowA,rowV,slC,w1,vcd,↓vcp,seval]
       repeat' first|refine And.intro (fun h=>?_) (fun h=>?_)|refine aO ?_|(refine tA rfl rfl rfl rfl ?_;try simp only [w1,vcd,↓vcp,seval])|refine aT ?_|fail
       exact lopK.on (k+1,addP (addP P s.sf s.yr) s.st 0,s.st) ⟨hlt,he,by simp only;omega⟩ (by simp only;omega) (Wk.of _ hfn rfl (by simp only [slS,dSl,slC,w1,enb,vcd,↓vcp,seval]) (by simp only [rowA,rowV,enb,vcd,↓vcp,seval]))
    ·have ac:=(sAdd00 P s.sf s.yr (by omega) hpc hpu).sw 903 3
     simp only [rowA,rowV,vcd,↓vcp,seval] at ac
     clear hpc hpu
     refine TR.callv [(3,.fix [.osl 1000,.osl 1001]),(1000,rowA P),(1001,rowV P)] [(3,.fix [.osl 1000,.osl 1001]),(1000,rowA (addP P s.sf s.yr)),(1001,rowV (addP P s.sf s.yr))] _ [] rfl (by rw [hP];exact ac) trivial (by repeat' first|exact trivial|(intro _;assumption)|apply And.intro) (hin3 rfl rfl rfl) (by simp [keysO]) (by simp) ?_
     clear ac
     simp only [rowA,rowV,slC,w1,vcd,↓vcp,seval]
     repeat' first|refine And.intro (fun h=>?_) (fun h=>?_)|refine aO ?_|(refine tA rfl rfl rfl rfl ?_;try simp only [w1,vcd,↓vcp,seval])|refine aT ?_|fail
     refine TR.wk ⟨[(4,.fn (.func 97) [] [.own 3 0]),(2,.own 2 0),(3,.own 3 0),(5,.d (.int .i64 e)),(7,.own 7 0),(13,.d (slS l)),(14,.d (.int .i64 l.length)),(15,.d (.int .i64 k)),(31,.fn (.func 97) [] [.own 3 0]),(34,.d (.int .i64 s.st))],[(2,.fix [.d (.sl true 0 0 fun _=>[]),.d (.sl true 0 0 fun _=>[])]),(3,.fix [.osl 1000,.osl 1001]),(7,.fix (cSl s)),(1000,rowA (addP P s.sf s.yr)),(1001,rowV (addP P s.sf s.yr))],[2,3,7,1000,1001]⟩ (Wk.of _ hfn rfl (by simp only [slS,dSl,slC,enb,vcd,↓vcp,seval]) (by simp only [rowA,rowV,cSl,slC,enb,vcd,↓vcp,seval])) ?_
     simp only [rowA,rowV,cSl,slS,dSl,slC,vcd,↓vcp,seval]
     by_cases hpc:popC (addP P s.sf s.yr) s.st
     ·by_cases hpu:pushC (popP (addP P s.sf s.yr) s.st) s.st 0
      ·have ac:=(sAdd11 (addP P s.sf s.yr) s.st 0 (by omega) hpc hpu).sw 903 3
       simp only [rowA,rowV,vcd,↓vcp,seval] at ac
       clear hpc hpu
       refine TR.callv [(3,.fix [.osl 1000,.osl 1001]),(1000,rowA (addP P s.sf s.yr)),(1001,rowV (addP P s.sf s.yr))] [(3,.fix [.osl 1002,.osl 1003]),(1002,rowA (addP (addP P s.sf s.yr) s.st 0)),(1003,rowV (addP (addP P s.sf s.yr) s.st 0))] _ [1002,1003] rfl (by rw [hP];exact ac) trivial (by repeat' first|exact trivial|(intro _;assumption)|apply And.intro) (hin3 rfl rfl rfl) (by simp [keysO]) (by simp) ?_
       clear ac
       simp only [rowA,rowV,slC,w1,vcd,↓vcp,seval]
       repeat' first|refine And.intro (fun h=>?_) (fun h=>?_)|refine aO ?_|(refine tA rfl rfl rfl rfl ?_;try simp only [w1,vcd,↓vcp,seval])|refine aT ?_|fail
       exact lopK.on (k+1,addP (addP P s.sf s.yr) s.st 0,s.st) ⟨hlt,he,by simp only;omega⟩ (by simp only;omega) ((Wk.sw 1002 1000 _ hfn (by simp) (by simp)).trans ((Wk.sw 1003 1001 _ hfn (by simp) (by simp)).trans (Wk.of _ hfn rfl (by simp only [slS,dSl,slC,w1,enb,vcd,↓vcp,seval]) (by simp only [rowA,rowV,enb,vcd,↓vcp,seval]))))
      ·have ac:=(sAdd10 (addP P s.sf s.yr) s.st 0 (by omega) hpc hpu).sw 903 3
       simp only [rowA,rowV,vcd,↓vcp,seval] at ac
       clear hpc hpu
       refine TR.callv [(3,.fix [.osl 1000,.osl 1001]),(1000,rowA (addP P s.sf s.yr)),(1001,rowV (addP P s.sf s.yr))] [(3,.fix [.osl 1002,.osl 1003]),(1002,rowA (addP (addP P s.sf s.yr) s.st 0)),(1003,rowV (addP (addP P s.sf s.yr) s.st 0))] _ [1002,1003] rfl (by rw [hP];exact ac) trivial (by repeat' first|exact trivial|(intro _;assumption)|apply And.intro) (hin3 rfl rfl rfl) (by simp [keysO]) (by simp) ?_
       clear ac
       simp only [rowA,rowV,slC,w1,vcd,↓vcp,seval]
       repeat' first|refine And.intro (fun h=>?_) (fun h=>?_)|refine aO ?_|(refine tA rfl rfl rfl rfl ?_;try simp only [w1,vcd,↓vcp,seval])|refine aT ?_|fail
       exact lopK.on (k+1,addP (addP P s.sf s.yr) s.st 0,s.st) ⟨hlt,he,by simp only;omega⟩ (by simp only;omega) ((Wk.sw 1002 1000 _ hfn (by simp) (by simp)).trans ((Wk.sw 1003 1001 _ hfn (by simp) (by simp)).trans (Wk.of _ hfn rfl (by simp only [slS,dSl,slC,w1,enb,vcd,↓vcp,seval]) (by simp only [rowA,rowV,enb,vcd,↓vcp,seval]))))
     ·by_cases hpu:pushC (popP (addP P s.sf s.yr) s.st) s.st 0
      ·have ac:=(sAdd01 (addP P s.sf s.yr) s.st 0 (by omega) hpc hpu).sw 903 3
       simp only [rowA,rowV,vcd,↓vcp,seval] at ac
       clear hpc hpu
       refine TR.callv [(3,.fix [.osl 1000,.osl 1001]),(1000,rowA (addP P s.sf s.yr)),(1001,rowV (addP P s.sf s.yr))] [(3,.fix [.osl 1002,.osl 1003]),(1002,rowA (addP (addP P s.sf s.yr) s.st 0)),(1003,rowV (addP (addP P s.sf s.yr) s.st 0))] _ [1002,1003] rfl (by rw [hP];exact ac) trivial (by repeat' first|exact trivial|(intro _;assumption)|apply And.intro) (hin3 rfl rfl rfl) (by simp [keysO]) (by simp) ?_
       clear ac
       simp only [rowA,rowV,slC,w1,vcd,↓vcp,seval]
       repeat' first|refine And.intro (fun h=>?_) (fun h=>?_)|refine aO ?_|(refine tA rfl rfl rfl rfl ?_;try simp only [w1,vcd,↓vcp,seval])|refine aT ?_|fail
       exact lopK.on (k+1,addP (addP P s.sf s.yr) s.st 0,s.st) ⟨hlt,he,by simp only;omega⟩ (by simp only;omega) ((Wk.sw 1002 1000 _ hfn (by simp) (by simp)).trans ((Wk.sw 1003 1001 _ hfn (by simp) (by simp)).trans (Wk.of _ hfn rfl (by simp only [slS,dSl,slC,w1,enb,vcd,↓vcp,seval]) (by simp only [rowA,rowV,enb,vcd,↓vcp,seval]))))
      ·have ac:=(sAdd00 (addP P s.sf s.yr) s.st 0 (by omega) hpc hpu).sw 903 3
       simp only [rowA,rowV,vcd,↓vcp,seval] at ac
       clear hpc hpu
       refine TR.callv [(3,.fix [.osl 1000,.osl 1001]),(1000,rowA (addP P s.sf s.yr)),(1001,rowV (addP P s.sf s.yr))] [(3,.fix [.osl 1000,.osl 1001]),(1000,rowA (addP (addP P s.sf s.yr) s.st 0)),(1001,rowV (addP (addP P s.sf s.yr) s.st 0))] _ [] rfl (by rw [hP];exact ac) trivial (by repeat' first|exact trivial|(intro _;assumption)|apply And.intro) (hin3 rfl rfl rfl) (by simp [keysO]) (by simp) ?_
       clear ac
       simp only [rowA,rowV,slC,w1,vcd,↓vcp,seval]
       repeat' first|refine And.intro (fun h=>?_) (fun h=>?_)|refine aO ?_|(refine tA rfl rfl rfl rfl ?_;try simp only [w1,vcd,↓vcp,seval])|refine aT ?_|fail
       exact lopK.on (k+1,addP (addP P s.sf s.yr) s.st 0,s.st) ⟨hlt,he,by simp only;omega⟩ (by simp only;omega) (Wk.of _ hfn rfl (by simp only [slS,dSl,slC,w1,enb,vcd,↓vcp,seval]) (by simp only [rowA,rowV,enb,vcd,↓vcp,seval]))
  ·rw [if_neg hf] at he;cases he
 ·have d0:decide ((k:Int)<(l.length:Int))=false:=decide_eq_false (by omega)
  rw [List.drop_eq_nil_of_le (by omega),curG] at he
  injection he with he
  subst he
  simp only [slS,rowA,rowV,d0,vcd,↓vcp,seval]
  repeat' first|refine And.intro (fun h=>?_) (fun h=>?_)|refine aO ?_|(refine tA rfl rfl rfl rfl ?_;try simp only [d0,vcd,↓vcp,seval])|refine aT ?_|fail
  refine RetK.mk _ ((Wk.pub 1000 rfl).trans (Wk.pub 1001 rfl)) (by simp only [rs55,rsb,vcd,↓vcp,seval]) ?_ trivial
  simp only [rs55,vSt,cSt,rsb,vcd,↓vcp,seval]
  exact VLe.ags ⟨vle_slK1,vle_slK2,trivial⟩
set_option maxHeartbeats 4000000 in
theorem sCurveP (l:List Sl) (h:curS l=none) (hl:l.length≤9223372036854775807):CtrP Tryz.prog 55 [.d (slS l)] (vErr 1):=by
 by_cases hlen:l.length>2000
 ·have dl:decide ((l.length:Int)>2000)=true:=decide_eq_true (by omega)
  refine ctr_panics Tryz.func55 ok55 rfl cc55 Tryz.ntmps55 (by simp) rfl rfl ?_;intro c hP hfn hpk;simp only [kc55,slS,dl,vcd,↓vcp,seval]
  repeat' first|refine And.intro (fun h=>?_) (fun h=>?_)|refine aO ?_|(refine tA rfl rfl rfl rfl ?_;try simp only [dl,vcd,↓vcp,seval])|refine aT ?_|fail
  exact TR.cpan hP (sMust1 1 (by decide)) (by repeat' first|exact trivial|(intro _;assumption)|apply And.intro) (by rw [hpk];exact VLe.refl _)
 have hG:curG [] 1 l=none:=by rw [curS,if_neg (by omega)] at h;exact h
 have dl:decide ((l.length:Int)>2000)=false:=decide_eq_false (by omega)
 refine ctr_panics Tryz.func55 ok55 rfl cc55 Tryz.ntmps55 (by simp) rfl rfl ?_;intro c hP hfn hpk;simp only [kc55,slS,dl,vcd,↓vcp,seval]
 repeat' first|refine And.intro (fun h=>?_) (fun h=>?_)|refine aO ?_|(refine tA rfl rfl rfl rfl ?_;try simp only [dl,vcd,↓vcp,seval])|refine aT ?_|fail
 refine vcC.loop (X:=Nat×List (Int×Int)×Int) (fun x=>⟨[(4,.fn (.func 97) [] [.own 3 0]),(2,.own 2 0),(3,.own 3 0),(5,.d (.int .i64 x.2.2)),(13,.d (slS l)),(14,.d (.int .i64 l.length)),(15,.d (.int .i64 x.1))],[(2,.fix [.d (.sl true 0 0 fun _=>[]),.d (.sl true 0 0 fun _=>[])]),(3,.fix [.osl 1000,.osl 1001]),(1000,rowA x.2.1),(1001,rowV x.2.1)],[2,3,1000,1001]⟩)
  (fun x=>x.1≤l.length∧curG x.2.1 x.2.2 (l.drop x.1)=none∧x.2.1.length≤2*x.1) (fun x=>l.length-x.1) (0,[],1) ⟨Nat.zero_le _,hG,Nat.le_refl _⟩ ?_ ?_
 ·refine (Wk.row0F 3 0 1000 3 1 (fun _=>[]) rfl rfl (by simp)).trans ((Wk.row0F 3 1 1001 3 1 (fun _=>[]) rfl rfl (by simp)).trans (Wk.of _ hfn rfl ?_ ?_))
  ·simp only [slS,enb,vcd,↓vcp,seval]
  ·simp only [rowA,rowV,enb,vcd,↓vcp,seval]
   exact ⟨OLe.row rfl (fun i hi=>absurd hi (Nat.not_lt_zero i)),OLe.row rfl (fun i hi=>absurd hi (Nat.not_lt_zero i))⟩
 rintro ⟨k,P,e⟩ ⟨hk,he,hPl⟩
 simp only at hk he hPl
 by_cases hlt:k<l.length
 ·obtain ⟨s,hd,hg,-,-⟩:=drop_at hlt
  have hg:=hg default
  have d0:decide ((k:Int)<(l.length:Int))=true:=decide_eq_true (by omega)
  have w1:IntKind.i64.wrap ((k:Int)+1)=((k+1:Nat):Int):=wS (by omega)
  have b1:(0:Int)≤(k:Int)∧(k:Int)<(l.length:Int):=by omega
  have cf:=sFullSl s e
  simp only [vSl,cSl,slC] at cf
  rw [hd,curG] at he
  have hl1:=addP_len P s.sf s.yr
  have hl2:=addP_len (addP P s.sf s.yr) s.st 0
  by_cases hf:fullSl s e=true
  ·rw [if_pos hf] at he
   rw [hf] at cf
   simp only [slS,dSl,slC,rowA,rowV,d0,hg,vcd,↓vcp,seval]
   repeat' first|((first|refine tp hP (by exact cf) ?_|refine tg hP (fun _=>by exact cf) ?_|refine tv hP rfl (by exact cf) ?_);try simp only [d0,hg,w1,vcd,↓vcp,seval])|refine And.intro (fun h=>?_) (fun h=>?_)|refine aO ?_|(refine tA rfl rfl rfl rfl ?_;try simp only [d0,hg,w1,vcd,↓vcp,seval])|refine aT ?_|fail
   by_cases hpc:popC P s.sf
   ·by_cases hpu:pushC (popP P s.sf) s.sf s.yr
    ·have ac:=(sAdd11 P s.sf s.yr (by omega) hpc hpu).sw 903 3
     simp only [rowA,rowV,vcd,↓vcp,seval] at ac
     clear hpc hpu
     refine TR.callv [(3,.fix [.osl 1000,.osl 1001]),(1000,rowA P),(1001,rowV P)] [(3,.fix [.osl 1002,.osl 1003]),(1002,rowA (addP P s.sf s.yr)),(1003,rowV (addP P s.sf s.yr))] _ [1002,1003] rfl (by rw [hP];exact ac) trivial (by repeat' first|exact trivial|(intro _;assumption)|apply And.intro) (hin3 rfl rfl rfl) (by simp [keysO]) (by simp) ?_
     clear ac
     simp only [rowA,rowV,slC,w1,vcd,↓vcp,seval]
     repeat' first|refine And.intro (fun h=>?_) (fun h=>?_)|refine aO ?_|(refine tA rfl rfl rfl rfl ?_;try simp only [w1,vcd,↓vcp,seval])|refine aT ?_|fail
     refine TR.wk ⟨[(4,.fn (.func 97) [] [.own 3 0]),(2,.own 2 0),(3,.own 3 0),(5,.d (.int .i64 e)),(7,.own 7 0),(13,.d (slS l)),(14,.d (.int .i64 l.length)),(15,.d (.int .i64 k)),(31,.fn (.func 97) [] [.own 3 0]),(34,.d (.int .i64 s.st))],[(2,.fix [.d (.sl true 0 0 fun _=>[]),.d (.sl true 0 0 fun _=>[])]),(3,.fix [.osl 1000,.osl 1001]),(7,.fix (cSl s)),(1000,rowA (addP P s.sf s.yr)),(1001,rowV (addP P s.sf s.yr))],[2,3,7,1000,1001]⟩ ((Wk.sw 1002 1000 _ hfn (by simp) (by simp)).trans ((Wk.sw 1003 1001 _ hfn (by simp) (by simp)).trans (Wk.of _ hfn rfl (by simp only [slS,dSl,slC,enb,vcd,↓vcp,seval]) (by simp only [rowA,rowV,cSl,slC,enb,vcd,↓vcp,seval])))) ?_
     simp only [rowA,rowV,cSl,slS,dSl,slC,vcd,↓vcp,seval]
     by_cases hpc:popC (addP P s.sf s.yr) s.st
     ·by_cases hpu:pushC (popP (addP P s.sf s.yr) s.st) s.st 0
      ·have ac:=(sAdd11 (addP P s.sf s.yr) s.st 0 (by omega) hpc hpu).sw 903 3
       simp only [rowA,rowV,vcd,↓vcp,seval] at ac
       clear hpc hpu
       refine TR.callv [(3,.fix [.osl 1000,.osl 1001]),(1000,rowA (addP P s.sf s.yr)),(1001,rowV (addP P s.sf s.yr))] [(3,.fix [.osl 1002,.osl 1003]),(1002,rowA (addP (addP P s.sf s.yr) s.st 0)),(1003,rowV (addP (addP P s.sf s.yr) s.st 0))] _ [1002,1003] rfl (by rw [hP];exact ac) trivial (by repeat' first|exact trivial|(intro _;assumption)|apply And.intro) (hin3 rfl rfl rfl) (by simp [keysO]) (by simp) ?_
       clear ac
       simp only [rowA,rowV,slC,w1,vcd,↓vcp,seval]
       repeat' first|refine And.intro (fun h=>?_) (fun h=>?_)|refine aO ?_|(refine tA rfl rfl rfl rfl ?_;try simp only [w1,vcd,↓vcp,seval])|refine aT ?_|fail
       exact lopK.on (k+1,addP (addP P s.sf s.yr) s.st 0,s.st) ⟨hlt,he,by simp only;omega⟩ (by simp only;omega) ((Wk.sw 1002 1000 _ hfn (by simp) (by simp)).trans ((Wk.sw 1003 1001 _ hfn (by simp) (by simp)).trans (Wk.of _ hfn rfl (by simp only [slS,dSl,slC,w1,enb,vcd,↓vcp,seval]) (by simp only [rowA,rowV,enb,vcd,↓vcp,seval]))))
      ·have ac:=(sAdd10 (addP P s.sf s.yr) s.st 0 (by omega) hpc hpu).sw 903 3
       simp only [rowA,rowV,vcd,↓vcp,seval] at ac
       clear hpc hpu
       refine TR.callv [(3,.fix [.osl 1000,.osl 1001]),(1000,rowA (addP P s.sf s.yr)),(1001,rowV (addP P s.sf s.yr))] [(3,.fix [.osl 1002,.osl 1003]),(1002,rowA (addP (addP P s.sf s.yr) s.st 0)),(1003,rowV (addP (addP P s.sf s.yr) s.st 0))] _ [1002,1003] rfl (by rw [hP];exact ac) trivial (by repeat' first|exact trivial|(intro _;assumption)|apply And.intro) (hin3 rfl rfl rfl) (by simp [keysO]) (by simp) ?_
       clear ac
       simp only [rowA,rowV,slC,w1,vcd,↓vcp,seval]
       repeat' first|refine And.intro (fun h=>?_) (fun h=>?_)|refine aO ?_|(refine tA rfl rfl rfl rfl ?_;try simp only [w1,vcd,↓vcp,seval])|refine aT ?_|fail
       exact lopK.on (k+1,addP (addP P s.sf s.yr) s.st 0,s.st) ⟨hlt,he,by simp only;omega⟩ (by simp only;omega) ((Wk.sw 1002 1000 _ hfn (by simp) (by simp)).trans ((Wk.sw 1003 1001 _ hfn (by simp) (by simp)).trans (Wk.of _ hfn rfl (by simp only [slS,dSl,slC,w1,enb,vcd,↓vcp,seval]) (by simp only [rowA,rowV,enb,vcd,↓vcp,seval]))))
     ·by_cases hpu:pushC (popP (addP P s.sf s.yr) s.st) s.st 0
      ·have ac:=(sAdd01 (addP P s.sf s.yr) s.st 0 (by omega) hpc hpu).sw 903 3
       simp only [rowA,rowV,vcd,↓vcp,seval] at ac
       clear hpc hpu
       refine TR.callv [(3,.fix [.osl 1000,.osl 1001]),(1000,rowA (addP P s.sf s.yr)),(1001,rowV (addP P s.sf s.yr))] [(3,.fix [.osl 1002,.osl 1003]),(1002,rowA (addP (addP P s.sf s.yr) s.st 0)),(1003,rowV (addP (addP P s.sf s.yr) s.st 0))] _ [1002,1003] rfl (by rw [hP];exact ac) trivial (by repeat' first|exact trivial|(intro _;assumption)|apply And.intro) (hin3 rfl rfl rfl) (by simp [keysO]) (by simp) ?_
       clear ac
       simp only [rowA,rowV,slC,w1,vcd,↓vcp,seval]
       repeat' first|refine And.intro (fun h=>?_) (fun h=>?_)|refine aO ?_|(refine tA rfl rfl rfl rfl ?_;try simp only [w1,vcd,↓vcp,seval])|refine aT ?_|fail
       exact lopK.on (k+1,addP (addP P s.sf s.yr) s.st 0,s.st) ⟨hlt,he,by simp only;omega⟩ (by simp only;omega) ((Wk.sw 1002 1000 _ hfn (by simp) (by simp)).trans ((Wk.sw 1003 1001 _ hfn (by simp) (by simp)).trans (Wk.of _ hfn rfl (by simp only [slS,dSl,slC,w1,enb,vcd,↓vcp,seval]) (by simp only [rowA,rowV,enb,vcd,↓vcp,seval]))))
      ·have ac:=(sAdd00 (addP P s.sf s.yr) s.st 0 (by omega) hpc hpu).sw 903 3
       simp only [rowA,rowV,vcd,↓vcp,seval] at ac
       clear hpc hpu
       refine TR.callv [(3,.fix [.osl 1000,.osl 1001]),(1000,rowA (addP P s.sf s.yr)),(1001,rowV (addP P s.sf s.yr))] [(3,.fix [.osl 1000,.osl 1001]),(1000,rowA (addP (addP P s.sf s.yr) s.st 0)),(1001,rowV (addP (addP P s.sf s.yr) s.st 0))] _ [] rfl (by rw [hP];exact ac) trivial (by repeat' first|exact trivial|(intro _;assumption)|apply And.intro) (hin3 rfl rfl rfl) (by simp [keysO]) (by simp) ?_
       clear ac
       simp only [rowA,rowV,slC,w1,vcd,↓vcp,seval]
       repeat' first|refine And.intro (fun h=>?_) (fun h=>?_)|refine aO ?_|(refine tA rfl rfl rfl rfl ?_;try simp only [w1,vcd,↓vcp,seval])|refine aT ?_|fail
       exact lopK.on (k+1,addP (addP P s.sf s.yr) s.st 0,s.st) ⟨hlt,he,by simp only;omega⟩ (by simp only;omega) (Wk.of _ hfn rfl (by simp only [slS,dSl,slC,w1,enb,vcd,↓vcp,seval]) (by simp only [rowA,rowV,enb,vcd,↓vcp,seval]))
    ·have ac:=(sAdd10 P s.sf s.yr (by omega) hpc hpu).sw 903 3
     simp only [rowA,rowV,vcd,↓vcp,seval] at ac
     clear hpc hpu
     refine TR.callv [(3,.fix [.osl 1000,.osl 1001]),(1000,rowA P),(1001,rowV P)] [(3,.fix [.osl 1002,.osl 1003]),(1002,rowA (addP P s.sf s.yr)),(1003,rowV (addP P s.sf s.yr))] _ [1002,1003] rfl (by rw [hP];exact ac) trivial (by repeat' first|exact trivial|(intro _;assumption)|apply And.intro) (hin3 rfl rfl rfl) (by simp [keysO]) (by simp) ?_
     clear ac
     simp only [rowA,rowV,slC,w1,vcd,↓vcp,seval]
     repeat' first|refine And.intro (fun h=>?_) (fun h=>?_)|refine aO ?_|(refine tA rfl rfl rfl rfl ?_;try simp only [w1,vcd,↓vcp,seval])|refine aT ?_|fail
     refine TR.wk ⟨[(4,.fn (.func 97) [] [.own 3 0]),(2,.own 2 0),(3,.own 3 0),(5,.d (.int .i64 e)),(7,.own 7 0),(13,.d (slS l)),(14,.d (.int .i64 l.length)),(15,.d (.int .i64 k)),(31,.fn (.func 97) [] [.own 3 0]),(34,.d (.int .i64 s.st))],[(2,.fix [.d (.sl true 0 0 fun _=>[]),.d (.sl true 0 0 fun _=>[])]),(3,.fix [.osl 1000,.osl 1001]),(7,.fix (cSl s)),(1000,rowA (addP P s.sf s.yr)),(1001,rowV (addP P s.sf s.yr))],[2,3,7,1000,1001]⟩ ((Wk.sw 1002 1000 _ hfn (by simp) (by simp)).trans ((Wk.sw 1003 1001 _ hfn (by simp) (by simp)).trans (Wk.of _ hfn rfl (by simp only [slS,dSl,slC,enb,vcd,↓vcp,seval]) (by simp only [rowA,rowV,cSl,slC,enb,vcd,↓vcp,seval])))) ?_
     simp only [rowA,rowV,cSl,slS,dSl,slC,vcd,↓vcp,seval]
     by_cases hpc:popC (addP P s.sf s.yr) s.st
     ·by_cases hpu:pushC (popP (addP P s.sf s.yr) s.st) s.st 0
      ·have ac:=(sAdd11 (addP P s.sf s.yr) s.st 0 (by omega) hpc hpu).sw 903 3
       simp only [rowA,rowV,vcd,↓vcp,seval] at ac
       clear hpc hpu
       refine TR.callv [(3,.fix [.osl 1000,.osl 1001]),(1000,rowA (addP P s.sf s.yr)),(1001,rowV (addP P s.sf s.yr))] [(3,.fix [.osl 1002,.osl 1003]),(1002,rowA (addP (addP P s.sf s.yr) s.st 0)),(1003,rowV (addP (addP P s.sf s.yr) s.st 0))] _ [1002,1003] rfl (by rw [hP];exact ac) trivial (by repeat' first|exact trivial|(intro _;assumption)|apply And.intro) (hin3 rfl rfl rfl) (by simp [keysO]) (by simp) ?_
       clear ac
       simp only [rowA,rowV,slC,w1,vcd,↓vcp,seval]
       repeat' first|refine And.intro (fun h=>?_) (fun h=>?_)|refine aO ?_|(refine tA rfl rfl rfl rfl ?_;try simp only [w1,vcd,↓vcp,seval])|refine aT ?_|fail
       exact lopK.on (k+1,addP (addP P s.sf s.yr) s.st 0,s.st) ⟨hlt,he,by simp only;omega⟩ (by simp only;omega) ((Wk.sw 1002 1000 _ hfn (by simp) (by simp)).trans ((Wk.sw 1003 1001 _ hfn (by simp) (by simp)).trans (Wk.of _ hfn rfl (by simp only [slS,dSl,slC,w1,enb,vcd,↓vcp,seval]) (by simp only [rowA,rowV,enb,vcd,↓vcp,seval]))))
      ·have ac:=(sAdd10 (addP P s.sf s.yr) s.st 0 (by omega) hpc hpu).sw 903 3
       simp only [rowA,rowV,vcd,↓vcp,seval] at ac
       clear hpc hpu
       refine TR.callv [(3,.fix [.osl 1000,.osl 1001]),(1000,rowA (addP P s.sf s.yr)),(1001,rowV (addP P s.sf s.yr))] [(3,.fix [.osl 1002,.osl 1003]),(1002,rowA (addP (addP P s.sf s.yr) s.st 0)),(1003,rowV (addP (addP P s.sf s.yr) s.st 0))] _ [1002,1003] rfl (by rw [hP];exact ac) trivial (by repeat' first|exact trivial|(intro _;assumption)|apply And.intro) (hin3 rfl rfl rfl) (by simp [keysO]) (by simp) ?_
       clear ac
       simp only [rowA,rowV,slC,w1,vcd,↓vcp,seval]
       repeat' first|refine And.intro (fun h=>?_) (fun h=>?_)|refine aO ?_|(refine tA rfl rfl rfl rfl ?_;try simp only [w1,vcd,↓vcp,seval])|refine aT ?_|fail
       exact lopK.on (k+1,addP (addP P s.sf s.yr) s.st 0,s.st) ⟨hlt,he,by simp only;omega⟩ (by simp only;omega) ((Wk.sw 1002 1000 _ hfn (by simp) (by simp)).trans ((Wk.sw 1003 1001 _ hfn (by simp) (by simp)).trans (Wk.of _ hfn rfl (by simp only [slS,dSl,slC,w1,enb,vcd,↓vcp,seval]) (by simp only [rowA,rowV,enb,vcd,↓vcp,seval]))))
     ·by_cases hpu:pushC (popP (addP P s.sf s.yr) s.st) s.st 0
      ·have ac:=(sAdd01 (addP P s.sf s.yr) s.st 0 (by omega) hpc hpu).sw 903 3
       simp only [rowA,rowV,vcd,↓vcp,seval] at ac
       clear hpc hpu
       refine TR.callv [(3,.fix [.osl 1000,.osl 1001]),(1000,rowA (addP P s.sf s.yr)),(1001,rowV (addP P s.sf s.yr))] [(3,.fix [.osl 1002,.osl 1003]),(1002,rowA (addP (addP P s.sf s.yr) s.st 0)),(1003,rowV (addP (addP P s.sf s.yr) s.st 0))] _ [1002,1003] rfl (by rw [hP];exact ac) trivial (by repeat' first|exact trivial|(intro _;assumption)|apply And.intro) (hin3 rfl rfl rfl) (by simp [keysO]) (by simp) ?_
       clear ac
       simp only [rowA,rowV,slC,w1,vcd,↓vcp,seval]
       repeat' first|refine And.intro (fun h=>?_) (fun h=>?_)|refine aO ?_|(refine tA rfl rfl rfl rfl ?_;try simp only [w1,vcd,↓vcp,seval])|refine aT ?_|fail
       exact lopK.on (k+1,addP (addP P s.sf s.yr) s.st 0,s.st) ⟨hlt,he,by simp only;omega⟩ (by simp only;omega) ((Wk.sw 1002 1000 _ hfn (by simp) (by simp)).trans ((Wk.sw 1003 1001 _ hfn (by simp) (by simp)).trans (Wk.of _ hfn rfl (by simp only [slS,dSl,slC,w1,enb,vcd,↓vcp,seval]) (by simp only [rowA,rowV,enb,vcd,↓vcp,seval]))))
      ·have ac:=(sAdd00 (addP P s.sf s.yr) s.st 0 (by omega) hpc hpu).sw 903 3
       simp only [rowA,rowV,vcd,↓vcp,seval] at ac
       clear hpc hpu
       refine TR.callv [(3,.fix [.osl 1000,.osl 1001]),(1000,rowA (addP P s.sf s.yr)),(1001,rowV (addP P s.sf s.yr))] [(3,.fix [.osl 1000,.osl 1001]),(1000,rowA (addP (addP P s.sf s.yr) s.st 0)),(1001,rowV (addP (addP P s.sf s.yr) s.st 0))] _ [] rfl (by rw [hP];exact ac) trivial (by repeat' first|exact trivial|(intro _;assumption)|apply And.intro) (hin3 rfl rfl rfl) (by simp [keysO]) (by simp) ?_
       clear ac
       simp only [rowA,rowV,slC,w1,vcd,↓vcp,seval]
       repeat' first|refine And.intro (fun h=>?_) (fun h=>?_)|refine aO ?_|(refine tA rfl rfl rfl rfl ?_;try simp only [w1,vcd,↓vcp,seval])|refine aT ?_|fail
       exact lopK.on (k+1,addP (addP P s.sf s.yr) s.st 0,s.st) ⟨hlt,he,by simp only;omega⟩ (by simp only;omega) (Wk.of _ hfn rfl (by simp only [slS,dSl,slC,w1,enb,vcd,↓vcp,seval]) (by simp only [rowA,rowV,enb,vcd,↓vcp,seval]))
   ·by_cases hpu:pushC (popP P s.sf) s.sf s.yr
    ·have ac:=(sAdd01 P s.sf s.yr (by omega) hpc hpu).sw 903 3
     simp only [rowA,rowV,vcd,↓vcp,seval] at ac
     clear hpc hpu
     refine TR.callv [(3,.fix [.osl 1000,.osl 1001]),(1000,rowA P),(1001,rowV P)] [(3,.fix [.osl 1002,.osl 1003]),(1002,rowA (addP P s.sf s.yr)),(1003,rowV (addP P s.sf s.yr))] _ [1002,1003] rfl (by rw [hP];exact ac) trivial (by repeat' first|exact trivial|(intro _;assumption)|apply And.intro) (hin3 rfl rfl rfl) (by simp [keysO]) (by simp) ?_
     clear ac
     simp only [rowA,rowV,slC,w1,vcd,↓vcp,seval]
     repeat' first|refine And.intro (fun h=>?_) (fun h=>?_)|refine aO ?_|(refine tA rfl rfl rfl rfl ?_;try simp only [w1,vcd,↓vcp,seval])|refine aT ?_|fail
     refine TR.wk ⟨[(4,.fn (.func 97) [] [.own 3 0]),(2,.own 2 0),(3,.own 3 0),(5,.d (.int .i64 e)),(7,.own 7 0),(13,.d (slS l)),(14,.d (.int .i64 l.length)),(15,.d (.int .i64 k)),(31,.fn (.func 97) [] [.own 3 0]),(34,.d (.int .i64 s.st))],[(2,.fix [.d (.sl true 0 0 fun _=>[]),.d (.sl true 0 0 fun _=>[])]),(3,.fix [.osl 1000,.osl 1001]),(7,.fix (cSl s)),(1000,rowA (addP P s.sf s.yr)),(1001,rowV (addP P s.sf s.yr))],[2,3,7,1000,1001]⟩ ((Wk.sw 1002 1000 _ hfn (by simp) (by simp)).trans ((Wk.sw 1003 1001 _ hfn (by simp) (by simp)).trans (Wk.of _ hfn rfl (by simp only [slS,dSl,slC,enb,vcd,↓vcp,seval]) (by simp only [rowA,rowV,cSl,slC,enb,vcd,↓vcp,seval])))) ?_
     simp only [rowA,rowV,cSl,slS,dSl,slC,vcd,↓vcp,seval]
     by_cases hpc:popC (addP P s.sf s.yr) s.st
     ·by_cases hpu:pushC (popP (addP P s.sf s.yr) s.st) s.st 0
      ·have ac:=(sAdd11 (addP P s.sf s.yr) s.st 0 (by omega) hpc hpu).sw 903 3
       simp only [rowA,rowV,vcd,↓vcp,seval] at ac
       clear hpc hpu
       refine TR.callv [(3,.fix [.osl 1000,.osl 1001]),(1000,rowA (addP P s.sf s.yr)),(1001,rowV (addP P s.sf s.yr))] [(3,.fix [.osl 1002,.osl 1003]),(1002,rowA (addP (addP P s.sf s.yr) s.st 0)),(1003,rowV (addP (addP P s.sf s.yr) s.st 0))] _ [1002,1003] rfl (by rw [hP];exact ac) trivial (by repeat' first|exact trivial|(intro _;assumption)|apply And.intro) (hin3 rfl rfl rfl) (by simp [keysO]) (by simp) ?_
       clear ac
       simp only [rowA,rowV,slC,w1,vcd,↓vcp,seval]
       repeat' first|refine And.intro (fun h=>?_) (fun h=>?_)|refine aO ?_|(refine tA rfl rfl rfl rfl ?_;try simp only [w1,vcd,↓vcp,seval])|refine aT ?_|fail
       exact lopK.on (k+1,addP (addP P s.sf s.yr) s.st 0,s.st) ⟨hlt,he,by simp only;omega⟩ (by simp only;omega) ((Wk.sw 1002 1000 _ hfn (by simp) (by simp)).trans ((Wk.sw 1003 1001 _ hfn (by simp) (by simp)).trans (Wk.of _ hfn rfl (by simp only [slS,dSl,slC,w1,enb,vcd,↓vcp,seval]) (by simp only [rowA,rowV,enb,vcd,↓vcp,seval]))))
      ·have ac:=(sAdd10 (addP P s.sf s.yr) s.st 0 (by omega) hpc hpu).sw 903 3
       simp only [rowA,rowV,vcd,↓vcp,seval] at ac
       clear hpc hpu
       refine TR.callv [(3,.fix [.osl 1000,.osl 1001]),(1000,rowA (addP P s.sf s.yr)),(1001,rowV (addP P s.sf s.yr))] [(3,.fix [.osl 1002,.osl 1003]),(1002,rowA (addP (addP P s.sf s.yr) s.st 0)),(1003,rowV (addP (addP P s.sf s.yr) s.st 0))] _ [1002,1003] rfl (by rw [hP];exact ac) trivial (by repeat' first|exact trivial|(intro _;assumption)|apply And.intro) (hin3 rfl rfl rfl) (by simp [keysO]) (by simp) ?_
       clear ac
       simp only [rowA,rowV,slC,w1,vcd,↓vcp,seval]
       repeat' first|refine And.intro (fun h=>?_) (fun h=>?_)|refine aO ?_|(refine tA rfl rfl rfl rfl ?_;try simp only [w1,vcd,↓vcp,seval])|refine aT ?_|fail
       exact lopK.on (k+1,addP (addP P s.sf s.yr) s.st 0,s.st) ⟨hlt,he,by simp only;omega⟩ (by simp only;omega) ((Wk.sw 1002 1000 _ hfn (by simp) (by simp)).trans ((Wk.sw 1003 1001 _ hfn (by simp) (by simp)).trans (Wk.of _ hfn rfl (by simp only [slS,dSl,slC,w1,enb,vcd,↓vcp,seval]) (by simp only [rowA,rowV,enb,vcd,↓vcp,seval]))))
     ·by_cases hpu:pushC (popP (addP P s.sf s.yr) s.st) s.st 0
      ·have ac:=(sAdd01 (addP P s.sf s.yr) s.st 0 (by omega) hpc hpu).sw 903 3
       simp only [rowA,rowV,vcd,↓vcp,seval] at ac
       clear hpc hpu
       refine TR.callv [(3,.fix [.osl 1000,.osl 1001]),(1000,rowA (addP P s.sf s.yr)),(1001,rowV (addP P s.sf s.yr))] [(3,.fix [.osl 1002,.osl 1003]),(1002,rowA (addP (addP P s.sf s.yr) s.st 0)),(1003,rowV (addP (addP P s.sf s.yr) s.st 0))] _ [1002,1003] rfl (by rw [hP];exact ac) trivial (by repeat' first|exact trivial|(intro _;assumption)|apply And.intro) (hin3 rfl rfl rfl) (by simp [keysO]) (by simp) ?_
       clear ac
       simp only [rowA,rowV,slC,w1,vcd,↓vcp,seval]
       repeat' first|refine And.intro (fun h=>?_) (fun h=>?_)|refine aO ?_|(refine tA rfl rfl rfl rfl ?_;try simp only [w1,vcd,↓vcp,seval])|refine aT ?_|fail
       exact lopK.on (k+1,addP (addP P s.sf s.yr) s.st 0,s.st) ⟨hlt,he,by simp only;omega⟩ (by simp only;omega) ((Wk.sw 1002 1000 _ hfn (by simp) (by simp)).trans ((Wk.sw 1003 1001 _ hfn (by simp) (by simp)).trans (Wk.of _ hfn rfl (by simp only [slS,dSl,slC,w1,enb,vcd,↓vcp,seval]) (by simp only [rowA,rowV,enb,vcd,↓vcp,seval]))))
      ·have ac:=(sAdd00 (addP P s.sf s.yr) s.st 0 (by omega) hpc hpu).sw 903 3
       simp only [rowA,rowV,vcd,↓vcp,seval] at ac
       clear hpc hpu
       refine TR.callv [(3,.fix [.osl 1000,.osl 1001]),(1000,rowA (addP P s.sf s.yr)),(1001,rowV (addP P s.sf s.yr))] [(3,.fix [.osl 1000,.osl 1001]),(1000,rowA (addP (addP P s.sf s.yr) s.st 0)),(1001,rowV (addP (addP P s.sf s.yr) s.st 0))] _ [] rfl (by rw [hP];exact ac) trivial (by repeat' first|exact trivial|(intro _;assumption)|apply And.intro) (hin3 rfl rfl rfl) (by simp [keysO]) (by simp) ?_
       clear ac
       simp only [rowA,rowV,slC,w1,vcd,↓vcp,seval]
       repeat' first|refine And.intro (fun h=>?_) (fun h=>?_)|refine aO ?_|(refine tA rfl rfl rfl rfl ?_;try simp only [w1,vcd,↓vcp,seval])|refine aT ?_|fail
       exact lopK.on (k+1,addP (addP P s.sf s.yr) s.st 0,s.st) ⟨hlt,he,by simp only;omega⟩ (by simp only;omega) (Wk.of _ hfn rfl (by simp only [slS,dSl,slC,w1,enb,vcd,↓vcp,seval]) (by simp only [rowA,rowV,enb,vcd,↓vcp,seval]))
    ·have ac:=(sAdd00 P s.sf s.yr (by omega) hpc hpu).sw 903 3
     simp only [rowA,rowV,vcd,↓vcp,seval] at ac
     clear hpc hpu
     refine TR.callv [(3,.fix [.osl 1000,.osl 1001]),(1000,rowA P),(1001,rowV P)] [(3,.fix [.osl 1000,.osl 1001]),(1000,rowA (addP P s.sf s.yr)),(1001,rowV (addP P s.sf s.yr))] _ [] rfl (by rw [hP];exact ac) trivial (by repeat' first|exact trivial|(intro _;assumption)|apply And.intro) (hin3 rfl rfl rfl) (by simp [keysO]) (by simp) ?_
     clear ac
     simp only [rowA,rowV,slC,w1,vcd,↓vcp,seval]
     repeat' first|refine And.intro (fun h=>?_) (fun h=>?_)|refine aO ?_|(refine tA rfl rfl rfl rfl ?_;try simp only [w1,vcd,↓vcp,seval])|refine aT ?_|fail
     refine TR.wk ⟨[(4,.fn (.func 97) [] [.own 3 0]),(2,.own 2 0),(3,.own 3 0),(5,.d (.int .i64 e)),(7,.own 7 0),(13,.d (slS l)),(14,.d (.int .i64 l.length)),(15,.d (.int .i64 k)),(31,.fn (.func 97) [] [.own 3 0]),(34,.d (.int .i64 s.st))],[(2,.fix [.d (.sl true 0 0 fun _=>[]),.d (.sl true 0 0 fun _=>[])]),(3,.fix [.osl 1000,.osl 1001]),(7,.fix (cSl s)),(1000,rowA (addP P s.sf s.yr)),(1001,rowV (addP P s.sf s.yr))],[2,3,7,1000,1001]⟩ (Wk.of _ hfn rfl (by simp only [slS,dSl,slC,enb,vcd,↓vcp,seval]) (by simp only [rowA,rowV,cSl,slC,enb,vcd,↓vcp,seval])) ?_
     simp only [rowA,rowV,cSl,slS,dSl,slC,vcd,↓vcp,seval]
     by_cases hpc:popC (addP P s.sf s.yr) s.st
     ·by_cases hpu:pushC (popP (addP P s.sf s.yr) s.st) s.st 0
      ·have ac:=(sAdd11 (addP P s.sf s.yr) s.st 0 (by omega) hpc hpu).sw 903 3
       simp only [rowA,rowV,vcd,↓vcp,seval] at ac
       clear hpc hpu
       refine TR.callv [(3,.fix [.osl 1000,.osl 1001]),(1000,rowA (addP P s.sf s.yr)),(1001,rowV (addP P s.sf s.yr))] [(3,.fix [.osl 1002,.osl 1003]),(1002,rowA (addP (addP P s.sf s.yr) s.st 0)),(1003,rowV (addP (addP P s.sf s.yr) s.st 0))] _ [1002,1003] rfl (by rw [hP];exact ac) trivial (by repeat' first|exact trivial|(intro _;assumption)|apply And.intro) (hin3 rfl rfl rfl) (by simp [keysO]) (by simp) ?_
       clear ac
       simp only [rowA,rowV,slC,w1,vcd,↓vcp,seval]
       repeat' first|refine And.intro (fun h=>?_) (fun h=>?_)|refine aO ?_|(refine tA rfl rfl rfl rfl ?_;try simp only [w1,vcd,↓vcp,seval])|refine aT ?_|fail
       exact lopK.on (k+1,addP (addP P s.sf s.yr) s.st 0,s.st) ⟨hlt,he,by simp only;omega⟩ (by simp only;omega) ((Wk.sw 1002 1000 _ hfn (by simp) (by simp)).trans ((Wk.sw 1003 1001 _ hfn (by simp) (by simp)).trans (Wk.of _ hfn rfl (by simp only [slS,dSl,slC,w1,enb,vcd,↓vcp,seval]) (by simp only [rowA,rowV,enb,vcd,↓vcp,seval]))))
      ·have ac:=(sAdd10 (addP P s.sf s.yr) s.st 0 (by omega) hpc hpu).sw 903 3
       simp only [rowA,rowV,vcd,↓vcp,seval] at ac
       clear hpc hpu
       refine TR.callv [(3,.fix [.osl 1000,.osl 1001]),(1000,rowA (addP P s.sf s.yr)),(1001,rowV (addP P s.sf s.yr))] [(3,.fix [.osl 1002,.osl 1003]),(1002,rowA (addP (addP P s.sf s.yr) s.st 0)),(1003,rowV (addP (addP P s.sf s.yr) s.st 0))] _ [1002,1003] rfl (by rw [hP];exact ac) trivial (by repeat' first|exact trivial|(intro _;assumption)|apply And.intro) (hin3 rfl rfl rfl) (by simp [keysO]) (by simp) ?_
       clear ac
       simp only [rowA,rowV,slC,w1,vcd,↓vcp,seval]
       repeat' first|refine And.intro (fun h=>?_) (fun h=>?_)|refine aO ?_|(refine tA rfl rfl rfl rfl ?_;try simp only [w1,vcd,↓vcp,seval])|refine aT ?_|fail
       exact lopK.on (k+1,addP (addP P s.sf s.yr) s.st 0,s.st) ⟨hlt,he,by simp only;omega⟩ (by simp only;omega) ((Wk.sw 1002 1000 _ hfn (by simp) (by simp)).trans ((Wk.sw 1003 1001 _ hfn (by simp) (by simp)).trans (Wk.of _ hfn rfl (by simp only [slS,dSl,slC,w1,enb,vcd,↓vcp,seval]) (by simp only [rowA,rowV,enb,vcd,↓vcp,seval]))))
     ·by_cases hpu:pushC (popP (addP P s.sf s.yr) s.st) s.st 0
      ·have ac:=(sAdd01 (addP P s.sf s.yr) s.st 0 (by omega) hpc hpu).sw 903 3
       simp only [rowA,rowV,vcd,↓vcp,seval] at ac
       clear hpc hpu
       refine TR.callv [(3,.fix [.osl 1000,.osl 1001]),(1000,rowA (addP P s.sf s.yr)),(1001,rowV (addP P s.sf s.yr))] [(3,.fix [.osl 1002,.osl 1003]),(1002,rowA (addP (addP P s.sf s.yr) s.st 0)),(1003,rowV (addP (addP P s.sf s.yr) s.st 0))] _ [1002,1003] rfl (by rw [hP];exact ac) trivial (by repeat' first|exact trivial|(intro _;assumption)|apply And.intro) (hin3 rfl rfl rfl) (by simp [keysO]) (by simp) ?_
       clear ac
       simp only [rowA,rowV,slC,w1,vcd,↓vcp,seval]
       repeat' first|refine And.intro (fun h=>?_) (fun h=>?_)|refine aO ?_|(refine tA rfl rfl rfl rfl ?_;try simp only [w1,vcd,↓vcp,seval])|refine aT ?_|fail
       exact lopK.on (k+1,addP (addP P s.sf s.yr) s.st 0,s.st) ⟨hlt,he,by simp only;omega⟩ (by simp only;omega) ((Wk.sw 1002 1000 _ hfn (by simp) (by simp)).trans ((Wk.sw 1003 1001 _ hfn (by simp) (by simp)).trans (Wk.of _ hfn rfl (by simp only [slS,dSl,slC,w1,enb,vcd,↓vcp,seval]) (by simp only [rowA,rowV,enb,vcd,↓vcp,seval]))))
      ·have ac:=(sAdd00 (addP P s.sf s.yr) s.st 0 (by omega) hpc hpu).sw 903 3
       simp only [rowA,rowV,vcd,↓vcp,seval] at ac
       clear hpc hpu
       refine TR.callv [(3,.fix [.osl 1000,.osl 1001]),(1000,rowA (addP P s.sf s.yr)),(1001,rowV (addP P s.sf s.yr))] [(3,.fix [.osl 1000,.osl 1001]),(1000,rowA (addP (addP P s.sf s.yr) s.st 0)),(1001,rowV (addP (addP P s.sf s.yr) s.st 0))] _ [] rfl (by rw [hP];exact ac) trivial (by repeat' first|exact trivial|(intro _;assumption)|apply And.intro) (hin3 rfl rfl rfl) (by simp [keysO]) (by simp) ?_
       clear ac
       simp only [rowA,rowV,slC,w1,vcd,↓vcp,seval]
       repeat' first|refine And.intro (fun h=>?_) (fun h=>?_)|refine aO ?_|(refine tA rfl rfl rfl rfl ?_;try simp only [w1,vcd,↓vcp,seval])|refine aT ?_|fail
       exact lopK.on (k+1,addP (addP P s.sf s.yr) s.st 0,s.st) ⟨hlt,he,by simp only;omega⟩ (by simp only;omega) (Wk.of _ hfn rfl (by simp only [slS,dSl,slC,w1,enb,vcd,↓vcp,seval]) (by simp only [rowA,rowV,enb,vcd,↓vcp,seval]))
  ·have hf:fullSl s e=false:=by simpa using hf
   rw [hf] at cf
   simp only [slS,dSl,slC,rowA,rowV,d0,hg,vcd,↓vcp,seval]
   repeat' first|((first|refine tp hP (by exact cf) ?_|refine tg hP (fun _=>by exact cf) ?_|refine tv hP rfl (by exact cf) ?_);try simp only [d0,hg,w1,vcd,↓vcp,seval])|refine And.intro (fun h=>?_) (fun h=>?_)|refine aO ?_|(refine tA rfl rfl rfl rfl ?_;try simp only [d0,hg,w1,vcd,↓vcp,seval])|refine aT ?_|fail
   exact TR.cpan hP (sMust1 1 (by decide)) (by repeat' first|exact trivial|(intro _;assumption)|apply And.intro) (by rw [hpk];exact VLe.refl _)
 ·rw [List.drop_eq_nil_of_le (by omega),curG] at he
  cases he
end Go.Proofs.YtanppabbmffokaaGreat
end
section
namespace Go.Proofs.YtanppabbmffokaaGreat
open Go.Bx
set_option maxRecDepth 10000
theorem dSum_le {g g':Int→Int}:∀ (n:Nat) (a:Int),(∀ d,g d≤g' d)→dSum g a n≤dSum g' a n
 |0,a,_=>Int.le_refl _
 |n+1,a,h=>by
  have h1:=h a
  have h2:=dSum_le n (a+1) h
  rw [dSum,dSum];omega
theorem sumS_le (P:List (Int×Int)) (a b:Int):(sumS P a b).1≤4000000000000000000:=by
 rw [sumS_eq]
 split
 ·split
  ·simp
  ·rename_i h
   have:=dSum_le (g:=valS P) (g':=fun d=>max (valS P d) (-(valS P d))) (b-a).toNat a (fun d=>by omega)
   simp only;omega
 ·simp
def toD (day:Int):Int:=min (max day 1) 292195
def uptoR (P:List (Int×Int)) (day:Int):Int×Int:=
 if toD day=1 then (0,0) else if (sumS P 1 (toD day)).2≠0 then (0,(sumS P 1 (toD day)).2) else ofR upE (sumS P 1 (toD day)).1 1 365
theorem ofR_err {up:Nat→Nat→Nat→Bool} {a b c:Int} (h:(ofR up a b c).2≠0):(ofR up a b c).1=0:=by
 revert h
 unfold ofR
 repeat' split
 all_goals simp
theorem uptoR_err {P:List (Int×Int)} {day:Int} (h:(uptoR P day).2≠0):(uptoR P day).1=0:=by
 unfold uptoR at h ⊢
 split at h
 ·simp at h
 ·split at h
  ·rename_i h1 h2;rw [if_neg h1,if_pos h2]
  ·rename_i h1 h2;rw [if_neg h1,if_neg h2];exact ofR_err h
theorem sUptoR (P:List (Int×Int)) (day:Int) (hl:P.length≤1000000) (h:(uptoR P day).2=0):Ctr Tryz.prog 54 [vSt P,.d (.int .i64 day)] [] (.d (.int .i64 (uptoR P day).1)) [] []:=by
 have cs:=sSumS P 1 (toD day) hl
 have ce:=sEven (sumS P 1 (toD day)).1 1 365 (by have:=sumS_le P 1 (toD day);omega) (by omega) (by omega)
 simp only [vSt,cSt,slK,List.length_map,vS] at cs
 by_cases h1:toD day=1
 ·have d0:(min (max day 1) 292195 == 1)=true:=beq_iff_eq.2 h1
  have e:uptoR P day=(0,0):=by rw [uptoR,if_pos h1]
  rw [e]
  refine ctr_pure Tryz.func54 ok54 rfl cc54 cr54 Tryz.ntmps54 (by simp) rfl rfl ?_;intro c hP hfn;simp only [kc54,vSt,cSt,slK,List.length_map,d0,vcd,↓vcp,seval]
  repeat' first|refine And.intro (fun h=>?_) (fun h=>?_)|refine aO ?_|(refine tA rfl rfl rfl rfl ?_;try simp only [d0,vcd,↓vcp,seval])|refine aT ?_|fail
  exact RetK.pure (by simp only [rs54,rsb,vcd,↓vcp,seval]) (by (simp only [rs54,rsb,enb,vcd,↓vcp,seval])<;>(first|rfl))
 ·have d0:(min (max day 1) 292195 == 1)=false:=beq_false_of_ne h1
  have n0:((0:Int) != 0)=false:=rfl
  by_cases h2:(sumS P 1 (toD day)).2=0
  ·have e:uptoR P day=ofR upE (sumS P 1 (toD day)).1 1 365:=by rw [uptoR,if_neg h1,if_neg (by simpa using h2)]
   rw [e] at h ⊢
   rw [h2] at cs
   rw [h] at ce
   simp only [toD] at cs ce ⊢
   refine ctr_pure Tryz.func54 ok54 rfl cc54 cr54 Tryz.ntmps54 (by simp) rfl rfl ?_;intro c hP hfn;simp only [kc54,vSt,cSt,slK,List.length_map,d0,vcd,↓vcp,seval]
   repeat' first|((first|refine tp hP (by first|exact cs|exact ce|exact sMust0) ?_|refine tg hP (fun _=>by first|exact cs|exact ce|exact sMust0) ?_|refine tv hP rfl (by first|exact cs|exact ce|exact sMust0) ?_);try simp only [d0,vcd,↓vcp,seval])|refine And.intro (fun h=>?_) (fun h=>?_)|refine aO ?_|(refine tA rfl rfl rfl rfl ?_;try simp only [d0,vcd,↓vcp,seval])|refine aT ?_|fail
   exact RetK.pure (by simp only [rs54,rsb,vcd,↓vcp,seval]) (by (simp only [rs54,rsb,enb,vcd,↓vcp,seval])<;>(first|exact VLe.refl _))
  ·have e:uptoR P day=(0,(sumS P 1 (toD day)).2):=by rw [uptoR,if_neg h1,if_pos h2]
   rw [e] at h
   exact absurd h h2
theorem sUptoP (P:List (Int×Int)) (day:Int) (hl:P.length≤1000000) (h:(uptoR P day).2≠0):CtrP Tryz.prog 54 [vSt P,.d (.int .i64 day)] (vErr (uptoR P day).2):=by
 have cs:=sSumS P 1 (toD day) hl
 have ce:=sEven (sumS P 1 (toD day)).1 1 365 (by have:=sumS_le P 1 (toD day);omega) (by omega) (by omega)
 simp only [vSt,cSt,slK,List.length_map,vS] at cs
 by_cases h1:toD day=1
 ·have e:uptoR P day=(0,0):=by rw [uptoR,if_pos h1]
  rw [e] at h
  exact absurd rfl h
 ·have d0:(min (max day 1) 292195 == 1)=false:=beq_false_of_ne h1
  by_cases h2:(sumS P 1 (toD day)).2=0
  ·have e:uptoR P day=ofR upE (sumS P 1 (toD day)).1 1 365:=by rw [uptoR,if_neg h1,if_neg (by simpa using h2)]
   rw [e] at h ⊢
   rw [h2] at cs
   simp only [toD] at cs ce h ⊢
   refine ctr_panics Tryz.func54 ok54 rfl cc54 Tryz.ntmps54 (by simp) rfl rfl ?_;intro c hP hfn hpk;simp only [kc54,vSt,cSt,slK,List.length_map,d0,vcd,↓vcp,seval]
   repeat' first|((first|refine tp hP (by first|exact cs|exact ce|exact sMust0) ?_|refine tg hP (fun _=>by first|exact cs|exact ce|exact sMust0) ?_|refine tv hP rfl (by first|exact cs|exact ce|exact sMust0) ?_);try simp only [d0,vcd,↓vcp,seval])|refine And.intro (fun h=>?_) (fun h=>?_)|refine aO ?_|(refine tA rfl rfl rfl rfl ?_;try simp only [d0,vcd,↓vcp,seval])|refine aT ?_|fail
   exact TR.cpan hP (sMust1 _ h) (by repeat' first|exact trivial|(intro _;assumption)|apply And.intro) (by rw [hpk];exact VLe.refl _)
  ·have e:uptoR P day=(0,(sumS P 1 (toD day)).2):=by rw [uptoR,if_neg h1,if_pos h2]
   rw [e]
   simp only [toD] at cs h2 ⊢
   refine ctr_panics Tryz.func54 ok54 rfl cc54 Tryz.ntmps54 (by simp) rfl rfl ?_;intro c hP hfn hpk;simp only [kc54,vSt,cSt,slK,List.length_map,d0,vcd,↓vcp,seval]
   repeat' first|((first|refine tp hP (by exact cs) ?_|refine tg hP (fun _=>by exact cs) ?_|refine tv hP rfl (by exact cs) ?_);try simp only [d0,vcd,↓vcp,seval])|refine And.intro (fun h=>?_) (fun h=>?_)|refine aO ?_|(refine tA rfl rfl rfl rfl ?_;try simp only [d0,vcd,↓vcp,seval])|refine aT ?_|fail
   exact TR.cpan hP (sMust1 _ h2) (by repeat' first|exact trivial|(intro _;assumption)|apply And.intro) (by rw [hpk];exact VLe.refl _)
theorem curS_len {l:List Sl} {P:List (Int×Int)} (h:curS l=some P):P.length≤10000:=by
 have:∀ (l:List Sl) (P Q:List (Int×Int)) (e:Int),curG P e l=some Q→Q.length≤P.length+2*l.length:=by
  intro l
  induction l with
  |nil=>intro P Q e h;simp only [curG,Option.some.injEq] at h;subst h;simp
  |cons s l ih =>
   intro P Q e h
   rw [curG] at h
   split at h
   ·have h1:=ih _ _ _ h
    have h2:=addP_len (addP P s.sf s.yr) s.st 0
    have h3:=addP_len P s.sf s.yr
    rw [List.length_cons];omega
   ·cases h
 have h1:=(curS_ok h).2.1
 rw [curS,if_neg (by omega)] at h
 have:=this _ _ _ _ h
 simp only [List.length_nil] at this
 omega
def uptoF (l:List Sl) (day:Int):Int×Int:=match curS l with|none=>(0,1)|some P=>uptoR P day
theorem sUptoF (l:List Sl) (day:Int) (hl:l.length≤9223372036854775807):Ctr Tryz.prog 21 [.d (slS l),.d (.int .i64 day)] [] (.tup [.d (.int .i64 (uptoF l day).1),.d (.int .i64 (uptoF l day).2)]) [] []:=by
 cases hc:curS l with
 |none =>
  have e:uptoF l day=(0,1):=by rw [uptoF,hc]
  have cp:=sCurveP l hc hl
  simp only [slS,dSl,slC] at cp
  rw [e]
  refine ctr_defer 53 [5] Tryz.func21 ok21 rfl cd21 cr21 Tryz.ntmps21 (by simp) rfl rfl ?_;intro c hP hfn;simp only [kd21,slS,dSl,slC,vcd,↓vcp,seval]
  rw [layK_nrm]
  simp only [vcd,↓vcp,seval]
  refine ⟨⟨_,_,rfl,trivial,by simp only [vcd,↓vcp,seval],rfl⟩,by simp [keysO],fun c2 hP2 hfn2 hrd2 hpk2=>?_⟩
  refine vcS.of ?_
  simp only [vcd,↓vcp,seval]
  refine TR.cpan (hP2.trans hP) cp (by repeat' first|exact trivial|(intro _;assumption)|apply And.intro) ?_
  rw [hpk2]
  refine ⟨[(5,.fix [.d (.int .i64 0)])],[(5,.fix [.d (.int .i64 1)])],by rw [hP];exact dTold1 5 0 1,fun k o hm=>mem_own? (by simp [keysO]) hm,?_,?_⟩
  ·first|(simp only [rs21,rsb,vcd,↓vcp,seval];done)|trivial
  ·simp only [rs21,rsb,enb,vcd,↓vcp,seval]
 |some P =>
  have hPl:=curS_len hc
  have cc:=sCurve l P hc
  simp only [slS,dSl,slC] at cc
  have e:uptoF l day=uptoR P day:=by rw [uptoF,hc]
  rw [e]
  by_cases h:(uptoR P day).2=0
  ·have cu:=sUptoR P day (by omega) h
   rw [h]
   refine ctr_defer 53 [5] Tryz.func21 ok21 rfl cd21 cr21 Tryz.ntmps21 (by simp) rfl rfl ?_;intro c hP hfn;simp only [kd21,slS,dSl,slC,vcd,↓vcp,seval]
   rw [layK_nrm]
   simp only [vcd,↓vcp,seval]
   refine ⟨⟨_,_,rfl,trivial,by simp only [vcd,↓vcp,seval],rfl⟩,by simp [keysO],fun c2 hP2 hfn2 hrd2 hpk2=>?_⟩
   refine vcS.of ?_
   have hP:=hP2.trans hP
   simp only [vcd,↓vcp,seval]
   repeat' first|((first|refine tp hP (by first|exact cc|exact cu) ?_|refine tg hP (fun _=>by first|exact cc|exact cu) ?_|refine tv hP rfl (by first|exact cc|exact cu) ?_);try simp only [vcd,↓vcp,seval])|refine And.intro (fun h=>?_) (fun h=>?_)|refine aO ?_|(refine tA rfl rfl rfl rfl ?_;try simp only [vcd,↓vcp,seval])|refine aT ?_|fail
   refine ⟨_,[(5,.fix [.d (.int .i64 0)])],[(5,.fix [.d (.int .i64 0)])],Wk.refl _ _,by rw [hP];exact dTold0 5 0,fun k o hm=>mem_own? (by simp [keysO]) hm,?_,?_⟩
   ·first|(simp only [rs21,rsb,vcd,↓vcp,seval];done)|trivial
   ·simp only [rs21,rsb,enb,vcd,↓vcp,seval]
  ·have cu:=sUptoP P day (by omega) h
   have e0:=uptoR_err h
   rw [e0]
   refine ctr_defer 53 [5] Tryz.func21 ok21 rfl cd21 cr21 Tryz.ntmps21 (by simp) rfl rfl ?_;intro c hP hfn;simp only [kd21,slS,dSl,slC,vcd,↓vcp,seval]
   rw [layK_nrm]
   simp only [vcd,↓vcp,seval]
   refine ⟨⟨_,_,rfl,trivial,by simp only [vcd,↓vcp,seval],rfl⟩,by simp [keysO],fun c2 hP2 hfn2 hrd2 hpk2=>?_⟩
   refine vcS.of ?_
   have hP:=hP2.trans hP
   simp only [vcd,↓vcp,seval]
   repeat' first|((first|refine tp hP (by exact cc) ?_|refine tg hP (fun _=>by exact cc) ?_|refine tv hP rfl (by exact cc) ?_);try simp only [vcd,↓vcp,seval])|refine And.intro (fun h=>?_) (fun h=>?_)|refine aO ?_|(refine tA rfl rfl rfl rfl ?_;try simp only [vcd,↓vcp,seval])|refine aT ?_|fail
   refine TR.cpan hP cu (by repeat' first|exact trivial|(intro _;assumption)|apply And.intro) ?_
   rw [hpk2]
   refine ⟨[(5,.fix [.d (.int .i64 0)])],[(5,.fix [.d (.int .i64 (uptoR P day).2)])],by rw [←hP2,hP];exact dTold1 5 0 _,fun k o hm=>mem_own? (by simp [keysO]) hm,?_,?_⟩
   ·first|(simp only [rs21,rsb,vcd,↓vcp,seval];done)|trivial
   ·simp only [rs21,rsb,enb,vcd,↓vcp,seval]
end Go.Proofs.YtanppabbmffokaaGreat
end
section
namespace Go.Proofs.YtanppabbmffokaaGreat
open Go.Bx
set_option maxRecDepth 10000
def curF (l:List Sl):List (Int×Int)×Int:=match curS l with|none=>([],1)|some P=>(P,0)
theorem sCurveF (l:List Sl) (hl:l.length≤9223372036854775807):Ctr Tryz.prog 26 [.d (slS l)] [] (.tup [vSt (curF l).1,.d (.int .i64 (curF l).2)]) [] []:=by
 cases hc:curS l with
 |none =>
  have e:curF l=([],1):=by rw [curF,hc]
  have cp:=sCurveP l hc hl
  simp only [slS,dSl,slC] at cp
  rw [e]
  refine ctr_defer 53 [3] Tryz.func26 ok26 rfl cd26 cr26 Tryz.ntmps26 (by simp) rfl rfl ?_;intro c hP hfn;simp only [kd26,slS,dSl,slC,vcd,↓vcp,seval]
  rw [layK_nrm]
  simp only [vcd,↓vcp,seval]
  refine ⟨⟨_,_,rfl,trivial,by simp only [vcd,↓vcp,seval],rfl⟩,by simp [keysO],fun c2 hP2 hfn2 hrd2 hpk2=>?_⟩
  refine vcS.of ?_
  simp only [vcd,↓vcp,seval]
  refine TR.cpan (hP2.trans hP) cp (by repeat' first|exact trivial|(intro _;assumption)|apply And.intro) ?_
  rw [hpk2]
  refine ⟨[(3,.fix [.d (.int .i64 0)])],[(3,.fix [.d (.int .i64 1)])],by rw [hP];exact dTold1 3 0 1,fun k o hm=>mem_own? (by simp [keysO]) (List.mem_cons_of_mem _ hm),?_,?_⟩
  ·first|(simp only [rs26,rsb,vcd,↓vcp,seval];done)|trivial
  ·simp only [rs26,rsb,enb,vcd,↓vcp,seval]
   exact VLe.tups ⟨VLe.ags ⟨VLe.nil rfl (fun h=>by cases h),VLe.nil rfl (fun h=>by cases h),trivial⟩,VLe.refl _,trivial⟩
 |some P =>
  have cc:=sCurve l P hc
  simp only [slS,dSl,slC,vSt,cSt,slK,List.length_map] at cc
  have e:curF l=(P,0):=by rw [curF,hc]
  rw [e]
  refine ctr_defer 53 [3] Tryz.func26 ok26 rfl cd26 cr26 Tryz.ntmps26 (by simp) rfl rfl ?_;intro c hP hfn;simp only [kd26,slS,dSl,slC,vcd,↓vcp,seval]
  rw [layK_nrm]
  simp only [vcd,↓vcp,seval]
  refine ⟨⟨_,_,rfl,trivial,by simp only [vcd,↓vcp,seval],rfl⟩,by simp [keysO],fun c2 hP2 hfn2 hrd2 hpk2=>?_⟩
  refine vcS.of ?_
  have hP:=hP2.trans hP
  simp only [vcd,↓vcp,seval]
  repeat' first|((first|refine tp hP (by exact cc) ?_|refine tg hP (fun _=>by exact cc) ?_|refine tv hP rfl (by exact cc) ?_);try simp only [vcd,↓vcp,seval])|refine And.intro (fun h=>?_) (fun h=>?_)|refine aO ?_|(refine tA rfl rfl rfl rfl ?_;try simp only [vcd,↓vcp,seval])|refine aT ?_|fail
  refine ⟨_,[(3,.fix [.d (.int .i64 0)])],[(3,.fix [.d (.int .i64 0)])],Wk.refl _ _,by rw [hP];exact dTold0 3 0,fun k o hm=>mem_own? (by simp [keysO]) (List.mem_cons_of_mem _ hm),?_,?_⟩
  ·first|(simp only [rs26,rsb,vcd,↓vcp,seval];done)|trivial
  ·simp only [rs26,vSt,cSt,slK,List.length_map,rsb,enb,vcd,↓vcp,seval]
theorem sWritten (l:List Sl) (hl:l.length≤9223372036854775807):Ctr Tryz.prog 25 [.d (slS l)] [] (.tup [.d (.int .i64 (uptoF l 292195).1),.d (.int .i64 (uptoF l 292195).2)]) [] []:=by
 have cu:=sUptoF l 292195 hl
 simp only [slS,dSl,slC] at cu
 refine ctr_pure Tryz.func25 ok25 rfl cc25 cr25 Tryz.ntmps25 (by simp) rfl rfl ?_;intro c hP hfn;simp only [kc25,slS,dSl,slC,vcd,↓vcp,seval]
 repeat' first|((first|refine tp hP (by exact cu) ?_|refine tg hP (fun _=>by exact cu) ?_|refine tv hP rfl (by exact cu) ?_);try simp only [vcd,↓vcp,seval])|refine And.intro (fun h=>?_) (fun h=>?_)|refine aO ?_|(refine tA rfl rfl rfl rfl ?_;try simp only [vcd,↓vcp,seval])|refine aT ?_|fail
 exact RetK.pure (by simp only [rs25,rsb,vcd,↓vcp,seval]) (by (simp only [rs25,rsb,enb,vcd,↓vcp,seval])<;>(first|exact VLe.refl _))
def betF (l:List Sl) (a b:Int):Int×Int:=
 match curS l with
 |none=>(0,1)
 |some P=>if okS a b=false then (0,1) else if (uptoR P b).2≠0 then (0,(uptoR P b).2) else if (uptoR P a).2≠0 then (0,(uptoR P a).2) else (IntKind.i64.wrap ((uptoR P b).1-(uptoR P a).1),0)
def betV (l:List Sl) (a b:Int):V:=if (betF l a b).2=0 then .d (.int .i64 (betF l a b).1) else .un
theorem pan5 {st1:St} (h1:own? st1.own 5=some (.fix [.d (.int .i64 0)])) (h2:Go.Bx.get st1.env 5=.own 5 0) (e:Int):panD Tryz.prog 53 [5] [.tmp 4,.cell 5 1 false] (.tup [.un,.d (.int .i64 e)]) (vErr e) st1:=by
 have ho:own? (applyU st1.own (callU [(5,Go.Bx.Own.fix [.d (.int .i64 0)])] [(5,.fix [.d (.int .i64 e)])])) 5=some (.fix [.d (.int .i64 e)]):=by
  simp only [callU,List.map_cons,List.map_nil,List.append_nil,applyU,own?_setO,vcd,↓vcp,seval]
 refine ⟨[(5,.fix [.d (.int .i64 0)])],[(5,.fix [.d (.int .i64 e)])],dTold1 5 0 e,fun k o hm=>?_,?_,?_⟩
 ·simp only [List.mem_cons,Prod.mk.injEq,List.not_mem_nil,or_false] at hm
  obtain ⟨rfl,rfl⟩:=hm
  exact h1
 ·simp only [ressS,resS,h2,ho]
  simp
 ·simp only [retV,ressV,resV,h2,ho]
  exact VLe.tups ⟨VLe.un _,VLe.refl _,trivial⟩
end Go.Proofs.YtanppabbmffokaaGreat
end
section
namespace Go.Proofs.YtanppabbmffokaaGreat
open Go.Bx
set_option maxRecDepth 10000
def rowH (l:List Ch):Go.Bx.Own:=.row 36 9 l.length (fun i=>dCh (l.getD i default))
theorem sGrowH (n:Nat) (hn:n≤1000000000000):Ctr Tryz.prog 135 [.d (.sl true 0 0 fun _=>[]),.d (.int .i64 (n:Int))] [] (.osl 903) [(903,rowH [])] [903]:=by
 refine ctr_own Tryz.func135 ok135 rfl cc135 cr135 Tryz.ntmps135 (by simp) rfl ?_
 intro c hP hfn
 have e1:IntKind.i64.wrap ((0:Int)-0)=0:=wI (by omega)
 have e0:IntKind.i64.wrap 0=0:=wI (by omega)
 have e2:IntKind.i64.wrap ((n:Int)-0)=(n:Int):=(wI (by omega)).trans (by omega)
 simp only [kc135,namesL,V.names,ownNames,e0,e1,e2,vcd,↓vcp,seval]
 repeat' first|refine And.intro (fun h=>?_) (fun h=>?_)|refine aO ?_|(refine tA rfl rfl rfl rfl ?_;try simp only [e0,e1,e2,vcd,↓vcp,seval])|refine aT ?_|fail
 ·exfalso;have:=of_decide_eq_true h;omega
 ·exact RetK.mk _ (Wk.shr 22 903 0 rfl (Nat.zero_le _) (by simp)) (by simp only [rs135,rsb,vcd,↓vcp,seval]) (by simp only [rs135,rsb,enb,vcd,↓vcp,seval]) (by simp only [rowH,enb,vcd,↓vcp,seval];exact OLe.row rfl (fun i hi=>absurd hi (Nat.not_lt_zero i)))
 ·exact RetK.mk _ (Wk.row0 (s:=4) (k:=903) (e:=36) (sz:=9) (f':=fun i=>dCh (([]:List Ch).getD i default)) rfl rfl (by simp)) (by simp only [rs135,rsb,vcd,↓vcp,seval]) (by simp only [rs135,rsb,enb,vcd,↓vcp,seval]) (by simp only [rowH,enb,vcd,↓vcp,seval])
def gH (G:List (List Ch)) (bs:Nat→Bool) (g:Nat→Nat→List D):D:=.sl true 1 G.length (fun i=>[.sl (bs i) 9 (G.getD i []).length (g i)])
theorem flatH_take {G:List (List Ch)} {k:Nat} {g:List Ch} (h:G[k]?=some g):(G.take (k+1)).flatten=(G.take k).flatten++g:=by
 rw [List.take_add_one,h];simp
theorem flatH_le (G:List (List Ch)) (k:Nat):(G.take k).flatten.length≤G.flatten.length:=by
 conv=>rhs;rw [←List.take_append_drop k G,List.flatten_append,List.length_append]
 omega
set_option maxHeartbeats 2000000 in
theorem sConcatH (G:List (List Ch)) (bs:Nat→Bool) (g:Nat→Nat→List D) (hg':∀ i j,i<G.length→j<(G.getD i []).length→g i j=dCh ((G.getD i []).getD j default)) (hG:G.length≤1000000) (hF:G.flatten.length≤1000000000) :
  Ctr Tryz.prog 87 [.d (gH G bs g)] [] (.d (slH G.flatten)) [] []:=by
 refine ctr_pure Tryz.func87 ok87 rfl cc87 cr87 Tryz.ntmps87 (by simp) rfl rfl ?_;intro c hP hfn;simp only [kc87,gH,vcd,↓vcp,seval]
 refine vcC.loop (X:=Nat) (fun k=>⟨[(0,.d (gH G bs g)),(3,.d (.int .i64 (G.take k).flatten.length)),(9,.d (gH G bs g)),(10,.d (.int .i64 G.length)),(11,.d (.int .i64 k))],[],[]⟩)
  (fun k=>k≤G.length) (fun k=>G.length-k) 0 (Nat.zero_le _) (Wk.of _ hfn rfl (by simp only [gH,List.take_zero,List.flatten_nil,enb,vcd,↓vcp,seval]) (by simp only [enb,vcd,↓vcp,seval])) ?_
 rintro k hk
 have hle:=flatH_le G k
 by_cases hlt:k<G.length
 ·obtain ⟨q,hd,hq,hgm,hat⟩:=drop_at hlt
  have hq:=hq []
  have d0:decide ((k:Int)<(G.length:Int))=true:=decide_eq_true (by omega)
  have w1:IntKind.i64.wrap ((k:Int)+1)=((k+1:Nat):Int):=wS (by omega)
  have hfl:=flatH_take hat
  have hle2:=flatH_le G (k+1)
  have hlen:((G.take (k+1)).flatten.length:Int)=(G.take k).flatten.length+q.length:=by rw [hfl,List.length_append];omega
  have ew:IntKind.i64.wrap (((G.take k).flatten.length:Int)+(q.length:Int))=((G.take (k+1)).flatten.length:Int):=by rw [hlen];exact wI (by omega)
  have d1:decide (((G.take (k+1)).flatten.length:Int)<0)=false:=decide_eq_false (by omega)
  simp only [gH,d0,hq,ew,d1,vcd,↓vcp,seval]
  repeat' first|refine And.intro (fun h=>?_) (fun h=>?_)|refine aO ?_|(refine tA rfl rfl rfl rfl ?_;try simp only [hq,ew,w1,d1,vcd,↓vcp,seval])|refine aT ?_|fail
  exact lopK.on (k+1) hlt (by omega) (Wk.of _ hfn rfl (by simp only [gH,w1,enb,vcd,↓vcp,seval]) (by simp only [enb,vcd,↓vcp,seval]))
 ·have d0:decide ((k:Int)<(G.length:Int))=false:=decide_eq_false (by omega)
  obtain rfl:k=G.length:=by omega
  have cg:=sGrowH G.flatten.length (by omega)
  simp only [rowH,vcd,↓vcp,seval] at cg
  simp only [gH,d0,List.take_length,vcd,↓vcp,seval]
  repeat' first|refine And.intro (fun h=>?_) (fun h=>?_)|refine aO ?_|(refine tA rfl rfl rfl rfl ?_;try simp only [d0,vcd,↓vcp,seval])|refine aT ?_|fail
  refine TR.call [] [(903,rowH [])] _ [903] (by rw [hP];exact cg) (by repeat' first|exact trivial|(intro _;assumption)|apply And.intro) (by simp) (by simp [keysO]) (by simp) ?_
  simp only [rowH,vcd,↓vcp,seval]
  repeat' first|refine And.intro (fun h=>?_) (fun h=>?_)|refine aO ?_|(refine tA rfl rfl rfl rfl ?_;try simp only [vcd,↓vcp,seval])|refine aT ?_|fail
  refine vcC.loop (X:=Nat) (fun k=>⟨[(6,.osl 903),(25,.d (gH G bs g)),(26,.d (.int .i64 G.length)),(27,.d (.int .i64 k))],[(903,rowH (G.take k).flatten)],[903]⟩)
   (fun k=>k≤G.length) (fun k=>G.length-k) 0 (Nat.zero_le _) (Wk.of _ hfn rfl (by simp only [gH,enb,vcd,↓vcp,seval]) (by simp only [rowH,List.take_zero,List.flatten_nil,enb,vcd,↓vcp,seval])) ?_
  rintro k hk
  have hle:=flatH_le G k
  by_cases hlt:k<G.length
  ·obtain ⟨q,hd,hq,hgm,hat⟩:=drop_at hlt
   have hq:=hq []
   have hgq:∀ j,j<q.length→g k j=dCh (q.getD j default):=fun j hj=>by have:=hg' k j hlt (by rw [hq];exact hj);rw [hq] at this;exact this
   have d1:decide ((k:Int)<(G.length:Int))=true:=decide_eq_true (by omega)
   have w1:IntKind.i64.wrap ((k:Int)+1)=((k+1:Nat):Int):=wS (by omega)
   have hfl:=flatH_take hat
   have hle2:=flatH_le G (k+1)
   have hlen:(G.take (k+1)).flatten.length=(G.take k).flatten.length+q.length:=by rw [hfl,List.length_append]
   have hroom:((G.take k).flatten.length+q.length)*88≤140737488355328∧(G.take k).flatten.length+q.length≤maxLen:=⟨by omega,by simp only [maxLen];omega⟩
   simp only [gH,rowH,d1,hq,vcd,↓vcp,seval]
   repeat' first|refine And.intro (fun h=>?_) (fun h=>?_)|refine aO ?_|(refine tA rfl rfl rfl rfl ?_;try simp only [hq,w1,vcd,↓vcp,seval])|refine aT ?_|fail
   exact lopK.on (k+1) hlt (by omega) ((Wk.sw 33 903 _ hfn (by simp) (by simp)).trans (Wk.of _ hfn rfl (by simp only [gH,w1,enb,vcd,↓vcp,seval]) (by simp only [rowH,hfl,enb,vcd,↓vcp,seval];exact OLe.appL dCh rfl (fun i hi=>by rw [if_pos hi]) (fun i hi=>by rw [if_neg (by omega),Nat.add_sub_cancel_left];exact hgq i hi))))
  ·have d1:decide ((k:Int)<(G.length:Int))=false:=decide_eq_false (by omega)
   obtain rfl:k=G.length:=by omega
   simp only [gH,rowH,d1,List.take_length,vcd,↓vcp,seval]
   repeat' first|refine And.intro (fun h=>?_) (fun h=>?_)|refine aO ?_|(refine tA rfl rfl rfl rfl ?_;try simp only [d1,vcd,↓vcp,seval])|refine aT ?_|fail
   refine RetK.mk _ (Wk.pub 903 rfl) (by simp only [rs87,rsb,vcd,↓vcp,seval]) ?_ trivial
   simp only [rs87,rsb,vcd,↓vcp,seval,slH,enb,vcd,↓vcp,seval]
end Go.Proofs.YtanppabbmffokaaGreat
end
section
namespace Go.Proofs.YtanppabbmffokaaGreat
open Go.Bx
set_option maxRecDepth 10000
def betR (l:List Sl) (a b:Int):V:=.tup [betV l a b,.d (.int .i64 (betF l a b).2)]
theorem own_vac {E0:Nat→Prop} {β:Names} {w:World} {own:List (Nat×Go.Bx.Own)} {k:Nat} (h:OwnsOk E0 β w own) (hk:own? own k=some (.fix [vNo])):False:=by
 obtain ⟨b,arr,e,_,_,hsz,hv⟩:=h.ok k _ (own?_mem hk)
 have h0:0<arr.size:=by rw [hsz];simp
 exact vNo_no (hv 0 arr[0] vNo (Array.getElem?_eq_getElem h0) rfl)
theorem TRQ.panU {c:Ctx} {K0:Kont} {IS:List I} {s0:St} {d:Option Nat} {f:Nat} {xs:List X} {is:List I} {K:List Lg→St→Prop} {st:St} {acc:List Lg} {P:Program} (hP:c.P=P) {x:V} (k:Nat) (hS:CtrP P f (evVs st xs) x) (hs:evSs true st xs)
  (hk:∀ st1:St,(∀ j,j∈[k]→own? st1.own j=own? st.own j)→(∀ k,(∀ ii,ii∈IS→ii.dst≠some k)→get st1.env k=get s0.env k)→c.pk x st1)
  (h:TRQ c (PostX c K0) IS s0 is (st.stp d { val:=vNo,upd:=[(k,some (.fix [vNo]))],rd:=[k],new:=[] }) (acc++[⟨[k],[k]⟩]) K):TRQ c (PostX c K0) IS s0 (⟨d,none,.call f xs⟩::is) st acc K:=by
 refine TRQ.cons { val:=vNo,upd:=[(k,some (.fix [vNo]))],rd:=[k],new:=[] } (fun st1 h1 h2 _ h4 ops o hc β a w H K hK=>?_) (fun k hk=>by simp at hk) h
 have hsl:∀ k,k∈xsSlots xs→get st1.env k=get st.env k:=fun k hk=>h1 k (gslots_call k hk)
 have hS':CtrP c.P f (evVs st1 xs) x:=by rw [evVs_congr hsl,hP];exact hS
 have hs':evSs true st1 xs:=by rw [evSs_congr hsl];exact hs
 obtain ⟨q1,q2⟩:=panics_call (d:=d) hS' hs' ops o hc β a w H (PostX c K0) K (fun β' a' w' v H' hv=>.inr ⟨_,rfl,β',st1,v,x,rfl,hk st1 h2 h4,H',hv⟩)
 rw [if_pos q1]
 exact q2
theorem TRQ.vacO {c:Ctx} {Q:Exit→Act→World→Prop} {IS:List I} {s0:St} {i:I} {is:List I} {K:List Lg→St→Prop} {st:St} {acc:List Lg} (k:Nat) (hg:own? st.own k=some (.fix [vNo])) (h:TRQ c Q IS s0 is (st.stp i.dst { val:=vNo,upd:=[],rd:=[k],new:=[] }) (acc++[⟨[k],[]⟩]) K):TRQ c Q IS s0 (i::is) st acc K:=by
 refine TRQ.cons { val:=vNo,upd:=[],rd:=[k],new:=[] } (fun st1 _ h2 _ _ ops o hc β a w H K hK=>?_) (fun k hk=>by simp at hk) h
 exact (own_vac H.own (by rw [h2 k (by simp),hg])).elim
def betS (P:List (Int×Int)) (a b:Int):St:=⟨[(3,.own 3 0),(5,.own 5 0),(6,.own 6 0)],[(3,.fix [.d (.int .i64 a),.d (.int .i64 b)]),(5,.fix [.d (.int .i64 0)]),(6,.fix (cSt P))],[3,5,6]⟩
set_option maxHeartbeats 2000000 in
theorem sBet (l:List Sl) (a b:Int) (hl:l.length≤9223372036854775807):Ctr Tryz.prog 29 [.d (slS l),vS a b] [] (betR l a b) [] []:=by
 cases hc:curS l with
 |none =>
  have e:betF l a b=(0,1):=by rw [betF,hc]
  have cp:=sCurveP l hc hl
  simp only [slS,dSl,slC] at cp
  rw [betR,betV,e]
  refine ctr_defer 53 [5] Tryz.func29 ok29 rfl cd29 cr29 Tryz.ntmps29 (by simp) rfl rfl ?_;intro c hP hfn;simp only [kd29,slS,dSl,slC,vS,vcd,↓vcp,seval]
  rw [layK_nrm]
  simp only [vcd,↓vcp,seval]
  refine ⟨⟨_,_,rfl,trivial,by simp only [vcd,↓vcp,seval],rfl⟩,by simp [keysO],fun c2 hP2 hfn2 hrd2 hpk2=>?_⟩
  refine vcS.of ?_
  simp only [vcd,↓vcp,seval]
  refine TR.cpan (hP2.trans hP) cp (by repeat' first|exact trivial|(intro _;assumption)|apply And.intro) ?_
  rw [hpk2]
  refine ⟨[(5,.fix [.d (.int .i64 0)])],[(5,.fix [.d (.int .i64 1)])],by rw [hP];exact dTold1 5 0 1,fun k o hm=>mem_own? (by simp [keysO]) (List.mem_cons_of_mem _ hm),?_,?_⟩
  ·first|(simp only [rs29,rsb,vcd,↓vcp,seval];done)|trivial
  ·simp only [rs29,rsb,enb,vcd,↓vcp,seval]
   exact VLe.tups ⟨VLe.un _,VLe.refl _,trivial⟩
 |some P =>
  have hPl:=curS_len hc
  have cc:=sCurve l P hc
  have cr:=sSpanRight a b
  simp only [slS,dSl,slC,vSt,cSt,slK,List.length_map] at cc
  simp only [vS] at cr
  cases ho:okS a b with
  |false =>
   have e:betF l a b=(0,1):=by rw [betF,hc];simp only [ho,if_true]
   rw [ho] at cr
   rw [betR,betV,e]
   refine ctr_defer 53 [5] Tryz.func29 ok29 rfl cd29 cr29 Tryz.ntmps29 (by simp) rfl rfl ?_;intro c hP hfn;simp only [kd29,slS,dSl,slC,vS,vcd,↓vcp,seval]
   rw [layK_nrm]
   simp only [vcd,↓vcp,seval]
   refine ⟨⟨_,_,rfl,trivial,by simp only [vcd,↓vcp,seval],rfl⟩,by simp [keysO],fun c2 hP2 hfn2 hrd2 hpk2=>?_⟩
   refine vcS.of ?_
   have hP:=hP2.trans hP
   simp only [vcd,↓vcp,seval]
   repeat' first|((first|refine tp hP (by first|exact cc|exact cr) ?_|refine tg hP (fun _=>by first|exact cc|exact cr) ?_|refine tv hP rfl (by first|exact cc|exact cr) ?_);try simp only [vcd,↓vcp,seval])|refine And.intro (fun h=>?_) (fun h=>?_)|refine aO ?_|(refine tA rfl rfl rfl rfl ?_;try simp only [vcd,↓vcp,seval])|refine aT ?_|fail
   refine TR.cpan hP (sMust1 1 (by decide)) (by repeat' first|exact trivial|(intro _;assumption)|apply And.intro) ?_
   rw [hpk2]
   refine ⟨[(5,.fix [.d (.int .i64 0)])],[(5,.fix [.d (.int .i64 1)])],by rw [←hP2,hP];exact dTold1 5 0 1,fun k o hm=>mem_own? (by simp [keysO]) (by simp only [List.mem_cons,List.not_mem_nil,or_false] at hm;simp [hm]),?_,?_⟩
   ·first|(simp only [rs29,rsb,vcd,↓vcp,seval];done)|trivial
   ·simp only [rs29,rsb,enb,vcd,↓vcp,seval]
    exact VLe.tups ⟨VLe.un _,VLe.refl _,trivial⟩
  |true =>
   rw [ho] at cr
   have e:betF l a b=if (uptoR P b).2≠0 then (0,(uptoR P b).2) else if (uptoR P a).2≠0 then (0,(uptoR P a).2) else (IntKind.i64.wrap ((uptoR P b).1-(uptoR P a).1),0):=by rw [betF,hc];simp only [ho,if_neg (show ¬ (true=false) by simp)]
   by_cases h1:(uptoR P b).2=0
   ·by_cases h2:(uptoR P a).2=0
    ·have e1:betF l a b=(IntKind.i64.wrap ((uptoR P b).1-(uptoR P a).1),0):=by rw [e,if_neg (by simpa using h1),if_neg (by simpa using h2)]
     have u1:=sUptoR P b (by omega) h1
     have u2:=sUptoR P a (by omega) h2
     simp only [vSt,cSt,slK,List.length_map] at u1 u2
     rw [betR,betV,e1]
     refine ctr_defer 53 [5] Tryz.func29 ok29 rfl cd29 cr29 Tryz.ntmps29 (by simp) rfl rfl ?_;intro c hP hfn;simp only [kd29,slS,dSl,slC,vS,vcd,↓vcp,seval]
     rw [layK_nrm]
     simp only [vcd,↓vcp,seval]
     refine ⟨⟨_,_,rfl,trivial,by simp only [vcd,↓vcp,seval],rfl⟩,by simp [keysO],fun c2 hP2 hfn2 hrd2 hpk2=>?_⟩
     refine vcS.of ?_
     have hP:=hP2.trans hP
     simp only [vcd,↓vcp,seval]
     repeat' first|((first|refine tp hP (by first|exact cc|exact cr|exact u1|exact u2) ?_|refine tg hP (fun _=>by first|exact cc|exact cr|exact u1|exact u2) ?_|refine tv hP rfl (by first|exact cc|exact cr|exact u1|exact u2) ?_);try simp only [vcd,↓vcp,seval])|refine And.intro (fun h=>?_) (fun h=>?_)|refine aO ?_|(refine tA rfl rfl rfl rfl ?_;try simp only [vcd,↓vcp,seval])|refine aT ?_|fail
     refine ⟨_,[(5,.fix [.d (.int .i64 0)])],[(5,.fix [.d (.int .i64 0)])],Wk.refl _ _,by rw [hP];exact dTold0 5 0,fun k o hm=>mem_own? (by simp [keysO]) (by simp only [List.mem_cons,List.not_mem_nil,or_false] at hm;simp [hm]),?_,?_⟩
     ·first|(simp only [rs29,rsb,vcd,↓vcp,seval];done)|trivial
     ·simp only [rs29,rsb,enb,vcd,↓vcp,seval]
    ·have e1:betF l a b=(0,(uptoR P a).2):=by rw [e,if_neg (by simpa using h1),if_pos h2]
     have u1:=sUptoR P b (by omega) h1
     have u2:=sUptoP P a (by omega) h2
     simp only [vSt,cSt,slK,List.length_map] at u1 u2
     rw [betR,betV,e1,if_neg h2]
     refine ctr_defer 53 [5] Tryz.func29 ok29 rfl cd29 cr29 Tryz.ntmps29 (by simp) rfl rfl ?_;intro c hP hfn;simp only [kd29,slS,dSl,slC,vS,vcd,↓vcp,seval]
     rw [layK_nrm]
     simp only [vcd,↓vcp,seval]
     refine ⟨⟨_,_,rfl,trivial,by simp only [vcd,↓vcp,seval],rfl⟩,by simp [keysO],fun c2 hP2 hfn2 hrd2 hpk2=>?_⟩
     have hP0:=hP
     have hP:=hP2.trans hP
     refine vcS.seq (K1:=fun e st'=>e=.nrm∧Wk c2 st' (betS P a b)) (vcS.of ?_) (fun st' h=>⟨betS P a b,h.2,?_⟩) (fun i st' h=>by cases h.1) (fun st' h=>by cases h.1)
     ·simp only [vcd,↓vcp,seval]
      repeat' first|((first|refine tp hP (by exact cc) ?_|refine tg hP (fun _=>by exact cc) ?_|refine tv hP rfl (by exact cc) ?_);try simp only [vcd,↓vcp,seval])|refine And.intro (fun h=>?_) (fun h=>?_)|refine aO ?_|(refine tA rfl rfl rfl rfl ?_;try simp only [vcd,↓vcp,seval])|refine aT ?_|fail
      exact Wk.of _ hfn2 rfl (by simp only [betS,enb,vcd,↓vcp,seval]) (by simp only [betS,cSt,slK,List.length_map,enb,vcd,↓vcp,seval])
     refine vcS.seq (K1:=fun e st'=>e=.nrm∧Wk c2 st' (betS P a b)) (vcS.of ?_) (fun st' h=>⟨betS P a b,h.2,?_⟩) (fun i st' h=>by cases h.1) (fun st' h=>by cases h.1)
     ·simp only [betS,cSt,vcd,↓vcp,seval]
      repeat' first|((first|refine tp hP (by exact cr) ?_|refine tg hP (fun _=>by exact cr) ?_|refine tv hP rfl (by exact cr) ?_);try simp only [vcd,↓vcp,seval])|refine And.intro (fun h=>?_) (fun h=>?_)|refine aO ?_|(refine tA rfl rfl rfl rfl ?_;try simp only [vcd,↓vcp,seval])|refine aT ?_|fail
      exact Wk.of _ hfn2 rfl (by simp only [betS,enb,vcd,↓vcp,seval]) (by simp only [betS,cSt,enb,vcd,↓vcp,seval])
     refine vcS.seq (K1:=fun _ _=>False) (vcS.drw ?_) (fun st' h=>h.elim) (fun i st' h=>h.elim) (fun st' h=>h.elim)
     refine TRQ.app (pre:=[_,_,_,_,_,_,_]) ?_
     refine vcR_ok ?_
     simp only [betS,cSt,slK,List.length_map,vcd,↓vcp,seval]
     repeat' first|((first|refine tp hP (by exact u1) ?_|refine tg hP (fun _=>by exact u1) ?_|refine tv hP rfl (by exact u1) ?_);try simp only [vcd,↓vcp,seval])|refine And.intro (fun h=>?_) (fun h=>?_)|refine aO ?_|(refine tA rfl rfl rfl rfl ?_;try simp only [vcd,↓vcp,seval])|refine aT ?_|fail
     refine TRQ.panU hP 5 u2 (by simp only [vcd,↓vcp,seval]) (fun st1 h1 h2=>by rw [hpk2,hP0];exact pan5 (h1 5 (by simp)) (h2 5 (by simp)) _) ?_
     refine TRQ.vacO 5 (by simp only [St.stp,applyU,vcd,↓vcp,seval]) ?_
     refine TRQ.vacO 5 (by simp only [St.stp,applyU,vcd,↓vcp,seval]) ?_
     refine TRQ.vacO 5 (by simp only [St.stp,applyU,vcd,↓vcp,seval]) ?_
     refine ⟨[],_,.nil _,?_,?_⟩
     ·rfl
     ·intro β a w H
      exact own_vac (k:=5) H.own (by simp only [St.stp,applyU,vcd,↓vcp,seval])
   ·have e1:betF l a b=(0,(uptoR P b).2):=by rw [e,if_pos h1]
    have u1:=sUptoP P b (by omega) h1
    simp only [vSt,cSt,slK,List.length_map] at u1
    rw [betR,betV,e1,if_neg h1]
    refine ctr_defer 53 [5] Tryz.func29 ok29 rfl cd29 cr29 Tryz.ntmps29 (by simp) rfl rfl ?_;intro c hP hfn;simp only [kd29,slS,dSl,slC,vS,vcd,↓vcp,seval]
    rw [layK_nrm]
    simp only [vcd,↓vcp,seval]
    refine ⟨⟨_,_,rfl,trivial,by simp only [vcd,↓vcp,seval],rfl⟩,by simp [keysO],fun c2 hP2 hfn2 hrd2 hpk2=>?_⟩
    have hP0:=hP
    have hP:=hP2.trans hP
    refine vcS.seq (K1:=fun e st'=>e=.nrm∧Wk c2 st' (betS P a b)) (vcS.of ?_) (fun st' h=>⟨betS P a b,h.2,?_⟩) (fun i st' h=>by cases h.1) (fun st' h=>by cases h.1)
    ·simp only [vcd,↓vcp,seval]
     repeat' first|((first|refine tp hP (by exact cc) ?_|refine tg hP (fun _=>by exact cc) ?_|refine tv hP rfl (by exact cc) ?_);try simp only [vcd,↓vcp,seval])|refine And.intro (fun h=>?_) (fun h=>?_)|refine aO ?_|(refine tA rfl rfl rfl rfl ?_;try simp only [vcd,↓vcp,seval])|refine aT ?_|fail
     exact Wk.of _ hfn2 rfl (by simp only [betS,enb,vcd,↓vcp,seval]) (by simp only [betS,cSt,slK,List.length_map,enb,vcd,↓vcp,seval])
    refine vcS.seq (K1:=fun e st'=>e=.nrm∧Wk c2 st' (betS P a b)) (vcS.of ?_) (fun st' h=>⟨betS P a b,h.2,?_⟩) (fun i st' h=>by cases h.1) (fun st' h=>by cases h.1)
    ·simp only [betS,cSt,vcd,↓vcp,seval]
     repeat' first|((first|refine tp hP (by exact cr) ?_|refine tg hP (fun _=>by exact cr) ?_|refine tv hP rfl (by exact cr) ?_);try simp only [vcd,↓vcp,seval])|refine And.intro (fun h=>?_) (fun h=>?_)|refine aO ?_|(refine tA rfl rfl rfl rfl ?_;try simp only [vcd,↓vcp,seval])|refine aT ?_|fail
     exact Wk.of _ hfn2 rfl (by simp only [betS,enb,vcd,↓vcp,seval]) (by simp only [betS,cSt,enb,vcd,↓vcp,seval])
    refine vcS.seq (K1:=fun _ _=>False) (vcS.drw ?_) (fun st' h=>h.elim) (fun i st' h=>h.elim) (fun st' h=>h.elim)
    refine TRQ.app (pre:=[_,_,_]) ?_
    refine vcR_ok ?_
    simp only [betS,cSt,slK,List.length_map,vcd,↓vcp,seval]
    refine TRQ.panU hP 5 u1 (by simp only [vcd,↓vcp,seval]) (fun st1 h1 h2=>by rw [hpk2,hP0];exact pan5 (h1 5 (by simp)) (h2 5 (by simp)) _) ?_
    refine TRQ.app (pre:=[_,_,_]) ?_
    refine vcR_ok ?_
    simp only [vcd,↓vcp,seval]
    refine TRQ.vacO 5 (by simp only [vcd,↓vcp,seval]) ?_
    refine TRQ.vacO 5 (by simp only [St.stp,applyU,vcd,↓vcp,seval]) ?_
    refine TRQ.vacO 5 (by simp only [St.stp,applyU,vcd,↓vcp,seval]) ?_
    refine TRQ.vacO 5 (by simp only [St.stp,applyU,vcd,↓vcp,seval]) ?_
    refine ⟨[],_,.nil _,?_,?_⟩
    ·rfl
    ·intro β a w H
     exact own_vac (k:=5) H.own (by simp only [St.stp,applyU,vcd,↓vcp,seval])
end Go.Proofs.YtanppabbmffokaaGreat
end
section
namespace Go.Proofs.YtanppabbmffokaaGreat
open Go.Bx
set_option maxRecDepth 10000
def withOut (h:Hi) (x:Int):Hi:={ h with ch:=h.ch.take x.toNat++h.ch.drop (x.toNat+1) }
def keptC (h:Hi) (t:List Vs) (x:Int):Int×Int:=
 if (ofS (withOut h x) t).2≠0 then (0,(ofS (withOut h x) t).2) else
 if (betF (ofS (withOut h x) t).1 (h.ch.getD x.toNat default).dy h.tm.st).2≠0 then (0,(betF (ofS (withOut h x) t).1 (h.ch.getD x.toNat default).dy h.tm.st).2) else
  bpR (betF (ofS (withOut h x) t).1 (h.ch.getD x.toNat default).dy h.tm.st).1 1000
def keptF (h:Hi) (t:List Vs):Int×Int:=
 if (ofS h t).2≠0 then (0,(ofS h t).2) else
  match turnS h with
  |none=>(0,0)
  |some x=>if (h.ch.getD x.toNat default).kd≠3∨(h.ch.getD x.toNat default).wy≠1 then (0,0) else keptC h t x
theorem turnS_ok {h:Hi} {x:Int} (e:turnS h=some x):okH h.ch x:=orderC_ok h.ch x (turnL_mem e).1
theorem withOut_sz {h:Hi} (z:SzC h) (x:Int):SzC (withOut h x):=by
 refine ⟨z.t,?_,fun c hc=>?_⟩
 ·have:=z.n
  simp only [withOut,List.length_append,List.length_take,List.length_drop];omega
 ·simp only [withOut,List.mem_append] at hc
  rcases hc with hc|hc
  ·exact z.c c (List.mem_of_mem_take hc)
  ·exact z.c c (List.mem_of_mem_drop hc)
theorem wrap_le (x:Int):IntKind.i64.wrap x≤9223372036854775807:=by
 have h:IntKind.i64.wrap x=if x % 18446744073709551616≥9223372036854775808 then x % 18446744073709551616-18446744073709551616 else x % 18446744073709551616:=by
  simp [IntKind.wrap,IntKind.signed,IntKind.bits]
 rw [h];split<;>omega
theorem betF_le (l:List Sl) (a b:Int):(betF l a b).1≤9223372036854775807:=by
 unfold betF
 repeat' split
 all_goals first|exact wrap_le _|simp
theorem sOut (h:Hi) (x:Int) (hx:0≤x∧x<(h.ch.length:Int)) (hn:h.ch.length≤1000000) :
  Ctr Tryz.prog 87 [.d (.sl true 1 2 (litRow 1 [.sl false 9 x.toNat (fun i=>dCh (h.ch.getD i default)),.sl false 9 (h.ch.length-(x+1).toNat) (fun i=>dCh (h.ch.getD ((x+1).toNat+i) default))]))] [] (.d (slH (withOut h x).ch)) [] []:=by
 have e1:(x+1).toNat=x.toNat+1:=by omega
 have h0:x.toNat<h.ch.length:=by omega
 have lt:(h.ch.take x.toNat).length=x.toNat:=by rw [List.length_take];omega
 have ld:(h.ch.drop (x.toNat+1)).length=h.ch.length-(x.toNat+1):=by rw [List.length_drop]
 have hc:=sConcatH [h.ch.take x.toNat,h.ch.drop (x.toNat+1)] (fun _=>false) (fun i j=>if i=0 then dCh (h.ch.getD j default) else dCh (h.ch.getD ((x+1).toNat+j) default)) ?_ (by simp) ?_
 ·have ef:[h.ch.take x.toNat,h.ch.drop (x.toNat+1)].flatten=(withOut h x).ch:=by simp [withOut]
  rw [ef] at hc
  refine hc.arg ⟨VLe.sl rfl (fun _=>rfl) (fun _=>rfl) (fun i hi=>?_),trivial⟩
  have:i=0∨i=1:=by omega
  rcases this with rfl|rfl
  ·simp [litRow,lt]
  ·simp [litRow,ld,e1]
 ·intro i j hi hj
  have:i=0∨i=1:=by simp at hi;omega
  rcases this with rfl|rfl
  ·simp only [List.getD_cons_zero] at hj ⊢
   rw [lt] at hj
   rw [if_pos trivial,List.getD_eq_getElem?_getD,List.getD_eq_getElem?_getD,List.getElem?_take_of_lt hj]
  ·simp only [List.getD_cons_succ,List.getD_cons_zero] at hj ⊢
   rw [if_neg (by omega),List.getD_eq_getElem?_getD,List.getD_eq_getElem?_getD,List.getElem?_drop,e1]
 ·simp;omega
set_option maxHeartbeats 2000000 in
theorem sKeptF (hh:Hi) (t:List Vs) (z:SzC hh) (ht:t.length≤1000000) (hz:∀ v,v∈t→SzV v) (hl:∀ x,(ofS (withOut hh x) t).1.length≤9223372036854775807) :
  Ctr Tryz.prog 39 [vHi hh,.ag [.d (slV t)]] [] (.tup [.d (.int .i64 (keptF hh t).1),.d (.int .i64 (keptF hh t).2)]) [] []:=by
 have co:=sOfS hh t z ht hz
 have ct:=sTurn hh (by have:=z.n;omega)
 simp only [vHi,cHi,slC,slH,dCh,slV,dVs,slB,slS,dSl] at co ct
 by_cases h0:(ofS hh t).2=0
 ·have n0:((0:Int) != 0)=false:=rfl
  rw [h0] at co
  cases hx:turnS hh with
  |none =>
   have e:keptF hh t=(0,0):=by rw [keptF,if_neg (by simpa using h0),hx]
   rw [hx] at ct
   simp only [turnV,Option.getD_none,Option.isSome_none] at ct
   rw [e]
   refine ctr_pure Tryz.func39 ok39 rfl cc39 cr39 Tryz.ntmps39 (by simp) rfl rfl ?_;intro c hP hfn;simp only [kc39,vHi,cHi,slC,slH,dCh,slV,dVs,slB,vcd,↓vcp,seval]
   repeat' first|((first|refine tp hP (by first|exact co|exact ct) ?_|refine tg hP (fun _=>by first|exact co|exact ct) ?_|refine tv hP rfl (by first|exact co|exact ct) ?_);try simp only [n0,vcd,↓vcp,seval])|refine And.intro (fun h=>?_) (fun h=>?_)|refine aO ?_|(refine tA rfl rfl rfl rfl ?_;try simp only [n0,vcd,↓vcp,seval])|refine aT ?_|fail
   exact RetK.pure (by simp only [rs39,rsb,vcd,↓vcp,seval]) (by (simp only [rs39,rsb,enb,vcd,↓vcp,seval])<;>(first|exact VLe.refl _))
  |some x =>
   obtain ⟨hx0,hx1⟩:=turnS_ok hx
   have hn:=z.n
   rw [hx] at ct
   simp only [turnV,Option.getD_some,Option.isSome_some] at ct
   have b1:(0:Int)≤x∧x<(hh.ch.length:Int):=by omega
   by_cases hk:(hh.ch.getD x.toNat default).kd≠3∨(hh.ch.getD x.toNat default).wy≠1
   ·have e:keptF hh t=(0,0):=by rw [keptF,if_neg (by simpa using h0),hx];simp only [if_pos hk]
    rw [e]
    by_cases hk3:(hh.ch.getD x.toNat default).kd=3
    ·have d3:((hh.ch.getD x.toNat default).kd != 3)=false:=by rw [bne_eq_false_iff_eq];exact hk3
     have d1:((hh.ch.getD x.toNat default).wy != 1)=true:=by rw [bne_iff_ne];rcases hk with h|h;exact absurd hk3 h;exact h
     refine ctr_pure Tryz.func39 ok39 rfl cc39 cr39 Tryz.ntmps39 (by simp) rfl rfl ?_;intro c hP hfn;simp only [kc39,vHi,cHi,slC,slH,dCh,slV,dVs,slB,vcd,↓vcp,seval]
     repeat' first|((first|refine tp hP (by first|exact co|exact ct) ?_|refine tg hP (fun _=>by first|exact co|exact ct) ?_|refine tv hP rfl (by first|exact co|exact ct) ?_);try simp only [n0,d3,d1,vcd,↓vcp,seval])|refine And.intro (fun h=>?_) (fun h=>?_)|refine aO ?_|(refine tA rfl rfl rfl rfl ?_;try simp only [n0,d3,d1,vcd,↓vcp,seval])|refine aT ?_|fail
     exact RetK.pure (by simp only [rs39,rsb,vcd,↓vcp,seval]) (by (simp only [rs39,rsb,enb,vcd,↓vcp,seval])<;>(first|exact VLe.refl _))
    ·have d3:((hh.ch.getD x.toNat default).kd != 3)=true:=by rw [bne_iff_ne];exact hk3
     refine ctr_pure Tryz.func39 ok39 rfl cc39 cr39 Tryz.ntmps39 (by simp) rfl rfl ?_;intro c hP hfn;simp only [kc39,vHi,cHi,slC,slH,dCh,slV,dVs,slB,vcd,↓vcp,seval]
     repeat' first|((first|refine tp hP (by first|exact co|exact ct) ?_|refine tg hP (fun _=>by first|exact co|exact ct) ?_|refine tv hP rfl (by first|exact co|exact ct) ?_);try simp only [n0,d3,vcd,↓vcp,seval])|refine And.intro (fun h=>?_) (fun h=>?_)|refine aO ?_|(refine tA rfl rfl rfl rfl ?_;try simp only [n0,d3,vcd,↓vcp,seval])|refine aT ?_|fail
     exact RetK.pure (by simp only [rs39,rsb,vcd,↓vcp,seval]) (by (simp only [rs39,rsb,enb,vcd,↓vcp,seval])<;>(first|exact VLe.refl _))
   ·have e:keptF hh t=keptC hh t x:=by rw [keptF,if_neg (by simpa using h0),hx];simp only [if_neg hk]
    have hk3:(hh.ch.getD x.toNat default).kd=3:=by omega
    have hk1:(hh.ch.getD x.toNat default).wy=1:=by omega
    have d3:((hh.ch.getD x.toNat default).kd != 3)=false:=by rw [bne_eq_false_iff_eq];exact hk3
    have d1:((hh.ch.getD x.toNat default).wy != 1)=false:=by rw [bne_eq_false_iff_eq];exact hk1
    have w1:IntKind.i64.wrap (x+1)=x+1:=wI (by omega)
    rw [e]
    have cx:=sOut hh x b1 (by omega)
    have cf:=sOfS (withOut hh x) t (withOut_sz z x) ht hz
    have hl:=hl x
    rw [keptC]
    generalize hL:(ofS (withOut hh x) t).1=L at *
    generalize hE:(ofS (withOut hh x) t).2=e1 at *
    have hw:(withOut hh x).id=hh.id∧(withOut hh x).bk=hh.bk∧(withOut hh x).tm=hh.tm:=⟨rfl,rfl,rfl⟩
    generalize withOut hh x=h2 at *
    obtain ⟨w5,w6,w7⟩:=hw
    simp only [vHi,cHi,slC,slH,dCh,slV,dVs,slB,slS,dSl,w5,w6,w7] at cx cf
    by_cases h1:e1=0
    ·subst h1
     have cb:=sBet L (hh.ch.getD x.toNat default).dy hh.tm.st hl
     have hle:=betF_le L (hh.ch.getD x.toNat default).dy hh.tm.st
     rw [if_neg (by simp)]
     simp only [betR,betV] at cb
     generalize hB:betF L (hh.ch.getD x.toNat default).dy hh.tm.st=B at *
     obtain ⟨bn,be⟩:=B
     simp only at cb hle ⊢
     simp only [vHi,cHi,slC,slH,dCh,slV,dVs,slB,slS,dSl,vS] at cb
     by_cases h3:be=0
     ·subst h3
      have cp:=sBp bn 1000 hle (by omega)
      simp only [if_true] at cb
      rw [if_neg (by simp)]
      refine ctr_pure Tryz.func39 ok39 rfl cc39 cr39 Tryz.ntmps39 (by simp) rfl rfl ?_;intro c hP hfn;simp only [kc39,vHi,cHi,slC,slH,dCh,slV,dVs,slB,vcd,↓vcp,seval]
      repeat' first|((first|refine tp hP (by first|exact co|exact ct|exact cx|exact cf|exact cb|exact cp) ?_|refine tg hP (fun _=>by first|exact co|exact ct|exact cx|exact cf|exact cb|exact cp) ?_|refine tv hP rfl (by first|exact co|exact ct|exact cx|exact cf|exact cb|exact cp) ?_);try simp only [n0,d3,d1,w1,vcd,↓vcp,seval])|refine And.intro (fun h=>?_) (fun h=>?_)|refine aO ?_|(refine tA rfl rfl rfl rfl ?_;try simp only [n0,d3,d1,w1,vcd,↓vcp,seval])|refine aT ?_|fail
      exact RetK.pure (by simp only [rs39,rsb,vcd,↓vcp,seval]) (by (simp only [rs39,rsb,enb,vcd,↓vcp,seval])<;>(first|exact VLe.refl _))
     ·have n3:(be != 0)=true:=bne_iff_ne.2 h3
      simp only [if_neg h3] at cb
      rw [if_pos h3]
      refine ctr_pure Tryz.func39 ok39 rfl cc39 cr39 Tryz.ntmps39 (by simp) rfl rfl ?_;intro c hP hfn;simp only [kc39,vHi,cHi,slC,slH,dCh,slV,dVs,slB,vcd,↓vcp,seval]
      repeat' first|((first|refine tp hP (by first|exact co|exact ct|exact cx|exact cf|exact cb) ?_|refine tg hP (fun _=>by first|exact co|exact ct|exact cx|exact cf|exact cb) ?_|refine tv hP rfl (by first|exact co|exact ct|exact cx|exact cf|exact cb) ?_);try simp only [n0,d3,d1,w1,n3,vcd,↓vcp,seval])|refine And.intro (fun h=>?_) (fun h=>?_)|refine aO ?_|(refine tA rfl rfl rfl rfl ?_;try simp only [n0,d3,d1,w1,n3,vcd,↓vcp,seval])|refine aT ?_|fail
      exact RetK.pure (by simp only [rs39,rsb,vcd,↓vcp,seval]) (by (simp only [rs39,rsb,enb,vcd,↓vcp,seval])<;>(first|exact VLe.refl _))
    ·have n3:(e1 != 0)=true:=bne_iff_ne.2 h1
     rw [if_pos h1]
     refine ctr_pure Tryz.func39 ok39 rfl cc39 cr39 Tryz.ntmps39 (by simp) rfl rfl ?_;intro c hP hfn;simp only [kc39,vHi,cHi,slC,slH,dCh,slV,dVs,slB,vcd,↓vcp,seval]
     repeat' first|((first|refine tp hP (by first|exact co|exact ct|exact cx|exact cf) ?_|refine tg hP (fun _=>by first|exact co|exact ct|exact cx|exact cf) ?_|refine tv hP rfl (by first|exact co|exact ct|exact cx|exact cf) ?_);try simp only [n0,d3,d1,w1,n3,vcd,↓vcp,seval])|refine And.intro (fun h=>?_) (fun h=>?_)|refine aO ?_|(refine tA rfl rfl rfl rfl ?_;try simp only [n0,d3,d1,w1,n3,vcd,↓vcp,seval])|refine aT ?_|fail
     exact RetK.pure (by simp only [rs39,rsb,vcd,↓vcp,seval]) (by (simp only [rs39,rsb,enb,vcd,↓vcp,seval])<;>(first|exact VLe.refl _))
 ·have n1:((ofS hh t).2 != 0)=true:=bne_iff_ne.2 h0
  have e:keptF hh t=(0,(ofS hh t).2):=by rw [keptF,if_pos h0]
  rw [e]
  refine ctr_pure Tryz.func39 ok39 rfl cc39 cr39 Tryz.ntmps39 (by simp) rfl rfl ?_;intro c hP hfn;simp only [kc39,vHi,cHi,slC,slH,dCh,slV,dVs,slB,vcd,↓vcp,seval]
  repeat' first|((first|refine tp hP (by exact co) ?_|refine tg hP (fun _=>by exact co) ?_|refine tv hP rfl (by exact co) ?_);try simp only [n1,vcd,↓vcp,seval])|refine And.intro (fun h=>?_) (fun h=>?_)|refine aO ?_|(refine tA rfl rfl rfl rfl ?_;try simp only [n1,vcd,↓vcp,seval])|refine aT ?_|fail
  exact RetK.pure (by simp only [rs39,rsb,vcd,↓vcp,seval]) (by (simp only [rs39,rsb,enb,vcd,↓vcp,seval])<;>(first|exact VLe.refl _))
end Go.Proofs.YtanppabbmffokaaGreat
end
