import Derived.Test.YtanppabbmffokaaGreatXE9
import Derived.Shelf.Sort.Plain
import Derived.Shelf.Slices.In.SortNone
import Derived.Ground.Names2Prog
import Derived.Shelf.Slices.CompactI
set_option linter.unusedSimpArgs false
set_option linter.unusedVariables false
section
namespace Go.Proofs.YtanppabbmffokaaGreat
open Go.Bx
set_option maxRecDepth 10000
theorem pCloneC (l:List Cv) (hl:l.length≤1000000):Ctr Tryz.prog 37 [.d (slC l)] [] (.d (slC l)) [] []:=by
 have hb:l.length*40≤140737488355328∧l.length≤maxLen:=⟨by omega,by simp only [maxLen];omega⟩
 refine ctr_pure Tryz.func37 ok37 rfl cc37 cr37 Tryz.ntmps37 (by simp) rfl rfl ?_;intro c hP hfn;simp only [kc37,slC,vcd,↓vcp,seval]
 refine ⟨fun h=>?_,?_⟩
 ·refine RetK.pure (by simp only [rs37,rsb,vcd,↓vcp,seval]) ?_
  simp only [rs37,h,rsb,vcd,↓vcp,seval]
  exact VLe.nil rfl (fun h=>by cases h)
 ·repeat' first|refine And.intro (fun h=>?_) (fun h=>?_)|refine aO ?_|(refine tA rfl rfl rfl rfl ?_;try simp only [vcd,↓vcp,seval])|refine aT ?_|fail
  refine RetK.mk _ (Wk.pub 7 rfl) (by simp only [rs37,rsb,vcd,↓vcp,seval]) ?_ trivial
  simp only [rs37,rsb,enb,vcd,↓vcp,seval]
theorem pCloneB (l:List (Int×Int)) (hl:l.length≤1000000):Ctr Tryz.prog 106 [.d (slB l)] [] (.d (slB l)) [] []:=by
 have hb:l.length*16≤140737488355328∧l.length≤maxLen:=⟨by omega,by simp only [maxLen];omega⟩
 refine ctr_pure Tryz.func106 ok106 rfl cc106 cr106 Tryz.ntmps106 (by simp) rfl rfl ?_;intro c hP hfn;simp only [kc106,slB,vcd,↓vcp,seval]
 refine ⟨fun h=>?_,?_⟩
 ·refine RetK.pure (by simp only [rs106,rsb,vcd,↓vcp,seval]) ?_
  simp only [rs106,h,rsb,vcd,↓vcp,seval]
  exact VLe.nil rfl (fun h=>by cases h)
 ·repeat' first|refine And.intro (fun h=>?_) (fun h=>?_)|refine aO ?_|(refine tA rfl rfl rfl rfl ?_;try simp only [vcd,↓vcp,seval])|refine aT ?_|fail
  refine RetK.mk _ (Wk.pub 7 rfl) (by simp only [rs106,rsb,vcd,↓vcp,seval]) ?_ trivial
  simp only [rs106,rsb,enb,vcd,↓vcp,seval]
theorem pCloneI (l:List Int) (hl:l.length≤1000000):Ctr Tryz.prog 72 [.d (slK .i64 l)] [] (.d (slK .i64 l)) [] []:=by
 have hb:l.length*8≤140737488355328∧l.length≤maxLen:=⟨by omega,by simp only [maxLen];omega⟩
 refine ctr_pure Tryz.func72 ok72 rfl cc72 cr72 Tryz.ntmps72 (by simp) rfl rfl ?_;intro c hP hfn;simp only [kc72,slK,vcd,↓vcp,seval]
 refine ⟨fun h=>?_,?_⟩
 ·refine RetK.pure (by simp only [rs72,rsb,vcd,↓vcp,seval]) ?_
  simp only [rs72,h,rsb,vcd,↓vcp,seval]
  exact VLe.nil rfl (fun h=>by cases h)
 ·repeat' first|refine And.intro (fun h=>?_) (fun h=>?_)|refine aO ?_|(refine tA rfl rfl rfl rfl ?_;try simp only [vcd,↓vcp,seval])|refine aT ?_|fail
  refine RetK.mk _ (Wk.pub 7 rfl) (by simp only [rs72,rsb,vcd,↓vcp,seval]) ?_ trivial
  simp only [rs72,rsb,enb,vcd,↓vcp,seval]
structure SzV (v:Vs):Prop where
 age:v.age.length≤1000000
 zn:v.zn.length≤1000000
 pr:v.pr.length≤1000000
theorem SzV.short {v:Vs} (h:SzV v):ShortV v:=⟨by have:=h.age;omega,by have:=h.zn;omega,by have:=h.pr;omega⟩
theorem sOwnV (v:Vs) (hv:SzV v):Ctr Tryz.prog 63 [vV v] [] (vV v) [] []:=by
 have c1:=pCloneB v.age hv.age
 have c2:=pCloneI v.zn hv.zn
 have c3:=pCloneI v.pr hv.pr
 simp only [slB,slK] at c1 c2 c3
 refine ctr_pure Tryz.func63 ok63 rfl cc63 cr63 Tryz.ntmps63 (by simp) rfl rfl ?_;intro c hP hfn;simp only [kc63,vV,cV,slB,slK,vcd,↓vcp,seval]
 repeat' first|((first|refine tp hP (by first|exact c1|exact c2|exact c3) ?_|refine tg hP (fun _=>by first|exact c1|exact c2|exact c3) ?_|refine tv hP rfl (by first|exact c1|exact c2|exact c3) ?_);try simp only [vcd,↓vcp,seval])|refine And.intro (fun h=>?_) (fun h=>?_)|refine aO ?_|(refine tA rfl rfl rfl rfl ?_;try simp only [vcd,↓vcp,seval])|refine aT ?_|fail
 exact RetK.pure (by simp only [rs63,rsb,vcd,↓vcp,seval]) (by simp only [rs63,rsb,enb,vcd,↓vcp,seval])
theorem sOwnT (t:Tm) (ht:t.cv.length≤1000000):Ctr Tryz.prog 38 [vTm t] [] (vTm t) [] []:=by
 have c1:=pCloneC t.cv ht
 simp only [slC] at c1
 refine ctr_pure Tryz.func38 ok38 rfl cc38 cr38 Tryz.ntmps38 (by simp) rfl rfl ?_;intro c hP hfn;simp only [kc38,vTm,cTm,slC,vcd,↓vcp,seval]
 repeat' first|((first|refine tp hP (by exact c1) ?_|refine tg hP (fun _=>by exact c1) ?_|refine tv hP rfl (by exact c1) ?_);try simp only [vcd,↓vcp,seval])|refine And.intro (fun h=>?_) (fun h=>?_)|refine aO ?_|(refine tA rfl rfl rfl rfl ?_;try simp only [vcd,↓vcp,seval])|refine aT ?_|fail
 exact RetK.pure (by simp only [rs38,rsb,vcd,↓vcp,seval]) (by simp only [rs38,rsb,enb,vcd,↓vcp,seval])
def dVs (v:Vs):List D:=[.int .i64 v.fr,.int .i64 v.b0,.int .i64 v.b1,.int .i64 v.b2,.int .i64 v.b3,slB v.age,slK .i64 v.zn,slK .i64 v.pr,.int .i64 v.mn]
def slV (l:List Vs):D:=.sl false 9 l.length (fun i=>dVs (l.getD i default))
theorem sBackV (l:List Vs):Ctr Tryz.prog 108 [.d (slV l)] [] (.fn (.func 151) [] [.mem [slV l]]) [] []:=by
 refine ctr_pure Tryz.func108 ok108 rfl cc108 cr108 Tryz.ntmps108 (by simp) rfl rfl ?_;intro c hP hfn;simp only [kc108,slV,vcd,↓vcp,seval]
 repeat' first|refine And.intro (fun h=>?_) (fun h=>?_)|refine aO ?_|(refine tA rfl rfl rfl rfl ?_;try simp only [vcd,↓vcp,seval])|refine aT ?_|fail
 exact RetK.mk _ (Wk.pubF 1 rfl rfl) (by simp only [rs108,rsb,vcd,↓vcp,seval]) (by simp only [rs108,rsb,enb,vcd,↓vcp,seval]) trivial
def bkArgs (l:List Vs) (k:Nat):List V:=[.d (.int .i64 ((l.length-1-k:Nat):Int)),vV (l.getD (l.length-1-k) default)]
theorem it_backV (l:List Vs) (hl:l.length≤1000000):IterC Tryz.prog 151 [.mem [slV l]] (bkArgs l) l.length:=by
 refine iter_of_vc Tryz.func151 ok151 rfl cc151 cr151 (by simp only [Tryz.ntmps151,List.length_cons,List.length_nil];decide) rfl (fun _=>rfl) ?_
 intro c l' T stop Z hP _ hZ hT hT' hY
 have w1:IntKind.i64.wrap ((l.length:Int)-1)=(l.length:Int)-1:=wI (by omega)
 simp only [kc151,slV,w1,vcd,↓vcp,seval]
 refine vcC.loop (X:=Nat) (fun k=>⟨[(0,.fn (.yield l') [] []),(1,.mem [slV l]),(3,.d (.int .i64 ((l.length:Int)-1-(k:Int))))],[]++Z k,[]++keysO (Z k)⟩)
  (fun k=>k≤l.length∧k≤T∧(stop=true→k<T)) (fun k=>l.length-k) 0 ⟨Nat.zero_le _,Nat.zero_le _,fun h=>(hT' h).1⟩ (Wk.ofZ hZ rfl 0 (own:=[]) (nm:=[]) rfl rfl (by simp only [slV,w1,enb,vcd,↓vcp,seval];omega) (by simp only [enb,vcd,↓vcp,seval]) (fun n o hm=>mem_own? (hZ.nodup 0) hm)) ?_
 rintro k ⟨hk,hkT,hks⟩
 by_cases hlt:k<l.length
 ·have d0:decide ((l.length:Int)-1-(k:Int)≥0)=true:=decide_eq_true (by omega)
  have e0:(l.length:Int)-1-(k:Int)=((l.length-1-k:Nat):Int):=by omega
  have e1:IntKind.i64.wrap (((l.length-1-k:Nat):Int)-1)=(l.length:Int)-1-((k+1:Nat):Int):=(wI (by omega)).trans (by omega)
  have b1:(0:Int)≤((l.length-1-k:Nat):Int)∧((l.length-1-k:Nat):Int)<(l.length:Int):=by omega
  have hlT:k<T:=by
   cases hst:stop with
   |true=>exact hks hst
   |false=>rw [hT hst];exact hlt
  rw [e0] at d0
  simp only [slV,dVs,e0,d0,vcd,↓vcp,seval]
  repeat' first|refine And.intro (fun h=>?_) (fun h=>?_)|refine aO ?_|(refine tA rfl rfl rfl rfl ?_;try simp only [e0,vcd,↓vcp,seval])|refine aT ?_|fail
  refine TR.yield hZ rfl (hY k hlT) (own:=[]) (nm:=[]) rfl rfl rfl trivial (by simp only [bkArgs,vV,cV,slV,slB,vcd,↓vcp,seval]) (by simp only [vcd,↓vcp,seval]) ?_
  simp only [vcd,↓vcp,seval]
  refine ⟨fun hg=>?_,fun hg=>?_⟩
  ·have hT1:T=k+1:=by
    simp [goAt] at hg
    have:=hks hg.2
    omega
   subst hT1
   exact IterK.mk _ (Wk.refl _ _) (OwnLe.of fun n o hm=>⟨o,mem_own? (hZ.nodup (k+1)) hm,OLe.refl o⟩)
  ·have hg':k+1<T∨stop=false:=by
    simp [goAt] at hg
    by_cases h9:k+1<T
    ·exact .inl h9
    ·exact .inr (hg (by omega))
   simp only [e1,vcd,↓vcp,seval]
   refine lopK.on (k+1) ⟨hlt,hlT,fun h=>hg'.resolve_right (by rw [h];simp)⟩ (by omega) (Wk.ofZ hZ rfl (k+1) (own:=[]) (nm:=[]) rfl rfl (by simp only [slV,e1,enb,vcd,↓vcp,seval]) (by simp only [enb,vcd,↓vcp,seval]) (fun n o hm=>mem_own? (hZ.nodup (k+1)) hm))
 ·have hkl:k=l.length:=by omega
  have hst:stop=false:=by
   cases hst:stop with
   |false=>rfl
   |true=>have:=hks hst;have:=(hT' hst).2;omega
  have hTk:T=k:=by rw [hT hst,hkl]
  have d0:decide ((l.length:Int)-1-(k:Int)≥0)=false:=decide_eq_false (by omega)
  simp only [d0,vcd,↓vcp,seval]
  repeat' first|refine And.intro (fun h=>?_) (fun h=>?_)|refine aO ?_|(refine tA rfl rfl rfl rfl ?_;try simp only [vcd,↓vcp,seval])|refine aT ?_|fail
  rw [hTk]
  exact IterK.mk' _ (Wk.refl _ _) (OwnLe.of fun n o hm=>⟨o,mem_own? (hZ.nodup k) hm,OLe.refl o⟩)
def atV (l:List Vs) (d:Int):Option Vs:=l.reverse.find? (fun v=>decide (v.fr≤d))
def zV:Vs:=⟨0,0,0,0,0,[],[],[],0⟩
def atO (o:Option Vs):Vs:=o.getD zV
def atE (o:Option Vs):Int:=if o.isSome then 0 else 7
def zVs:List V:=[.d (.int .i64 0),.d (.int .i64 0),.d (.int .i64 0),.d (.int .i64 0),.d (.int .i64 0),.d (.sl true 0 0 fun _=>[]),.d (.sl true 0 0 fun _=>[]),.d (.sl true 0 0 fun _=>[]),.d (.int .i64 0)]
theorem bk_at {l:List Vs} {k:Nat} (h:k<l.length):l.reverse[k]?=some (l.getD (l.length-1-k) default):=by
 rw [List.getElem?_reverse h,List.getD_eq_getElem?_getD]
 have:l.length-1-k<l.length:=by omega
 rw [List.getElem?_eq_getElem this];rfl
theorem find_or {X:Type} (p:X→Bool):∀ (l:List X),(∃ (k:Nat) (x:X),l[k]?=some x∧p x=true∧l.find? p=some x∧∀ (j:Nat) (y:X),j<k→l[j]?=some y→p y=false)∨(l.find? p=none∧∀ (j:Nat) (y:X),l[j]?=some y→p y=false)
 |[]=>.inr ⟨rfl,fun j y h=>by simp at h⟩
 |a::l=>by
  cases ha:p a with
  |true=>exact .inl ⟨0,a,rfl,ha,by rw [List.find?_cons,ha],fun j y h=>absurd h (Nat.not_lt_zero j)⟩
  |false =>
   rcases find_or p l with ⟨k,x,h1,h2,h3,h4⟩|⟨h1,h2⟩
   ·refine .inl ⟨k+1,x,h1,h2,by rw [List.find?_cons,ha];exact h3,fun j y hj hy=>?_⟩
    cases j with
    |zero=>simp at hy;subst hy;exact ha
    |succ j=>exact h4 j y (by omega) (by simpa using hy)
   ·refine .inr ⟨by rw [List.find?_cons,ha];exact h1,fun j y hy=>?_⟩
    cases j with
    |zero=>simp at hy;subst hy;exact ha
    |succ j=>exact h2 j y (by simpa using hy)
def atOw (d:Int) (cs:List V):List (Nat×Go.Bx.Own):=[(3,.fix [.d (.int .i64 d)]),(4,.fix cs),(5,.fix [.d (.int .i64 0)])]
def atO1 (d:Int) (v:Vs) (cs:List V):List (Nat×Go.Bx.Own):=[(3,.fix [.d (.int .i64 d)]),(4,.fix cs),(5,.fix [.d (.int .i64 0)]),(7,.fix (cV v))]
def atEn (l:List Vs):List (Nat×V):=[(3,.own 3 0),(4,.own 4 0),(5,.own 5 0),(10,.fn (.func 151) [] [.mem [slV l]])]
def atE1:List (Nat×V):=[(3,.own 3 0),(4,.own 4 0),(5,.own 5 0),(7,.own 7 0)]
theorem at_cli (d:Int) (cs:Nat→List V) (h:∀ k,namesL (cs k)=[]):CliO [3,4,5] (fun k=>atOw d (cs k)):=by
 refine ⟨fun k=>by simp [atOw,keysO],fun k n hn=>?_,fun k n hn=>by simpa [atOw,keysO] using hn⟩
 simp only [atOw,ownNames,namesL,V.names,h,List.append_nil,List.nil_append] at hn
 simpa [atOw,keysO] using hn
theorem at_cli1 (d:Int) (v:Nat→Vs) (cs:Nat→List V) (h:∀ k,namesL (cs k)=[]):CliO [3,4,5] (fun k=>atO1 d (v k) (cs k)):=by
 refine ⟨fun k=>by simp [atO1,keysO],fun k n hn=>?_,fun k n hn=>?_⟩
 ·simp only [atO1,cV,ownNames,namesL,V.names,h,List.append_nil,List.nil_append] at hn
  simpa [atO1,keysO] using hn
 ·simp only [List.mem_cons,List.not_mem_nil,or_false] at hn
  rcases hn with h|h|h<;>simp [atO1,keysO,h]
theorem env_names {l:List (Nat×V)} {NF:List Nat} (h:∀ s y,(s,y)∈l→∀ n,n∈y.names→n∈NF):∀ s n,n∈(Go.Bx.get l s).names→n∈NF:=by
 induction l with
 |nil=>intro s n hn;simp [Go.Bx.get,V.names] at hn
 |cons p l ih =>
  obtain ⟨s',y⟩:=p
  intro s n hn
  simp only [Go.Bx.get] at hn
  split at hn
  ·exact h s' y (by simp) n hn
  ·exact ih (fun s y hm=>h s y (by simp [hm])) s n hn
theorem at_env (l:List Vs):∀ s n,n∈(Go.Bx.get (atEn l) s).names→n∈[3,4,5]:=env_names fun s y hm n hn=>by
 simp only [atEn,List.mem_cons,Prod.mk.injEq,List.not_mem_nil,or_false] at hm
 rcases hm with ⟨rfl,rfl⟩|⟨rfl,rfl⟩|⟨rfl,rfl⟩|⟨rfl,rfl⟩<;>simp [V.names,namesL] at hn ⊢<;>simp [hn]
set_option maxHeartbeats 1000000 in
theorem sAtV (l:List Vs) (d:Int) (hl:l.length≤1000000) (hz:∀ v,v∈l→SzV v):Ctr Tryz.prog 65 [.ag [.d (slV l)],.d (.int .i64 d)] [] (.tup [vV (atO (atV l d)),.d (.int .i64 (atE (atV l d)))]) [] []:=by
 have cb:=sBackV l
 simp only [slV,dVs] at cb
 refine ctr_pureL Tryz.func65 ok65 rfl cc65 cr65 Tryz.ntmps65 (by simp) rfl rfl ?_;intro c hP hfn hrd;simp only [kc65,slV,dVs,vcd,↓vcp,seval]
 repeat' first|((first|refine tp hP (by exact cb) ?_|refine tg hP (fun _=>by exact cb) ?_|refine tv hP rfl (by exact cb) ?_);try simp only [vcd,↓vcp,seval])|refine And.intro (fun h=>?_) (fun h=>?_)|refine aO ?_|(refine tA rfl rfl rfl rfl ?_;try simp only [vcd,↓vcp,seval])|refine aT ?_|fail
 have hI:=it_backV l hl
 rw [←hP] at hI
 have hv:∀ k,k<l.length→l.reverse[k]?=some (l.getD (l.length-1-k) default):=fun k hk=>bk_at hk
 have hmem:∀ k,k<l.length→l.getD (l.length-1-k) default∈l:=fun k hk=>by
  obtain ⟨x,-,hg,hm,-⟩:=drop_at (l:=l) (k:=l.length-1-k) (by omega)
  rw [hg];exact hm
 rcases find_or (fun v:Vs=>decide (v.fr≤d)) l.reverse with ⟨K,x,h1,h2,h3,h4⟩|⟨h3,h4⟩
 ·have hK:K<l.length:=by have:=(List.getElem?_eq_some_iff.1 h1).1;simpa using this
  have hx:l.getD (l.length-1-K) default=x:=by have:=hv K hK;rw [h1] at this;injection this with this;exact this.symm
  have hat:atV l d=some x:=h3
  have hcs:∀ k,namesL (if k=K+1 then cV x else zVs)=[]:=fun k=>by split<;>simp [cV,zVs,namesL,V.names]
  refine vcC.rfnJ hI (K+1) (some .ret) (atEn l) [3,4,5] (fun k=>atOw d (if k=K+1 then cV x else zVs)) (fun k=>atO1 d (l.getD (l.length-1-k) default) zVs) (fun _=>atE1) ?_ rfl trivial
   ⟨hrd,at_cli d _ hcs,at_cli1 d _ _ (fun _=>by simp [zVs,namesL,V.names]),fun n hn=>(by rw [hfn] at hn;cases hn),at_env l,rfl,fun _=>rfl,fun _=>rfl,fun h=>(by cases h),fun _=>⟨by omega,by omega⟩,fun h=>(by cases h)⟩ ?_ ?_ (fun h=>by cases h) ?_
  ·refine Wk.of (b:=⟨atEn l,atOw d zVs,[3,4,5]⟩) _ hfn rfl ?_ ?_
   ·simp only [atEn,slV,dVs,slB,enb,vcd,↓vcp,seval]
   ·simp only [atOw,zVs,enb,vcd,↓vcp,seval]
  ·intro k hk cB hPB hfB
   have hne:¬ k=K+1:=by omega
   simp only [setPs,bkArgs,vV,cV,atOw,atEn,zVs,hne,if_false,vcd,↓vcp,seval]
   rw [rfnA_nrm]
   refine Wk.of (b:=⟨atE1,atO1 d (l.getD (l.length-1-k) default) zVs,[3,4,5,7]⟩) _ hfB rfl ?_ ?_
   ·simp only [atE1,enb,vcd,↓vcp,seval]
   ·simp only [atO1,zVs,cV,enb,vcd,↓vcp,seval]
  ·intro k hk cB hPB hfB
   have hP:=hPB.trans hP
   by_cases hkK:k=K
   ·subst hkK
    have hg:goAt (k+1) (some Ex.ret).isSome k=false:=by simp [goAt]
    have d0:decide (x.fr≤d)=true:=h2
    have co:=sOwnV x (hz x (by rw [←hx];exact hmem k hK))
    simp only [vV,cV,slB] at co
    simp only [hg,hx,if_true]
    simp only [atO1,atE1,atOw,cV,slB,zVs,d0,vcd,↓vcp,seval]
    repeat' first|((first|refine tp hP (by exact co) ?_|refine tg hP (fun _=>by exact co) ?_|refine tv hP rfl (by exact co) ?_);try simp only [d0,vcd,↓vcp,seval])|refine And.intro (fun h=>?_) (fun h=>?_)|refine aO ?_|(refine tA rfl rfl rfl rfl ?_;try simp only [d0,vcd,↓vcp,seval])|refine aT ?_|fail
    all_goals
     exact Wk.of (b:=⟨[],atOw d (cV x),[3,4,5]⟩) _ hfB rfl (by simp only [enb,vcd,↓vcp,seval]) (by simp only [atOw,cV,slB,enb,vcd,↓vcp,seval])
   ·have hg:goAt (K+1) (some Ex.ret).isSome k=true:=by simp [goAt];omega
    have hne:¬ k+1=K+1:=by omega
    obtain ⟨y,hy⟩:∃ y,l.getD (l.length-1-k) default=y:=⟨_,rfl⟩
    have d0:decide (y.fr≤d)=false:=by rw [←hy];exact h4 k _ (by omega) (hv k (by omega))
    simp only [hg,hy,hne,if_false]
    simp only [atO1,atE1,atOw,cV,slB,zVs,d0,vcd,↓vcp,seval]
    repeat' first|refine And.intro (fun h=>?_) (fun h=>?_)|refine aO ?_|(refine tA rfl rfl rfl rfl ?_;try simp only [d0,vcd,↓vcp,seval])|refine aT ?_|fail
    all_goals
     exact Wk.of (b:=⟨[],atOw d zVs,[3,4,5]⟩) _ hfB rfl (by simp only [enb,vcd,↓vcp,seval]) (by simp only [atOw,zVs,enb,vcd,↓vcp,seval])
  ·intro e he
   injection he with he
   subst he
   simp only [if_true,atEn,atOw,cV,hat,atO,atE,Option.getD_some,Option.isSome_some,vcd,↓vcp,seval]
   refine RetK.pure (by simp only [rs65,rsb,vcd,↓vcp,seval]) ?_
   simp only [rs65,vV,cV,rsb,enb,vcd,↓vcp,seval]
 ·have hat:atV l d=none:=h3
  refine vcC.rfnAll hI (atEn l) [3,4,5] (fun k=>atOw d zVs) (fun k=>atO1 d (l.getD (l.length-1-k) default) zVs) (fun _=>atE1) ?_ rfl trivial
   ⟨hrd,at_cli d _ (fun _=>by simp [zVs,namesL,V.names]),at_cli1 d _ _ (fun _=>by simp [zVs,namesL,V.names]),fun n hn=>(by rw [hfn] at hn;cases hn),at_env l,rfl,fun _=>rfl,fun _=>rfl,fun _=>rfl,fun h=>absurd rfl h,fun h=>(by cases h)⟩ ?_ ?_ ?_
  ·refine Wk.of (b:=⟨atEn l,atOw d zVs,[3,4,5]⟩) _ hfn rfl ?_ ?_
   ·simp only [atEn,slV,dVs,slB,enb,vcd,↓vcp,seval]
   ·simp only [atOw,zVs,enb,vcd,↓vcp,seval]
  ·intro k hk cB hPB hfB
   simp only [setPs,bkArgs,vV,cV,atOw,atEn,zVs,vcd,↓vcp,seval]
   rw [rfnA_nrm]
   refine Wk.of (b:=⟨atE1,atO1 d (l.getD (l.length-1-k) default) zVs,[3,4,5,7]⟩) _ hfB rfl ?_ ?_
   ·simp only [atE1,enb,vcd,↓vcp,seval]
   ·simp only [atO1,zVs,cV,enb,vcd,↓vcp,seval]
  ·intro k hk cB hPB hfB
   obtain ⟨y,hy⟩:∃ y,l.getD (l.length-1-k) default=y:=⟨_,rfl⟩
   have d0:decide (y.fr≤d)=false:=by rw [←hy];exact h4 k _ (hv k hk)
   simp only [hy]
   simp only [atO1,atE1,atOw,cV,slB,zVs,d0,vcd,↓vcp,seval]
   repeat' first|refine And.intro (fun h=>?_) (fun h=>?_)|refine aO ?_|(refine tA rfl rfl rfl rfl ?_;try simp only [d0,vcd,↓vcp,seval])|refine aT ?_|fail
   all_goals
    exact Wk.of (b:=⟨[],atOw d zVs,[3,4,5]⟩) _ hfB rfl (by simp only [enb,vcd,↓vcp,seval]) (by simp only [atOw,zVs,enb,vcd,↓vcp,seval])
  ·simp only [atEn,atOw,zVs,hat,atO,atE,vcd,↓vcp,seval]
   refine RetK.pure (by simp only [rs65,rsb,vcd,↓vcp,seval]) ?_
   simp only [rs65,vV,cV,rsb,enb,vcd,↓vcp,seval]
   have nl:∀ {sz:Nat} {f g:Nat→List D},VLe (.d (.sl true 0 0 g)) (.d (.sl false sz 0 f)):=VLe.nil rfl (fun h=>by cases h)
   exact VLe.tups ⟨VLe.ags ⟨VLe.refl _,VLe.refl _,VLe.refl _,VLe.refl _,VLe.refl _,nl,nl,nl,VLe.refl _,trivial⟩,VLe.refl _,trivial⟩
end Go.Proofs.YtanppabbmffokaaGreat
end
section
namespace Go.Proofs.YtanppabbmffokaaGreat
open Go.ChangeShapes Go.WideShapes Go.ChangeAt Go.RowKit Go.Bx
theorem band_reads:Reads Tryz.prog 182 2 (fun l:Int×Int=>[.int .i64 l.1,.int .i64 l.2]) (fun _=>True):=
 (Reads.struct Tryz.underlying182 (FR.cons rfl int_reads (FR.cons rfl int_reads FR.nil)) (by kernel_rfl)).map (fun x=>(x.1,x.2.1)) _ _ (fun _=>rfl) (fun _=>rfl) (fun _ _=>trivial)
theorem bands_reads:Reads Tryz.prog 73 1 (fun l:List (Int×Int)=>[slB l]) (fun l=>l.length≤9223372036854775807):=
 (band_reads.slice Tryz.underlying73 (by kernel_rfl) (by decide)).map id _ _ (fun _=>rfl) (fun _=>rfl) (fun _ h=>h.1)
theorem ints_reads:Reads Tryz.prog 46 1 (fun l:List Int=>[slK .i64 l]) (fun l=>l.length≤9223372036854775807∧∀ n,n∈l→I64 n):=
 (int_reads.slice Tryz.underlying46 (by kernel_rfl) (by decide)).map id _ _ (fun _=>rfl) (fun _=>rfl) (fun _ h=>h)
theorem four_reads:Reads Tryz.prog 72 4 (fun t:Int×Int×Int×Int=>[.int .i64 t.1,.int .i64 t.2.1,.int .i64 t.2.2.1,.int .i64 t.2.2.2]) (fun _=>True):=
 (int_reads.array Tryz.underlying72 (by kernel_rfl)).map (fun g=>(g 0,g 1,g 2,g 3)) _ _ (fun _=>rfl) (fun _=>rfl) (fun _ _=>trivial)
def okV (v:Vs):Prop:=I64 v.fr∧v.age.length≤9223372036854775807∧v.zn.length≤9223372036854775807∧v.pr.length≤9223372036854775807
theorem version_reads:Reads Tryz.prog 75 9 dVs okV:=
 (Reads.struct Tryz.underlying75 (FR.cons rfl int_reads (FR.cons rfl four_reads (FR.cons rfl bands_reads (FR.cons rfl ints_reads (FR.cons rfl ints_reads (FR.cons rfl int_reads FR.nil)))))) (by kernel_rfl)).map (fun x=>⟨x.1,x.2.1.1,x.2.1.2.1,x.2.1.2.2.1,x.2.1.2.2.2,x.2.2.1,x.2.2.2.1,x.2.2.2.2.1,x.2.2.2.2.2.1⟩) _ _ (fun _=>rfl) (fun _=>rfl) (fun _ h=>⟨h.1,h.2.2.1,h.2.2.2.1.1,h.2.2.2.2.1.1⟩)
theorem versions_reads:Reads Tryz.prog 32 1 (fun l:List Vs=>[slV l]) (fun l=>l.length≤9223372036854775807∧∀ v,v∈l→okV v):=
 (version_reads.slice Tryz.underlying32 (by kernel_rfl) (by decide)).map id _ _ (fun _=>rfl) (fun _=>rfl) (fun _ h=>h)
theorem tariff_reads:Reads Tryz.prog 34 1 (fun l:List Vs=>[slV l]) (fun l=>l.length≤9223372036854775807∧∀ v,v∈l→okV v):=
 (Reads.struct Tryz.underlying34 (FR.cons rfl versions_reads FR.nil) (by kernel_rfl)).map (fun x=>x.1) _ _ (fun _=>rfl) (fun _=>rfl) (fun _ h=>h.1)
theorem risk_reads:Reads Tryz.prog 25 4 (fun r:Rk=>[.int .i64 r.kd,.int .i64 r.va,.int .i64 r.ag,.int .i64 r.zo]) (fun _=>True):=
 (Reads.struct Tryz.underlying25 (FR.cons rfl int_reads (FR.cons rfl int_reads (FR.cons rfl int_reads (FR.cons rfl int_reads FR.nil)))) (by kernel_rfl)).map (fun x=>⟨x.1,x.2.1,x.2.2.1,x.2.2.2.1⟩) _ _ (fun _=>rfl) (fun _=>rfl) (fun _ _=>trivial)
theorem cover_reads:Reads Tryz.prog 63 5 (fun c:Cv=>[.int .i64 c.pe,.int .i64 c.li,.int .i64 c.ag,.int .i64 c.de,.int .i64 c.sh]) (fun _=>True):=
 (Reads.struct Tryz.underlying63 (FR.cons rfl int_reads (FR.cons rfl int_reads (FR.cons rfl int_reads (FR.cons rfl int_reads (FR.cons rfl int_reads FR.nil))))) (by kernel_rfl)).map (fun x=>⟨x.1,x.2.1,x.2.2.1,x.2.2.2.1,x.2.2.2.2.1⟩) _ _ (fun _=>rfl) (fun _=>rfl) (fun _ _=>trivial)
theorem covers_reads:Reads Tryz.prog 26 1 (fun l:List Cv=>[slC l]) (fun l=>l.length≤9223372036854775807):=
 (cover_reads.slice Tryz.underlying26 (by kernel_rfl) (by decide)).map id _ _ (fun _=>rfl) (fun _=>rfl) (fun _ h=>h.1)
theorem span_reads:Reads Tryz.prog 23 2 (fun l:Int×Int=>[.int .i64 l.1,.int .i64 l.2]) (fun l=>I64 l.1∧I64 l.2):=
 (Reads.struct Tryz.underlying23 (FR.cons rfl int_reads (FR.cons rfl int_reads FR.nil)) (by kernel_rfl)).map (fun x=>(x.1,x.2.1)) _ _ (fun _=>rfl) (fun _=>rfl) (fun _ h=>⟨h.1,h.2.1⟩)
theorem terms_reads:Reads Tryz.prog 28 7 (fun t:Tm=>[.int .i64 t.sf,.int .i64 t.st,.int .i64 t.rk.kd,.int .i64 t.rk.va,.int .i64 t.rk.ag,.int .i64 t.rk.zo,slC t.cv]) (fun t=>I64 t.sf∧I64 t.st∧t.cv.length≤9223372036854775807):=
 (Reads.struct Tryz.underlying28 (FR.cons rfl span_reads (FR.cons rfl risk_reads (FR.cons rfl covers_reads FR.nil))) (by kernel_rfl)).map (fun x=>⟨x.1.1,x.1.2,x.2.1,x.2.2.1⟩) _ _ (fun _=>rfl) (fun _=>rfl) (fun _ h=>⟨h.1.1,h.1.2,h.2.2.1⟩)
def okCh (c:Ch):Prop:=I64 c.bk∧I64 c.dy∧c.cv.length≤9223372036854775807
theorem change_reads:Reads Tryz.prog 36 9 dCh okCh:=
 (Reads.struct Tryz.underlying36 (FR.cons rfl int_reads (FR.cons rfl int_reads (FR.cons rfl int_reads (FR.cons rfl risk_reads (FR.cons rfl covers_reads (FR.cons rfl int_reads FR.nil)))))) (by kernel_rfl)).map (fun x=>⟨x.1,x.2.1,x.2.2.1,x.2.2.2.1,x.2.2.2.2.1,x.2.2.2.2.2.1⟩) _ _ (fun _=>rfl) (fun _=>rfl) (fun _ h=>⟨h.1,h.2.1,h.2.2.2.2.1⟩)
theorem changes_reads:Reads Tryz.prog 29 1 (fun l:List Ch=>[slH l]) (fun l=>l.length≤9223372036854775807∧∀ c,c∈l→okCh c):=
 (change_reads.slice Tryz.underlying29 (by kernel_rfl) (by decide)).map id _ _ (fun _=>rfl) (fun _=>rfl) (fun _ h=>h)
def okHi (h:Hi):Prop:=I64 h.bk∧(I64 h.tm.sf∧I64 h.tm.st∧h.tm.cv.length≤9223372036854775807)∧h.ch.length≤9223372036854775807∧∀ c,c∈h.ch→okCh c
theorem history_reads:Reads Tryz.prog 31 10 (fun h:Hi=>[.int .i64 h.id,.int .i64 h.bk,.int .i64 h.tm.sf,.int .i64 h.tm.st,.int .i64 h.tm.rk.kd,.int .i64 h.tm.rk.va,.int .i64 h.tm.rk.ag,.int .i64 h.tm.rk.zo,slC h.tm.cv,slH h.ch]) okHi:=
 (Reads.struct Tryz.underlying31 (FR.cons rfl int_reads (FR.cons rfl int_reads (FR.cons rfl terms_reads (FR.cons rfl changes_reads FR.nil)))) (by kernel_rfl)).map (fun x=>⟨x.1,x.2.1,x.2.2.1,x.2.2.2.1⟩) _ _ (fun _=>rfl) (fun _=>rfl) (fun _ h=>⟨h.2.1,h.2.2.1,h.2.2.2.1⟩)
end Go.Proofs.YtanppabbmffokaaGreat
end
section
namespace Go.Proofs.YtanppabbmffokaaGreat
open Go.Shelf Go.Proofs Go.Bx
def lays189_ren : Go.Shelf.Ren := ⟨fun | 189 => 73 | 125 => 120 | 257 => 119 | 128 => 168 | 129 => 169 | 294 => 159 | 295 => 160 | 296 => 161 | 297 => 162 | 298 => 163 | 299 => 164 | 216 => 165 | 300 => 166 | 301 => 167 | 328 => 185 | 329 => 186 | 330 => 187 | 331 => 188 | 332 => 189 | 215 => 173 | 343 => 203 | n => n, fun | 28 => 46 | 3 => 3 | 46 => 177 | 0 => 0 | 51 => 37 | 53 => 235 | 4 => 4 | 183 => 227 | 182 => 226 | 131 => 130 | 5 => 5 | 9 => 9 | 218 => 248 | 222 => 252 | 228 => 263 | 229 => 53 | n => n, fun  | n => n⟩
theorem lays189 : Lays.n189 Tryz.prog lays189_ren := {
  mixed := by kernel_rfl, f125 := Tryz.func120.trans (congrArg some (by kernel_rfl)), f128 := Tryz.func168.trans (congrArg some (by kernel_rfl)), f129 := Tryz.func169.trans (congrArg some (by kernel_rfl)), f189 := Tryz.func73.trans (congrArg some (by kernel_rfl)), f215 := Tryz.func173.trans (congrArg some (by kernel_rfl)),
  f216 := Tryz.func165.trans (congrArg some (by kernel_rfl)), f257 := Tryz.func119.trans (congrArg some (by kernel_rfl)), f294 := Tryz.func159.trans (congrArg some (by kernel_rfl)), f295 := Tryz.func160.trans (congrArg some (by kernel_rfl)), f296 := Tryz.func161.trans (congrArg some (by kernel_rfl)), f297 := Tryz.func162.trans (congrArg some (by kernel_rfl)),
  f298 := Tryz.func163.trans (congrArg some (by kernel_rfl)), f299 := Tryz.func164.trans (congrArg some (by kernel_rfl)), f300 := Tryz.func166.trans (congrArg some (by kernel_rfl)), f301 := Tryz.func167.trans (congrArg some (by kernel_rfl)), f328 := Tryz.func185.trans (congrArg some (by kernel_rfl)), f329 := Tryz.func186.trans (congrArg some (by kernel_rfl)),
  f330 := Tryz.func187.trans (congrArg some (by kernel_rfl)), f331 := Tryz.func188.trans (congrArg some (by kernel_rfl)), f332 := Tryz.func189.trans (congrArg some (by kernel_rfl)), f343 := Tryz.func203.trans (congrArg some (by kernel_rfl)), t0 := Tryz.underlying0, a0 := Tryz.isAgg0,
  z0 := Tryz.sizeOf0, v0 := Tryz.zeroValue0, t3 := Tryz.underlying3, a3 := Tryz.isAgg3, z3 := Tryz.sizeOf3, v3 := Tryz.zeroValue3,
  t4 := Tryz.underlying4, a4 := Tryz.isAgg4, z4 := Tryz.sizeOf4, v4 := Tryz.zeroValue4, t5 := Tryz.underlying5, a5 := Tryz.isAgg5,
  z5 := Tryz.sizeOf5, v5 := Tryz.zeroValue5, t9 := Tryz.underlying9, a9 := Tryz.isAgg9, z9 := Tryz.sizeOf9, v9 := Tryz.zeroValue9,
  t28 := Tryz.underlying46, a28 := Tryz.isAgg46, z28 := Tryz.sizeOf46, v28 := Tryz.zeroValue46, t46 := Tryz.underlying177, a46 := Tryz.isAgg177,
  z46 := Tryz.sizeOf177, v46 := Tryz.zeroValue177, t51 := Tryz.underlying37, a51 := Tryz.isAgg37, z51 := Tryz.sizeOf37, v51 := Tryz.zeroValue37,
  t53 := Tryz.underlying235, a53 := Tryz.isAgg235, z53 := Tryz.sizeOf235, v53 := Tryz.zeroValue235, t131 := Tryz.underlying130, a131 := Tryz.isAgg130,
  z131 := Tryz.sizeOf130, v131 := Tryz.zeroValue130, t182 := Tryz.underlying226, a182 := Tryz.isAgg226, z182 := Tryz.sizeOf226, v182 := Tryz.zeroValue226,
  t183 := Tryz.underlying227, a183 := Tryz.isAgg227, z183 := Tryz.sizeOf227, v183 := Tryz.zeroValue227, t218 := Tryz.underlying248, a218 := Tryz.isAgg248,
  z218 := Tryz.sizeOf248, v218 := Tryz.zeroValue248, t222 := Tryz.underlying252, a222 := Tryz.isAgg252, z222 := Tryz.sizeOf252, v222 := Tryz.zeroValue252,
  t228 := Tryz.underlying263, a228 := Tryz.isAgg263, z228 := Tryz.sizeOf263, v228 := Tryz.zeroValue263, t229 := Tryz.underlying53, a229 := Tryz.isAgg53,
  z229 := Tryz.sizeOf53, v229 := Tryz.zeroValue53 }
def sortI (l:List Int):List Int:=l.mergeSort fun x y=>decide (x≤y)
theorem sSortI (l:List Int) (hl:l.length≤1000000):Ctr Tryz.prog 73 [.osl 900] [(900,rowZ l)] (.tup []) [(900,rowZ (sortI l))] []:=by
 refine ⟨ok73,by simp [keysO],by simp,fun E0 β w vals hE hsz hv hins hnn=>?_⟩
 obtain ⟨v,rfl⟩:∃ v,vals=#[v]:=by
  match vals,hsz with
  |⟨[v]⟩,_=>exact ⟨v,rfl⟩
 have h1:=hv 0 v (.osl 900) rfl rfl
 obtain ⟨v',xs,q1,⟨hx,hrow⟩,hlen,hcell⟩:=hins.ok 900 (rowZ l) (by simp)
 obtain rfl:v=v':=by
  cases h1 with
  |osl k u h _=>rw [h] at q1;injection q1
 rcases hrow with ⟨⟨a,rfl⟩,h0⟩|⟨g,cap,cur,rfl,hc0,hheap,hn,hcm,hcs,htake⟩
 ·have e0:l=[]:=List.eq_nil_of_length_eq_zero h0
  subst e0
  refine (Any.slices_Sort_int_none lays189 a 0 w).mono ?_
  rintro e w' ⟨rfl,rfl⟩
  have es:sortI []=[]:=by simp [sortI]
  rw [es]
  refine ⟨_,β,rfl,Names.le.refl β,fun _ _=>rfl,.tup _ _ rfl (fun j v x h=>by simp at h),hins,Keeps.refl _ _,fun k hk b hb=>.inr ⟨k,hk,hb⟩⟩
 ·have hH:Go.Sort.Holds (Value.int .i64) w g 0 l.toArray:=by
   intro j hj
   have hj':j<l.length:=by simpa using hj
   obtain ⟨u,g1,g2⟩:=hcell j 0 hj' (by decide) _ rfl
   have hu:u=.int .i64 (l.getD j 0):=by cases g2;rfl
   rw [←htake,Nat.mul_one,Nat.mul_one,Nat.add_zero,List.getElem?_take_of_lt hj',Array.getElem?_toList] at g1
   rw [Nat.zero_add]
   refine ⟨?_,by simp [World.frozen?,hheap]⟩
   simp only [World.cell?,hheap,g1,hu]
   simp [List.getD_eq_getElem?_getD,hj']
  have hg:g<w.heap.size:=(Array.getElem?_eq_some_iff.1 hheap).1
  refine (Any.slices_Sort_int lays189 g 0 cap l w hH hg (by omega)).mono ?_
  rintro e w' ⟨rfl,n,os,rfl⟩
  have hbk:β.blk 900=some g:=by simp [Names.blk,q1,blkOf];omega
  obtain ⟨W,eW⟩:∃ W,W=Go.Sort.grow (Go.Sort.putRow (Value.int .i64) (Go.Sort.ahead w n) g 0 (l.mergeSort fun x y=>decide (x≤y)).toArray) os:=⟨_,rfl⟩
  have hw:∀ b,b<w.heap.size→W.heap[b]?=if b=g then some (.cells (Go.Sort.putCells (Value.int .i64) 0 (sortI l).toArray cur) 3 (0,0)) else w.heap[b]?:=fun b hb=>by
   rw [eW,Go.Sort.heap_grow_old _ _ (by simpa [Go.Sort.ahead] using hb)]
   by_cases e:b=g
   ·subst e
    simp [Go.Sort.putRow,Go.Sort.mapBlock,Go.Sort.ahead,Array.getElem?_modify,hheap,Go.Sort.onCells,sortI]
   ·simp [Go.Sort.putRow,Go.Sort.mapBlock,Go.Sort.ahead,Array.getElem?_modify,e,Ne.symm e]
  have hsz2:w.heap.size≤W.heap.size:=by rw [eW];simp [Go.Sort.ahead]
  have hK:W.os=w.os∧W.tape=w.tape∧W.output=w.output:=by rw [eW];exact ⟨rfl,rfl,rfl⟩
  rw [←eW]
  clear eW
  have hsl:(sortI l).length=l.length:=by simp [sortI]
  refine ⟨_,β,rfl,Names.le.refl β,fun _ _=>rfl,.tup _ _ rfl (fun j v x h=>by simp at h),⟨fun k o hm=>?_,by simp [keysO],fun k k' h1 h2 hne=>?_,fun k hk b hb=>?_⟩,⟨hK.1,hK.2.1,hK.2.2,hsz2,fun b hb hnb=>?_⟩,fun k hk b hb=>.inr ⟨k,hk,hb⟩⟩
  ·simp only [List.mem_singleton,Prod.mk.injEq] at hm
   obtain ⟨rfl,rfl⟩:=hm
   refine ⟨_,(Go.Sort.putCells (Value.int .i64) 0 (sortI l).toArray cur).toList.take l.length,q1,⟨?_,.inr ⟨g,cap,_,by rw [hsl],hc0,by rw [hw g hg,if_pos rfl],by rw [hsl];exact hn,hcm,?_,by rw [hsl,Nat.mul_one]⟩⟩,fun i hi=>rfl,fun i j hi hj x hx'=>?_⟩
   ·simp [Go.Sort.putCells,hsl];omega
   ·simp [Go.Sort.putCells];omega
   ·have hi':i<(sortI l).length:=hi
    obtain rfl:j=0:=by omega
    simp only [List.getElem?_cons_zero,Option.some.injEq] at hx'
    subst hx'
    have hic:i<cur.size:=by omega
    refine ⟨.int .i64 ((sortI l).getD i 0),?_,.int _ _⟩
    rw [Nat.mul_one,Nat.add_zero,List.getElem?_take_of_lt (by omega),Array.getElem?_toList]
    simp only [Go.Sort.putCells,Array.getElem?_mapIdx,Array.getElem?_eq_getElem hic,Option.map_some,List.size_toArray]
    rw [if_pos ⟨Nat.zero_le _,by omega⟩]
    simp [List.getD_eq_getElem?_getD,hi']
  ·simp [keysO] at h1 h2;omega
  ·have:=hins.lt k (by simpa [keysO] using hk) b hb
   exact ⟨by omega,this.2⟩
  ·rw [hw b hb,if_neg]
   rintro rfl
   exact hnb ⟨900,by simp [keysO],hbk⟩
end Go.Proofs.YtanppabbmffokaaGreat
end
section
namespace Go.Proofs.YtanppabbmffokaaGreat
open Go.Shelf Go.Proofs Go.Bx
def lays220_ren : Go.Shelf.Ren := ⟨fun | 20 => 74 | n => n, fun | 22 => 46 | 3 => 3 | 4 => 4 | 0 => 0 | n => n, fun  | n => n⟩
theorem lays220 : Lays2.n20 Tryz.prog lays220_ren := {
  mixed := by kernel_rfl, f20 := Tryz.func74.trans (congrArg some (by kernel_rfl)), t0 := Tryz.underlying0, a0 := Tryz.isAgg0, z0 := Tryz.sizeOf0, v0 := Tryz.zeroValue0,
  t3 := Tryz.underlying3, a3 := Tryz.isAgg3, z3 := Tryz.sizeOf3, v3 := Tryz.zeroValue3, t4 := Tryz.underlying4, a4 := Tryz.isAgg4,
  z4 := Tryz.sizeOf4, v4 := Tryz.zeroValue4, t22 := Tryz.underlying46, a22 := Tryz.isAgg46, z22 := Tryz.sizeOf46, v22 := Tryz.zeroValue46,
  i3 := by kernel_rfl }
def cmpcI (l:List Int):List Int:=Go.Lib.compact l
theorem cmpcI_len (l:List Int):(cmpcI l).length≤l.length:=by
 simp only [cmpcI,Go.Lib.compact,Go.Lib.compactUpTo,List.length_map]
 have:=List.length_filter_le (Go.Lib.keeps l.toArray) (List.range l.length)
 simpa using this
theorem cells_at {E:Nat→Prop} {w:World} {l:List Int} {xs:List Value} {cur:Array Value} {g cap:Nat} (hheap:w.heap[g]?=some (.cells cur 3 (0,0))) (htake:List.take (l.length*1) cur.toList=xs)
  (hcell:∀ i j,i<l.length→j<1→∀ (x:D),((fun i=>[D.int IntKind.i64 (l.getD i 0)]) i)[j]?=some x→∃ u,xs[i*1+j]?=some u∧RelD E w u x):Go.Sort.Holds (Value.int .i64) w g 0 l.toArray:=by
 intro j hj
 have hj':j<l.length:=by simpa using hj
 obtain ⟨u,g1,g2⟩:=hcell j 0 hj' (by decide) _ rfl
 have hu:u=.int .i64 (l.getD j 0):=by cases g2;rfl
 rw [←htake,Nat.mul_one,Nat.mul_one,Nat.add_zero,List.getElem?_take_of_lt hj',Array.getElem?_toList] at g1
 rw [Nat.zero_add]
 refine ⟨?_,by simp [World.frozen?,hheap]⟩
 simp only [World.cell?,hheap,g1,hu]
 simp [List.getD_eq_getElem?_getD,hj']
theorem sCompactI (l:List Int) (hl:l.length≤1000000):Ctr Tryz.prog 74 [.osl 900] [(900,rowZ l)] (.osl 7) [(7,rowZ (cmpcI l))] [7]:=by
 refine ⟨by kernel_rfl,by simp [keysO],by simp [keysO],fun E0 β w vals hE hsz hv hins hnn=>?_⟩
 obtain ⟨v,rfl⟩:∃ v,vals=#[v]:=by
  match vals,hsz with
  |⟨[v]⟩,_=>exact ⟨v,rfl⟩
 have h1:=hv 0 v (.osl 900) rfl rfl
 obtain ⟨v',xs,q1,⟨hx,hrow⟩,hlen,hcell⟩:=hins.ok 900 (rowZ l) (by simp)
 obtain rfl:v=v':=by
  cases h1 with
  |osl k u h _=>rw [h] at q1;injection q1
 have h7:β 7=none:=hnn 7 (by simp)
 have hcl:=cmpcI_len l
 have mk:∀ (u:Value) (w':World),u.oneCell'=true→(∃ xs,RowOk w' 3 1 u (cmpcI l).length xs∧∀ i j,i<(cmpcI l).length→j<1→∀ (x:D),([D.int IntKind.i64 ((cmpcI l).getD i 0)])[j]?=some x→∃ y,xs[i*1+j]?=some y∧∀ E,RelD E w' y x)→(∀ b,blkOf u=some b→β.blk 900=some b)→w.heap.size≤w'.heap.size→Keeps (ownB β [(900,rowZ l)]) w w' →
   ∃ v β',Ending.returned u=Ending.returned v∧β.le β'∧(∀ k,¬ k∈[7]→β' k=β k)∧RelV β' (Eo E0 β' [(7,rowZ (cmpcI l))]) w' v (.osl 7)∧OwnsOk E0 β' w' [(7,rowZ (cmpcI l))]∧Keeps (ownB β [(900,rowZ l)]) w w'∧∀ k,k∈keysO [(7,rowZ (cmpcI l))]→∀ b,β'.blk k=some b→w.heap.size≤b∨ownB β [(900,rowZ l)] b:=by
  rintro u w' hu1 ⟨xs',hr,hc⟩ hub hsz' hk
  have hb7:∀ k,k∈keysO [(7,rowZ (cmpcI l))]→∀ b,Names.blk (fun k=>if k=7 then some u else β k) k=some b→β.blk 900=some b:=fun k hk b hb=>by
   obtain rfl:k=7:=by simpa [keysO] using hk
   simp only [Names.blk,if_true,Option.bind_some] at hb
   exact hub b hb
  refine ⟨u,fun k=>if k=7 then some u else β k,rfl,fun k v h=>?_,fun k hk=>if_neg (by simpa using hk),.osl _ _ (if_pos rfl) hu1,⟨fun k o hm=>?_,by simp [keysO],fun k k' h1 h2 hne=>?_,fun k hk b hb=>?_⟩,hk,fun k hk b hb=>.inr ⟨900,by simp [keysO],hb7 k hk b hb⟩⟩
  ·simp only
   rw [if_neg]
   ·exact h
   ·rintro rfl;rw [h7] at h;cases h
  ·simp only [List.mem_singleton,Prod.mk.injEq] at hm
   obtain ⟨rfl,rfl⟩:=hm
   exact ⟨u,xs',if_pos rfl,hr,fun i hi=>rfl,fun i j hi hj x hx'=>by obtain ⟨y,g1,g2⟩:=hc i j hi hj x hx';exact ⟨y,g1,g2 _⟩⟩
  ·simp [keysO] at h1 h2;omega
  ·have:=hins.lt 900 (by simp [keysO]) b (hb7 k hk b hb)
   exact ⟨by omega,this.2⟩
 rcases hrow with ⟨⟨a,rfl⟩,h0⟩|⟨g,cap,cur,rfl,hc0,hheap,hn,hcm,hcs,htake⟩
 ·have e0:l=[]:=List.eq_nil_of_length_eq_zero h0
  refine (Any.slices_Compact_int_empty lays220 a 0 w).mono ?_
  rintro e w' ⟨rfl,rfl⟩
  have ec:(cmpcI l).length=0:=by omega
  exact mk _ _ rfl ⟨[],⟨by rw [ec];rfl,.inl ⟨⟨a,rfl⟩,ec⟩⟩,fun i j hi=>by omega⟩ (fun b hb=>by rw [Names.blk,q1];exact hb) (Nat.le_refl _) (Keeps.refl _ _)
 ·have hH:=cells_at (E:=Eo E0 β [(900,rowZ l)]) (cap:=cap) hheap htake hcell
  have hg:g<w.heap.size:=(Array.getElem?_eq_some_iff.1 hheap).1
  refine (Any.slices_Compact_int lays220 g 0 cap l w hH (by omega) hn).mono ?_
  rintro e w' ⟨rfl,q,rfl⟩
  have hbk:β.blk 900=some g:=by simp [Names.blk,q1,blkOf];omega
  obtain ⟨W,eW⟩:∃ W,W=Go.Sort.putRow (Value.int .i64) (Go.Sort.ahead w q) g 0 (Go.Lib.compact l++List.replicate (l.length-(Go.Lib.compact l).length) 0).toArray:=⟨_,rfl⟩
  have hw:∀ b,W.heap[b]?=if b=g then some (.cells (Go.Sort.putCells (Value.int .i64) 0 (cmpcI l++List.replicate (l.length-(cmpcI l).length) 0).toArray cur) 3 (0,0)) else w.heap[b]?:=fun b=>by
   rw [eW]
   by_cases e:b=g
   ·subst e
    simp [Go.Sort.putRow,Go.Sort.mapBlock,Go.Sort.ahead,Array.getElem?_modify,hheap,Go.Sort.onCells,cmpcI]
   ·simp [Go.Sort.putRow,Go.Sort.mapBlock,Go.Sort.ahead,Array.getElem?_modify,e,Ne.symm e]
  have hsz2:w.heap.size=W.heap.size:=by rw [eW];simp [Go.Sort.ahead]
  have hK:W.os=w.os∧W.tape=w.tape∧W.output=w.output:=by rw [eW];exact ⟨rfl,rfl,rfl⟩
  rw [←eW]
  clear eW
  refine mk _ W rfl ⟨(Go.Sort.putCells (Value.int .i64) 0 (cmpcI l++List.replicate (l.length-(cmpcI l).length) 0).toArray cur).toList.take (cmpcI l).length,⟨?_,.inr ⟨g,cap,_,rfl,hc0,by rw [hw g,if_pos rfl],by omega,hcm,?_,by rw [Nat.mul_one]⟩⟩,fun i j hi hj x hx'=>?_⟩ (fun b hb=>by
   rw [hbk,←hb];simp [blkOf];omega) (by omega) ⟨hK.1,hK.2.1,hK.2.2,by omega,fun b hb hnb=>?_⟩
  ·simp [Go.Sort.putCells];omega
  ·simp [Go.Sort.putCells];omega
  ·obtain rfl:j=0:=by omega
   simp only [List.getElem?_cons_zero,Option.some.injEq] at hx'
   subst hx'
   have hic:i<cur.size:=by omega
   refine ⟨.int .i64 ((cmpcI l).getD i 0),?_,fun E=>.int _ _⟩
   rw [Nat.mul_one,Nat.add_zero,List.getElem?_take_of_lt hi,Array.getElem?_toList]
   simp only [Go.Sort.putCells,Array.getElem?_mapIdx,Array.getElem?_eq_getElem hic,Option.map_some,List.size_toArray]
   rw [if_pos ⟨Nat.zero_le _,by simp;omega⟩]
   simp [List.getD_eq_getElem?_getD,List.getElem?_append_left hi,hi]
  ·rw [hw b,if_neg]
   rintro rfl
   exact hnb ⟨900,by simp [keysO],hbk⟩
end Go.Proofs.YtanppabbmffokaaGreat
end
section
namespace Go.Proofs.YtanppabbmffokaaGreat
open Go.Bx
set_option maxRecDepth 10000
def mapP (v:Vs) (s:Sl):Sl:=if s.on=true then { s with yr:=(yearR v s.rk s.cv).1 } else s
def errP (v:Vs):List Sl→Int
 |[]=>0
 |s::r=>if s.on=true∧(yearR v s.rk s.cv).2≠0 then (yearR v s.rk s.cv).2 else errP v r
def ofS (h:Hi) (t:List Vs):List Sl×Int:=
 if rightHi h=false then ([],1) else
  match atV t h.tm.sf with
  |none=>([],7)
  |some v=>if errP v (cutS h)=0 then ((cutS h).map (mapP v),0) else ([],errP v (cutS h))
theorem cutS_ok {h:Hi} (z:SzC h):(cutS h).length≤h.ch.length+1∧∀ s,s∈cutS h→s.cv.length≤1000000:=by
 have hI:=cutK_ok z.t z.c h.ch.length
 refine ⟨?_,endO_cv hI.now hI.cv⟩
 have h1:=endO_len (cutK h h.ch.length).1 (cutK h h.ch.length).2 h.tm.st
 have h2:=hI.len
 simp only [cutS];omega
theorem SzC.hi {h:Hi} (z:SzC h):SzHi h:=⟨by have:=z.t;omega,by have:=z.n;omega,fun c hc=>by have:=z.c c hc;omega⟩
def upK (v:Vs) (l:List Sl) (k:Nat):List Sl:=(l.take k).map (mapP v)++l.drop k
theorem upK_len (v:Vs) (l:List Sl) (k:Nat):(upK v l k).length=l.length:=by simp [upK];omega
theorem upK_get {v:Vs} {l:List Sl} {k i:Nat} (hi:i<l.length):(upK v l k).getD i default=if i<k then mapP v (l.getD i default) else l.getD i default:=by
 simp only [upK,List.getD_eq_getElem?_getD,List.getElem?_append,List.length_map,List.length_take]
 by_cases h:i<k
 ·rw [if_pos (by omega),if_pos h,List.getElem?_map,List.getElem?_take_of_lt h,List.getElem?_eq_getElem hi];rfl
 ·rw [if_neg (by omega),if_neg h,List.getElem?_drop]
  congr 2;omega
set_option maxHeartbeats 2000000 in
theorem sOfS (hh:Hi) (t:List Vs) (z:SzC hh) (ht:t.length≤1000000) (hz:∀ v,v∈t→SzV v):Ctr Tryz.prog 24 [vHi hh,.ag [.d (slV t)]] [] (.tup [.d (slS (ofS hh t).1),.d (.int .i64 (ofS hh t).2)]) [] []:=by
 have cr:=sRightHi hh z.hi
 have ca:=sAtV t hh.tm.sf ht hz
 have cc:=(sCut hh z).sw 7 1000
 obtain ⟨hl1,hl2⟩:=cutS_ok z
 have hn:=z.n
 simp only [vHi,cHi,slC,slH,dCh] at cr
 simp only [vHi,cHi,slC,slH,dCh,rowS,vcd,↓vcp,seval] at cc
 simp only [slV,dVs,vV,cV,slB] at ca
 have nl:∀ {sz:Nat} {f g:Nat→List D},VLe (.d (.sl true 0 0 g)) (.d (.sl false sz 0 f)):=VLe.nil rfl (fun h=>by cases h)
 cases hr:rightHi hh with
 |false =>
  have e:ofS hh t=([],1):=by rw [ofS,if_pos hr]
  rw [hr] at cr
  rw [e]
  refine ctr_pure Tryz.func24 ok24 rfl cc24 cr24 Tryz.ntmps24 (by simp) rfl rfl ?_;intro c hP hfn;simp only [kc24,vHi,cHi,slC,slH,dCh,slV,dVs,slB,vcd,↓vcp,seval]
  repeat' first|((first|refine tp hP (by exact cr) ?_|refine tg hP (fun _=>by exact cr) ?_|refine tv hP rfl (by exact cr) ?_);try simp only [vcd,↓vcp,seval])|refine And.intro (fun h=>?_) (fun h=>?_)|refine aO ?_|(refine tA rfl rfl rfl rfl ?_;try simp only [vcd,↓vcp,seval])|refine aT ?_|fail
  refine RetK.pure (by simp only [rs24,rsb,vcd,↓vcp,seval]) ?_
  simp only [rs24,rsb,vcd,↓vcp,seval]
  exact VLe.tups ⟨nl,VLe.refl _,trivial⟩
 |true =>
  rw [hr] at cr
  cases hat:atV t hh.tm.sf with
  |none =>
   have e:ofS hh t=([],7):=by rw [ofS,if_neg (by rw [hr];simp),hat]
   have n0:((7:Int) != 0)=true:=rfl
   rw [hat] at ca
   simp only [atO,atE,Option.getD_none,Option.isSome_none,Bool.false_eq_true,if_false] at ca
   rw [e]
   refine ctr_pure Tryz.func24 ok24 rfl cc24 cr24 Tryz.ntmps24 (by simp) rfl rfl ?_;intro c hP hfn;simp only [kc24,vHi,cHi,slC,slH,dCh,slV,dVs,slB,vcd,↓vcp,seval]
   repeat' first|((first|refine tp hP (by first|exact cr|exact ca) ?_|refine tg hP (fun _=>by first|exact cr|exact ca) ?_|refine tv hP rfl (by first|exact cr|exact ca) ?_);try simp only [n0,vcd,↓vcp,seval])|refine And.intro (fun h=>?_) (fun h=>?_)|refine aO ?_|(refine tA rfl rfl rfl rfl ?_;try simp only [n0,vcd,↓vcp,seval])|refine aT ?_|fail
   refine RetK.pure (by simp only [rs24,rsb,vcd,↓vcp,seval]) ?_
   simp only [rs24,rsb,vcd,↓vcp,seval]
   exact VLe.tups ⟨nl,VLe.refl _,trivial⟩
  |some v =>
   have hvz:SzV v:=hz v (by
    have:=List.mem_of_find?_eq_some hat
    simpa using this)
   have e:ofS hh t=if errP v (cutS hh)=0 then ((cutS hh).map (mapP v),0) else ([],errP v (cutS hh)):=by rw [ofS,if_neg (by rw [hr];simp),hat]
   have n0:((0:Int) != 0)=false:=rfl
   rw [hat] at ca
   simp only [atO,atE,Option.getD_some,Option.isSome_some,if_true] at ca
   rw [e]
   generalize cutS hh=L at *
   refine ctr_pure Tryz.func24 ok24 rfl cc24 cr24 Tryz.ntmps24 (by simp) rfl rfl ?_;intro c hP hfn;simp only [kc24,vHi,cHi,slC,slH,dCh,slV,dVs,slB,vcd,↓vcp,seval]
   repeat' first|((first|refine tp hP (by first|exact cr|exact ca) ?_|refine tg hP (fun _=>by first|exact cr|exact ca) ?_|refine tv hP rfl (by first|exact cr|exact ca) ?_);try simp only [n0,vcd,↓vcp,seval])|refine And.intro (fun h=>?_) (fun h=>?_)|refine aO ?_|(refine tA rfl rfl rfl rfl ?_;try simp only [n0,vcd,↓vcp,seval])|refine aT ?_|fail
   refine TR.call [] [(1000,rowS L)] (.osl 1000) [1000] (by rw [hP];exact cc) (by repeat' first|exact trivial|(intro _;assumption)|apply And.intro) (fun k o h=>by simp at h) (by simp [keysO]) (by simp) ?_
   simp only [rowS,n0,vcd,↓vcp,seval]
   repeat' first|refine And.intro (fun h=>?_) (fun h=>?_)|refine aO ?_|(refine tA rfl rfl rfl rfl ?_;try simp only [n0,vcd,↓vcp,seval])|refine aT ?_|fail
   refine vcC.loop (X:=Nat) (fun k=>⟨[(6,.own 6 0),(8,.osl 1000),(28,.osl 1000),(29,.d (.int .i64 L.length)),(30,.d (.int .i64 k))],[(6,.fix (cV v)),(1000,rowS (upK v L k))],[6,1000]⟩)
    (fun k=>k≤L.length∧errP v L=errP v (L.drop k)) (fun k=>L.length-k) 0 ⟨Nat.zero_le _,rfl⟩ (Wk.of _ hfn rfl (by simp only [enb,vcd,↓vcp,seval]) (by simp only [cV,slB,rowS,enb,vcd,↓vcp,seval];exact OLe.row (upK_len v L 0).symm (fun i hi=>by rw [upK_get hi,if_neg (Nat.not_lt_zero i)]))) ?_
   clear cr ca cc
   rintro k ⟨hk,he⟩
   have hul:=upK_len v L k
   by_cases hlt:k<L.length
   ·obtain ⟨s,hd,hg,hm,-⟩:=drop_at hlt
    have d0:decide ((k:Int)<(L.length:Int))=true:=decide_eq_true (by omega)
    have w1:IntKind.i64.wrap ((k:Int)+1)=((k+1:Nat):Int):=wS (by omega)
    have hgk:(upK v L k).getD k default=s:=by rw [upK_get hlt,if_neg (Nat.lt_irrefl k),hg]
    have b1:(0:Int)≤(k:Int)∧(k:Int)<((upK v L k).length:Int):=by omega
    have cy:=sYear v s.rk s.cv hvz.short (by have:=hl2 s hm;omega)
    simp only [vV,cV,slB,vR,cR,slC] at cy
    rw [hd,errP] at he
    cases hon:s.on with
    |false =>
     have hrow:∀ i,i<(upK v L k).length→dSl ((upK v L k).getD i default)=dSl ((upK v L (k+1)).getD i default):=fun i hi=>by
      rw [hul] at hi
      rw [upK_get hi,upK_get hi]
      by_cases h1:i<k
      ·rw [if_pos h1,if_pos (by omega)]
      ·rw [if_neg h1]
       by_cases h2:i=k
       ·subst h2;rw [if_pos (by omega),hg,mapP,if_neg (by rw [hon];simp)]
       ·rw [if_neg (by omega)]
     have he2:errP v L=errP v (L.drop (k+1)):=by rw [he,if_neg (by rw [hon];simp)]
     simp only [rowS,dSl,cV,slB,slC,d0,hgk,hon,vcd,↓vcp,seval]
     repeat' first|refine And.intro (fun h=>?_) (fun h=>?_)|refine aO ?_|(refine tA rfl rfl rfl rfl ?_;try simp only [d0,hgk,hon,w1,vcd,↓vcp,seval])|refine aT ?_|fail
     refine lopK.on (k+1) ⟨hlt,he2⟩ (by omega) (Wk.of _ hfn rfl (by simp only [w1,enb,vcd,↓vcp,seval]) ?_)
     simp only [cV,slB,rowS,enb,vcd,↓vcp,seval]
     exact OLe.row (by rw [hul,upK_len]) hrow
    |true =>
     obtain ⟨y,e1,hy⟩:∃ y e,yearR v s.rk s.cv=(y,e):=⟨_,_,rfl⟩
     rw [hy] at cy he
     simp only at cy he
     by_cases h0:e1=0
     ·subst h0
      have he2:errP v L=errP v (L.drop (k+1)):=by rw [he,if_neg (by simp)]
      simp only [rowS,dSl,cV,slB,slC,d0,hgk,hon,vcd,↓vcp,seval]
      repeat' first|((first|refine tp hP (by exact cy) ?_|refine tg hP (fun _=>by exact cy) ?_|refine tv hP rfl (by exact cy) ?_);try simp only [d0,hgk,hon,w1,n0,vcd,↓vcp,seval])|refine And.intro (fun h=>?_) (fun h=>?_)|refine aO ?_|(refine tA rfl rfl rfl rfl ?_;try simp only [d0,hgk,hon,w1,n0,vcd,↓vcp,seval])|refine aT ?_|fail
      refine lopK.on (k+1) ⟨hlt,he2⟩ (by omega) (Wk.of _ hfn rfl (by simp only [w1,enb,vcd,↓vcp,seval]) ?_)
      simp only [cV,slB,rowS,enb,vcd,↓vcp,seval]
      refine OLe.row (by rw [hul,upK_len]) (fun i hi=>?_)
      rw [hul] at hi
      rw [upK_get (k:=k+1) hi]
      by_cases h2:i=k
      ·subst h2
       rw [if_pos (Nat.lt_succ_self i),hg,mapP,if_pos hon,hy]
       simp [putD,dSl,slC,hon]
      ·rw [if_neg h2,upK_get hi]
       by_cases h1:i<k
       ·rw [if_pos h1,if_pos (by omega)]
       ·rw [if_neg h1,if_neg (by omega)]
     ·have n1:(e1 != 0)=true:=bne_iff_ne.2 h0
      have he2:errP v L=e1:=by rw [he,if_pos ⟨hon,h0⟩]
      rw [he2,if_neg h0]
      simp only [rowS,dSl,cV,slB,slC,d0,hgk,hon,vcd,↓vcp,seval]
      repeat' first|((first|refine tp hP (by exact cy) ?_|refine tg hP (fun _=>by exact cy) ?_|refine tv hP rfl (by exact cy) ?_);try simp only [d0,hgk,hon,w1,n1,vcd,↓vcp,seval])|refine And.intro (fun h=>?_) (fun h=>?_)|refine aO ?_|(refine tA rfl rfl rfl rfl ?_;try simp only [d0,hgk,hon,w1,n1,vcd,↓vcp,seval])|refine aT ?_|fail
      refine RetK.pure (by simp only [rs24,rsb,vcd,↓vcp,seval]) ?_
      simp only [rs24,rsb,vcd,↓vcp,seval]
      exact VLe.tups ⟨nl,VLe.refl _,trivial⟩
   ·have d0:decide ((k:Int)<(L.length:Int))=false:=decide_eq_false (by omega)
    have hkl:k=L.length:=by omega
    subst hkl
    rw [List.drop_length,errP] at he
    have hu:upK v L L.length=L.map (mapP v):=by simp [upK]
    rw [he,if_pos rfl]
    simp only [rowS,hu,d0,vcd,↓vcp,seval]
    repeat' first|refine And.intro (fun h=>?_) (fun h=>?_)|refine aO ?_|(refine tA rfl rfl rfl rfl ?_;try simp only [vcd,↓vcp,seval])|refine aT ?_|fail
    refine RetK.mk _ (Wk.pub 1000 rfl) (by simp only [rs24,rsb,vcd,↓vcp,seval]) ?_ trivial
    simp only [rs24,rsb,vcd,↓vcp,seval]
    exact VLe.refl _
end Go.Proofs.YtanppabbmffokaaGreat
end
section
namespace Go.Proofs.YtanppabbmffokaaGreat
open Go.Bx
set_option maxRecDepth 10000
def zHi:Hi:=⟨0,0,⟨0,0,⟨0,0,0,0⟩,[]⟩,[]⟩
def lastB (h:Hi):Int:=if 0<h.ch.length then (h.ch.getD (h.ch.length-1) default).bk else h.bk
def putC (h:Hi) (c:Ch):Hi×Int:=
 if (rightCh c&&inT h.tm c.dy)=false then (zHi,1) else if c.bk<lastB h then (zHi,4) else if h.ch.length≥2000 then (zHi,2) else ({ h with ch:=h.ch++[c] },0)
theorem vle_nil {sz:Nat} {f g:Nat→List D}:VLe (.d (.sl true 0 0 g)) (.d (.sl false sz 0 f)):=VLe.nil rfl (fun h=>by cases h)
theorem vle_zHi {g1 g2:Nat→List D}:VLe (.ag [.d (.int .i64 0),.d (.int .i64 0),.d (.int .i64 0),.d (.int .i64 0),.d (.int .i64 0),.d (.int .i64 0),.d (.int .i64 0),.d (.int .i64 0),.d (.sl true 0 0 g1),.d (.sl true 0 0 g2)]) (vHi zHi):=
 VLe.ags ⟨VLe.refl _,VLe.refl _,VLe.refl _,VLe.refl _,VLe.refl _,VLe.refl _,VLe.refl _,VLe.refl _,vle_nil,vle_nil,trivial⟩
theorem vle_snocH {l:List Ch} {c:Ch} {F:Nat→List D} (h1:∀ i,i<l.length→F i=dCh (l.getD i default)) (h2:F l.length=dCh c):VLe (.d (.sl false 9 (l.length+1) F)) (.d (slH (l++[c]))):=
 VLe.sl (by simp) (fun _=>rfl) id fun i hi=>by
  by_cases h:i<l.length
  ·rw [h1 i h,List.getD_eq_getElem?_getD,List.getD_eq_getElem?_getD,List.getElem?_append_left h]
  ·have:i=l.length:=by omega
   subst this
   rw [h2];simp [List.getD_eq_getElem?_getD]
set_option maxHeartbeats 2000000 in
theorem sPutC (hh:Hi) (c':Ch) (ht:hh.tm.cv.length≤1000000) (hl:c'.cv.length≤1000000) (hn:hh.ch.length≤1000000):Ctr Tryz.prog 10 [vHi hh,vCh c'] [] (.tup [vHi (putC hh c').1,.d (.int .i64 (putC hh c').2)]) [] []:=by
 have cr:=sRightCh c' (by omega)
 have ci:=sIn hh.tm.sf hh.tm.st c'.dy
 have cc:=pCloneC c'.cv hl
 have co:=sOwnT hh.tm ht
 simp only [vCh,cCh,slC] at cr
 simp only [vS] at ci
 simp only [slC] at cc
 simp only [vTm,cTm,slC] at co
 have hlast:∀ {d:Ch},0<hh.ch.length→lastB hh=(hh.ch.getD (hh.ch.length-1) d).bk:=fun {d} h=>by
  obtain ⟨x,-,hg,-,-⟩:=drop_at (l:=hh.ch) (k:=hh.ch.length-1) (by omega)
  rw [lastB,if_pos h,hg,hg]
 have w1:0<hh.ch.length→IntKind.i64.wrap ((hh.ch.length:Int)-1)=((hh.ch.length-1:Nat):Int):=fun h=>(wI (by omega)).trans (by omega)
 cases hr:rightCh c' with
 |false =>
  have e:putC hh c'=(zHi,1):=by rw [putC,if_pos (by rw [hr];rfl)]
  rw [hr] at cr
  rw [e]
  by_cases h0:0<hh.ch.length
  ·have d0:decide ((hh.ch.length:Int)>0)=true:=decide_eq_true (by omega)
   have w1:=w1 h0
   have b1:(0:Int)≤((hh.ch.length-1:Nat):Int)∧((hh.ch.length-1:Nat):Int)<(hh.ch.length:Int):=by omega
   refine ctr_pure Tryz.func10 ok10 rfl cc10 cr10 Tryz.ntmps10 (by simp) rfl rfl ?_;intro c hP hfn;simp only [kc10,vHi,cHi,vCh,cCh,slC,slH,dCh,d0,w1,vcd,↓vcp,seval]
   repeat' first|((first|refine tp hP (by first|exact cr|exact ci) ?_|refine tg hP (fun _=>by first|exact cr|exact ci) ?_|refine tv hP rfl (by first|exact cr|exact ci) ?_);try simp only [d0,w1,vcd,↓vcp,seval])|refine And.intro (fun h=>?_) (fun h=>?_)|refine aO ?_|(refine tA rfl rfl rfl rfl ?_;try simp only [d0,w1,vcd,↓vcp,seval])|refine aT ?_|fail
   all_goals
    refine RetK.pure (by simp only [rs10,rsb,vcd,↓vcp,seval]) ?_
    simp only [rs10,rsb,vcd,↓vcp,seval]
    exact VLe.tups ⟨vle_zHi,VLe.refl _,trivial⟩
  ·have d0:decide ((hh.ch.length:Int)>0)=false:=decide_eq_false (by omega)
   refine ctr_pure Tryz.func10 ok10 rfl cc10 cr10 Tryz.ntmps10 (by simp) rfl rfl ?_;intro c hP hfn;simp only [kc10,vHi,cHi,vCh,cCh,slC,slH,dCh,d0,vcd,↓vcp,seval]
   repeat' first|((first|refine tp hP (by first|exact cr|exact ci) ?_|refine tg hP (fun _=>by first|exact cr|exact ci) ?_|refine tv hP rfl (by first|exact cr|exact ci) ?_);try simp only [d0,vcd,↓vcp,seval])|refine And.intro (fun h=>?_) (fun h=>?_)|refine aO ?_|(refine tA rfl rfl rfl rfl ?_;try simp only [d0,vcd,↓vcp,seval])|refine aT ?_|fail
   all_goals
    refine RetK.pure (by simp only [rs10,rsb,vcd,↓vcp,seval]) ?_
    simp only [rs10,rsb,vcd,↓vcp,seval]
    exact VLe.tups ⟨vle_zHi,VLe.refl _,trivial⟩
 |true =>
 rw [hr] at cr
 cases hi:inT hh.tm c'.dy with
 |false =>
  have e:putC hh c'=(zHi,1):=by rw [putC,if_pos (by rw [hr,hi];rfl)]
  simp only [inT] at hi
  rw [hi] at ci
  rw [e]
  by_cases h0:0<hh.ch.length
  ·have d0:decide ((hh.ch.length:Int)>0)=true:=decide_eq_true (by omega)
   have w1:=w1 h0
   have b1:(0:Int)≤((hh.ch.length-1:Nat):Int)∧((hh.ch.length-1:Nat):Int)<(hh.ch.length:Int):=by omega
   refine ctr_pure Tryz.func10 ok10 rfl cc10 cr10 Tryz.ntmps10 (by simp) rfl rfl ?_;intro c hP hfn;simp only [kc10,vHi,cHi,vCh,cCh,slC,slH,dCh,d0,w1,vcd,↓vcp,seval]
   repeat' first|((first|refine tp hP (by first|exact cr|exact ci) ?_|refine tg hP (fun _=>by first|exact cr|exact ci) ?_|refine tv hP rfl (by first|exact cr|exact ci) ?_);try simp only [d0,w1,vcd,↓vcp,seval])|refine And.intro (fun h=>?_) (fun h=>?_)|refine aO ?_|(refine tA rfl rfl rfl rfl ?_;try simp only [d0,w1,vcd,↓vcp,seval])|refine aT ?_|fail
   all_goals
    refine RetK.pure (by simp only [rs10,rsb,vcd,↓vcp,seval]) ?_
    simp only [rs10,rsb,vcd,↓vcp,seval]
    exact VLe.tups ⟨vle_zHi,VLe.refl _,trivial⟩
  ·have d0:decide ((hh.ch.length:Int)>0)=false:=decide_eq_false (by omega)
   refine ctr_pure Tryz.func10 ok10 rfl cc10 cr10 Tryz.ntmps10 (by simp) rfl rfl ?_;intro c hP hfn;simp only [kc10,vHi,cHi,vCh,cCh,slC,slH,dCh,d0,vcd,↓vcp,seval]
   repeat' first|((first|refine tp hP (by first|exact cr|exact ci) ?_|refine tg hP (fun _=>by first|exact cr|exact ci) ?_|refine tv hP rfl (by first|exact cr|exact ci) ?_);try simp only [d0,vcd,↓vcp,seval])|refine And.intro (fun h=>?_) (fun h=>?_)|refine aO ?_|(refine tA rfl rfl rfl rfl ?_;try simp only [d0,vcd,↓vcp,seval])|refine aT ?_|fail
   all_goals
    refine RetK.pure (by simp only [rs10,rsb,vcd,↓vcp,seval]) ?_
    simp only [rs10,rsb,vcd,↓vcp,seval]
    exact VLe.tups ⟨vle_zHi,VLe.refl _,trivial⟩
 |true =>
 have e0:putC hh c'=if c'.bk<lastB hh then (zHi,4) else if hh.ch.length≥2000 then (zHi,2) else ({ hh with ch:=hh.ch++[c'] },0):=by rw [putC,if_neg (by rw [hr,hi];simp)]
 simp only [inT] at hi
 rw [hi] at ci
 rw [e0]
 clear e0
 by_cases h0:0<hh.ch.length
 ·have d0:decide ((hh.ch.length:Int)>0)=true:=decide_eq_true (by omega)
  have w1:=w1 h0
  have b1:(0:Int)≤((hh.ch.length-1:Nat):Int)∧((hh.ch.length-1:Nat):Int)<(hh.ch.length:Int):=by omega
  rw [hlast h0 (d:=default)]
  by_cases ho:c'.bk<(hh.ch.getD (hh.ch.length-1) default).bk
  ·rw [if_pos ho]
   have dd:decide (c'.bk<(hh.ch.getD (hh.ch.length-1) default).bk)=true:=decide_eq_true ho
   refine ctr_pure Tryz.func10 ok10 rfl cc10 cr10 Tryz.ntmps10 (by simp) rfl rfl ?_;intro c hP hfn;simp only [kc10,vHi,cHi,vCh,cCh,slC,slH,dCh,d0,w1,dd,vcd,↓vcp,seval]
   repeat' first|((first|refine tp hP (by first|exact cr|exact ci) ?_|refine tg hP (fun _=>by first|exact cr|exact ci) ?_|refine tv hP rfl (by first|exact cr|exact ci) ?_);try simp only [d0,w1,dd,vcd,↓vcp,seval])|refine And.intro (fun h=>?_) (fun h=>?_)|refine aO ?_|(refine tA rfl rfl rfl rfl ?_;try simp only [d0,w1,dd,vcd,↓vcp,seval])|refine aT ?_|fail
   all_goals
    refine RetK.pure (by simp only [rs10,rsb,vcd,↓vcp,seval]) ?_
    simp only [rs10,rsb,vcd,↓vcp,seval]
    exact VLe.tups ⟨vle_zHi,VLe.refl _,trivial⟩
  ·rw [if_neg ho]
   have dd:decide (c'.bk<(hh.ch.getD (hh.ch.length-1) default).bk)=false:=decide_eq_false ho
   by_cases hb:hh.ch.length≥2000
   ·rw [if_pos hb]
    have de:decide ((hh.ch.length:Int)≥2000)=true:=decide_eq_true (by omega)
    refine ctr_pure Tryz.func10 ok10 rfl cc10 cr10 Tryz.ntmps10 (by simp) rfl rfl ?_;intro c hP hfn;simp only [kc10,vHi,cHi,vCh,cCh,slC,slH,dCh,d0,w1,dd,de,vcd,↓vcp,seval]
    repeat' first|((first|refine tp hP (by first|exact cr|exact ci) ?_|refine tg hP (fun _=>by first|exact cr|exact ci) ?_|refine tv hP rfl (by first|exact cr|exact ci) ?_);try simp only [d0,w1,dd,de,vcd,↓vcp,seval])|refine And.intro (fun h=>?_) (fun h=>?_)|refine aO ?_|(refine tA rfl rfl rfl rfl ?_;try simp only [d0,w1,dd,de,vcd,↓vcp,seval])|refine aT ?_|fail
    all_goals
     refine RetK.pure (by simp only [rs10,rsb,vcd,↓vcp,seval]) ?_
     simp only [rs10,rsb,vcd,↓vcp,seval]
     exact VLe.tups ⟨vle_zHi,VLe.refl _,trivial⟩
   ·rw [if_neg hb]
    have de:decide ((hh.ch.length:Int)≥2000)=false:=decide_eq_false (by omega)
    have hroom:(hh.ch.length+1)*88≤140737488355328∧hh.ch.length+1≤maxLen:=⟨by omega,by simp only [maxLen];omega⟩
    refine ctr_pure Tryz.func10 ok10 rfl cc10 cr10 Tryz.ntmps10 (by simp) rfl rfl ?_;intro c hP hfn;simp only [kc10,vHi,cHi,vCh,cCh,slC,slH,dCh,d0,w1,dd,de,vcd,↓vcp,seval]
    repeat' first|((first|refine tp hP (by first|exact cr|exact ci|exact cc|exact co) ?_|refine tg hP (fun _=>by first|exact cr|exact ci|exact cc|exact co) ?_|refine tv hP rfl (by first|exact cr|exact ci|exact cc|exact co) ?_);try simp only [d0,w1,dd,de,vcd,↓vcp,seval])|refine And.intro (fun h=>?_) (fun h=>?_)|refine aO ?_|(refine tA rfl rfl rfl rfl ?_;try simp only [d0,w1,dd,de,vcd,↓vcp,seval])|refine aT ?_|fail
    refine RetK.mk _ (Wk.pub 61 rfl) (by simp only [rs10,rsb,vcd,↓vcp,seval]) ?_ trivial
    simp only [rs10,rsb,vcd,↓vcp,seval]
    exact VLe.tups ⟨VLe.ags ⟨VLe.refl _,VLe.refl _,VLe.refl _,VLe.refl _,VLe.refl _,VLe.refl _,VLe.refl _,VLe.refl _,VLe.refl _,vle_snocH (fun i hi=>by simp [hi,dCh,slC]) (by simp [dCh,slC]),trivial⟩,VLe.refl _,trivial⟩
 ·have d0:decide ((hh.ch.length:Int)>0)=false:=decide_eq_false (by omega)
  rw [show lastB hh=hh.bk from if_neg h0]
  by_cases ho:c'.bk<hh.bk
  ·rw [if_pos ho]
   have dd:decide (c'.bk<hh.bk)=true:=decide_eq_true ho
   refine ctr_pure Tryz.func10 ok10 rfl cc10 cr10 Tryz.ntmps10 (by simp) rfl rfl ?_;intro c hP hfn;simp only [kc10,vHi,cHi,vCh,cCh,slC,slH,dCh,d0,dd,vcd,↓vcp,seval]
   repeat' first|((first|refine tp hP (by first|exact cr|exact ci) ?_|refine tg hP (fun _=>by first|exact cr|exact ci) ?_|refine tv hP rfl (by first|exact cr|exact ci) ?_);try simp only [d0,dd,vcd,↓vcp,seval])|refine And.intro (fun h=>?_) (fun h=>?_)|refine aO ?_|(refine tA rfl rfl rfl rfl ?_;try simp only [d0,dd,vcd,↓vcp,seval])|refine aT ?_|fail
   all_goals
    refine RetK.pure (by simp only [rs10,rsb,vcd,↓vcp,seval]) ?_
    simp only [rs10,rsb,vcd,↓vcp,seval]
    exact VLe.tups ⟨vle_zHi,VLe.refl _,trivial⟩
  ·rw [if_neg ho]
   have dd:decide (c'.bk<hh.bk)=false:=decide_eq_false ho
   by_cases hb:hh.ch.length≥2000
   ·rw [if_pos hb]
    have de:decide ((hh.ch.length:Int)≥2000)=true:=decide_eq_true (by omega)
    refine ctr_pure Tryz.func10 ok10 rfl cc10 cr10 Tryz.ntmps10 (by simp) rfl rfl ?_;intro c hP hfn;simp only [kc10,vHi,cHi,vCh,cCh,slC,slH,dCh,d0,dd,de,vcd,↓vcp,seval]
    repeat' first|((first|refine tp hP (by first|exact cr|exact ci) ?_|refine tg hP (fun _=>by first|exact cr|exact ci) ?_|refine tv hP rfl (by first|exact cr|exact ci) ?_);try simp only [d0,dd,de,vcd,↓vcp,seval])|refine And.intro (fun h=>?_) (fun h=>?_)|refine aO ?_|(refine tA rfl rfl rfl rfl ?_;try simp only [d0,dd,de,vcd,↓vcp,seval])|refine aT ?_|fail
    all_goals
     refine RetK.pure (by simp only [rs10,rsb,vcd,↓vcp,seval]) ?_
     simp only [rs10,rsb,vcd,↓vcp,seval]
     exact VLe.tups ⟨vle_zHi,VLe.refl _,trivial⟩
   ·rw [if_neg hb]
    have de:decide ((hh.ch.length:Int)≥2000)=false:=decide_eq_false (by omega)
    have hroom:(hh.ch.length+1)*88≤140737488355328∧hh.ch.length+1≤maxLen:=⟨by omega,by simp only [maxLen];omega⟩
    refine ctr_pure Tryz.func10 ok10 rfl cc10 cr10 Tryz.ntmps10 (by simp) rfl rfl ?_;intro c hP hfn;simp only [kc10,vHi,cHi,vCh,cCh,slC,slH,dCh,d0,dd,de,vcd,↓vcp,seval]
    repeat' first|((first|refine tp hP (by first|exact cr|exact ci|exact cc|exact co) ?_|refine tg hP (fun _=>by first|exact cr|exact ci|exact cc|exact co) ?_|refine tv hP rfl (by first|exact cr|exact ci|exact cc|exact co) ?_);try simp only [d0,dd,de,vcd,↓vcp,seval])|refine And.intro (fun h=>?_) (fun h=>?_)|refine aO ?_|(refine tA rfl rfl rfl rfl ?_;try simp only [d0,dd,de,vcd,↓vcp,seval])|refine aT ?_|fail
    refine RetK.mk _ (Wk.pub 61 rfl) (by simp only [rs10,rsb,vcd,↓vcp,seval]) ?_ trivial
    simp only [rs10,rsb,vcd,↓vcp,seval]
    exact VLe.tups ⟨VLe.ags ⟨VLe.refl _,VLe.refl _,VLe.refl _,VLe.refl _,VLe.refl _,VLe.refl _,VLe.refl _,VLe.refl _,VLe.refl _,vle_snocH (fun i hi=>by simp [hi,dCh,slC]) (by simp [dCh,slC]),trivial⟩,VLe.refl _,trivial⟩
end Go.Proofs.YtanppabbmffokaaGreat
end
section
namespace Go.Proofs.YtanppabbmffokaaGreat
open Go.Bx
set_option maxRecDepth 10000
def kdC (l:List Ch) (i:Int):Int:=(l.getD i.toNat default).kd
def isT (l:List Ch) (i:Int):Bool:=(kdC l i == 3) || (kdC l i == 4)
def turnL (l:List Ch) (O:List Int):Option Int:=O.reverse.find? (isT l)
def turnS (h:Hi):Option Int:=turnL h.ch (orderC h.ch)
theorem turnL_snoc (l:List Ch) (O:List Int) (x:Int):turnL l (O++[x])=if isT l x=true then some x else turnL l O:=by
 rw [turnL,List.reverse_append,List.reverse_singleton,List.singleton_append,List.find?_cons]
 cases isT l x<;>rfl
theorem turnL_mem {l:List Ch} {O:List Int} {x:Int} (h:turnL l O=some x):x∈O∧isT l x=true:=by
 have h1:=List.mem_of_find?_eq_some h
 have h2:=List.find?_some h
 exact ⟨by simpa using h1,h2⟩
def turnV (o:Option Int):Int:=o.getD 0
set_option maxHeartbeats 1000000 in
theorem sTurn (hh:Hi) (hn:hh.ch.length≤1000000):Ctr Tryz.prog 86 [vHi hh] [] (.tup [.d (.int .i64 (turnV (turnS hh))),.d (.bool (turnS hh).isSome)]) [] []:=by
 have co:=sOrderC hh hn
 simp only [slK] at co
 have hol:=orderC_len hh.ch
 simp only [vHi,cHi,slC,slH,dCh] at co
 obtain ⟨O,hO⟩:∃ O,O=orderC hh.ch:=⟨_,rfl⟩
 have hok:∀ x,x∈O→okH hh.ch x:=by rw [hO];exact orderC_ok hh.ch
 rw [turnS]
 rw [←hO] at co hol ⊢
 clear hO
 refine ctr_pure Tryz.func86 ok86 rfl cc86 cr86 Tryz.ntmps86 (by simp) rfl rfl ?_;intro c hP hfn;simp only [kc86,vHi,cHi,slC,slH,dCh,vcd,↓vcp,seval]
 refine vcC.scope (X:=Nat) (fun k=>⟨[(1,.own 1 0),(4,.d (slK .i64 O)),(5,.d (.int .i64 (k:Nat)))],[(1,.fix (cHi hh))],[1]⟩) (fun k=>k≤O.length∧turnL hh.ch O=turnL hh.ch (O.take k)) (fun k=>k) ?_ ?_
 ·by_cases h0:O.length=0
  ·have d0:(((O.length:Nat):Int) == 0)=true:=by rw [beq_iff_eq];omega
   have e:turnL hh.ch O=none:=by
    rw [List.eq_nil_of_length_eq_zero h0];rfl
   rw [e]
   simp only [slK,d0,vcd,↓vcp,seval]
   repeat' first|((first|refine tp hP (by exact co) ?_|refine tg hP (fun _=>by exact co) ?_|refine tv hP rfl (by exact co) ?_);try simp only [d0,vcd,↓vcp,seval])|refine And.intro (fun h=>?_) (fun h=>?_)|refine aO ?_|(refine tA rfl rfl rfl rfl ?_;try simp only [d0,vcd,↓vcp,seval])|refine aT ?_|fail
   exact RetK.pure (by simp only [rs86,rsb,vcd,↓vcp,seval]) (by (simp only [rs86,rsb,enb,vcd,↓vcp,seval])<;>(first|exact VLe.refl _))
  ·have d0:(((O.length:Nat):Int) == 0)=false:=by rw [beq_eq_false_iff_ne];omega
   have w1:IntKind.i64.wrap (((O.length:Nat):Int)-1)=((O.length-1:Nat):Int):=(wI (by omega)).trans (by omega)
   obtain ⟨x,hd,hg,hm,hx⟩:=drop_at (l:=O) (k:=O.length-1) (by omega)
   have hg:=hg 0
   obtain ⟨h1,h2⟩:=hok x hm
   have he2:turnL hh.ch O=if isT hh.ch x=true then some x else turnL hh.ch (O.take (O.length-1)):=by
    conv=>lhs;rw [←List.take_length (l:=O)]
    conv=>lhs;rw [show O.length=(O.length-1)+1 by omega,List.take_add_one,hx]
    exact turnL_snoc _ _ _
   have b1:(0:Int)≤((O.length-1:Nat):Int)∧((O.length-1:Nat):Int)<(O.length:Int):=by omega
   by_cases hT:isT hh.ch x=true
   ·rw [if_pos hT] at he2
    have dk:(((hh.ch.getD x.toNat default).kd != 3)&&((hh.ch.getD x.toNat default).kd != 4))=false:=by
     simp only [isT,kdC,Bool.or_eq_true,beq_iff_eq] at hT
     rw [Bool.and_eq_false_iff,bne_eq_false_iff_eq,bne_eq_false_iff_eq];exact hT
    rw [he2]
    simp only [slK,d0,w1,hg,dk,vcd,↓vcp,seval]
    repeat' first|((first|refine tp hP (by exact co) ?_|refine tg hP (fun _=>by exact co) ?_|refine tv hP rfl (by exact co) ?_);try simp only [d0,w1,hg,dk,vcd,↓vcp,seval])|refine And.intro (fun h=>?_) (fun h=>?_)|refine aO ?_|(refine tA rfl rfl rfl rfl ?_;try simp only [d0,w1,hg,dk,vcd,↓vcp,seval])|refine aT ?_|fail
    exact RetK.pure (by simp only [rs86,rsb,vcd,↓vcp,seval]) (by (simp only [rs86,rsb,enb,vcd,↓vcp,seval])<;>(first|exact VLe.refl _))
   ·rw [if_neg hT] at he2
    have dk:(((hh.ch.getD x.toNat default).kd != 3)&&((hh.ch.getD x.toNat default).kd != 4))=true:=by
     simp only [isT,kdC,Bool.or_eq_true,beq_iff_eq] at hT
     rw [Bool.and_eq_true,bne_iff_ne,bne_iff_ne];omega
    simp only [slK,d0,w1,hg,dk,vcd,↓vcp,seval]
    repeat' first|((first|refine tp hP (by exact co) ?_|refine tg hP (fun _=>by exact co) ?_|refine tv hP rfl (by exact co) ?_);try simp only [d0,w1,hg,dk,vcd,↓vcp,seval])|refine And.intro (fun h=>?_) (fun h=>?_)|refine aO ?_|(refine tA rfl rfl rfl rfl ?_;try simp only [d0,w1,hg,dk,vcd,↓vcp,seval])|refine aT ?_|fail
    refine ⟨O.length-1,⟨by omega,he2⟩,Wk.of _ hfn rfl (by simp only [slK,w1,enb,vcd,↓vcp,seval]) (by simp only [cHi,slC,slH,dCh,enb,vcd,↓vcp,seval])⟩
 ·rintro k ⟨hk,he⟩
  by_cases h0:k=0
  ·have d0:(((k:Nat):Int) == 0)=true:=by rw [beq_iff_eq];omega
   have e:turnL hh.ch O=none:=by
    rw [he,h0];rfl
   rw [e]
   simp only [cHi,slC,slH,dCh,slK,d0,vcd,↓vcp,seval]
   repeat' first|refine And.intro (fun h=>?_) (fun h=>?_)|refine aO ?_|(refine tA rfl rfl rfl rfl ?_;try simp only [d0,vcd,↓vcp,seval])|refine aT ?_|fail
   exact RetK.pure (by simp only [rs86,rsb,vcd,↓vcp,seval]) (by (simp only [rs86,rsb,enb,vcd,↓vcp,seval])<;>(first|exact VLe.refl _))
  ·have d0:(((k:Nat):Int) == 0)=false:=by rw [beq_eq_false_iff_ne];omega
   have w1:IntKind.i64.wrap (((k:Nat):Int)-1)=((k-1:Nat):Int):=(wI (by omega)).trans (by omega)
   obtain ⟨x,hd,hg,hm,hx⟩:=drop_at (l:=O) (k:=k-1) (by omega)
   have hg:=hg 0
   obtain ⟨h1,h2⟩:=hok x hm
   have he2:turnL hh.ch O=if isT hh.ch x=true then some x else turnL hh.ch (O.take (k-1)):=by
    rw [he]
    conv=>lhs;rw [show k=(k-1)+1 by omega,List.take_add_one,hx]
    exact turnL_snoc _ _ _
   have b1:(0:Int)≤((k-1:Nat):Int)∧((k-1:Nat):Int)<(O.length:Int):=by omega
   by_cases hT:isT hh.ch x=true
   ·rw [if_pos hT] at he2
    have dk:(((hh.ch.getD x.toNat default).kd != 3)&&((hh.ch.getD x.toNat default).kd != 4))=false:=by
     simp only [isT,kdC,Bool.or_eq_true,beq_iff_eq] at hT
     rw [Bool.and_eq_false_iff,bne_eq_false_iff_eq,bne_eq_false_iff_eq];exact hT
    rw [he2]
    simp only [cHi,slC,slH,dCh,slK,d0,w1,hg,dk,vcd,↓vcp,seval]
    repeat' first|refine And.intro (fun h=>?_) (fun h=>?_)|refine aO ?_|(refine tA rfl rfl rfl rfl ?_;try simp only [d0,w1,hg,dk,vcd,↓vcp,seval])|refine aT ?_|fail
    exact RetK.pure (by simp only [rs86,rsb,vcd,↓vcp,seval]) (by (simp only [rs86,rsb,enb,vcd,↓vcp,seval])<;>(first|exact VLe.refl _))
   ·rw [if_neg hT] at he2
    have dk:(((hh.ch.getD x.toNat default).kd != 3)&&((hh.ch.getD x.toNat default).kd != 4))=true:=by
     simp only [isT,kdC,Bool.or_eq_true,beq_iff_eq] at hT
     rw [Bool.and_eq_true,bne_iff_ne,bne_iff_ne];omega
    simp only [cHi,slC,slH,dCh,slK,d0,w1,hg,dk,vcd,↓vcp,seval]
    repeat' first|refine And.intro (fun h=>?_) (fun h=>?_)|refine aO ?_|(refine tA rfl rfl rfl rfl ?_;try simp only [d0,w1,hg,dk,vcd,↓vcp,seval])|refine aT ?_|fail
    refine ⟨k-1,⟨by omega,he2⟩,Wk.of _ hfn rfl (by simp only [slK,w1,enb,vcd,↓vcp,seval]) (by simp only [cHi,slC,slH,dCh,enb,vcd,↓vcp,seval]),by omega⟩
end Go.Proofs.YtanppabbmffokaaGreat
end
section
namespace Go.Proofs.YtanppabbmffokaaGreat
open Go.Bx
def moneyB (v:Int):Bool:=decide (v≥-4000000000000000000)&&decide (v≤4000000000000000000)
def stG:Int→Int→List (Int×Int)→Bool
 |_,_,[]=>true
 |day,val,(d,v)::r=>!(decide (d≤day) || decide (d>292194) || (v == val) || !(moneyB v))&&stG d v r
def valG:Int→List (Int×Int)→Int→Int
 |cur,[],_=>cur
 |cur,(d,v)::r,day=>if d≤day then valG v r day else cur
def valS (P:List (Int×Int)) (day:Int):Int:=valG 0 P day
def pieG (f:Int→Int) (to:Int):Int→List Int→List ((Int×Int)×Int)
 |fr,[]=>[((fr,to),f fr)]
 |fr,d::r=>if d≤fr∨d≥to then pieG f to fr r else ((fr,d),f fr)::pieG f to d r
def sumG:Int→Int→List ((Int×Int)×Int)→Int×Int
 |sum,_,[]=>(sum,0)
 |sum,all,((p,q),v)::r=>if max v (-v)>(4000000000000000000-all) / (q-p) then (0,5) else sumG (sum+(q-p)*v) (all+(q-p)*max v (-v)) r
def fullB (a b:Int):Bool:=decide (a≥1)&&decide (a<b)&&decide (b≤292195)
def sumS (P:List (Int×Int)) (a b:Int):Int×Int:=if stG 0 0 P&&fullB a b then sumG 0 0 (pieG (valS P) b a (P.map (·.1))) else (0,1)
def dSum (g:Int→Int):Int→Nat→Int
 |_,0=>0
 |a,n+1=>g a+dSum g (a+1) n
theorem dSum_add (g:Int→Int):∀ (m n:Nat) (a:Int),dSum g a (m+n)=dSum g a m+dSum g (a+m) n
 |0,n,a=>by simp [dSum]
 |m+1,n,a=>by
  have e:a+((m+1:Nat):Int)=a+1+(m:Int):=by omega
  rw [show m+1+n=(m+n)+1 by omega,dSum,dSum,dSum_add g m n (a+1),e,Int.add_assoc (g a)]
theorem dSum_const {g:Int→Int} {v:Int}:∀ (n:Nat) (a:Int),(∀ d,a≤d→d<a+n→g d=v)→dSum g a n=n*v
 |0,a,_=>by simp [dSum]
 |n+1,a,h=>by
  rw [dSum,dSum_const n (a+1) (fun d h1 h2=>h d (by omega) (by omega)),h a (by omega) (by omega)]
  rw [show ((n+1:Nat):Int)=1+(n:Int) by omega,Int.add_mul,Int.one_mul]
theorem dSum_congr {g g':Int→Int}:∀ (n:Nat) (a:Int),(∀ d,a≤d→d<a+n→g d=g' d)→dSum g a n=dSum g' a n
 |0,a,_=>rfl
 |n+1,a,h=>by rw [dSum,dSum,dSum_congr n (a+1) (fun d h1 h2=>h d (by omega) (by omega)),h a (by omega) (by omega)]
theorem dSum_nonneg {g:Int→Int}:∀ (n:Nat) (a:Int),(∀ d,a≤d→d<a+n→0≤g d)→0≤dSum g a n
 |0,a,_=>Int.le_refl _
 |n+1,a,h=>by
  have h1:=h a (by omega) (by omega)
  have h2:=dSum_nonneg n (a+1) (fun d h1 h2=>h d (by omega) (by omega))
  rw [dSum];omega
theorem stG_iff:∀ {P:List (Int×Int)} {day val:Int},stG day val P=true→(∀ p,p∈P→day<p.1∧p.1≤292194∧-4000000000000000000≤p.2∧p.2≤4000000000000000000)∧P.Pairwise (fun a b=>a.1<b.1)
 |[],_,_,_=>⟨fun p hp=>by simp at hp,List.Pairwise.nil⟩
 |(d,v)::r,day,val,h=>by
  simp only [stG,moneyB,Bool.and_eq_true,Bool.not_eq_true',Bool.or_eq_false_iff,decide_eq_false_iff_not] at h
  obtain ⟨⟨⟨⟨h1,h2⟩,h3⟩,h4⟩,h5⟩:=h
  obtain ⟨i1,i2⟩:=stG_iff h5
  have hm:-4000000000000000000≤v∧v≤4000000000000000000:=by simpa using h4
  refine ⟨fun p hp=>?_,List.pairwise_cons.2 ⟨fun p hp=>(i1 p hp).1,i2⟩⟩
  rcases List.mem_cons.1 hp with rfl|hp
  ·exact ⟨by simp only;omega,by simp only;omega,hm⟩
  ·have:=i1 p hp;exact ⟨by omega,this.2⟩
theorem valG_mem:∀ {P:List (Int×Int)} {cur day:Int},valG cur P day=cur∨∃ p,p∈P∧valG cur P day=p.2
 |[],_,_=>.inl rfl
 |(d,v)::r,cur,day=>by
  rw [valG]
  split
  ·rcases valG_mem (P:=r) (cur:=v) (day:=day) with h|⟨p,h1,h2⟩
   ·exact .inr ⟨(d,v),by simp,h⟩
   ·exact .inr ⟨p,by simp [h1],h2⟩
  ·exact .inl rfl
theorem valG_same:∀ {P:List (Int×Int)} {cur a b:Int},a≤b→(∀ p,p∈P→p.1≤a∨b<p.1)→valG cur P b=valG cur P a
 |[],_,_,_,_,_=>rfl
 |(d,v)::r,cur,a,b,hab,h=>by
  have h1:=h (d,v) (by simp)
  simp only at h1
  rw [valG,valG]
  rcases h1 with h1|h1
  ·rw [if_pos (by omega),if_pos h1,valG_same hab (fun p hp=>h p (by simp [hp]))]
  ·rw [if_neg (by omega),if_neg (by omega)]
theorem valG_at:∀ {P:List (Int×Int)} {cur day:Int} (k:Nat),k≤P.length→(∀ j,j<k→(P.getD j (0,0)).1≤day)→(∀ j,k≤j→j<P.length→day<(P.getD j (0,0)).1)→valG cur P day=if k=0 then cur else (P.getD (k-1) (0,0)).2
 |[],cur,day,k,hk,_,_=>by simp at hk;subst hk;rfl
 |(d,v)::r,cur,day,0,hk,h1,h2=>by
  have:=h2 0 (Nat.le_refl _) (by simp)
  rw [valG,if_neg (by simpa using this)];rfl
 |(d,v)::r,cur,day,k+1,hk,h1,h2=>by
  have:=h1 0 (by omega)
  rw [valG,if_pos (by simpa using this),valG_at k (by simpa using hk) (fun j hj=>by simpa using h1 (j+1) (by omega)) (fun j hj hl=>by simpa using h2 (j+1) (by omega) (by simpa using hl))]
  cases k with
  |zero=>simp
  |succ k=>simp
inductive Cut (g:Int→Int):Int→Int→List ((Int×Int)×Int)→Prop
 |nil (a:Int):Cut g a a []
 |cons {a b c:Int} {l:List ((Int×Int)×Int)} (h:a<b) (hg:∀ d,a≤d→d<b→g d=g a) (hl:Cut g b c l):Cut g a c (((a,b),g a)::l)
theorem pieG_cut {P:List (Int×Int)} {to:Int}:∀ {r:List Int} {fr:Int},fr<to→r.Pairwise (·<·)→(∀ d,d∈P.map (·.1)→d≤fr∨d∈r)→Cut (valS P) fr to (pieG (valS P) to fr r)
 |[],fr,h,_,hr=>by
  refine .cons h (fun d h1 h2=>valG_same h1 fun p hp=>?_) (.nil _)
  rcases hr p.1 (List.mem_map.2 ⟨p,hp,rfl⟩) with h3|h3
  ·exact .inl h3
  ·simp at h3
 |d::r,fr,h,hp,hr=>by
  obtain ⟨p1,p2⟩:=List.pairwise_cons.1 hp
  rw [pieG]
  split
  ·rename_i h3
   rcases h3 with h3|h3
   ·refine pieG_cut h p2 (fun x hx=>?_)
    rcases hr x hx with h4|h4
    ·exact .inl h4
    ·rcases List.mem_cons.1 h4 with rfl|h4
     ·exact .inl h3
     ·exact .inr h4
   ·
    have key:∀ (r':List Int),(∀ x,x∈r'→x≥to)→pieG (valS P) to fr r'=[((fr,to),valS P fr)]:=by
     intro r'
     induction r' with
     |nil=>intro _;rfl
     |cons x r' ih=>intro hx;rw [pieG,if_pos (.inr (hx x (by simp))),ih fun y hy=>hx y (by simp [hy])]
    rw [key r fun x hx=>by have:=p1 x hx;omega]
    refine .cons h (fun x h1 h2=>valG_same h1 fun p hp=>?_) (.nil _)
    rcases hr p.1 (List.mem_map.2 ⟨p,hp,rfl⟩) with h4|h4
    ·exact .inl h4
    ·rcases List.mem_cons.1 h4 with h5|h4
     ·exact .inr (by omega)
     ·have:=p1 _ h4;exact .inr (by omega)
  ·rename_i h3
   refine .cons (by omega) (fun x h1 h2=>valG_same h1 fun p hp=>?_) (pieG_cut (by omega) p2 fun x hx=>?_)
   ·rcases hr p.1 (List.mem_map.2 ⟨p,hp,rfl⟩) with h4|h4
    ·exact .inl h4
    ·rcases List.mem_cons.1 h4 with h5|h4
     ·exact .inr (by omega)
     ·have:=p1 _ h4;exact .inr (by omega)
   ·rcases hr x hx with h4|h4
    ·exact .inl (by omega)
    ·rcases List.mem_cons.1 h4 with rfl|h4
     ·exact .inl (Int.le_refl _)
     ·exact .inr h4
theorem Cut.le {g:Int→Int} {a b:Int} {l:List ((Int×Int)×Int)} (h:Cut g a b l):a≤b:=by
 induction h with
 |nil=>exact Int.le_refl _
 |cons h _ _ ih=>omega
theorem sumG_cut {g:Int→Int} {a b:Int} {l:List ((Int×Int)×Int)} (h:Cut g a b l):∀ (sum all:Int),0≤all→all≤4000000000000000000 →
  sumG sum all l=if all+dSum (fun d=>max (g d) (-(g d))) a (b-a).toNat>4000000000000000000 then (0,5) else (sum+dSum g a (b-a).toNat,0):=by
 induction h with
 |nil a=>intro sum all h1 h2;simp [sumG,dSum];omega
 |@cons a b c l hab hg hl ih =>
  intro sum all h1 h2
  have hbc:=hl.le
  obtain ⟨n,hn⟩:∃ n:Nat,b-a=(n:Int):=⟨(b-a).toNat,by omega⟩
  obtain ⟨m,hm⟩:∃ m:Nat,c-b=(m:Int):=⟨(c-b).toNat,by omega⟩
  have e1:(c-a).toNat=n+m:=by omega
  have e2:(c-b).toNat=m:=by omega
  have eb:b=a+(n:Int):=by omega
  have s1:dSum g a n=n*g a:=dSum_const n a fun d h3 h4=>hg d h3 (by omega)
  have s2:dSum (fun d=>max (g d) (-(g d))) a n=n*max (g a) (-(g a)):=dSum_const n a fun d h3 h4=>by rw [hg d h3 (by omega)]
  have s3:0≤dSum (fun d=>max (g d) (-(g d))) b m:=dSum_nonneg m b fun d _ _=>by omega
  have hn0:0<(n:Int):=by omega
  rw [e2] at ih
  rw [e1,dSum_add,dSum_add,s1,s2,←eb,sumG,hn]
  have hq:max (g a) (-(g a))>(4000000000000000000-all) / (n:Int)↔all+n*max (g a) (-(g a))>4000000000000000000:=by
   have:=Int.le_ediv_iff_mul_le (a:=max (g a) (-(g a))) (b:=4000000000000000000-all) hn0
   rw [Int.mul_comm] at this
   omega
  have hpos:0≤(n:Int)*max (g a) (-(g a)):=Int.mul_nonneg (by omega) (by omega)
  by_cases hb:max (g a) (-(g a))>(4000000000000000000-all) / (n:Int)
  ·rw [if_pos hb,if_pos (by have:=hq.1 hb;omega)]
  ·have hb':=mt hq.2 hb
   rw [if_neg hb,ih _ _ (by omega) (by omega)]
   have e3:all+↑n*max (g a) (-g a)+dSum (fun d=>max (g d) (-g d)) b m=all+(↑n*max (g a) (-g a)+dSum (fun d=>max (g d) (-g d)) b m):=by omega
   have e4:sum+↑n*g a+dSum g b m=sum+(↑n*g a+dSum g b m):=by omega
   rw [e3,e4]
theorem sumS_eq (P:List (Int×Int)) (a b:Int):sumS P a b=if stG 0 0 P&&fullB a b then
  (if dSum (fun d=>max (valS P d) (-(valS P d))) a (b-a).toNat>4000000000000000000 then (0,5) else (dSum (valS P) a (b-a).toNat,0)) else (0,1):=by
 unfold sumS
 split
 ·rename_i h
  simp only [Bool.and_eq_true,fullB,decide_eq_true_eq] at h
  obtain ⟨-,i2⟩:=stG_iff h.1
  rw [sumG_cut (pieG_cut (by omega) (List.pairwise_map.2 i2) fun d hd=>.inr hd) 0 0 (by omega) (by omega),Int.zero_add,Int.zero_add]
 ·rfl
end Go.Proofs.YtanppabbmffokaaGreat
end
section
namespace Go.Proofs.YtanppabbmffokaaGreat
open Go.Bx
theorem stG_snoc:∀ {P:List (Int×Int)} {d0 v0 d v:Int},stG d0 v0 (P++[(d,v)])=(stG d0 v0 P&&!(decide (d≤(P.getD (P.length-1) (d0,v0)).1) || decide (d>292194) || (v == (P.getD (P.length-1) (d0,v0)).2) || !(moneyB v)))
 |[],d0,v0,d,v=>by simp [stG]
 |(a,b)::P,d0,v0,d,v=>by
  rw [List.cons_append,stG,stG,stG_snoc (P:=P),Bool.and_assoc]
  have e:((a,b)::P).getD (((a,b)::P).length-1) (d0,v0)=P.getD (P.length-1) (a,b):=by
   cases P with
   |nil=>rfl
   |cons p P=>simp [List.getD_eq_getElem?_getD]
  rw [e]
theorem valG_snoc:∀ {P:List (Int×Int)} {cur d v day:Int},(∀ p,p∈P→p.1<d)→valG cur (P++[(d,v)]) day=if d≤day then v else valG cur P day
 |[],cur,d,v,day,_=>by simp [valG]
 |(a,b)::P,cur,d,v,day,h=>by
  have h1:=h (a,b) (by simp)
  simp only at h1
  rw [List.cons_append,valG,valG,valG_snoc (fun p hp=>h p (by simp [hp]))]
  by_cases h2:d≤day
  ·rw [if_pos h2,if_pos h2,if_pos (by omega)]
  ·rw [if_neg h2,if_neg h2]
def popP (P:List (Int×Int)) (day:Int):List (Int×Int):=if 0<P.length∧(P.getD (P.length-1) (0,0)).1=day then P.take (P.length-1) else P
def pushP (P:List (Int×Int)) (day v:Int):List (Int×Int):=if v≠(P.getD (P.length-1) (0,0)).2∧day≤292194 then P++[(day,v)] else P
def addP (P:List (Int×Int)) (day v:Int):List (Int×Int):=pushP (popP P day) day v
theorem snoc_or {α:Type} (l:List α):l=[]∨∃ m x,l=m++[x]:=by
 rcases List.eq_nil_or_concat l with h|⟨m,x,h⟩
 ·exact .inl h
 ·exact .inr ⟨m,x,by simpa using h⟩
theorem pushP_ok {P:List (Int×Int)} {day v:Int} (h:stG 0 0 P=true) (hd:∀ p,p∈P→p.1<day) (h1:1≤day) (hv:moneyB v=true) :
  stG 0 0 (pushP P day v)=true∧(∀ p,p∈pushP P day v→p.1≤day)∧∀ d,d≤292194→valS (pushP P day v) d=if d<day then valS P d else v:=by
 have hl:(P.getD (P.length-1) (0,0)).1<day:=by
  rcases snoc_or P with rfl|⟨m,x,rfl⟩
  ·simp;omega
  ·simpa [List.getD_eq_getElem?_getD] using hd x (by simp)
 have hlast:∀ d,day≤d→valS P d=(P.getD (P.length-1) (0,0)).2:=fun d h2=>by
  rcases snoc_or P with rfl|⟨m,x,rfl⟩
  ·rfl
  ·have hx:=hd x (by simp)
   have hm:∀ p,p∈m→p.1<x.1:=fun p hp=>(List.pairwise_append.1 (stG_iff h).2).2.2 p hp x (by simp)
   have:=valG_snoc (P:=m) (cur:=0) (d:=x.1) (v:=x.2) (day:=d) hm
   rw [valS,this,if_pos (by omega)]
   simp [List.getD_eq_getElem?_getD]
 unfold pushP
 split
 ·rename_i hc
  refine ⟨?_,fun p hp=>?_,fun d h2=>?_⟩
  ·rw [stG_snoc,h,hv]
   have a1:decide (day≤(P.getD (P.length-1) (0,0)).1)=false:=decide_eq_false (by omega)
   have a2:decide (day>292194)=false:=decide_eq_false (by omega)
   have a3:(v == (P.getD (P.length-1) (0,0)).2)=false:=by simpa using hc.1
   rw [a1,a2,a3];rfl
  ·rcases List.mem_append.1 hp with h3|h3
   ·have:=hd p h3;omega
   ·simp at h3;subst h3;exact Int.le_refl _
  ·rw [valS,valG_snoc hd]
   by_cases h3:d<day
   ·rw [if_pos h3,if_neg (by omega)];rfl
   ·rw [if_neg h3,if_pos (by omega)]
 ·rename_i hc
  refine ⟨h,fun p hp=>by have:=hd p hp;omega,fun d h2=>?_⟩
  by_cases h3:d<day
  ·rw [if_pos h3]
  ·rw [if_neg h3,hlast d (by omega)]
   by_cases h4:v=(P.getD (P.length-1) (0,0)).2
   ·exact h4.symm
   ·exact absurd ⟨h4,by omega⟩ hc
theorem popP_ok {P:List (Int×Int)} {day:Int} (h:stG 0 0 P=true) (hd:∀ p,p∈P→p.1≤day):stG 0 0 (popP P day)=true∧(∀ p,p∈popP P day→p.1<day)∧∀ d,d<day→valS (popP P day) d=valS P d:=by
 rcases snoc_or P with rfl|⟨m,x,rfl⟩
 ·exact ⟨h,fun p hp=>by simp [popP] at hp,fun d _=>rfl⟩
 ·have hm:∀ p,p∈m→p.1<x.1:=fun p hp=>(List.pairwise_append.1 (stG_iff h).2).2.2 p hp x (by simp)
  have hx:=hd x (by simp)
  have e1:((m++[x]).getD ((m++[x]).length-1) (0,0))=x:=by simp [List.getD_eq_getElem?_getD]
  have e2:(m++[x]).take ((m++[x]).length-1)=m:=by simp
  rw [popP,e1,e2]
  split
  ·rename_i hc
   have:=stG_snoc (P:=m) (d0:=0) (v0:=0) (d:=x.1) (v:=x.2)
   rw [h] at this
   refine ⟨?_,fun p hp=>by have:=hm p hp;omega,fun d h2=>?_⟩
   ·simp only [Bool.true_eq,Bool.and_eq_true] at this
    exact this.1
   ·rw [valS,valS,valG_snoc hm,if_neg (by omega)]
  ·rename_i hc
   have hne:x.1≠day:=fun e=>hc ⟨by simp,e⟩
   refine ⟨h,fun p hp=>?_,fun d _=>rfl⟩
   rcases List.mem_append.1 hp with h3|h3
   ·have:=hm p h3;omega
   ·simp at h3;subst h3;omega
theorem addP_ok {P:List (Int×Int)} {day v:Int} (h:stG 0 0 P=true) (hd:∀ p,p∈P→p.1≤day) (h1:1≤day) (hv:moneyB v=true) :
  stG 0 0 (addP P day v)=true∧(∀ p,p∈addP P day v→p.1≤day)∧∀ d,d≤292194→valS (addP P day v) d=if d<day then valS P d else v:=by
 obtain ⟨a1,a2,a3⟩:=popP_ok h hd
 obtain ⟨b1,b2,b3⟩:=pushP_ok a1 a2 h1 hv
 refine ⟨b1,b2,fun d h2=>?_⟩
 rw [addP,b3 d h2]
 split
 ·rename_i h3;exact a3 d h3
 ·rfl
def fullSl (s:Sl) (e:Int):Bool:=(decide (s.sf≥e)&&(decide (s.sf<s.st)&&decide (s.st≤292195)))&&(decide (s.yr≥0)&&decide (s.yr≤4000000000000000000))
def curG:List (Int×Int)→Int→List Sl→Option (List (Int×Int))
 |P,_,[]=>some P
 |P,e,s::r=>if fullSl s e=true then curG (addP (addP P s.sf s.yr) s.st 0) s.st r else none
def curS (l:List Sl):Option (List (Int×Int)):=if l.length>2000 then none else curG [] 1 l
def yrAt (l:List Sl) (d:Int):Int:=match l.find? (fun s=>decide (s.sf≤d)&&decide (d<s.st)) with|some s=>s.yr|none=>0
theorem fullSl_iff {s:Sl} {e:Int}:fullSl s e=true↔e≤s.sf∧s.sf<s.st∧s.st≤292195∧0≤s.yr∧s.yr≤4000000000000000000:=by
 simp only [fullSl,Bool.and_eq_true,decide_eq_true_eq];omega
theorem yrAt_cons (s:Sl) (l:List Sl) (d:Int):yrAt (s::l) d=if s.sf≤d∧d<s.st then s.yr else yrAt l d:=by
 unfold yrAt
 rw [List.find?_cons]
 by_cases h:s.sf≤d∧d<s.st
 ·rw [if_pos h,decide_eq_true h.1,decide_eq_true h.2];rfl
 ·have e1:(decide (s.sf≤d)&&decide (d<s.st))=false:=by
   rw [Bool.and_eq_false_iff,decide_eq_false_iff_not,decide_eq_false_iff_not];omega
  rw [if_neg h,e1]
inductive Run:Int→List Sl→Prop
 |nil (e:Int):Run e []
 |cons {e:Int} {s:Sl} {l:List Sl} (h:fullSl s e=true) (hl:Run s.st l):Run e (s::l)
theorem Run.yr {e d:Int} {l:List Sl} (h:Run e l) (hd:d<e):yrAt l d=0:=by
 induction h generalizing d with
 |nil=>rfl
 |cons h _ ih =>
  have:=fullSl_iff.1 h
  rw [yrAt_cons,if_neg (by omega)]
  exact ih (by omega)
theorem curG_ok:∀ {l:List Sl} {P Q:List (Int×Int)} {e:Int},curG P e l=some Q→1≤e→stG 0 0 P=true→(∀ p,p∈P→p.1≤e)→(∀ d,e≤d→d≤292194→valS P d=0) →
  Run e l∧stG 0 0 Q=true∧∀ d,d≤292194→valS Q d=if d<e then valS P d else yrAt l d
 |[],P,Q,e,h,h1,h2,h3,h4=>by
  injection h with h;subst h
  refine ⟨.nil _,h2,fun d hd=>?_⟩
  split
  ·rfl
  ·exact h4 d (by omega) hd
 |s::l,P,Q,e,h,h1,h2,h3,h4=>by
  rw [curG] at h
  split at h
  ·rename_i hf
   have hf':=fullSl_iff.1 hf
   obtain ⟨a1,a2,a3⟩:=addP_ok (v:=s.yr) h2 (fun p hp=>by have:=h3 p hp;omega:∀ p,p∈P→p.1≤s.sf) (by omega) (by simp only [moneyB,Bool.and_eq_true,decide_eq_true_eq];omega)
   obtain ⟨b1,b2,b3⟩:=addP_ok (v:=0) a1 (fun p hp=>by have:=a2 p hp;omega:∀ p,p∈addP P s.sf s.yr→p.1≤s.st) (by omega) rfl
   obtain ⟨c1,c2,c3⟩:=curG_ok h (by omega) b1 b2 (fun d g1 g2=>by rw [b3 d g2,if_neg (by omega)])
   refine ⟨.cons hf c1,c2,fun d hd=>?_⟩
   rw [c3 d hd,b3 d hd,a3 d hd,yrAt_cons]
   by_cases g1:d<e
   ·rw [if_pos (by omega),if_pos (by omega),if_pos (by omega),if_pos g1]
   ·rw [if_neg g1]
    by_cases g2:d<s.sf
    ·rw [if_pos (by omega),if_pos (by omega),if_pos g2,if_neg (by omega),h4 d (by omega) hd]
     exact (c1.yr (by omega)).symm
    ·by_cases g3:d<s.st
     ·rw [if_pos g3,if_pos g3,if_neg g2,if_pos ⟨by omega,g3⟩]
     ·rw [if_neg g3,if_neg (by omega)]
  ·cases h
theorem curS_ok {l:List Sl} {P:List (Int×Int)} (h:curS l=some P):Run 1 l∧l.length≤2000∧stG 0 0 P=true∧∀ d,1≤d→d≤292194→valS P d=yrAt l d:=by
 unfold curS at h
 split at h
 ·cases h
 ·obtain ⟨h1,h2,h3⟩:=curG_ok h (by omega) rfl (fun p hp=>by simp at hp) (fun d _ _=>rfl)
  exact ⟨h1,by omega,h2,fun d g1 g2=>by rw [h3 d g2,if_neg (by omega)]⟩
end Go.Proofs.YtanppabbmffokaaGreat
end
section
namespace Go.Proofs.YtanppabbmffokaaGreat
open Go.Bx
set_option maxRecDepth 10000
theorem TR.yieldD {c:Ctx} {fn:List Nat} {Z:Nat→List (Nat×Go.Bx.Own)} (hZ:CliZ fn Z) (hfn:c.fn=fn) {k l:Nat} {go:Bool} {args:List V} (hY:YR c l args (Z k) (Z (k+1)) go) {env:List (Nat×V)} {own:List (Nat×Go.Bx.Own)} {nm:List Nat} (hB:wkB [] ⟨env,own,nm⟩=true) (hnm:(nm.all fun n=>decide (n<1000000))=true)
  {d:Option Nat} {x:X} {xs:List X} {acc:List Lg} {anc:List Nat} {K:Kont} (hx:evV ⟨env,own++Z k,nm++keysO (Z k)⟩ x=.fn (.yield l) [] []) (hsx:evS true ⟨env,own++Z k,nm++keysO (Z k)⟩ x) (ha:evVs ⟨env,own++Z k,nm++keysO (Z k)⟩ xs=args) (hs:evSs true ⟨env,own++Z k,nm++keysO (Z k)⟩ xs)
  (hok:∀ lg,ownOk (acc++[lg]) anc=true) (h:∀ st',Wk c st' ⟨setE env d (.d (.bool go)),own++Z (k+1),nm++keysO (Z (k+1))⟩→K .nrm st'):TR c true [⟨d,none,.callv x xs⟩] ⟨env,own++Z k,nm++keysO (Z k)⟩ acc (drwK anc K):=by
 have hB':=hB
 simp only [wkB,Bool.and_eq_true,List.all_eq_true,List.contains_iff_mem] at hB'
 obtain ⟨-,h2,h3,h4⟩:=hB'
 have hk:∀ n,n∈keysO own→n∈nm:=fun n hk=>by obtain ⟨o,ho'⟩:=keys_mem hk;exact h4 n (oNames_in ho').1
 have hlt:∀ n,n∈nm→n<1000000:=fun n hn=>by simpa using List.all_eq_true.1 hnm n hn
 have hnd:(keysO (own++Z k)).Nodup:=by
  rw [keysO_app,List.nodup_append]
  exact ⟨nodupB_ok h2,hZ.nodup k,fun a ha b hb e=>by have:=hlt a (hk a ha);have:=hZ.ge k b hb;omega⟩
 have hin:∀ n o,(n,o)∈Z k→own? (own++Z k) n=some o:=fun n o hm=>mem_own? hnd (List.mem_append_right _ hm)
 refine TR.cons _ (hY d x xs _ hx hsx ha hs hin) (fun n hn h5=>?_) (TR.nil ⟨hok _,h _ ?_⟩)
 ·obtain ⟨h6,h7⟩:=List.mem_filter.1 hn
  rcases List.mem_append.1 h5 with h5|h5
  ·have:=hlt n h5;have:=hZ.ge _ n h6;omega
  ·simp only [Bool.not_eq_true',List.contains_eq_mem,decide_eq_false_iff_not] at h7
   exact h7 h5
 ·have hcall:=fun n=>own?_call (ins:=Z k) (outs:=Z (k+1)) hnd (hZ.nodup (k+1)) n
  refine Wk.ofZ0 (c:=c) (st:=St.stp ⟨env,own++Z k,nm++keysO (Z k)⟩ d { val:=.d (.bool go),upd:=callU (Z k) (Z (k+1)),rd:=keysO (Z k),new:=(keysO (Z (k+1))).filter fun n=>!(keysO (Z k)).contains n }) hZ hfn (k+1) (env:=setE env d (.d (.bool go))) (own:=own) (nm:=nm) ?_ hnm ?_ ?_ ?_
  ·simp only [wkB,List.all_nil,Bool.true_and,Bool.and_eq_true,List.all_eq_true,List.contains_iff_mem] at hB ⊢
   refine ⟨hB.1,fun n hn=>?_,hB.2.2⟩
   cases d with
   |none=>exact hB.2.1 n hn
   |some d =>
    simp only [setE,envNames,V.names,List.nil_append] at hn
    exact hB.2.1 n hn
  ·exact fun s=>VLe.refl _
  ·refine OwnLe.of fun n o hm=>⟨o,?_,OLe.refl o⟩
   have hn:=hlt n (hk n (mem_keys hm))
   show own? (applyU (own++Z k) (callU (Z k) (Z (k+1)))) n=some o
   rw [hcall,own?_Z hZ hn]
   simp only
   rw [if_neg (fun h=>by have:=hZ.ge k n h;omega)]
   exact mem_own? hnd (List.mem_append_left _ hm)
  ·intro n o hm
   show own? (applyU (own++Z k) (callU (Z k) (Z (k+1)))) n=some o
   rw [hcall,mem_own? (hZ.nodup (k+1)) hm]
def cSt (P:List (Int×Int)):List V:=[.d (slK .i64 (P.map (·.1))),.d (slK .i64 (P.map (·.2)))]
def vSt (P:List (Int×Int)):V:=.ag (cSt P)
theorem map1 {P:List (Int×Int)} {k:Nat} {p:Int×Int} (h:P[k]?=some p):(P.map (·.1)).getD k 0=p.1∧(P.map (·.2)).getD k 0=p.2:=by
 simp [List.getD_eq_getElem?_getD,h]
theorem sMoney (v:Int):Ctr Tryz.prog 121 [.d (.int .i64 v)] [] (.d (.bool (moneyB v))) [] []:=by
 refine ctr_pure Tryz.func121 ok121 rfl cc121 cr121 Tryz.ntmps121 (by simp) rfl rfl ?_;intro c hP hfn;simp only [kc121,vcd,↓vcp,seval]
 repeat' first|refine And.intro (fun h=>?_) (fun h=>?_)|refine aO ?_|(refine tA rfl rfl rfl rfl ?_;try simp only [vcd,↓vcp,seval])|refine aT ?_|fail
 exact RetK.pure (by simp only [rs121,rsb,vcd,↓vcp,seval]) (by (simp only [rs121,rsb,enb,vcd,↓vcp,seval])<;>(first|rfl))
theorem sFullS (a b:Int):Ctr Tryz.prog 78 [vS a b] [] (.d (.bool (fullB a b))) [] []:=by
 refine ctr_pure Tryz.func78 ok78 rfl cc78 cr78 Tryz.ntmps78 (by simp) rfl rfl ?_;intro c hP hfn;simp only [kc78,vS,vcd,↓vcp,seval]
 repeat' first|refine And.intro (fun h=>?_) (fun h=>?_)|refine aO ?_|(refine tA rfl rfl rfl rfl ?_;try simp only [vcd,↓vcp,seval])|refine aT ?_|fail
 exact RetK.pure (by simp only [rs78,rsb,vcd,↓vcp,seval]) (by (simp only [rs78,rsb,enb,vcd,↓vcp,seval])<;>(first|rfl))
theorem sRightS (P:List (Int×Int)) (hl:P.length≤9223372036854775806):Ctr Tryz.prog 77 [vSt P] [] (.d (.bool (stG 0 0 P))) [] []:=by
 have n0:((P.length:Int) != (P.length:Int))=false:=by rw [bne_eq_false_iff_eq]
 refine ctr_pure Tryz.func77 ok77 rfl cc77 cr77 Tryz.ntmps77 (by simp) rfl rfl ?_;intro c hP hfn;simp only [kc77,vSt,cSt,slK,List.length_map,n0,vcd,↓vcp,seval]
 repeat' first|refine And.intro (fun h=>?_) (fun h=>?_)|refine aO ?_|(refine tA rfl rfl rfl rfl ?_;try simp only [n0,vcd,↓vcp,seval])|refine aT ?_|fail
 refine vcC.loop (X:=Nat×Int×Int) (fun x=>⟨[(1,.own 1 0),(3,.d (.int .i64 x.2.1)),(4,.d (.int .i64 x.2.2)),(16,.d (slK .i64 (P.map (·.1)))),(17,.d (.int .i64 P.length)),(18,.d (.int .i64 x.1))],[(1,.fix (cSt P))],[1]⟩)
  (fun x=>x.1≤P.length∧stG 0 0 P=stG x.2.1 x.2.2 (P.drop x.1)) (fun x=>P.length-x.1) (0,0,0) ⟨Nat.zero_le _,rfl⟩ (Wk.of _ hfn rfl (by simp only [slK,List.length_map,enb,vcd,↓vcp,seval]) (by simp only [cSt,slK,List.length_map,enb,vcd,↓vcp,seval])) ?_
 rintro ⟨k,day,val⟩ ⟨hk,he⟩
 simp only at hk he
 by_cases hlt:k<P.length
 ·obtain ⟨⟨d,v⟩,hd,-,-,hp⟩:=drop_at hlt
  obtain ⟨g1,g2⟩:=map1 hp
  simp only at g1 g2
  rw [hd,stG] at he
  have d0:decide ((k:Int)<(P.length:Int))=true:=decide_eq_true (by omega)
  have w1:IntKind.i64.wrap ((k:Int)+1)=((k+1:Nat):Int):=wS (by omega)
  have b1:(0:Int)≤(k:Int)∧(k:Int)<(P.length:Int):=by omega
  simp only [cSt,slK,List.length_map,d0,g1,g2,vcd,↓vcp,seval]
  repeat' first|((first|refine tp hP (by exact sMoney v) ?_|refine tg hP (fun _=>by exact sMoney v) ?_|refine tv hP rfl (by exact sMoney v) ?_);try simp only [d0,g1,g2,w1,vcd,↓vcp,seval])|refine And.intro (fun h=>?_) (fun h=>?_)|refine aO ?_|(refine tA rfl rfl rfl rfl ?_;try simp only [d0,g1,g2,w1,vcd,↓vcp,seval])|refine aT ?_|fail
  ·have hx:stG 0 0 P=false:=by rw [he,h];rfl
   rw [hx]
   exact RetK.pure (by simp only [rs77,rsb,vcd,↓vcp,seval]) (by (simp only [rs77,rsb,enb,vcd,↓vcp,seval])<;>(first|rfl))
  ·rw [h] at he
   refine lopK.on (k+1,d,v) ⟨hlt,he⟩ (by simp only;omega) (Wk.of _ hfn rfl (by simp only [slK,List.length_map,w1,enb,vcd,↓vcp,seval]) (by simp only [cSt,slK,List.length_map,enb,vcd,↓vcp,seval]))
 ·have d0:decide ((k:Int)<(P.length:Int))=false:=decide_eq_false (by omega)
  rw [List.drop_eq_nil_of_le (by omega),stG] at he
  rw [he]
  simp only [cSt,slK,List.length_map,d0,vcd,↓vcp,seval]
  repeat' first|refine And.intro (fun h=>?_) (fun h=>?_)|refine aO ?_|(refine tA rfl rfl rfl rfl ?_;try simp only [d0,vcd,↓vcp,seval])|refine aT ?_|fail
  exact RetK.pure (by simp only [rs77,rsb,vcd,↓vcp,seval]) (by (simp only [rs77,rsb,enb,vcd,↓vcp,seval])<;>(first|rfl))
end Go.Proofs.YtanppabbmffokaaGreat
end
section
namespace Go.Proofs.YtanppabbmffokaaGreat
open Go.Bx
set_option maxRecDepth 10000
theorem sIsNaN (a:Int):Ctr Tryz.prog 190 [.d (.int .i64 a)] [] (.d (.bool false)) [] []:=by
 refine ctr_pure Tryz.func190 ok190 rfl cc190 cr190 Tryz.ntmps190 (by simp) rfl rfl ?_;intro c hP hfn;simp only [kc190,vcd,↓vcp,seval]
 exact RetK.pure (by simp only [rs190,rsb,vcd,↓vcp,seval]) (by (simp only [rs190,rsb,enb,vcd,↓vcp,seval])<;>(first|simp))
def CutAt (A:List Int) (x:Int) (n:Nat):Prop:=n≤A.length∧(∀ j,j<n→A.getD j 0<x)∧(∀ j,n≤j→j<A.length→x≤A.getD j 0)
theorem cutAt_ex:∀ {A:List Int} (x:Int),A.Pairwise (·<·)→∃ n,CutAt A x n
 |[],x,_=>⟨0,Nat.le_refl _,fun j hj=>absurd hj (Nat.not_lt_zero j),fun j _ hj=>by simp at hj⟩
 |a::A,x,h=>by
  obtain ⟨h1,h2⟩:=List.pairwise_cons.1 h
  by_cases hx:a<x
  ·obtain ⟨n,g1,g2,g3⟩:=cutAt_ex x h2
   refine ⟨n+1,by simpa using g1,fun j hj=>?_,fun j hj hl=>?_⟩
   ·cases j with
    |zero=>simpa using hx
    |succ j=>simpa using g2 j (by omega)
   ·cases j with
    |zero=>omega
    |succ j=>simpa using g3 j (by omega) (by simpa using hl)
  ·refine ⟨0,Nat.zero_le _,fun j hj=>absurd hj (Nat.not_lt_zero j),fun j _ hl=>?_⟩
   cases j with
   |zero=>simp;omega
   |succ j =>
    have hl':j<A.length:=by simpa using hl
    have:=h1 A[j] (List.getElem_mem hl')
    simp [List.getD_eq_getElem?_getD,hl'];omega
theorem sBin (A:List Int) (x:Int) (n:Nat) (hn:CutAt A x n) (hl:A.length≤2305843009213693952):Ctr Tryz.prog 170 [.d (slK .i64 A),.d (.int .i64 x)] [] (.tup [.d (.int .i64 (n:Int)),.d (.bool (decide (n<A.length)&&(A.getD n 0 == x)))]) [] []:=by
 obtain ⟨hnl,hlo,hhi⟩:=hn
 refine ctr_pure Tryz.func170 ok170 rfl cc170 cr170 Tryz.ntmps170 (by simp) rfl rfl ?_;intro c hP hfn;simp only [kc170,slK,vcd,↓vcp,seval]
 refine vcC.loop (X:=Nat×Nat) (fun y=>⟨[(0,.d (slK .i64 A)),(1,.d (.int .i64 x)),(6,.d (.int .i64 A.length)),(7,.d (.int .i64 (y.1:Nat))),(8,.d (.int .i64 (y.2:Nat)))],[],[]⟩)
  (fun y=>y.1≤n∧n≤y.2∧y.2≤A.length) (fun y=>y.2-y.1) (0,A.length) ⟨Nat.zero_le _,hnl,Nat.le_refl _⟩ (Wk.of _ hfn rfl (by simp only [slK,enb,vcd,↓vcp,seval]) (by simp only [enb,vcd,↓vcp,seval])) ?_
 rintro ⟨i,j⟩ ⟨h1,h2,h3⟩
 simp only at h1 h2 h3
 by_cases hij:i<j
 ·have d0:decide ((i:Int)<(j:Int))=true:=decide_eq_true (by omega)
  have wq:=midW (i:=i) (j:=j) (by omega)
  obtain ⟨q,hh⟩:∃ q,q=(i+j) / 2:=⟨_,rfl⟩
  rw [←hh] at wq
  have hq:i≤q∧q<j:=by omega
  have w1:IntKind.i64.wrap ((q:Int)+1)=((q+1:Nat):Int):=wS (by omega)
  have b1:(0:Int)≤(q:Int)∧(q:Int)<(A.length:Int):=by omega
  have cc:=sLess (A.getD q 0) x
  simp only [slK,d0,wq,vcd,↓vcp,seval]
  repeat' first|((first|refine tp hP (by exact cc) ?_|refine tg hP (fun _=>by exact cc) ?_|refine tv hP rfl (by exact cc) ?_);try simp only [d0,wq,w1,vcd,↓vcp,seval])|refine And.intro (fun h=>?_) (fun h=>?_)|refine aO ?_|(refine tA rfl rfl rfl rfl ?_;try simp only [d0,wq,w1,vcd,↓vcp,seval])|refine aT ?_|fail
  ·have hx:A.getD q 0<x:=of_decide_eq_true h
   have hqn:q<n:=by
    by_cases g:q<n
    ·exact g
    ·have:=hhi q (by omega) (by omega);omega
   exact lopK.on (q+1,j) ⟨hqn,h2,h3⟩ (by simp only;omega) (Wk.of _ hfn rfl (by simp only [slK,w1,enb,vcd,↓vcp,seval]) (by simp only [enb,vcd,↓vcp,seval]))
  ·have hx:¬ A.getD q 0<x:=of_decide_eq_false h
   have hqn:n≤q:=by
    by_cases g:q<n
    ·exact absurd (hlo q g) hx
    ·omega
   exact lopK.on (i,q) ⟨h1,hqn,by simp only;omega⟩ (by simp only;omega) (Wk.of _ hfn rfl (by simp only [slK,enb,vcd,↓vcp,seval]) (by simp only [enb,vcd,↓vcp,seval]))
 ·have d0:decide ((i:Int)<(j:Int))=false:=decide_eq_false (by omega)
  obtain rfl:i=n:=by omega
  by_cases hb:i<A.length
  ·have d1:decide ((i:Int)<(A.length:Int))=true:=decide_eq_true (by omega)
   have d2:decide (i<A.length)=true:=decide_eq_true hb
   have b1:(0:Int)≤(i:Int)∧(i:Int)<(A.length:Int):=by omega
   rw [d2,Bool.true_and]
   cases hq:(A.getD i 0 == x) with
   |true =>
    simp only [slK,d0,d1,hq,vcd,↓vcp,seval]
    repeat' first|((first|refine tp hP (by first|exact sIsNaN (A.getD i 0)|exact sIsNaN x) ?_|refine tg hP (fun _=>by first|exact sIsNaN (A.getD i 0)|exact sIsNaN x) ?_|refine tv hP rfl (by first|exact sIsNaN (A.getD i 0)|exact sIsNaN x) ?_);try simp only [d0,d1,hq,vcd,↓vcp,seval])|refine And.intro (fun h=>?_) (fun h=>?_)|refine aO ?_|(refine tA rfl rfl rfl rfl ?_;try simp only [d0,d1,hq,vcd,↓vcp,seval])|refine aT ?_|fail
    exact RetK.pure (by simp only [rs170,rsb,vcd,↓vcp,seval]) (by (simp only [rs170,rsb,enb,vcd,↓vcp,seval])<;>(first|exact VLe.refl _))
   |false =>
    simp only [slK,d0,d1,hq,vcd,↓vcp,seval]
    repeat' first|((first|refine tp hP (by first|exact sIsNaN (A.getD i 0)|exact sIsNaN x) ?_|refine tg hP (fun _=>by first|exact sIsNaN (A.getD i 0)|exact sIsNaN x) ?_|refine tv hP rfl (by first|exact sIsNaN (A.getD i 0)|exact sIsNaN x) ?_);try simp only [d0,d1,hq,vcd,↓vcp,seval])|refine And.intro (fun h=>?_) (fun h=>?_)|refine aO ?_|(refine tA rfl rfl rfl rfl ?_;try simp only [d0,d1,hq,vcd,↓vcp,seval])|refine aT ?_|fail
    exact RetK.pure (by simp only [rs170,rsb,vcd,↓vcp,seval]) (by (simp only [rs170,rsb,enb,vcd,↓vcp,seval])<;>(first|exact VLe.refl _))
  ·have d1:decide ((i:Int)<(A.length:Int))=false:=decide_eq_false (by omega)
   have d2:decide (i<A.length)=false:=decide_eq_false hb
   rw [d2,Bool.false_and]
   simp only [slK,d0,d1,vcd,↓vcp,seval]
   repeat' first|((first|refine tp hP (by first|exact sIsNaN (A.getD i 0)|exact sIsNaN x) ?_|refine tg hP (fun _=>by first|exact sIsNaN (A.getD i 0)|exact sIsNaN x) ?_|refine tv hP rfl (by first|exact sIsNaN (A.getD i 0)|exact sIsNaN x) ?_);try simp only [d0,d1,vcd,↓vcp,seval])|refine And.intro (fun h=>?_) (fun h=>?_)|refine aO ?_|(refine tA rfl rfl rfl rfl ?_;try simp only [d0,d1,vcd,↓vcp,seval])|refine aT ?_|fail
   exact RetK.pure (by simp only [rs170,rsb,vcd,↓vcp,seval]) (by (simp only [rs170,rsb,enb,vcd,↓vcp,seval])<;>(first|exact VLe.refl _))
theorem sValue (P:List (Int×Int)) (day:Int) (hs:P.Pairwise (fun a b=>a.1<b.1)) (hl:P.length≤2305843009213693952):Ctr Tryz.prog 123 [vSt P,.d (.int .i64 day)] [] (.d (.int .i64 (valS P day))) [] []:=by
 obtain ⟨n,hn⟩:=cutAt_ex (A:=P.map (·.1)) day (List.pairwise_map.2 hs)
 have cb:=sBin (P.map (·.1)) day n hn (by rw [List.length_map];exact hl)
 obtain ⟨h1,h2,h3⟩:=hn
 rw [List.length_map] at h1
 have hm:∀ j,j<P.length→(P.map (·.1)).getD j 0=(P.getD j (0,0)).1∧(P.map (·.2)).getD j 0=(P.getD j (0,0)).2:=fun j hj=>by
  obtain ⟨p,-,hg,-,hp⟩:=drop_at hj
  rw [hg];exact map1 hp
 have hlt:∀ i j,i<j→j<P.length→(P.getD i (0,0)).1<(P.getD j (0,0)).1:=fun i j hij hj=>by
  have:=List.pairwise_iff_getElem.1 hs i j (by omega) hj hij
  simpa [List.getD_eq_getElem?_getD,hj,(by omega:i<P.length)] using this
 rw [List.length_map] at cb
 simp only [slK,List.length_map] at cb
 by_cases hb:n<P.length∧(P.getD n (0,0)).1=day
 ·obtain ⟨hb1,hb2⟩:=hb
  have hv:valS P day=(P.getD n (0,0)).2:=by
   have:=valG_at (P:=P) (cur:=0) (day:=day) (n+1) hb1 (fun j hj=>by
    by_cases g:j=n
    ·rw [g,hb2];exact Int.le_refl _
    ·have:=h2 j (by omega);rw [(hm j (by omega)).1] at this;omega) (fun j hj hl=>by have:=hlt n j (by omega) hl;omega)
   rw [valS,this,if_neg (by omega)];rfl
  have hd:(decide (n<P.length)&&((P.map (·.1)).getD n 0 == day))=true:=by rw [(hm n hb1).1,decide_eq_true hb1,hb2];simp
  rw [hd] at cb
  have d0:decide ((n:Int)<0)=false:=decide_eq_false (by omega)
  have b1:(0:Int)≤(n:Int)∧(n:Int)<(P.length:Int):=by omega
  rw [hv]
  refine ctr_pure Tryz.func123 ok123 rfl cc123 cr123 Tryz.ntmps123 (by simp) rfl rfl ?_;intro c hP hfn;simp only [kc123,vSt,cSt,slK,List.length_map,vcd,↓vcp,seval]
  repeat' first|((first|refine tp hP (by exact cb) ?_|refine tg hP (fun _=>by exact cb) ?_|refine tv hP rfl (by exact cb) ?_);try simp only [d0,vcd,↓vcp,seval])|refine And.intro (fun h=>?_) (fun h=>?_)|refine aO ?_|(refine tA rfl rfl rfl rfl ?_;try simp only [d0,vcd,↓vcp,seval])|refine aT ?_|fail
  refine RetK.pure (by simp only [rs123,rsb,vcd,↓vcp,seval]) ?_
  simp only [rs123,(hm n hb1).2,rsb,vcd,↓vcp,seval]
  exact VLe.refl _
 ·have hd:(decide (n<P.length)&&((P.map (·.1)).getD n 0 == day))=false:=by
   by_cases g:n<P.length
   ·rw [(hm n g).1,decide_eq_true g,Bool.true_and,beq_eq_false_iff_ne];exact fun e=>hb ⟨g,e⟩
   ·rw [decide_eq_false g];rfl
  rw [hd] at cb
  have hv:valS P day=if n=0 then 0 else (P.getD (n-1) (0,0)).2:=valG_at (P:=P) (cur:=0) (day:=day) n h1 (fun j hj=>by have:=h2 j hj;rw [(hm j (by omega)).1] at this;omega) (fun j hj hl=>by
    have:=h3 j hj (by rw [List.length_map];exact hl)
    rw [(hm j hl).1] at this
    by_cases g:j=n
    ·subst g
     have:¬ (P.getD j (0,0)).1=day:=fun e=>hb ⟨hl,e⟩
     omega
    ·have:=hlt n j (by omega) hl
     have g3:=h3 n (Nat.le_refl _) (by rw [List.length_map];omega)
     rw [(hm n (by omega)).1] at g3
     omega)
  by_cases h0:n=0
  ·subst h0
   have w0:IntKind.i64.wrap (-1)=-1:=wI (by omega)
   have d0:decide ((-1:Int)<0)=true:=rfl
   rw [hv,if_pos rfl]
   refine ctr_pure Tryz.func123 ok123 rfl cc123 cr123 Tryz.ntmps123 (by simp) rfl rfl ?_;intro c hP hfn;simp only [kc123,vSt,cSt,slK,List.length_map,vcd,↓vcp,seval]
   repeat' first|((first|refine tp hP (by exact cb) ?_|refine tg hP (fun _=>by exact cb) ?_|refine tv hP rfl (by exact cb) ?_);try simp only [w0,d0,vcd,↓vcp,seval])|refine And.intro (fun h=>?_) (fun h=>?_)|refine aO ?_|(refine tA rfl rfl rfl rfl ?_;try simp only [w0,d0,vcd,↓vcp,seval])|refine aT ?_|fail
   exact RetK.pure (by simp only [rs123,rsb,vcd,↓vcp,seval]) (by (simp only [rs123,rsb,enb,vcd,↓vcp,seval])<;>(first|rfl))
  ·have w1:IntKind.i64.wrap ((n:Int)-1)=((n-1:Nat):Int):=(wI (by omega)).trans (by omega)
   have d0:decide (((n-1:Nat):Int)<0)=false:=decide_eq_false (by omega)
   have b1:(0:Int)≤((n-1:Nat):Int)∧((n-1:Nat):Int)<(P.length:Int):=by omega
   rw [hv,if_neg h0]
   refine ctr_pure Tryz.func123 ok123 rfl cc123 cr123 Tryz.ntmps123 (by simp) rfl rfl ?_;intro c hP hfn;simp only [kc123,vSt,cSt,slK,List.length_map,vcd,↓vcp,seval]
   repeat' first|((first|refine tp hP (by exact cb) ?_|refine tg hP (fun _=>by exact cb) ?_|refine tv hP rfl (by exact cb) ?_);try simp only [w1,d0,vcd,↓vcp,seval])|refine And.intro (fun h=>?_) (fun h=>?_)|refine aO ?_|(refine tA rfl rfl rfl rfl ?_;try simp only [w1,d0,vcd,↓vcp,seval])|refine aT ?_|fail
   refine RetK.pure (by simp only [rs123,rsb,vcd,↓vcp,seval]) ?_
   simp only [rs123,(hm (n-1) (by omega)).2,rsb,vcd,↓vcp,seval]
   exact VLe.refl _
def pcL (P:List (Int×Int)) (a b:Int):List ((Int×Int)×Int):=pieG (valS P) b a (P.map (·.1))
def dSt (P:List (Int×Int)):List D:=[slK .i64 (P.map (·.1)),slK .i64 (P.map (·.2))]
def pcF (P:List (Int×Int)) (a b:Int):V:=.fn (.func 122) [] [.mem [.int .i64 a,.int .i64 b],.mem (dSt P)]
theorem sPieces (P:List (Int×Int)) (a b:Int):Ctr Tryz.prog 79 [vSt P,vS a b] [] (pcF P a b) [] []:=by
 refine ctr_pure Tryz.func79 ok79 rfl cc79 cr79 Tryz.ntmps79 (by simp) rfl rfl ?_;intro c hP hfn;simp only [kc79,vSt,cSt,slK,List.length_map,vS,vcd,↓vcp,seval]
 repeat' first|refine And.intro (fun h=>?_) (fun h=>?_)|refine aO ?_|(refine tA rfl rfl rfl rfl ?_;try simp only [vcd,↓vcp,seval])|refine aT ?_|fail
 exact RetK.mk _ ((Wk.pubF 2 rfl rfl).trans (Wk.pubF 3 rfl rfl)) (by simp only [rs79,rsb,vcd,↓vcp,seval]) (by simp only [rs79,pcF,dSt,slK,List.length_map,rsb,enb,vcd,↓vcp,seval]) trivial
def pcArgs (P:List (Int×Int)) (a b:Int) (k:Nat):List V:=[vS ((pcL P a b).getD k default).1.1 ((pcL P a b).getD k default).1.2,.d (.int .i64 ((pcL P a b).getD k default).2)]
theorem pieG_ne (f:Int→Int) (to:Int):∀ (r:List Int) (fr:Int),0<(pieG f to fr r).length
 |[],fr=>by simp [pieG]
 |d::r,fr=>by
  rw [pieG]
  split
  ·exact pieG_ne f to r fr
  ·simp
theorem it_pieces (P:List (Int×Int)) (a b:Int) (hs:P.Pairwise (fun a b=>a.1<b.1)) (hl:P.length≤1000000):IterC Tryz.prog 122 [.mem [.int .i64 a,.int .i64 b],.mem (dSt P)] (pcArgs P a b) (pcL P a b).length:=by
 refine iter_of_vc Tryz.func122 ok122 rfl cc122 cr122 (by simp only [Tryz.ntmps122,List.length_cons,List.length_nil];decide) rfl (fun _=>rfl) ?_
 intro c l' T stop Z hP _ hZ hT hT' hY
 have hbk:∀ k n o,(n,o)∈Z k→own? ([]++Z k) n=some o:=fun k n o hm=>mem_own? (hZ.nodup k) hm
 simp only [kc122,dSt,slK,List.length_map,vcd,↓vcp,seval]
 refine vcC.loop (X:=Nat×Int×Nat) (fun x=>⟨[(0,.fn (.yield l') [] []),(1,.mem [.int .i64 a,.int .i64 b]),(2,.mem (dSt P)),(4,.d (.int .i64 x.2.1)),(10,.d (slK .i64 (P.map (·.1)))),(11,.d (.int .i64 P.length)),(12,.d (.int .i64 (x.1:Nat)))],[]++Z x.2.2,[]++keysO (Z x.2.2)⟩)
  (fun x=>x.1≤P.length∧(pcL P a b).drop x.2.2=pieG (valS P) b x.2.1 ((P.map (·.1)).drop x.1)∧x.2.2<T) (fun x=>P.length-x.1) (0,a,0)
  ⟨Nat.zero_le _,rfl,by
   have h1:=pieG_ne (valS P) b (P.map (·.1)) a
   cases hst:stop with
   |true=>exact (hT' hst).1
   |false=>rw [hT hst];exact h1⟩ (Wk.ofZ hZ rfl 0 (own:=[]) (nm:=[]) rfl rfl (by simp only [dSt,slK,List.length_map,enb,vcd,↓vcp,seval]) (by simp only [enb,vcd,↓vcp,seval]) (hbk 0)) ?_
 rintro ⟨k,fr,m⟩ ⟨hk,hd,hm⟩
 simp only at hk hd hm
 have hTn:T≤(pcL P a b).length:=by
  cases hst:stop with
  |true=>exact (hT' hst).2
  |false=>rw [hT hst];exact Nat.le_refl _
 obtain ⟨x,hdx,hgx,-,-⟩:=drop_at (l:=pcL P a b) (k:=m) (by omega)
 have hgx:=hgx default
 rw [hdx] at hd
 have hval:=sValue P fr hs (by omega)
 simp only [vSt,cSt,slK,List.length_map] at hval
 by_cases hlt:k<P.length
 ·obtain ⟨⟨d,v⟩,hdp,-,-,hp⟩:=drop_at hlt
  obtain ⟨g1,g2⟩:=map1 hp
  simp only at g1
  have hdm:(P.map (·.1)).drop k=d::(P.map (·.1)).drop (k+1):=by rw [←List.map_drop,hdp,←List.map_drop];rfl
  rw [hdm,pieG] at hd
  have d0:decide ((k:Int)<(P.length:Int))=true:=decide_eq_true (by omega)
  have w1:IntKind.i64.wrap ((k:Int)+1)=((k+1:Nat):Int):=wS (by omega)
  have b1:(0:Int)≤(k:Int)∧(k:Int)<(P.length:Int):=by omega
  by_cases hskip:d≤fr∨d≥b
  ·rw [if_pos hskip] at hd
   have hc:(decide (d≤fr) || decide (d≥b))=true:=by rw [Bool.or_eq_true,decide_eq_true_eq,decide_eq_true_eq];exact hskip
   simp only [dSt,slK,List.length_map,d0,g1,hc,vcd,↓vcp,seval]
   repeat' first|refine And.intro (fun h=>?_) (fun h=>?_)|refine aO ?_|(refine tA rfl rfl rfl rfl ?_;try simp only [d0,g1,w1,hc,vcd,↓vcp,seval])|refine aT ?_|fail
   exact lopK.on (k+1,fr,m) ⟨hlt,by rw [hdx];exact hd,hm⟩ (by simp only;omega) (Wk.ofZ hZ rfl m (own:=[]) (nm:=[]) rfl rfl (by simp only [dSt,slK,List.length_map,w1,enb,vcd,↓vcp,seval]) (by simp only [enb,vcd,↓vcp,seval]) (hbk m))
  ·rw [if_neg hskip] at hd
   have hc:(decide (d≤fr) || decide (d≥b))=false:=by rw [Bool.or_eq_false_iff,decide_eq_false_iff_not,decide_eq_false_iff_not];omega
   injection hd with hd1 hd2
   simp only [dSt,slK,List.length_map,d0,g1,hc,vcd,↓vcp,seval]
   repeat' first|((first|refine tp hP (by exact hval) ?_|refine tg hP (fun _=>by exact hval) ?_|refine tv hP rfl (by exact hval) ?_);try simp only [d0,g1,w1,hc,vcd,↓vcp,seval])|refine And.intro (fun h=>?_) (fun h=>?_)|refine aO ?_|(refine tA rfl rfl rfl rfl ?_;try simp only [d0,g1,w1,hc,vcd,↓vcp,seval])|refine aT ?_|fail
   refine TR.yield hZ rfl (hY m hm) (own:=[]) (nm:=[]) rfl rfl rfl trivial (by simp only [pcArgs,hgx,hd1,vS,vcd,↓vcp,seval]) (by simp only [vcd,↓vcp,seval]) ?_
   simp only [vcd,↓vcp,seval]
   refine ⟨fun hg=>?_,fun hg=>?_⟩
   ·have hT1:T=m+1:=by
     simp [goAt] at hg
     omega
    subst hT1
    exact IterK.mk _ (Wk.refl _ _) (OwnLe.of fun n o hm=>⟨o,mem_own? (hZ.nodup (m+1)) hm,OLe.refl o⟩)
   ·have hmT:m+1<T:=by
     simp [goAt] at hg
     by_cases h9:m+1<T
     ·exact h9
     ·have h8:=hT (hg (by omega))
      have h7:=pieG_ne (valS P) b ((P.map (·.1)).drop (k+1)) d
      rw [←hd2,List.length_drop] at h7
      omega
    simp only [w1,vcd,↓vcp,seval]
    exact lopK.on (k+1,d,m+1) ⟨hlt,hd2,hmT⟩ (by simp only;omega) (Wk.ofZ hZ rfl (m+1) (own:=[]) (nm:=[]) rfl rfl (by simp only [dSt,slK,List.length_map,w1,enb,vcd,↓vcp,seval]) (by simp only [enb,vcd,↓vcp,seval]) (hbk (m+1)))
 ·have d0:decide ((k:Int)<(P.length:Int))=false:=decide_eq_false (by omega)
  have hdm:(P.map (·.1)).drop k=[]:=List.drop_eq_nil_of_le (by rw [List.length_map];omega)
  rw [hdm,pieG] at hd
  injection hd with hd1 hd2
  have hTm:T=m+1:=by
   have:=congrArg List.length hd2
   simp at this
   omega
  simp only [dSt,slK,List.length_map,d0,vcd,↓vcp,seval]
  repeat' first|((first|refine tp hP (by exact hval) ?_|refine tg hP (fun _=>by exact hval) ?_|refine tv hP rfl (by exact hval) ?_);try simp only [d0,vcd,↓vcp,seval])|refine And.intro (fun h=>?_) (fun h=>?_)|refine aO ?_|(refine tA rfl rfl rfl rfl ?_;try simp only [d0,vcd,↓vcp,seval])|refine aT ?_|fail
  refine TR.yieldD hZ rfl (hY m hm) (own:=[]) (nm:=[]) rfl rfl rfl trivial (by simp only [pcArgs,hgx,hd1,vS,vcd,↓vcp,seval]) (by simp only [vcd,↓vcp,seval]) ?_ ?_
  ·intro lg
   simp [ownOk,meetL,hitL,List.range,List.range.loop]
  ·intro st' hw
   rw [hTm]
   exact IterK.mk' _ hw (OwnLe.of fun n o hm=>⟨o,mem_own? (hZ.nodup (m+1)) hm,OLe.refl o⟩)
end Go.Proofs.YtanppabbmffokaaGreat
end
section
namespace Go.Proofs.YtanppabbmffokaaGreat
open Go.Bx
set_option maxRecDepth 10000
def runG (L:List ((Int×Int)×Int)) (k:Nat):Int×Int:=(L.take k).foldl (fun s p=>(s.1+(p.1.2-p.1.1)*p.2,s.2+(p.1.2-p.1.1)*max p.2 (-p.2))) (0,0)
def badP (all:Int) (p:(Int×Int)×Int):Prop:=max p.2 (-p.2)>(4000000000000000000-all) / (p.1.2-p.1.1)
instance (all:Int) (p:(Int×Int)×Int):Decidable (badP all p):=inferInstanceAs (Decidable (_>_))
theorem runG_succ {L:List ((Int×Int)×Int)} {k:Nat} {p:(Int×Int)×Int} (h:L[k]?=some p):runG L (k+1)=((runG L k).1+(p.1.2-p.1.1)*p.2,(runG L k).2+(p.1.2-p.1.1)*max p.2 (-p.2)):=by
 rw [runG,List.take_add_one,h,List.foldl_append];rfl
theorem sumG_drop {L:List ((Int×Int)×Int)} {k:Nat} {p:(Int×Int)×Int} (h:L[k]?=some p):sumG (runG L k).1 (runG L k).2 (L.drop k)=if badP (runG L k).2 p then (0,5) else sumG (runG L (k+1)).1 (runG L (k+1)).2 (L.drop (k+1)):=by
 obtain ⟨hk,rfl⟩:=List.getElem?_eq_some_iff.1 h
 rw [List.drop_eq_getElem_cons hk,runG_succ h,sumG]
 rfl
structure PcOk (p:(Int×Int)×Int):Prop where
 fr:1≤p.1.1
 lt:p.1.1<p.1.2
 to:p.1.2≤292195
 v1:-4000000000000000000≤p.2
 v2:p.2≤4000000000000000000
theorem cut_ok {g:Int→Int} {a b:Int} {l:List ((Int×Int)×Int)} (h:Cut g a b l) (ha:1≤a) (hb:b≤292195) (hg:∀ d,-4000000000000000000≤g d∧g d≤4000000000000000000):∀ p,p∈l→PcOk p:=by
 induction h with
 |nil=>intro p hp;simp at hp
 |@cons a b c l hab _ hl ih =>
  intro p hp
  have:=hl.le
  rcases List.mem_cons.1 hp with rfl|hp
  ·exact ⟨ha,hab,by simp only;omega,(hg a).1,(hg a).2⟩
  ·exact ih (by omega) hb p hp
theorem badP_iff {all:Int} {p:(Int×Int)×Int} (hp:PcOk p):badP all p↔all+(p.1.2-p.1.1)*max p.2 (-p.2)>4000000000000000000:=by
 have h0:0<p.1.2-p.1.1:=by have:=hp.lt;omega
 have:=Int.le_ediv_iff_mul_le (a:=max p.2 (-p.2)) (b:=4000000000000000000-all) h0
 rw [Int.mul_comm] at this
 unfold badP
 omega
theorem run_inv {L:List ((Int×Int)×Int)} (hp:∀ p,p∈L→PcOk p):∀ {k:Nat},k≤L.length→(∀ j p,j<k→L[j]?=some p→¬ badP (runG L j).2 p)→0≤(runG L k).2∧(runG L k).2≤4000000000000000000∧(runG L k).1≤(runG L k).2∧-(runG L k).2≤(runG L k).1
 |0,_,_=>⟨Int.le_refl _,by simp [runG],Int.le_refl _,Int.le_refl _⟩
 |k+1,hk,hb=>by
  obtain ⟨h1,h2,h3,h4⟩:=run_inv hp (k:=k) (by omega) (fun j p hj hjp=>hb j p (by omega) hjp)
  have he:L[k]?=some L[k]:=List.getElem?_eq_getElem (by omega)
  have hpo:=hp L[k] (List.getElem_mem _)
  have hnb:=mt (badP_iff (all:=(runG L k).2) hpo).2 (hb k _ (Nat.lt_succ_self k) he)
  rw [runG_succ he]
  generalize L[k]=p at *
  have hn:0≤p.1.2-p.1.1:=by have:=hpo.lt;omega
  have m1:=Int.mul_le_mul_of_nonneg_left (show p.2≤max p.2 (-p.2) by omega) hn
  have m2:=Int.mul_le_mul_of_nonneg_left (show -p.2≤max p.2 (-p.2) by omega) hn
  rw [Int.mul_neg] at m2
  have m3:0≤(p.1.2-p.1.1)*max p.2 (-p.2):=Int.mul_nonneg hn (by omega)
  simp only
  omega
theorem bad_or (L:List ((Int×Int)×Int)):∀ (n:Nat),n≤L.length→(∃ K p,K<n∧L[K]?=some p∧badP (runG L K).2 p∧∀ j q,j<K→L[j]?=some q→¬ badP (runG L j).2 q)∨(∀ j q,j<n→L[j]?=some q→¬ badP (runG L j).2 q)
 |0,_=>.inr fun j q hj=>absurd hj (Nat.not_lt_zero j)
 |n+1,hn=>by
  rcases bad_or L n (by omega) with ⟨K,p,h1,h2,h3,h4⟩|h
  ·exact .inl ⟨K,p,by omega,h2,h3,h4⟩
  ·have he:L[n]?=some L[n]:=List.getElem?_eq_getElem (by omega)
   by_cases hb:badP (runG L n).2 L[n]
   ·exact .inl ⟨n,_,by omega,he,hb,h⟩
   ·refine .inr fun j q hj hq=>?_
    by_cases e:j=n
    ·subst e;rw [he] at hq;injection hq with hq;subst hq;exact hb
    ·exact h j q (by omega) hq
theorem sumG_take {L:List ((Int×Int)×Int)}:∀ {k:Nat},k≤L.length→(∀ j q,j<k→L[j]?=some q→¬ badP (runG L j).2 q)→sumG 0 0 L=sumG (runG L k).1 (runG L k).2 (L.drop k)
 |0,_,_=>rfl
 |k+1,hk,hb=>by
  have he:L[k]?=some L[k]:=List.getElem?_eq_getElem (by omega)
  rw [sumG_take (k:=k) (by omega) (fun j q hj hq=>hb j q (by omega) hq),sumG_drop he,if_neg (hb k _ (Nat.lt_succ_self k) he)]
def smOw (e s a:Int):List (Nat×Go.Bx.Own):=[(4,.fix [.d (.int .i64 0)]),(5,.fix [.d (.int .i64 e)]),(6,.fix [.d (.int .i64 s)]),(7,.fix [.d (.int .i64 a)])]
def smO1 (p:(Int×Int)×Int) (s a:Int):List (Nat×Go.Bx.Own):=[(4,.fix [.d (.int .i64 0)]),(5,.fix [.d (.int .i64 0)]),(6,.fix [.d (.int .i64 s)]),(7,.fix [.d (.int .i64 a)]),(8,.fix [.d (.int .i64 p.1.1),.d (.int .i64 p.1.2)])]
def smEn (P:List (Int×Int)) (a b:Int):List (Nat×V):=[(4,.own 4 0),(5,.own 5 0),(6,.own 6 0),(7,.own 7 0),(22,pcF P a b)]
def smE1 (p:(Int×Int)×Int):List (Nat×V):=[(4,.own 4 0),(5,.own 5 0),(6,.own 6 0),(7,.own 7 0),(8,.own 8 0),(9,.d (.int .i64 p.2))]
theorem sm_cli (e s a:Nat→Int):CliO [4,5,6,7] (fun k=>smOw (e k) (s k) (a k)):=by
 refine ⟨fun k=>by simp [smOw,keysO],fun k n hn=>?_,fun k n hn=>by simpa [smOw,keysO] using hn⟩
 simp only [smOw,ownNames,namesL,V.names,List.append_nil,List.nil_append] at hn
 simpa [smOw,keysO] using hn
theorem sm_cli1 (p:Nat→(Int×Int)×Int) (s a:Nat→Int):CliO [4,5,6,7] (fun k=>smO1 (p k) (s k) (a k)):=by
 refine ⟨fun k=>by simp [smO1,keysO],fun k n hn=>?_,fun k n hn=>?_⟩
 ·simp only [smO1,ownNames,namesL,V.names,List.append_nil,List.nil_append] at hn
  simpa [smO1,keysO] using hn
 ·simp only [List.mem_cons,List.not_mem_nil,or_false] at hn
  rcases hn with h|h|h|h<;>simp [smO1,keysO,h]
theorem sm_env (P:List (Int×Int)) (a b:Int):∀ s n,n∈(Go.Bx.get (smEn P a b) s).names→n∈[4,5,6,7]:=env_names fun s y hm n hn=>by
 simp only [smEn,pcF,List.mem_cons,Prod.mk.injEq,List.not_mem_nil,or_false] at hm
 rcases hm with ⟨rfl,rfl⟩|⟨rfl,rfl⟩|⟨rfl,rfl⟩|⟨rfl,rfl⟩|⟨rfl,rfl⟩<;>simp [V.names,namesL] at hn ⊢<;>simp [hn]
set_option maxHeartbeats 1000000 in
theorem sSumS (P:List (Int×Int)) (a b:Int) (hl:P.length≤1000000):Ctr Tryz.prog 30 [vSt P,vS a b] [] (.tup [.d (.int .i64 (sumS P a b).1),.d (.int .i64 (sumS P a b).2)]) [] []:=by
 have cr:=sRightS P (by omega)
 have cf:=sFullS a b
 have cp:=sPieces P a b
 simp only [vSt,cSt,slK,List.length_map] at cr
 simp only [vS] at cf
 simp only [vSt,cSt,slK,List.length_map,vS] at cp
 cases hR:stG 0 0 P with
 |false =>
  have e:sumS P a b=(0,1):=by rw [sumS,hR];rfl
  rw [hR] at cr
  rw [e]
  refine ctr_pureL Tryz.func30 ok30 rfl cc30 cr30 Tryz.ntmps30 (by simp) rfl rfl ?_;intro c hP hfn hrd;simp only [kc30,vSt,cSt,slK,List.length_map,vS,vcd,↓vcp,seval]
  repeat' first|((first|refine tp hP (by first|exact cr|exact cf) ?_|refine tg hP (fun _=>by first|exact cr|exact cf) ?_|refine tv hP rfl (by first|exact cr|exact cf) ?_);try simp only [vcd,↓vcp,seval])|refine And.intro (fun h=>?_) (fun h=>?_)|refine aO ?_|(refine tA rfl rfl rfl rfl ?_;try simp only [vcd,↓vcp,seval])|refine aT ?_|fail
  all_goals exact RetK.pure (by simp only [rs30,rsb,vcd,↓vcp,seval]) (by (simp only [rs30,rsb,enb,vcd,↓vcp,seval])<;>(first|exact VLe.refl _))
 |true =>
 rw [hR] at cr
 cases hF:fullB a b with
 |false =>
  have e:sumS P a b=(0,1):=by rw [sumS,hR,hF];rfl
  rw [hF] at cf
  rw [e]
  refine ctr_pureL Tryz.func30 ok30 rfl cc30 cr30 Tryz.ntmps30 (by simp) rfl rfl ?_;intro c hP hfn hrd;simp only [kc30,vSt,cSt,slK,List.length_map,vS,vcd,↓vcp,seval]
  repeat' first|((first|refine tp hP (by first|exact cr|exact cf) ?_|refine tg hP (fun _=>by first|exact cr|exact cf) ?_|refine tv hP rfl (by first|exact cr|exact cf) ?_);try simp only [vcd,↓vcp,seval])|refine And.intro (fun h=>?_) (fun h=>?_)|refine aO ?_|(refine tA rfl rfl rfl rfl ?_;try simp only [vcd,↓vcp,seval])|refine aT ?_|fail
  all_goals exact RetK.pure (by simp only [rs30,rsb,vcd,↓vcp,seval]) (by (simp only [rs30,rsb,enb,vcd,↓vcp,seval])<;>(first|exact VLe.refl _))
 |true =>
 rw [hF] at cf
 have e:sumS P a b=sumG 0 0 (pcL P a b):=by rw [sumS,hR,hF];rfl
 obtain ⟨hS1,hS2⟩:=stG_iff hR
 have hfb:1≤a∧a<b∧b≤292195:=by simp only [fullB,Bool.and_eq_true,decide_eq_true_eq] at hF;omega
 have hcut:Cut (valS P) a b (pcL P a b):=pieG_cut (by omega) (List.pairwise_map.2 hS2) fun d hd=>.inr hd
 have hpo:=cut_ok hcut hfb.1 hfb.2.2 (fun d=>by
  rcases valG_mem (P:=P) (cur:=0) (day:=d) with h|⟨p,hp,h⟩
  ·rw [valS,h];omega
  ·rw [valS,h];exact ⟨(hS1 p hp).2.2.1,(hS1 p hp).2.2.2⟩)
 have hI:=it_pieces P a b hS2 hl
 rw [e]
 refine ctr_pureL Tryz.func30 ok30 rfl cc30 cr30 Tryz.ntmps30 (by simp) rfl rfl ?_;intro c hP hfn hrd;simp only [kc30,vSt,cSt,slK,List.length_map,vS,vcd,↓vcp,seval]
 repeat' first|((first|refine tp hP (by first|exact cr|exact cf|exact cp) ?_|refine tg hP (fun _=>by first|exact cr|exact cf|exact cp) ?_|refine tv hP rfl (by first|exact cr|exact cf|exact cp) ?_);try simp only [vcd,↓vcp,seval])|refine And.intro (fun h=>?_) (fun h=>?_)|refine aO ?_|(refine tA rfl rfl rfl rfl ?_;try simp only [vcd,↓vcp,seval])|refine aT ?_|fail
 rw [←hP] at hI
 have hpk:∀ k,k<(pcL P a b).length→PcOk ((pcL P a b).getD k default)∧(pcL P a b)[k]?=some ((pcL P a b).getD k default):=fun k hk=>by
  obtain ⟨x,-,hg,hm,he⟩:=drop_at hk
  rw [hg];exact ⟨hpo x hm,he⟩
 clear cr cf cp
 rcases bad_or (pcL P a b) (pcL P a b).length (Nat.le_refl _) with ⟨K,p,hK,hp,hbad,hnb⟩|hnb
 ·have hres:sumG 0 0 (pcL P a b)=(0,5):=by rw [sumG_take (k:=K) (by omega) hnb,sumG_drop hp,if_pos hbad]
  rw [hres]
  refine vcC.rfnJ hI (K+1) (some .ret) (smEn P a b) [4,5,6,7] (fun k=>smOw (if k=K+1 then 5 else 0) (if k=K+1 then (runG (pcL P a b) K).1 else (runG (pcL P a b) k).1) (if k=K+1 then (runG (pcL P a b) K).2 else (runG (pcL P a b) k).2)) (fun k=>smO1 ((pcL P a b).getD k default) (runG (pcL P a b) k).1 (runG (pcL P a b) k).2) (fun k=>smE1 ((pcL P a b).getD k default)) ?_ rfl trivial
   ⟨hrd,sm_cli _ _ _,sm_cli1 _ _ _,fun n hn=>(by rw [hfn] at hn;cases hn),sm_env P a b,rfl,fun _=>rfl,fun _=>rfl,fun h=>(by cases h),fun _=>⟨by omega,by omega⟩,fun h=>(by cases h)⟩ ?_ ?_ (fun h=>by cases h) ?_
  ·refine Wk.of (b:=⟨smEn P a b,smOw 0 0 0,[4,5,6,7]⟩) _ hfn rfl ?_ ?_
   ·simp only [smEn,enb,vcd,↓vcp,seval]
   ·simp only [smOw,enb,vcd,↓vcp,seval]
  ·intro k hk cB hPB hfB
   have hne:¬ k=K+1:=by omega
   generalize runG (pcL P a b) k=r at *
   simp only [hne,if_false,setPs,pcArgs,vS,smOw,smEn,pcF,vcd,↓vcp,seval]
   rw [rfnA_nrm]
   refine Wk.of (b:=⟨smE1 ((pcL P a b).getD k default),smO1 ((pcL P a b).getD k default) r.1 r.2,[4,5,6,7,8]⟩) _ hfB rfl ?_ ?_
   ·simp only [smE1,enb,vcd,↓vcp,seval]
   ·simp only [smO1,enb,vcd,↓vcp,seval]
  ·intro k hk cB hPB hfB
   have hnb':∀ j q,j<k→(pcL P a b)[j]?=some q→¬ badP (runG (pcL P a b) j).2 q:=fun j q hj hq=>hnb j q (by omega) hq
   obtain ⟨i1,i2,i3,i4⟩:=run_inv hpo (k:=k) (by omega) hnb'
   obtain ⟨po,pe⟩:=hpk k (by omega)
   by_cases hkK:k=K
   ·subst hkK
    have hg:goAt (k+1) (some Ex.ret).isSome k=false:=by simp [goAt]
    rw [hp] at pe
    injection pe with pe
    rw [←pe] at po ⊢
    generalize runG (pcL P a b) k=r at *
    obtain ⟨r1,r2⟩:=r
    simp only at i1 i2 i3 i4
    obtain ⟨⟨q1,q2⟩,v⟩:=p
    obtain ⟨p1,p2,p3,p4,p5⟩:=po
    simp only at p1 p2 p3 p4 p5
    simp only [badP] at hbad
    have wn:IntKind.i64.wrap (q2-q1)=q2-q1:=wI (by omega)
    have wv:IntKind.i64.wrap (0-v)=-v:=(wI (by omega)).trans (by omega)
    have wm:IntKind.i64.wrap (4000000000000000000-r2)=4000000000000000000-r2:=wI (by omega)
    have hq:(4000000000000000000-r2).tdiv (q2-q1)=(4000000000000000000-r2) / (q2-q1):=Int.tdiv_eq_ediv_of_nonneg (by omega)
    have hq0:0≤(4000000000000000000-r2) / (q2-q1):=Int.ediv_nonneg (by omega) (by omega)
    have hq1:(4000000000000000000-r2) / (q2-q1)≤4000000000000000000-r2:=Int.ediv_le_self _ (by omega)
    have wq:IntKind.i64.wrap ((4000000000000000000-r2).tdiv (q2-q1))=(4000000000000000000-r2) / (q2-q1):=by rw [hq];exact wI (by omega)
    have hz:q2-q1≠0:=by omega
    have d0:decide (max v (-v)>(4000000000000000000-r2) / (q2-q1))=true:=decide_eq_true hbad
    simp only [hg,if_true]
    simp only [smO1,smE1,smOw,wn,wv,wm,wq,d0,vcd,↓vcp,seval]
    repeat' first|refine And.intro (fun h=>?_) (fun h=>?_)|refine aO ?_|(refine tA rfl rfl rfl rfl ?_;try simp only [wn,wv,wm,wq,d0,vcd,↓vcp,seval])|refine aT ?_|fail
    all_goals exact Wk.of (b:=⟨[],smOw 5 r1 r2,[4,5,6,7]⟩) _ hfB rfl (by simp only [enb,vcd,↓vcp,seval]) (by simp only [smOw,enb,vcd,↓vcp,seval])
   ·have hg:goAt (K+1) (some Ex.ret).isSome k=true:=by simp [goAt];omega
    have hne:¬ k+1=K+1:=by omega
    have hsu:=runG_succ pe
    have hbk:=hnb k _ (by omega) pe
    rw [hsu]
    generalize (pcL P a b).getD k default=p at *
    generalize runG (pcL P a b) k=r at *
    obtain ⟨r1,r2⟩:=r
    simp only at i1 i2 i3 i4
    obtain ⟨⟨q1,q2⟩,v⟩:=p
    have hnbd:=mt (badP_iff (all:=r2) po).2 hbk
    obtain ⟨p1,p2,p3,p4,p5⟩:=po
    simp only at p1 p2 p3 p4 p5 hnbd
    simp only [badP] at hbk
    have wn:IntKind.i64.wrap (q2-q1)=q2-q1:=wI (by omega)
    have wv:IntKind.i64.wrap (0-v)=-v:=(wI (by omega)).trans (by omega)
    have wm:IntKind.i64.wrap (4000000000000000000-r2)=4000000000000000000-r2:=wI (by omega)
    have hq:(4000000000000000000-r2).tdiv (q2-q1)=(4000000000000000000-r2) / (q2-q1):=Int.tdiv_eq_ediv_of_nonneg (by omega)
    have hq0:0≤(4000000000000000000-r2) / (q2-q1):=Int.ediv_nonneg (by omega) (by omega)
    have hq1:(4000000000000000000-r2) / (q2-q1)≤4000000000000000000-r2:=Int.ediv_le_self _ (by omega)
    have wq:IntKind.i64.wrap ((4000000000000000000-r2).tdiv (q2-q1))=(4000000000000000000-r2) / (q2-q1):=by rw [hq];exact wI (by omega)
    have hz:q2-q1≠0:=by omega
    have hn:0≤q2-q1:=by omega
    have m1:=Int.mul_le_mul_of_nonneg_left (show v≤max v (-v) by omega) hn
    have m2:=Int.mul_le_mul_of_nonneg_left (show -v≤max v (-v) by omega) hn
    rw [Int.mul_neg] at m2
    have m3:0≤(q2-q1)*max v (-v):=Int.mul_nonneg hn (by omega)
    have d0:decide (max v (-v)>(4000000000000000000-r2) / (q2-q1))=false:=decide_eq_false hbk
    have wx:IntKind.i64.wrap ((q2-q1)*v)=(q2-q1)*v:=wI (by omega)
    have wy:IntKind.i64.wrap ((q2-q1)*max v (-v))=(q2-q1)*max v (-v):=wI (by omega)
    have w1:IntKind.i64.wrap (r1+(q2-q1)*v)=r1+(q2-q1)*v:=wI (by omega)
    have w2:IntKind.i64.wrap (r2+(q2-q1)*max v (-v))=r2+(q2-q1)*max v (-v):=wI (by omega)
    clear m1 m2 m3 hq hq0 hq1 hnbd hbk
    simp only [hg,hne,if_false]
    simp only [smO1,smE1,smOw,wn,wv,wm,wq,d0,wx,wy,w1,w2,vcd,↓vcp,seval]
    repeat' first|refine And.intro (fun h=>?_) (fun h=>?_)|refine aO ?_|(refine tA rfl rfl rfl rfl ?_;try simp only [wn,wv,wm,wq,d0,wx,wy,w1,w2,vcd,↓vcp,seval])|refine aT ?_|fail
    all_goals exact Wk.of (b:=⟨[],smOw 0 (r1+(q2-q1)*v) (r2+(q2-q1)*max v (-v)),[4,5,6,7]⟩) _ hfB rfl (by simp only [enb,vcd,↓vcp,seval]) (by simp only [smOw,w1,w2,enb,vcd,↓vcp,seval])
  ·intro e he
   injection he with he
   subst he
   simp only [if_true,smEn,pcF,smOw,vcd,↓vcp,seval]
   exact RetK.pure (by simp only [rs30,rsb,vcd,↓vcp,seval]) (by (simp only [rs30,rsb,enb,vcd,↓vcp,seval])<;>(first|exact VLe.refl _))
 ·have hres:sumG 0 0 (pcL P a b)=((runG (pcL P a b) (pcL P a b).length).1,0):=by rw [sumG_take (Nat.le_refl _) hnb,List.drop_length];rfl
  rw [hres]
  refine vcC.rfnAll hI (smEn P a b) [4,5,6,7] (fun k=>smOw 0 (runG (pcL P a b) k).1 (runG (pcL P a b) k).2) (fun k=>smO1 ((pcL P a b).getD k default) (runG (pcL P a b) k).1 (runG (pcL P a b) k).2) (fun k=>smE1 ((pcL P a b).getD k default)) ?_ rfl trivial
   ⟨hrd,sm_cli _ _ _,sm_cli1 _ _ _,fun n hn=>(by rw [hfn] at hn;cases hn),sm_env P a b,rfl,fun _=>rfl,fun _=>rfl,fun _=>rfl,fun h=>absurd rfl h,fun h=>(by cases h)⟩ ?_ ?_ ?_
  ·refine Wk.of (b:=⟨smEn P a b,smOw 0 0 0,[4,5,6,7]⟩) _ hfn rfl ?_ ?_
   ·simp only [smEn,enb,vcd,↓vcp,seval]
   ·simp only [smOw,enb,vcd,↓vcp,seval]
  ·intro k hk cB hPB hfB
   generalize runG (pcL P a b) k=r at *
   simp only [setPs,pcArgs,vS,smOw,smEn,pcF,vcd,↓vcp,seval]
   rw [rfnA_nrm]
   refine Wk.of (b:=⟨smE1 ((pcL P a b).getD k default),smO1 ((pcL P a b).getD k default) r.1 r.2,[4,5,6,7,8]⟩) _ hfB rfl ?_ ?_
   ·simp only [smE1,enb,vcd,↓vcp,seval]
   ·simp only [smO1,enb,vcd,↓vcp,seval]
  ·intro k hk cB hPB hfB
   have hnb':∀ j q,j<k→(pcL P a b)[j]?=some q→¬ badP (runG (pcL P a b) j).2 q:=fun j q hj hq=>hnb j q (by omega) hq
   obtain ⟨i1,i2,i3,i4⟩:=run_inv hpo (k:=k) (by omega) hnb'
   obtain ⟨po,pe⟩:=hpk k hk
   have hsu:=runG_succ pe
   have hbk:=hnb k _ hk pe
   rw [hsu]
   generalize (pcL P a b).getD k default=p at *
   generalize runG (pcL P a b) k=r at *
   obtain ⟨r1,r2⟩:=r
   simp only at i1 i2 i3 i4
   obtain ⟨⟨q1,q2⟩,v⟩:=p
   have hnbd:=mt (badP_iff (all:=r2) po).2 hbk
   obtain ⟨p1,p2,p3,p4,p5⟩:=po
   simp only at p1 p2 p3 p4 p5 hnbd
   simp only [badP] at hbk
   have wn:IntKind.i64.wrap (q2-q1)=q2-q1:=wI (by omega)
   have wv:IntKind.i64.wrap (0-v)=-v:=(wI (by omega)).trans (by omega)
   have wm:IntKind.i64.wrap (4000000000000000000-r2)=4000000000000000000-r2:=wI (by omega)
   have hq:(4000000000000000000-r2).tdiv (q2-q1)=(4000000000000000000-r2) / (q2-q1):=Int.tdiv_eq_ediv_of_nonneg (by omega)
   have hq0:0≤(4000000000000000000-r2) / (q2-q1):=Int.ediv_nonneg (by omega) (by omega)
   have hq1:(4000000000000000000-r2) / (q2-q1)≤4000000000000000000-r2:=Int.ediv_le_self _ (by omega)
   have wq:IntKind.i64.wrap ((4000000000000000000-r2).tdiv (q2-q1))=(4000000000000000000-r2) / (q2-q1):=by rw [hq];exact wI (by omega)
   have hz:q2-q1≠0:=by omega
   have hn:0≤q2-q1:=by omega
   have m1:=Int.mul_le_mul_of_nonneg_left (show v≤max v (-v) by omega) hn
   have m2:=Int.mul_le_mul_of_nonneg_left (show -v≤max v (-v) by omega) hn
   rw [Int.mul_neg] at m2
   have m3:0≤(q2-q1)*max v (-v):=Int.mul_nonneg hn (by omega)
   have d0:decide (max v (-v)>(4000000000000000000-r2) / (q2-q1))=false:=decide_eq_false hbk
   have wx:IntKind.i64.wrap ((q2-q1)*v)=(q2-q1)*v:=wI (by omega)
   have wy:IntKind.i64.wrap ((q2-q1)*max v (-v))=(q2-q1)*max v (-v):=wI (by omega)
   have w1:IntKind.i64.wrap (r1+(q2-q1)*v)=r1+(q2-q1)*v:=wI (by omega)
   have w2:IntKind.i64.wrap (r2+(q2-q1)*max v (-v))=r2+(q2-q1)*max v (-v):=wI (by omega)
   clear m1 m2 m3 hq hq0 hq1 hnbd hbk
   skip
   simp only [smO1,smE1,smOw,wn,wv,wm,wq,d0,wx,wy,w1,w2,vcd,↓vcp,seval]
   repeat' first|refine And.intro (fun h=>?_) (fun h=>?_)|refine aO ?_|(refine tA rfl rfl rfl rfl ?_;try simp only [wn,wv,wm,wq,d0,wx,wy,w1,w2,vcd,↓vcp,seval])|refine aT ?_|fail
   all_goals exact Wk.of (b:=⟨[],smOw 0 (r1+(q2-q1)*v) (r2+(q2-q1)*max v (-v)),[4,5,6,7]⟩) _ hfB rfl (by simp only [enb,vcd,↓vcp,seval]) (by simp only [smOw,w1,w2,enb,vcd,↓vcp,seval])
  ·generalize runG (pcL P a b) (pcL P a b).length=r at *
   simp only [smEn,pcF,smOw,vcd,↓vcp,seval]
   exact RetK.pure (by simp only [rs30,rsb,vcd,↓vcp,seval]) (by (simp only [rs30,rsb,enb,vcd,↓vcp,seval])<;>(first|exact VLe.refl _))
end Go.Proofs.YtanppabbmffokaaGreat
end
