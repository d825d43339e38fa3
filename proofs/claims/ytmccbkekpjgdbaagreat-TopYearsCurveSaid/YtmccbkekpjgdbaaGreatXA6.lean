import Derived.Test.YtmccbkekpjgdbaaGreatXA5
import Derived.RecoverIn
import Derived.KernelRfl
import Derived.CheckFast
import Derived.Test.YtmccbkekpjgdbaaGreatRows
import Derived.Tactics
import Derived.Tactics2
import Derived.TacticsInMore
import Derived.RegionIn
import Derived.Laws.Pointers
import Derived.Lib.Mul64
set_option linter.unusedSimpArgs false
set_option linter.unusedVariables false
section
namespace Go.Bx
open Go.RowKit
theorem impFT {A:Prop}:(false=true→A)=True:=eq_true (fun h=>by cases h)
theorem impTF {A:Prop}:(true=false→A)=True:=eq_true (fun h=>by cases h)
theorem isCall_pnc (x:X):isCall (.pnc x)=true:=rfl
theorem makes_pnc (x:X):makes (.pnc x)=false:=rfl
theorem isCall_lkq (z:D) (x i:X):isCall (.lkq z x i)=false:=rfl
theorem makes_lkq (z:D) (x i:X):makes (.lkq z x i)=false:=rfl
def CtrP (P:Program) (f:FuncId) (args:List V) (x:V):Prop:=
  okF P f=true ∧
  ∀ (E0 : Nat → Prop) (β : Names) (w : World) (vals : Array Value), (∀ b, E0 b → b < w.heap.size) → vals.size = args.length →
    (∀ (j:Nat) (v:Value) (y:V),vals[j]?=some v→args[j]?=some y→RelV β (Eo E0 β []) w v y) →
    Calls P f vals w fun e w'=>∃ v,e=.panicked [{ v:=v,recovered:=false }]∧RelV β (Eo E0 β []) w' v x∧Keeps (ownB β []) w w'
theorem CtrP.arg {P:Program} {f:FuncId} {args args':List V} {x:V} (h:CtrP P f args' x) (hv:VsLe args args'):CtrP P f args x:=by
 obtain ⟨h1,h4⟩:=h
 obtain ⟨hl,hr⟩:=VsLe.get hv
 refine ⟨h1,fun E0 β w vals hE hsz hvals=>h4 E0 β w vals hE (hsz.trans hl) fun j v x hv' hx=>?_⟩
 have hj:j<args.length:=by have:=(List.getElem?_eq_some_iff.1 hx).1;omega
 exact hr j args[j] x (List.getElem?_eq_getElem hj) hx _ _ _ _ (hvals j v args[j] hv' (List.getElem?_eq_getElem hj))
theorem OwnsOk.nil (E0:Nat→Prop) (β:Names) (w:World):OwnsOk E0 β w []:=⟨fun k o h=>by simp at h,by simp [keysO],fun k k' h=>by simp [keysO] at h,fun k h=>by simp [keysO] at h⟩
section
variable {c:Ctx} {β:Names} {a:Act} {w:World}
theorem callP_wp {st1:St} (H:Holds c β st1 a w) {o:Oper} {f:FuncId} {args:List V} {x:V} (hS:CtrP c.P f args x)
  {vals:Array Value} (hrun:(execOp a.eval o).run c.P w=.ok (.enter f vals) w) (hsz:vals.size=args.length)
  (hv:∀ (j:Nat) (v:Value) (x:V),vals[j]?=some v→args[j]?=some x→RelV β (Eo c.E0 β st1.own) w v x) {Q:Exit→Act→World→Prop} {K:Act→World→Prop}
  (hQ:∀ a' w' v,Holds c β st1 a' w'→RelV β (Eo c.E0 β st1.own) w' v x→Q (.panic [{ v:=v,recovered:=false }]) a' w'):o.wpIn c.F 0 c.P a w K Q:=by
 have hE:=call_E0 (c:=c) (β:=β) (st1:=st1) (ins:=[]) (fun k o h=>by simp at h)
 have hcall:=hS.2 (fun b=>c.E0 b∨∃ k,k∈keysO st1.own∧k∉keysO []∧β.blk k=some b) β w vals (by
  rintro b (h|⟨k,h1,_,h3⟩)
  ·have:=c.hE b h
   have:=H.kp.size
   omega
  ·exact (H.own.lt k h1 b h3).1) hsz (by rw [hE];exact hv)
 refine Oper.wpc_enter hrun (hcall.mono fun e w' he=>?_)
 obtain ⟨v,rfl,h3,hk⟩:=he
 rw [hE] at h3
 have h:=call_state (ins:=[]) (outs:=[]) (new:=[]) (β':=β) H (fun k o h=>by simp at h) (by simp) (by simp) (Names.le.refl β) (fun _ _=>rfl) (OwnsOk.nil _ _ _) hk (by simp [keysO])
 exact hQ a w' v h.1 h3
end
section
variable {c:Ctx} {st:St}
theorem noguard {ops:Array Oper} {o:Oper} {d:Option Nat} {q:O} (hc:Cmp c ops o ⟨d,none,q⟩):o.guard=none:=by
 have hcg:=hc.gd
 cases hg:o.guard with
 |none=>rfl
 |some jw=>simp only [hg] at hcg;obtain ⟨s,_,h⟩:=hcg;cases h
theorem panics_call {d:Option Nat} {f:Nat} {xs:List X} {x:V} (hS:CtrP c.P f (evVs st xs) x) (hs:evSs true st xs):Panics c ⟨d,none,.call f xs⟩ st st x:=by
 intro ops o hc β a w H Q K hQ
 refine ⟨by simp [Region.wanted,noguard hc],?_⟩
 obtain ⟨cl,hcl,hcc⟩:=cOp_call hc.op rfl (by simp)
 obtain ⟨h4,h5⟩:=cCall_func hcc
 obtain ⟨q1,q2⟩:=evVs_ok H h5 hs
 have hrun:(execOp a.eval o).run c.P w=.ok (.enter f (cl.args.map a.eval)) w:=by
  have hcf:=run_callFunc (w:=w) hS.1 (cl.args.map a.eval)
  simp [execOp,hcl,resolve,h4,Act.eval,Deferred.ofValue,invoke,hcf]
 exact callP_wp H hS hrun (by simpa using q1) (fun j v x hv hx=>q2 j v x (by simpa using hv) hx) (fun a' w' v H' hv=>hQ β a' w' v H' hv)
theorem cOp_pnc {P:Program} {o:Oper} {x:X} (h:cOp P o=some (.pnc x)):∃ y,o.op=.panic y∧cX y=some x:=by
 replace h:=cOp_0 h (by intro e;cases e)
 unfold cOp0 at h
 split at h
 case h_29=>rename_i y ho;obtain ⟨z,hz,e⟩:=Option.map_eq_some_iff.1 h;cases e;exact ⟨y,ho,hz⟩
 case h_22 =>
  rename_i cl ho
  unfold cCall at h
  split at h
  ·unfold cBuiltin at h
   (repeat' split at h)<;>first|(cases h;done)|(obtain ⟨_,_,h3⟩:=Option.map_eq_some_iff.1 h;cases h3;done)
  all_goals ((repeat' split at h)<;>first|(cases h;done)|(obtain ⟨_,_,h3⟩:=Option.map_eq_some_iff.1 h;cases h3;done))
 all_goals ((repeat' split at h)<;>first|(cases h;done)|(obtain ⟨_,_,h3⟩:=Option.map_eq_some_iff.1 h;cases h3;done))
theorem panics_pnc {d:Option Nat} {x:X} {t:TypeId} {v:V} (hx:evV st x=.ifc t v) (hs:evS true st x):Panics c ⟨d,none,.pnc x⟩ st st (.ifc t v):=by
 intro ops o hc β a w H Q K hQ
 refine ⟨by simp [Region.wanted,noguard hc],?_⟩
 obtain ⟨y,ho,hy⟩:=cOp_pnc hc.op
 have hv:=evV_ok H hy hs
 rw [hx] at hv
 obtain ⟨u,hu,hr⟩:∃ u,a.eval y=.iface t u∧RelV β (Eo c.E0 β st.own) w (.iface t u) (.ifc t v):=by
  generalize a.eval y=z at *
  cases hv with
  |ifc _ u _ h=>exact ⟨u,rfl,.ifc _ _ _ h⟩
 refine ⟨fun _ _=>trivial,?_⟩
 have hrun:(execOp a.eval o).run c.P w=.halt (.panic (.iface t u)) w:=by
  simp only [execOp,ho,hu];rfl
 rw [Oper.semAt_eq c.F.round a.eval o (fun cl e=>by rw [ho] at e;cases e),hrun]
 exact hQ β a w _ H hr
theorem TR.pan {i:I} {is:List I} {acc:List Lg} {K:List Lg→St→Prop} {x:V} (hv:Panics c i st st x) (hk:c.pk x st):TR c false (i::is) st acc K:=Walk.pan _ _ _ _ _ hv hk
theorem TR.cpan {P:Program} (hP:c.P=P) {d:Option Nat} {f:Nat} {xs:List X} {is:List I} {acc:List Lg} {K:List Lg→St→Prop} {x:V} (hS:CtrP P f (evVs st xs) x) (hs:evSs true st xs) (hk:c.pk x st):TR c false (⟨d,none,.call f xs⟩::is) st acc K:=
 TR.pan (panics_call (by rw [hP];exact hS) hs) hk
end
theorem TRQ.pan {c:Ctx} {K0:Kont} {IS:List I} {s0:St} {d:Option Nat} {f:Nat} {xs:List X} {is:List I} {K:List Lg→St→Prop} {st:St} {acc:List Lg} {P:Program} (hP:c.P=P) {x:V} (rd:List Nat) (hS:CtrP P f (evVs st xs) x) (hs:evSs true st xs)
  (hk:∀ st1:St,(∀ k,k∈rd→own? st1.own k=own? st.own k)→(∀ k,(∀ ii,ii∈IS→ii.dst≠some k)→get st1.env k=get s0.env k)→c.pk x st1)
  (h:TRQ c (PostX c K0) IS s0 is (st.stp d { val:=vNo,upd:=[],rd:=rd,new:=[] }) (acc++[⟨rd,[]⟩]) K):TRQ c (PostX c K0) IS s0 (⟨d,none,.call f xs⟩::is) st acc K:=by
 refine TRQ.cons { val:=vNo,upd:=[],rd:=rd,new:=[] } (fun st1 h1 h2 _ h4 ops o hc β a w H K hK=>?_) (fun k hk=>by simp at hk) h
 have hsl:∀ k,k∈xsSlots xs→get st1.env k=get st.env k:=fun k hk=>h1 k (gslots_call k hk)
 have hS':CtrP c.P f (evVs st1 xs) x:=by rw [evVs_congr hsl,hP];exact hS
 have hs':evSs true st1 xs:=by rw [evSs_congr hsl];exact hs
 obtain ⟨q1,q2⟩:=panics_call (d:=d) hS' hs' ops o hc β a w H (PostX c K0) K (fun β' a' w' v H' hv=>.inr ⟨_,rfl,β',st1,v,x,rfl,hk st1 h2 h4,H',hv⟩)
 rw [if_pos q1]
 exact q2
section
variable {c:Ctx} {st:St}
theorem TR.pnc {d:Option Nat} {x:X} {is:List I} {acc:List Lg} {K:List Lg→St→Prop} {t:TypeId} {v:V} (hx:evV st x=.ifc t v) (hs:evS true st x) (hk:c.pk (.ifc t v) st):TR c false (⟨d,none,.pnc x⟩::is) st acc K:=
 TR.pan (panics_pnc hx hs) hk
end
theorem enter_holds {P:Program} {fn:Func} {args:List V} (hlen:args.length≤fn.ntmps) (hna:namesL args=[]) (PK:V→St→Prop)
    {E0:Nat→Prop} {β:Names} {w:World} {vals:Array Value} (hE:∀ b,E0 b→b<w.heap.size) (hsz:vals.size=args.length)
    (hv:∀ (j:Nat) (v:Value) (y:V),vals[j]?=some v→args[j]?=some y→RelV β (Eo E0 β []) w v y) :
    ∃ c : Ctx, c.P = P ∧ c.E0 = E0 ∧ c.w0 = w ∧ c.L = (fun _ => False) ∧ c.nt = fn.ntmps ∧ c.fn = [] ∧ c.rd = none ∧ c.db = [] ∧ c.pk = PK ∧
      Holds c (fun _=>none) ⟨initE 0 args,[],[]⟩ { tmps:=vals++Array.replicate (fn.ntmps-vals.size) undef,defers:=[] } w:=by
  let c:Ctx:={ P:=P,E0:=E0,w0:=w,L:=fun _=>False,nt:=fn.ntmps,fn:=[],fx:=fun _=>none,hE:=hE,rd:=none,pk:=PK }
  have hEq:Eo E0 (fun _=>none) []=Eo E0 β []:=by
    funext b
    apply propext
    unfold Eo
    constructor
    · rintro (h1|⟨k,h1,h2⟩)
      · exact .inl h1
      · simp [keysO] at h1
    · rintro (h1|⟨k,h1,h2⟩)
      · exact .inl h1
      · simp [keysO] at h1
  have hl0:Lasts (Eo E0 β []) (Eo E0 (fun _=>none) []) w w:=by rw [hEq];exact Lasts.refl _ _
  have hsz2:(vals++Array.replicate (fn.ntmps-vals.size) undef).size=fn.ntmps:=by simp;omega
  refine ⟨c,rfl,rfl,rfl,rfl,rfl,rfl,rfl,rfl,rfl,hsz2,DfOk.nil rfl,fun s=>?_,OwnsOk.nil _ _ _,fun k hk=>by simp [keysO] at hk,fun k hk=>by simp [keysO] at hk,fun k hk=>rfl,Keeps.refl _ _,fun k hk=>by cases hk⟩
  rw [get_initE,if_pos (Nat.zero_le _),Nat.sub_zero]
  cases ha:args[s]? with
  |none=>exact .un _
  |some x =>
    have hsl:s<vals.size:=by have:=(List.getElem?_eq_some_iff.1 ha).1;omega
    have hvs:vals[s]?=some vals[s]:=Array.getElem?_eq_getElem hsl
    have:(vals++Array.replicate (fn.ntmps-vals.size) undef).getD s undef=vals[s]:=by
      simp only [Array.getD_eq_getD_getElem?,Array.getElem?_append_left hsl,hvs,Option.getD_some]
    simp only
    rw [this]
    exact (hv s _ x hvs ha).lasts hl0 (fun k hk=>by have:=names_mem ha k hk;rw [hna] at this;cases this)
theorem enter_ok {P:Program} {fn:Func} {code:Code} {cc:C} {args:List V} (hcc:cCode P fn.ntmps code=some cc) (hlen:args.length≤fn.ntmps) (hna:namesL args=[]) {K:Kont} (PK:V→St→Prop)
  (h:∀ c:Ctx,c.P=P→c.nt=fn.ntmps→c.fn=[]→c.rd=none→c.db=[]→c.pk=PK→vcC c cc ⟨initE 0 args,[],[]⟩ K)
  {E0:Nat→Prop} {β:Names} {w:World} {vals:Array Value} (hE:∀ b,E0 b→b<w.heap.size) (hsz:vals.size=args.length)
  (hv:∀ (j:Nat) (v:Value) (y:V),vals[j]?=some v→args[j]?=some y→RelV β (Eo E0 β []) w v y) :
  ∃ c:Ctx,c.P=P∧c.E0=E0∧c.w0=w∧c.L=(fun _=>False)∧c.F=Fence.wide∧c.db=[]∧c.pk=PK∧code.wpIn Fence.wide 0 P (PostX c K) { tmps:=vals++Array.replicate (fn.ntmps-vals.size) undef,defers:=[] } w:=by
 obtain ⟨c,h1,h2,h3,h4,h5,h6,h7,h8,h9,H⟩:=enter_holds hlen hna PK hE hsz hv
 have hF:c.F=Fence.wide:=by simp only [Ctx.F,h7];rfl
 have:=code_ok (c:=c) (by rw [h1,h5];exact hcc) (h c h1 h5 h6 h7 h8 h9) _ _ w H
 rw [hF,h1] at this
 exact ⟨c,h1,h2,h3,h4,hF,h8,h9,this⟩
theorem VLe.out {c:Ctx} {β β':Names} {st:St} {w:World} {v:Value} {y x:V} (h:RelV β (Eo c.E0 β st.own) w v y) (hle:VLe y x) (hx:x.names=[]):RelV β' (Eo c.E0 β' []) w v x:=
 (hle _ _ _ _ h).lasts (fun b _ h1=>⟨fun h2=>by
  rcases h2 with h2|⟨k,h2,_⟩
  ·exact h1 (.inl h2)
  ·simp [keysO] at h2,rfl⟩) (fun k hk=>by rw [hx] at hk;cases hk)
theorem ctr_panics {P:Program} {f:FuncId} {fn:Func} {code:Code} {cc:C} {args:List V} {x:V} {nt:Nat}
  (hf:P.funcs[f]?=some fn) (hok:okF P f=true) (hb:fn.body=some code) (hcc:cCode P fn.ntmps code=some cc) (hnt:fn.ntmps=nt) (hlen:args.length≤nt)
  (hna:namesL args=[]) (hnx:x.names=[]) (h:∀ c:Ctx,c.P=P→c.fn=[]→c.pk=(fun v _=>VLe v x)→vcC c cc ⟨initE 0 args,[],[]⟩ (fun _ _=>False)):CtrP P f args x:=by
 refine ⟨hok,fun E0 β w vals hE hsz hv=>?_⟩
 obtain ⟨c,rfl,rfl,rfl,hL,hF,hdb,hpk,hwp⟩:=enter_ok (K:=fun _ _=>False) hcc (hnt▸hlen) hna (fun v _=>VLe v x) (fun c h1 _ h2 _ _ h3=>h c h1 h2 h3) hE hsz hv
 refine (callsIn_wide (n:=0)).1 (callsIn_of_wp_marks hf hb trivial (wpIn_mono hwp ?_))
 rintro e a' w' (⟨ex,he,β1,st1,hk,H1⟩|⟨ch,rfl,hpan⟩)
 ·exact hk.elim
 obtain ⟨β1,st1,v,y,rfl,hk,H1,hr⟩:=hpan
 rw [hpk] at hk
 obtain ⟨m,m2,hm1,hm2,hm3⟩:=H1.df
 show LeavesInM _ _ _ _ _ _ a'.defers _ _
 rw [hm1]
 refine leaves_marksD (by simp) hm3 m hm1 hm2 H1 fun a2 w2 ht hd _ H2 hv2=>?_
 rw [hm3 hdb,hdb]
 refine ⟨v,rfl,VLe.out (hv2 v y hr) hk hnx,?_⟩
 have:=H2.kp
 rw [hL] at this
 exact this.mono fun i h=>h.elim
def lastD:List Oper→Option (List Oper×Oper)
 |[]=>none
 |o::l=>match lastD l with
  |none=>some ([],o)
  |some (i,p)=>some (o::i,p)
theorem lastD_eq:∀ {l i:List Oper} {o:Oper},lastD l=some (i,o)→l=i++[o]
 |[],_,_,h=>by cases h
 |o::l,i,p,h=>by
  simp only [lastD] at h
  split at h
  ·rename_i he
   cases h
   have:l=[]:=by
    cases l with
    |nil=>rfl
    |cons a l=>simp only [lastD] at he;split at he<;>cases he
   subst this;rfl
  ·rename_i i' p' he
   cases h
   rw [lastD_eq he];rfl
structure Dfr where
 pre:C
 is:List I
 f:X
 xs:List X
 rest:C
def cLay (P:Program) (nt:Nat) (a b:Code):Option Dfr:=
 match a with
 |.region _ ops false =>
  match lastD ops.toList with
  |some (l1,o) =>
   match o.op,o.guard,o.dst with
   |.defer cl,none,none =>
    match cl.callee with
    |.value f =>
     match cRegion P nt ops l1,cX f,cXs cl.args.toList,cCode P nt b with
     |some is,some x,some xs,some cc=>some ⟨.skip,is,x,xs,cc⟩
     |_,_,_,_=>none
    |_=>none
   |_,_,_=>none
  |none=>none
 |_=>none
def cDefer (P:Program) (nt:Nat):Code→Option Dfr
 |.seq a b =>
  match cLay P nt a b with
  |some r=>some r
  |none =>
   match cCode P nt a,cDefer P nt b with
   |some a',some r=>some ⟨.seq a' r.pre,r.is,r.f,r.xs,r.rest⟩
   |_,_=>none
 |_=>none
def modeP:Option V→Value→FrameMode
 |none,_=>.returning
 |some _,pv=>.panicking [{ v:=pv,recovered:=false }]
def modeQ:Option V→Value→FrameMode
 |none,_=>.returning
 |some _,pv=>.panicking [{ v:=pv,recovered:=true }]
theorem modeP_run (px:Option V) (pv:Value):modeP px pv≠.run:=by cases px<;>simp [modeP]
theorem settle_modeQ (px:Option V) (pv:Value):settle (modeQ px pv)=.returning:=by cases px<;>simp [modeQ,settle]
def CtrD (P:Program) (g:FuncId) (ks:List Nat) (px:Option V) (ins outs:List (Nat×Own)):Prop:=
  okF P g=true∧(keysO ins).Nodup∧(∀ k,k∈keysO outs→k∈keysO ins) ∧
  ∀ (E0 : Nat → Prop) (β : Names) (w : World) (vals : Array Value) (pv : Value), (∀ b, E0 b → b < w.heap.size) → vals.size = ks.length →
    (∀ (j:Nat) (v:Value) (k:Nat),vals[j]?=some v→ks[j]?=some k→RelV β (Eo E0 β ins) w v (.own k 0))→OwnsOk E0 β w ins→(∀ x,px=some x→RelV β (Eo E0 β ins) w pv x) →
    CallsDIn Fence.wide 0 P g vals (modeP px pv) w fun e u' w'=>∃ v,e=.returned v∧u'=modeQ px pv∧OwnsOk E0 β w' outs∧Keeps (ownB β ins) w w'
def DoneD (P:Program) (g:FuncId) (ks:List Nat) (px:Option V) (rs:List RV) (res:V) (ins outs:List (Nat×Own)) (st:St):Prop:=
 CtrD P g ks px ins outs∧(∀ k o,(k,o)∈ins→own? st.own k=some o) ∧
  ressS ⟨st.env,applyU st.own (callU ins outs),newN st.nm (callU ins outs)⟩ rs∧VLe (retV ⟨st.env,applyU st.own (callU ins outs),newN st.nm (callU ins outs)⟩ rs) res
def panD (P:Program) (g:FuncId) (ks:List Nat) (rs:List RV) (res:V) (x:V) (st:St):Prop:=∃ ins outs,DoneD P g ks (some x) rs res ins outs st
def RetD (c:Ctx) (g:FuncId) (ks:List Nat) (rs:List RV) (res:V):Kont
 |.exit _,_=>False
 |.nrm,st=>∃ st1 ins outs,Wk c st st1∧DoneD c.P g ks none rs res ins outs st1
 |.ret,st=>∃ st1 ins outs,Wk c st st1∧DoneD c.P g ks none rs res ins outs st1
def layR (c:Ctx) (r:Dfr) (g:FuncId) (ks:List Nat) (rs:List RV) (res:V) (st1:St):Prop:=
 (∃ first cap,evV st1 r.f=.fn (.func g) first cap∧evS true st1 r.f∧evSs true st1 r.xs∧first++(evVs st1 r.xs++cap)=ks.map (fun k=>V.own k 0))∧(∀ k,k∈ks→k∈keysO st1.own) ∧
  ∀ c2:Ctx,c2.P=c.P→c2.fn=ks→c2.rd=none→c2.pk=panD c.P g ks rs res→vcS c2 r.rest st1 (RetD c2 g ks rs res)
def layK (c:Ctx) (r:Dfr) (g:FuncId) (ks:List Nat) (rs:List RV) (res:V):Kont
 |.nrm,st=>vcR c false r.is st [] (fun _ st1=>layR c r g ks rs res st1)
 |.exit _,_=>False
 |.ret,_=>False
theorem wp_walk2 {c:Ctx} {ops:Array Oper} {Q:Exit→Act→World→Prop} {K:St→Prop} {l2:List Oper} (hQ:∀ st',K st'→∀ β a w,Holds c β st' a w→wpListIn c.F 0 c.P ops Q l2 a w)
    (hp:∀ st' x,c.pk x st'→∀ β a w v,Holds c β st' a w→RelV β (Eo c.E0 β st'.own) w v x→Q (.panic [{ v:=v,recovered:=false }]) a w) :
    ∀ {is : List I} {st : St}, Walk c K is st → ∀ {l : List Oper}, l.length = is.length → (∀ (j : Nat) (o : Oper) (i : I), l[j]? = some o → is[j]? = some i → Cmp c ops o i) →
      ∀ (β:Names) (a:Act) (w:World),Holds c β st a w→wpListIn c.F 0 c.P ops Q (l++l2) a w:=by
  intro is st h
  induction h with
  |nil st hk =>
    intro l hl _ β a w H
    have:l=[]:=List.eq_nil_of_length_eq_zero (by simpa using hl)
    subst this
    exact hQ st hk β a w H
  |cons st i s is hv hn _ ih =>
    intro l hl hc β a w H
    cases l with
    |nil=>simp at hl
    |cons o l =>
      have h1:=hv st (fun _ _=>rfl) (fun _ _=>rfl) hn ops o (hc 0 o i rfl rfl) β a w H Q
      refine wpListIn_step fun K hK=>?_
      have h2:=h1 K fun β' a' w' H'=>hK a' w' (ih (by simpa using hl) (fun j o i ho hi=>hc (j+1) o i (by simpa using ho) (by simpa using hi)) β' a' w' H')
      by_cases hw:Region.wanted o (yielded ops a.tmps)=true
      · rw [if_pos hw] at h2 ⊢;exact h2
      · rw [if_neg hw] at h2 ⊢;exact ⟨fun _ _=>trivial,h2⟩
  |wk st st1 is hw _ ih =>
    intro l hl hc β a w H
    obtain ⟨β1,H1⟩:=hw β a w H
    exact ih hl hc β1 a w H1
  |pan st st1 i is x hv hk =>
    intro l hl hc β a w H
    cases l with
    |nil=>simp at hl
    |cons o l =>
      refine wpListIn_step fun K hK=>?_
      obtain ⟨h1,h2⟩:=hv ops o (hc 0 o i rfl rfl) β a w H Q K (fun β' a' w' v H' hv=>hp st1 x hk β' a' w' v H' hv)
      rw [if_pos h1];exact h2
def LaidD (c2:Ctx) (d:Deferred) (g:FuncId) (ks:List Nat):Prop:=
 ∃ ca,d.target=.fn (.func g) ca∧(d.args++ca).size=ks.length∧∀ (j:Nat) (v:Value) (k:Nat),(d.args++ca)[j]?=some v→ks[j]?=some k→∃ b,v=.pointer (some ⟨b,0,none⟩)∧c2.fx k=some (.pointer (some ⟨b,0,none⟩))
def PostD (c:Ctx) (g:FuncId) (ks:List Nat) (rs:List RV) (res:V):Exit→Act→World→Prop:=fun e a w =>
 ∃ (c2:Ctx) (d:Deferred),c2.P=c.P∧c2.E0=c.E0∧c2.w0=c.w0∧c2.L=c.L∧c2.fn=ks∧c2.db=[d]∧c2.pk=panD c.P g ks rs res∧LaidD c2 d g ks∧PostX c2 (RetD c2 g ks rs res) e a w
theorem wp_lay {c:Ctx} (hrd:c.rd=none) (hdb:c.db=[]) (hpk:c.pk=fun _ _=>False) {g:FuncId} {ks:List Nat} {rs:List RV} {res:V} {a b:Code} {r:Dfr} (hc:cLay c.P c.nt a b=some r)
  {st:St} (h:vcR c false r.is st [] (fun _ st1=>layR c r g ks rs res st1)) {β:Names} {ac:Act} {w:World} (H:Holds c β st ac w):(Code.seq a b).wpIn c.F 0 c.P (PostD c g ks rs res) ac w:=by
 unfold cLay at hc
 split at hc
 case h_2=>cases hc
 rename_i id ops
 split at hc
 case h_2=>cases hc
 rename_i l1 o hl
 split at hc
 case h_2=>cases hc
 rename_i cl ho hg hd
 split at hc
 case h_2=>cases hc
 rename_i f hf
 split at hc
 case h_2=>cases hc
 rename_i is x xs cc h1 h2 h3 h4
 cases hc
 simp only at h
 have hop:=lastD_eq hl
 obtain ⟨hlen,hcmp⟩:=cRegion_ok h1
 refine wpIn_seq (wpIn_region_list ?_)
 rw [hop]
 refine wp_walk2 (K:=fun st1=>layR c ⟨.skip,is,x,xs,cc⟩ g ks rs res st1) (fun st1 hk β a w H=>?_) (fun st' y hk=>by rw [hpk] at hk;exact hk.elim) (vcR_ok h) hlen hcmp β ac w H
 obtain ⟨⟨first,cap,e1,e2,e3,e4⟩,hks,hrest⟩:=hk
 have hv:=evV_ok H h2 e2
 rw [e1] at hv
 obtain ⟨q1,q2⟩:=evVs_ok H h3 e3
 obtain ⟨fi,ca,hfv,g1,g2,r1,r2⟩:∃ fi ca:Array Value,a.eval f=.func (.func g) fi ca∧fi.size=first.length∧ca.size=cap.length∧(∀ (j:Nat) (v:Value) (x:V),fi[j]?=some v→first[j]?=some x→RelV β (Eo c.E0 β st1.own) w v x) ∧
   (∀ (j:Nat) (v:Value) (x:V),ca[j]?=some v→cap[j]?=some x→RelV β (Eo c.E0 β st1.own) w v x):=by
  generalize a.eval f=u at *
  cases hv with
  |fn _ fi ca _ _ g1 g2 r1 r2=>exact ⟨fi,ca,rfl,g1,g2,r1,r2⟩
 let d:Deferred:={ target:=.fn (.func g) ca,args:=fi++cl.args.map a.eval }
 have hrun:(execOp a.eval o).run c.P w=.ok (.defer d) w:=by
  simp [execOp,ho,resolve,hf,hfv,Deferred.ofValue,d]
 have hall:(d.args++ca).size=ks.length∧∀ (j:Nat) (v:Value) (k:Nat),(d.args++ca)[j]?=some v→ks[j]?=some k→RelV β (Eo c.E0 β st1.own) w v (.own k 0):=by
  have hlen2:(first++(evVs st1 xs++cap)).length=ks.length:=by rw [e4];simp
  have hsz:(cl.args.map a.eval).size=(evVs st1 xs).length:=by simpa using q1
  simp only [List.length_append] at hlen2
  refine ⟨by simp only [d,Array.size_append];omega,fun j v k hj hk=>?_⟩
  have hk':(first++(evVs st1 xs++cap))[j]?=some (.own k 0):=by rw [e4,List.getElem?_map,hk];rfl
  simp only [d,Array.append_assoc] at hj
  by_cases c1:j<fi.size
  ·rw [Array.getElem?_append_left c1] at hj
   rw [List.getElem?_append_left (by omega)] at hk'
   exact r1 j v _ hj hk'
  ·rw [Array.getElem?_append_right (by omega)] at hj
   rw [List.getElem?_append_right (by omega)] at hk'
   rw [←g1] at hk'
   by_cases c2:j-fi.size<(cl.args.map a.eval).size
   ·rw [Array.getElem?_append_left c2] at hj
    rw [List.getElem?_append_left (by omega)] at hk'
    exact q2 _ v _ (by simpa using hj) hk'
   ·rw [Array.getElem?_append_right (by omega)] at hj
    rw [List.getElem?_append_right (by omega)] at hk'
    rw [←hsz] at hk'
    exact r2 _ v _ hj hk'
 let c2:Ctx:={ P:=c.P,E0:=c.E0,w0:=c.w0,L:=c.L,nt:=c.nt,fn:=ks,fx:=β,hE:=c.hE,rd:=none,pk:=panD c.P g ks rs res,db:=[d] }
 have hlaid:LaidD c2 d g ks:=⟨ca,rfl,hall.1,fun j v k hj hk=>by
  have:=hall.2 j v k hj hk
  cases this with
  |own k off b hb=>exact ⟨b,rfl,hb⟩⟩
 refine wpListIn_step fun K hK=>?_
 rw [if_pos (by simp [Region.wanted,hg])]
 refine ⟨fun _ _=>trivial,?_⟩
 have hro:c.F.round=none:=hrd
 rw [hro,Oper.semAt_none,hrun,Oper.uponIn_defer]
 refine hK _ _ ?_
 show Exit.then _ _ .normal _ _
 rw [hd]
 obtain ⟨m,m2,k1,k2,k3⟩:=H.df
 have H2:Holds c2 β st1 { a with defers:=d::a.defers } w:=by
  refine ⟨H.sz,⟨[],m,by rw [k1,hdb,k3 hdb];simp [c2],?_,fun h=>by cases h⟩,H.env,H.own,H.fr,H.kn,H.nm,H.kp,fun k hk=>⟨H.kn k (hks k hk),rfl⟩⟩
  have:=k2
  rw [k3 hdb,List.append_nil,hrd] at this
  exact this
 have hF2:c2.F=c.F:=by simp only [Ctx.F,hrd];rfl
 have hw:=hrest c2 rfl rfl rfl rfl 64 _ h4 β _ w H2
 rw [hF2] at hw
 exact wpIn_mono hw fun e a' w' hp=>⟨c2,d,rfl,rfl,rfl,rfl,rfl,rfl,rfl,hlaid,hp⟩
theorem wp_defer {c:Ctx} (hrd:c.rd=none) (hdb:c.db=[]) (hpk:c.pk=fun _ _=>False) {g:FuncId} {ks:List Nat} {rs:List RV} {res:V} :
  ∀ (code:Code) {r:Dfr},cDefer c.P c.nt code=some r→∀ {st:St},vcC c r.pre st (layK c r g ks rs res)→∀ β ac w,Holds c β st ac w→code.wpIn c.F 0 c.P (PostD c g ks rs res) ac w:=by
 intro code
 induction code with
 |seq a b _ ih =>
  intro r hc st h β ac w H
  simp only [cDefer] at hc
  split at hc
  ·rename_i r' hl
   cases hc
   have hpre:r.pre=.skip:=by
    have hl':=hl
    unfold cLay at hl'
    split at hl'
    case h_2=>cases hl'
    split at hl'
    case h_2=>cases hl'
    split at hl'
    case h_2=>cases hl'
    split at hl'
    case h_2=>cases hl'
    split at hl'
    case h_2=>cases hl'
    cases hl';rfl
   rw [hpre,vcC_skip] at h
   exact wp_lay hrd hdb hpk hl h H
  ·split at hc
   ·rename_i a' r' ha hb
    cases hc
    simp only at h
    rw [vcC_seq] at h
    refine wpIn_seq (wpIn_mono (code_ok ha h β ac w H) ?_)
    rintro e a2 w2 (⟨ex,he,β',st',hk,H'⟩|⟨ch,rfl,hpan⟩)
    rotate_left
    ·obtain ⟨_,_,_,_,_,hq,_⟩:=hpan;rw [hpk] at hq;exact hq.elim
    cases e<;>simp at he<;>subst he
    ·rw [seqK_nrm] at hk
     exact ih hb hk β' a2 w2 H'
    ·rw [seqK_exit] at hk;exact hk.elim
    ·rw [seqK_exit] at hk;exact hk.elim
    ·rw [seqK_ret] at hk;exact hk.elim
   ·cases hc
 |_=>intro r hc;simp [cDefer] at hc
theorem door_ok {c2:Ctx} {d:Deferred} {g:FuncId} {ks:List Nat} (hlaid:LaidD c2 d g ks) (hfn:c2.fn=ks) (hdb:c2.db=[d]) {fn:Func} {rs:List RV} (hrs:cRess c2.P fn.results.toList=some rs) {res:V}
  {px:Option V} {pv:Value} {st1:St} {ins outs:List (Nat×Own)} (hD:DoneD c2.P g ks px rs res ins outs st1) {β1:Names} {a1:Act} {w1:World} (H:Holds c2 β1 st1 a1 w1)
  (hpv:∀ x,px=some x→RelV β1 (Eo c2.E0 β1 st1.own) w1 pv x) {m2:List Deferred} (hdf:a1.defers=c2.db++m2) {R:Ending→World→Prop}
  (hR:∀ v w' st2,ressS st2 rs→VLe (retV st2 rs) res→RelV β1 (Eo c2.E0 β1 st2.own) w' v (retV st2 rs)→Keeps c2.L c2.w0 w'→R (.returned v) w') :
  LeavesInM Fence.wide 0 c2.P fn a1.tmps R (c2.db++m2) (modeP px pv) w1:=by
 obtain ⟨⟨hok,hnd,hko,hS⟩,hin,hss,hle⟩:=hD
 obtain ⟨ca,ht,hsz,hr⟩:=hlaid
 have hE:=call_E0 (c:=c2) (β:=β1) hin
 have hins:OwnsOk (fun b=>c2.E0 b∨∃ k,k∈keysO st1.own∧k∉keysO ins∧β1.blk k=some b) β1 w1 ins:=by
  have hk:∀ k,k∈keysO ins→k∈keysO st1.own:=fun k h=>by
   obtain ⟨o,ho⟩:=keys_mem h
   exact mem_keys (own?_mem (hin k o ho))
  refine ⟨fun k o h=>?_,hnd,fun k k' h1 h2=>H.own.apart k k' (hk k h1) (hk k' h2),fun k h b hb=>?_⟩
  ·rw [hE];exact H.own.ok k o (own?_mem (hin k o h))
  ·obtain ⟨x,y⟩:=H.own.lt k (hk k h) b hb
   refine ⟨x,?_⟩
   rintro (h1|⟨k',h1,h2,h3⟩)
   ·exact y h1
   ·exact H.own.apart k k' (hk k h) h1 (fun e=>h2 (e▸h)) b hb h3
 have hcall:=hS (fun b=>c2.E0 b∨∃ k,k∈keysO st1.own∧k∉keysO ins∧β1.blk k=some b) β1 w1 (d.args++ca) pv (by
  rintro b (h|⟨k,h1,_,h3⟩)
  ·have:=c2.hE b h
   have:=H.kp.size
   omega
  ·exact (H.own.lt k h1 b h3).1) hsz (fun j v k hj hk=>by
   obtain ⟨b,rfl,hb⟩:=hr j v k hj hk
   refine .own k 0 b ?_
   have hkm:k∈c2.fn:=by rw [hfn];exact List.mem_of_getElem? hk
   rw [(H.fx k hkm).2];exact hb) hins (fun x hx=>by rw [hE];exact hpv x hx)
 rw [hdb]
 refine ⟨modeP_run px pv,.inr ⟨fun h=>by simp [Fence.wide] at h,.func g,ca,g,d.args++ca,ht,?_,fun _ _=>trivial,?_⟩⟩
 ·rw [ht];exact run_callFunc hok _
 ·refine hcall.mono fun e u' w' he=>?_
  obtain ⟨v,rfl,rfl,hown,hkp⟩:=he
  show LeavesInM _ _ _ _ _ _ _ (settle (modeQ px pv)) w'
  rw [settle_modeQ]
  obtain ⟨H',hEs⟩:=call_state (new:=[]) H hin (by simp) (by simp) (Names.le.refl β1) (fun _ _=>rfl) hown hkp (fun k hk b hb=>.inr ⟨k,hko k hk,hb⟩)
  have hm2:MarksOk c2.rd c2.w0 w' m2:=by
   obtain ⟨m,m3,k1,k2,k3⟩:=H'.df
   rw [hdf,hdb] at k1
   cases m with
   |nil =>
    rw [List.nil_append] at k1 k2
    have:=List.append_cancel_left k1
    rw [this];exact k2
   |cons d' m =>
    exfalso
    simp only [List.cons_append,List.nil_append] at k1
    injection k1 with k1 _
    obtain ⟨b,h1,_⟩:=k2.ok d' (by simp)
    rw [←k1] at h1
    rw [h1] at ht;cases ht
  let c3:Ctx:={ P:=c2.P,E0:=c2.E0,w0:=c2.w0,L:=c2.L,nt:=c2.nt,fn:=c2.fn,fx:=c2.fx,hE:=c2.hE,rd:=c2.rd }
  have H3:Holds c3 β1 ⟨st1.env,applyU st1.own (callU ins outs),newN st1.nm (callU ins outs)⟩ { a1 with defers:=m2 } w':=
   ⟨H'.sz,⟨m2,[],by simp [c3],by rw [List.append_nil];exact hm2,fun _=>rfl⟩,H'.env,H'.own,H'.fr,H'.kn,H'.nm,H'.kp,H'.fx⟩
  refine leaves_marks (c:=c3) rfl m2 (a:={ a1 with defers:=m2 }) rfl H3 fun a4 w4 ht4 H4=>?_
  obtain ⟨v4,hrun,hrel⟩:=results_ok H4 hrs hss
  exact ⟨v4,hrun,hR v4 w4 _ hss hle hrel H4.kp⟩
theorem enter_own {P:Program} {fn:Func} {args:List V} {ins:List (Nat×Own)} (hlen:args.length≤fn.ntmps) (PK:V→St→Prop)
    {E0:Nat→Prop} {β:Names} {w:World} {vals:Array Value} (hE:∀ b,E0 b→b<w.heap.size) (hsz:vals.size=args.length)
    (hv:∀ (j:Nat) (v:Value) (y:V),vals[j]?=some v→args[j]?=some y→RelV β (Eo E0 β ins) w v y) (hins:OwnsOk E0 β w ins) :
    ∃ (c : Ctx) (βc : Names), c.P = P ∧ c.E0 = E0 ∧ c.w0 = w ∧ c.L = ownB β ins ∧ c.nt = fn.ntmps ∧ c.fn = namesL args ++ ownNames ins ∧ c.rd = none ∧ c.db = [] ∧ c.pk = PK ∧
      Holds c βc ⟨initE 0 args,ins,namesL args++ownNames ins⟩ { tmps:=vals++Array.replicate (fn.ntmps-vals.size) undef,defers:=[] } w:=by
  let nm0:=namesL args++ownNames ins
  let βc:Names:=fun k=>if k∈nm0 then β k else none
  have hβc:∀ k,k∈nm0→βc k=β k:=fun k hk=>if_pos hk
  have hkin:∀ k,k∈keysO ins→k∈nm0:=fun k hk=>List.mem_append_right _ (ownNames_key hk)
  have hblk:∀ k,k∈keysO ins→βc.blk k=β.blk k:=fun k hk=>by simp only [Names.blk,hβc k (hkin k hk)]
  let c:Ctx:={ P:=P,E0:=E0,w0:=w,L:=ownB β ins,nt:=fn.ntmps,fn:=nm0,fx:=βc,hE:=hE,rd:=none,pk:=PK }
  have hEq:Eo E0 βc ins=Eo E0 β ins:=by
    funext b
    apply propext
    unfold Eo
    constructor
    · rintro (h1|⟨k,h1,h2⟩)
      · exact .inl h1
      · exact .inr ⟨k,h1,by rw [←hblk k h1];exact h2⟩
    · rintro (h1|⟨k,h1,h2⟩)
      · exact .inl h1
      · exact .inr ⟨k,h1,by rw [hblk k h1];exact h2⟩
  have hl0:Lasts (Eo E0 β ins) (Eo E0 βc ins) w w:=by rw [hEq];exact Lasts.refl _ _
  have hsz2:(vals++Array.replicate (fn.ntmps-vals.size) undef).size=fn.ntmps:=by simp;omega
  refine ⟨c,βc,rfl,rfl,rfl,rfl,rfl,rfl,rfl,rfl,rfl,hsz2,DfOk.nil rfl,fun s=>?_,⟨fun k o hk=>?_,hins.nodup,fun k k' h1 h2 hne b h3 h4=>?_,fun k hk b hb1=>?_⟩,fun k hk b hb1=>?_,fun k hk=>hkin k hk,fun k hk=>if_neg hk,Keeps.refl _ _,fun k hk=>⟨hk,rfl⟩⟩
  · rw [get_initE,if_pos (Nat.zero_le _),Nat.sub_zero]
    cases ha:args[s]? with
    |none=>exact .un _
    |some x =>
      have hsl:s<vals.size:=by have:=(List.getElem?_eq_some_iff.1 ha).1;omega
      have hvs:vals[s]?=some vals[s]:=Array.getElem?_eq_getElem hsl
      have:(vals++Array.replicate (fn.ntmps-vals.size) undef).getD s undef=vals[s]:=by
        simp only [Array.getD_eq_getD_getElem?,Array.getElem?_append_left hsl,hvs,Option.getD_some]
      simp only
      rw [this]
      exact (hv s _ x hvs ha).lasts hl0 (fun k hk=>hβc k (List.mem_append_left _ (names_mem ha k hk)))
  · exact (hins.ok k o hk).forget hl0 (hβc k (hkin k (mem_keys hk))) (fun j hj=>hβc j (List.mem_append_right _ (ownNames_in hk j hj))) (fun _ _=>rfl)
  · rw [hblk k h1] at h3
    rw [hblk k' h2] at h4
    exact hins.apart k k' h1 h2 hne b h3 h4
  · rw [hblk k hk] at hb1
    exact hins.lt k hk b hb1
  · rw [hblk k hk] at hb1
    exact .inr ⟨k,hk,hb1⟩
theorem ctr_deferO {P:Program} {f:FuncId} {fn:Func} {code:Code} {r:Dfr} {rs:List RV} {args:List V} {ins0:List (Nat×Own)} {res:V} {nt:Nat} (g:FuncId) (ks:List Nat)
  (hf:P.funcs[f]?=some fn) (hok:okF P f=true) (hb:fn.body=some code) (hcd:cDefer P fn.ntmps code=some r) (hrs:cRess P fn.results.toList=some rs) (hnt:fn.ntmps=nt) (hlen:args.length≤nt)
  (hnr:res.names=[]) (h:∀ c:Ctx,c.P=P→c.fn=namesL args++ownNames ins0→vcC c r.pre ⟨initE 0 args,ins0,namesL args++ownNames ins0⟩ (layK c r g ks rs res)):Ctr P f args ins0 res [] []:=by
 refine ⟨hok,by simp [keysO],by simp,fun E0 β w vals hE hsz hv hins hnn=>?_⟩
 obtain ⟨c,βc,rfl,rfl,rfl,hL,hcnt,hfn,hrd,hdb,hpk,H⟩:=enter_own (P:=P) (fn:=fn) (hnt▸hlen) (fun _ _=>False) hE hsz hv hins
 have hF:c.F=Fence.wide:=by simp only [Ctx.F,hrd];rfl
 have hwp:=wp_defer hrd hdb hpk code (by rw [hcnt];exact hcd) (h c rfl hfn) _ _ _ H
 rw [hF] at hwp
 refine (callsIn_wide (n:=0)).1 (callsIn_of_wp_marks hf hb trivial (wpIn_mono hwp ?_))
 rintro e a' w' ⟨c2,d,p1,p2,p3,p4,p5,p6,p7,hlaid,hpost⟩
 have hfin:∀ (β1:Names) (v:Value) (w4:World) (st2:St),VLe (retV st2 rs) res→RelV β1 (Eo c2.E0 β1 st2.own) w4 v (retV st2 rs)→Keeps c2.L c2.w0 w4 →
   ∃ v' β',Ending.returned v=.returned v'∧β.le β'∧(∀ k,k∉[]→β' k=β k)∧RelV β' (Eo c.E0 β' []) w4 v' res∧OwnsOk c.E0 β' w4 []∧Keeps (ownB β ins0) c.w0 w4∧(∀ k,k∈keysO []→∀ b,β'.blk k=some b→c.w0.heap.size≤b∨ownB β ins0 b):=by
  intro β1 v w4 st2 hle hrel hkp
  refine ⟨v,β,rfl,Names.le.refl β,fun _ _=>rfl,?_,OwnsOk.nil _ _ _,?_,by simp [keysO]⟩
  ·have:=VLe.out (β':=β) hrel hle hnr
   rw [p2] at this;exact this
  ·rw [p3,p4,hL] at hkp
   exact hkp
 rcases hpost with ⟨ex,he,β1,st1,hk,H1⟩|⟨ch,rfl,hpan⟩
 ·have ret:(∃ st2 ins outs,Wk c2 st1 st2∧DoneD c2.P g ks none rs res ins outs st2)→LeavesInM Fence.wide 0 c.P fn a'.tmps (fun e w'=>∃ v β',e=.returned v∧β.le β'∧(∀ k,k∉[]→β' k=β k)∧RelV β' (Eo c.E0 β' []) w' v res∧OwnsOk c.E0 β' w' []∧Keeps (ownB β ins0) c.w0 w'∧(∀ k,k∈keysO []→∀ b,β'.blk k=some b→c.w0.heap.size≤b∨ownB β ins0 b)) a'.defers .returning w':=by
   rintro ⟨st2,ins,outs,hw,hD⟩
   obtain ⟨β2,H2⟩:=hw β1 a' w' H1
   obtain ⟨m,m2,k1,k2,k3⟩:=H2.df
   rw [k1,←p1]
   refine leaves_marksD (by simp) k3 m k1 k2 H2 fun a3 w3 ht3 hd3 _ H3 _=>?_
   rw [←ht3]
   exact door_ok hlaid p5 p6 (by rw [p1];exact hrs) hD H3 (fun x hx=>by cases hx) hd3 (fun v w4 st4 _ hle hrel hkp=>hfin β2 v w4 st4 hle hrel hkp) (pv:=.nilIface)
  cases e<;>simp at he<;>subst he
  ·exact ret hk
  ·exact hk.elim
  ·exact hk.elim
  ·exact ret hk
 ·obtain ⟨β1,st1,v,x,rfl,hk,H1,hrv⟩:=hpan
  rw [p7] at hk
  obtain ⟨ins,outs,hD⟩:=hk
  obtain ⟨m,m2,k1,k2,k3⟩:=H1.df
  show LeavesInM _ _ _ _ _ _ a'.defers _ _
  rw [k1,←p1]
  refine leaves_marksD (by simp) k3 m k1 k2 H1 fun a3 w3 ht3 hd3 _ H3 hv3=>?_
  rw [←ht3]
  rw [←p1] at hD
  exact door_ok hlaid p5 p6 (by rw [p1];exact hrs) hD H3 (fun y hy=>by cases hy;exact hv3 v x hrv) hd3 (fun v w4 st4 _ hle hrel hkp=>hfin β1 v w4 st4 hle hrel hkp)
theorem ctr_defer {P:Program} {f:FuncId} {fn:Func} {code:Code} {r:Dfr} {rs:List RV} {args:List V} {res:V} {nt:Nat} (g:FuncId) (ks:List Nat)
  (hf:P.funcs[f]?=some fn) (hok:okF P f=true) (hb:fn.body=some code) (hcd:cDefer P fn.ntmps code=some r) (hrs:cRess P fn.results.toList=some rs) (hnt:fn.ntmps=nt) (hlen:args.length≤nt)
  (hna:namesL args=[]) (hnr:res.names=[]) (h:∀ c:Ctx,c.P=P→c.fn=[]→vcC c r.pre ⟨initE 0 args,[],[]⟩ (layK c r g ks rs res)):Ctr P f args [] res [] []:=
 ctr_deferO g ks hf hok hb hcd hrs hnt hlen hnr fun c h1 h2=>by
  have e:namesL args++ownNames []=[]:=by rw [hna];rfl
  rw [e] at h2 ⊢
  exact h c h1 h2
end Go.Bx
end
section
namespace Go.Bx
open Go.RowKit
set_option linter.defProp false
def jj (d:Nat) (o:O):I:=⟨some d,none,o⟩
def jm (d s:Nat):I:=⟨some d,none,.mov (.t s)⟩
def jg (d s:Nat) (b:Bool) (o:O):I:=⟨some d,some (s,b),o⟩
def jn (o:O):I:=⟨none,none,o⟩
def ki (n:Int):X:=.k (.d (.int .i64 n))
def zi:V:=.d (.int .i64 0)
def zl:V:=.d (.sl true 0 0 fun _=>[])
theorem jl:(∀ d o,jj d o=⟨some d,none,o⟩)∧(∀ d s,jm d s=⟨some d,none,.mov (.t s)⟩)∧(∀ d s b o,jg d s b o=⟨some d,some (s,b),o⟩)∧(∀ o,jn o=⟨none,none,o⟩)∧(∀ n,ki n=.k (.d (.int .i64 n)))∧zi=.d (.int .i64 0)∧zl=.d (.sl true 0 0 fun _=>[]):=⟨fun _ _=>rfl,fun _ _=>rfl,fun _ _ _ _=>rfl,fun _=>rfl,fun _=>rfl,rfl,rfl⟩
theorem isCall_clr:∀ a b c,isCall (.clr a b c)=false:=fun _ _ _=>rfl
theorem makes_clr:∀ a b c,makes (.clr a b c)=false:=fun _ _ _=>rfl
def vcd:=And.intro (And.intro @isCall_clr @makes_clr) (And.intro jl (And.intro vcb (And.intro @isCall_pnc (And.intro @makes_pnc (And.intro @isCall_lkq (And.intro @makes_lkq (And.intro @rawV.eq_1 (And.intro @rawV.eq_2 (And.intro @okV.eq_1 (And.intro @okV.eq_2 (And.intro @okV.eq_3 (And.intro @toD1.eq_1 (And.intro @toD1.eq_2 @toD1.eq_3)))))))))))))
def vcp:=And.intro @evSo_some (And.intro @impFT @impTF)
section
variable {c:Ctx} {st:St} {b:Bool} {is:List I} {acc:List Lg} {K:List Lg→St→Prop}
end
theorem tA {c:Ctx} {st:St} {is:List I} {acc:List Lg} {K:List Lg→St→Prop} {d:Option Nat} {sz n k off:Nat} {x:X} {cs:List V} {ds:List D} (hx:evV st x=.own k off) (ho:own? st.own k=some (.fix cs)) (hd:toDs cs=some ds)
  (hx2:evV ⟨pubFE k ds st.env,pubFO k ds (delO st.own k),st.nm⟩ x=.mem (dropD ds off))
  (h:vcR c false is (St.stp ⟨pubFE k ds st.env,pubFO k ds (delO st.own k),st.nm⟩ d { val:=.d (.sl true sz n (litRow sz (dropD ds off))),upd:=[],rd:=[],new:=[] }) acc K)
  (hs:evS true ⟨pubFE k ds st.env,pubFO k ds (delO st.own k),st.nm⟩ x:=by exact trivial) (hl:n*sz≤(dropD ds off).length:=by exact Nat.le_of_ble_eq_true rfl):TR c false (⟨d,none,.asl sz n x⟩::is) st acc K:=TR.aslO hx ho hd hx2 hs hl h
end Go.Bx
end
section
namespace Go.Bx
open Go.RowKit
set_option linter.defProp false
theorem body_of {P:Program} {f:FuncId} {fn:Func} (hf:P.funcs[f]?=some fn) (hok:okF P f=true):fn.body=some (fn.body.getD .skip):=by
 simp only [okF,hf,Bool.and_eq_true] at hok
 obtain ⟨b,hb⟩:=Option.isSome_iff_exists.1 hok.2
 rw [hb];rfl
def lvL (P:Program):Nat→TypeId→Nat→List (Nat×Option IntKind)
 |0,_,_=>[]
 |d+1,t,off=>match P.underlying t with
  |some (.int k)=>[(off,some k)]
  |some .bool=>[(off,none)]
  |some (.struct fs)=>(fs.toList.map fun f=>lvL P d f.type (off+f.offset)).flatten
  |some (.array n e)=>((List.range n).map fun i=>lvL P d e (off+i*P.cellsOf e)).flatten
  |_=>[]
def cOpL (P:Program) (o:Oper):O:=match o.op with
 |.binOp op t x y _=>match P.underlying t,cX x,cX y with
  |some (.struct _),some x,some y=>.eqa (match op with|.neq=>true|_=>false) (P.cellsOf t) (lvL P 9 t 0) x y
  |some (.array _ _),some x,some y=>.eqa (match op with|.neq=>true|_=>false) (P.cellsOf t) (lvL P 9 t 0) x y
  |_,_,_=>(cOp0 P o).getD .never
 |_=>(cOp0 P o).getD .never
def cRegL (P:Program) (ops:Array Oper):List Oper→List I
 |[]=>[]
 |o::l=>⟨o.dst,(cGuard ops o).getD none,cOpL P o⟩::cRegL P ops l
def cLitF (P:Program):Nat→Code→C
 |0,_=>.bad
 |n+1,code=>match code with
  |.skip=>.skip
  |.region _ ops draw=>match draw with
   |false=>.reg (cRegL P ops ops.toList)
   |true=>.drw (Go.CheckFast.beforeF ops).toList (cRegL P ops ops.toList)
  |.seq a b=>.seq (cLitF P n a) (cLitF P n b)
  |.cond x a b=>.cond ((cX x).getD (.t 0)) (cLitF P n a) (cLitF P n b)
  |.block id a=>.block (2*id) (cLitF P n a)
  |.loop a=>.loop (cLitF P n a)
  |.exit id=>.exit (2*id)
  |.ret=>.ret
  |.label _=>.skip
  |.goto l=>.exit (2*l+1)
  |.scope body =>
   match firstLabel body with
   |some l =>
    match findLabel body l with
    |some rest=>.scope (2*l+1) (cLitF P n body) (cLitF P n rest)
    |none=>.bad
   |none=>.bad
  |.rangeFunc g ps asg body=>.rfn ((cX g).getD (.t 0)) ps.toList (cLitF P n asg) (cLitF P n body)
  |_=>.bad
def cLit (P:Program) (fn:Func):C:=cLitF P 64 (fn.body.getD .skip)
section
variable {P:Program} {f:FuncId} {fn:Func} {cc ca cb:C} {r:Dfr} {rs:List RV} {args:List V} {ins outs:List (Nat×Own)} {res x:V} {new:List Nat}
theorem qP (hf:P.funcs[f]?=some fn) (h:∀ c:Ctx,c.P=P→c.fn=[]→vcC c cc ⟨initE 0 args,[],[]⟩ (RetK c rs res []))
  (_hl:cLit P fn=cc:=by set_option maxRecDepth 100000 in conv=>lhs;reduce) (hcc:cCode P fn.ntmps (fn.body.getD .skip)=some cc:=by kernel_rfl) (hrs:cRess P fn.results.toList=some rs:=by set_option maxRecDepth 100000 in conv=>lhs;reduce)
  (hok:okF P f=true:=by kernel_rfl) (hlen:args.length≤fn.ntmps:=by exact Nat.le_of_ble_eq_true rfl) (hna:namesL args=[]:=by rfl) (hnr:res.names=[]:=by rfl):Ctr P f args [] res [] []:=
 ctr_pure hf hok (body_of hf hok) hcc hrs rfl hlen hna hnr h
theorem qT (hf:P.funcs[f]?=some fn) (h:∀ c:Ctx,c.P=P→c.fn=[]→c.rd=none→vcC c cc ⟨initE 0 args,[],[]⟩ (RetK c rs res []))
  (_hl:cLit P fn=cc:=by set_option maxRecDepth 100000 in conv=>lhs;reduce) (hcc:cCode P fn.ntmps (fn.body.getD .skip)=some cc:=by kernel_rfl) (hrs:cRess P fn.results.toList=some rs:=by set_option maxRecDepth 100000 in conv=>lhs;reduce)
  (hok:okF P f=true:=by kernel_rfl) (hlen:args.length≤fn.ntmps:=by exact Nat.le_of_ble_eq_true rfl) (hna:namesL args=[]:=by rfl) (hnr:res.names=[]:=by rfl):Ctr P f args [] res [] []:=
 ctr_pureL hf hok (body_of hf hok) hcc hrs rfl hlen hna hnr h
theorem qO (hf:P.funcs[f]?=some fn) (h:∀ c:Ctx,c.P=P→c.fn=namesL args++ownNames ins→vcC c cc ⟨initE 0 args,ins,namesL args++ownNames ins⟩ (RetK c rs res outs))
  (_hl:cLit P fn=cc:=by set_option maxRecDepth 100000 in conv=>lhs;reduce) (hcc:cCode P fn.ntmps (fn.body.getD .skip)=some cc:=by kernel_rfl) (hrs:cRess P fn.results.toList=some rs:=by set_option maxRecDepth 100000 in conv=>lhs;reduce)
  (hok:okF P f=true:=by kernel_rfl) (hlen:args.length≤fn.ntmps:=by exact Nat.le_of_ble_eq_true rfl) (hB:ctrB args ins res outs new=true:=by rfl):Ctr P f args ins res outs new:=
 ctr_own hf hok (body_of hf hok) hcc hrs rfl hlen hB h
theorem qN (hf:P.funcs[f]?=some fn) (h:∀ c:Ctx,c.P=P→c.fn=[]→c.pk=(fun v _=>VLe v x)→vcC c cc ⟨initE 0 args,[],[]⟩ (fun _ _=>False))
  (_hl:cLit P fn=cc:=by set_option maxRecDepth 100000 in conv=>lhs;reduce) (hcc:cCode P fn.ntmps (fn.body.getD .skip)=some cc:=by kernel_rfl)
  (hok:okF P f=true:=by kernel_rfl) (hlen:args.length≤fn.ntmps:=by exact Nat.le_of_ble_eq_true rfl) (hna:namesL args=[]:=by rfl) (hnx:x.names=[]:=by rfl):CtrP P f args x:=
 ctr_panics hf hok (body_of hf hok) hcc rfl hlen hna hnx h
theorem qD (g:FuncId) (ks:List Nat) (hf:P.funcs[f]?=some fn) (h:∀ c:Ctx,c.P=P→c.fn=[]→vcC c r.pre ⟨initE 0 args,[],[]⟩ (layK c r g ks rs res))
  (hcd:cDefer P fn.ntmps (fn.body.getD .skip)=some r:=by set_option maxRecDepth 100000 in conv=>lhs;reduce) (hrs:cRess P fn.results.toList=some rs:=by set_option maxRecDepth 100000 in conv=>lhs;reduce)
  (hok:okF P f=true:=by kernel_rfl) (hlen:args.length≤fn.ntmps:=by exact Nat.le_of_ble_eq_true rfl) (hna:namesL args=[]:=by rfl) (hnr:res.names=[]:=by rfl):Ctr P f args [] res [] []:=
 ctr_defer g ks hf hok (body_of hf hok) hcd hrs rfl hlen hna hnr h
end
section
variable {c:Ctx} {rs:List RV} {res:V} {st:St}
theorem rp (h2:VLe (retV st rs) res) (h1:ressS st rs:=by simp only [rsb,vcd,↓vcp,seval]):RetK c rs res [] .ret st:=RetK.pure h1 h2
theorem rq {A:Prop} (a:A) (h2:VLe (retV st rs) res=A:=by conv=>lhs;simp only [rsb,enb,vcd,↓vcp,seval]) (h1:ressS st rs:=by simp only [rsb,vcd,↓vcp,seval]):RetK c rs res [] .ret st:=RetK.pure h1 (h2▸a)
theorem rr (h2:VLe (retV st rs) res:=by (simp only [rsb,enb,vcd,↓vcp,seval])<;>first|exact VLe.refl _|rfl|trivial) (h1:ressS st rs:=by simp only [rsb,vcd,↓vcp,seval]):RetK c rs res [] .ret st:=RetK.pure h1 h2
variable {outs:List (Nat×Own)} {st1:St}
theorem rK (h:Wk c st st1) (h3:OwnLe st1.own outs) (h2:VLe (retV st1 rs) res:=by simp only [rsb,enb,vcd,↓vcp,seval]) (h1:ressS st1 rs:=by simp only [rsb,vcd,↓vcp,seval]):RetK c rs res outs .ret st:=RetK.mk st1 h h1 h2 h3
theorem rK' (h:Wk c st st1) (h3:OwnLe st1.own outs) (h2:VLe (retV st1 rs) res:=by simp only [rsb,enb,vcd,↓vcp,seval]) (h1:ressS st1 rs:=by simp only [rsb,vcd,↓vcp,seval]):RetK c rs res outs .nrm st:=RetK.mk' st1 h h1 h2 h3
end
section
variable {c:Ctx} {st:St} {b:Bool} {is:List I} {acc:List Lg} {K:List Lg→St→Prop}
inductive CallOf (st:St):I→Bool→FuncId→List V→(V→V)→Prop
 |p {d:Option Nat} {f:Nat} {xs:List X} (hs:evSs true st xs):CallOf st ⟨d,none,.call f xs⟩ true f (evVs st xs) (fun v=>v)
 |g {d:Option Nat} {s:Nat} {want gc:Bool} {f:Nat} {xs:List X} (hg:gOf st.env s want=some gc) (hs:gc=true→evSs true st xs):CallOf st ⟨d,some (s,want),.call f xs⟩ gc f (evVs st xs) (.gd gc)
 |v {d:Option Nat} {x:X} {f:Nat} {first cap:List V} {xs:List X} (hx:evV st x=.fn (.func f) first cap) (hsx:evS true st x) (hs:evSs true st xs):CallOf st ⟨d,none,.callv x xs⟩ true f (first++(evVs st xs++cap)) (fun v=>v)
theorem tq {P:Program} (hP:c.P=P) {i:I} {gc:Bool} {f:FuncId} {args:List V} {F:V→V}
  (hc:CallOf st i gc f args F:=by first|exact .p (by repeat' first|exact trivial|(intro _;assumption)|apply And.intro)|exact .g rfl (by intro _;repeat' first|exact trivial|(intro _;assumption)|apply And.intro)|exact .v rfl trivial (by repeat' first|exact trivial|(intro _;assumption)|apply And.intro))
  (h:∃ res:V,(gc=true→Ctr P f args [] res [] [])∧vcR c b is (st.stp i.dst { val:=F res,upd:=[],rd:=[],new:=[] }) (lgs b acc ⟨[],[]⟩) K):TR c b (i::is) st acc K:=by
 obtain ⟨res,hS,h⟩:=h
 cases hc with
 |p hs=>exact TR.p hP (hS rfl) hs h
 |g hg hs=>exact TR.gp hP hg hS hs h
 |v hx hsx hs=>exact TR.pv hP hx (hS rfl) hsx hs h
end
theorem aX {A B:Prop} (h:B) (o:A:=by first|omega|exact trivial|rfl|(simp only [maxLen,decide_eq_true_eq,decide_eq_false_iff_not] at *;omega)):A∧B:=⟨o,h⟩
end Go.Bx
end
section
namespace Go.Proofs.YtmccbkekpjgdbaaGreat
open Go.Bx
set_option maxRecDepth 100000
def kc8:C:=
  (.seq (.reg [jj 2 (.alloc 38 [zi,zl]),jj 3 (.mov (ki 0))])
 (.seq (.seq (.reg [jm 24 0,jj 25 (.len (.t 24)),jj 26 (.bin .eql (.t 25) (ki 0))])
 (.cond (.t 26) (.seq (.reg [jj 27 (.build [zi,zl] []),jn (.store 2 (.t 2) (.t 27)),jj 3 (.mov (ki 7))])
 .ret)
 .skip))
 (.seq (.reg [jj 4 (.mov (ki 2401)),jj 5 (.mov (ki 0))])
 (.seq (.seq (.reg [jm 28 0,jj 29 (.len (.t 28)),jj 30 (.mov (ki 0))])
 (.block 0 (.loop (.seq (.reg [jj 31 (.bin .lss (.t 30) (.t 29))])
 (.seq (.cond (.t 31) .skip
 (.exit 0))
 (.seq (.block 2 (.seq (.reg [jj 32 (.iadr 3 (.t 28) (.t 30)),jj 33 (.load 3 true (.t 32)),jj 7 (.alloc 90 [zi,zi,zi]),jn (.store 3 (.t 7) (.t 33))])
 (.seq (.seq (.reg [jj 34 (.load 3 true (.t 7)),jj 35 (.call 27 [(.t 34)]),jm 8 35])
 (.seq (.reg [jm 36 8,jj 37 (.bin .neq (.t 36) (ki 0))])
 (.cond (.t 37) (.seq (.reg [jj 38 (.build [zi,zl] []),jm 39 8,jn (.store 2 (.t 2) (.t 38)),jm 3 39])
 .ret)
 .skip)))
 (.seq (.reg [jj 41 (.aadr 1 3 (.t 7) (ki 0)),jj 42 (.load 1 false (.t 41)),jj 43 (.call 28 [(.t 42)]),jm 40 43,jj 44 (.ext 0 (.t 40)),jj 45 (.ext 1 (.t 40)),jm 9 44,jm 10 45])
 (.seq (.reg [jj 47 (.aadr 1 3 (.t 7) (ki 1)),jj 48 (.load 1 false (.t 47)),jj 49 (.call 28 [(.t 48)]),jm 46 49,jj 50 (.ext 0 (.t 46)),jj 51 (.ext 1 (.t 46)),jm 11 50,jm 12 51])
 (.reg [jm 52 4,jm 53 9,jj 54 (.mm false (.t 52) (.t 53)),jm 55 5,jm 56 11,jj 57 (.mm true (.t 55) (.t 56)),jm 4 54,jm 5 57]))))))
 (.reg [jj 58 (.bin .add (.t 30) (ki 1)),jm 30 58])))))))
 (.seq (.reg [jm 59 5,jm 60 4,jj 61 (.bin .sub (.t 59) (.t 60)),jj 62 (.bin .add (.t 61) (ki 1)),jm 13 62])
 (.seq (.seq (.reg [jm 63 0,jj 64 (.len (.t 63)),jj 65 (.bin .gtr (.t 64) (ki 2000)),jm 66 65,jg 67 66 false (.mov (.t 13)),jg 68 66 false (.bin .gtr (.t 67) (ki 20)),jj 69 (.pick (.t 66) (.k (.d (.bool true))) (.t 68))])
 (.cond (.t 69) (.seq (.reg [jj 70 (.build [zi,zl] []),jn (.store 2 (.t 2) (.t 70)),jj 3 (.mov (ki 2))])
 .ret)
 .skip))
 (.seq (.reg [jm 71 4,jj 72 (.build [zi,zl] [(0,1,(.t 71))]),jj 14 (.alloc 38 [zi,zl]),jn (.store 2 (.t 14) (.t 72))])
 (.seq (.seq (.reg [jm 73 13,jj 74 (.mov (ki 0))])
 (.block 4 (.loop (.seq (.reg [jj 75 (.bin .lss (.t 74) (.t 73))])
 (.seq (.cond (.t 75) .skip
 (.exit 4))
 (.seq (.block 6 (.seq (.reg [jm 76 74,jm 15 76])
 (.drw [0, 1, 0, 0, 12, 28, 60, 127, 255, 511]
  [jj 77 (.fadr 1 (.t 14)),jj 78 (.load 1 false (.t 77)),jm 79 13,jm 80 15,jj 81 (.bin .sub (.t 79) (.t 80)),jj 82 (.mks 3 1 8 [(.int .i64 0)] (.t 81) (.t 81)),jj 83 (.bslice 31 1 1 [(.t 82)]),jj 84 (.app 31 1 24 (.t 78) (.t 83)),jj 85 (.fadr 1 (.t 14)),jn (.store 1 (.t 85) (.t 84))])))
 (.reg [jj 86 (.bin .add (.t 74) (ki 1)),jm 74 86])))))))
 (.seq (.seq (.reg [jm 87 0,jj 88 (.len (.t 87)),jj 89 (.mov (ki 0))])
 (.block 8 (.loop (.seq (.reg [jj 90 (.bin .lss (.t 89) (.t 88))])
 (.seq (.cond (.t 90) .skip
 (.exit 8))
 (.seq (.block 10 (.seq (.reg [jj 91 (.iadr 3 (.t 87) (.t 89)),jj 92 (.load 3 true (.t 91)),jj 17 (.alloc 90 [zi,zi,zi]),jn (.store 3 (.t 17) (.t 92))])
 (.seq (.reg [jj 94 (.aadr 1 3 (.t 17) (ki 0)),jj 95 (.load 1 false (.t 94)),jj 96 (.call 28 [(.t 95)]),jm 93 96,jj 97 (.ext 0 (.t 93)),jj 98 (.ext 1 (.t 93)),jm 18 97,jm 19 98])
 (.seq (.reg [jj 100 (.aadr 1 3 (.t 17) (ki 1)),jj 101 (.load 1 false (.t 100)),jj 102 (.call 28 [(.t 101)]),jm 99 102,jj 103 (.ext 0 (.t 99)),jj 104 (.ext 1 (.t 99)),jm 20 103,jm 21 104])
 (.seq (.reg [jj 105 (.fadr 1 (.t 14)),jj 106 (.load 1 false (.t 105)),jm 107 18,jm 108 4,jj 109 (.bin .sub (.t 107) (.t 108)),jj 110 (.iadr 1 (.t 106) (.t 109)),jj 111 (.load 1 false (.t 110)),jm 22 111])
 (.seq (.reg [jm 112 20,jm 113 18,jj 114 (.bin .sub (.t 112) (.t 113)),jm 23 114])
 (.block 12 (.loop (.seq (.seq (.reg [jm 115 23,jm 116 22,jj 117 (.len (.t 116)),jj 118 (.bin .lss (.t 115) (.t 117))])
 (.cond (.t 118) .skip
 (.exit 12)))
 (.seq (.block 14 (.seq (.drw [0, 0, 3, 7, 0, 16, 63, 127, 255]
  [jm 121 22,jm 122 23,jj 123 (.iadr 1 (.t 121) (.t 122)),jj 124 (.load 1 false (.t 123)),jj 125 (.aadr 1 3 (.t 17) (ki 2)),jj 126 (.load 1 false (.t 125)),jj 127 (.bin .add (.t 124) (.t 126)),jj 128 (.iadr 1 (.t 121) (.t 122)),jn (.store 1 (.t 128) (.t 127))])
 (.seq (.reg [jm 129 22,jm 130 23,jj 131 (.iadr 1 (.t 129) (.t 130)),jj 132 (.load 1 false (.t 131)),jj 133 (.bin .gtr (.t 132) (ki 100000000000000000))])
 (.cond (.t 133) (.seq (.reg [jj 134 (.build [zi,zl] []),jn (.store 2 (.t 2) (.t 134)),jj 3 (.mov (ki 5))])
 .ret)
 .skip))))
 (.reg [jm 119 23,jj 120 (.bin .add (.t 119) (ki 1)),jm 23 120])))))))))))
 (.reg [jj 135 (.bin .add (.t 89) (ki 1)),jm 89 135])))))))
 (.seq (.reg [jj 136 (.load 2 true (.t 14)),jn (.store 2 (.t 2) (.t 136)),jj 3 (.mov (ki 0))])
 .ret))))))))))
def rs8:List RV:=[.cell 2 2 true,.tmp 3]
theorem ok8:okF Tryz.prog 8=true:=by kernel_rfl
theorem cc8:cCode Tryz.prog Tryz.f8.ntmps (Tryz.f8.body.getD .skip)=some kc8:=by kernel_rfl
theorem cr8:cRess Tryz.prog Tryz.f8.results.toList=some rs8:=by kernel_rfl
def kc24:C:=
  (.seq (.reg [jj 2 (.mov (.k (zl)))])
 (.seq (.reg [jj 10 (.mkmap ((.bool false))),jm 3 10])
 (.seq (.seq (.reg [jm 11 0,jj 12 (.len (.t 11)),jj 13 (.mov (ki 0))])
 (.block 0 (.loop (.seq (.reg [jj 14 (.bin .lss (.t 13) (.t 12))])
 (.seq (.cond (.t 14) .skip
 (.exit 0))
 (.seq (.block 2 (.seq (.reg [jj 15 (.iadr 7 (.t 11) (.t 13)),jj 16 (.load 7 true (.t 15)),jj 5 (.alloc 79 [zi,zi,zi,zi,zi,zi,zl]),jn (.store 7 (.t 5) (.t 16))])
 (.seq (.reg [jm 17 3,jj 18 (.fadr 0 (.t 5)),jj 19 (.fadr 4 (.t 18)),jj 20 (.load 1 false (.t 19)),jn (.mup (.t 17) (.t 20) (.k (.d (.bool true))))])
 (.seq (.reg [jj 21 (.fadr 6 (.t 5)),jj 22 (.load 1 false (.t 21)),jj 23 (.len (.t 22)),jj 24 (.mov (ki 0))])
 (.block 4 (.loop (.seq (.reg [jj 25 (.bin .lss (.t 24) (.t 23))])
 (.seq (.cond (.t 25) .skip
 (.exit 4))
 (.seq (.block 6 (.seq (.reg [jj 26 (.iadr 3 (.t 22) (.t 24)),jj 27 (.load 3 true (.t 26)),jj 7 (.alloc 83 [zi,zi,zi]),jn (.store 3 (.t 7) (.t 27))])
 (.reg [jm 28 3,jj 29 (.fadr 0 (.t 7)),jj 30 (.load 1 false (.t 29)),jn (.mup (.t 28) (.t 30) (.k (.d (.bool true))))])))
 (.reg [jj 31 (.bin .add (.t 24) (ki 1)),jm 24 31]))))))))))
 (.reg [jj 32 (.bin .add (.t 13) (ki 1)),jm 13 32])))))))
 (.seq (.reg [jj 8 (.mov (.k (zl)))])
 (.seq (.seq (.reg [jm 33 3,jj 34 (.never)])
 (.block 8 (.loop (.seq (.reg [jj 35 (.never),jj 36 (.ext 0 (.t 35))])
 (.seq (.cond (.t 36) .skip
 (.exit 8))
 (.block 10 (.seq (.reg [jj 37 (.never),jj 38 (.ext 0 (.t 37)),jm 9 38])
 (.reg [jm 39 8,jm 40 9,jj 41 (.bslice 3 1 1 [(.t 40)]),jj 42 (.app 3 1 8 (.t 39) (.t 41)),jm 8 42]))))))))
 (.seq (.reg [jm 43 8,jj 44 (.call 55 [(.t 43)])])
 (.seq (.reg [jm 45 8,jm 2 45])
 .ret)))))))
def rs24:List RV:=[.tmp 2]
theorem ok24:okF Tryz.prog 24=true:=by kernel_rfl
theorem cr24:cRess Tryz.prog Tryz.f24.results.toList=some rs24:=by kernel_rfl
theorem ok38:okF Tryz.prog 38=true:=by kernel_rfl
end Go.Proofs.YtmccbkekpjgdbaaGreat
end
section
namespace Go.Proofs.YtmccbkekpjgdbaaGreat
open Go.Bx
set_option maxRecDepth 100000
theorem ok55:okF Tryz.prog 55=true:=by kernel_rfl
def kc79:C:=
  (.seq (.seq (.reg [jj 8 (.fadr 0 (.t 2)),jj 9 (.load 1 false (.t 8)),jj 10 (.len (.t 9)),jm 5 10])
 (.seq (.reg [jm 11 5,jj 12 (.bin .gtr (.t 11) (ki 0)),jm 13 12,jg 14 13 true (.fadr 0 (.t 2)),jg 15 13 true (.load 1 false (.t 14)),jg 16 13 true (.mov (.t 5)),jg 17 13 true (.bin .sub (.t 16) (ki 1)),jg 18 13 true (.iadr 1 (.t 15) (.t 17)),jg 19 13 true (.load 1 false (.t 18)),jg 20 13 true (.mov (.t 0)),jg 21 13 true (.bin .eql (.t 19) (.t 20)),jj 22 (.pick (.t 13) (.t 21) (.k (.d (.bool false))))])
 (.cond (.t 22) (.drw [0, 1, 0, 4, 15, 0, 32, 0, 128, 480, 127, 1151, 4095, 8191]
  [jj 23 (.fadr 0 (.t 2)),jj 24 (.load 1 false (.t 23)),jm 25 5,jj 26 (.bin .sub (.t 25) (ki 1)),jj 27 (.slc 1 (.t 24) none (some (.t 26)) none),jj 28 (.fadr 1 (.t 2)),jj 29 (.load 1 false (.t 28)),jm 30 5,jj 31 (.bin .sub (.t 30) (ki 1)),jj 32 (.slc 1 (.t 29) none (some (.t 31)) none),jj 33 (.fadr 0 (.t 2)),jn (.store 1 (.t 33) (.t 27)),jj 34 (.fadr 1 (.t 2)),jn (.store 1 (.t 34) (.t 32))])
 .skip)))
 (.seq (.reg [jj 6 (.mov (ki 0))])
 (.seq (.seq (.reg [jj 35 (.fadr 1 (.t 2)),jj 36 (.load 1 false (.t 35)),jj 37 (.len (.t 36)),jm 7 37])
 (.seq (.reg [jm 38 7,jj 39 (.bin .gtr (.t 38) (ki 0))])
 (.cond (.t 39) (.reg [jj 40 (.fadr 1 (.t 2)),jj 41 (.load 1 false (.t 40)),jm 42 7,jj 43 (.bin .sub (.t 42) (ki 1)),jj 44 (.iadr 1 (.t 41) (.t 43)),jj 45 (.load 1 false (.t 44)),jm 6 45])
 .skip)))
 (.seq (.reg [jm 46 1,jm 47 6,jj 48 (.bin .neq (.t 46) (.t 47)),jm 49 48,jg 50 49 true (.mov (.t 0)),jg 51 49 true (.bin .leq (.t 50) (ki 292194)),jj 52 (.pick (.t 49) (.t 51) (.k (.d (.bool false))))])
 (.cond (.t 52) (.drw [0, 1, 0, 4, 15, 0, 32, 0, 128, 511, 127, 2047, 4095, 8191]
  [jj 53 (.fadr 0 (.t 2)),jj 54 (.load 1 false (.t 53)),jm 55 0,jj 56 (.bslice 3 1 1 [(.t 55)]),jj 57 (.app 3 1 8 (.t 54) (.t 56)),jj 58 (.fadr 1 (.t 2)),jj 59 (.load 1 false (.t 58)),jm 60 1,jj 61 (.bslice 3 1 1 [(.t 60)]),jj 62 (.app 3 1 8 (.t 59) (.t 61)),jj 63 (.fadr 0 (.t 2)),jn (.store 1 (.t 63) (.t 57)),jj 64 (.fadr 1 (.t 2)),jn (.store 1 (.t 64) (.t 62))])
 .skip)))))
def rs79:List RV:=[]
theorem ok79:okF Tryz.prog 79=true:=by kernel_rfl
theorem cc79:cCode Tryz.prog Tryz.f79.ntmps (Tryz.f79.body.getD .skip)=some kc79:=by kernel_rfl
theorem cr79:cRess Tryz.prog Tryz.f79.results.toList=some rs79:=by kernel_rfl
end Go.Proofs.YtmccbkekpjgdbaaGreat
end
section
namespace Go.Proofs.YtmccbkekpjgdbaaGreat
open Go.Bx
set_option maxRecDepth 100000
def kd110:Dfr:=
  ⟨(.seq (.reg [jj 1 (.box 240 (.t 0)),jj 2 (.alloc 4 [.d (.bool false)])])
 (.seq (.reg [jj 3 (.alloc 3 [zi]),jn (.store 1 (.t 3) (ki 0))])
 .skip)),
  [jj 6 (.mkfn (.func 156) [] [(.t 3),(.t 1),(.t 2)])],
  (.t 6),[],
  (.seq (.seq (.reg [jj 7 (.load 1 false (.t 1)),jj 8 (.len (.t 7)),jj 9 (.mov (ki 0))])
 (.block 0 (.loop (.seq (.reg [jj 10 (.bin .lss (.t 9) (.t 8))])
 (.seq (.cond (.t 10) .skip
 (.exit 0))
 (.seq (.block 2 (.seq (.reg [jj 11 (.iadr 1 (.t 7) (.t 9)),jj 12 (.load 1 false (.t 11)),jm 5 12])
 (.seq (.seq (.reg [jm 13 5,jj 14 (.callv (.t 13) []),jj 15 (.inv .not (.t 14))])
 (.cond (.t 15) .ret
 .skip))
 (.reg [jj 16 (.load 1 false (.t 3)),jj 17 (.bin .add (.t 16) (ki 1)),jn (.store 1 (.t 3) (.t 17))]))))
 (.reg [jj 18 (.bin .add (.t 9) (ki 1)),jm 9 18])))))))
 .ret)⟩
def rs110:List RV:=[.cell 2 1 false]
theorem ok110:okF Tryz.prog 110=true:=by kernel_rfl
theorem cd110:cDefer Tryz.prog Tryz.f110.ntmps (Tryz.f110.body.getD .skip)=some kd110:=by kernel_rfl
theorem cr110:cRess Tryz.prog Tryz.f110.results.toList=some rs110:=by kernel_rfl
def kc117:C:=
  (.seq (.reg [jj 4 (.load 1 false (.t 1)),jj 5 (.len (.t 4)),jj 6 (.bin .sub (.t 5) (ki 1)),jm 3 6])
 (.block 0 (.loop (.seq (.seq (.reg [jm 7 3,jj 8 (.bin .geq (.t 7) (ki 0))])
 (.cond (.t 8) .skip
 (.exit 0)))
 (.seq (.block 2 (.seq (.reg [jm 11 0,jm 12 3,jj 13 (.load 1 false (.t 1)),jm 14 3,jj 15 (.iadr 9 (.t 13) (.t 14)),jj 16 (.load 9 true (.t 15)),jj 17 (.callv (.t 11) [(.t 12),(.t 16)]),jj 18 (.inv .not (.t 17))])
 (.cond (.t 18) .ret
 .skip)))
 (.reg [jm 9 3,jj 10 (.bin .sub (.t 9) (ki 1)),jm 3 10]))))))
def rs117:List RV:=[]
theorem ok117:okF Tryz.prog 117=true:=by kernel_rfl
theorem cc117:cCode Tryz.prog Tryz.f117.ntmps (Tryz.f117.body.getD .skip)=some kc117:=by kernel_rfl
theorem cr117:cRess Tryz.prog Tryz.f117.results.toList=some rs117:=by kernel_rfl
theorem ok156:okF Tryz.prog 156=true:=by kernel_rfl
end Go.Proofs.YtmccbkekpjgdbaaGreat
end
section
namespace Go.Proofs.YtmccbkekpjgdbaaGreat
open Go.Bx
set_option maxRecDepth 100000
def kc160:C:=
  (.seq (.reg [jj 7 (.fadr 0 (.t 1)),jj 8 (.load 1 false (.t 7)),jm 4 8])
 (.seq (.seq (.reg [jj 9 (.fadr 0 (.t 2)),jj 10 (.load 1 false (.t 9)),jj 11 (.len (.t 10)),jj 12 (.mov (ki 0))])
 (.block 0 (.loop (.seq (.reg [jj 13 (.bin .lss (.t 12) (.t 11))])
 (.seq (.cond (.t 13) .skip
 (.exit 0))
 (.seq (.block 2 (.seq (.reg [jj 14 (.iadr 1 (.t 10) (.t 12)),jj 15 (.load 1 false (.t 14)),jm 6 15])
 (.seq (.seq (.reg [jm 16 6,jm 17 4,jj 18 (.bin .leq (.t 16) (.t 17)),jm 19 18,jg 20 19 false (.mov (.t 6)),jg 21 19 false (.fadr 1 (.t 1)),jg 22 19 false (.load 1 false (.t 21)),jg 23 19 false (.bin .geq (.t 20) (.t 22)),jj 24 (.pick (.t 19) (.k (.d (.bool true))) (.t 23))])
 (.cond (.t 24) (.exit 2)
 .skip))
 (.seq (.seq (.reg [jm 25 0,jm 26 4,jm 27 6,jj 28 (.build [zi,zi] [(0,1,(.t 26)),(1,1,(.t 27))]),jj 29 (.load 2 true (.t 2)),jm 30 4,jj 31 (.call 31 [(.t 29),(.t 30)]),jj 32 (.callv (.t 25) [(.t 28),(.t 31)]),jj 33 (.inv .not (.t 32))])
 (.cond (.t 33) .ret
 .skip))
 (.reg [jm 34 6,jm 4 34])))))
 (.reg [jj 35 (.bin .add (.t 12) (ki 1)),jm 12 35])))))))
 (.drw [0, 0, 0, 4, 14, 0, 0, 96, 255]
  [jm 36 0,jm 37 4,jj 38 (.fadr 1 (.t 1)),jj 39 (.load 1 false (.t 38)),jj 40 (.build [zi,zi] [(0,1,(.t 37)),(1,1,(.t 39))]),jj 41 (.load 2 true (.t 2)),jm 42 4,jj 43 (.call 31 [(.t 41),(.t 42)]),jj 44 (.callv (.t 36) [(.t 40),(.t 43)])])))
def rs160:List RV:=[]
theorem ok160:okF Tryz.prog 160=true:=by kernel_rfl
theorem cc160:cCode Tryz.prog Tryz.f160.ntmps (Tryz.f160.body.getD .skip)=some kc160:=by kernel_rfl
theorem cr160:cRess Tryz.prog Tryz.f160.results.toList=some rs160:=by kernel_rfl
end Go.Proofs.YtmccbkekpjgdbaaGreat
end
section
namespace Go.Proofs.YtmccbkekpjgdbaaGreat
def I64 (n:Int):Prop:=-9223372036854775808≤n∧n≤9223372036854775807
end Go.Proofs.YtmccbkekpjgdbaaGreat
end
section
namespace Go.Proofs.YtmccbkekpjgdbaaGreat
open Go.ChangeShapes Go.WideShapes Go.ChangeAt Go.RowKit Go.Bx
theorem Tryz.own:ownKnob Tryz.prog.godebug=none:=by kernel_rfl
theorem Tryz.laidOut:laidOutB Tryz.prog=true:=by kernel_rfl
theorem wf_i64 {n:Int} (h:(Lit.int .i64 n).wf=true):I64 n:=by
 simp only [Lit.wf,Bool.and_eq_true,decide_eq_true_eq] at h
 have e1:IntKind.i64.min=-9223372036854775808:=by decide +kernel
 have e2:IntKind.i64.max=9223372036854775807:=by decide +kernel
 unfold I64;omega
theorem int_reads:Reads Tryz.prog 3 1 (fun n:Int=>[.int .i64 n]) I64:=
 (Reads.int Tryz.underlying3 (by kernel_rfl)).map id _ _ (fun _=>rfl) (fun _=>rfl) (fun _ h=>wf_i64 h)
end Go.Proofs.YtmccbkekpjgdbaaGreat
end
section
namespace Go.Proofs.YtmccbkekpjgdbaaGreat
open Go.Bx
section
variable {X:Type} (lt:X→X→Bool)
structure Swo:Prop where
 asy:∀ a b,lt a b=true→lt b a=false
 nt:∀ a b c,lt a b=false→lt b c=false→lt a c=false
def Srt (l:List X):Prop:=l.Pairwise (fun x y=>lt y x=false)
def mrg:List X→List X→List X
 |[],B=>B
 |a::A,[]=>a::A
 |a::A,b::B=>if lt b a=true then b::mrg (a::A) B else a::mrg A (b::B)
termination_by a b=>a.length+b.length
theorem mrg_nil (A:List X):mrg lt A []=A:=by cases A<;>simp [mrg]
theorem mrg_nil2 (B:List X):mrg lt [] B=B:=by simp [mrg]
theorem mrg_split:∀ (A1 B1 A2 B2:List X),(∀ b,b∈B1→∀ a,a∈A2→lt b a=true)→(∀ a,a∈A1→∀ b,b∈B2→lt b a=false)→mrg lt (A1++A2) (B1++B2)=mrg lt A1 B1++mrg lt A2 B2
 |[],[],A2,B2,_,_=>by rw [mrg_nil2];rfl
 |[],b::B1,[],B2,_,_=>by simp [mrg_nil2]
 |[],b::B1,a::A2,B2,h1,h2=>by
  have:=mrg_split [] B1 (a::A2) B2 (fun b hb a ha=>h1 b (by simp [hb]) a ha) (fun a ha=>by simp at ha)
  rw [List.nil_append,mrg_nil2] at this
  rw [List.nil_append,mrg_nil2,List.cons_append,mrg,if_pos (h1 b (by simp) a (by simp)),this,List.cons_append]
 |a::A1,[],A2,[],_,_=>by rw [List.append_nil,mrg_nil,mrg_nil,mrg_nil]
 |a::A1,[],A2,b::B2,h1,h2=>by
  have:=mrg_split A1 [] A2 (b::B2) (fun b hb=>by simp at hb) (fun a ha b hb=>h2 a (by simp [ha]) b hb)
  rw [List.nil_append,mrg_nil] at this
  rw [List.nil_append,mrg_nil,List.cons_append,mrg,if_neg (by rw [h2 a (by simp) b (by simp)];simp),this,List.cons_append]
 |a::A1,b::B1,A2,B2,h1,h2=>by
  rw [List.cons_append,List.cons_append,mrg,mrg]
  by_cases h:lt b a=true
  ·rw [if_pos h,if_pos h,List.cons_append]
   have:=mrg_split (a::A1) B1 A2 B2 (fun b hb a ha=>h1 b (by simp [hb]) a ha) h2
   rw [List.cons_append] at this
   rw [this]
  ·rw [if_neg h,if_neg h,List.cons_append]
   have:=mrg_split A1 (b::B1) A2 B2 h1 (fun a ha b hb=>h2 a (by simp [ha]) b hb)
   rw [List.cons_append] at this
   rw [this]
termination_by A1 B1=>A1.length+B1.length
theorem mrg_perm:∀ (A B:List X),(mrg lt A B).Perm (A++B)
 |[],B=>by rw [mrg_nil2];exact List.Perm.refl _
 |a::A,[]=>by rw [mrg_nil];simp
 |a::A,b::B=>by
  rw [mrg]
  split
  ·exact ((List.Perm.cons b (mrg_perm (a::A) B))).trans (List.perm_middle (l₁:=a::A) (a:=b) (l₂:=B)).symm
  ·exact List.Perm.cons a (mrg_perm A (b::B))
termination_by A B=>A.length+B.length
theorem mrg_len (A B:List X):(mrg lt A B).length=A.length+B.length:=by have:=(mrg_perm lt A B).length_eq;simpa using this
variable {lt}
theorem mrg_sorted (w:Swo lt):∀ (A B:List X),Srt lt A→Srt lt B→Srt lt (mrg lt A B)
 |[],B,_,hB=>by rw [mrg_nil2];exact hB
 |a::A,[],hA,_=>by rw [mrg_nil];exact hA
 |a::A,b::B,hA,hB=>by
  have hA':=List.pairwise_cons.1 hA
  have hB':=List.pairwise_cons.1 hB
  rw [mrg]
  split
  ·rename_i h
   refine List.pairwise_cons.2 ⟨fun z hz=>?_,mrg_sorted w (a::A) B hA hB'.2⟩
   rcases List.mem_append.1 ((mrg_perm lt (a::A) B).mem_iff.1 hz) with h1|h1
   ·have hab:=w.asy b a h
    rcases List.mem_cons.1 h1 with rfl|h1
    ·exact hab
    ·exact w.nt z a b (hA'.1 z h1) hab
   ·exact hB'.1 z h1
  ·rename_i h
   have h:lt b a=false:=by simpa using h
   refine List.pairwise_cons.2 ⟨fun z hz=>?_,mrg_sorted w A (b::B) hA'.2 hB⟩
   rcases List.mem_append.1 ((mrg_perm lt A (b::B)).mem_iff.1 hz) with h1|h1
   ·exact hA'.1 z h1
   ·rcases List.mem_cons.1 h1 with rfl|h1
    ·exact h
    ·exact w.nt z b a (hB'.1 z h1) h
termination_by A B=>A.length+B.length
theorem mrg_one_lo {A:List X} {b:X} (h:∀ a,a∈A→lt b a=true):mrg lt A [b]=b::A:=by
 cases A with
 |nil=>rw [mrg_nil2]
 |cons a A=>rw [mrg,if_pos (h a (by simp)),mrg_nil]
theorem mrg_ins1 {A1 A2:List X} {b:X} (h1:∀ a,a∈A2→lt b a=true) (h2:∀ a,a∈A1→lt b a=false):mrg lt (A1++A2) [b]=A1++b::A2:=by
 have:=mrg_split lt A1 [] A2 [b] (fun b hb=>by simp at hb) (fun a ha c hc=>by simp at hc;subst hc;exact h2 a ha)
 rw [List.nil_append,mrg_nil,mrg_one_lo h1] at this
 exact this
theorem mrg_assoc (w:Swo lt):∀ (A B C:List X),Srt lt A→Srt lt B→Srt lt C→mrg lt (mrg lt A B) C=mrg lt A (mrg lt B C)
 |[],B,C,_,_,_=>by rw [mrg_nil2,mrg_nil2]
 |a::A,[],C,_,_,_=>by rw [mrg_nil,mrg_nil2]
 |a::A,b::B,[],_,_,_=>by rw [mrg_nil,mrg_nil]
 |a::A,b::B,c::C,hA,hB,hC=>by
  have hA':=List.pairwise_cons.1 hA
  have hB':=List.pairwise_cons.1 hB
  have hC':=List.pairwise_cons.1 hC
  by_cases h1:lt b a=true
  ·have e1:mrg lt (a::A) (b::B)=b::mrg lt (a::A) B:=by rw [mrg,if_pos h1]
   by_cases h2:lt c b=true
   ·have e2:mrg lt (b::B) (c::C)=c::mrg lt (b::B) C:=by rw [mrg,if_pos h2]
    have hca:lt c a=true:=by
     cases h:lt c a with
     |true=>rfl
     |false=>have:=w.nt c a b h (w.asy b a h1);rw [h2] at this;cases this
    rw [e1,e2,mrg,if_pos h2,mrg,if_pos hca,←e1,mrg_assoc w (a::A) (b::B) C hA hB hC'.2]
   ·have e2:mrg lt (b::B) (c::C)=b::mrg lt B (c::C):=by rw [mrg,if_neg h2]
    rw [e1,e2,mrg,if_neg h2,mrg,if_pos h1,mrg_assoc w (a::A) B (c::C) hA hB'.2 hC]
  ·have e1:mrg lt (a::A) (b::B)=a::mrg lt A (b::B):=by rw [mrg,if_neg h1]
   by_cases h2:lt c b=true
   ·have e2:mrg lt (b::B) (c::C)=c::mrg lt (b::B) C:=by rw [mrg,if_pos h2]
    by_cases h3:lt c a=true
    ·rw [e1,e2,mrg,if_pos h3,mrg,if_pos h3,←e1,mrg_assoc w (a::A) (b::B) C hA hB hC'.2]
    ·rw [e1,e2,mrg,if_neg h3,mrg,if_neg h3,←e2,mrg_assoc w A (b::B) (c::C) hA'.2 hB hC]
   ·have e2:mrg lt (b::B) (c::C)=b::mrg lt B (c::C):=by rw [mrg,if_neg h2]
    have h1':lt b a=false:=by simpa using h1
    have h2':lt c b=false:=by simpa using h2
    have hca:¬ lt c a=true:=by rw [w.nt c b a h2' h1'];simp
    rw [e1,e2,mrg,if_neg hca,mrg,if_neg h1,←e2,mrg_assoc w A (b::B) (c::C) hA'.2 hB hC]
termination_by A B C=>A.length+B.length+C.length
variable (lt)
def srt:List X→List X→List X
 |S,[]=>S
 |S,e::M=>srt (mrg lt S [e]) M
variable {lt}
theorem srt_sorted (w:Swo lt):∀ (M S:List X),Srt lt S→Srt lt (srt lt S M)
 |[],S,h=>h
 |e::M,S,h=>by rw [srt];exact srt_sorted w M _ (mrg_sorted w S [e] h (List.pairwise_singleton _ _))
theorem srt_mrg (w:Swo lt):∀ (M S:List X),Srt lt S→srt lt S M=mrg lt S (srt lt [] M)
 |[],S,_=>by rw [srt,srt,mrg_nil]
 |e::M,S,h=>by
  have h1:Srt lt [e]:=List.pairwise_singleton _ _
  rw [srt,srt,mrg_nil2,srt_mrg w M _ (mrg_sorted w S [e] h h1),srt_mrg w M [e] h1,mrg_assoc w S [e] _ h h1 (srt_sorted w M [] List.Pairwise.nil)]
theorem srt_app (lt:X→X→Bool):∀ (M N S:List X),srt lt S (M++N)=srt lt (srt lt S M) N
 |[],N,S=>rfl
 |e::M,N,S=>by rw [List.cons_append,srt,srt,srt_app lt M N]
theorem srt_two (w:Swo lt) (M N:List X):mrg lt (srt lt [] M) (srt lt [] N)=srt lt [] (M++N):=by
 rw [srt_app,srt_mrg w N _ (srt_sorted w M [] List.Pairwise.nil)]
theorem srt_perm (lt:X→X→Bool):∀ (M S:List X),(srt lt S M).Perm (S++M)
 |[],S=>by rw [srt];simp
 |e::M,S=>by
  rw [srt]
  refine (srt_perm lt M _).trans ((List.Perm.append_right M (mrg_perm lt S [e])).trans ?_)
  rw [List.append_assoc];exact List.Perm.refl _
theorem srt_len (lt:X→X→Bool) (M S:List X):(srt lt S M).length=S.length+M.length:=by have:=(srt_perm lt M S).length_eq;simpa using this
end
section
variable {X:Type} (d:X)
def swq (l:List X) (i j:Nat):List X:=(l.set i (l.getD j d)).set j (l.getD i d)
theorem swq_len (l:List X) (i j:Nat):(swq d l i j).length=l.length:=by simp [swq]
theorem swq_get {l:List X} {i j:Nat} (hi:i<l.length) (hj:j<l.length) (m:Nat):(swq d l i j).getD m d=if m=j then l.getD i d else if m=i then l.getD j d else l.getD m d:=by
 simp only [swq,List.getD_eq_getElem?_getD,List.getElem?_set,List.length_set]
 by_cases h1:j=m
 ·subst h1;simp [hj]
 ·have h1':¬ m=j:=fun e=>h1 e.symm
  rw [if_neg h1,if_neg h1']
  by_cases h2:i=m
  ·subst h2;simp [hi]
  ·have h2':¬ m=i:=fun e=>h2 e.symm
   rw [if_neg h2,if_neg h2']
theorem getD_mid (u:List X) (p:X) (w:List X):(u++p::w).getD u.length d=p:=by rw [List.getD_eq_getElem?_getD,List.getElem?_append_right (Nat.le_refl _)];simp
theorem set_mid (u:List X) (p q:X) (w:List X):(u++p::w).set u.length q=u++q::w:=by rw [List.set_append_right _ _ (Nat.le_refl _)];simp
theorem swq_at (u:List X) (p:X) (v:List X) (q:X) (w:List X) {i j:Nat} (hi:i=u.length) (hj:j=u.length+1+v.length):swq d (u++p::(v++q::w)) i j=u++q::(v++p::w):=by
 subst hi;subst hj
 have e:u++p::(v++q::w)=(u++p::v)++q::w:=by simp
 have hl:u.length+1+v.length=(u++p::v).length:=by simp;omega
 have g1:(u++p::(v++q::w)).getD (u.length+1+v.length) d=q:=by rw [e,hl];exact getD_mid d _ _ _
 have g2:(u++p::(v++q::w)).getD u.length d=p:=getD_mid d _ _ _
 have hl2:u.length+1+v.length=(u++q::v).length:=by simp;omega
 rw [swq,g1,g2,set_mid]
 have e2:u++q::(v++q::w)=(u++q::v)++q::w:=by simp
 rw [e2,hl2,set_mid];simp
theorem swq_next (u:List X) (p q:X) (w:List X) {i j:Nat} (hi:i=u.length) (hj:j=u.length+1):swq d (u++p::q::w) i j=u++q::p::w:=swq_at d u p [] q w hi (by simpa using hj)
theorem swq_next' (u:List X) (p q:X) (w:List X) {i j:Nat} (hi:i=u.length+1) (hj:j=u.length):swq d (u++p::q::w) i j=u++q::p::w:=by
 have h:=swq_next d u p q w hj hi
 rw [←h]
 unfold swq
 by_cases e:i=j
 ·omega
 ·rw [List.set_comm _ _ e]
end
end Go.Proofs.YtmccbkekpjgdbaaGreat
end
section
namespace Go.Proofs.YtmccbkekpjgdbaaGreat
open Go.Bx
section
variable {X Y:Type} {lt:X→X→Bool}
theorem ins_split (w:Swo lt) {S:List X} (hS:Srt lt S) (e:X):∃ A B,S=A++B∧(∀ a,a∈B→lt e a=true)∧(∀ a,a∈A→lt e a=false):=by
 induction S with
 |nil=>exact ⟨[],[],rfl,fun a ha=>by simp at ha,fun a ha=>by simp at ha⟩
 |cons s S ih =>
  obtain ⟨h1,h2⟩:=List.pairwise_cons.1 hS
  cases h:lt e s with
  |true =>
   refine ⟨[],s::S,rfl,fun a ha=>?_,fun a ha=>by simp at ha⟩
   rcases List.mem_cons.1 ha with rfl|ha
   ·exact h
   ·cases h3:lt e a with
    |true=>rfl
    |false=>have:=w.nt e a s h3 (h1 a ha);rw [h] at this;cases this
  |false =>
   obtain ⟨A,B,rfl,h3,h4⟩:=ih h2
   refine ⟨s::A,B,rfl,h3,fun a ha=>?_⟩
   rcases List.mem_cons.1 ha with rfl|ha
   ·exact h
   ·exact h4 a ha
theorem ins_filter (w:Swo lt) (p:X→Bool) {S:List X} (hS:Srt lt S) (e:X):(mrg lt S [e]).filter p=if p e=true then mrg lt (S.filter p) [e] else S.filter p:=by
 obtain ⟨A,B,rfl,h1,h2⟩:=ins_split w hS e
 rw [mrg_ins1 h1 h2,List.filter_append,List.filter_append,List.filter_cons]
 split
 ·rw [mrg_ins1 (fun a ha=>h1 a (List.mem_filter.1 ha).1) (fun a ha=>h2 a (List.mem_filter.1 ha).1)]
 ·rfl
theorem srt_filter (w:Swo lt) (p:X→Bool):∀ (M S:List X),Srt lt S→(srt lt S M).filter p=srt lt (S.filter p) (M.filter p)
 |[],S,_=>by rw [srt,List.filter_nil,srt]
 |e::M,S,hS=>by
  rw [srt,srt_filter w p M _ (mrg_sorted w S [e] hS (List.pairwise_singleton _ _)),ins_filter w p hS,List.filter_cons]
  split
  ·rw [srt]
  ·rfl
theorem srt_map (w:Swo lt) {lt':Y→Y→Bool} {f:X→Y}:∀ (M S:List X),Srt lt S→(∀ a b,a∈S++M→b∈S++M→lt' (f a) (f b)=lt a b)→srt lt' (S.map f) (M.map f)=(srt lt S M).map f
 |[],S,_,_=>by rw [List.map_nil,srt,srt]
 |e::M,S,hS,h=>by
  obtain ⟨A,B,rfl,h1,h2⟩:=ins_split w hS e
  have e1:mrg lt' ((A++B).map f) [f e]=(mrg lt (A++B) [e]).map f:=by
   rw [mrg_ins1 h1 h2,List.map_append,mrg_ins1,List.map_append,List.map_cons]
   ·intro y hy
    obtain ⟨a,ha,rfl⟩:=List.mem_map.1 hy
    rw [h e a (by simp) (by simp [ha])];exact h1 a ha
   ·intro y hy
    obtain ⟨a,ha,rfl⟩:=List.mem_map.1 hy
    rw [h e a (by simp) (by simp [ha])];exact h2 a ha
  rw [List.map_cons,srt,srt,e1,srt_map w M _ (mrg_sorted w (A++B) [e] hS (List.pairwise_singleton _ _))]
  have hm:∀ a,a∈mrg lt (A++B) [e]++M→a∈A++B++e::M:=fun a ha=>by
   rcases List.mem_append.1 ha with ha|ha
   ·have:=(mrg_perm lt (A++B) [e]).mem_iff.1 ha
    rcases List.mem_append.1 this with h|h
    ·exact List.mem_append_left _ h
    ·rw [List.mem_singleton.1 h];simp
   ·simp [ha]
  exact fun a b ha hb=>h a b (hm a ha) (hm b hb)
end
structure Cm where
 id:Int
 po:Int
 pe:Int
 lo:Int
 bk:Int
 ev:Int
instance:Inhabited Cm:=⟨⟨0,0,0,0,0,0⟩⟩
structure Ac where
 bk:Int
 kd:Int
 am:Int
instance:Inhabited Ac:=⟨⟨0,0,0⟩⟩
structure Fi where
 cl:Cm
 ac:List Ac
instance:Inhabited Fi:=⟨⟨default,[]⟩⟩
structure Stp' where
 fi:Nat
 ac:Ac
instance:Inhabited Stp':=⟨⟨0,default⟩⟩
def stepsL:Nat→List Fi→List Stp'
 |_,[]=>[]
 |k,f::r=>f.ac.map (fun a=>⟨k,a⟩)++stepsL (k+1) r
def ltS (s t:Stp'):Bool:=decide (s.ac.bk<t.ac.bk) || (decide (s.ac.bk=t.ac.bk)&&decide (s.fi<t.fi))
theorem ltS_iff {s t:Stp'}:ltS s t=true↔s.ac.bk<t.ac.bk∨(s.ac.bk=t.ac.bk∧s.fi<t.fi):=by
 simp [ltS]
theorem swoS:Swo ltS:=⟨fun a b h=>by
  cases h2:ltS b a with
  |false=>rfl
  |true=>rw [ltS_iff] at *;omega,fun a b c h1 h2=>by
  cases h3:ltS a c with
  |false=>rfl
  |true =>
   have n1:¬ ltS a b=true:=by rw [h1];simp
   have n2:¬ ltS b c=true:=by rw [h2];simp
   rw [ltS_iff] at n1 n2 h3;omega⟩
def sortS (M:List Stp'):List Stp':=srt ltS [] M
theorem sortS_bk (M:List Stp'):(sortS M).Pairwise (fun s t=>s.ac.bk≤t.ac.bk):=by
 have:=srt_sorted swoS M [] List.Pairwise.nil
 refine List.Pairwise.imp ?_ this
 intro a b h
 have n1:¬ ltS b a=true:=by rw [h];simp
 rw [ltS_iff] at n1;omega
structure PS where
 sh:Nat→Int
 pd:Nat→Int
 al:Int
 rows:List (Nat×Int×Int)
def updF (f:Nat→Int) (k:Nat) (v:Int) (i:Nat):Int:=if i=k then v else f i
def stepP (f:Int→Int→Int) (x:PS) (s:Stp'):PS:=
 if s.ac.kd≠2 then x else
  if f (x.sh s.fi+s.ac.am) (x.al-x.pd s.fi)-x.pd s.fi≤0 then { x with sh:=updF x.sh s.fi (x.sh s.fi+s.ac.am) }
  else ⟨updF x.sh s.fi (x.sh s.fi+s.ac.am),updF x.pd s.fi (x.pd s.fi+(f (x.sh s.fi+s.ac.am) (x.al-x.pd s.fi)-x.pd s.fi)),x.al+(f (x.sh s.fi+s.ac.am) (x.al-x.pd s.fi)-x.pd s.fi),
   x.rows++[(s.fi,s.ac.bk,f (x.sh s.fi+s.ac.am) (x.al-x.pd s.fi)-x.pd s.fi)]⟩
def ps0:PS:=⟨fun _=>0,fun _=>0,0,[]⟩
def runP (f:Int→Int→Int) (L:List Stp'):PS:=L.foldl (stepP f) ps0
structure SimP (r:Nat→Nat) (K:Nat→Prop) (x y:PS):Prop where
 sh:∀ k,K k→y.sh (r k)=x.sh k
 pd:∀ k,K k→y.pd (r k)=x.pd k
 al:y.al=x.al
theorem SimP.step {f:Int→Int→Int} {r:Nat→Nat} {K:Nat→Prop} (hr:∀ a b,K a→K b→r a=r b→a=b) {x y:PS} (h:SimP r K x y) {s:Stp'} (hs:K s.fi):SimP r K (stepP f x s) (stepP f y ⟨r s.fi,s.ac⟩):=by
 have u:∀ (g1 g2:Nat→Int),(∀ k,K k→g2 (r k)=g1 k)→∀ v k,K k→updF g2 (r s.fi) v (r k)=updF g1 s.fi v k:=fun g1 g2 hg v k hk=>by
  unfold updF
  by_cases e:k=s.fi
  ·rw [if_pos e,if_pos (by rw [e])]
  ·rw [if_neg e,if_neg fun h=>e (hr k s.fi hk hs h)];exact hg k hk
 unfold stepP
 simp only [h.sh s.fi hs,h.pd s.fi hs,h.al]
 split
 ·exact h
 ·split
  ·exact ⟨u _ _ h.sh _,h.pd,rfl⟩
  ·exact ⟨u _ _ h.sh _,u _ _ h.pd _,rfl⟩
theorem sim_run {f:Int→Int→Int} {r:Nat→Nat} {K:Nat→Prop} (hr:∀ a b,K a→K b→r a=r b→a=b):∀ (L:List Stp') (x y:PS),SimP r K x y→(∀ s,s∈L→K s.fi)→SimP r K (L.foldl (stepP f) x) ((L.map fun s=>(⟨r s.fi,s.ac⟩:Stp')).foldl (stepP f) y)
 |[],x,y,h,_=>h
 |s::L,x,y,h,hL=>by
  rw [List.map_cons,List.foldl_cons,List.foldl_cons]
  exact sim_run hr L _ _ (h.step hr (hL s (by simp))) fun s hs=>hL s (by simp [hs])
theorem step_rows (f:Int→Int→Int) (x:PS) (s:Stp'):∃ R,(stepP f x s).rows=x.rows++R∧(∀ p,p∈R→p.1=s.fi∧p.2.1=s.ac.bk∧0<p.2.2)∧(stepP f x s).al=x.al+(R.map (·.2.2)).sum:=by
 unfold stepP
 split
 ·exact ⟨[],by simp,fun p hp=>by simp at hp,by simp⟩
 ·split
  ·exact ⟨[],by simp,fun p hp=>by simp at hp,by simp⟩
  ·rename_i h1 h2
   refine ⟨_,rfl,fun p hp=>?_,by simp⟩
   rw [List.mem_singleton.1 hp]
   exact ⟨rfl,rfl,by simp only;omega⟩
theorem run_rows (f:Int→Int→Int):∀ (L:List Stp') (x:PS),∃ R,(L.foldl (stepP f) x).rows=x.rows++R∧(∀ p,p∈R→0<p.2.2∧∃ s,s∈L∧p.1=s.fi∧p.2.1=s.ac.bk)∧(L.foldl (stepP f) x).al=x.al+(R.map (·.2.2)).sum
 |[],x=>⟨[],by simp,fun p hp=>by simp at hp,by simp⟩
 |s::L,x=>by
  obtain ⟨R1,h1,h2,h3⟩:=step_rows f x s
  obtain ⟨R2,h4,h5,h6⟩:=run_rows f L (stepP f x s)
  refine ⟨R1++R2,by rw [List.foldl_cons,h4,h1,List.append_assoc],fun p hp=>?_,by rw [List.foldl_cons,h6,h3,List.map_append,List.sum_append];omega⟩
  rcases List.mem_append.1 hp with hp|hp
  ·have:=h2 p hp;exact ⟨this.2.2,s,by simp,this.1,this.2.1⟩
  ·obtain ⟨g1,t,ht,g2⟩:=h5 p hp;exact ⟨g1,t,by simp [ht],g2⟩
def paidBy (R:List (Nat×Int×Int)) (d:Int):Int:=((R.filter fun p=>decide (p.2.1≤d)).map (·.2.2)).sum
theorem run_by (f:Int→Int→Int) (S:List Stp') (hS:S.Pairwise (fun s t=>s.ac.bk≤t.ac.bk)) (d:Int):(runP f (S.filter fun s=>decide (s.ac.bk≤d))).al=paidBy (runP f S).rows d:=by
 have hsp:∀ (S:List Stp'),S.Pairwise (fun s t=>s.ac.bk≤t.ac.bk)→∃ A B,S=A++B∧(∀ s,s∈A→s.ac.bk≤d)∧(∀ s,s∈B→¬ s.ac.bk≤d):=by
  intro S
  induction S with
  |nil=>intro _;exact ⟨[],[],rfl,fun s hs=>by simp at hs,fun s hs=>by simp at hs⟩
  |cons s S ih =>
   intro h
   obtain ⟨h1,h2⟩:=List.pairwise_cons.1 h
   by_cases hb:s.ac.bk≤d
   ·obtain ⟨A,B,rfl,h3,h4⟩:=ih h2
    refine ⟨s::A,B,rfl,fun t ht=>?_,h4⟩
    rcases List.mem_cons.1 ht with rfl|ht
    ·exact hb
    ·exact h3 t ht
   ·refine ⟨[],s::S,rfl,fun t ht=>by simp at ht,fun t ht=>?_⟩
    rcases List.mem_cons.1 ht with rfl|ht
    ·exact hb
    ·have:=h1 t ht;omega
 obtain ⟨A,B,rfl,h1,h2⟩:=hsp S hS
 have e1:(A++B).filter (fun s=>decide (s.ac.bk≤d))=A:=by
  rw [List.filter_append,List.filter_eq_self.2 fun s hs=>decide_eq_true (h1 s hs),List.filter_eq_nil_iff.2 fun s hs=>by simpa using h2 s hs,List.append_nil]
 rw [e1]
 obtain ⟨R1,g1,g2,g3⟩:=run_rows f A ps0
 obtain ⟨R2,g4,g5,-⟩:=run_rows f B (A.foldl (stepP f) ps0)
 have e2:(runP f (A++B)).rows=R1++R2:=by rw [runP,List.foldl_append,g4,g1];rfl
 have e3:R1.filter (fun p=>decide (p.2.1≤d))=R1:=List.filter_eq_self.2 fun p hp=>by
  obtain ⟨-,s,hs,-,h⟩:=g2 p hp
  exact decide_eq_true (by rw [h];exact h1 s hs)
 have e4:R2.filter (fun p=>decide (p.2.1≤d))=[]:=List.filter_eq_nil_iff.2 fun p hp=>by
  obtain ⟨-,s,hs,-,h⟩:=g5 p hp
  have:=h2 s hs
  simp only [decide_eq_true_eq];rw [h];exact this
 rw [paidBy,e2,List.filter_append,e3,e4,List.append_nil,runP,g3]
 simp [ps0]
end Go.Proofs.YtmccbkekpjgdbaaGreat
end
section
namespace Go.Proofs.YtmccbkekpjgdbaaGreat
open Go.Bx
def knownF (d:Int) (f:Fi):Fi:={ f with ac:=f.ac.filter fun a=>decide (a.bk≤d) }
def knownL (l:List Fi) (d:Int):List Fi:=(l.filter fun f=>decide (f.cl.bk≤d)).map (knownF d)
def rnk (l:List Fi) (d:Int) (k:Nat):Nat:=((l.take k).filter fun f=>decide (f.cl.bk≤d)).length
theorem rnk_cons (f:Fi) (r:List Fi) (d:Int) (k:Nat):rnk (f::r) d (k+1)=(if f.cl.bk≤d then 1 else 0)+rnk r d k:=by
 simp only [rnk,List.take_succ_cons,List.filter_cons,decide_eq_true_eq]
 split
 ·rw [List.length_cons];omega
 ·omega
theorem stepsL_mem:∀ {l:List Fi} {k:Nat} {s:Stp'},s∈stepsL k l→k≤s.fi∧∃ f,l[s.fi-k]?=some f∧s.ac∈f.ac
 |[],k,s,h=>by simp [stepsL] at h
 |f::r,k,s,h=>by
  rw [stepsL] at h
  rcases List.mem_append.1 h with h|h
  ·obtain ⟨a,ha,rfl⟩:=List.mem_map.1 h
   exact ⟨Nat.le_refl _,f,by simp,ha⟩
  ·obtain ⟨h1,g,h2,h3⟩:=stepsL_mem h
   refine ⟨by omega,g,?_,h3⟩
   rw [show s.fi-k=(s.fi-(k+1))+1 by omega,List.getElem?_cons_succ];exact h2
def Aft (l:List Fi):Prop:=∀ f,f∈l→∀ a,a∈f.ac→f.cl.bk≤a.bk
theorem steps_known (d:Int):∀ (l:List Fi) (k m:Nat),Aft l→stepsL m (knownL l d)=((stepsL k l).filter fun s=>decide (s.ac.bk≤d)).map fun s=>(⟨m+rnk l d (s.fi-k),s.ac⟩:Stp')
 |[],k,m,_=>by simp [knownL,stepsL]
 |f::r,k,m,h=>by
  have hr:Aft r:=fun g hg=>h g (by simp [hg])
  have tl:∀ (j:Nat) (q:Nat),(∀ i,rnk (f::r) d (i+1)=q+rnk r d i)→((stepsL (k+1) r).filter fun s=>decide (s.ac.bk≤d)).map (fun s=>(⟨j+rnk (f::r) d (s.fi-k),s.ac⟩:Stp'))=((stepsL (k+1) r).filter fun s=>decide (s.ac.bk≤d)).map (fun s=>(⟨(j+q)+rnk r d (s.fi-(k+1)),s.ac⟩:Stp')):=fun j q hq=>by
   refine List.map_congr_left fun s hs=>?_
   have:=(stepsL_mem (List.mem_filter.1 hs).1).1
   rw [show s.fi-k=(s.fi-(k+1))+1 by omega,hq,Nat.add_assoc]
  have hd:∀ ls:List Ac,((ls.map fun a=>(⟨k,a⟩:Stp')).filter fun s=>decide (s.ac.bk≤d)).map (fun s=>(⟨m+rnk (f::r) d (s.fi-k),s.ac⟩:Stp'))=(ls.filter fun a=>decide (a.bk≤d)).map (fun a=>(⟨m,a⟩:Stp')):=by
   intro ls
   induction ls with
   |nil=>rfl
   |cons a ls ih =>
    rw [List.map_cons,List.filter_cons,List.filter_cons]
    by_cases ha:a.bk≤d
    ·simp only [ha,decide_true,if_true,List.map_cons]
     rw [ih];simp [rnk]
    ·simp only [ha,decide_false,Bool.false_eq_true,if_false]
     exact ih
  rw [stepsL,List.filter_append,List.map_append,hd]
  by_cases hb:f.cl.bk≤d
  ·rw [tl m 1 (fun i=>by rw [rnk_cons,if_pos hb]),←steps_known d r (k+1) (m+1) hr]
   have e:knownL (f::r) d=knownF d f::knownL r d:=by simp [knownL,hb]
   rw [e,stepsL]
   rfl
  ·rw [tl m 0 (fun i=>by rw [rnk_cons,if_neg hb]),Nat.add_zero,←steps_known d r (k+1) m hr]
   have e:knownL (f::r) d=knownL r d:=by simp [knownL,hb]
   have e2:f.ac.filter (fun a=>decide (a.bk≤d))=[]:=List.filter_eq_nil_iff.2 fun a ha=>by
    have:=h f (by simp) a ha
    simp;omega
   rw [e,e2];rfl
theorem rnk_lt (d:Int):∀ (l:List Fi) (a b:Nat),a<b→(∃ f,l[a]?=some f∧f.cl.bk≤d)→rnk l d a<rnk l d b
 |[],a,b,_,⟨f,h,_⟩=>by simp at h
 |g::r,a,0,hab,_=>by omega
 |g::r,0,b+1,_,⟨f,h,hf⟩=>by
  simp at h;subst h
  rw [rnk_cons,if_pos hf];simp [rnk];omega
 |g::r,a+1,b+1,hab,⟨f,h,hf⟩=>by
  have:=rnk_lt d r a b (by omega) ⟨f,by simpa using h,hf⟩
  rw [rnk_cons,rnk_cons];omega
theorem known_al (f:Int→Int→Int) (l:List Fi) (h:Aft l) (d:Int):(runP f (sortS (stepsL 0 (knownL l d)))).al=paidBy (runP f (sortS (stepsL 0 l))).rows d:=by
 obtain ⟨K,hK⟩:∃ K:Nat→Prop,K=fun k=>∃ g,l[k]?=some g∧g.cl.bk≤d:=⟨_,rfl⟩
 have inj:∀ a b,K a→K b→rnk l d a=rnk l d b→a=b:=fun a b ha hb e=>by
  rw [hK] at ha hb
  rcases Nat.lt_trichotomy a b with h1|h1|h1
  ·have:=rnk_lt d l a b h1 ha;omega
  ·exact h1
  ·have:=rnk_lt d l b a h1 hb;omega
 obtain ⟨M,hM⟩:∃ M,M=(stepsL 0 l).filter fun s=>decide (s.ac.bk≤d):=⟨_,rfl⟩
 have hMK:∀ s,s∈M→K s.fi:=fun s hs=>by
  rw [hM] at hs
  obtain ⟨h1,h2⟩:=List.mem_filter.1 hs
  obtain ⟨-,g,h3,h4⟩:=stepsL_mem h1
  rw [Nat.sub_zero] at h3
  have:=h g (List.mem_of_getElem? h3) s.ac h4
  rw [hK];exact ⟨g,h3,by simp at h2;omega⟩
 have e1:stepsL 0 (knownL l d)=M.map fun s=>(⟨rnk l d s.fi,s.ac⟩:Stp'):=by
  rw [steps_known d l 0 0 h,←hM]
  simp
 have e2:sortS (stepsL 0 (knownL l d))=(sortS M).map fun s=>(⟨rnk l d s.fi,s.ac⟩:Stp'):=by
  rw [e1,sortS,sortS]
  have:=srt_map (lt':=ltS) (f:=fun s=>(⟨rnk l d s.fi,s.ac⟩:Stp')) swoS M [] List.Pairwise.nil fun a b ha hb=>by
   have ka:=hMK a (by simpa using ha)
   have kb:=hMK b (by simpa using hb)
   rw [hK] at ka kb
   have hlt:rnk l d a.fi<rnk l d b.fi↔a.fi<b.fi:=by
    rcases Nat.lt_trichotomy a.fi b.fi with h1|h1|h1
    ·have:=rnk_lt d l _ _ h1 ka;omega
    ·rw [h1];omega
    ·have:=rnk_lt d l _ _ h1 kb;omega
   simp only [ltS,hlt]
  rwa [List.map_nil] at this
 have e3:sortS M=(sortS (stepsL 0 l)).filter fun s=>decide (s.ac.bk≤d):=by
  rw [sortS,sortS,srt_filter swoS _ _ _ List.Pairwise.nil,←hM];rfl
 have hs:=sim_run (f:=f) inj (sortS M) ps0 ps0 ⟨fun _ _=>rfl,fun _ _=>rfl,rfl⟩ fun s hs=>hMK s (by
  have:=(srt_perm ltS M []).mem_iff.1 hs
  simpa using this)
 rw [e2,runP,hs.al,e3]
 exact run_by f (sortS (stepsL 0 l)) (sortS_bk _) d
end Go.Proofs.YtmccbkekpjgdbaaGreat
end
section
namespace Go.Proofs.YtmccbkekpjgdbaaGreat
open Go.Bx
def vErr (e:Int):V:=.ifc 28 (.d (.int .i64 e))
theorem dTold0 (k:Nat) (e:Int):CtrD Tryz.prog 38 [k] none [(k,.fix [.d (.int .i64 e)])] [(k,.fix [.d (.int .i64 e)])]:=by
 refine ⟨ok38,by simp [keysO],by simp [keysO],fun E0 β w vals pv hE hsz hv hins _=>?_⟩
 obtain ⟨v,rfl⟩:∃ v,vals=#[v]:=by
  match vals,hsz with
  |⟨[v]⟩,_=>exact ⟨v,rfl⟩
 have h1:=hv 0 v k rfl rfl
 obtain ⟨b,rfl,hb⟩:∃ b,v=.pointer (some ⟨b,0,none⟩)∧β k=some (.pointer (some ⟨b,0,none⟩)):=by
  cases h1 with
  |own _ off b h=>exact ⟨b,rfl,h⟩
 refine (callsDIn_of_wpSIn (R:=fun e u' w'=>e=.returned (.tuple #[])∧u'=.returning∧w'=w) Tryz.func38 rfl trivial fun c₀ cs hu=>?_).mono ?_
 ·simp only [modeP] at hu
  apply wpSIn_seq
  apply wpSIn_region
  simp [wpOpsSIn,go_sem,recoverD,hu,Tryz.ntmps38,Exit.thenS]
  apply wpSIn_seq
  apply wpSIn_region
  simp [wpOpsSIn,go_sem,Tryz.ntmps38,Exit.thenS]
  refine wpSIn_cond (t:=false) (by simp [Act.eval,Array.replicate]) ?_
  simp only [Bool.false_eq_true,if_false]
  refine wpSIn_of_wpIn rfl (wpIn_skip ?_)
  cases c₀
  simp_all [bodyPostS,results,Tryz.results38]
 ·rintro e u' w' ⟨rfl,rfl,rfl⟩
  exact ⟨_,rfl,rfl,hins,Keeps.refl _ _⟩
theorem fix_at {E0:Nat→Prop} {β:Names} {w:World} {own:List (Nat×Own)} {k b:Nat} {x:V} (h:OwnsOk E0 β w own) (hk:(k,Own.fix [x])∈own) (hb:β k=some (.pointer (some ⟨b,0,none⟩))) :
  ∃ v e,w.heap[b]?=some (.cells #[v] e (0,0))∧w.cell? ⟨b,0,none⟩=some v∧w.frozen? ⟨b,0,none⟩=false∧RelV β (Eo E0 β own) w v x:=by
 obtain ⟨b',arr,e,h1,h2,h3,h4⟩:=h.ok k _ hk
 rw [hb] at h1
 injection h1 with h1;injection h1 with h1;injection h1 with h1;injection h1 with h1
 subst h1
 match arr,h3 with
 |⟨[v]⟩,_=>exact ⟨v,e,h2,by simp [World.cell?,h2],by simp [World.frozen?,h2],h4 0 v x rfl rfl⟩
theorem set_heap {w:World} {b:Nat} {u v:Value} {e:TypeId} (h:w.heap[b]?=some (.cells #[u] e (0,0))):(w.setCell ⟨b,0,none⟩ v).heap[b]?=some (.cells #[v] e (0,0)):=by
 simp [World.setCell,Array.getElem?_modify,h]
theorem set_other {w:World} {b i:Nat} {v:Value} (h:b≠i):(w.setCell ⟨b,0,none⟩ v).heap[i]?=w.heap[i]?:=by
 simp [World.setCell,Array.getElem?_modify,h]
theorem set_keeps {w:World} {b:Nat} {v:Value} {L:Nat→Prop} (h:L b):Keeps L w (w.setCell ⟨b,0,none⟩ v):=
 ⟨rfl,rfl,rfl,by simp,fun i _ hl=>set_other (fun e=>hl (e▸h))⟩
theorem own_set {E0:Nat→Prop} {β:Names} {w:World} {own:List (Nat×Own)} {k b:Nat} {x:V} (h:OwnsOk E0 β w own) (hk:(k,Own.fix [x])∈own) (hb:β k=some (.pointer (some ⟨b,0,none⟩))) {v:Value} {y:V}
  (hv:RelV β (Eo E0 β own) w v y):OwnsOk E0 β (w.setCell ⟨b,0,none⟩ v) (setO own k (.fix [y])):=by
 obtain ⟨u,e,h1,-,-,-⟩:=fix_at h hk hb
 have hkk:k∈keysO own:=mem_keys hk
 have hE:Eo E0 β (setO own k (.fix [y]))=Eo E0 β own:=Eo_setO_same hkk
 have hbk:β.blk k=some b:=by simp [Names.blk,hb,blkOf]
 have hl:Lasts (Eo E0 β own) (Eo E0 β (setO own k (.fix [y]))) w (w.setCell ⟨b,0,none⟩ v):=fun i hi hn=>by
  rw [hE]
  refine ⟨hn,set_other fun e=>hn (.inr ⟨k,hkk,by rw [hbk,e]⟩)⟩
 have hks:∀ j,j∈keysO (setO own k (.fix [y]))→j∈keysO own:=fun j hj=>by
  obtain ⟨o,ho⟩:=key_iff.1 hj
  rw [own?_setO] at ho
  split at ho
  ·rename_i e;rw [e];exact hkk
  ·exact mem_keys (own?_mem ho)
 refine ⟨fun j o hj=>?_,nodup_setO h.nodup,fun j j' h1 h2=>h.apart j j' (hks j h1) (hks j' h2),fun j hj i hi=>by
  have:=h.lt j (hks j hj) i hi
  simpa using this⟩
 have ho:=mem_own? (nodup_setO h.nodup) hj
 rw [own?_setO] at ho
 split at ho
 ·rename_i e1
  cases ho
  subst e1
  refine ⟨b,#[v],e,hb,set_heap h1,rfl,fun q u' x' hq hx'=>?_⟩
  have:q=0:=by
   have:=(Array.getElem?_eq_some_iff.1 hq).1;simp at this;exact this
  subst this
  cases hq;cases hx'
  exact hv.lasts hl (fun _ _=>rfl)
 ·rename_i e1
  refine (h.ok j o (own?_mem ho)).lasts hl (Names.le.refl β) (fun i hi=>set_other fun e2=>?_)
  exact h.apart j k (mem_keys (own?_mem ho)) hkk e1 i hi (by rw [hbk,e2])
theorem run_tasT {P:Program} {t xt:TypeId} (hr:concB P t=true) (v:Value) (w:World):(Instr.typeAssert (.iface t v) xt t true).run P w=.ok (.tuple #[v,.bool true]) w:=by
 unfold concB at hr
 split at hr
 ·cases hr
 ·rename_i dd hne hdd
  simp only [Instr.typeAssert,Sem.run_bind,run_underlying hdd,Result.andThen_ok]
  split<;>first
   |(rename_i hm;exact absurd (hm▸hdd) (hne _))
   |simp_all
 ·cases hr
theorem dTold1 (k:Nat) (e n:Int):CtrD Tryz.prog 38 [k] (some (vErr n)) [(k,.fix [.d (.int .i64 e)])] [(k,.fix [.d (.int .i64 n)])]:=by
 refine ⟨ok38,by simp [keysO],by simp [keysO],fun E0 β w vals pv hE hsz hv hins hp=>?_⟩
 obtain ⟨v,rfl⟩:∃ v,vals=#[v]:=by
  match vals,hsz with
  |⟨[v]⟩,_=>exact ⟨v,rfl⟩
 have h1:=hv 0 v k rfl rfl
 obtain ⟨b,rfl,hb⟩:∃ b,v=.pointer (some ⟨b,0,none⟩)∧β k=some (.pointer (some ⟨b,0,none⟩)):=by
  cases h1 with
  |own _ off b h=>exact ⟨b,rfl,h⟩
 obtain rfl:pv=.iface 28 (.int .i64 n):=by
  have:=hp _ rfl
  cases this with
  |ifc t v x h=>cases h with|d _ _ h=>cases h;rfl
 obtain ⟨u,ty,g1,g2,g3,-⟩:=fix_at (x:=.d (.int .i64 e)) hins (by simp) hb
 refine (callsDIn_of_wpSIn (R:=fun e u' w'=>e=.returned (.tuple #[])∧u'=.panicking [{ v:=.iface 28 (.int .i64 n),recovered:=true }]∧w'=w.setCell ⟨b,0,none⟩ (.int .i64 n)) Tryz.func38 rfl trivial fun c₀ cs hu=>?_).mono ?_
 ·simp only [modeP] at hu
  apply wpSIn_seq
  apply wpSIn_region
  simp [wpOpsSIn,go_sem,recoverD,hu,Tryz.ntmps38,Exit.thenS]
  apply wpSIn_seq
  apply wpSIn_region
  simp [wpOpsSIn,go_sem,Tryz.ntmps38,Exit.thenS]
  refine wpSIn_cond (t:=true) (by simp [Act.eval,Array.replicate]) ?_
  simp only [if_true]
  apply wpSIn_region
  have q1:=run_tasT (P:=Tryz.prog) (t:=28) (xt:=20) (by kernel_rfl) (.int .i64 n) w
  simp [wpOpsSIn,go_sem,q1,g2,g3,bodyPostS,results,Tryz.results38]
 ·rintro e' u' w' ⟨rfl,rfl,rfl⟩
  refine ⟨_,rfl,rfl,?_,set_keeps ⟨k,by simp [keysO],by simp [Names.blk,hb,blkOf]⟩⟩
  have:=own_set (x:=.d (.int .i64 e)) hins (by simp) hb (v:=.int .i64 n) (y:=.d (.int .i64 n)) (.d _ _ (.int _ _))
  simpa [setO] using this
end Go.Proofs.YtmccbkekpjgdbaaGreat
end
section
namespace Go.Proofs.YtmccbkekpjgdbaaGreat
open Go.Bx
set_option maxRecDepth 10000
theorem wU {a:Int} (h:0≤a∧a≤18446744073709551615):IntKind.u64.wrap a=a:=by rw [IntKind.wrap_u64];omega
def orU (a b:Int):Int:=IntKind.u64.wrap ((BitVec.ofInt IntKind.u64.bits a ||| BitVec.ofInt IntKind.u64.bits b).toNat:Int)
theorem orU_add (a i b:Nat) (h1:a*2 ^ i<18446744073709551616) (h2:b<2 ^ i) (h3:b<18446744073709551616):orU ((a*2 ^ i:Nat):Int) (b:Int)=((a*2 ^ i+b:Nat):Int):=by
 have e0:∀ x:Nat,x<18446744073709551616→(BitVec.ofInt IntKind.u64.bits (x:Int)).toNat=x:=fun x hx=>by simp [IntKind.bits];omega
 have h4:(BitVec.ofInt IntKind.u64.bits ((a*2 ^ i:Nat):Int) ||| BitVec.ofInt IntKind.u64.bits (b:Int)).toNat=a*2 ^ i+b:=by
  rw [BitVec.toNat_or,e0 _ h1,e0 _ h3,←Nat.shiftLeft_eq,Nat.shiftLeft_add_eq_or_of_lt h2]
 have h5:a*2 ^ i+b<18446744073709551616:=by
  rw [←h4];exact (BitVec.ofInt IntKind.u64.bits ((a*2 ^ i:Nat):Int) ||| BitVec.ofInt IntKind.u64.bits (b:Int)).isLt
 rw [orU,h4,wU (by omega)]
theorem fdiv_nat (a b:Nat):(a:Int).fdiv (b:Int)=((a / b:Nat):Int):=by
 cases b with
 |zero=>simp
 |succ b=>rw [Int.fdiv_eq_ediv_of_nonneg _ (by omega)];simp
theorem tdiv_nat (a b:Nat):(a:Int).tdiv (b:Int)=((a / b:Nat):Int):=by
 rw [Int.tdiv_eq_ediv_of_nonneg (by omega)];simp
theorem tmod_nat (a b:Nat):(a:Int).tmod (b:Int)=((a % b:Nat):Int):=by
 rw [Int.tmod_eq_emod_of_nonneg (by omega)];simp
def blen (x:Nat):Nat:=if x=0 then 0 else Nat.log2 x+1
theorem blen_eq {x n:Nat} (h1:2 ^ n≤x) (h2:x<2 ^ (n+1)):blen x=n+1:=by
 have hx:x≠0:=fun e=>by have:=Nat.two_pow_pos n;omega
 rw [blen,if_neg hx,(Nat.log2_eq_iff hx).2 ⟨h1,h2⟩]
theorem blen_spec {x:Nat} (h:x≠0):∃ n,blen x=n+1∧2 ^ n≤x∧x<2 ^ (n+1):=
 ⟨Nat.log2 x,by rw [blen,if_neg h],((Nat.log2_eq_iff h).1 rfl).1,((Nat.log2_eq_iff h).1 rfl).2⟩
theorem blen_shift {x k:Nat} (h:2 ^ k≤x):blen x=blen (x / 2 ^ k)+k:=by
 have h0:0<x / 2 ^ k:=Nat.div_pos h (Nat.two_pow_pos k)
 obtain ⟨n,h1,h2,h3⟩:=blen_spec (x:=x / 2 ^ k) (by omega)
 rw [h1]
 have h4:2 ^ n*2 ^ k≤x:=(Nat.le_div_iff_mul_le (Nat.two_pow_pos k)).1 h2
 have h5:x<2 ^ (n+1)*2 ^ k:=(Nat.div_lt_iff_lt_mul (Nat.two_pow_pos k)).1 h3
 rw [←Nat.pow_add] at h4 h5
 rw [blen_eq (n:=n+k) h4 (by rw [show n+k+1=n+1+k by omega];exact h5)]
 omega
theorem wUn (n:Nat):IntKind.u64.wrap (n:Int)=((n % 18446744073709551616:Nat):Int):=by rw [IntKind.wrap_u64];omega
theorem andN (x:Nat):(BitVec.ofInt IntKind.u64.bits (x:Int) &&& BitVec.ofInt IntKind.u64.bits 4294967295).toNat=x % 4294967296:=by
 rw [BitVec.toNat_and]
 have e1:(BitVec.ofInt IntKind.u64.bits (x:Int)).toNat=x % 18446744073709551616:=by
  simp [IntKind.bits]
 have e2:(BitVec.ofInt IntKind.u64.bits 4294967295).toNat=2 ^ 32-1:=by decide +kernel
 rw [e1,e2,Nat.and_two_pow_sub_one_eq_mod];omega
theorem p32:(2:Int) ^ min 32 IntKind.u64.bits=4294967296:=by decide +kernel
theorem fdivL (n:Nat):(n:Int).fdiv 4294967296=((n / 4294967296:Nat):Int):=fdiv_nat n 4294967296
theorem p16:(2:Int) ^ min 16 IntKind.u64.bits=65536:=by decide +kernel
theorem p8:(2:Int) ^ min 8 IntKind.u64.bits=256:=by decide +kernel
theorem fdivM (n:Nat):(n:Int).fdiv 65536=((n / 65536:Nat):Int):=fdiv_nat n 65536
theorem fdivS (n:Nat):(n:Int).fdiv 256=((n / 256:Nat):Int):=fdiv_nat n 256
theorem sMul64 (x y:Nat) (hx:x<18446744073709551616) (hy:y<18446744073709551616):Ctr Tryz.prog 162 [.d (.int .u64 x),.d (.int .u64 y)] [] (.tup [.d (.int .u64 ((x*y / 18446744073709551616:Nat):Int)),.d (.int .u64 ((x*y % 18446744073709551616:Nat):Int))]) [] []:=by
 refine qP Tryz.func162 fun c hP hfn=>?_;simp only [andN,p32,fdivL,←Int.natCast_mul,←Int.natCast_add,wUn,vcd,↓vcp,seval]
 have hm:=Go.Lib.mul64_hi x y hx hy
 have ha:=Go.Lib.half_mul_le (a:=x / 4294967296) (b:=y / 4294967296) (by omega) (by omega)
 have hb:=Go.Lib.half_mul_le (a:=x / 4294967296) (b:=y % 4294967296) (by omega) (by omega)
 have hc:=Go.Lib.half_mul_le (a:=x % 4294967296) (b:=y / 4294967296) (by omega) (by omega)
 have hd:=Go.Lib.half_mul_le (a:=x % 4294967296) (b:=y % 4294967296) (by omega) (by omega)
 (refine rp (VLe.tups ?_);simp only [rsb,vcd,↓vcp,seval])
 refine ⟨VLe.int (congrArg Int.ofNat ?_),VLe.int rfl,trivial⟩
 have e1:x % 4294967296 % 18446744073709551616=x % 4294967296:=by omega
 have e2:y % 4294967296 % 18446744073709551616=y % 4294967296:=by omega
 rw [e1,e2]
 generalize (x / 4294967296)*(y / 4294967296)=a at *
 generalize (x / 4294967296)*(y % 4294967296)=b at *
 generalize (x % 4294967296)*(y / 4294967296)=c at *
 generalize (x % 4294967296)*(y % 4294967296)=d at *
 generalize x*y / 18446744073709551616=z at *
 omega
def tab:ByteArray:=⟨#[0,1,2,2,3,3,3,3,4,4,4,4,4,4,4,4,5,5,5,5,5,5,5,5,5,5,5,5,5,5,5,5,6,6,6,6,6,6,6,6,6,6,6,6,6,6,6,6,6,6,6,6,6,6,6,6,6,6,6,6,6,6,6,6,7,7,7,7,7,7,7,7,7,7,7,7,7,7,7,7,7,7,7,7,7,7,7,7,7,7,7,7,7,7,7,7,7,7,7,7,7,7,7,7,7,7,7,7,7,7,7,7,7,7,7,7,7,7,7,7,7,7,7,7,7,7,7,7,8,8,8,8,8,8,8,8,8,8,8,8,8,8,8,8,8,8,8,8,8,8,8,8,8,8,8,8,8,8,8,8,8,8,8,8,8,8,8,8,8,8,8,8,8,8,8,8,8,8,8,8,8,8,8,8,8,8,8,8,8,8,8,8,8,8,8,8,8,8,8,8,8,8,8,8,8,8,8,8,8,8,8,8,8,8,8,8,8,8,8,8,8,8,8,8,8,8,8,8,8,8,8,8,8,8,8,8,8,8,8,8,8,8,8,8,8,8,8,8,8,8,8,8,8,8,8,8]⟩
theorem tab_ok:∀ z:Nat,z<256→sAt tab z=((blen z:Nat):Int):=by
 have h:((List.range 256).all fun z=>sAt tab z == ((blen z:Nat):Int))=true:=by decide +kernel
 intro z hz
 exact eq_of_beq (List.all_eq_true.1 h z (by simpa using hz))
theorem u8n {z:Nat} (h:z<256):IntKind.u8.wrap (z:Int)=(z:Int):=by rw [IntKind.wrap_u8];omega
theorem blen_256 {z:Nat} (h:z<256):blen z≤8:=by
 by_cases h0:z=0
 ·subst h0;simp [blen]
 ·obtain ⟨n,h1,h2,h3⟩:=blen_spec h0
  rw [h1]
  have:n<8:=(Nat.pow_lt_pow_iff_right (show 1<2 by omega)).1 (show 2 ^ n<2 ^ 8 by omega)
  omega
theorem sLen64 (x:Nat) (hx:x<18446744073709551616):Ctr Tryz.prog 150 [.d (.int .u64 x)] [] (.d (.int .i64 ((blen x:Nat):Int))) [] []:=by
 refine qP Tryz.func150 fun c hP hfn=>?_;simp only [p32,p16,p8,fdivL,fdivM,fdivS,←Int.natCast_mul,←Int.natCast_add,wUn,vcd,↓vcp,seval]
 repeat' first|refine ⟨fun h=>?_,fun h=>?_⟩|refine aX ?_|fail
 ·simp only [ge_iff_le,decide_eq_true_eq,decide_eq_false_iff_not,Int.not_le] at *
  have hz:x / 4294967296 / 65536 / 256<256:=by omega
  have q32:=blen_shift (x:=x) (k:=32) (by omega)
  rw [show (2:Nat) ^ 32=4294967296 from rfl] at q32
  have q16:=blen_shift (x:=x / 4294967296) (k:=16) (by omega)
  rw [show (2:Nat) ^ 16=65536 from rfl] at q16
  have q8:=blen_shift (x:=x / 4294967296 / 65536) (k:=8) (by omega)
  rw [show (2:Nat) ^ 8=256 from rfl] at q8
  have e:=u8n hz
  have et:=tab_ok _ hz
  have hb:=blen_256 hz
  rw [e]
  refine And.intro ⟨by omega,(show (((x / 4294967296 / 65536 / 256:Nat):Int)<256) by omega)⟩ ?_
  (refine rq ?_;first|exact ⟨⟩|(change IntKind.i64.wrap (_+IntKind.i64.wrap (sAt tab (x / 4294967296 / 65536 / 256)))=_;rw [et,wI (a:=((blen (x / 4294967296 / 65536 / 256):Nat):Int)) (by omega)];rw [q32,q16,q8];generalize blen (x / 4294967296 / 65536 / 256)=w at *;simp only [IntKind.wrap_i64];omega))
 ·simp only [ge_iff_le,decide_eq_true_eq,decide_eq_false_iff_not,Int.not_le] at *
  have hz:x / 4294967296 / 65536<256:=by omega
  have q32:=blen_shift (x:=x) (k:=32) (by omega)
  rw [show (2:Nat) ^ 32=4294967296 from rfl] at q32
  have q16:=blen_shift (x:=x / 4294967296) (k:=16) (by omega)
  rw [show (2:Nat) ^ 16=65536 from rfl] at q16
  have e:=u8n hz
  have et:=tab_ok _ hz
  have hb:=blen_256 hz
  rw [e]
  refine And.intro ⟨by omega,(show (((x / 4294967296 / 65536:Nat):Int)<256) by omega)⟩ ?_
  (refine rq ?_;first|exact ⟨⟩|(change IntKind.i64.wrap (_+IntKind.i64.wrap (sAt tab (x / 4294967296 / 65536)))=_;rw [et,wI (a:=((blen (x / 4294967296 / 65536):Nat):Int)) (by omega)];rw [q32,q16];generalize blen (x / 4294967296 / 65536)=w at *;simp only [IntKind.wrap_i64];omega))
 ·simp only [ge_iff_le,decide_eq_true_eq,decide_eq_false_iff_not,Int.not_le] at *
  have hz:x / 4294967296 / 256<256:=by omega
  have q32:=blen_shift (x:=x) (k:=32) (by omega)
  rw [show (2:Nat) ^ 32=4294967296 from rfl] at q32
  have q8:=blen_shift (x:=x / 4294967296) (k:=8) (by omega)
  rw [show (2:Nat) ^ 8=256 from rfl] at q8
  have e:=u8n hz
  have et:=tab_ok _ hz
  have hb:=blen_256 hz
  rw [e]
  refine And.intro ⟨by omega,(show (((x / 4294967296 / 256:Nat):Int)<256) by omega)⟩ ?_
  (refine rq ?_;first|exact ⟨⟩|(change IntKind.i64.wrap (_+IntKind.i64.wrap (sAt tab (x / 4294967296 / 256)))=_;rw [et,wI (a:=((blen (x / 4294967296 / 256):Nat):Int)) (by omega)];rw [q32,q8];generalize blen (x / 4294967296 / 256)=w at *;simp only [IntKind.wrap_i64];omega))
 ·simp only [ge_iff_le,decide_eq_true_eq,decide_eq_false_iff_not,Int.not_le] at *
  have hz:x / 4294967296<256:=by omega
  have q32:=blen_shift (x:=x) (k:=32) (by omega)
  rw [show (2:Nat) ^ 32=4294967296 from rfl] at q32
  have e:=u8n hz
  have et:=tab_ok _ hz
  have hb:=blen_256 hz
  rw [e]
  refine And.intro ⟨by omega,(show (((x / 4294967296:Nat):Int)<256) by omega)⟩ ?_
  (refine rq ?_;first|exact ⟨⟩|(change IntKind.i64.wrap (_+IntKind.i64.wrap (sAt tab (x / 4294967296)))=_;rw [et,wI (a:=((blen (x / 4294967296):Nat):Int)) (by omega)];rw [q32];generalize blen (x / 4294967296)=w at *;simp only [IntKind.wrap_i64];omega))
 ·simp only [ge_iff_le,decide_eq_true_eq,decide_eq_false_iff_not,Int.not_le] at *
  have hz:x / 65536 / 256<256:=by omega
  have q16:=blen_shift (x:=x) (k:=16) (by omega)
  rw [show (2:Nat) ^ 16=65536 from rfl] at q16
  have q8:=blen_shift (x:=x / 65536) (k:=8) (by omega)
  rw [show (2:Nat) ^ 8=256 from rfl] at q8
  have e:=u8n hz
  have et:=tab_ok _ hz
  have hb:=blen_256 hz
  rw [e]
  refine And.intro ⟨by omega,(show (((x / 65536 / 256:Nat):Int)<256) by omega)⟩ ?_
  (refine rq ?_;first|exact ⟨⟩|(change IntKind.i64.wrap (_+IntKind.i64.wrap (sAt tab (x / 65536 / 256)))=_;rw [et,wI (a:=((blen (x / 65536 / 256):Nat):Int)) (by omega)];rw [q16,q8];generalize blen (x / 65536 / 256)=w at *;simp only [IntKind.wrap_i64];omega))
 ·simp only [ge_iff_le,decide_eq_true_eq,decide_eq_false_iff_not,Int.not_le] at *
  have hz:x / 65536<256:=by omega
  have q16:=blen_shift (x:=x) (k:=16) (by omega)
  rw [show (2:Nat) ^ 16=65536 from rfl] at q16
  have e:=u8n hz
  have et:=tab_ok _ hz
  have hb:=blen_256 hz
  rw [e]
  refine And.intro ⟨by omega,(show (((x / 65536:Nat):Int)<256) by omega)⟩ ?_
  (refine rq ?_;first|exact ⟨⟩|(change IntKind.i64.wrap (_+IntKind.i64.wrap (sAt tab (x / 65536)))=_;rw [et,wI (a:=((blen (x / 65536):Nat):Int)) (by omega)];rw [q16];generalize blen (x / 65536)=w at *;simp only [IntKind.wrap_i64];omega))
 ·simp only [ge_iff_le,decide_eq_true_eq,decide_eq_false_iff_not,Int.not_le] at *
  have hz:x / 256<256:=by omega
  have q8:=blen_shift (x:=x) (k:=8) (by omega)
  rw [show (2:Nat) ^ 8=256 from rfl] at q8
  have e:=u8n hz
  have et:=tab_ok _ hz
  have hb:=blen_256 hz
  rw [e]
  refine And.intro ⟨by omega,(show (((x / 256:Nat):Int)<256) by omega)⟩ ?_
  (refine rq ?_;first|exact ⟨⟩|(change IntKind.i64.wrap (_+IntKind.i64.wrap (sAt tab (x / 256)))=_;rw [et,wI (a:=((blen (x / 256):Nat):Int)) (by omega)];rw [q8];generalize blen (x / 256)=w at *;simp only [IntKind.wrap_i64];omega))
 ·simp only [ge_iff_le,decide_eq_true_eq,decide_eq_false_iff_not,Int.not_le] at *
  have hz:x<256:=by omega
  have e:=u8n hz
  have et:=tab_ok _ hz
  have hb:=blen_256 hz
  rw [e]
  refine And.intro ⟨by omega,(show (((x:Nat):Int)<256) by omega)⟩ ?_
  (refine rq ?_;first|exact ⟨⟩|(change IntKind.i64.wrap (_+IntKind.i64.wrap (sAt tab (x)))=_;rw [et,wI (a:=((blen (x):Nat):Int)) (by omega)];generalize blen (x)=w at *;simp only [IntKind.wrap_i64];omega))
theorem sLZ (x:Nat) (hx:x<18446744073709551616):Ctr Tryz.prog 184 [.d (.int .u64 x)] [] (.d (.int .i64 ((64-blen x:Nat):Int))) [] []:=by
 have hb:blen x≤64:=by
  by_cases h0:x=0
  ·subst h0;simp [blen]
  ·obtain ⟨n,h1,h2,h3⟩:=blen_spec h0
   rw [h1]
   have:n<64:=(Nat.pow_lt_pow_iff_right (show 1<2 by omega)).1 (show 2 ^ n<2 ^ 64 by omega)
   omega
 refine qP Tryz.func184 fun c hP hfn=>?_;simp only [vcd,↓vcp,seval]
 repeat' first|(refine tq hP (h:=⟨_,fun _=>by exact sLen64 x hx,?_⟩);try simp only [vcd,↓vcp,seval])|refine ⟨fun h=>?_,fun h=>?_⟩|refine aX ?_|fail
 (refine rq ?_;first|exact ⟨⟩|(rw [wI (by omega)];omega))
theorem kn_dec {u d v v1 v0 q r:Nat} (hv:v=v1*4294967296+v0) (hu:u<v) (hd:d<4294967296) (e:u=q*v1+r) (hc:4294967296≤q∨4294967296*r+d<q*v0):(u*4294967296+d) / v<q:=by
 rw [Nat.div_lt_iff_lt_mul (by omega)]
 rcases hc with h|h
 ·have h1:4294967296*v≤q*v:=Nat.mul_le_mul_right _ h
  omega
 ·have h1:q*v=q*v1*4294967296+q*v0:=by rw [hv,Nat.mul_add,Nat.mul_assoc]
  omega
theorem kn_le {u d v v1 v0 q r:Nat} (hv:v=v1*4294967296+v0) (h0:0<v) (e:u=q*v1+r) (h:q*v0≤4294967296*r+d):q≤(u*4294967296+d) / v:=by
 rw [Nat.le_div_iff_mul_le h0]
 have h1:q*v=q*v1*4294967296+q*v0:=by rw [hv,Nat.mul_add,Nat.mul_assoc]
 omega
theorem kn_lo {u d v v1 v0:Nat} (hv:v=v1*4294967296+v0) (h1:0<v1) (hd:d<4294967296):(u*4294967296+d) / v≤u / v1:=by
 rw [Nat.le_div_iff_mul_le h1]
 have h2:=Nat.div_mul_le_self (u*4294967296+d) v
 generalize (u*4294967296+d) / v=X at *
 have h3:X*v=X*v1*4294967296+X*v0:=by rw [hv,Nat.mul_add,Nat.mul_assoc]
 generalize X*v1=a at *
 omega
theorem kn_start {u v v1 v0:Nat} (hv:v=v1*4294967296+v0) (h1:2147483648≤v1) (h0:v0<4294967296) (hu:u<v):u / v1≤4294967297:=by
 have:u / v1<4294967298:=by
  rw [Nat.div_lt_iff_lt_mul (by omega)]
  omega
 omega
theorem kn_brk {u d v v1 v0 q r:Nat} (hv:v=v1*4294967296+v0) (h0:v0<4294967296) (hv0:0<v) (e:u=q*v1+r) (hq:q≤4294967296) (hr:4294967296≤r):q≤(u*4294967296+d) / v:=by
 refine kn_le hv hv0 e ?_
 have:q*v0≤4294967296*v0:=Nat.mul_le_mul_right _ hq
 omega
theorem kn_join {u d d0 t p q w z:Nat} (h1:u*4294967296+d=p+w) (h2:w*4294967296+d0=q+z) (ht:t=d*4294967296+d0):u*18446744073709551616+t=p*4294967296+q+z:=by
 rw [ht,show (18446744073709551616:Nat)=4294967296*4294967296 from rfl,←Nat.mul_assoc,←Nat.add_assoc,←Nat.add_mul,h1,Nat.add_mul,Nat.add_assoc,h2,Nat.add_assoc]
theorem g1 (u v1:Nat) (hu:u<18446744073709551616):IntKind.u64.wrap ((u / v1:Nat):Int)=((u / v1:Nat):Int):=by
 rw [wUn,Nat.mod_eq_of_lt (Nat.lt_of_le_of_lt (Nat.div_le_self u v1) hu)]
theorem g2 (u v1:Nat) (hu:u<18446744073709551616):IntKind.u64.wrap (((u / v1:Nat):Int)*(v1:Int))=((u / v1*v1:Nat):Int):=by
 have:=Nat.div_mul_le_self u v1
 rw [←Int.natCast_mul,wU (by omega)]
theorem g3 (u v1:Nat) (hu:u<18446744073709551616):IntKind.u64.wrap ((u:Int)-((u / v1*v1:Nat):Int))=((u % v1:Nat):Int):=by
 have h1:=Nat.div_mul_le_self u v1
 have h2:=Nat.div_add_mod' u v1
 have:u % v1≤u:=Nat.mod_le u v1
 exact (wU (by omega)).trans (by omega)
theorem g4 (u d v q w:Nat) (hw:w<18446744073709551616) (e:u*4294967296+d=q*v+w) :
  IntKind.u64.wrap (IntKind.u64.wrap (IntKind.u64.wrap ((u:Int)*4294967296)+(d:Int))-IntKind.u64.wrap ((q:Int)*(v:Int)))=(w:Int):=by
 rw [←Int.natCast_mul]
 generalize q*v=p at *
 simp only [IntKind.wrap_u64]
 omega
theorem gm (x:Nat):IntKind.u64.wrap ((x % 4294967296:Nat):Int)=((x % 4294967296:Nat):Int):=by rw [wU (by omega)]
structure KnI (u d v v1 v0 q r:Nat):Prop where
 lo:(u*4294967296+d) / v≤q
 hi:q≤4294967297
 e:u=q*v1+r
 r:r<4294967296
theorem kn_cond {d v0 q r:Nat} (hd:d<4294967296) (h0:v0<4294967296) (hr:r<4294967296) :
  ((decide ((q:Int)≥4294967296) || decide (IntKind.u64.wrap ((q:Int)*(v0:Int))>IntKind.u64.wrap (IntKind.u64.wrap (4294967296*(r:Int))+(d:Int))))=true)↔(4294967296≤q∨4294967296*r+d<q*v0):=by
 by_cases hq:4294967296≤q
 ·have:(q:Int)≥4294967296:=by omega
  simp [this,hq]
 ·have h1:q*v0≤4294967295*4294967295:=Nat.mul_le_mul (by omega) (by omega)
  have h2:¬ ((q:Int)≥4294967296):=by omega
  rw [←Int.natCast_mul,wU (a:=((q*v0:Nat):Int)) (by omega),wU (a:=4294967296*(r:Int)) (by omega),wU (by omega)]
  simp only [h2,decide_false,Bool.false_or,decide_eq_true_eq,hq,false_or]
  omega
theorem sDiv64 (hi lo y:Nat) (hh:hi<y) (hl:lo<18446744073709551616) (hy:y<18446744073709551616):Ctr Tryz.prog 163 [.d (.int .u64 hi),.d (.int .u64 lo),.d (.int .u64 y)] []
  (.tup [.d (.int .u64 (((hi*18446744073709551616+lo) / y:Nat):Int)),.d (.int .u64 (((hi*18446744073709551616+lo) % y:Nat):Int))]) [] []:=by
 obtain ⟨n,b1,b2,b3⟩:=blen_spec (x:=y) (by omega)
 have hn:n<64:=(Nat.pow_lt_pow_iff_right (show 1<2 by omega)).1 (show 2 ^ n<2 ^ 64 by omega)
 have hs:64-blen y=63-n:=by omega
 have lz:=sLZ y hy
 rw [hs] at lz
 obtain ⟨sh,hsd⟩:∃ sh,63-n=sh:=⟨_,rfl⟩
 rw [hsd] at lz
 obtain ⟨P,hP2⟩:∃ P,2 ^ sh=P:=⟨_,rfl⟩
 obtain ⟨Q,hQ2⟩:∃ Q,2 ^ (64-sh)=Q:=⟨_,rfl⟩
 have hP0:0<P:=hP2▸Nat.two_pow_pos sh
 have hQ0:0<Q:=hQ2▸Nat.two_pow_pos _
 have hPQ:Q*P=18446744073709551616:=by
  rw [←hP2,←hQ2,←Nat.pow_add,show 64-sh+sh=64 by omega]
 obtain ⟨v,hv⟩:∃ v,y*P=v:=⟨_,rfl⟩
 have v63:9223372036854775808≤v:=by
  have h1:2 ^ n*P≤y*P:=Nat.mul_le_mul_right _ b2
  rw [←hP2,←Nat.pow_add,show n+sh=63 by omega,hP2,hv] at h1
  exact h1
 have v64:v<18446744073709551616:=by
  have h1:y*P<2 ^ (n+1)*P:=Nat.mul_lt_mul_of_pos_right b3 hP0
  rw [←hP2,←Nat.pow_add,show n+1+sh=64 by omega,hP2,hv] at h1
  exact h1
 obtain ⟨g,hg⟩:∃ g,lo / Q=g:=⟨_,rfl⟩
 obtain ⟨t,ht⟩:∃ t,lo*P % 18446744073709551616=t:=⟨_,rfl⟩
 have hgP:g<P:=by
  rw [←hg,Nat.div_lt_iff_lt_mul hQ0,Nat.mul_comm,hPQ];exact hl
 have hlo:lo*P=g*18446744073709551616+t:=by
  have h1:=Nat.div_add_mod (lo*P) 18446744073709551616
  have h2:lo*P / 18446744073709551616=g:=by rw [←hPQ,Nat.mul_div_mul_right _ _ hP0,hg]
  rw [h2,ht] at h1;omega
 obtain ⟨u,hu⟩:∃ u,hi*P+g=u:=⟨_,rfl⟩
 have ht64:t<18446744073709551616:=by rw [←ht];exact Nat.mod_lt _ (by omega)
 have hN:(hi*18446744073709551616+lo)*P=u*18446744073709551616+t:=by
  rw [Nat.add_mul,hlo,←hu,Nat.mul_right_comm];omega
 have huv:u<v:=by
  have h1:(hi*18446744073709551616+lo)<y*18446744073709551616:=by omega
  have h2:(hi*18446744073709551616+lo)*P<y*18446744073709551616*P:=Nat.mul_lt_mul_of_pos_right h1 hP0
  rw [hN,Nat.mul_right_comm,hv] at h2
  omega
 have hhP:hi*P<18446744073709551616:=by omega
 have e1:IntKind.u64.wrap (sh:Int)=(sh:Int):=wU (by omega)
 have e2:(2:Int) ^ min sh IntKind.u64.bits=(P:Int):=by
  rw [show min sh IntKind.u64.bits=sh from Nat.min_eq_left (show sh≤64 by omega),←hP2];simp
 have e3:IntKind.u64.wrap ((y:Int)*(P:Int))=(v:Int):=by rw [←Int.natCast_mul,hv,wU (by omega)]
 have e4:IntKind.u64.wrap ((hi:Int)*(P:Int))=((hi*P:Nat):Int):=by rw [←Int.natCast_mul];exact wU (by omega)
 have e5:IntKind.u64.wrap (64-(sh:Int))=((64-sh:Nat):Int):=(wU (by omega)).trans (by omega)
 have e6:(2:Int) ^ min (64-sh) IntKind.u64.bits=(Q:Int):=by
  rw [show min (64-sh) IntKind.u64.bits=64-sh from Nat.min_eq_left (show 64-sh≤64 by omega),←hQ2];simp
 have e7:(lo:Int).fdiv (Q:Int)=(g:Int):=by rw [fdiv_nat,hg]
 have e8:IntKind.u64.wrap ((BitVec.ofInt IntKind.u64.bits ((hi*P:Nat):Int) ||| BitVec.ofInt IntKind.u64.bits (g:Int)).toNat:Int)=(u:Int):=by
  have:=orU_add hi sh g (by rw [hP2];omega) (by rw [hP2];omega) (by omega)
  rw [hP2,hu] at this
  exact this
 have e9:IntKind.u64.wrap ((lo:Int)*(P:Int))=(t:Int):=by rw [←Int.natCast_mul,wUn,ht]
 refine qP Tryz.func163 fun c hP hfn=>?_;simp only [vcd,↓vcp,seval]
 refine ⟨fun h=>?_,fun h=>?_⟩
 ·exfalso;simp at h;omega
 refine ⟨fun h2=>?_,fun h2=>?_⟩
 ·exfalso;simp at h2;omega
 refine ⟨fun h3=>?_,fun h3=>?_⟩
 ·have h0:hi=0:=by simpa using h3
  subst h0
  repeat' first|refine ⟨fun h=>?_,fun h=>?_⟩|refine aX ?_|fail
  (refine rp (VLe.tups ?_);simp only [rsb,vcd,↓vcp,seval])
  refine ⟨VLe.int ?_,VLe.int ?_,trivial⟩
  ·simp only [tdiv_nat,g1 _ _ hl,Nat.zero_mul,Nat.zero_add]
  ·simp only [tmod_nat,Nat.zero_mul,Nat.zero_add]
 have hv1:v=v / 4294967296*4294967296+v % 4294967296:=by omega
 have hv1b:2147483648≤v / 4294967296:=by omega
 have hv0:v % 4294967296<4294967296:=by omega
 obtain ⟨v1,hv1d⟩:∃ v1,v / 4294967296=v1:=⟨_,rfl⟩
 obtain ⟨v0,hv0d⟩:∃ v0,v % 4294967296=v0:=⟨_,rfl⟩
 obtain ⟨d,hdd⟩:∃ d,t / 4294967296=d:=⟨_,rfl⟩
 obtain ⟨d0,hd0d⟩:∃ d0,t % 4294967296=d0:=⟨_,rfl⟩
 have hd:d<4294967296:=by omega
 have hd0:d0<4294967296:=by omega
 have f1:(v:Int).fdiv 4294967296=(v1:Int):=by rw [fdivL,hv1d]
 have f2:(t:Int).fdiv 4294967296=(d:Int):=by rw [fdivL,hdd]
 have f3:IntKind.u64.wrap ((BitVec.ofInt IntKind.u64.bits (v:Int) &&& BitVec.ofInt IntKind.u64.bits 4294967295).toNat:Int)=(v0:Int):=by rw [andN,gm,hv0d]
 have f4:IntKind.u64.wrap ((BitVec.ofInt IntKind.u64.bits (t:Int) &&& BitVec.ofInt IntKind.u64.bits 4294967295).toNat:Int)=(d0:Int):=by rw [andN,gm,hd0d]
 rw [hv1d,hv0d] at hv1
 rw [hv1d] at hv1b
 rw [hv0d] at hv0
 have hu64:u<18446744073709551616:=by omega
 have f5:IntKind.u64.wrap ((u:Int).tdiv (v1:Int))=((u / v1:Nat):Int):=by rw [tdiv_nat,g1 _ _ hu64]
 have hdiv:∀ q r,KnI u d v v1 v0 q r→(4294967296≤q∨4294967296*r+d<q*v0)→(u*4294967296+d) / v+1≤q:=fun q r h hc=>kn_dec hv1 huv hd h.e hc
 obtain ⟨q1,hq1⟩:∃ q1,(u*4294967296+d) / v=q1:=⟨_,rfl⟩
 obtain ⟨w,hw⟩:∃ w,(u*4294967296+d) % v=w:=⟨_,rfl⟩
 have hwv:w<v:=by rw [←hw];exact Nat.mod_lt _ (by omega)
 have hqw:u*4294967296+d=q1*v+w:=by
  have:=Nat.div_add_mod' (u*4294967296+d) v
  rw [hq1,hw] at this;exact this.symm
 obtain ⟨q0,hq0⟩:∃ q0,(w*4294967296+d0) / v=q0:=⟨_,rfl⟩
 obtain ⟨z,hz⟩:∃ z,(w*4294967296+d0) % v=z:=⟨_,rfl⟩
 have hzv:z<v:=by rw [←hz];exact Nat.mod_lt _ (by omega)
 have hqz:w*4294967296+d0=q0*v+z:=by
  have:=Nat.div_add_mod' (w*4294967296+d0) v
  rw [hq0,hz] at this;exact this.symm
 have hq1b:q1<4294967296:=by rw [←hq1,Nat.div_lt_iff_lt_mul (by omega)];omega
 have hq0b:q0<4294967296:=by rw [←hq0,Nat.div_lt_iff_lt_mul (by omega)];omega
 have hw64:w<18446744073709551616:=by omega
 have hz64:z<18446744073709551616:=by omega
 have f6:=g4 u d v q1 w hw64 hqw
 have f7:=g4 w d0 v q0 z hz64 hqz
 have f8:IntKind.u64.wrap ((w:Int).tdiv (v1:Int))=((w / v1:Nat):Int):=by rw [tdiv_nat,g1 _ _ hw64]
 have hfin:hi*18446744073709551616+lo=(q1*4294967296+q0)*y+z / P∧z / P<y:=by
  have h1:(hi*18446744073709551616+lo)*P=(q1*4294967296+q0)*v+z:=by
   have ht2:t=d*4294967296+d0:=by omega
   have h2:(q1*4294967296+q0)*v=q1*v*4294967296+q0*v:=by rw [Nat.add_mul,Nat.mul_right_comm]
   rw [hN,h2];exact kn_join hqw hqz ht2
  have h3:(hi*18446744073709551616+lo)*P=(q1*4294967296+q0)*y*P+z:=by rw [h1,←hv,Nat.mul_assoc]
  have h4:z=((hi*18446744073709551616+lo)-(q1*4294967296+q0)*y)*P:=by rw [Nat.sub_mul];omega
  have h5:z / P=(hi*18446744073709551616+lo)-(q1*4294967296+q0)*y:=by rw [h4,Nat.mul_div_cancel _ hP0]
  have h6:(q1*4294967296+q0)*y≤hi*18446744073709551616+lo:=Nat.le_of_mul_le_mul_right (by omega) hP0
  refine ⟨by rw [h5];exact (Nat.add_sub_cancel' h6).symm,?_⟩
  rw [Nat.div_lt_iff_lt_mul hP0,hv];exact hzv
 have hqq:(hi*18446744073709551616+lo) / y=q1*4294967296+q0:=by
  rw [hfin.1,Nat.mul_comm _ y,Nat.mul_add_div (by omega),Nat.div_eq_of_lt hfin.2,Nat.add_zero]
 have hrr:(hi*18446744073709551616+lo) % y=z / P:=by
  rw [hfin.1,Nat.mul_comm _ y,Nat.mul_add_mod,Nat.mod_eq_of_lt hfin.2]
 repeat' first|(refine tq hP (h:=⟨_,fun _=>by exact lz,?_⟩);try simp only [p32,e1,e2,e3,e4,e5,e6,e7,e8,e9,f1,f2,f3,f4,f5,g2 u v1 hu64,g3 u v1 hu64,vcd,↓vcp,seval])|refine ⟨fun h=>?_,fun h=>?_⟩|refine aX ?_|fail
 refine vcC.loopX (X:=Nat×Nat) (Y:=Unit) (fun x=>⟨[(2,.d (.int .u64 v)),(8,.d (.int .u64 sh)),(9,.d (.int .u64 v1)),(10,.d (.int .u64 v0)),(11,.d (.int .u64 u)),(13,.d (.int .u64 d)),(14,.d (.int .u64 d0)),(15,.d (.int .u64 x.1)),(16,.d (.int .u64 x.2))],[],[]⟩)
  (fun x=>KnI u d v v1 v0 x.1 x.2) (fun x=>x.1) (u / v1,u % v1)
  (fun _=>⟨[(2,.d (.int .u64 v)),(8,.d (.int .u64 sh)),(9,.d (.int .u64 v1)),(10,.d (.int .u64 v0)),(11,.d (.int .u64 u)),(13,.d (.int .u64 d)),(14,.d (.int .u64 d0)),(15,.d (.int .u64 q1))],[],[]⟩) (fun _=>True)
  ⟨kn_lo hv1 (by omega) hd,kn_start hv1 hv1b hv0 huv,(Nat.div_add_mod' u v1).symm,by have:=Nat.mod_lt u (show 0<v1 by omega);omega⟩ (Wk.of [] hfn rfl (by simp only [enb,vcd,↓vcp,seval]) (by simp only [enb,vcd,↓vcp,seval])) ?_ ?_
 ·rintro ⟨q,r⟩ hk
  simp only at hk
  have hc:=kn_cond (q:=q) hd hv0 hk.r
  simp only [vcd,↓vcp,seval]
  refine ⟨fun h4=>?_,fun h4=>?_⟩
  ·have h5:=hdiv q r hk (hc.1 h4)
   have k1:=hk.e
   have k2:=hk.r
   have k3:=hk.hi
   have c1:IntKind.u64.wrap ((q:Int)-1)=((q-1:Nat):Int):=(wU (by omega)).trans (by omega)
   have c2:IntKind.u64.wrap ((r:Int)+(v1:Int))=((r+v1:Nat):Int):=(wU (by omega)).trans (by omega)
   have c3:u=(q-1)*v1+(r+v1):=by
    have:q*v1=(q-1)*v1+v1:=by
     rw [←Nat.succ_mul];congr 1;omega
    omega
   simp only [c1,c2]
   refine ⟨fun h6=>?_,fun h6=>?_⟩
   ·have h7:4294967296≤r+v1:=by have:=of_decide_eq_true h6;omega
    have h8:=kn_brk (d:=d) hv1 hv0 (by omega) c3 (by omega) h7
    refine ⟨(),Wk.of [] hfn rfl (by simp only [enb,vcd,↓vcp,seval];omega) (by simp only [enb,vcd,↓vcp,seval])⟩
   ·have h7:r+v1<4294967296:=by have:=of_decide_eq_false h6;omega
    exact lopX.on (q-1,r+v1) ⟨by simp only;omega,by simp only;omega,c3,h7⟩ (by simp only;omega) (Wk.of [] hfn rfl (by simp only [enb,vcd,↓vcp,seval]) (by simp only [enb,vcd,↓vcp,seval]))
  ·have h5:¬ (4294967296≤q∨4294967296*r+d<q*v0):=fun e=>by rw [hc.2 e] at h4;cases h4
   have h8:=kn_le (d:=d) hv1 (by omega) hk.e (by omega)
   have h9:=hk.lo
   exact ⟨(),Wk.of [] hfn rfl (by simp only [enb,vcd,↓vcp,seval];omega) (by simp only [enb,vcd,↓vcp,seval])⟩
 ·rintro - -
  simp only [f6,f8,g2 w v1 hw64,g3 w v1 hw64,vcd,↓vcp,seval]
  refine ⟨by omega,?_⟩
  have hdiv2:∀ q r,KnI w d0 v v1 v0 q r→(4294967296≤q∨4294967296*r+d0<q*v0)→(w*4294967296+d0) / v+1≤q:=fun q r h hc=>kn_dec hv1 hwv hd0 h.e hc
  refine vcC.loopX (X:=Nat×Nat) (Y:=Unit) (fun x=>⟨[(2,.d (.int .u64 v)),(8,.d (.int .u64 sh)),(9,.d (.int .u64 v1)),(10,.d (.int .u64 v0)),(14,.d (.int .u64 d0)),(15,.d (.int .u64 q1)),(17,.d (.int .u64 w)),(18,.d (.int .u64 x.1)),(16,.d (.int .u64 x.2))],[],[]⟩)
   (fun x=>KnI w d0 v v1 v0 x.1 x.2) (fun x=>x.1) (w / v1,w % v1)
   (fun _=>⟨[(2,.d (.int .u64 v)),(8,.d (.int .u64 sh)),(14,.d (.int .u64 d0)),(15,.d (.int .u64 q1)),(17,.d (.int .u64 w)),(18,.d (.int .u64 q0))],[],[]⟩) (fun _=>True)
   ⟨kn_lo hv1 (by omega) hd0,kn_start hv1 hv1b hv0 hwv,(Nat.div_add_mod' w v1).symm,by have:=Nat.mod_lt w (show 0<v1 by omega);omega⟩ (Wk.of [] hfn rfl (by simp only [enb,vcd,↓vcp,seval]) (by simp only [enb,vcd,↓vcp,seval])) ?_ ?_
  ·rintro ⟨q,r⟩ hk
   simp only at hk
   have hc:=kn_cond (q:=q) hd0 hv0 hk.r
   simp only [vcd,↓vcp,seval]
   refine ⟨fun h4=>?_,fun h4=>?_⟩
   ·have h5:=hdiv2 q r hk (hc.1 h4)
    have k1:=hk.e
    have k2:=hk.r
    have k3:=hk.hi
    have c1:IntKind.u64.wrap ((q:Int)-1)=((q-1:Nat):Int):=(wU (by omega)).trans (by omega)
    have c2:IntKind.u64.wrap ((r:Int)+(v1:Int))=((r+v1:Nat):Int):=(wU (by omega)).trans (by omega)
    have c3:w=(q-1)*v1+(r+v1):=by
     have:q*v1=(q-1)*v1+v1:=by
      rw [←Nat.succ_mul];congr 1;omega
     omega
    simp only [c1,c2]
    refine ⟨fun h6=>?_,fun h6=>?_⟩
    ·have h7:4294967296≤r+v1:=by have:=of_decide_eq_true h6;omega
     have h8:=kn_brk (d:=d0) hv1 hv0 (by omega) c3 (by omega) h7
     refine ⟨(),Wk.of [] hfn rfl (by simp only [enb,vcd,↓vcp,seval];omega) (by simp only [enb,vcd,↓vcp,seval])⟩
    ·have h7:r+v1<4294967296:=by have:=of_decide_eq_false h6;omega
     exact lopX.on (q-1,r+v1) ⟨by simp only;omega,by simp only;omega,c3,h7⟩ (by simp only;omega) (Wk.of [] hfn rfl (by simp only [enb,vcd,↓vcp,seval]) (by simp only [enb,vcd,↓vcp,seval]))
   ·have h5:¬ (4294967296≤q∨4294967296*r+d0<q*v0):=fun e=>by rw [hc.2 e] at h4;cases h4
    have h8:=kn_le (d:=d0) hv1 (by omega) hk.e (by omega)
    have h9:=hk.lo
    exact ⟨(),Wk.of [] hfn rfl (by simp only [enb,vcd,↓vcp,seval];omega) (by simp only [enb,vcd,↓vcp,seval])⟩
  ·rintro - -
   have f9:(z:Int).fdiv (P:Int)=((z / P:Nat):Int):=fdiv_nat z P
   have f10:IntKind.u64.wrap (IntKind.u64.wrap ((q1:Int)*4294967296)+(q0:Int))=((q1*4294967296+q0:Nat):Int):=by
    rw [wU (a:=(q1:Int)*4294967296) (by omega),wU (by omega)];omega
   simp only [f7,f9,f10,e2,vcd,↓vcp,seval]
   repeat' first|refine ⟨fun h=>?_,fun h=>?_⟩|refine aX ?_|fail
   (refine rq ?_;first|exact ⟨⟩|(rw [hqq,hrr];exact VLe.refl _))
def upE (q r c:Nat):Bool:=decide (c<2*r) || (decide (2*r=c)&&decide (q % 2=1))
def ofR (up:Nat→Nat→Nat→Bool) (a b c:Int):Int×Int:=
 if a<0∨b<0∨c<0 then (0,1)
 else if c=0 then (0,6)
 else if 4000000000000000000<a.toNat*b.toNat / c.toNat then (0,5)
 else if 4000000000000000000<a.toNat*b.toNat / c.toNat+(if up (a.toNat*b.toNat / c.toNat) (a.toNat*b.toNat % c.toNat) c.toNat=true then 1 else 0) then (0,5)
 else (((a.toNat*b.toNat / c.toNat+(if up (a.toNat*b.toNat / c.toNat) (a.toNat*b.toNat % c.toNat) c.toNat=true then 1 else 0):Nat):Int),0)
theorem sOf (g:Nat) (up:Nat→Nat→Nat→Bool) (hg:∀ q r c:Nat,r<c→c<9223372036854775808→Ctr Tryz.prog g [.d (.int .u64 q),.d (.int .u64 r),.d (.int .u64 c)] [] (.d (.bool (up q r c))) [] [])
  (a b k:Int) (ha:a≤9223372036854775807) (hb:b≤9223372036854775807) (hc:k≤9223372036854775807) :
  Ctr Tryz.prog 129 [.ag [.fn (.func g) [] []],.d (.int .i64 a),.d (.int .i64 b),.d (.int .i64 k)] [] (.tup [.d (.int .i64 (ofR up a b k).1),.d (.int .i64 (ofR up a b k).2)]) [] []:=by
 refine qP Tryz.func129 fun c hP hfn=>?_;simp only [vcd,↓vcp,seval]
 refine ⟨fun h1=>?_,fun h1=>?_⟩
 ·have e:ofR up a b k=(0,1):=by
   simp only [Bool.or_eq_true,decide_eq_true_eq] at h1
   rw [ofR,if_pos (by omega)]
  (refine rp (VLe.tups ?_);simp only [rsb,vcd,↓vcp,seval])
  rw [e];exact ⟨VLe.refl _,VLe.refl _,trivial⟩
 have h1:¬ (a<0∨b<0∨k<0):=by
  simp only [Bool.or_eq_false_iff,decide_eq_false_iff_not] at h1;omega
 refine ⟨fun h2=>?_,fun h2=>?_⟩
 ·have h2:k=0:=by simpa using h2
  have e:ofR up a b k=(0,6):=by rw [ofR,if_neg h1,if_pos h2]
  (refine rp (VLe.tups ?_);simp only [rsb,vcd,↓vcp,seval])
  rw [e];exact ⟨VLe.refl _,VLe.refl _,trivial⟩
 have h2:¬ k=0:=by simpa using h2
 obtain ⟨A,rfl⟩:∃ A:Nat,a=(A:Int):=⟨a.toNat,by omega⟩
 obtain ⟨B,rfl⟩:∃ B:Nat,b=(B:Int):=⟨b.toNat,by omega⟩
 obtain ⟨C,rfl⟩:∃ C:Nat,k=(C:Int):=⟨k.toNat,by omega⟩
 have e1:IntKind.u64.wrap (A:Int)=(A:Int):=wU (by omega)
 have e2:IntKind.u64.wrap (B:Int)=(B:Int):=wU (by omega)
 have e3:IntKind.u64.wrap (C:Int)=(C:Int):=wU (by omega)
 have hR:ofR up (A:Int) (B:Int) (C:Int)=(if 4000000000000000000<A*B / C then (0,5) else
   if 4000000000000000000<A*B / C+(if up (A*B / C) (A*B % C) C=true then 1 else 0) then (0,5)
   else (((A*B / C+(if up (A*B / C) (A*B % C) C=true then 1 else 0):Nat):Int),0)):=by
  rw [ofR,if_neg h1,if_neg h2];rfl
 have hm:=Nat.div_add_mod (A*B) 18446744073709551616
 have hml:A*B % 18446744073709551616<18446744073709551616:=Nat.mod_lt _ (by omega)
 have hC0:0<C:=by omega
 simp only [e1,e2,e3]
 repeat' first|(refine tq hP (h:=⟨_,fun _=>by exact sMul64 A B (by omega) (by omega),?_⟩);try simp only [e1,e2,e3,vcd,↓vcp,seval])|refine ⟨fun h=>?_,fun h=>?_⟩|refine aX ?_|fail
 ·have h3:4000000000000000000<A*B / C:=by
   have h:=of_decide_eq_true h
   have h4:C≤A*B / 18446744073709551616:=by omega
   have h5:C*18446744073709551616≤A*B:=by
    have:=(Nat.le_div_iff_mul_le (by omega)).1 h4;exact this
   have h6:18446744073709551616≤A*B / C:=(Nat.le_div_iff_mul_le hC0).2 (by omega)
   omega
  (refine rp (VLe.tups ?_);simp only [rsb,vcd,↓vcp,seval])
  rw [hR,if_pos h3];exact ⟨VLe.refl _,VLe.refl _,trivial⟩
 have hh:A*B / 18446744073709551616<C:=by have:=of_decide_eq_false h;omega
 have hd:=sDiv64 (A*B / 18446744073709551616) (A*B % 18446744073709551616) C hh hml (by omega)
 rw [show A*B / 18446744073709551616*18446744073709551616+A*B % 18446744073709551616=A*B by omega] at hd
 have hrC:A*B % C<C:=Nat.mod_lt _ hC0
 generalize A*B / C=q at *
 generalize A*B % C=r at *
 repeat' first|(refine tq hP (h:=⟨_,fun _=>by first|exact hd|exact hg q r C hrC (by omega),?_⟩);try simp only [e1,e2,e3,vcd,↓vcp,seval])|refine ⟨fun h=>?_,fun h=>?_⟩|refine aX ?_|fail
 ·have h4:4000000000000000000<q:=by have:=of_decide_eq_true h;omega
  (refine rp (VLe.tups ?_);simp only [rsb,vcd,↓vcp,seval])
  rw [hR,if_pos h4];exact ⟨VLe.refl _,VLe.refl _,trivial⟩
 ·rename_i h5 h6
  have h4:¬ 4000000000000000000<q:=by have:=of_decide_eq_false h5;omega
  have e4:IntKind.u64.wrap ((q:Int)+1)=((q+1:Nat):Int):=(wU (by omega)).trans (by omega)
  rw [e4] at h
  have h7:4000000000000000000<q+1:=by have:=of_decide_eq_true h;omega
  (refine rp (VLe.tups ?_);simp only [rsb,vcd,↓vcp,seval])
  rw [hR,if_neg h4,if_pos h6,if_pos h7];exact ⟨VLe.refl _,VLe.refl _,trivial⟩
 ·rename_i h5 h6
  have h4:¬ 4000000000000000000<q:=by have:=of_decide_eq_false h5;omega
  have e4:IntKind.u64.wrap ((q:Int)+1)=((q+1:Nat):Int):=(wU (by omega)).trans (by omega)
  rw [e4] at h
  have h7:¬ 4000000000000000000<q+1:=by have:=of_decide_eq_false h;omega
  (refine rp (VLe.tups ?_);simp only [rsb,vcd,↓vcp,seval])
  rw [hR,if_neg h4,if_pos h6,if_neg h7,e4,wI (a:=((q+1:Nat):Int)) (by omega)];exact ⟨VLe.refl _,VLe.refl _,trivial⟩
 ·rename_i h5 h6
  exfalso;rw [h5] at h;cases h
 ·rename_i h5 h6
  have h4:¬ 4000000000000000000<q:=by have:=of_decide_eq_false h5;omega
  have h8:¬ (up q r C=true):=by rw [h6];simp
  (refine rp (VLe.tups ?_);simp only [rsb,vcd,↓vcp,seval])
  rw [hR,if_neg h4,if_neg h8,Nat.add_zero,if_neg h4,wI (a:=(q:Int)) (by omega)];exact ⟨VLe.refl _,VLe.refl _,trivial⟩
end Go.Proofs.YtmccbkekpjgdbaaGreat
end
section
namespace Go.Proofs.YtmccbkekpjgdbaaGreat
open Go.Bx
set_option maxRecDepth 10000
theorem sUpE (q r c:Nat) (hr:r<c) (hc:c<9223372036854775808):Ctr Tryz.prog 161 [.d (.int .u64 q),.d (.int .u64 r),.d (.int .u64 c)] [] (.d (.bool (upE q r c))) [] []:=by
 have e1:IntKind.u64.wrap ((c:Int)-(r:Int))=((c-r:Nat):Int):=(wU (by omega)).trans (by omega)
 have e2:(q:Int).tmod 2=((q % 2:Nat):Int):=tmod_nat q 2
 refine qP Tryz.func161 fun c hP hfn=>?_;simp only [e1,e2,vcd,↓vcp,seval]
 repeat' first|refine ⟨fun h=>?_,fun h=>?_⟩|refine aX ?_|fail
 (refine rq ?_;first|exact ⟨⟩|(rw [Bool.eq_iff_iff];simp only [upE,Bool.or_eq_true,Bool.and_eq_true,decide_eq_true_eq,beq_iff_eq];omega))
theorem sEvenS:Ctr Tryz.prog 128 [] [] (.ag [.fn (.func 161) [] []]) [] []:=by
 refine qP Tryz.func128 fun c hP hfn=>?_;simp only [vcd,↓vcp,seval]
 exact rr
theorem sEven (a b k:Int) (ha:a≤9223372036854775807) (hb:b≤9223372036854775807) (hc:k≤9223372036854775807) :
  Ctr Tryz.prog 78 [.d (.int .i64 a),.d (.int .i64 b),.d (.int .i64 k)] [] (.tup [.d (.int .i64 (ofR upE a b k).1),.d (.int .i64 (ofR upE a b k).2)]) [] []:=by
 refine qP Tryz.func78 fun c hP hfn=>?_;simp only [vcd,↓vcp,seval]
 repeat' first|(refine tq hP (h:=⟨_,fun _=>by first|exact sEvenS|exact sOf 161 upE sUpE a b k ha hb hc,?_⟩);try simp only [vcd,↓vcp,seval])|refine ⟨fun h=>?_,fun h=>?_⟩|refine aX ?_|fail
 (refine rp (VLe.tups ?_);simp only [rsb,vcd,↓vcp,seval])
 exact ⟨VLe.refl _,VLe.refl _,trivial⟩
def bpR (m bp:Int):Int×Int:=ofR upE m bp 10000
theorem sBp (a b:Int) (ha:a≤9223372036854775807) (hb:b≤9223372036854775807) :
  Ctr Tryz.prog 64 [.d (.int .i64 a),.d (.int .i64 b)] [] (.tup [.d (.int .i64 (bpR a b).1),.d (.int .i64 (bpR a b).2)]) [] []:=by
 refine qP Tryz.func64 fun c hP hfn=>?_;simp only [vcd,↓vcp,seval]
 repeat' first|(refine tq hP (h:=⟨_,fun _=>by exact sEven a b 10000 ha hb (by omega),?_⟩);try simp only [vcd,↓vcp,seval])|refine ⟨fun h=>?_,fun h=>?_⟩|refine aX ?_|fail
 (refine rp (VLe.tups ?_);simp only [rsb,vcd,↓vcp,seval])
 exact ⟨VLe.refl _,VLe.refl _,trivial⟩
end Go.Proofs.YtmccbkekpjgdbaaGreat
end
