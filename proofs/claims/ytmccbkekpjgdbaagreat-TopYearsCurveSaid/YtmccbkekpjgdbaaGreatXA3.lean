import Derived.Test.YtmccbkekpjgdbaaGreatXA2
import Derived.TacticsIn
import Derived.OrdersIn
import Derived.RangeFuncRecord
set_option linter.unusedSimpArgs false
set_option linter.unusedVariables false
section
namespace Go.Bx
open Go.RowKit
structure I where
 dst:Option Nat
 g:Option (Nat×Bool)
 op:O
structure Lg where
 rd:List Nat
 wr:List Nat
structure Stp where
 val:V
 upd:List (Nat×Option Own)
 rd:List Nat
 new:List Nat
def Stp.lg (s:Stp):Lg:={ rd:=s.rd,wr:=s.upd.map (·.1)++s.new }
def St.stp (st:St) (dst:Option Nat) (s:Stp):St:={ env:=setE st.env dst s.val,own:=applyU st.own s.upd,nm:=newN st.nm s.upd }
def X.slots:X→List Nat
 |.t s=>[s]
 |.k _=>[]
def xsSlots:List X→List Nat
 |[]=>[]
 |x::l=>x.slots++xsSlots l
def oxSlots:Option X→List Nat
 |some x=>x.slots
 |none=>[]
def O.slots:O→List Nat
 |.mov x|.box _ x|.load _ _ x|.inv _ x|.conv _ x|.fld _ _ _ x|.fadr _ x|.nilc x|.sidx _ x|.ext _ x|.len x|.isnil _ x|.cap x|.clr _ _ x|.mkifc _ x|.asl _ _ x|.tas _ _ x=>x.slots
 |.pick x y z=>x.slots++(y.slots++z.slots)
 |.alloc _ _=>[]
 |.build _ ps=>xsSlots (ps.map (·.2.2))
 |.bslice _ _ _ xs=>xsSlots xs
 |.store _ x y|.bin _ x y|.beq _ x y|.eqa _ _ _ x y|.shf _ x y|.iadr _ x y|.aadr _ _ x y|.idx _ _ _ x y|.mm _ x y|.mks _ _ _ _ x y|.app _ _ _ x y|.apz _ _ _ _ x y|.cpy _ x y|.lkp _ x y|.lkq _ x y=>x.slots++y.slots
 |.mkmap _=>[]
 |.never=>[]
 |.pnc x=>x.slots
 |.mup x y z=>x.slots++(y.slots++z.slots)
 |.ivk _ x xs=>x.slots++xsSlots xs
 |.mkfn _ xs ys=>xsSlots xs++xsSlots ys
 |.slc _ x a b d=>x.slots++(oxSlots a++(oxSlots b++oxSlots d))
 |.call _ xs=>xsSlots xs
 |.callv x xs=>x.slots++xsSlots xs
def I.slots (i:I):List Nat:=(match i.g with|some (s,_)=>[s]|none=>[])++i.op.slots
structure Cmp (c:Ctx) (ops:Array Oper) (o:Oper) (i:I):Prop where
 dst:o.dst=i.dst
 lt:∀ d,i.dst=some d→d<c.nt
 op:cOp c.P o=some i.op
 mkk:makes i.op=true→i.dst.isSome=true
 st:isStore i.op=true→i.dst=none
 gd:match o.guard with
  |none=>i.g=none
  |some (j,want)=>∃ s,(ops[j]?).bind (·.dst)=some s∧i.g=some (s,want)
def Valid (c:Ctx) (i:I) (st:St) (s:Stp):Prop:=
  ∀ (st1 : St), (∀ k, k ∈ i.slots → get st1.env k = get st.env k) → (∀ k, k ∈ s.rd → own? st1.own k = own? st.own k) → (∀ k, k ∈ s.new → k ∉ st1.nm) →
    ∀ (ops:Array Oper) (o:Oper),Cmp c ops o i→∀ (β:Names) (a:Act) (w:World),Holds c β st1 a w→∀ (Q:Exit→Act→World→Prop) (K:Act→World→Prop),
      (∀ β' a' w',Holds c β' (st1.stp i.dst s) a' w'→K a' w') →
      if Region.wanted o (yielded ops a.tmps) then o.wpIn c.F 0 c.P a w K Q else K (a.put o.dst undef) w
inductive Trace (c:Ctx):St→List I→List Stp→St→Prop where
 |nil (st:St):Trace c st [] [] st
 |cons (st:St) (i:I) (s:Stp) (is:List I) (ss:List Stp) (st':St) (hv:Valid c i st s) (hn:∀ k,k∈s.new→k∉st.nm) (h:Trace c (st.stp i.dst s) is ss st'):Trace c st (i::is) (s::ss) st'
def Wk (c:Ctx) (a b:St):Prop:=∀ β f w,Holds c β a f w→∃ β',Holds c β' b f w
def Panics (c:Ctx) (i:I) (st st1:St) (x:V):Prop:=
 ∀ (ops:Array Oper) (o:Oper),Cmp c ops o i→∀ (β:Names) (a:Act) (w:World),Holds c β st a w→∀ (Q:Exit→Act→World→Prop) (K:Act→World→Prop),
  (∀ β' a' w' v,Holds c β' st1 a' w'→RelV β' (Eo c.E0 β' st1.own) w' v x→Q (.panic [{ v:=v,recovered:=false }]) a' w') →
  Region.wanted o (yielded ops a.tmps)=true∧o.wpIn c.F 0 c.P a w K Q
inductive Walk (c:Ctx) (K:St→Prop):List I→St→Prop where
 |nil (st:St) (h:K st):Walk c K [] st
 |cons (st:St) (i:I) (s:Stp) (is:List I) (hv:Valid c i st s) (hn:∀ k,k∈s.new→k∉st.nm) (h:Walk c K is (st.stp i.dst s)):Walk c K (i::is) st
 |wk (st st1:St) (is:List I) (hw:Wk c st st1) (h:Walk c K is st1):Walk c K is st
 |pan (st st1:St) (i:I) (is:List I) (x:V) (hv:Panics c i st st1 x) (hk:c.pk x st1):Walk c K (i::is) st
def TR (c:Ctx) (b:Bool) (is:List I) (st:St) (acc:List Lg) (K:List Lg→St→Prop):Prop:=
 match b with
 |true=>∃ ss st',Trace c st is ss st'∧K (acc++ss.map Stp.lg) st'
 |false=>Walk c (K acc) is st
theorem TR.nil {c:Ctx} {b:Bool} {st:St} {acc:List Lg} {K:List Lg→St→Prop} (h:K acc st):TR c b [] st acc K:=by
 cases b with
 |true=>exact ⟨[],st,.nil st,by simpa using h⟩
 |false=>exact Walk.nil st h
def lgs (b:Bool) (acc:List Lg) (x:Lg):List Lg:=if b then acc++[x] else acc
theorem TR.cons {c:Ctx} {b:Bool} {i:I} {is:List I} {st:St} {acc:List Lg} {K:List Lg→St→Prop} (s:Stp) (hv:Valid c i st s) (hn:∀ k,k∈s.new→k∉st.nm) (h:TR c b is (st.stp i.dst s) (lgs b acc s.lg) K):TR c b (i::is) st acc K:=by
 cases b with
 |true =>
  obtain ⟨ss,st',h1,h2⟩:=h
  exact ⟨s::ss,st',.cons _ _ _ _ _ _ hv hn h1,by simpa [lgs] using h2⟩
 |false=>exact Walk.cons _ _ _ _ hv hn h
theorem TR.wk {c:Ctx} {is:List I} {st:St} (st1:St) {acc:List Lg} {K:List Lg→St→Prop} (hw:Wk c st st1) (h:TR c false is st1 acc K):TR c false is st acc K:=Walk.wk _ _ _ hw h
theorem Walk.mono {c:Ctx} {K K':St→Prop} (hk:∀ st,K st→K' st) {is:List I} {st:St} (h:Walk c K is st):Walk c K' is st:=by
 induction h with
 |nil st h=>exact .nil st (hk st h)
 |cons st i s is hv hn _ ih=>exact .cons st i s is hv hn ih
 |wk st st1 is hw _ ih=>exact .wk st st1 is hw ih
 |pan st st1 i is x hv hk=>exact .pan st st1 i is x hv hk
theorem TR.mono {c:Ctx} {b:Bool} {is:List I} {st:St} {acc:List Lg} {K K':List Lg→St→Prop} (hk:∀ acc st,K acc st→K' acc st) (h:TR c b is st acc K):TR c b is st acc K':=by
 cases b with
 |true =>
  obtain ⟨ss,st',h1,h2⟩:=h
  exact ⟨ss,st',h1,hk _ _ h2⟩
 |false=>exact Walk.mono (fun st h=>hk _ st h) h
theorem wp_walk {c:Ctx} {ops:Array Oper} {Q:Exit→Act→World→Prop} {K:St→Prop} (hQ:∀ st',K st'→∀ β a w,Holds c β st' a w→Q .normal a w)
    (hp:∀ st' x,c.pk x st'→∀ β a w v,Holds c β st' a w→RelV β (Eo c.E0 β st'.own) w v x→Q (.panic [{ v:=v,recovered:=false }]) a w) :
    ∀ {is : List I} {st : St}, Walk c K is st → ∀ {l : List Oper}, l.length = is.length → (∀ (j : Nat) (o : Oper) (i : I), l[j]? = some o → is[j]? = some i → Cmp c ops o i) →
      ∀ (β:Names) (a:Act) (w:World),Holds c β st a w→wpListIn c.F 0 c.P ops Q l a w:=by
  intro is st h
  induction h with
  |nil st hk =>
    intro l hl _ β a w H
    have:l=[]:=List.eq_nil_of_length_eq_zero (by simpa using hl)
    subst this
    exact hQ st hk β a w H
  |cons st i s is hv hn _ ih =>
    intro l hl hc β a w H
    cases l with
    |nil=>simp at hl
    |cons o l =>
      have h1:=hv st (fun _ _=>rfl) (fun _ _=>rfl) hn ops o (hc 0 o i rfl rfl) β a w H Q
      refine wpListIn_step fun K hK=>?_
      have h2:=h1 K fun β' a' w' H'=>hK a' w' (ih (by simpa using hl) (fun j o i ho hi=>hc (j+1) o i (by simpa using ho) (by simpa using hi)) β' a' w' H')
      by_cases hw:Region.wanted o (yielded ops a.tmps)=true
      · rw [if_pos hw] at h2 ⊢;exact h2
      · rw [if_neg hw] at h2 ⊢;exact ⟨fun _ _=>trivial,h2⟩
  |wk st st1 is hw _ ih =>
    intro l hl hc β a w H
    obtain ⟨β1,H1⟩:=hw β a w H
    exact ih hl hc β1 a w H1
  |pan st st1 i is x hv hk =>
    intro l hl hc β a w H
    cases l with
    |nil=>simp at hl
    |cons o l =>
      refine wpListIn_step fun K hK=>?_
      obtain ⟨h1,h2⟩:=hv ops o (hc 0 o i rfl rfl) β a w H Q K (fun β' a' w' v H' hv=>hp st1 x hk β' a' w' v H' hv)
      rw [if_pos h1];exact h2
theorem run_defer {P:Program} {o:Oper} {ρ:Operand→Value} {cl:Call} (h:o.op=.defer cl) {w w':World} {x:Next} (hr:(execOp ρ o).run P w=.ok x w'):∃ d,x=.defer d:=by
 simp only [execOp,h,Sem.run_bind] at hr
 cases hd:(resolve ρ cl o.type).run P w with
 |ok d w1=>rw [hd] at hr;simp [Result.andThen] at hr;exact ⟨d,hr.1.symm⟩
 |halt y w1=>rw [hd] at hr;simp [Result.andThen] at hr
theorem Oper.wpc_ok {c:Ctx} {o:Oper} {a:Act} {w:World} {K:Act→World→Prop} {Q:Exit→Act→World→Prop} {x:Next} {w':World} (h:(execOp a.eval o).run c.P w=.ok x w') (hx:∀ d,x≠.defer d)
  (hk:o.uponIn c.F 0 c.P a K Q (.ok x w')):o.wpIn c.F 0 c.P a w K Q:=by
 refine ⟨fun _ _=>trivial,?_⟩
 rw [Oper.semAt_eq c.F.round a.eval o (fun cl e=>by obtain ⟨d,hd⟩:=run_defer e h;exact hx d hd),h]
 exact hk
theorem Oper.wp_ok {c:Ctx} {o:Oper} {a:Act} {w:World} {K:Act→World→Prop} {Q:Exit→Act→World→Prop} {v:Value} {w':World}
  (h:(execOp a.eval o).run c.P w=.ok (.value v) w'∨((execOp a.eval o).run c.P w=.ok .skip w'∧v=undef)) (hk:K (a.put o.dst v) w'):o.wpIn c.F 0 c.P a w K Q:=by
 rcases h with h|⟨h,rfl⟩
 ·exact Oper.wpc_ok h (fun d=>by simp) hk
 ·exact Oper.wpc_ok h (fun d=>by simp) hk
theorem Oper.wpc_enter {c:Ctx} {o:Oper} {a:Act} {w:World} {K:Act→World→Prop} {Q:Exit→Act→World→Prop} {f:FuncId} {args:Array Value} {w':World}
  (h:(execOp a.eval o).run c.P w=.ok (.enter f args) w') (hk:Calls c.P f args w' fun|.returned v,w''=>K (a.put o.dst v) w''|.panicked chain,w''=>Q (.panic chain) a w''|.outgrown,_=>LetsOut Q):o.wpIn c.F 0 c.P a w K Q:=
 Oper.wpc_ok h (fun d=>by simp) ⟨fun h=>by simp [Ctx.F,Fence.wide] at h,(callsIn_wide (n:=0)).2 hk⟩
section congr
variable {st st1:St}
theorem evX_congr {x:X} (h:∀ k,k∈x.slots→get st1.env k=get st.env k):evX st1 x=evX st x:=by
 cases x with
 |t s=>exact h s (by simp [X.slots])
 |k v=>rfl
theorem evV_congr {x:X} (h:∀ k,k∈x.slots→get st1.env k=get st.env k):evV st1 x=evV st x:=by unfold evV;rw [evX_congr h]
theorem evS_congr {p:Bool} {x:X} (h:∀ k,k∈x.slots→get st1.env k=get st.env k):evS p st1 x=evS p st x:=by unfold evS;rw [evX_congr h]
theorem evVs_congr:∀ {xs:List X},(∀ k,k∈xsSlots xs→get st1.env k=get st.env k)→evVs st1 xs=evVs st xs
 |[],_=>rfl
 |x::xs,h=>by
  simp only [evVs]
  rw [evV_congr (fun k hk=>h k (by simp [xsSlots,hk])),evVs_congr (fun k hk=>h k (by simp [xsSlots,hk]))]
theorem evSs_congr {p:Bool}:∀ {xs:List X},(∀ k,k∈xsSlots xs→get st1.env k=get st.env k)→evSs p st1 xs=evSs p st xs
 |[],_=>rfl
 |x::xs,h=>by
  simp only [evSs]
  rw [evS_congr (fun k hk=>h k (by simp [xsSlots,hk])),evSs_congr (fun k hk=>h k (by simp [xsSlots,hk]))]
theorem evParts_congr:∀ {ps:List (Nat×Nat×X)},(∀ k,k∈xsSlots (ps.map (·.2.2))→get st1.env k=get st.env k)→evParts st1 ps=evParts st ps
 |[],_=>rfl
 |(a,b,x)::ps,h=>by
  simp only [evParts]
  rw [evV_congr (fun k hk=>h k (by simp [xsSlots,hk])),evParts_congr (fun k hk=>h k (by simp only [List.map_cons,xsSlots,List.mem_append];exact .inr hk))]
theorem evPartsS_congr {p:Bool}:∀ {ps:List (Nat×Nat×X)},(∀ k,k∈xsSlots (ps.map (·.2.2))→get st1.env k=get st.env k)→evPartsS p st1 ps=evPartsS p st ps
 |[],_=>rfl
 |(a,b,x)::ps,h=>by
  simp only [evPartsS]
  rw [evS_congr (fun k hk=>h k (by simp [xsSlots,hk])),evPartsS_congr (fun k hk=>h k (by simp only [List.map_cons,xsSlots,List.mem_append];exact .inr hk))]
end congr
theorem opR_congr {st st1:St} {p:Bool} {d:Nat} {q:O} (hq:isCall q=false) (hs:(opR st p d q).side) (h:∀ k,k∈q.slots→get st1.env k=get st.env k) (hr:∀ k,k∈(opR st p d q).rd→own? st1.own k=own? st.own k)
    (hn:makes q=true→d∉st1.nm):(opR st1 p d q).side∧(opR st1 p d q).val=(opR st p d q).val∧(opR st1 p d q).upd=(opR st p d q).upd∧(opR st1 p d q).rd=(opR st p d q).rd:=by
  cases q<;>simp only [isCall] at hq<;>(try cases hq)<;>simp only [O.slots,List.mem_append] at h
  case mov x =>
    simp only [opR] at *
    rw [evV_congr h,evS_congr h];exact ⟨hs,by simp⟩
  case pick x y z =>
    have h1:∀ k,k∈x.slots→get st1.env k=get st.env k:=fun k hk=>h k (.inl hk)
    have h2:∀ k,k∈y.slots→get st1.env k=get st.env k:=fun k hk=>h k (.inr (.inl hk))
    have h3:∀ k,k∈z.slots→get st1.env k=get st.env k:=fun k hk=>h k (.inr (.inr hk))
    simp only [opR] at hs ⊢
    simp only [evV_congr h1,evV_congr h2,evV_congr h3,evS_congr h1,evS_congr h2,evS_congr h3]
    exact ⟨hs,by simp⟩
  case alloc e cs=>simp only [opR] at *;exact ⟨hn rfl,by simp⟩
  case box e x =>
    simp only [opR] at hs ⊢
    simp only [evV_congr h,evS_congr h]
    split at hs
    · exact ⟨⟨hs.1,hn rfl⟩,by simp⟩
    · exact hs.elim
  case build z ps =>
    simp only [opR] at hs ⊢
    simp only [evParts_congr h,evPartsS_congr h]
    exact ⟨hs,by simp⟩
  case bslice e sz len xs =>
    simp only [opR] at hs ⊢
    simp only [evVs_congr h,evSs_congr h]
    split at hs
    · split at hs
      · exact ⟨⟨hs.1,hn rfl⟩,by simp⟩
      · exact ⟨⟨hs.1,hs.2.1,hn rfl⟩,by simp⟩
    · exact hs.elim
  case load sz agg x =>
    simp only [opR] at hs hr ⊢
    simp only [evV_congr h,evS_congr h]
    split at hs
    · rename_i cs h1
      simp only [h1] at hr ⊢
      exact ⟨hs,by simp⟩
    · rename_i k off h1
      simp only [h1] at hr ⊢
      split at hs
      · rename_i cs h2
        simp only [h2] at hr
        rw [hr k (by simp),h2]
        exact ⟨hs,by simp⟩
      · exact hs.elim
    · rename_i k sz' i off h1
      simp only [h1] at hr ⊢
      split at hs
      · rename_i e0 sz2 n f h2
        simp only [h2] at hr
        rw [hr k (by simp),h2]
        exact ⟨hs,by simp⟩
      · rename_i e1 sz2 n cs h2
        simp only [h2] at hr
        rw [hr k (by simp),h2]
        exact ⟨hs,by simp⟩
      · exact hs.elim
    · exact hs.elim
  case store sz x y =>
    have h1:∀ k,k∈x.slots→get st1.env k=get st.env k:=fun k hk=>h k (.inl hk)
    have h2:∀ k,k∈y.slots→get st1.env k=get st.env k:=fun k hk=>h k (.inr hk)
    simp only [opR] at hs hr ⊢
    simp only [evV_congr h1,evV_congr h2,evS_congr h1,evS_congr h2]
    split at hs
    · rename_i k off ys g1 g2
      simp only [g1,g2] at hr ⊢
      split at hs
      · rename_i cs g3
        simp only [g3] at hr
        rw [hr k (by simp),g3]
        exact ⟨hs,by simp⟩
      · exact hs.elim
    · rename_i k sz' i off ys g1 g2
      simp only [g1,g2] at hr ⊢
      split at hs
      · rename_i e0 sz2 n f ds g3 g4
        simp only [g3,g4] at hr
        rw [hr k (by simp),g3]
        simp only [g4]
        exact ⟨hs,by simp⟩
      · rename_i e1 sz2 n cs g3
        simp only [g3] at hr
        rw [hr k (by simp),g3]
        exact ⟨hs,by simp⟩
      · exact hs.elim
    · exact hs.elim
  case iadr sz x i =>
    have h1:∀ k,k∈x.slots→get st1.env k=get st.env k:=fun k hk=>h k (.inl hk)
    have h2:∀ k,k∈i.slots→get st1.env k=get st.env k:=fun k hk=>h k (.inr hk)
    simp only [opR] at hs hr ⊢
    simp only [evV_congr h1,evV_congr h2,evS_congr h1,evS_congr h2]
    split at hs
    · rename_i g1 g2
      simp only [g1,g2] at hr ⊢
      exact ⟨hs,by simp⟩
    · rename_i k kk m g1 g2
      simp only [g1,g2] at hr ⊢
      split at hs
      · rename_i g3
        simp only [g3] at hr
        rw [hr k (by simp),g3]
        exact ⟨hs,by simp⟩
      · rename_i g3
        simp only [g3] at hr
        rw [hr k (by simp),g3]
        exact ⟨hs,by simp⟩
      · exact hs.elim
    · rename_i g1 g2
      simp only [g1,g2] at hr ⊢
      exact ⟨hs,by simp⟩
    · exact hs.elim
  case len x =>
    simp only [opR] at hs hr ⊢
    simp only [evV_congr h,evS_congr h]
    split at hs
    · rename_i g1
      simp only [g1] at hr ⊢
      exact ⟨hs,by simp⟩
    · rename_i k g1
      simp only [g1] at hr ⊢
      split at hs
      · rename_i g3
        simp only [g3] at hr
        rw [hr k (by simp),g3]
        exact ⟨hs,by simp⟩
      · rename_i g3
        simp only [g3] at hr
        rw [hr k (by simp),g3]
        exact ⟨hs,by simp⟩
      · exact hs.elim
    · rename_i g1
      simp only [g1] at hr ⊢
      exact ⟨hs,by simp⟩
    · exact hs.elim
  case app e sz bytes x y =>
    have h1:∀ k,k∈x.slots→get st1.env k=get st.env k:=fun k hk=>h k (.inl hk)
    have h2:∀ k,k∈y.slots→get st1.env k=get st.env k:=fun k hk=>h k (.inr hk)
    have hn:=hn rfl
    simp only [opR] at hs hr ⊢
    simp only [evV_congr h1,evV_congr h2,evS_congr h1,evS_congr h2]
    split at hs
    · rename_i k fl sz2 m g g1 g2
      simp only [g1,g2] at hr ⊢
      split at hs
      · rename_i g3
        simp only [g3] at hr
        rw [hr k (by simp),g3]
        obtain ⟨a1,a2,a3,a4,a5,a6,a7,_⟩:=hs
        exact ⟨⟨a1,a2,a3,a4,a5,a6,a7,hn⟩,by simp⟩
      · rename_i g3
        simp only [g3] at hr
        rw [hr k (by simp),g3]
        obtain ⟨a1,a2,a3,a4,a5,a6,a7,_⟩:=hs
        exact ⟨⟨a1,a2,a3,a4,a5,a6,a7,hn⟩,by simp⟩
      · exact hs.elim
    · rename_i g1 g2
      simp only [g1,g2] at hr ⊢
      obtain ⟨a1,a2,a3,a4,a5,a6,a7,_⟩:=hs
      exact ⟨⟨a1,a2,a3,a4,a5,a6,a7,hn⟩,by simp⟩
    · rename_i k k2 g1 g2
      simp only [g1,g2] at hr ⊢
      split at hs
      · rename_i g3 g4
        simp only [g3,g4] at hr
        split at hs
        · rename_i ds g5
          simp only [g5] at hr
          rw [hr k (by simp),hr k2 (by simp),g3,g4]
          simp only [g5]
          obtain ⟨a1,a2,a3,a4,a5,a6,a7,a8,_⟩:=hs
          exact ⟨⟨a1,a2,a3,a4,a5,a6,a7,a8,hn⟩,by simp⟩
        · exact hs.elim
      · rename_i g3 g4
        simp only [g3,g4] at hr
        rw [hr k (by simp),hr k2 (by simp),g3,g4]
        obtain ⟨a1,a2,a3,a4,a5,a6,a7,a8,a9,_⟩:=hs
        exact ⟨⟨a1,a2,a3,a4,a5,a6,a7,a8,a9,hn⟩,by simp⟩
      · exact hs.elim
    · rename_i k2 g1 g2
      simp only [g1,g2] at hr ⊢
      split at hs
      · rename_i g4
        simp only [g4] at hr
        split at hs
        · rename_i ds g5
          simp only [g5] at hr
          rw [hr k2 (by simp),g4]
          simp only [g5]
          obtain ⟨a1,a2,a3,a4,a5,a6,a7,a8,_⟩:=hs
          exact ⟨⟨a1,a2,a3,a4,a5,a6,a7,a8,hn⟩,by simp⟩
        · exact hs.elim
      · rename_i g4
        simp only [g4] at hr
        rw [hr k2 (by simp),g4]
        obtain ⟨a1,a2,a3,a4,a5,a6,a7,a8,_⟩:=hs
        exact ⟨⟨a1,a2,a3,a4,a5,a6,a7,a8,hn⟩,by simp⟩
      · exact hs.elim
    · exact hs.elim
  case mkfn f xs ys =>
    have h1:∀ k,k∈xsSlots xs→get st1.env k=get st.env k:=fun k hk=>h k (.inl hk)
    have h2:∀ k,k∈xsSlots ys→get st1.env k=get st.env k:=fun k hk=>h k (.inr hk)
    simp only [opR] at hs ⊢
    simp only [evVs_congr h1,evVs_congr h2,evSs_congr h1,evSs_congr h2]
    exact ⟨hs,by simp⟩
  case mks e sz bytes z x y =>
    have h1:∀ k,k∈x.slots→get st1.env k=get st.env k:=fun k hk=>h k (.inl hk)
    have h2:∀ k,k∈y.slots→get st1.env k=get st.env k:=fun k hk=>h k (.inr hk)
    have hn:=hn rfl
    simp only [opR] at hs ⊢
    simp only [evV_congr h1,evV_congr h2,evS_congr h1,evS_congr h2]
    split at hs
    · obtain ⟨a1,a2,a3,a4,a5,a6,_⟩:=hs
      exact ⟨⟨a1,a2,a3,a4,a5,a6,hn⟩,by simp⟩
    · exact hs.elim
  case slc sz x lo hi mx =>
    have h1:∀ k,k∈x.slots→get st1.env k=get st.env k:=fun k hk=>h k (.inl hk)
    have ho:∀ (y:Option X),(∀ k,k∈oxSlots y→get st1.env k=get st.env k)→y.map (evV st1)=y.map (evV st)∧∀ z,y=some z→evS p st1 z=evS p st z:=fun y hy=>by
      cases y with
      |none=>exact ⟨rfl,fun z hz=>by cases hz⟩
      |some z =>
        have hz:∀ k,k∈z.slots→get st1.env k=get st.env k:=fun k hk=>hy k (by simpa [oxSlots] using hk)
        exact ⟨by simp [evV_congr hz],fun z' e=>by cases e;exact evS_congr hz⟩
    obtain ⟨l1,l2⟩:=ho lo (fun k hk=>h k (.inr (.inl hk)))
    obtain ⟨m1,m2⟩:=ho hi (fun k hk=>h k (.inr (.inr (.inl hk))))
    obtain ⟨n1,n2⟩:=ho mx (fun k hk=>h k (.inr (.inr (.inr hk))))
    have k1:(∀ h,lo=some h→evS p st1 h)=(∀ h,lo=some h→evS p st h):=propext ⟨fun q z hz=>l2 z hz▸q z hz,fun q z hz=>(l2 z hz).symm▸q z hz⟩
    have k2:(∀ h,hi=some h→evS p st1 h)=(∀ h,hi=some h→evS p st h):=propext ⟨fun q z hz=>m2 z hz▸q z hz,fun q z hz=>(m2 z hz).symm▸q z hz⟩
    have k3:(∀ h,mx=some h→evS p st1 h)=(∀ h,mx=some h→evS p st h):=propext ⟨fun q z hz=>n2 z hz▸q z hz,fun q z hz=>(n2 z hz).symm▸q z hz⟩
    simp only [opR] at hs hr ⊢
    simp only [evV_congr h1,evS_congr h1,l1,m1,n1,k1,k2,k3]
    split at hs
    · rename_i g1 g2 g3 g4
      simp only [g1,g2,g3,g4] at hr ⊢
      exact ⟨hs,by simp⟩
    · rename_i g1 g2 g3 g4
      simp only [g1,g2,g3,g4] at hr ⊢
      exact ⟨hs,by simp⟩
    · rename_i g1 g2 g3 g4
      simp only [g1,g2,g3,g4] at hr ⊢
      exact ⟨hs,by simp⟩
    · rename_i k ka aa g1 g2 g3 g4
      simp only [g1,g2,g3,g4] at hr ⊢
      split at hs
      · rename_i g5
        simp only [g5] at hr
        rw [hr k (by simp),g5]
        exact ⟨hs,by simp⟩
      · exact hs.elim
    · rename_i k ka aa g1 g2 g3 g4
      simp only [g1,g2,g3,g4] at hr ⊢
      split at hs
      · rename_i g5
        simp only [g5] at hr
        rw [hr k (by simp),g5]
        exact ⟨hs,by simp⟩
      · exact hs.elim
    · exact hs.elim
  case cpy sz x y =>
    have h1:∀ k,k∈x.slots→get st1.env k=get st.env k:=fun k hk=>h k (.inl hk)
    have h2:∀ k,k∈y.slots→get st1.env k=get st.env k:=fun k hk=>h k (.inr hk)
    simp only [opR] at hs hr ⊢
    simp only [evV_congr h1,evV_congr h2,evS_congr h1,evS_congr h2]
    split at hs
    · rename_i k fl sz2 m g g1 g2
      simp only [g1,g2] at hr ⊢
      split at hs
      · rename_i g3
        simp only [g3] at hr
        rw [hr k (by simp),g3]
        exact ⟨hs,by simp⟩
      · exact hs.elim
    · rename_i k sz1 lo n k2 sz2 lo2 m g1 g2
      simp only [g1,g2] at hr ⊢
      split at hs
      · rename_i g3
        simp only [g3] at hr
        rw [hr k (by simp),g3]
        exact ⟨hs,by simp⟩
      · exact hs.elim
    · exact hs.elim
  case mkmap z=>simp only [opR] at *;exact ⟨hn rfl,by simp⟩
  case never=>simp only [opR,Ef.bad] at hs
  case apz e sz bytes z x y =>
    have h1:∀ k,k∈x.slots→get st1.env k=get st.env k:=fun k hk=>h k (.inl hk)
    have h2:∀ k,k∈y.slots→get st1.env k=get st.env k:=fun k hk=>h k (.inr hk)
    have hn:=hn rfl
    simp only [opR] at hs ⊢
    simp only [evV_congr h1,evV_congr h2,evS_congr h1,evS_congr h2]
    split at hs
    · obtain ⟨a1,a2,a3,a4,a5,_⟩:=hs
      exact ⟨⟨a1,a2,a3,a4,a5,hn⟩,by simp⟩
    · exact hs.elim
  case clr sz z x =>
    simp only [opR] at hs hr ⊢
    simp only [evV_congr h,evS_congr h]
    split at hs
    · rename_i k sz1 lo n g1
      simp only [g1] at hr ⊢
      split at hs
      · rename_i g3
        simp only [g3] at hr
        rw [hr k (by simp),g3]
        exact ⟨hs,by simp⟩
      · exact hs.elim
    · exact hs.elim
  case isnil neg x =>
    simp only [opR] at hs hr ⊢
    simp only [evV_congr h,evS_congr h]
    split at hs
    · rename_i g1
      simp only [g1] at hr ⊢
      exact ⟨hs,by simp⟩
    · rename_i k g1
      simp only [g1] at hr ⊢
      split at hs
      · rename_i g3
        simp only [g3] at hr
        rw [hr k (by simp),g3]
        exact ⟨hs,by simp⟩
      · exact hs.elim
    · exact hs.elim
  case lkp z x y =>
    have h1:∀ k,k∈x.slots→get st1.env k=get st.env k:=fun k hk=>h k (.inl hk)
    have h2:∀ k,k∈y.slots→get st1.env k=get st.env k:=fun k hk=>h k (.inr hk)
    simp only [opR] at hs hr ⊢
    simp only [evV_congr h1,evV_congr h2,evS_congr h1,evS_congr h2]
    split at hs
    · rename_i k kk n g1 g2
      simp only [g1,g2] at hr ⊢
      split at hs
      · rename_i g3
        simp only [g3] at hr
        rw [hr k (by simp),g3]
        exact ⟨hs,by simp⟩
      · exact hs.elim
    · exact hs.elim
  case lkq z x y =>
    have h1:∀ k,k∈x.slots→get st1.env k=get st.env k:=fun k hk=>h k (.inl hk)
    have h2:∀ k,k∈y.slots→get st1.env k=get st.env k:=fun k hk=>h k (.inr hk)
    simp only [opR] at hs hr ⊢
    simp only [evV_congr h1,evV_congr h2,evS_congr h1,evS_congr h2]
    split at hs
    · rename_i k kk n g1 g2
      simp only [g1,g2] at hr ⊢
      split at hs
      · rename_i g3
        simp only [g3] at hr
        rw [hr k (by simp),g3]
        exact ⟨hs,by simp⟩
      · exact hs.elim
    · exact hs.elim
  case mup x y z =>
    have h1:∀ k,k∈x.slots→get st1.env k=get st.env k:=fun k hk=>h k (.inl hk)
    have h2:∀ k,k∈y.slots→get st1.env k=get st.env k:=fun k hk=>h k (.inr (.inl hk))
    have h3:∀ k,k∈z.slots→get st1.env k=get st.env k:=fun k hk=>h k (.inr (.inr hk))
    simp only [opR] at hs hr ⊢
    simp only [evV_congr h1,evV_congr h2,evV_congr h3,evS_congr h1,evS_congr h2,evS_congr h3]
    split at hs
    · rename_i k kk n y' g1 g2 g4
      simp only [g1,g2,g4] at hr ⊢
      split at hs
      · rename_i g3
        simp only [g3] at hr
        rw [hr k (by simp),g3]
        exact ⟨hs,by simp⟩
      · exact hs.elim
    · exact hs.elim
  case mkifc t x =>
    simp only [opR] at hs ⊢
    simp only [evV_congr h,evS_congr h]
    exact ⟨hs,by simp⟩
  all_goals first
    | (simp only [opR] at hs ⊢
       simp only [evV_congr h,evS_congr h]
       exact ⟨hs,by simp⟩)
    | (rename_i x y
       have h1:∀ k,k∈x.slots→get st1.env k=get st.env k:=fun k hk=>h k (.inl hk)
       have h2:∀ k,k∈y.slots→get st1.env k=get st.env k:=fun k hk=>h k (.inr hk)
       simp only [opR] at hs ⊢
       simp only [evV_congr h1,evV_congr h2,evS_congr h1,evS_congr h2]
       exact ⟨hs,by simp⟩)
end Go.Bx
end
section
namespace Go.Bx
open Go.RowKit
theorem makes_upd {st:St} {p:Bool} {d:Nat} {q:O} (hs:(opR st p d q).side) (hm:makes q=true):d∉st.nm:=by
 cases q<;>simp only [makes] at hm<;>(try cases hm)<;>simp only [opR] at hs<;>(repeat' split at hs)<;>simp_all [Ef.bad]
def Ef.stp (e:Ef) (new:List Nat):Stp:={ val:=e.val,upd:=e.upd,rd:=e.rd,new:=new }
def newOf (q:O) (d:Nat):List Nat:=if makes q then [d] else []
section
variable {c:Ctx}
theorem gslots_op {d:Option Nat} {g:Option (Nat×Bool)} {q:O}:∀ k,k∈q.slots→k∈(I.slots ⟨d,g,q⟩):=fun k hk=>by simp [I.slots,hk]
theorem valid_op {d:Option Nat} {q:O} {st:St} (hq:isCall q=false) (hs:(opR st true (d.getD 0) q).side):Valid c ⟨d,none,q⟩ st ((opR st true (d.getD 0) q).stp (newOf q (d.getD 0))):=by
 intro st1 h1 h2 h3 ops o hc β a w H Q K hK
 have hcg:=hc.gd
 have hg:o.guard=none:=by
  cases hg:o.guard with
  |none=>rfl
  |some jw=>simp only [hg] at hcg;obtain ⟨s,_,h⟩:=hcg;cases h
 rw [if_pos (by simp [Region.wanted,hg])]
 have hn:makes q=true→d.getD 0∉st1.nm:=fun hm=>h3 _ (by simp [Ef.stp,newOf,hm])
 obtain ⟨g1,g2,g3,g4⟩:=opR_congr hq hs (fun k hk=>h1 k (gslots_op k hk)) h2 hn
 have hdst:=hc.dst
 obtain ⟨v,w',β',hr,_,H'⟩:=op_ok hc.op H (fun d hd=>hc.lt d (hdst▸hd)) (fun hm=>hdst▸hc.mkk hm) (fun hm=>hdst▸hc.st hm) hq (by rw [hdst];exact g1)
 refine Oper.wp_ok hr (hK β' _ w' ?_)
 simp only at hdst
 rw [hdst] at H' ⊢
 simpa [St.app,St.stp,Ef.stp,g2,g3] using H'
def gOf (env:List (Nat×V)) (s:Nat) (want:Bool):Option Bool:=
 match get env s with
 |.d (.bool b)=>some (if want then b else !b)
 |.gd g (.d (.bool b))=>some (g&&(if want then b else !b))
 |_=>none
theorem wanted_ok {β:Names} {st:St} {a:Act} {w:World} (H:Holds c β st a w) {ops:Array Oper} {o:Oper} {j s:Nat} {want gc:Bool} (hg:o.guard=some (j,want)) (hj:(ops[j]?).bind (·.dst)=some s) (h:gOf st.env s want=some gc) :
  Region.wanted o (yielded ops a.tmps)=gc:=by
 have hr:=H.env s
 have hy:∀ b,a.tmps.getD s undef=.bool b→yielded ops a.tmps j=some b:=fun b hb=>by
  unfold yielded
  rw [hj]
  have:a.tmps[s]?=some (.bool b):=by
   simp only [Array.getD_eq_getD_getElem?] at hb
   cases h2:a.tmps[s]? with
   |none=>simp [h2,undef] at hb
   |some v=>simp [h2] at hb;rw [hb]
  simp [this]
 have hn:a.tmps.getD s undef=undef→yielded ops a.tmps j=none:=fun hb=>by
  unfold yielded
  rw [hj]
  simp only [Array.getD_eq_getD_getElem?] at hb
  cases h2:a.tmps[s]? with
  |none=>simp [h2]
  |some v=>simp [h2,undef] at hb;subst hb;simp [h2]
 unfold gOf at h
 unfold Region.wanted
 rw [hg]
 simp only
 generalize a.tmps.getD s undef=u at *
 split at h
 ·rename_i b hb
  rw [hb] at hr
  rw [hy b (rel_bool hr)]
  simp at h
  subst h
  cases want<;>cases b<;>rfl
 ·rename_i g b hb
  rw [hb] at hr
  simp at h
  subst h
  cases hr with
  |gd _ _ _ q1 q2 =>
   cases g with
   |true =>
    rw [hy b (rel_bool (q1 rfl))]
    cases want<;>cases b<;>rfl
   |false =>
    rw [hn (q2 rfl)]
    rfl
 ·cases h
theorem valid_gd {d:Option Nat} {s:Nat} {want gc:Bool} {q:O} {st:St} (hq:isCall q=false) (hg:gOf st.env s want=some gc) (hs:gc=true→(opR st gc (d.getD 0) q).side) (hu:(opR st true (d.getD 0) q).upd=[]) :
  Valid c ⟨d,some (s,want),q⟩ st { val:=.gd gc (opR st true (d.getD 0) q).val,upd:=[],rd:=(opR st true (d.getD 0) q).rd,new:=newOf q (d.getD 0) }:=by
 intro st1 h1 h2 h3 ops o hc β a w H Q K hK
 have hcg:=hc.gd
 obtain ⟨j,hgo,hj⟩:∃ j,o.guard=some (j,want)∧(ops[j]?).bind (·.dst)=some s:=by
  cases hgo:o.guard with
  |none=>simp only [hgo] at hcg;cases hcg
  |some jw =>
   obtain ⟨j,w'⟩:=jw
   simp only [hgo] at hcg
   obtain ⟨s',hs',e⟩:=hcg
   injection e with e;injection e with e1 e2
   exact ⟨j,by rw [e2],by rw [hs',e1]⟩
 have hg1:gOf st1.env s want=some gc:=by
  unfold gOf at hg ⊢
  rw [h1 s (by simp [I.slots])]
  exact hg
 have hw:=wanted_ok H hgo hj hg1
 rw [hw]
 have hdst:=hc.dst
 simp only at hdst
 cases gc with
 |true =>
  rw [if_pos rfl]
  obtain ⟨g1,g2,g3,g4⟩:=opR_congr (st1:=st1) hq (hs rfl) (fun k hk=>h1 k (gslots_op k hk)) h2 (fun hm=>h3 _ (by simp [newOf,hm]))
  obtain ⟨v,w',β',hr,_,H'⟩:=op_ok hc.op H (fun d hd=>hc.lt d (hdst▸hd)) (fun hm=>hdst▸hc.mkk hm) (fun hm=>hdst▸hc.st hm) hq (by rw [hdst];exact g1)
  refine Oper.wp_ok hr (hK β' _ w' ?_)
  rw [hdst] at H' ⊢
  simp only [St.app,g2,g3,hu,applyU,newN] at H'
  simp only [St.stp,applyU,newN]
  cases d with
  |none=>exact H'
  |some d' =>
   simp only [setE] at H' ⊢
   refine ⟨H'.sz,H'.df,fun s'=>?_,H'.own,H'.fr,H'.kn,H'.nm,H'.kp,H'.fx⟩
   have h5:=H'.env s'
   simp only [get] at h5 ⊢
   split
   ·rename_i e
    rw [if_pos e] at h5
    exact .gd _ _ _ (fun _=>h5) (fun h=>by cases h)
   ·rename_i e
    rw [if_neg e] at h5
    exact h5
 |false =>
  rw [if_neg (by simp)]
  refine hK β _ w ?_
  rw [hdst]
  simp only [St.stp,applyU,newN]
  cases d with
  |none=>exact H
  |some d'=>exact H.setV (hc.lt d' rfl) (.gd _ _ _ (fun h=>by cases h) (fun _=>rfl))
end
end Go.Bx
end
section
namespace Go.Bx
open Go.RowKit
def okF (P:Program) (f:FuncId):Bool:=
 match P.funcs[f]? with
 |some fn=>fn.name != "runtime.NumGoroutine"&&fn.body.isSome
 |none=>false
def Ctr (P:Program) (f:FuncId) (args:List V) (ins:List (Nat×Own)) (res:V) (outs:List (Nat×Own)) (new:List Nat):Prop:=
  okF P f=true∧(∀ k,k∈keysO outs→k∈keysO ins∨k∈new)∧(∀ k,k∈new→k∈keysO outs) ∧
  ∀ (E0 : Nat → Prop) (β : Names) (w : World) (vals : Array Value), (∀ b, E0 b → b < w.heap.size) → vals.size = args.length →
    (∀ (j:Nat) (v:Value) (x:V),vals[j]?=some v→args[j]?=some x→RelV β (Eo E0 β ins) w v x)→OwnsOk E0 β w ins→(∀ k,k∈new→β k=none) →
    Calls P f vals w fun e w'=>∃ v β',e=.returned v∧β.le β'∧(∀ k,k∉new→β' k=β k)∧RelV β' (Eo E0 β' outs) w' v res∧OwnsOk E0 β' w' outs∧Keeps (ownB β ins) w w' ∧
      (∀ k,k∈keysO outs→∀ b,β'.blk k=some b→w.heap.size≤b∨ownB β ins b)
theorem own?_setO (l:List (Nat×Own)) (k:Nat) (o:Own) (k1:Nat):own? (setO l k o) k1=if k1=k then some o else own? l k1:=by
 induction l with
 |nil =>
  simp only [setO,own?]
  by_cases h:k=k1
  ·rw [if_pos h,if_pos h.symm]
  ·rw [if_neg h,if_neg (fun e=>h e.symm)]
 |cons p l ih =>
  obtain ⟨k',o'⟩:=p
  simp only [setO]
  by_cases h:k'=k
  ·subst h
   rw [if_pos rfl]
   simp only [own?]
   by_cases h2:k'=k1
   ·subst h2;simp
   ·rw [if_neg h2,if_neg (fun e=>h2 e.symm),if_neg h2]
  ·rw [if_neg h]
   simp only [own?,ih]
   by_cases h2:k'=k1
   ·subst h2;rw [if_pos rfl,if_neg h,if_pos rfl]
   ·rw [if_neg h2,if_neg h2]
theorem own?_none {l:List (Nat×Own)} {k:Nat} (h:k∉keysO l):own? l k=none:=by
 cases he:own? l k with
 |none=>rfl
 |some o=>exact absurd (mem_keys (own?_mem he)) h
theorem own?_delO {l:List (Nat×Own)} (hn:(keysO l).Nodup) (k k1:Nat):own? (delO l k) k1=if k1=k then none else own? l k1:=by
 induction l with
 |nil=>simp [delO,own?]
 |cons p l ih =>
  obtain ⟨k',o'⟩:=p
  simp only [keysO,List.map_cons,List.nodup_cons] at hn
  simp only [delO]
  by_cases h:k'=k
  ·subst h
   rw [if_pos rfl]
   simp only [own?]
   by_cases h2:k'=k1
   ·subst h2;rw [if_pos rfl];exact own?_none hn.1
   ·rw [if_neg h2,if_neg (fun e=>h2 e.symm)]
  ·rw [if_neg h]
   simp only [own?,ih hn.2]
   by_cases h2:k'=k1
   ·subst h2;rw [if_pos rfl,if_neg h,if_pos rfl]
   ·rw [if_neg h2,if_neg h2]
theorem key_iff {l:List (Nat×Own)} {k:Nat}:k∈keysO l↔∃ o,own? l k=some o:=by
 constructor
 ·intro h
  induction l with
  |nil=>simp [keysO] at h
  |cons p l ih =>
   obtain ⟨k',o'⟩:=p
   simp only [own?]
   by_cases e:k'=k
   ·exact ⟨o',by rw [if_pos e]⟩
   ·simp only [keysO,List.map_cons,List.mem_cons] at h
    obtain ⟨o,ho⟩:=ih (h.resolve_left (fun x=>e x.symm))
    exact ⟨o,by rw [if_neg e];exact ho⟩
 ·rintro ⟨o,ho⟩
  exact mem_keys (own?_mem ho)
def callU (ins outs:List (Nat×Own)):List (Nat×Option Own):=ins.map (fun p=>(p.1,none))++outs.map (fun p=>(p.1,some p.2))
theorem nodup_applyU:∀ (u:List (Nat×Option Own)) {l:List (Nat×Own)},(keysO l).Nodup→(keysO (applyU l u)).Nodup
 |[],_,h=>h
 |(_,some _)::u,_,h=>nodup_applyU u (nodup_setO h)
 |(_,none)::u,_,h=>nodup_applyU u (nodup_delO h)
theorem applyU_app:∀ (u v:List (Nat×Option Own)) (l:List (Nat×Own)),applyU l (u++v)=applyU (applyU l u) v
 |[],_,_=>rfl
 |(_,some _)::u,v,_=>applyU_app u v _
 |(_,none)::u,v,_=>applyU_app u v _
theorem applyU_dels:∀ (ins:List (Nat×Own)) {l:List (Nat×Own)},(keysO l).Nodup→∀ k,own? (applyU l (ins.map fun p=>(p.1,none))) k=if k∈keysO ins then none else own? l k
 |[],l,_,k=>by simp [applyU,keysO]
 |(k0,o)::ins,l,h,k=>by
  simp only [List.map_cons,applyU]
  rw [applyU_dels ins (nodup_delO h),own?_delO h]
  simp only [keysO,List.map_cons,List.mem_cons]
  by_cases h1:k∈List.map (fun x=>x.1) ins
  ·simp [h1]
  ·by_cases h2:k=k0
   ·subst h2;simp [h1]
   ·simp [h1,h2]
theorem applyU_sets:∀ (outs:List (Nat×Own)) (l:List (Nat×Own)),(keysO outs).Nodup→∀ k,own? (applyU l (outs.map fun p=>(p.1,some p.2))) k=match own? outs k with|some o=>some o|none=>own? l k
 |[],l,_,k=>by simp [applyU,own?]
 |(k0,o)::outs,l,h,k=>by
  simp only [keysO,List.map_cons,List.nodup_cons] at h
  simp only [List.map_cons,applyU]
  rw [applyU_sets outs _ h.2,own?_setO]
  simp only [own?]
  by_cases h2:k0=k
  ·subst h2
   rw [if_pos rfl,own?_none h.1]
   simp
  ·rw [if_neg h2,if_neg (fun e=>h2 e.symm)]
theorem own?_call {l ins outs:List (Nat×Own)} (hl:(keysO l).Nodup) (ho:(keysO outs).Nodup) (k:Nat) :
  own? (applyU l (callU ins outs)) k=match own? outs k with|some o=>some o|none=>if k∈keysO ins then none else own? l k:=by
 unfold callU
 rw [applyU_app,applyU_sets outs _ ho,applyU_dels ins hl]
theorem newN_mem (u:List (Nat×Option Own)):∀ (nm:List Nat) (k:Nat),k∈newN nm u↔k∈nm∨∃ o,(k,some o)∈u:=by
 induction u with
 |nil=>simp [newN]
 |cons p u ih =>
  obtain ⟨k0,o⟩:=p
  intro nm k
  cases o with
  |none=>simp only [newN,ih];simp
  |some o =>
   simp only [newN,ih]
   by_cases h:k0∈nm
   ·rw [if_pos h]
    constructor
    ·rintro (h1|⟨o',h1⟩)
     ·exact .inl h1
     ·exact .inr ⟨o',by simp [h1]⟩
    ·rintro (h1|⟨o',h1⟩)
     ·exact .inl h1
     ·rcases List.mem_cons.1 h1 with h1|h1
      ·simp at h1;exact .inl (h1.1▸h)
      ·exact .inr ⟨o',h1⟩
   ·rw [if_neg h]
    constructor
    ·rintro (h1|⟨o',h1⟩)
     ·rcases List.mem_cons.1 h1 with h1|h1
      ·exact .inr ⟨o,by simp [h1]⟩
      ·exact .inl h1
     ·exact .inr ⟨o',by simp [h1]⟩
    ·rintro (h1|⟨o',h1⟩)
     ·exact .inl (by simp [h1])
     ·rcases List.mem_cons.1 h1 with h1|h1
      ·simp at h1;exact .inl (by simp [h1.1])
      ·exact .inr ⟨o',h1⟩
theorem run_callFunc {P:Program} {f:FuncId} {w:World} (h:okF P f=true) (args:Array Value):(callFunc f args).run P w=.ok (.enter f args) w:=by
 unfold okF at h
 split at h
 ·rename_i fn hf
  simp at h
  have h2:fn.body≠none:=fun e=>by simp [e] at h
  simp [callFunc,hf,h.1,h2]
 ·cases h
section
variable {c:Ctx} {β:Names} {a:Act} {w:World}
theorem call_state {st1:St} (H:Holds c β st1 a w) {ins outs:List (Nat×Own)} {new:List Nat} {β':Names} {w':World} (hin:∀ k o,(k,o)∈ins→own? st1.own k=some o) (hnew:∀ k,k∈new→k∉st1.nm) (hno:∀ k,k∈new→k∈keysO outs)
  (hβ:β.le β') (hfr:∀ k,k∉new→β' k=β k) (ho:OwnsOk (fun b=>c.E0 b∨∃ k,k∈keysO st1.own∧k∉keysO ins∧β.blk k=some b) β' w' outs) (hk:Keeps (ownB β ins) w w')
  (hb:∀ k,k∈keysO outs→∀ b,β'.blk k=some b→w.heap.size≤b∨ownB β ins b) :
  Holds c β' ⟨st1.env,applyU st1.own (callU ins outs),newN st1.nm (callU ins outs)⟩ a w' ∧
   (∀ b,Eo c.E0 β' (applyU st1.own (callU ins outs)) b→Eo (fun b=>c.E0 b∨∃ k,k∈keysO st1.own∧k∉keysO ins∧β.blk k=some b) β' outs b):=by
 have hq:=own?_call (ins:=ins) (outs:=outs) H.own.nodup ho.nodup
 have hinb:∀ b,ownB β ins b→ownB β st1.own b:=fun b ⟨k,h1,h2⟩=>by
  obtain ⟨o,ho⟩:=keys_mem h1
  exact ⟨k,mem_keys (own?_mem (hin k o ho)),h2⟩
 have hold:∀ k,k∈keysO st1.own→β'.blk k=β.blk k:=fun k hk=>by
  obtain ⟨o,ho⟩:=keys_mem hk
  obtain ⟨v,hv⟩:=(H.own.ok k o ho).key
  exact hβ.blk hv
 have hcases:∀ k o,own? (applyU st1.own (callU ins outs)) k=some o→(k,o)∈outs∨(k∉keysO outs∧k∉keysO ins∧own? st1.own k=some o):=fun k o h=>by
  rw [hq] at h
  cases h1:own? outs k with
  |some o'=>simp [h1] at h;subst h;exact .inl (own?_mem h1)
  |none =>
   simp only [h1] at h
   split at h
   ·cases h
   ·rename_i h2
    have h5:k∉keysO outs:=fun h3=>by
     obtain ⟨o',h4⟩:=key_iff.1 h3
     rw [h1] at h4
     cases h4
    exact .inr ⟨h5,h2,h⟩
 have hE:∀ b,Eo c.E0 β' (applyU st1.own (callU ins outs)) b↔Eo (fun b=>c.E0 b∨∃ k,k∈keysO st1.own∧k∉keysO ins∧β.blk k=some b) β' outs b:=fun b=>by
  constructor
  ·rintro (h|⟨k,h1,h2⟩)
   ·exact .inl (.inl h)
   ·obtain ⟨o,h3⟩:=key_iff.1 h1
    rcases hcases k o h3 with h4|⟨_,h5,h6⟩
    ·exact .inr ⟨k,mem_keys h4,h2⟩
    ·have h7:=mem_keys (own?_mem h6)
     rw [hold k h7] at h2
     exact .inl (.inr ⟨k,h7,h5,h2⟩)
  ·rintro ((h|⟨k,h1,h2,h3⟩)|⟨k,h1,h2⟩)
   ·exact .inl h
   ·refine .inr ⟨k,?_,by rw [hold k h1];exact h3⟩
    rw [key_iff,hq]
    cases h4:own? outs k with
    |some o=>exact ⟨o,rfl⟩
    |none =>
     obtain ⟨o,ho⟩:=key_iff.1 h1
     exact ⟨o,by simp [h2,ho]⟩
   ·refine .inr ⟨k,?_,h2⟩
    rw [key_iff,hq]
    obtain ⟨o,ho⟩:=key_iff.1 h1
    exact ⟨o,by simp [ho]⟩
 have hEe:Eo c.E0 β' (applyU st1.own (callU ins outs))=Eo (fun b=>c.E0 b∨∃ k,k∈keysO st1.own∧k∉keysO ins∧β.blk k=some b) β' outs:=funext fun b=>propext (hE b)
 have hl:Lasts (Eo c.E0 β st1.own) (Eo c.E0 β' (applyU st1.own (callU ins outs))) w w':=by
  intro b h1 h2
  refine ⟨fun h3=>?_,hk.block b h1 (fun h3=>h2 (.inr (by obtain ⟨k,h4,h5⟩:=hinb b h3;exact ⟨k,h4,h5⟩)))⟩
  rcases (hE b).1 h3 with (h4|⟨k,h4,_,h5⟩)|⟨k,h4,h5⟩
  ·exact h2 (.inl h4)
  ·exact h2 (.inr ⟨k,h4,h5⟩)
  ·rcases hb k h4 b h5 with h6|h6
   ·omega
   ·obtain ⟨k',h7,h8⟩:=hinb b h6
    exact h2 (.inr ⟨k',h7,h8⟩)
 refine ⟨H.change hβ (hk.mono hinb) ⟨fun k o h=>?_,nodup_applyU _ H.own.nodup,?_,?_⟩ ?_ ?_ ?_ (fun k h1=>⟨(newN_mem _ _ _).2 (.inl h1),hfr k (fun h2=>hnew k h2 h1)⟩),fun b=>(hE b).1⟩
 ·rcases hcases k o (mem_own? (nodup_applyU _ H.own.nodup) h) with h1|⟨h1,h2,h3⟩
  ·rw [hEe];exact ho.ok k o h1
  ·refine (H.own.ok k o (own?_mem h3)).lasts hl hβ (fun b hb1=>hk.block b (H.own.lt k (mem_keys (own?_mem h3)) b hb1).1 ?_)
   rintro ⟨k',h4,h5⟩
   obtain ⟨o',ho'⟩:=keys_mem h4
   have h6:=mem_keys (own?_mem (hin k' o' ho'))
   exact H.own.apart k k' (mem_keys (own?_mem h3)) h6 (fun e=>h2 (e▸h4)) b hb1 h5
 ·intro k k' h1 h2 hne b hb1 hb2
  obtain ⟨o,h3⟩:=key_iff.1 h1
  obtain ⟨o',h4⟩:=key_iff.1 h2
  rcases hcases k o h3 with h5|⟨_,h5,h5'⟩<;>rcases hcases k' o' h4 with h6|⟨_,h6,h6'⟩
  ·exact ho.apart k k' (mem_keys h5) (mem_keys h6) hne b hb1 hb2
  ·have h7:=mem_keys (own?_mem h6')
   rw [hold k' h7] at hb2
   exact (ho.lt k (mem_keys h5) b hb1).2 (.inr ⟨k',h7,h6,hb2⟩)
  ·have h7:=mem_keys (own?_mem h5')
   rw [hold k h7] at hb1
   exact (ho.lt k' (mem_keys h6) b hb2).2 (.inr ⟨k,h7,h5,hb1⟩)
  ·have h7:=mem_keys (own?_mem h5')
   have h8:=mem_keys (own?_mem h6')
   rw [hold k h7] at hb1
   rw [hold k' h8] at hb2
   exact H.own.apart k k' h7 h8 hne b hb1 hb2
 ·intro k h1 b hb1
  obtain ⟨o,h3⟩:=key_iff.1 h1
  rcases hcases k o h3 with h5|⟨_,h5,h5'⟩
  ·obtain ⟨x,y⟩:=ho.lt k (mem_keys h5) b hb1
   exact ⟨x,fun h=>y (.inl h)⟩
  ·have h7:=mem_keys (own?_mem h5')
   rw [hold k h7] at hb1
   obtain ⟨x,y⟩:=H.own.lt k h7 b hb1
   have:=hk.size
   exact ⟨by omega,y⟩
 ·intro k h1 b hb1
  obtain ⟨o,h3⟩:=key_iff.1 h1
  rcases hcases k o h3 with h5|⟨_,h5,h5'⟩
  ·exact (hb k (mem_keys h5) b hb1).imp id (hinb b)
  ·have h7:=mem_keys (own?_mem h5')
   rw [hold k h7] at hb1
   exact .inr ⟨k,h7,hb1⟩
 ·intro k h1
  rw [newN_mem]
  obtain ⟨o,h3⟩:=key_iff.1 h1
  rcases hcases k o h3 with h5|⟨_,h5,h5'⟩
  ·exact .inr ⟨o,by unfold callU;rw [List.mem_append];exact .inr (List.mem_map.2 ⟨(k,o),h5,rfl⟩)⟩
  ·exact .inl (H.kn k (mem_keys (own?_mem h5')))
 ·intro k h1
  rw [newN_mem] at h1
  have h2:k∉st1.nm:=fun h=>h1 (.inl h)
  by_cases h3:k∈new
  ·have h4:k∉keysO outs:=fun h=>by
    obtain ⟨o,ho⟩:=keys_mem h
    exact h1 (.inr ⟨o,by unfold callU;rw [List.mem_append];exact .inr (List.mem_map.2 ⟨(k,o),ho,rfl⟩)⟩)
   exact absurd (hno k h3) h4
  ·rw [hfr k h3];exact H.nm k h2
theorem call_E0 {st1:St} {ins:List (Nat×Own)} (hin:∀ k o,(k,o)∈ins→own? st1.own k=some o) :
  Eo (fun b=>c.E0 b∨∃ k,k∈keysO st1.own∧k∉keysO ins∧β.blk k=some b) β ins=Eo c.E0 β st1.own:=by
 funext b
 apply propext
 constructor
 ·rintro ((h|⟨k,h1,_,h3⟩)|⟨k,h1,h2⟩)
  ·exact .inl h
  ·exact .inr ⟨k,h1,h3⟩
  ·obtain ⟨o,ho⟩:=keys_mem h1
   exact .inr ⟨k,mem_keys (own?_mem (hin k o ho)),h2⟩
 ·rintro (h|⟨k,h1,h2⟩)
  ·exact .inl (.inl h)
  ·by_cases h3:k∈keysO ins
   ·exact .inr ⟨k,h3,h2⟩
   ·exact .inl (.inr ⟨k,h1,h3,h2⟩)
theorem call_wp {st1:St} (H:Holds c β st1 a w) {o:Oper} {dst:Option Nat} {f:FuncId} {args:List V} {ins outs:List (Nat×Own)} {res:V} {new:List Nat} (hS:Ctr c.P f args ins res outs new) (hd:o.dst=dst) (hlt:∀ d,dst=some d→d<c.nt) (hno:(keysO ins).Nodup)
  (hin:∀ k o,(k,o)∈ins→own? st1.own k=some o) (hnew:∀ k,k∈new→k∉st1.nm) {vals:Array Value} (hrun:(execOp a.eval o).run c.P w=.ok (.enter f vals) w) (hsz:vals.size=args.length)
  (hv:∀ (j:Nat) (v:Value) (x:V),vals[j]?=some v→args[j]?=some x→RelV β (Eo c.E0 β st1.own) w v x) {Q:Exit→Act→World→Prop} {K:Act→World→Prop}
  (hK:∀ β' a' w',Holds c β' (st1.stp dst { val:=res,upd:=callU ins outs,rd:=keysO ins,new:=new }) a' w'→K a' w'):o.wpIn c.F 0 c.P a w K Q:=by
 obtain ⟨_,hko,hno2,hS⟩:=hS
 have hE:=call_E0 (c:=c) (β:=β) hin
 have hins:OwnsOk (fun b=>c.E0 b∨∃ k,k∈keysO st1.own∧k∉keysO ins∧β.blk k=some b) β w ins:=by
  have hk:∀ k,k∈keysO ins→k∈keysO st1.own:=fun k h=>by
   obtain ⟨o,ho⟩:=keys_mem h
   exact mem_keys (own?_mem (hin k o ho))
  refine ⟨fun k o h=>?_,hno,fun k k' h1 h2=>H.own.apart k k' (hk k h1) (hk k' h2),fun k h b hb=>?_⟩
  ·rw [hE];exact H.own.ok k o (own?_mem (hin k o h))
  ·obtain ⟨x,y⟩:=H.own.lt k (hk k h) b hb
   refine ⟨x,?_⟩
   rintro (h1|⟨k',h1,h2,h3⟩)
   ·exact y h1
   ·exact H.own.apart k k' (hk k h) h1 (fun e=>h2 (e▸h)) b hb h3
 have hcall:=hS (fun b=>c.E0 b∨∃ k,k∈keysO st1.own∧k∉keysO ins∧β.blk k=some b) β w vals (by
  rintro b (h|⟨k,h1,_,h3⟩)
  ·have:=c.hE b h
   have:=H.kp.size
   omega
  ·exact (H.own.lt k h1 b h3).1) hsz (by rw [hE];exact hv) hins (fun k hk=>H.nm k (hnew k hk))
 refine Oper.wpc_enter hrun (hcall.mono fun e w' he=>?_)
 obtain ⟨v,β',rfl,h1,h2,h3,h4,h5,h6⟩:=he
 obtain ⟨H',hEs⟩:=call_state H hin hnew hno2 h1 h2 h4 h5 h6
 refine hK β' _ w' ?_
 rw [hd]
 simp only [St.stp]
 cases dst with
 |none=>exact H'
 |some d =>
  refine H'.setV (hlt d rfl) (h3.lasts' (w:=w') (w':=w') (fun b hb hE2=>⟨fun h=>hE2 (hEs b h),rfl⟩) (Names.le.refl β'))
end
end Go.Bx
end
section
namespace Go.Bx
open Go.RowKit
def hasU:List (Nat×Option Own)→Bool
 |[]=>false
 |_::_=>true
theorem hasU_nil {u:List (Nat×Option Own)} (h:hasU u=false):u=[]:=by
 cases u with
 |nil=>rfl
 |cons=>cases h
def vcR (c:Ctx) (b:Bool):List I→St→List Lg→(List Lg→St→Prop)→Prop
 |[],st,acc,K=>K acc st
 |⟨d,g,q⟩::is,st,acc,K =>
  if isCall q=true then TR c b (⟨d,g,q⟩::is) st acc K
  else match g with
   |none=>(opR st true (d.getD 0) q).side∧vcR c b is (st.stp d ((opR st true (d.getD 0) q).stp (newOf q (d.getD 0)))) (lgs b acc (((opR st true (d.getD 0) q).stp (newOf q (d.getD 0))).lg)) K
   |some (s,want) =>
    match gOf st.env s want with
    |none=>False
    |some gc =>
     if hasU (opR st true (d.getD 0) q).upd=true then
      (gc=true→(opR st true (d.getD 0) q).side∧vcR c b is (st.stp d ((opR st true (d.getD 0) q).stp (newOf q (d.getD 0)))) (lgs b acc (((opR st true (d.getD 0) q).stp (newOf q (d.getD 0))).lg)) K) ∧
      (gc=false→vcR c b is (st.stp d { val:=.un,upd:=[],rd:=[],new:=[] }) (lgs b acc ⟨[],[]⟩) K)
     else
      (gc=true→(opR st gc (d.getD 0) q).side)∧(makes q=true→d.getD 0∉st.nm)∧vcR c b is (st.stp d { val:=.gd gc (opR st true (d.getD 0) q).val,upd:=[],rd:=(opR st true (d.getD 0) q).rd,new:=newOf q (d.getD 0) }) (lgs b acc ⟨(opR st true (d.getD 0) q).rd,newOf q (d.getD 0)⟩) K
section
variable {c:Ctx} {b:Bool} {is:List I} {st:St} {acc:List Lg} {K:List Lg→St→Prop}
theorem vcR_nil:vcR c b [] st acc K=K acc st:=propext ⟨fun h=>h,fun h=>h⟩
theorem vcR_call {d:Option Nat} {g:Option (Nat×Bool)} {q:O} (h:isCall q=true):vcR c b (⟨d,g,q⟩::is) st acc K=TR c b (⟨d,g,q⟩::is) st acc K:=by
 simp only [vcR,h,if_true]
theorem vcR_op {d:Option Nat} {q:O} (h:isCall q=false):vcR c b (⟨d,none,q⟩::is) st acc K =
  ((opR st true (d.getD 0) q).side∧vcR c b is (st.stp d ((opR st true (d.getD 0) q).stp (newOf q (d.getD 0)))) (lgs b acc (((opR st true (d.getD 0) q).stp (newOf q (d.getD 0))).lg)) K):=by
 simp only [vcR,h,Bool.false_eq_true,if_false]
theorem vcR_n {d:Option Nat} {q:O}:vcR c b (⟨d,none,q⟩::is) st acc K=if isCall q=true then TR c b (⟨d,none,q⟩::is) st acc K else
  ((opR st true (d.getD 0) q).side∧vcR c b is (st.stp d ((opR st true (d.getD 0) q).stp (newOf q (d.getD 0)))) (lgs b acc (((opR st true (d.getD 0) q).stp (newOf q (d.getD 0))).lg)) K):=by
 by_cases h:isCall q=true
 ·rw [vcR_call h,if_pos h]
 ·rw [vcR_op (by simpa using h),if_neg h]
theorem vcR_s {d:Option Nat} {q:O} {s:Nat} {want:Bool}:vcR c b (⟨d,some (s,want),q⟩::is) st acc K=if isCall q=true then TR c b (⟨d,some (s,want),q⟩::is) st acc K else
    (match gOf st.env s want with
     |none=>False
     |some gc=>if hasU (opR st true (d.getD 0) q).upd=true then
         (gc=true→(opR st true (d.getD 0) q).side∧vcR c b is (st.stp d ((opR st true (d.getD 0) q).stp (newOf q (d.getD 0)))) (lgs b acc (((opR st true (d.getD 0) q).stp (newOf q (d.getD 0))).lg)) K) ∧
            (gc=false→vcR c b is (st.stp d { val:=.un,upd:=[],rd:=[],new:=[] }) (lgs b acc ⟨[],[]⟩) K)
       else (gc=true→(opR st gc (d.getD 0) q).side)∧(makes q=true→d.getD 0∉st.nm)∧vcR c b is (st.stp d { val:=.gd gc (opR st true (d.getD 0) q).val,upd:=[],rd:=(opR st true (d.getD 0) q).rd,new:=newOf q (d.getD 0) }) (lgs b acc ⟨(opR st true (d.getD 0) q).rd,newOf q (d.getD 0)⟩) K):=by
  simp only [vcR]
theorem guard_of {ops:Array Oper} {o:Oper} {d:Option Nat} {s:Nat} {want:Bool} {q:O} (hc:Cmp c ops o ⟨d,some (s,want),q⟩):∃ j,o.guard=some (j,want)∧(ops[j]?).bind (·.dst)=some s:=by
 have hcg:=hc.gd
 cases hgo:o.guard with
 |none=>simp only [hgo] at hcg;cases hcg
 |some jw =>
  obtain ⟨j,w'⟩:=jw
  simp only [hgo] at hcg
  obtain ⟨s',hs',e⟩:=hcg
  injection e with e;injection e with e1 e2
  exact ⟨j,by rw [e2],by rw [hs',e1]⟩
theorem gOf_congr {st st1:St} {d:Option Nat} {s:Nat} {want:Bool} {q:O} (h:∀ k,k∈(I.slots ⟨d,some (s,want),q⟩)→get st1.env k=get st.env k):gOf st1.env s want=gOf st.env s want:=by
 unfold gOf
 rw [h s (by simp [I.slots])]
theorem valid_on {d:Option Nat} {s:Nat} {want:Bool} {q:O} (hg:gOf st.env s want=some true) {sp:Stp} (h:Valid c ⟨d,none,q⟩ st sp):Valid c ⟨d,some (s,want),q⟩ st sp:=by
 intro st1 h1 h2 h3 ops o hc β a w H Q K hK
 obtain ⟨j,hgo,hj⟩:=guard_of hc
 have hw:=wanted_ok H hgo hj (by rw [gOf_congr h1];exact hg)
 rw [if_pos hw]
 have:=h st1 (fun k hk=>h1 k (by simp [I.slots] at hk ⊢;exact .inr hk)) h2 h3 (o:={ o with guard:=none }) ops ⟨hc.dst,hc.lt,hc.op,hc.mkk,hc.st,rfl⟩ β a w H Q K hK
 rw [if_pos (by simp [Region.wanted])] at this
 exact this
theorem valid_off {d:Option Nat} {s:Nat} {want:Bool} {q:O} (hg:gOf st.env s want=some false):Valid c ⟨d,some (s,want),q⟩ st { val:=.un,upd:=[],rd:=[],new:=[] }:=by
 intro st1 h1 h2 h3 ops o hc β a w H Q K hK
 obtain ⟨j,hgo,hj⟩:=guard_of hc
 have hw:=wanted_ok H hgo hj (by rw [gOf_congr h1];exact hg)
 rw [if_neg (by rw [hw];simp)]
 have hdst:=hc.dst
 simp only at hdst
 refine hK β _ w ?_
 rw [hdst]
 simp only [St.stp,applyU,newN]
 cases d with
 |none=>exact H
 |some d'=>exact H.setV (hc.lt d' rfl) (.un _)
theorem newOf_fresh {d:Nat} {q:O} {p:Bool} (hs:(opR st p d q).side):∀ k,k∈newOf q d→k∉st.nm:=fun k hk=>by
 unfold newOf at hk
 split at hk
 ·rename_i hm
  simp at hk
  subst hk
  exact makes_upd hs hm
 ·simp at hk
theorem vcR_ok:∀ {is:List I} {st:St} {acc:List Lg},vcR c b is st acc K→TR c b is st acc K
 |[],st,acc,h=>TR.nil h
 |⟨d,g,q⟩::is,st,acc,h=>by
  by_cases hq:isCall q=true
  ·rw [vcR_call hq] at h;exact h
  ·have hq':isCall q=false:=by simpa using hq
   cases g with
   |none =>
    rw [vcR_op hq'] at h
    obtain ⟨h1,h2⟩:=h
    exact TR.cons _ (valid_op hq' h1) (newOf_fresh h1) (vcR_ok h2)
   |some g =>
    obtain ⟨s,want⟩:=g
    rw [vcR_s,if_neg hq] at h
    split at h
    ·exact h.elim
    ·rename_i gc hg
     by_cases hm:hasU (opR st true (d.getD 0) q).upd=true
     ·rw [if_pos hm] at h
      cases gc with
      |true =>
       obtain ⟨h1,h2⟩:=h.1 rfl
       exact TR.cons _ (valid_on hg (valid_op hq' h1)) (newOf_fresh h1) (vcR_ok h2)
      |false=>exact TR.cons _ (valid_off hg) (fun k hk=>by simp at hk) (vcR_ok (h.2 rfl))
     ·rw [if_neg hm] at h
      obtain ⟨h1,h2,h3⟩:=h
      refine TR.cons _ (valid_gd hq' hg h1 (hasU_nil (by simpa using hm))) (fun k hk=>?_) (vcR_ok h3)
      unfold newOf at hk
      split at hk
      ·rename_i hmm
       simp at hk
       subst hk
       exact h2 hmm
      ·simp at hk
theorem vcR_mono {K':List Lg→St→Prop} (hk:∀ acc st,K acc st→K' acc st):∀ {is:List I} {st:St} {acc:List Lg},vcR c b is st acc K→vcR c b is st acc K'
 |[],st,acc,h=>hk _ _ h
 |⟨d,g,q⟩::is,st,acc,h=>by
  by_cases hq:isCall q=true
  ·rw [vcR_call hq] at h ⊢;exact h.mono hk
  ·have hq':isCall q=false:=by simpa using hq
   cases g with
   |none =>
    rw [vcR_op hq'] at h ⊢
    exact ⟨h.1,vcR_mono hk h.2⟩
   |some g =>
    obtain ⟨s,want⟩:=g
    rw [vcR_s,if_neg hq] at h ⊢
    split at h
    ·exact h.elim
    ·rename_i gc hg
     by_cases hm:hasU (opR st true (d.getD 0) q).upd=true
     ·rw [if_pos hm] at h
      simp only [hm,if_true]
      exact ⟨fun e=>⟨(h.1 e).1,vcR_mono hk (h.1 e).2⟩,fun e=>vcR_mono hk (h.2 e)⟩
     ·rw [if_neg hm] at h
      simp only [hm]
      exact ⟨h.1,h.2.1,vcR_mono hk h.2.2⟩
theorem cCall_func {P:Program} {cl:Call} {f:FuncId} {xs:List X} (h:cCall P cl=some (.call f xs)):cl.callee=.value (.func f)∧cXs cl.args.toList=some xs:=by
 unfold cCall at h
 split at h
 ·unfold cBuiltin at h
  (repeat' split at h)<;>first|(cases h;done)|(obtain ⟨_,_,h3⟩:=Option.map_eq_some_iff.1 h;cases h3;done)
 ·rename_i f' hf
  obtain ⟨ys,h1,h2⟩:=Option.map_eq_some_iff.1 h
  cases h2
  exact ⟨hf,h1⟩
 ·split at h<;>cases h
 ·split at h<;>cases h
theorem cCall_val {P:Program} {cl:Call} {x:X} {xs:List X} (h:cCall P cl=some (.callv x xs)):∃ ox,cl.callee=.value ox∧cX ox=some x∧cXs cl.args.toList=some xs:=by
 unfold cCall at h
 split at h
 ·unfold cBuiltin at h
  (repeat' split at h)<;>first|(cases h;done)|(obtain ⟨_,_,h3⟩:=Option.map_eq_some_iff.1 h;cases h3;done)
 ·obtain ⟨ys,h1,h2⟩:=Option.map_eq_some_iff.1 h
  cases h2
 ·rename_i ox hne hcl
  split at h
  ·rename_i y ys h1 h2
   cases h
   exact ⟨_,hcl,h1,h2⟩
  ·cases h
 ·split at h<;>cases h
theorem cOp_call {P:Program} {o:Oper} {q:O} (h:cOp P o=some q) (hq:isCall q=true) (hna:∀ sz n x,q≠.asl sz n x) (hnp:∀ x,q≠.pnc x:=by simp):∃ cl,o.op=.call cl∧cCall P cl=some q:=by
 replace h:=cOp_0 h (by rintro rfl;simp [isCall] at hq)
 unfold cOp0 at h
 split at h
 case h_22=>rename_i cl ho;exact ⟨cl,ho,h⟩
 all_goals (try (obtain ⟨y,_,rfl⟩:=Option.map_eq_some_iff.1 h;first|(simp [isCall] at hq;done)|exact absurd rfl (hnp _)))
 all_goals ((repeat' split at h)<;>first|(cases h;simp [isCall] at hq;done)|(cases h;done)|(cases h;exact absurd rfl (hna _ _ _))|(obtain ⟨y,_,rfl⟩:=Option.map_eq_some_iff.1 h;simp [isCall] at hq;done))
theorem cOp_asl {P:Program} {o:Oper} {sz n:Nat} {x:X} (h:cOp P o=some (.asl sz n x)):∃ t e ox,o.op=.slice t ox none none none∧P.underlying t=some (.array n e)∧szB P e=some sz∧cX ox=some x:=by
 replace h:=cOp_0 h (by intro e;cases e)
 unfold cOp0 at h
 split at h
 case h_21 =>
  rename_i t ox lo hi mx ho
  split at h
  ·split at h<;>cases h
  ·rename_i n' e x' ht hx
   split at h
   ·rename_i sz' hz
    cases h
    exact ⟨t,e,ox,ho,ht,hz,hx⟩
   ·cases h
  ·cases h
 case h_22 =>
  rename_i cl ho
  unfold cCall at h
  split at h
  ·unfold cBuiltin at h
   (repeat' split at h)<;>first|(cases h;done)|(obtain ⟨_,_,h3⟩:=Option.map_eq_some_iff.1 h;cases h3;done)
  ·obtain ⟨_,_,h3⟩:=Option.map_eq_some_iff.1 h;cases h3
  ·split at h<;>cases h
  ·split at h<;>cases h
 all_goals (try (obtain ⟨_,_,h3⟩:=Option.map_eq_some_iff.1 h;cases h3;done))
 all_goals ((repeat' split at h)<;>first|(cases h;done)|(obtain ⟨_,_,h3⟩:=Option.map_eq_some_iff.1 h;cases h3;done))
theorem gslots_call {d:Option Nat} {g:Option (Nat×Bool)} {f:Nat} {xs:List X}:∀ k,k∈xsSlots xs→k∈(I.slots ⟨d,g,.call f xs⟩):=fun k hk=>by simp [I.slots,O.slots,hk]
theorem valid_call {d:Option Nat} {f:Nat} {xs:List X} {ins outs:List (Nat×Own)} {res:V} {new:List Nat} (hS:Ctr c.P f (evVs st xs) ins res outs new) (hs:evSs true st xs)
  (hin:∀ k o,(k,o)∈ins→own? st.own k=some o) (hno:(keysO ins).Nodup):Valid c ⟨d,none,.call f xs⟩ st { val:=res,upd:=callU ins outs,rd:=keysO ins,new:=new }:=by
 intro st1 h1 h2 h3 ops o hc β a w H Q K hK
 have hcg:=hc.gd
 have hg:o.guard=none:=by
  cases hg:o.guard with
  |none=>rfl
  |some jw=>simp only [hg] at hcg;obtain ⟨s,_,h⟩:=hcg;cases h
 rw [if_pos (by simp [Region.wanted,hg])]
 have hsl:∀ k,k∈xsSlots xs→get st1.env k=get st.env k:=fun k hk=>h1 k (gslots_call k hk)
 have e1:=evVs_congr hsl
 have e2:=evSs_congr (p:=true) hsl
 obtain ⟨cl,hcl,hcc⟩:=cOp_call hc.op rfl (by simp)
 obtain ⟨h4,h5⟩:=cCall_func hcc
 obtain ⟨q1,q2⟩:=evVs_ok H h5 (by rw [e2];exact hs)
 rw [e1] at q1 q2
 have hrun:(execOp a.eval o).run c.P w=.ok (.enter f (cl.args.map a.eval)) w:=by
  have hcf:=run_callFunc (w:=w) hS.1 (cl.args.map a.eval)
  simp [execOp,hcl,resolve,h4,Act.eval,Deferred.ofValue,invoke,hcf]
 exact call_wp H hS hc.dst hc.lt hno (fun k o h=>by rw [h2 k (mem_keys h)];exact hin k o h) h3 hrun (by simpa using q1) (fun j v x hv hx=>q2 j v x (by simpa using hv) hx) hK
theorem valid_callv {d:Option Nat} {x:X} {f:Nat} {first cap:List V} {xs:List X} {ins outs:List (Nat×Own)} {res:V} {new:List Nat} (hx:evV st x=.fn (.func f) first cap) (hS:Ctr c.P f (first++(evVs st xs++cap)) ins res outs new) (hsx:evS true st x) (hs:evSs true st xs)
  (hin:∀ k o,(k,o)∈ins→own? st.own k=some o) (hno:(keysO ins).Nodup):Valid c ⟨d,none,.callv x xs⟩ st { val:=res,upd:=callU ins outs,rd:=keysO ins,new:=new }:=by
 intro st1 h1 h2 h3 ops o hc β a w H Q K hK
 have hcg:=hc.gd
 have hg:o.guard=none:=by
  cases hg:o.guard with
  |none=>rfl
  |some jw=>simp only [hg] at hcg;obtain ⟨s,_,h⟩:=hcg;cases h
 rw [if_pos (by simp [Region.wanted,hg])]
 have hsl:∀ k,k∈xsSlots xs→get st1.env k=get st.env k:=fun k hk=>h1 k (by simp [I.slots,O.slots,hk])
 have hslx:∀ k,k∈x.slots→get st1.env k=get st.env k:=fun k hk=>h1 k (by simp [I.slots,O.slots,hk])
 have e1:=evVs_congr hsl
 have e2:=evSs_congr (p:=true) hsl
 obtain ⟨cl,hcl,hcc⟩:=cOp_call hc.op rfl (by simp)
 obtain ⟨ox,h4,hox,h5⟩:=cCall_val hcc
 obtain ⟨q1,q2⟩:=evVs_ok H h5 (by rw [e2];exact hs)
 rw [e1] at q1 q2
 have hv0:=evV_ok H hox (by rw [evS_congr hslx];exact hsx)
 rw [evV_congr hslx,hx] at hv0
 generalize hu:a.eval ox=u at *
 cases hv0 with
 |fn _ fi ca _ _ g1 g2 r1 r2 =>
  have hrun:(execOp a.eval o).run c.P w=.ok (.enter f (fi++cl.args.map a.eval++ca)) w:=by
   have hcf:=run_callFunc (w:=w) hS.1 (fi++cl.args.map a.eval++ca)
   simp only [execOp,hcl,resolve,h4,hu,Deferred.ofValue,invoke,Sem.run_bind,Sem.run_pure,Result.andThen_ok]
   exact hcf
  have hl:cl.args.size=(evVs st xs).length:=by simpa using q1
  refine call_wp H hS hc.dst hc.lt hno (fun k o h=>by rw [h2 k (mem_keys h)];exact hin k o h) h3 hrun (by simp;omega) (fun j v y hv hy=>?_) hK
  have hv':(fi.toList++(cl.args.toList.map a.eval++ca.toList))[j]?=some v:=by
   rw [←Array.getElem?_toList] at hv
   simpa using hv
  by_cases hj:j<first.length
  ·rw [List.getElem?_append_left (by simp;omega)] at hv'
   rw [List.getElem?_append_left hj] at hy
   exact r1 j v y (by simpa using hv') hy
  ·rw [List.getElem?_append_right (by simp;omega)] at hv'
   rw [List.getElem?_append_right (by omega)] at hy
   simp only [Array.length_toList,g1] at hv'
   by_cases hj2:j-first.length<(evVs st xs).length
   ·rw [List.getElem?_append_left (by simp;omega)] at hv'
    rw [List.getElem?_append_left hj2] at hy
    exact q2 _ v y hv' hy
   ·rw [List.getElem?_append_right (by simp;omega)] at hv'
    rw [List.getElem?_append_right (by omega)] at hy
    simp only [List.length_map,Array.length_toList,hl] at hv'
    exact r2 _ v y (by simpa using hv') hy
theorem valid_asl {d:Option Nat} {sz n:Nat} {x:X} {cs:List D} (hx:evV st x=.mem cs) (hs:evS true st x) (hl:n*sz≤cs.length):Valid c ⟨d,none,.asl sz n x⟩ st { val:=.d (.sl true sz n (litRow sz cs)),upd:=[],rd:=[],new:=[] }:=by
 intro st1 h1 h2 h3 ops o hc β a w H Q K hK
 have hcg:=hc.gd
 have hg:o.guard=none:=by
  cases hg:o.guard with
  |none=>rfl
  |some jw=>simp only [hg] at hcg;obtain ⟨s,_,h⟩:=hcg;cases h
 rw [if_pos (by simp [Region.wanted,hg])]
 obtain ⟨t,e,ox,ho,ht,hz,hcx⟩:=cOp_asl hc.op
 have hsl:∀ k,k∈x.slots→get st1.env k=get st.env k:=fun k hk=>h1 k (by simp [I.slots,O.slots,hk])
 have hx1:evV st1 x=.mem cs:=(evV_congr hsl).trans hx
 have hdst:=hc.dst
 simp only at hdst
 obtain ⟨v,w',β',hr,_,H'⟩:=s_asl (d:=0) H (fun d hd=>hc.lt d (hdst▸hd)) ho ht hz hcx (by simp only [opR,hx1];exact ⟨by rw [evS_congr hsl];exact hs,hl⟩)
 refine Oper.wp_ok hr (hK β' _ w' ?_)
 rw [hdst] at H' ⊢
 simp only [opR,hx1] at H'
 simpa [St.app,St.stp] using H'
theorem valid_gd_pure {d:Option Nat} {s:Nat} {want gc:Bool} {q:O} {res:V} (hg:gOf st.env s want=some gc) (h:gc=true→Valid c ⟨d,none,q⟩ st { val:=res,upd:=[],rd:=[],new:=[] }) :
  Valid c ⟨d,some (s,want),q⟩ st { val:=.gd gc res,upd:=[],rd:=[],new:=[] }:=by
 intro st1 h1 h2 h3 ops o hc β a w H Q K hK
 cases gc with
 |true =>
  refine valid_on hg (h rfl) st1 h1 h2 h3 ops o hc β a w H Q K (fun β' a' w' H'=>hK β' a' w' ?_)
  simp only [St.stp,applyU,newN] at H' ⊢
  cases d with
  |none=>exact H'
  |some d' =>
   simp only [setE] at H' ⊢
   refine ⟨H'.sz,H'.df,fun s'=>?_,H'.own,H'.fr,H'.kn,H'.nm,H'.kp,H'.fx⟩
   have h5:=H'.env s'
   simp only [get] at h5 ⊢
   split
   ·rename_i e
    rw [if_pos e] at h5
    exact .gd _ _ _ (fun _=>h5) (fun h=>by cases h)
   ·rename_i e
    rw [if_neg e] at h5
    exact h5
 |false =>
  obtain ⟨j,hgo,hj⟩:=guard_of hc
  have hw:=wanted_ok H hgo hj (by rw [gOf_congr h1];exact hg)
  rw [if_neg (by rw [hw];simp)]
  have hdst:=hc.dst
  simp only at hdst
  refine hK β _ w ?_
  rw [hdst]
  simp only [St.stp,applyU,newN]
  cases d with
  |none=>exact H
  |some d'=>exact H.setV (hc.lt d' rfl) (.gd _ _ _ (fun h=>by cases h) (fun _=>rfl))
theorem TR.call {d:Option Nat} {f:Nat} {xs:List X} (ins outs:List (Nat×Own)) (res:V) (new:List Nat) (hS:Ctr c.P f (evVs st xs) ins res outs new) (hs:evSs true st xs) (hin:∀ k o,(k,o)∈ins→own? st.own k=some o) (hno:(keysO ins).Nodup) (hnew:∀ k,k∈new→k∉st.nm)
  (h:vcR c b is (st.stp d { val:=res,upd:=callU ins outs,rd:=keysO ins,new:=new }) (lgs b acc ⟨keysO ins,(callU ins outs).map (·.1)++new⟩) K):TR c b (⟨d,none,.call f xs⟩::is) st acc K:=
 TR.cons _ (valid_call hS hs hin hno) hnew (vcR_ok h)
theorem TR.pure {d:Option Nat} {f:Nat} {xs:List X} {res:V} (hS:Ctr c.P f (evVs st xs) [] res [] []) (hs:evSs true st xs)
  (h:vcR c b is (st.stp d { val:=res,upd:=[],rd:=[],new:=[] }) (lgs b acc ⟨[],[]⟩) K):TR c b (⟨d,none,.call f xs⟩::is) st acc K:=
 TR.cons { val:=res,upd:=[],rd:=[],new:=[] } (valid_call hS hs (fun k o h=>by simp at h) (by simp [keysO])) (fun k hk=>by simp at hk) (vcR_ok h)
theorem TR.callv {d:Option Nat} {x:X} {f:Nat} {first cap:List V} {xs:List X} (ins outs:List (Nat×Own)) (res:V) (new:List Nat) (hx:evV st x=.fn (.func f) first cap) (hS:Ctr c.P f (first++(evVs st xs++cap)) ins res outs new) (hsx:evS true st x) (hs:evSs true st xs) (hin:∀ k o,(k,o)∈ins→own? st.own k=some o) (hno:(keysO ins).Nodup) (hnew:∀ k,k∈new→k∉st.nm)
  (h:vcR c b is (st.stp d { val:=res,upd:=callU ins outs,rd:=keysO ins,new:=new }) (lgs b acc ⟨keysO ins,(callU ins outs).map (·.1)++new⟩) K):TR c b (⟨d,none,.callv x xs⟩::is) st acc K:=
 TR.cons _ (valid_callv hx hS hsx hs hin hno) hnew (vcR_ok h)
theorem TR.gpure {d:Option Nat} {s:Nat} {want gc:Bool} {f:Nat} {xs:List X} {res:V} (hg:gOf st.env s want=some gc) (hS:gc=true→Ctr c.P f (evVs st xs) [] res [] []) (hs:gc=true→evSs true st xs)
  (h:vcR c b is (st.stp d { val:=.gd gc res,upd:=[],rd:=[],new:=[] }) (lgs b acc ⟨[],[]⟩) K):TR c b (⟨d,some (s,want),.call f xs⟩::is) st acc K:=
 TR.cons { val:=.gd gc res,upd:=[],rd:=[],new:=[] } (valid_gd_pure hg fun hgc=>valid_call (hS hgc) (hs hgc) (fun k o h=>by simp at h) (by simp [keysO])) (fun k hk=>by simp at hk) (vcR_ok h)
theorem TR.p {P:Program} (hP:c.P=P) {d:Option Nat} {f:Nat} {xs:List X} {res:V} (hS:Ctr P f (evVs st xs) [] res [] []) (hs:evSs true st xs)
  (h:vcR c b is (st.stp d { val:=res,upd:=[],rd:=[],new:=[] }) (lgs b acc ⟨[],[]⟩) K):TR c b (⟨d,none,.call f xs⟩::is) st acc K:=
 TR.pure (by rw [hP];exact hS) hs h
theorem TR.gp {P:Program} (hP:c.P=P) {d:Option Nat} {s:Nat} {want gc:Bool} {f:Nat} {xs:List X} {res:V} (hg:gOf st.env s want=some gc) (hS:gc=true→Ctr P f (evVs st xs) [] res [] []) (hs:gc=true→evSs true st xs)
  (h:vcR c b is (st.stp d { val:=.gd gc res,upd:=[],rd:=[],new:=[] }) (lgs b acc ⟨[],[]⟩) K):TR c b (⟨d,some (s,want),.call f xs⟩::is) st acc K:=
 TR.gpure hg (fun e=>by rw [hP];exact hS e) hs h
theorem TR.pv {P:Program} (hP:c.P=P) {d:Option Nat} {x:X} {f:Nat} {first cap:List V} {xs:List X} {res:V} (hx:evV st x=.fn (.func f) first cap) (hS:Ctr P f (first++(evVs st xs++cap)) [] res [] []) (hsx:evS true st x) (hs:evSs true st xs)
  (h:vcR c b is (st.stp d { val:=res,upd:=[],rd:=[],new:=[] }) (lgs b acc ⟨[],[]⟩) K):TR c b (⟨d,none,.callv x xs⟩::is) st acc K:=
 TR.cons { val:=res,upd:=[],rd:=[],new:=[] } (valid_callv hx (by rw [hP];exact hS) hsx hs (fun k o h=>by simp at h) (by simp [keysO])) (fun k hk=>by simp at hk) (vcR_ok h)
theorem TR.c1 {P:Program} (hP:c.P=P) {d:Option Nat} {f:Nat} {xs:List X} {k:Nat} {o o':Own} {res:V} (hS:Ctr P f (evVs st xs) [(k,o)] res [(k,o')] []) (hs:evSs true st xs) (hin:own? st.own k=some o)
  (h:vcR c b is (st.stp d { val:=res,upd:=[(k,none),(k,some o')],rd:=[k],new:=[] }) (lgs b acc ⟨[k],[k,k]⟩) K):TR c b (⟨d,none,.call f xs⟩::is) st acc K:=
 TR.call [(k,o)] [(k,o')] res [] (by rw [hP];exact hS) hs (fun k' o'' h=>by simp at h;obtain ⟨rfl,rfl⟩:=h;exact hin) (by simp [keysO]) (by simp) h
theorem TR.cv1 {P:Program} (hP:c.P=P) {d:Option Nat} {x:X} {f:Nat} {first cap:List V} {xs:List X} {k:Nat} {o o':Own} {res:V} (hx:evV st x=.fn (.func f) first cap) (hS:Ctr P f (first++(evVs st xs++cap)) [(k,o)] res [(k,o')] []) (hsx:evS true st x) (hs:evSs true st xs) (hin:own? st.own k=some o)
  (h:vcR c b is (st.stp d { val:=res,upd:=[(k,none),(k,some o')],rd:=[k],new:=[] }) (lgs b acc ⟨[k],[k,k]⟩) K):TR c b (⟨d,none,.callv x xs⟩::is) st acc K:=
 TR.callv [(k,o)] [(k,o')] res [] hx (by rw [hP];exact hS) hsx hs (fun k' o'' h=>by simp at h;obtain ⟨rfl,rfl⟩:=h;exact hin) (by simp [keysO]) (by simp) h
theorem TR.asl {d:Option Nat} {sz n:Nat} {x:X} {cs:List D} (hx:evV st x=.mem cs) (hs:evS true st x) (hl:n*sz≤cs.length)
  (h:vcR c b is (st.stp d { val:=.d (.sl true sz n (litRow sz cs)),upd:=[],rd:=[],new:=[] }) (lgs b acc ⟨[],[]⟩) K):TR c b (⟨d,none,.asl sz n x⟩::is) st acc K:=
 TR.cons { val:=.d (.sl true sz n (litRow sz cs)),upd:=[],rd:=[],new:=[] } (valid_asl hx hs hl) (fun k hk=>by simp at hk) (vcR_ok h)
theorem TR.split {d:Option Nat} {s:Nat} {want gc:Bool} {q:O} (sp:Stp) (hg:gOf st.env s want=some gc) (hv:gc=true→Valid c ⟨d,none,q⟩ st sp) (hn:gc=true→∀ k,k∈sp.new→k∉st.nm)
  (h1:gc=true→vcR c b is (st.stp d sp) (lgs b acc sp.lg) K) (h2:gc=false→vcR c b is (st.stp d { val:=.un,upd:=[],rd:=[],new:=[] }) (lgs b acc ⟨[],[]⟩) K):TR c b (⟨d,some (s,want),q⟩::is) st acc K:=by
 cases gc with
 |true=>exact TR.cons sp (valid_on hg (hv rfl)) (hn rfl) (vcR_ok (h1 rfl))
 |false=>exact TR.cons _ (valid_off hg) (fun k hk=>by simp at hk) (vcR_ok (h2 rfl))
end
end Go.Bx
end
section
namespace Go.Bx
open Go.RowKit
structure Ext (a b:St):Prop where
 env:∀ s,get a.env s=get b.env s
 own:∀ k,own? a.own k=own? b.own k
 nm:∀ k,k∈a.nm↔k∈b.nm
theorem Ext.refl (a:St):Ext a a:=⟨fun _=>rfl,fun _=>rfl,fun _=>Iff.rfl⟩
theorem Ext.trans {a b c:St} (h:Ext a b) (k:Ext b c):Ext a c:=⟨fun s=>(h.env s).trans (k.env s),fun s=>(h.own s).trans (k.own s),fun s=>(h.nm s).trans (k.nm s)⟩
theorem Ext.symm {a b:St} (h:Ext a b):Ext b a:=⟨fun s=>(h.env s).symm,fun s=>(h.own s).symm,fun s=>(h.nm s).symm⟩
theorem Holds.ext {c:Ctx} {β:Names} {st st1:St} {a:Act} {w:World} (H:Holds c β st a w) (h:Ext st st1) (hn:(keysO st1.own).Nodup):Holds c β st1 a w:=by
 have hk:∀ k,k∈keysO st1.own↔k∈keysO st.own:=fun k=>by rw [key_iff,key_iff,h.own k]
 have hE:Eo c.E0 β st1.own=Eo c.E0 β st.own:=by
  funext b
  apply propext
  unfold Eo
  simp only [hk]
 refine ⟨H.sz,H.df,fun s=>by rw [hE,←h.env s];exact H.env s,⟨fun k o ho=>?_,hn,fun k k' h1 h2=>H.own.apart k k' ((hk k).1 h1) ((hk k').1 h2),fun k h1=>H.own.lt k ((hk k).1 h1)⟩,fun k h1=>H.fr k ((hk k).1 h1),fun k h1=>(h.nm k).1 (H.kn k ((hk k).1 h1)),fun k h1=>H.nm k (fun h2=>h1 ((h.nm k).1 h2)),H.kp,fun k hk=>⟨(h.nm k).1 (H.fx k hk).1,(H.fx k hk).2⟩⟩
 rw [hE]
 exact H.own.ok k o (own?_mem ((h.own k).trans (mem_own? hn ho)))
def lastU:List (Nat×Option Own)→Nat→Option (Option Own)
 |[],_=>none
 |(k,o)::l,n =>
  match lastU l n with
  |some r=>some r
  |none=>if k=n then some o else none
theorem own?_applyU:∀ (u:List (Nat×Option Own)) {l:List (Nat×Own)},(keysO l).Nodup→∀ k,own? (applyU l u) k=(match lastU u k with|some r=>r|none=>own? l k)
 |[],_,_,_=>rfl
 |(k0,some o)::u,l,h,k=>by
  simp only [applyU,lastU]
  rw [own?_applyU u (nodup_setO h),own?_setO]
  cases hl:lastU u k with
  |some r=>rfl
  |none =>
   by_cases e:k0=k
   ·rw [if_pos e.symm,if_pos e]
   ·rw [if_neg (fun x=>e x.symm),if_neg e]
 |(k0,none)::u,l,h,k=>by
  simp only [applyU,lastU]
  rw [own?_applyU u (nodup_delO h),own?_delO h]
  cases hl:lastU u k with
  |some r=>rfl
  |none =>
   by_cases e:k0=k
   ·rw [if_pos e.symm,if_pos e]
   ·rw [if_neg (fun x=>e x.symm),if_neg e]
theorem lastU_none {u:List (Nat×Option Own)} {k:Nat} (h:k∉u.map (·.1)):lastU u k=none:=by
 induction u with
 |nil=>rfl
 |cons p u ih =>
  obtain ⟨k0,o⟩:=p
  simp only [List.map_cons,List.mem_cons,not_or] at h
  simp only [lastU,ih h.2]
  rw [if_neg (fun e=>h.1 e.symm)]
theorem get_setE (env:List (Nat×V)) (d:Option Nat) (v:V) (s:Nat):get (setE env d v) s=if d=some s then v else get env s:=by
 cases d with
 |none=>simp [setE]
 |some d=>simp only [setE,get,Option.some.injEq]
abbrev Steps:=List (Option Nat×Stp)
def runS (L:Nat→Bool):Nat→List (Option Nat×Stp)→St→St
 |_,[],st=>st
 |j,(d,s)::l,st=>runS L (j+1) l (if L j then st.stp d s else st)
theorem stp_nodup {st:St} {d:Option Nat} {s:Stp} (h:(keysO st.own).Nodup):(keysO (st.stp d s).own).Nodup:=nodup_applyU _ h
theorem runS_nodup (L:Nat→Bool):∀ (l:List (Option Nat×Stp)) (j:Nat) (st:St),(keysO st.own).Nodup→(keysO (runS L j l st).own).Nodup
 |[],_,_,h=>h
 |(d,s)::l,j,st,h=>by
  simp only [runS]
  refine runS_nodup L l (j+1) _ ?_
  split
  ·exact stp_nodup h
  ·exact h
theorem stp_ext {a b:St} (h:Ext a b) (ha:(keysO a.own).Nodup) (hb:(keysO b.own).Nodup) (d:Option Nat) (s:Stp):Ext (a.stp d s) (b.stp d s):=
 ⟨fun k=>by simp only [St.stp,get_setE,h.env k],fun k=>by simp only [St.stp,own?_applyU _ ha,own?_applyU _ hb,h.own k],fun k=>by simp only [St.stp,newN_mem,h.nm k]⟩
theorem runS_ext (L:Nat→Bool):∀ (l:List (Option Nat×Stp)) (j:Nat) {a b:St},Ext a b→(keysO a.own).Nodup→(keysO b.own).Nodup→Ext (runS L j l a) (runS L j l b)
 |[],_,_,_,h,_,_=>h
 |(d,s)::l,j,a,b,h,ha,hb=>by
  simp only [runS]
  split
  ·exact runS_ext L l (j+1) (stp_ext h ha hb d s) (stp_nodup ha) (stp_nodup hb)
  ·exact runS_ext L l (j+1) h ha hb
theorem stp_comm {st:St} (hn:(keysO st.own).Nodup) {d1 d2:Option Nat} {s1 s2:Stp} (hd:∀ x,d1=some x→d2≠some x) (hu:∀ k,k∈s1.upd.map (·.1)→k∉s2.upd.map (·.1)) :
  Ext ((st.stp d1 s1).stp d2 s2) ((st.stp d2 s2).stp d1 s1):=by
 refine ⟨fun k=>?_,fun k=>?_,fun k=>?_⟩
 ·simp only [St.stp,get_setE]
  by_cases h1:d1=some k
  ·have:=hd k h1
   simp [h1,this]
  ·simp [h1]
 ·simp only [St.stp]
  rw [own?_applyU _ (nodup_applyU _ hn),own?_applyU _ hn,own?_applyU _ (nodup_applyU _ hn),own?_applyU _ hn]
  by_cases h1:k∈s1.upd.map (·.1)
  ·rw [lastU_none (hu k h1)]
  ·rw [lastU_none h1]
 ·simp only [St.stp,newN_mem]
  constructor
  ·rintro ((h|h)|h)
   ·exact .inl (.inl h)
   ·exact .inr h
   ·exact .inl (.inr h)
  ·rintro ((h|h)|h)
   ·exact .inl (.inl h)
   ·exact .inr h
   ·exact .inl (.inr h)
theorem stp_behind (L:Nat→Bool) (d:Option Nat) (s:Stp):∀ (l:List (Option Nat×Stp)) (j:Nat) (st:St),(keysO st.own).Nodup →
  (∀ i d' s',l[i]?=some (d',s')→L (j+i)=true→(∀ x,d=some x→d'≠some x)∧∀ k,k∈s.upd.map (·.1)→k∉s'.upd.map (·.1)) →
  Ext ((runS L j l st).stp d s) (runS L j l (st.stp d s))
 |[],_,st,_,_=>Ext.refl _
 |(d',s')::l,j,st,hn,h=>by
  have ht:∀ i d2 s2,l[i]?=some (d2,s2)→L (j+1+i)=true→(∀ x,d=some x→d2≠some x)∧∀ k,k∈s.upd.map (·.1)→k∉s2.upd.map (·.1):=fun i d2 s2 hi hL=>by
   have:=h (i+1) d2 s2 (by simpa using hi) (by rw [show j+(i+1)=j+1+i by omega];exact hL)
   exact this
  simp only [runS]
  by_cases hL:L j=true
  ·simp only [hL,if_true]
   obtain ⟨h1,h2⟩:=h 0 d' s' (by simp) (by simpa using hL)
   refine (stp_behind L d s l (j+1) _ (stp_nodup hn) ht).trans ?_
   refine runS_ext L l (j+1) ?_ (stp_nodup (stp_nodup hn)) (stp_nodup (stp_nodup hn))
   refine (stp_comm hn (fun x hx=>?_) (fun k hk hk2=>?_))
   ·intro e;exact h1 x e hx
   ·exact h2 k hk2 hk
  ·simp only [hL]
   exact stp_behind L d s l (j+1) st hn ht
theorem runS_more (L:Nat→Bool) {J:Nat} (hJ:L J=false):∀ (l:List (Option Nat×Stp)) (j:Nat) (st:St) (d:Option Nat) (s:Stp),(keysO st.own).Nodup→j≤J→l[J-j]?=some (d,s) →
  (∀ i d' s',J<i→l[i-j]?=some (d',s')→L i=true→(∀ x,d=some x→d'≠some x)∧∀ k,k∈s.upd.map (·.1)→k∉s'.upd.map (·.1)) →
  Ext ((runS L j l st).stp d s) (runS (fun i=>L i || i == J) j l st)
 |[],j,st,d,s,_,_,hg,_=>by simp at hg
 |(d0,s0)::l,j,st,d,s,hn,hj,hg,h=>by
  by_cases e:j=J
  ·subst e
   simp at hg
   obtain ⟨rfl,rfl⟩:=hg
   simp only [runS,hJ,Bool.false_or,beq_self_eq_true,if_true,Bool.false_eq_true,if_false]
   refine (stp_behind L d0 s0 l (j+1) st hn (fun i d' s' hi hL=>h (j+1+i) d' s' (by omega) (by rw [show j+1+i-j=i+1 by omega];simpa using hi) hL)).trans ?_
   have:∀ (l:List (Option Nat×Stp)) (j':Nat) (st:St),j<j'→runS L j' l st=runS (fun i=>L i || i == j) j' l st:=by
    intro l
    induction l with
    |nil=>intro _ _ _;rfl
    |cons p l ih =>
     intro j' st hlt
     obtain ⟨d,s⟩:=p
     simp only [runS]
     have:(j' == j)=false:=by simp;omega
     simp only [this,Bool.or_false]
     exact ih (j'+1) _ (by omega)
   rw [this l (j+1) _ (by omega)]
   exact Ext.refl _
  ·have hlt:j<J:=by omega
   simp only [runS]
   have hne:(j == J)=false:=by simp;exact e
   simp only [hne,Bool.or_false]
   have hg':l[J-(j+1)]?=some (d,s):=by
    rw [show J-j=(J-(j+1))+1 by omega] at hg
    simpa using hg
   refine runS_more L hJ l (j+1) _ d s ?_ (by omega) hg' (fun i d' s' hi hl=>h i d' s' hi (by rw [show i-j=(i-(j+1))+1 by omega];simpa using hl))
   split
   ·exact stp_nodup hn
   ·exact hn
theorem runS_get {L1 L2:Nat→Bool} {k:Nat}:∀ (l:List (Option Nat×Stp)) (j:Nat) (a b:St),get a.env k=get b.env k→(∀ i d s,l[i]?=some (d,s)→d=some k→L1 (j+i)=L2 (j+i)) →
  get (runS L1 j l a).env k=get (runS L2 j l b).env k
 |[],_,_,_,h,_=>h
 |(d,s)::l,j,a,b,h,hL=>by
  simp only [runS]
  refine runS_get l (j+1) _ _ ?_ (fun i d' s' hi hk=>by have:=hL (i+1) d' s' (by simpa using hi) hk;rwa [show j+(i+1)=j+1+i by omega] at this)
  by_cases hd:d=some k
  ·have:=hL 0 d s (by simp) hd
   simp only [Nat.add_zero] at this
   rw [this]
   split
   ·simp only [St.stp,get_setE,hd,if_true]
   ·exact h
  ·have:∀ (x:St),get (x.stp d s).env k=get x.env k:=fun x=>by simp [St.stp,get_setE,hd]
   split<;>split<;>simp only [this,h]
theorem runS_own {L1 L2:Nat→Bool} {k:Nat}:∀ (l:List (Option Nat×Stp)) (j:Nat) (a b:St),(keysO a.own).Nodup→(keysO b.own).Nodup→own? a.own k=own? b.own k→(∀ i d s,l[i]?=some (d,s)→k∈s.upd.map (·.1)→L1 (j+i)=L2 (j+i)) →
  own? (runS L1 j l a).own k=own? (runS L2 j l b).own k
 |[],_,_,_,_,_,h,_=>h
 |(d,s)::l,j,a,b,ha,hb,h,hL=>by
  simp only [runS]
  refine runS_own l (j+1) _ _ ?_ ?_ ?_ (fun i d' s' hi hk=>by have:=hL (i+1) d' s' (by simpa using hi) hk;rwa [show j+(i+1)=j+1+i by omega] at this)
  ·split
   ·exact stp_nodup ha
   ·exact ha
  ·split
   ·exact stp_nodup hb
   ·exact hb
  by_cases hd:k∈s.upd.map (·.1)
  ·have:=hL 0 d s (by simp) hd
   simp only [Nat.add_zero] at this
   rw [this]
   split
   ·simp only [St.stp,own?_applyU _ ha,own?_applyU _ hb,h]
   ·exact h
  ·have:∀ (x:St),(keysO x.own).Nodup→own? (x.stp d s).own k=own? x.own k:=fun x hx=>by simp only [St.stp,own?_applyU _ hx,lastU_none hd]
   split<;>split<;>simp only [this _ ha,this _ hb,h]
theorem runS_nm {L:Nat→Bool} {k:Nat}:∀ (l:List (Option Nat×Stp)) (j:Nat) (a:St),k∈(runS L j l a).nm↔k∈a.nm∨∃ i d s o,l[i]?=some (d,s)∧L (j+i)=true∧(k,some o)∈s.upd
 |[],_,_=>by simp [runS]
 |(d,s)::l,j,a=>by
  simp only [runS]
  rw [runS_nm l (j+1)]
  constructor
  ·rintro (h|⟨i,d',s',o,h1,h2,h3⟩)
   ·split at h
    ·rename_i hL
     simp only [St.stp,newN_mem] at h
     rcases h with h|⟨o,h⟩
     ·exact .inl h
     ·exact .inr ⟨0,d,s,o,by simp,by simpa using hL,h⟩
    ·exact .inl h
   ·exact .inr ⟨i+1,d',s',o,by simpa using h1,by rwa [show j+(i+1)=j+1+i by omega],h3⟩
  ·rintro (h|⟨i,d',s',o,h1,h2,h3⟩)
   ·left
    split
    ·simp only [St.stp,newN_mem];exact .inl h
    ·exact h
   ·cases i with
    |zero =>
     simp at h1
     obtain ⟨rfl,rfl⟩:=h1
     left
     simp only [Nat.add_zero] at h2
     rw [if_pos h2]
     simp only [St.stp,newN_mem]
     exact .inr ⟨o,h3⟩
    |succ i=>exact .inr ⟨i,d',s',o,by simpa using h1,by rwa [show j+1+i=j+(i+1) by omega],h3⟩
theorem runS_all:∀ {c:Ctx} {st:St} {is:List I} {ss:List Stp} {st':St},Trace c st is ss st'→∀ (L:Nat→Bool) (j:Nat),(∀ i,i<is.length→L (j+i)=true)→runS L j ((is.map (·.dst)).zip ss) st=st':=by
 intro c st is ss st' h
 induction h with
 |nil st=>intro L j _;rfl
 |cons st i s is ss st' hv hn _ ih =>
  intro L j hL
  simp only [List.map_cons,List.zip_cons_cons,runS]
  have h0:=hL 0 (by simp)
  simp only [Nat.add_zero] at h0
  rw [if_pos h0]
  exact ih L (j+1) (fun i hi=>by have:=hL (i+1) (by simp;omega);rwa [show j+(i+1)=j+1+i by omega] at this)
theorem trace_len {c:Ctx} {st:St} {is:List I} {ss:List Stp} {st':St} (h:Trace c st is ss st'):ss.length=is.length:=by
 induction h with
 |nil=>rfl
 |cons _ _ _ _ _ _ _ _ _ ih=>simp [ih]
theorem trace_at {c:Ctx} {st:St} {is:List I} {ss:List Stp} {st':St} (h:Trace c st is ss st'):∀ (j:Nat) (i:I) (s:Stp) (j0:Nat) (L:Nat→Bool),is[j]?=some i→ss[j]?=some s→(∀ x,x<j→L (j0+x)=true)→(∀ x,j≤x→L (j0+x)=false) →
  Valid c i (runS L j0 ((is.map (·.dst)).zip ss) st) s∧∀ k,k∈s.new→k∉(runS L j0 ((is.map (·.dst)).zip ss) st).nm:=by
 induction h with
 |nil st=>intro j i s j0 L hi;simp at hi
 |cons st i0 s0 is ss st' hv hn _ ih =>
  intro j i s j0 L hi hs h1 h2
  simp only [List.map_cons,List.zip_cons_cons,runS]
  cases j with
  |zero =>
   simp at hi hs
   subst hi;subst hs
   have h0:=h2 0 (by omega)
   simp only [Nat.add_zero] at h0
   rw [if_neg (by rw [h0];simp)]
   have hrest:∀ (l:List (Option Nat×Stp)) (j':Nat),j0≤j'→runS L j' l st=st:=by
    intro l
    induction l with
    |nil=>intro _ _;rfl
    |cons p l ih2 =>
     intro j' hj
     obtain ⟨d,s⟩:=p
     simp only [runS]
     have:=h2 (j'-j0) (by omega)
     rw [show j0+(j'-j0)=j' by omega] at this
     rw [if_neg (by rw [this];simp)]
     exact ih2 (j'+1) (by omega)
   rw [hrest _ (j0+1) (by omega)]
   exact ⟨hv,hn⟩
  |succ j =>
   simp at hi hs
   have h0:=h1 0 (by omega)
   simp only [Nat.add_zero] at h0
   rw [if_pos h0]
   exact ih j i s (j0+1) L hi hs (fun x hx=>by have:=h1 (x+1) (by omega);rwa [show j0+(x+1)=j0+1+x by omega] at this) (fun x hx=>by have:=h2 (x+1) (by omega);rwa [show j0+(x+1)=j0+1+x by omega] at this)
end Go.Bx
end
section
namespace Go.Bx
open Go.RowKit
def bnd (e:Edge):Bool:=Region.binds .any e
def inAnc (anc:List Nat) (j i:Nat):Bool:=decide (i<j)&&(anc.getD j 0).testBit i
def ancOk (ops:Array Oper) (anc:List Nat):Bool:=
 (List.range ops.size).all fun j =>
  match ops[j]? with
  |none=>false
  |some o=>o.after.toList.all (fun e=>!bnd e || decide (e.on<j))&&(List.range j).all (fun i=>!(inAnc anc j i) || o.after.toList.any (fun e=>bnd e&&(e.on == i || inAnc anc e.on i)))
def hitS (a:I) (b:I):Bool:=
 match a.dst with
 |some d=>b.slots.contains d || b.dst == some d
 |none=>false
def meetS (a b:I):Bool:=hitS a b || hitS b a
def slotsOk (is:List I) (anc:List Nat):Bool:=
 (List.range is.length).all fun j=>(List.range j).all fun i =>
  match is[i]?,is[j]? with
  |some a,some b=>!meetS a b || inAnc anc j i
  |_,_=>false
def hitL (a b:Lg):Bool:=a.wr.any fun k=>b.wr.contains k || b.rd.contains k
def meetL (a b:Lg):Bool:=hitL a b || hitL b a
def ownOk (lg:List Lg) (anc:List Nat):Bool:=
 (List.range lg.length).all fun j=>(List.range j).all fun i =>
  match lg[i]?,lg[j]? with
  |some a,some b=>!meetL a b || inAnc anc j i
  |_,_=>false
theorem slotsOk_at {is:List I} {anc:List Nat} (h:slotsOk is anc=true) {i j:Nat} (hij:i<j) {a b:I} (ha:is[i]?=some a) (hb:is[j]?=some b) (hm:meetS a b=true):inAnc anc j i=true:=by
 have hj:j<is.length:=(List.getElem?_eq_some_iff.1 hb).1
 have:=List.all_eq_true.1 (List.all_eq_true.1 h j (List.mem_range.2 hj)) i (List.mem_range.2 hij)
 simp only [ha,hb,hm,Bool.not_true,Bool.false_or] at this
 exact this
theorem ownOk_at {lg:List Lg} {anc:List Nat} (h:ownOk lg anc=true) {i j:Nat} (hij:i<j) {a b:Lg} (ha:lg[i]?=some a) (hb:lg[j]?=some b) (hm:meetL a b=true):inAnc anc j i=true:=by
 have hj:j<lg.length:=(List.getElem?_eq_some_iff.1 hb).1
 have:=List.all_eq_true.1 (List.all_eq_true.1 h j (List.mem_range.2 hj)) i (List.mem_range.2 hij)
 simp only [ha,hb,hm,Bool.not_true,Bool.false_or] at this
 exact this
def Shut (ops:Array Oper) (L:Nat→Bool):Prop:=∀ j o,ops[j]?=some o→L j=true→∀ e,e∈o.after.toList→bnd e=true→L e.on=true
theorem anc_listed {ops:Array Oper} {anc:List Nat} {L:Nat→Bool} (ha:ancOk ops anc=true) (hs:Shut ops L):∀ (j:Nat) (o:Oper),ops[j]?=some o→(∀ e,e∈o.after.toList→bnd e=true→L e.on=true)→∀ i,inAnc anc j i=true→L i=true:=by
 intro j
 induction j using Nat.strongRecOn with
 |_ j ih =>
  intro o ho hl i hi
  have hj:j<ops.size:=(Array.getElem?_eq_some_iff.1 ho).1
  have h1:=List.all_eq_true.1 ha j (List.mem_range.2 hj)
  simp only [ho,Bool.and_eq_true] at h1
  have hij:i<j:=by simp [inAnc] at hi;exact hi.1
  have h2:=List.all_eq_true.1 h1.2 i (List.mem_range.2 hij)
  simp only [hi,Bool.not_true,Bool.false_or] at h2
  obtain ⟨e,he,hb⟩:=List.any_eq_true.1 h2
  simp only [Bool.and_eq_true,Bool.or_eq_true,beq_iff_eq] at hb
  have hle:=hl e he hb.1
  rcases hb.2 with h3|h3
  ·rw [←h3];exact hle
  ·have hlt:e.on<j:=by
    have:=List.all_eq_true.1 h1.1 e he
    simp [hb.1] at this
    exact this
   have ho':∃ o',ops[e.on]?=some o':=⟨ops[e.on]'(by omega),Array.getElem?_eq_getElem (by omega)⟩
   obtain ⟨o',ho'⟩:=ho'
   exact ih e.on hlt o' ho' (fun e' he' hb'=>hs e.on o' ho' hle e' he' hb') i h3
theorem ready_mem {ops:Array Oper} {listed:Array Bool} {i:Nat} (h:i∈Region.ready .any ops listed) :
  i<ops.size∧listed.getD i true=false∧∃ o,ops[i]?=some o∧∀ e,e∈o.after.toList→bnd e=true→listed.getD e.on false=true:=by
 unfold Region.ready at h
 obtain ⟨h1,h2⟩:=List.mem_filter.1 h
 have hi:=List.mem_range.1 h1
 simp only [Bool.and_eq_true,Bool.not_eq_true',Array.getElem?_eq_getElem hi,Option.map_some,Option.getD_some] at h2
 refine ⟨hi,h2.1,ops[i],Array.getElem?_eq_getElem hi,fun e he hb=>?_⟩
 have:=Array.all_eq_true'.1 h2.2 e (Array.mem_toList_iff.1 he)
 unfold bnd at hb
 simpa [hb] using this
theorem ready_nil {ops:Array Oper} {anc:List Nat} {listed:Array Bool} (ha:ancOk ops anc=true) (hsz:listed.size=ops.size) (h:Region.ready .any ops listed=[]):∀ j,j<ops.size→listed.getD j false=true:=by
 intro j
 induction j using Nat.strongRecOn with
 |_ j ih =>
  intro hj
  cases hl:listed.getD j false with
  |true=>rfl
  |false =>
   exfalso
   have h1:=List.all_eq_true.1 ha j (List.mem_range.2 hj)
   have hoj:=Array.getElem?_eq_getElem hj
   simp only [hoj,Bool.and_eq_true] at h1
   have hmem:j∈Region.ready .any ops listed:=by
    unfold Region.ready
    refine List.mem_filter.2 ⟨List.mem_range.2 hj,?_⟩
    have hlt:listed.getD j true=false:=by
     have hjl:j<listed.size:=by omega
     simp [hjl] at hl ⊢
     exact hl
    simp only [hlt,hoj,Bool.not_false,Bool.true_and,Option.map_some,Option.getD_some]
    refine Array.all_eq_true'.2 fun e he=>?_
    cases hb:Region.binds .any e with
    |false=>simp
    |true =>
     have:=List.all_eq_true.1 h1.1 e (Array.mem_toList_iff.2 he)
     simp [bnd,hb] at this
     simp [ih e.on this (by omega)]
   rw [h] at hmem
   cases hmem
section
variable {c:Ctx}
theorem wpOpIn_step {c:Ctx} {ops:Array Oper} {Q:Exit→Act→World→Prop} {i:Nat} {o:Oper} {K:Act→World→Prop} {a:Act} {w:World} (ho:ops[i]?=some o)
  (h:∀ K':Act→World→Prop,(∀ a w,K a w→K' a w)→if Region.wanted o (yielded ops a.tmps)=true then o.wpIn c.F 0 c.P a w K' Q else K' (a.put o.dst undef) w):wpOpIn c.F 0 c.P ops Q i K a w:=by
 have:=h K (fun _ _ h=>h)
 unfold wpOpIn
 rw [ho]
 show if Region.wanted o (yielded ops a.tmps)=true then _ else _
 split
 ·rename_i hw;rw [if_pos hw] at this;exact this
 ·rename_i hw;rw [if_neg hw] at this;exact ⟨fun _ _=>trivial,this⟩
theorem wp_any {ops:Array Oper} {is:List I} {ss:List Stp} {st st':St} {anc:List Nat} (hT:Trace c st is ss st') (hl:ops.size=is.length) (hc:∀ (j:Nat) (o:Oper) (i:I),ops[j]?=some o→is[j]?=some i→Cmp c ops o i)
    (ha:ancOk ops anc=true) (hsl:slotsOk is anc=true) (hol:ownOk (ss.map Stp.lg) anc=true) {Q:Exit→Act→World→Prop} (hQ:∀ β a w,Holds c β st' a w→Q .normal a w) (hn:(keysO st.own).Nodup) :
    ∀ (fuel : Nat) (listed : Array Bool) (β : Names) (a : Act) (w : World), listed.size = ops.size → (fuel + (List.range ops.size).countP (fun j => listed.getD j false) = ops.size) → Shut ops (fun j => listed.getD j false) →
      Holds c β (runS (fun j=>listed.getD j false) 0 ((is.map (·.dst)).zip ss) st) a w→wpAnyIn c.F 0 c.P .any ops Q fuel listed a w:=by
  have hsl2:=trace_len hT
  have hdone:∀ (listed:Array Bool) (β:Names) (a:Act) (w:World),listed.size=ops.size→Region.ready .any ops listed=[]→Holds c β (runS (fun j=>listed.getD j false) 0 ((is.map (·.dst)).zip ss) st) a w→Q .normal a w:=by
    intro listed β a w hsz hr H
    have hall:=ready_nil ha hsz hr
    rw [runS_all hT (fun j=>listed.getD j false) 0 (fun i hi=>by simpa using hall i (by omega))] at H
    exact hQ β a w H
  intro fuel
  induction fuel with
  |zero =>
    intro listed β a w hsz hf hsh H
    have hall:∀ j,j<ops.size→listed.getD j false=true:=by
      intro j hj
      have:(List.range ops.size).countP (fun j=>listed.getD j false)=(List.range ops.size).length:=by rw [List.length_range];omega
      exact List.countP_eq_length.1 this j (List.mem_range.2 hj)
    have hr:Region.ready .any ops listed=[]:=by
      cases h:Region.ready .any ops listed with
      |nil=>rfl
      |cons x l =>
        obtain ⟨h1,h2,_⟩:=ready_mem (by rw [h];exact List.mem_cons_self)
        have:=hall x h1
        have hx:x<listed.size:=by omega
        simp [hx] at h2 this
        rw [h2] at this
        cases this
    exact ⟨hr,hdone listed β a w hsz hr H⟩
  |succ fuel ih =>
    intro listed β a w hsz hf hsh H
    refine ⟨fun hr=>hdone listed β a w hsz hr H,fun J hJ=>?_⟩
    obtain ⟨h1,h2,o,ho,h3⟩:=ready_mem hJ
    have hJl:J<listed.size:=by omega
    have hLJ:listed.getD J false=false:=by
      simp [hJl] at h2 ⊢
      exact h2
    have hJi:is[J]?=some (is[J]'(by omega)):=List.getElem?_eq_getElem (by omega)
    have hJs:ss[J]?=some (ss[J]'(by omega)):=List.getElem?_eq_getElem (by omega)
    generalize hiJ:is[J]'(by omega)=iJ at hJi
    generalize hsJ:ss[J]'(by omega)=sJ at hJs
    have hsteps:∀ (i:Nat) (d:Option Nat) (s:Stp),((is.map (·.dst)).zip ss)[i]?=some (d,s)→∃ ii,is[i]?=some ii∧ss[i]?=some s∧ii.dst=d:=by
      intro i d s h
      rw [List.getElem?_zip_eq_some] at h
      obtain ⟨q1,q2⟩:=h
      rw [List.getElem?_map,Option.map_eq_some_iff] at q1
      obtain ⟨ii,q3,q4⟩:=q1
      exact ⟨ii,q3,q2,q4⟩
    have hahead:∀ i,inAnc anc J i=true→listed.getD i false=true:=anc_listed ha hsh J o ho h3
    have hbehind:∀ i,inAnc anc i J=true→i<ops.size→listed.getD i false=false:=by
      intro i hi hlt
      cases h:listed.getD i false with
      |false=>rfl
      |true =>
        have hoi:=Array.getElem?_eq_getElem hlt
        have:=anc_listed ha hsh i _ hoi (fun e he hb=>hsh i _ hoi h e he hb) J hi
        rw [hLJ] at this
        cases this
    have hmeet:∀ i ii si,is[i]?=some ii→ss[i]?=some si→(meetS ii iJ=true∨meetL si.lg sJ.lg=true)→i≠J→listed.getD i false=decide (i<J):=by
      intro i ii si hi hs hm hne
      have hlt:i<ops.size:=by have:=(List.getElem?_eq_some_iff.1 hi).1;omega
      have hlgi:(ss.map Stp.lg)[i]?=some si.lg:=by simp [hs]
      have hlgJ:(ss.map Stp.lg)[J]?=some sJ.lg:=by simp [hJs]
      have hsym:∀ x y,meetS x y=meetS y x:=fun x y=>by simp [meetS,Bool.or_comm]
      have hsymL:∀ x y,meetL x y=meetL y x:=fun x y=>by simp [meetL,Bool.or_comm]
      by_cases hij:i<J
      · have:inAnc anc J i=true:=by
          rcases hm with hm|hm
          · exact slotsOk_at hsl hij hi hJi hm
          · exact ownOk_at hol hij hlgi hlgJ hm
        rw [hahead i this]
        simp [hij]
      · have:inAnc anc i J=true:=by
          rcases hm with hm|hm
          · exact slotsOk_at hsl (by omega) hJi hi (by rw [hsym];exact hm)
          · exact ownOk_at hol (by omega) hlgJ hlgi (by rw [hsymL];exact hm)
        rw [hbehind i this hlt]
        simp;omega
    obtain ⟨hv,hnew⟩:=trace_at hT J iJ sJ 0 (fun x=>decide (x<J)) hJi hJs (fun x hx=>by simp;exact hx) (fun x hx=>by simp;exact hx)
    refine wpOpIn_step ho fun K' hK'=>?_
    refine hv _ (fun k hk=>?_) (fun k hk=>?_) (fun k hk=>?_) ops o (hc J o iJ ho hJi) β a w H Q K' fun β' a' w' H'=>hK' a' w' ?_
    · 
      refine runS_get _ 0 _ _ rfl (fun i d s hi hd=>?_)
      obtain ⟨ii,q1,q2,q3⟩:=hsteps i d s hi
      simp only [Nat.zero_add]
      by_cases hne:i=J
      · subst hne;rw [hLJ];simp
      · exact hmeet i ii s q1 q2 (.inl (by simp [meetS,hitS,q3,hd,hk])) hne
    · refine runS_own _ 0 _ _ hn hn rfl (fun i d s hi hd=>?_)
      obtain ⟨ii,q1,q2,q3⟩:=hsteps i d s hi
      simp only [Nat.zero_add]
      by_cases hne:i=J
      · subst hne;rw [hLJ];simp
      · refine hmeet i ii s q1 q2 (.inr ?_) hne
        unfold meetL hitL
        rw [Bool.or_eq_true]
        left
        refine List.any_eq_true.2 ⟨k,by simp only [Stp.lg];exact List.mem_append_left _ hd,?_⟩
        simp [Stp.lg,hk]
    · 
      intro hin
      rw [runS_nm] at hin
      have h0:=hnew k hk
      rw [runS_nm] at h0
      rcases hin with hin|⟨i,d,s,ow,q0,qL,q5⟩
      · exact h0 (.inl hin)
      · obtain ⟨ii,q1,q2,q3⟩:=hsteps i d s q0
        simp only [Nat.zero_add] at qL
        by_cases hne:i=J
        · subst hne;rw [hLJ] at qL;cases qL
        · have:=hmeet i ii s q1 q2 (.inr (by
            unfold meetL hitL
            rw [Bool.or_eq_true]
            left
            refine List.any_eq_true.2 ⟨k,by simp only [Stp.lg];exact List.mem_append_left _ (List.mem_map.2 ⟨(k,some ow),q5,rfl⟩),?_⟩
            simp [Stp.lg,hk])) hne
          rw [this] at qL
          exact h0 (.inr ⟨i,d,s,ow,q0,by simpa using qL,q5⟩)
    · 
      have hL':∀ j,(listed.setIfInBounds J true).getD j false=(listed.getD j false || j == J):=fun j=>by
        simp only [Array.getD_eq_getD_getElem?,Array.getElem?_setIfInBounds]
        by_cases e:J=j
        · subst e;simp [hJl]
        · have:(j == J)=false:=by simp;exact fun x=>e x.symm
          simp [e,this]
      have hfun:(fun j=>(listed.setIfInBounds J true).getD j false)=(fun j=>listed.getD j false || j == J):=funext hL'
      refine ih (listed.setIfInBounds J true) β' a' w' (by simp [hsz]) ?_ ?_ ?_
      · rw [hfun]
        have hcount:(List.range ops.size).countP (fun j=>listed.getD j false || j == J)=(List.range ops.size).countP (fun j=>listed.getD j false)+1:=by
          have:∀ n,J<n→(List.range n).countP (fun j=>listed.getD j false || j == J)=(List.range n).countP (fun j=>listed.getD j false)+1:=by
            intro n
            induction n with
            |zero=>intro h;omega
            |succ n ihn =>
              intro h
              rw [List.range_succ,List.countP_append,List.countP_append]
              by_cases e:n=J
              · subst e
                have:(List.range n).countP (fun j=>listed.getD j false || j == n)=(List.range n).countP (fun j=>listed.getD j false):=by
                  apply List.countP_congr
                  intro x hx
                  have:=List.mem_range.1 hx
                  have h5:(x == n)=false:=by simp;omega
                  simp [h5]
                rw [this,List.countP_singleton,List.countP_singleton,hLJ]
                simp
              · rw [ihn (by omega)]
                have h5:(n == J)=false:=by simp;exact e
                simp [h5]
                omega
          exact this ops.size h1
        rw [hcount]
        omega
      · intro j oj hoj hj e he hb
        simp only [hL'] at hj ⊢
        rcases Bool.or_eq_true _ _▸hj with h|h
        · have:=hsh j oj hoj h e he hb
          simp only at this
          rw [this];rfl
        · simp at h
          subst h
          rw [ho] at hoj
          cases hoj
          rw [h3 e he hb];rfl
      · rw [hfun]
        have hz:((is.map (·.dst)).zip ss)[J-0]?=some (iJ.dst,sJ):=by
          rw [List.getElem?_zip_eq_some]
          exact ⟨by simp [hJi],by simpa using hJs⟩
        have hmore:=runS_more (fun j=>listed.getD j false) hLJ ((is.map (·.dst)).zip ss) 0 st iJ.dst sJ hn (Nat.zero_le _) hz (fun i d' s' hi hg hLi=>by
          obtain ⟨ii,q1,q2,q3⟩:=hsteps i d' s' (by simpa using hg)
          have hnm:¬ (meetS ii iJ=true∨meetL s'.lg sJ.lg=true):=fun hm=>by
            have:=hmeet i ii s' q1 q2 hm (by omega)
            rw [this] at hLi
            simp at hLi
            omega
          refine ⟨fun x hx hd=>hnm (.inl ?_),fun k hk hk2=>hnm (.inr ?_)⟩
          · simp [meetS,hitS,q3,hd,hx]
          · unfold meetL hitL
            rw [Bool.or_eq_true]
            left
            refine List.any_eq_true.2 ⟨k,by simp only [Stp.lg];exact List.mem_append_left _ hk2,?_⟩
            simp only [Stp.lg,Bool.or_eq_true]
            left
            simp only [List.contains_iff_mem]
            exact List.mem_append_left _ hk)
        exact H'.ext hmore (runS_nodup _ _ _ _ hn)
end
end Go.Bx
end
section
namespace Go.Bx
open Go.RowKit
def ownNames:List (Nat×Own)→List Nat
 |[]=>[]
 |(k,.fix cs)::l=>k::(namesL cs++ownNames l)
 |(k,.lit _ _ _ cs)::l=>k::(namesL cs++ownNames l)
 |(k,.row _ _ _ _)::l=>k::ownNames l
 |(k,.mp _ _)::l=>k::ownNames l
 |(k,.lp _ _)::l=>k::ownNames l
theorem ownNames_key:∀ {l:List (Nat×Own)} {k:Nat},k∈keysO l→k∈ownNames l
 |[],k,h=>by simp [keysO] at h
 |(k',o)::l,k,h=>by
  simp only [keysO,List.map_cons,List.mem_cons] at h
  cases o<;>simp only [ownNames,List.mem_cons,List.mem_append]<;>rcases h with h|h<;>first
   |exact .inl h
   |exact .inr (.inr (ownNames_key h))
   |exact .inr (ownNames_key h)
theorem ownNames_in:∀ {l:List (Nat×Own)} {k:Nat} {o:Own},(k,o)∈l→∀ j,j∈(match o with|.fix cs=>namesL cs|.lit _ _ _ cs=>namesL cs|.row _ _ _ _=>[]|.mp _ _=>[]|.lp _ _=>[])→j∈ownNames l
 |[],k,o,h=>by simp at h
 |(k',o')::l,k,o,h=>fun j hj=>by
  rcases List.mem_cons.1 h with h|h
  ·simp at h
   obtain ⟨rfl,rfl⟩:=h
   cases o<;>simp only at hj<;>simp only [ownNames,List.mem_cons,List.mem_append]
   ·exact .inr (.inl hj)
   ·simp at hj
   ·exact .inr (.inl hj)
   ·simp at hj
   ·simp at hj
  ·have:=ownNames_in h j hj
   cases o'<;>simp only [ownNames,List.mem_cons,List.mem_append]
   ·exact .inr (.inr this)
   ·exact .inr this
   ·exact .inr (.inr this)
   ·exact .inr this
   ·exact .inr this
theorem OwnOk.forget {β β':Names} {E E':Nat→Prop} {w w':World} {k:Nat} {o:Own} (h:OwnOk β E w k o) (hl:Lasts E E' w w') (hk:β' k=β k) (hn:∀ j,j∈(match o with|.fix cs=>namesL cs|.lit _ _ _ cs=>namesL cs|.row _ _ _ _=>[]|.mp _ _=>[]|.lp _ _=>[])→β' j=β j)
  (hb:∀ b,β.blk k=some b→w'.heap[b]?=w.heap[b]?):OwnOk β' E' w' k o:=by
 cases o with
 |fix cs =>
  obtain ⟨b,arr,e,h1,h2,h3,h4⟩:=h
  exact ⟨b,arr,e,hk.trans h1,(hb b (by simp [Names.blk,h1,blkOf])).trans h2,h3,fun j v x hv hx=>(h4 j v x hv hx).lasts hl (fun n hm=>hn n (names_mem hx n hm))⟩
 |row e sz n f =>
  obtain ⟨v,xs,h1,h2,h3,h4⟩:=h
  refine ⟨v,xs,hk.trans h1,h2.lasts (fun b hv=>hb b (by simp [Names.blk,h1,hv])),h3,fun i j hi hj x hx=>?_⟩
  obtain ⟨u,hu,hr⟩:=h4 i j hi hj x hx
  exact ⟨u,hu,hr.lasts hl⟩
 |lit e sz n cs =>
  obtain ⟨v0,xs,h1,h2,h3,h4⟩:=h
  exact ⟨v0,xs,hk.trans h1,h2.lasts (fun b hv=>hb b (by simp [Names.blk,h1,hv])),h3,fun j v x hv hx=>(h4 j v x hv hx).lasts hl (fun n hm=>hn n (names_mem hx n hm))⟩
 |mp z g =>
  obtain ⟨b,es,cl,h1,h2,h3,h4,h5,h6⟩:=h
  exact ⟨b,es,cl,hk.trans h1,(hb b (by simp [Names.blk,h1,blkOf])).trans h2,h3,h4,fun i x n hi hx=>⟨(h5 i x n hi hx).1.lasts hl,(h5 i x n hi hx).2⟩,h6⟩
 |lp l r=>exact ⟨hk.trans h.1,(hb l (by simp [Names.blk,h.1,LpO.blk])).trans h.2⟩
mutual
def V.ren (p:Nat→Nat):V→V
 |.own k off=>.own (p k) off
 |.osl k=>.osl (p k)
 |.osub k sz lo n=>.osub (p k) sz lo n
 |.optr k sz i off=>.optr (p k) sz i off
 |.fn f a b=>.fn f (renL p a) (renL p b)
 |.ifc t v=>.ifc t (v.ren p)
 |.ag cs=>.ag (renL p cs)
 |.tup cs=>.tup (renL p cs)
 |.gd c v=>.gd c (v.ren p)
 |.un=>.un
 |.d x=>.d x
 |.mem cs=>.mem cs
def renL (p:Nat→Nat):List V→List V
 |[]=>[]
 |v::l=>v.ren p::renL p l
end
def Own.ren (p:Nat→Nat):Own→Own
 |.fix cs=>.fix (renL p cs)
 |.lit e sz n cs=>.lit e sz n (renL p cs)
 |.row e sz n f=>.row e sz n f
 |.mp z g=>.mp z g
 |.lp z g=>.lp z g
def renO (p:Nat→Nat):List (Nat×Own)→List (Nat×Own)
 |[]=>[]
 |(k,o)::l=>(p k,o.ren p)::renO p l
def renE (p:Nat→Nat):List (Nat×V)→List (Nat×V)
 |[]=>[]
 |(s,v)::l=>(s,v.ren p)::renE p l
theorem renL_eq (p:Nat→Nat) (l:List V):renL p l=l.map (V.ren p):=by
 induction l with
 |nil=>rfl
 |cons v l ih=>simp [renL,ih]
theorem renO_eq (p:Nat→Nat) (l:List (Nat×Own)):renO p l=l.map fun q=>(p q.1,q.2.ren p):=by
 induction l with
 |nil=>rfl
 |cons v l ih=>simp [renO,ih]
mutual
theorem V.ren_ren {p q:Nat→Nat} (h:∀ k,p (q k)=k):∀ v:V,(v.ren q).ren p=v
 |.own k off=>by simp [V.ren,h]
 |.osl k=>by simp [V.ren,h]
 |.osub k sz lo n=>by simp [V.ren,h]
 |.optr k sz i off=>by simp [V.ren,h]
 |.fn f a b=>by simp [V.ren,renL_ren h a,renL_ren h b]
 |.ifc t v=>by simp [V.ren,V.ren_ren h v]
 |.ag cs=>by simp [V.ren,renL_ren h cs]
 |.tup cs=>by simp [V.ren,renL_ren h cs]
 |.gd c v=>by simp [V.ren,V.ren_ren h v]
 |.un=>rfl
 |.d x=>rfl
 |.mem cs=>rfl
theorem renL_ren {p q:Nat→Nat} (h:∀ k,p (q k)=k):∀ l:List V,renL p (renL q l)=l
 |[]=>rfl
 |v::l=>by simp [renL,V.ren_ren h v,renL_ren h l]
end
theorem RelV.ren {β β':Names} {E:Nat→Prop} {w:World} {p:Nat→Nat} (hp:∀ k v,β k=some v→β' (p k)=some v) {v:Value} {x:V} (h:RelV β E w v x):RelV β' E w v (x.ren p):=by
 induction h with
 |un v=>exact .un v
 |d v x h=>exact .d v x h
 |mem cs b off g hcell hrel=>exact .mem cs b off g hcell hrel
 |own k off b h=>exact .own _ off b (hp _ _ h)
 |osl k v h h1=>exact .osl _ v (hp _ _ h) h1
 |osub k sz lo n b m c a h hn' ha=>exact .osub _ sz lo n b m c a (hp _ _ h) hn' ha
 |osub0 k sz A h=>exact .osub0 _ sz A (hp _ _ h)
 |optr k sz i off b m c h=>exact .optr _ sz i off b m c (hp _ _ h)
 |fn f fi ca first cap h1 h2 _ _ ih1 ih2 =>
  simp only [V.ren,renL_eq]
  refine .fn f fi ca _ _ (by simpa using h1) (by simpa using h2) (fun j v x hv hx=>?_) (fun j v x hv hx=>?_)
  ·rw [List.getElem?_map] at hx
   obtain ⟨y,hy,rfl⟩:=Option.map_eq_some_iff.1 hx
   exact ih1 j v y hv hy
  ·rw [List.getElem?_map] at hx
   obtain ⟨y,hy,rfl⟩:=Option.map_eq_some_iff.1 hx
   exact ih2 j v y hv hy
 |ifc t v x _ ih=>exact .ifc t v _ ih
 |ag arr cs h1 _ ih =>
  simp only [V.ren,renL_eq]
  refine .ag arr _ (by simpa using h1) fun j v x hv hx=>?_
  rw [List.getElem?_map] at hx
  obtain ⟨y,hy,rfl⟩:=Option.map_eq_some_iff.1 hx
  exact ih j v y hv hy
 |tup arr cs h1 _ ih =>
  simp only [V.ren,renL_eq]
  refine .tup arr _ (by simpa using h1) fun j v x hv hx=>?_
  rw [List.getElem?_map] at hx
  obtain ⟨y,hy,rfl⟩:=Option.map_eq_some_iff.1 hx
  exact ih j v y hv hy
 |gd c v x _ h' ih=>exact .gd c v _ ih h'
theorem OwnOk.ren {β β':Names} {E:Nat→Prop} {w:World} {p:Nat→Nat} (hp:∀ k v,β k=some v→β' (p k)=some v) {k:Nat} {o:Own} (h:OwnOk β E w k o):OwnOk β' E w (p k) (o.ren p):=by
 have hL:∀ {arr:Array Value} {cs:List V},(∀ (j:Nat) (v:Value) (x:V),arr[j]?=some v→cs[j]?=some x→RelV β E w v x)→∀ (j:Nat) (v:Value) (x:V),arr[j]?=some v→(renL p cs)[j]?=some x→RelV β' E w v x:=fun hr j v x hv hx=>by
  rw [renL_eq,List.getElem?_map] at hx
  obtain ⟨y,hy,rfl⟩:=Option.map_eq_some_iff.1 hx
  exact (hr j v y hv hy).ren hp
 cases o with
 |fix cs =>
  obtain ⟨b,arr,e,h1,h2,h3,h4⟩:=h
  exact ⟨b,arr,e,hp _ _ h1,h2,by simpa [renL_eq] using h3,hL h4⟩
 |row e sz n f =>
  obtain ⟨v,xs,h1,h2,h3,h4⟩:=h
  exact ⟨v,xs,hp _ _ h1,h2,h3,h4⟩
 |lit e sz n cs =>
  obtain ⟨v,xs,h1,h2,h3,h4⟩:=h
  refine ⟨v,xs,hp _ _ h1,h2,by simpa [renL_eq] using h3,fun j u x hu hx=>?_⟩
  rw [renL_eq,List.getElem?_map] at hx
  obtain ⟨y,hy,rfl⟩:=Option.map_eq_some_iff.1 hx
  exact (h4 j u y hu hy).ren hp
 |mp z g =>
  obtain ⟨b,es,cl,h1,h2⟩:=h
  exact ⟨b,es,cl,hp _ _ h1,h2⟩
 |lp l r=>exact ⟨hp _ _ h.1,h.2⟩
theorem RelV.unren {β:Names} {E:Nat→Prop} {w:World} {p:Nat→Nat} {v:Value} {y:V} (h:RelV β E w v y):∀ x:V,x.ren p=y→RelV (fun n=>β (p n)) E w v x:=by
 have hl:∀ {l:List V} {ys:List V},renL p l=ys→l.length=ys.length∧∀ (j:Nat) (x:V),l[j]?=some x→∃ y,ys[j]?=some y∧x.ren p=y:=by
  intro l ys e
  rw [renL_eq] at e
  subst e
  exact ⟨by simp,fun j x hx=>⟨x.ren p,by simp [hx],rfl⟩⟩
 induction h with
 |un v =>
  intro x e
  cases x<;>simp [V.ren] at e
  exact .un v
 |d v d h =>
  intro x e
  cases x<;>simp [V.ren] at e
  subst e;exact .d v _ h
 |mem cs b off g hcell hrel =>
  intro x e
  cases x<;>simp [V.ren] at e
  subst e;exact .mem _ b off g hcell hrel
 |own k off b h =>
  intro x e
  cases x<;>simp [V.ren] at e
  obtain ⟨rfl,rfl⟩:=e
  exact .own _ _ b h
 |osl k v h h1 =>
  intro x e
  cases x<;>simp [V.ren] at e
  subst e;exact .osl _ v h h1
 |osub k sz lo n b m c a h hn ha =>
  intro x e
  cases x<;>simp [V.ren] at e
  obtain ⟨rfl,rfl,rfl,rfl⟩:=e
  exact .osub _ _ _ _ b m c a h hn ha
 |osub0 k sz A h =>
  intro x e
  cases x<;>simp [V.ren] at e
  obtain ⟨rfl,rfl,rfl,rfl⟩:=e
  exact .osub0 _ _ A h
 |optr k sz i off b m c h =>
  intro x e
  cases x<;>simp [V.ren] at e
  obtain ⟨rfl,rfl,rfl,rfl⟩:=e
  exact .optr _ _ _ _ b m c h
 |fn f fi ca first cap h1 h2 _ _ ih1 ih2 =>
  intro x e
  cases x<;>simp [V.ren] at e
  obtain ⟨rfl,e1,e2⟩:=e
  obtain ⟨l1,g1⟩:=hl e1
  obtain ⟨l2,g2⟩:=hl e2
  refine .fn _ fi ca _ _ (h1.trans l1.symm) (h2.trans l2.symm) (fun j v x hv hx=>?_) (fun j v x hv hx=>?_)
  ·obtain ⟨y,hy,e⟩:=g1 j x hx;exact ih1 j v y hv hy x e
  ·obtain ⟨y,hy,e⟩:=g2 j x hx;exact ih2 j v y hv hy x e
 |ifc t v x _ ih =>
  intro x e
  cases x<;>simp [V.ren] at e
  obtain ⟨rfl,e⟩:=e
  exact .ifc _ _ _ (ih _ e)
 |ag arr cs h1 _ ih =>
  intro x e
  cases x<;>simp [V.ren] at e
  obtain ⟨l1,g1⟩:=hl e
  refine .ag arr _ (h1.trans l1.symm) (fun j v x hv hx=>?_)
  obtain ⟨y,hy,e⟩:=g1 j x hx;exact ih j v y hv hy x e
 |tup arr cs h1 _ ih =>
  intro x e
  cases x<;>simp [V.ren] at e
  obtain ⟨l1,g1⟩:=hl e
  refine .tup arr _ (h1.trans l1.symm) (fun j v x hv hx=>?_)
  obtain ⟨y,hy,e⟩:=g1 j x hx;exact ih j v y hv hy x e
 |gd c v x _ h' ih =>
  intro x e
  cases x<;>simp [V.ren] at e
  obtain ⟨rfl,e⟩:=e
  exact .gd _ _ _ (fun hc=>ih hc _ e) h'
theorem OwnOk.unren {β:Names} {E:Nat→Prop} {w:World} {p:Nat→Nat} {k:Nat} {o:Own} (h:OwnOk β E w (p k) (o.ren p)):OwnOk (fun n=>β (p n)) E w k o:=by
 have hL:∀ {arr:Array Value} {cs:List V},(∀ (j:Nat) (v:Value) (x:V),arr[j]?=some v→(renL p cs)[j]?=some x→RelV β E w v x)→∀ (j:Nat) (v:Value) (x:V),arr[j]?=some v→cs[j]?=some x→RelV (fun n=>β (p n)) E w v x:=fun hr j v x hv hx =>
  (hr j v (x.ren p) hv (by rw [renL_eq,List.getElem?_map,hx];rfl)).unren x rfl
 cases o with
 |fix cs =>
  obtain ⟨b,arr,e,h1,h2,h3,h4⟩:=h
  exact ⟨b,arr,e,h1,h2,by simpa [renL_eq] using h3,hL h4⟩
 |row e sz n f=>exact h
 |lit e sz n cs =>
  obtain ⟨v,xs,h1,h2,h3,h4⟩:=h
  exact ⟨v,xs,h1,h2,by simpa [renL_eq] using h3,fun j u x hu hx=>(h4 j u (x.ren p) hu (by rw [renL_eq,List.getElem?_map,hx];rfl)).unren x rfl⟩
 |mp z g=>exact h
 |lp l r=>exact h
theorem keys_renO (p:Nat→Nat) (l:List (Nat×Own)):keysO (renO p l)=(keysO l).map p:=by rw [renO_eq];simp [keysO,Function.comp_def]
theorem mem_renO {p:Nat→Nat} {l:List (Nat×Own)} {k:Nat} {o:Own}:(k,o)∈renO p l↔∃ k0 o0,(k0,o0)∈l∧k=p k0∧o=o0.ren p:=by
 rw [renO_eq,List.mem_map]
 constructor
 ·rintro ⟨⟨k0,o0⟩,h1,h2⟩
  simp only [Prod.mk.injEq] at h2
  exact ⟨k0,o0,h1,h2.1.symm,h2.2.symm⟩
 ·rintro ⟨k0,o0,h1,rfl,rfl⟩
  exact ⟨(k0,o0),h1,rfl⟩
theorem nodup_map_on {p:Nat→Nat}:∀ {l:List Nat},l.Nodup→(∀ a b,a∈l→b∈l→p a=p b→a=b)→(l.map p).Nodup
 |[],_,_=>by simp
 |x::l,h,hi=>by
  rw [List.nodup_cons] at h
  rw [List.map_cons,List.nodup_cons]
  refine ⟨fun hm=>?_,nodup_map_on h.2 fun a b ha hb=>hi a b (List.mem_cons_of_mem _ ha) (List.mem_cons_of_mem _ hb)⟩
  obtain ⟨y,hy,e⟩:=List.mem_map.1 hm
  exact h.1 (hi y x (List.mem_cons_of_mem _ hy) List.mem_cons_self e▸hy)
theorem OwnsOk.ren {E0:Nat→Prop} {β β':Names} {w:World} {own:List (Nat×Own)} {p:Nat→Nat} (h:OwnsOk E0 β w own) (hn:∀ n,n∈ownNames own→n∈keysO own) (hp:∀ n,n∈keysO own→β' (p n)=β n)
  (hi:∀ a b,a∈keysO own→b∈keysO own→p a=p b→a=b):OwnsOk E0 β' w (renO p own)∧Eo E0 β' (renO p own)=Eo E0 β own:=by
 have hblk:∀ k,k∈keysO own→β'.blk (p k)=β.blk k:=fun k hk=>by simp only [Names.blk,hp k hk]
 have hE:Eo E0 β' (renO p own)=Eo E0 β own:=by
  funext b;apply propext;unfold Eo;rw [keys_renO]
  constructor
  ·rintro (h1|⟨k,h1,h2⟩)
   ·exact .inl h1
   ·obtain ⟨k0,h3,rfl⟩:=List.mem_map.1 h1
    exact .inr ⟨k0,h3,by rw [←hblk k0 h3];exact h2⟩
  ·rintro (h1|⟨k,h1,h2⟩)
   ·exact .inl h1
   ·exact .inr ⟨p k,List.mem_map.2 ⟨k,h1,rfl⟩,by rw [hblk k h1];exact h2⟩
 refine ⟨⟨fun k o hk=>?_,?_,fun k k' h1 h2 hne b h3 h4=>?_,fun k h1 b h3=>?_⟩,hE⟩
 ·obtain ⟨k0,o0,h1,rfl,rfl⟩:=mem_renO.1 hk
  rw [hE]
  have h2:OwnOk (fun n=>if n∈keysO own then β n else none) (Eo E0 β own) w k0 o0:=
   (h.ok k0 o0 h1).forget (Lasts.refl _ _) (if_pos (mem_keys h1)) (fun j hj=>if_pos (hn j (ownNames_in h1 j hj))) (fun _ _=>rfl)
  exact h2.ren fun n v hv=>by
   split at hv
   ·rename_i h5;rw [hp n h5];exact hv
   ·cases hv
 ·rw [keys_renO]
  exact nodup_map_on h.nodup hi
 ·rw [keys_renO] at h1 h2
  obtain ⟨a,ha,rfl⟩:=List.mem_map.1 h1
  obtain ⟨a',ha',rfl⟩:=List.mem_map.1 h2
  rw [hblk a ha] at h3
  rw [hblk a' ha'] at h4
  exact h.apart a a' ha ha' (fun e=>hne (by rw [e])) b h3 h4
 ·rw [keys_renO] at h1
  obtain ⟨a,ha,rfl⟩:=List.mem_map.1 h1
  rw [hblk a ha] at h3
  exact h.lt a ha b h3
theorem OwnsOk.unren {E0:Nat→Prop} {β:Names} {w:World} {own:List (Nat×Own)} {p:Nat→Nat} (h:OwnsOk E0 β w (renO p own)) (hnd:(keysO own).Nodup) (hi:∀ a b,a∈keysO own→b∈keysO own→p a=p b→a=b) :
  OwnsOk E0 (fun n=>β (p n)) w own∧Eo E0 (fun n=>β (p n)) own=Eo E0 β (renO p own):=by
 have hE:Eo E0 (fun n=>β (p n)) own=Eo E0 β (renO p own):=by
  funext b;apply propext;unfold Eo;rw [keys_renO]
  constructor
  ·rintro (h1|⟨k,h1,h2⟩)
   ·exact .inl h1
   ·exact .inr ⟨p k,List.mem_map.2 ⟨k,h1,rfl⟩,h2⟩
  ·rintro (h1|⟨k,h1,h2⟩)
   ·exact .inl h1
   ·obtain ⟨k0,h3,rfl⟩:=List.mem_map.1 h1
    exact .inr ⟨k0,h3,h2⟩
 refine ⟨⟨fun k o hk=>?_,hnd,fun k k' h1 h2 hne b h3 h4=>?_,fun k h1 b h3=>?_⟩,hE⟩
 ·rw [hE]
  exact OwnOk.unren (h.ok (p k) (o.ren p) (mem_renO.2 ⟨k,o,hk,rfl,rfl⟩))
 ·exact h.apart (p k) (p k') (by rw [keys_renO];exact List.mem_map.2 ⟨k,h1,rfl⟩) (by rw [keys_renO];exact List.mem_map.2 ⟨k',h2,rfl⟩) (fun e=>hne (hi k k' h1 h2 e)) b h3 h4
 ·exact h.lt (p k) (by rw [keys_renO];exact List.mem_map.2 ⟨k,h1,rfl⟩) b h3
theorem cell_putObj {w:World} {b:Nat} {ob ob':Obj} (hb:w.heap[b]?=some ob) (hnc:∀ cs e s,ob≠.cells cs e s) {a:Addr} {v:Value} (h:w.cell? a=some v):a.block≠b∧(w.putObj b ob').cell? a=some v:=by
 have hne:a.block≠b:=fun e=>by
  unfold World.cell? at h
  rw [e,hb] at h
  cases ob with
  |cells cs e s=>exact hnc cs e s rfl
  |_=>simp at h
 exact ⟨hne,(World.cell?_of_block (World.putObj_heap_other hne)).trans h⟩
theorem lastsC_putObj {E:Nat→Prop} {w:World} {b:Nat} {ob:Obj} (ob':Obj) (hb:w.heap[b]?=some ob) (hnc:∀ cs e s,ob≠.cells cs e s):LastsC E E w (w.putObj b ob'):=
 fun _ _ hE hc=>⟨hE,(cell_putObj hb hnc hc).2⟩
theorem keeps_putObj {L:Nat→Prop} (w:World) (b:Nat) (ob:Obj) (hL:L b):Keeps L w (w.putObj b ob):=
 ⟨rfl,rfl,rfl,by simp,fun i _ hl=>World.putObj_heap_other (fun e=>hl (e▸hL))⟩
theorem OwnsOk.turn {E0:Nat→Prop} {β:Names} {w:World} {own:List (Nat×Own)} (h:OwnsOk E0 β w own) {b:Nat} {ob:Obj} (ob':Obj) (hb:w.heap[b]?=some ob) (hnc:∀ cs e s,ob≠.cells cs e s) (hno:∀ k,k∈keysO own→β.blk k≠some b):OwnsOk E0 β (w.putObj b ob') own:=
 ⟨fun k o hk=>(h.ok k o hk).lastsC (lastsC_putObj ob' hb hnc) (Names.le.refl β) (fun i hi=>World.putObj_heap_other (fun e=>hno k (mem_keys hk) (e▸hi))),h.nodup,h.apart,fun k hk i hi=>by
  have:=h.lt k hk i hi
  exact ⟨by simpa using this.1,this.2⟩⟩
theorem Holds.turn {c:Ctx} {β:Names} {st:St} {a:Act} {w:World} (H:Holds c β st a w) {b:Nat} {ob:Obj} (ob':Obj) (hb:w.heap[b]?=some ob) (hnc:∀ cs e s,ob≠.cells cs e s) (hno:∀ k,k∈keysO st.own→β.blk k≠some b) (hw:c.w0.heap.size≤b) {l:List Deferred}
  (hm:DfOk c (w.putObj b ob') l):Holds c β st { a with defers:=l } (w.putObj b ob'):=by
 refine ⟨H.sz,hm,fun s=>(H.env s).lastsC' (lastsC_putObj ob' hb hnc) (Names.le.refl β),H.own.turn ob' hb hnc hno,H.fr,H.kn,H.nm,?_,H.fx⟩
 exact ⟨H.kp.os,H.kp.tape,H.kp.output,by simpa using H.kp.size,fun i hi hl=>(World.putObj_heap_other (by omega)).trans (H.kp.block i hi hl)⟩
theorem own_not_deferred {c:Ctx} {β:Names} {st:St} {a:Act} {w:World} (H:Holds c β st a w) {b:Nat} {ds:Option (List Deferred)} (hb:w.heap[b]?=some (Obj.deferred ds)):∀ k,k∈keysO st.own→β.blk k≠some b:=fun k hk e=>by
 obtain ⟨o,ho⟩:=keys_mem hk
 exact (H.own.ok k o ho).obj e hb
theorem leaves_marksD {c:Ctx} {fn:Func} {u:FrameMode} (hu:u≠.run) {R:Ending→World→Prop} {m2:List Deferred} (h2:c.db=[]→m2=[]):∀ (m:List Deferred) {β:Names} {st:St} {a:Act} {w:World},a.defers=m++(c.db++m2)→MarksOk c.rd c.w0 w (m++m2)→Holds c β st a w →
  (∀ (a':Act) (w':World),a'.tmps=a.tmps→a'.defers=c.db++m2→MarksOk c.rd c.w0 w' m2→Holds c β st a' w'→(∀ v x,RelV β (Eo c.E0 β st.own) w v x→RelV β (Eo c.E0 β st.own) w' v x)→LeavesInM Fence.wide 0 c.P fn a.tmps R (c.db++m2) u w')→LeavesInM Fence.wide 0 c.P fn a.tmps R (m++(c.db++m2)) u w
 |[],β,st,a,w,e,hdf,H,h=>h a w rfl e hdf H (fun _ _ h=>h)
 |d::m,β,st,a,w,e,hdf,H,h=>by
  obtain ⟨b,rfl,h1,h3⟩:=hdf.ok d (by simp)
  have hnd:=hdf.nodup
  simp only [List.cons_append,List.map_cons,List.nodup_cons] at hnd
  refine ⟨hu,.inl ⟨b,w.putObj b (Obj.deferred none),rfl,run_takeDeferred h3,?_⟩⟩
  have hm:MarksOk c.rd c.w0 (w.putObj b (Obj.deferred none)) (m++m2):=⟨fun d' hd'=>by
   obtain ⟨b',g1,g2,g3⟩:=hdf.ok d' (by rw [List.cons_append];exact List.mem_cons_of_mem _ hd')
   refine ⟨b',g1,g2,(World.putObj_heap_other fun e=>?_).trans g3⟩
   subst e
   exact hnd.1 (List.mem_map.2 ⟨d',hd',by rw [g1]⟩),hnd.2,fun h=>by have:=hdf.rd0 h;cases this⟩
  have H':=H.turn (Obj.deferred none) h3 (fun _ _ _=>by simp) (own_not_deferred H h3) h1 ⟨m,m2,rfl,hm,h2⟩
  exact leaves_marksD hu h2 m (a:={ a with defers:=m++(c.db++m2) }) rfl hm H' (fun a' w' ha hd hm2 H'' hr=>h a' w' ha hd hm2 H'' (fun v x hv=>hr v x (hv.lastsC' (lastsC_putObj (Obj.deferred none) h3 (fun _ _ _=>by simp)) (Names.le.refl β))))
theorem leaves_marks {c:Ctx} (hdb:c.db=[]) {fn:Func} {R:Ending→World→Prop} (l:List Deferred) {β:Names} {st:St} {a:Act} {w:World} (e:a.defers=l) (H:Holds c β st a w)
  (h:∀ (a':Act) (w':World),a'.tmps=a.tmps→Holds c β st a' w'→∃ v,(results fn a'.tmps).run c.P w'=.ok v w'∧R (.returned v) w'):LeavesInM Fence.wide 0 c.P fn a.tmps R l .returning w:=by
 obtain ⟨m,m2,h1,h2,h3⟩:=H.df
 have:=leaves_marksD (fn:=fn) (R:=R) (u:=.returning) (by simp) h3 m h1 h2 H (fun a' w' ha _ _ H' _=>by
  rw [hdb,h3 hdb]
  have:=h a' w' ha H'
  rw [ha] at this
  exact this)
 rw [←e,h1];exact this
def pk (fx:List Nat) (k n:Nat):Nat:=if n∈fx then 1000000+2*n else 1000001+2*((k+n)*(k+n)+n)
theorem sq_add_inj {a b n m:Nat} (hn:n≤a) (hm:m≤b) (h:a*a+n=b*b+m):a=b∧n=m:=by
 rcases Nat.lt_trichotomy a b with h1|h1|h1
 ·have:(a+1)*(a+1)≤b*b:=Nat.mul_le_mul h1 h1
  have h2:(a+1)*(a+1)=a*a+2*a+1:=by simp only [Nat.add_mul,Nat.mul_add];omega
  omega
 ·subst h1;exact ⟨rfl,by omega⟩
 ·have:(b+1)*(b+1)≤a*a:=Nat.mul_le_mul h1 h1
  have h2:(b+1)*(b+1)=b*b+2*b+1:=by simp only [Nat.add_mul,Nat.mul_add];omega
  omega
theorem pk_ge (fx:List Nat) (k n:Nat):1000000≤pk fx k n:=by unfold pk;split<;>omega
theorem pk_fx {fx:List Nat} {n:Nat} (h:n∈fx) (k:Nat):pk fx k n=1000000+2*n:=by unfold pk;rw [if_pos h]
theorem pk_eq {fx:List Nat} {k k' n m:Nat} (h:pk fx k n=pk fx k' m):n=m∧(n∈fx∨k=k'):=by
 unfold pk at h
 split at h<;>split at h
 ·rename_i h1 h2;exact ⟨by omega,.inl h1⟩
 ·omega
 ·omega
 ·have h3:(k+n)*(k+n)+n=(k'+m)*(k'+m)+m:=by omega
  obtain ⟨h4,h5⟩:=sq_add_inj (by omega) (by omega) h3
  exact ⟨h5,.inr (by omega)⟩
def YAt (P:Program) (l:Nat) (EI LI:Nat→Prop) (wI:World) (βI:Names) (fx:List Nat) (args:List V) (ins outs:List (Nat×Own)) (go:Bool):Prop:=
  ∀ (E0 : Nat → Prop) (β : Names) (w : World) (vals : Array Value), (∀ b, E0 b → b < w.heap.size) → (∀ b, EI b → E0 b) → (∀ b, E0 b → b < wI.heap.size → EI b ∨ LI b) → Keeps LI wI w →
    (∀ k,k∈keysO ins→∀ b,β.blk k=some b→wI.heap.size≤b∨LI b)→(∀ n,n∈fx→β n=βI n)→vals.size=args.length →
    (∀ (j:Nat) (v:Value) (x:V),vals[j]?=some v→args[j]?=some x→RelV β (Eo E0 β ins) w v x)→OwnsOk E0 β w ins →
    ∃ fn tmps asg body,(Instr.yield l vals).run P w=.ok (.round l fn tmps asg body) w∧RoundIn Fence.wide 0 P l fn tmps asg body w fun e w' =>
      ∃ β',e=.returned (.bool go)∧(∀ n,n∈fx→β' n=β n)∧OwnsOk E0 β' w' outs∧Keeps (ownB β ins) w w'∧(∀ k,k∈keysO outs→∀ b,β'.blk k=some b→w.heap.size≤b∨ownB β ins b)
structure CliO (fx:List Nat) (O:Nat→List (Nat×Own)):Prop where
 nodup:∀ k,(keysO (O k)).Nodup
 names:∀ k n,n∈ownNames (O k)→n∈keysO (O k)
 fx:∀ k n,n∈fx→n∈keysO (O k)
def goAt (T:Nat) (stop:Bool) (k:Nat):Bool:=decide (k+1<T) || !stop
def IterC (P:Program) (gf:FuncId) (caps:List V) (args:Nat→List V) (n:Nat):Prop:=
 okF P gf=true∧∀ (l:Nat) (EI LI:Nat→Prop) (wI:World) (βI:Names) (fx:List Nat) (T:Nat) (stop:Bool) (O:Nat→List (Nat×Own)) (vals:Array Value),CliO fx O →
  (stop=false→T=n)→(stop=true→0<T∧T≤n)→(∀ b,EI b→b<wI.heap.size)→LI=ownB βI (O 0)→OwnsOk EI βI wI (O 0)→vals.size=caps.length →
  (∀ (j:Nat) (v:Value) (x:V),vals[j]?=some v→caps[j]?=some x→RelV βI (Eo EI βI (O 0)) wI v x) →
  (∀ k,k<T→YAt P l EI LI wI βI fx (args k) (O k) (O (k+1)) (goAt T stop k)) →
  Calls P gf (#[.func (.yield l) #[] #[]]++vals) wI fun e w'=>∃ v β',e=.returned v∧(∀ n,n∈fx→β' n=βI n)∧OwnsOk EI β' w' (O T)∧Keeps LI wI w'∧(∀ k,k∈keysO (O T)→∀ b,β'.blk k=some b→wI.heap.size≤b∨LI b)
def YR (c:Ctx) (l:Nat) (args:List V) (Z Z':List (Nat×Own)) (go:Bool):Prop:=
  ∀ (d : Option Nat) (x : X) (xs : List X) (st : St), evV st x = .fn (.yield l) [] [] → evS true st x → evVs st xs = args → evSs true st xs → (∀ k o, (k, o) ∈ Z → own? st.own k = some o) →
    Valid c ⟨d,none,.callv x xs⟩ st { val:=.d (.bool go),upd:=callU Z Z',rd:=keysO Z,new:=(keysO Z').filter fun n=>!(keysO Z).contains n }
theorem yr_ok {c:Ctx} {l:Nat} {βI:Names} {fx:List Nat} {args:List V} {O:Nat→List (Nat×Own)} {k:Nat} {go:Bool} (hfn:∀ n,n∈fx→pk fx 0 n∈c.fn∧c.fx (pk fx 0 n)=βI n) (hcl:CliO fx O)
  (hY:YAt c.P l c.E0 c.L c.w0 βI fx args (O k) (O (k+1)) go) (hna:namesL args=[]):YR c l args (renO (pk fx k) (O k)) (renO (pk fx (k+1)) (O (k+1))) go:=by
 intro d x xs st hx hsx hargs hs hin st1 h1 h2 h3 ops o hc β a w H Q K hK
 have hcg:=hc.gd
 have hg:o.guard=none:=by
  cases hg:o.guard with
  |none=>rfl
  |some jw=>simp only [hg] at hcg;obtain ⟨s,_,h⟩:=hcg;cases h
 rw [if_pos (by simp [Region.wanted,hg])]
 have hsl:∀ k,k∈xsSlots xs→get st1.env k=get st.env k:=fun k hk=>h1 k (by simp [I.slots,Go.Bx.O.slots,hk])
 have hslx:∀ k,k∈x.slots→get st1.env k=get st.env k:=fun k hk=>h1 k (by simp [I.slots,Go.Bx.O.slots,hk])
 have e1:=evVs_congr hsl
 have e2:=evSs_congr (p:=true) hsl
 obtain ⟨cl,hcl',hcc⟩:=cOp_call hc.op rfl (by simp)
 obtain ⟨ox,h4,hox,h5⟩:=cCall_val hcc
 obtain ⟨q1,q2⟩:=evVs_ok H h5 (by rw [e2];exact hs)
 rw [e1,hargs] at q1 q2
 have hv0:=evV_ok H hox (by rw [evS_congr hslx];exact hsx)
 rw [evV_congr hslx,hx] at hv0
 have hu:a.eval ox=.func (.yield l) #[] #[]:=by
  generalize a.eval ox=u at *
  cases hv0 with
  |fn _ fi ca _ _ g1 g2 r1 r2=>rw [Array.eq_empty_of_size_eq_zero g1,Array.eq_empty_of_size_eq_zero g2]
 have hin1:∀ m o,(m,o)∈renO (pk fx k) (O k)→own? st1.own m=some o:=fun m o h=>by rw [h2 m (mem_keys h)];exact hin m o h
 have hE:=call_E0 (c:=c) (β:=β) hin1
 have hkey:∀ m,m∈keysO (renO (pk fx k) (O k))→m∈keysO st1.own:=fun m h=>by
  obtain ⟨o,ho⟩:=keys_mem h
  exact mem_keys (own?_mem (hin1 m o ho))
 have hpk:∀ (k k' n m:Nat),n∈keysO (O k)→m∈keysO (O k)→pk fx k' n=pk fx k' m→n=m:=fun _ _ _ _ _ _ e=>(pk_eq e).1
 have hmk:∀ {n k:Nat},n∈keysO (O k)→pk fx k n∈keysO (renO (pk fx k) (O k)):=fun {n k} h=>by rw [keys_renO];exact List.mem_map.2 ⟨n,h,rfl⟩
 have hins:OwnsOk (fun b=>c.E0 b∨∃ m,m∈keysO st1.own∧m∉keysO (renO (pk fx k) (O k))∧β.blk m=some b) β w (renO (pk fx k) (O k)):=by
  refine ⟨fun m o h=>?_,?_,fun m m' h1 h2=>H.own.apart m m' (hkey m h1) (hkey m' h2),fun m h b hb=>?_⟩
  ·rw [hE];exact H.own.ok m o (own?_mem (hin1 m o h))
  ·rw [keys_renO];exact nodup_map_on (hcl.nodup k) (hpk k k)
  ·obtain ⟨x,y⟩:=H.own.lt m (hkey m h) b hb
   refine ⟨x,?_⟩
   rintro (h1|⟨m',h1,h2,h3⟩)
   ·exact y h1
   ·exact H.own.apart m m' (hkey m h) h1 (fun e=>h2 (e▸h)) b hb h3
 obtain ⟨hins',hE'⟩:=hins.unren (hcl.nodup k) (hpk k k)
 have hfx:∀ n,n∈fx→β (pk fx k n)=βI n:=fun n hn=>by
  rw [pk_fx hn k,←pk_fx hn 0,(H.fx _ (hfn n hn).1).2,(hfn n hn).2]
 obtain ⟨fn,tmps,asg,body,hy,hR⟩:=hY _ (fun n=>β (pk fx k n)) w (cl.args.map a.eval) (by
   rintro b (h|⟨m,h1,_,h3⟩)
   ·have:=c.hE b h
    have:=H.kp.size
    omega
   ·exact (H.own.lt m h1 b h3).1) (fun b hb=>.inl hb) (by
   rintro b (h|⟨m,h1,_,h3⟩) hb
   ·exact .inl h
   ·exact .inr ((H.fr m h1 b h3).resolve_left (by omega))) H.kp (fun n hn b hb=>H.fr _ (hkey _ (hmk hn)) b hb) hfx (by simpa using q1) (fun j v y hv hy=>by
   rw [hE',hE]
   refine (q2 j v y (by simpa using hv) hy).lasts (Lasts.refl _ _) fun m hm=>?_
   have:=names_mem hy m hm
   rw [hna] at this;cases this) hins'
 have hrun:(execOp a.eval o).run c.P w=.ok (.round l fn tmps asg body) w:=by
  have hyy:(Instr.yield l (#[]++cl.args.map a.eval++#[])).run c.P w=.ok (.round l fn tmps asg body) w:=by simpa using hy
  simp only [execOp,hcl',resolve,h4,hu,Deferred.ofValue,invoke,Sem.run_bind,Sem.run_pure,Result.andThen_ok]
  exact hyy
 refine Oper.wpc_ok hrun (fun d=>by simp) ⟨fun h=>by simp [Ctx.F,Fence.wide] at h,hR.mono ?_⟩
 rintro e w' ⟨β',rfl,g1,g2,g3,g4⟩
 let β2:Names:=fun m=>open Classical in if h:∃ n,n∈keysO (O (k+1))∧n∉fx∧pk fx (k+1) n=m then β' (Classical.choose h) else β m
 have hβp:∀ n,n∈keysO (O (k+1))→β2 (pk fx (k+1) n)=β' n:=fun n hn=>by
  by_cases hf:n∈fx
  ·have hno:¬ ∃ n',n'∈keysO (O (k+1))∧n'∉fx∧pk fx (k+1) n'=pk fx (k+1) n:=by
    rintro ⟨n',_,h5,h6⟩
    exact h5 ((pk_eq h6).1▸hf)
   simp only [β2,dif_neg hno]
   rw [g1 n hf,pk_fx hf,pk_fx hf]
  ·have hyes:∃ n',n'∈keysO (O (k+1))∧n'∉fx∧pk fx (k+1) n'=pk fx (k+1) n:=⟨n,hn,hf,rfl⟩
   simp only [β2,dif_pos hyes]
   rw [(pk_eq (Classical.choose_spec hyes).2.2).1]
 have hnew:∀ m,(∃ n,n∈keysO (O (k+1))∧n∉fx∧pk fx (k+1) n=m)→m∈(keysO (renO (pk fx (k+1)) (O (k+1)))).filter fun n=>!(keysO (renO (pk fx k) (O k))).contains n:=by
  rintro m ⟨n,h5,h6,rfl⟩
  refine List.mem_filter.2 ⟨hmk h5,?_⟩
  simp only [Bool.not_eq_true',List.contains_eq_mem,decide_eq_false_iff_not]
  rw [keys_renO]
  intro h7
  obtain ⟨n',_,h8⟩:=List.mem_map.1 h7
  rcases (pk_eq h8).2 with h9|h9
  ·exact h6 ((pk_eq h8).1▸h9)
  ·omega
 have hle:β.le β2:=fun m v hv=>by
  by_cases h:∃ n,n∈keysO (O (k+1))∧n∉fx∧pk fx (k+1) n=m
  ·rw [H.nm m (h3 m (hnew m h))] at hv;cases hv
  ·simp only [β2,dif_neg h];exact hv
 have hfr:∀ m,m∉((keysO (renO (pk fx (k+1)) (O (k+1)))).filter fun n=>!(keysO (renO (pk fx k) (O k))).contains n)→β2 m=β m:=fun m hm=>by
  have h:¬ ∃ n,n∈keysO (O (k+1))∧n∉fx∧pk fx (k+1) n=m:=fun h=>hm (hnew m h)
  simp only [β2,dif_neg h]
 obtain ⟨g2',-⟩:=g2.ren (hcl.names (k+1)) hβp (hpk (k+1) (k+1))
 obtain ⟨H',-⟩:=call_state H hin1 h3 (fun m hm=>(List.mem_filter.1 hm).1) hle hfr g2' (g3.mono fun b ⟨n,h5,h6⟩=>⟨_,hmk h5,h6⟩) (fun m hm b hb=>by
  rw [keys_renO] at hm
  obtain ⟨n,h5,rfl⟩:=List.mem_map.1 hm
  have:β'.blk n=some b:=by simp only [Names.blk,←hβp n h5];exact hb
  exact (g4 n h5 b this).imp id fun ⟨n',h6,h7⟩=>⟨_,hmk h6,h7⟩)
 refine hK β2 _ w' ?_
 have hd:=hc.dst
 simp only at hd
 rw [hd]
 simp only [St.stp]
 cases d with
 |none=>exact H'
 |some d=>exact H'.setV (hc.lt d rfl) (mk_bool go)
end Go.Bx
end
