import Derived.Test.YtanppabbmffokaaGreatXC9
set_option linter.unusedSimpArgs false
set_option linter.unusedVariables false
section
namespace Go.Proofs.YtanppabbmffokaaGreat
open Go.Bx
set_option maxRecDepth 10000
theorem layK_nrm {c:Ctx} {r:Dfr} {g:FuncId} {ks:List Nat} {rs:List RV} {res:V} {st:St}:layK c r g ks rs res .nrm st=vcR c false r.is st [] (fun _ st1=>layR c r g ks rs res st1):=propext ⟨fun h=>h,fun h=>h⟩
def insA (n:Int) (b:Bool) (m:Nat) (cs:List V):List (Nat×Own):=[(3,.fix [.d (.int .i64 n)]),(1,.fix [.osl 7]),(2,.fix [.d (.bool b)]),(7,.lit 38 1 m cs)]
theorem dAll (n:Int) (b:Bool) (m:Nat) (cs:List V):CtrD Tryz.prog 182 [3,1,2] none (insA n b m cs) (insA n (n == m) m cs):=by
 refine ⟨ok182,by simp [keysO,insA],by simp [keysO,insA],fun E0 β w vals pv hE hsz hv hins _=>?_⟩
 obtain ⟨v0,v1,v2,rfl⟩:∃ v0 v1 v2,vals=#[v0,v1,v2]:=by
  match vals,hsz with
  |⟨[a,b,c]⟩,_=>exact ⟨a,b,c,rfl⟩
 have ptr:∀ (v:Value) (k:Nat) (E:Nat→Prop),RelV β E w v (.own k 0)→∃ b,v=.pointer (some ⟨b,0,none⟩)∧β k=some (.pointer (some ⟨b,0,none⟩)):=fun v k E h=>by
  cases h with
  |own k off b h=>exact ⟨b,rfl,h⟩
 obtain ⟨b0,rfl,hb0⟩:=ptr _ _ _ (hv 0 v0 3 rfl rfl)
 obtain ⟨b1,rfl,hb1⟩:=ptr _ _ _ (hv 1 v1 1 rfl rfl)
 obtain ⟨b2,rfl,hb2⟩:=ptr _ _ _ (hv 2 v2 2 rfl rfl)
 obtain ⟨u0,e0,g1,g2,g3,g4⟩:=fix_at (k:=3) (x:=.d (.int .i64 n)) hins (by simp [insA]) hb0
 obtain ⟨u1,e1,q1,q2,q3,q4⟩:=fix_at (k:=1) (x:=.osl 7) hins (by simp [insA]) hb1
 obtain ⟨u2,e2,r1,r2,r3,r4⟩:=fix_at (k:=2) (x:=.d (.bool b)) hins (by simp [insA]) hb2
 obtain rfl:u0=.int .i64 n:=by cases g4 with|d _ _ h=>cases h;rfl
 obtain ⟨A,cp,rfl⟩:∃ A cp,u1=.slice A m cp:=by
  obtain ⟨v,xs,h1,⟨-,h2⟩,-⟩:=hins.ok 7 (.lit 38 1 m cs) (by simp [insA])
  cases q4 with
  |osl k v' h _ =>
   rw [h1] at h;cases h
   rcases h2 with ⟨⟨a,rfl⟩,rfl⟩|⟨g,cap,cur,rfl,-⟩
   ·exact ⟨a,0,rfl⟩
   ·exact ⟨_,cap,rfl⟩
 refine (callsDIn_of_wpSIn (R:=fun e u' w'=>e=.returned (.tuple #[])∧u'=.returning∧w'=w.setCell ⟨b2,0,none⟩ (.bool (n == m))) Tryz.func182 rfl trivial fun c₀ cs hu=>?_).mono ?_
 ·simp only [modeP] at hu
  apply wpSIn_region
  simp [wpOpsSIn,go_sem,hu,Tryz.ntmps182,g2,g3,q2,q3,r2,r3,bodyPostS,results,Tryz.results182]
  cases c₀
  simp_all
 ·rintro e' u' w' ⟨rfl,rfl,rfl⟩
  refine ⟨_,rfl,rfl,?_,set_keeps ⟨2,by simp [keysO,insA],by simp [Names.blk,hb2,blkOf]⟩⟩
  have:=own_set (k:=2) (x:=.d (.bool b)) hins (by simp [insA]) hb2 (v:=.bool (n == m)) (y:=.d (.bool (n == m))) (.d _ _ (.bool _))
  simpa [setO,insA] using this
def fnM (g:Nat) (cs:List D):V:=.fn (.func g) [] [.mem cs]
theorem retAll {c2:Ctx} (hP:c2.P=Tryz.prog) {n:Int} {fns:List V} {b:Bool} (hb:b=(n == 4)) {st:St} (h:Wk c2 st ⟨[(2,.own 2 0)],insA n false 4 fns,[3,2,1,7]⟩):RetD c2 182 [3,1,2] rs146 (.d (.bool b)) .ret st:=by
 refine ⟨_,insA n false 4 fns,insA n (n == ((4:Nat):Int)) 4 fns,h,by rw [hP];exact dAll n false 4 fns,fun k o hm=>mem_own? (by simp [keysO,insA]) hm,?_,?_⟩
 ·first|(simp only [rs146,insA,rsb,vcd,↓vcp,seval];done)|trivial
 ·simp only [rs146,insA,rsb,enb,vcd,↓vcp,seval]
  rw [hb];first|done|exact VLe.refl _
theorem sAll (cs:List D) (b0 b1 b2 b3:Bool) (h0:Ctr Tryz.prog 147 [.mem cs] [] (.d (.bool b0)) [] []) (h1:Ctr Tryz.prog 148 [.mem cs] [] (.d (.bool b1)) [] []) (h2:Ctr Tryz.prog 149 [.mem cs] [] (.d (.bool b2)) [] [])
  (h3:Ctr Tryz.prog 150 [.mem cs] [] (.d (.bool b3)) [] []):Ctr Tryz.prog 146 [.osl 7] [(7,.lit 38 1 4 [fnM 147 cs,fnM 148 cs,fnM 149 cs,fnM 150 cs])] (.d (.bool (b0&&b1&&b2&&b3))) [] []:=by
 refine ctr_deferO 182 [3,1,2] Tryz.func146 ok146 rfl cd146 cr146 Tryz.ntmps146 (by simp) rfl ?_
 intro c hP hfn
 simp only [kd146,fnM,namesL,V.names,ownNames,vcd,↓vcp,seval]
 rw [layK_nrm]
 simp only [vcd,↓vcp,seval]
 refine ⟨⟨_,_,rfl,trivial,trivial,rfl⟩,by simp [keysO],fun c2 hP2 hfn2 hrd2 hpk2=>?_⟩
 refine vcS.of ?_
 simp only [vcd,↓vcp,seval]
 refine vcC.loop (X:=Nat) (fun k=>⟨[(2,.own 2 0),(3,.own 3 0),(7,.osl 7),(8,.d (.int .i64 4)),(9,.d (.int .i64 k))],insA k false 4 [fnM 147 cs,fnM 148 cs,fnM 149 cs,fnM 150 cs],[3,2,1,7]⟩)
  (fun k=>k≤4∧∀ j,j<k→[b0,b1,b2,b3].getD j false=true) (fun k=>4-k) 0 ⟨Nat.zero_le _,fun j hj=>absurd hj (Nat.not_lt_zero j)⟩ (Wk.of _ hfn2 rfl (by simp only [enb,vcd,↓vcp,seval]) (by simp only [insA,fnM,enb,vcd,↓vcp,seval])) ?_
 rintro k ⟨hk,he⟩
 have hk4:k=0∨k=1∨k=2∨k=3∨k=4:=by omega
 have hP:=hP2.trans hP
 have w1:IntKind.i64.wrap 1=1:=wI (by omega)
 have w2:IntKind.i64.wrap 2=2:=wI (by omega)
 have w3:IntKind.i64.wrap 3=3:=wI (by omega)
 have w4:IntKind.i64.wrap 4=4:=wI (by omega)
 have n1:((1:Nat):Int)=1:=rfl
 have n2:((2:Nat):Int)=2:=rfl
 have n3:((3:Nat):Int)=3:=rfl
 have n4:((4:Nat):Int)=4:=rfl
 have n0:((0:Nat):Int)=0:=rfl
 have s1:(0:Int)+1=1:=rfl
 have s2:(1:Int)+1=2:=rfl
 have s3:(2:Int)+1=3:=rfl
 have s4:(3:Int)+1=4:=rfl
 rcases hk4 with rfl|rfl|rfl|rfl|rfl
 ·simp only [insA,fnM,n0,n1,n2,n3,n4,vcd,↓vcp,seval]
  repeat' first|((first|refine tp hP (by exact h0) ?_|refine tg hP (fun _=>by exact h0) ?_|refine tv hP rfl (by exact h0) ?_);try simp only [n0,n1,n2,n3,n4,s1,s2,s3,s4,w1,w2,w3,w4,vcd,↓vcp,seval])|refine ⟨fun h=>?_,fun h=>?_⟩|refine aO ?_|refine aT ?_|fail
  ·
   have hb:b0=false:=by simpa using h
   exact retAll (n:=0) (fns:=[fnM 147 cs,fnM 148 cs,fnM 149 cs,fnM 150 cs]) hP (by rw [ hb];simp) (Wk.of _ hfn2 rfl (by simp only [enb,vcd,↓vcp,seval]) (by simp only [insA,fnM,enb,vcd,↓vcp,seval]))
  ·have hb:b0=true:=by simpa using h
   exact lopK.on 1 ⟨by decide,fun j hj=>by
    rcases Nat.lt_or_eq_of_le (Nat.le_of_lt_succ hj) with h8|h8
    ·exact he j h8
    ·subst h8;exact hb⟩ (by decide) (Wk.of _ hfn2 rfl (by simp only [n0,n1,n2,n3,n4,s1,s2,s3,s4,w1,w2,w3,w4,enb,vcd,↓vcp,seval]) (by simp only [insA,fnM,n0,n1,n2,n3,n4,s1,s2,s3,s4,w1,w2,w3,w4,enb,vcd,↓vcp,seval]))
 ·simp only [insA,fnM,n0,n1,n2,n3,n4,vcd,↓vcp,seval]
  repeat' first|((first|refine tp hP (by exact h1) ?_|refine tg hP (fun _=>by exact h1) ?_|refine tv hP rfl (by exact h1) ?_);try simp only [n0,n1,n2,n3,n4,s1,s2,s3,s4,w1,w2,w3,w4,vcd,↓vcp,seval])|refine ⟨fun h=>?_,fun h=>?_⟩|refine aO ?_|refine aT ?_|fail
  ·have e0:b0=true:=he 0 (by decide)
   have hb:b1=false:=by simpa using h
   exact retAll (n:=1) (fns:=[fnM 147 cs,fnM 148 cs,fnM 149 cs,fnM 150 cs]) hP (by rw [e0,hb];simp) (Wk.of _ hfn2 rfl (by simp only [enb,vcd,↓vcp,seval]) (by simp only [insA,fnM,enb,vcd,↓vcp,seval]))
  ·have hb:b1=true:=by simpa using h
   exact lopK.on 2 ⟨by decide,fun j hj=>by
    rcases Nat.lt_or_eq_of_le (Nat.le_of_lt_succ hj) with h8|h8
    ·exact he j h8
    ·subst h8;exact hb⟩ (by decide) (Wk.of _ hfn2 rfl (by simp only [n0,n1,n2,n3,n4,s1,s2,s3,s4,w1,w2,w3,w4,enb,vcd,↓vcp,seval]) (by simp only [insA,fnM,n0,n1,n2,n3,n4,s1,s2,s3,s4,w1,w2,w3,w4,enb,vcd,↓vcp,seval]))
 ·simp only [insA,fnM,n0,n1,n2,n3,n4,vcd,↓vcp,seval]
  repeat' first|((first|refine tp hP (by exact h2) ?_|refine tg hP (fun _=>by exact h2) ?_|refine tv hP rfl (by exact h2) ?_);try simp only [n0,n1,n2,n3,n4,s1,s2,s3,s4,w1,w2,w3,w4,vcd,↓vcp,seval])|refine ⟨fun h=>?_,fun h=>?_⟩|refine aO ?_|refine aT ?_|fail
  ·have e0:b0=true:=he 0 (by decide)
   have e1:b1=true:=he 1 (by decide)
   have hb:b2=false:=by simpa using h
   exact retAll (n:=2) (fns:=[fnM 147 cs,fnM 148 cs,fnM 149 cs,fnM 150 cs]) hP (by rw [e0,e1,hb];simp) (Wk.of _ hfn2 rfl (by simp only [enb,vcd,↓vcp,seval]) (by simp only [insA,fnM,enb,vcd,↓vcp,seval]))
  ·have hb:b2=true:=by simpa using h
   exact lopK.on 3 ⟨by decide,fun j hj=>by
    rcases Nat.lt_or_eq_of_le (Nat.le_of_lt_succ hj) with h8|h8
    ·exact he j h8
    ·subst h8;exact hb⟩ (by decide) (Wk.of _ hfn2 rfl (by simp only [n0,n1,n2,n3,n4,s1,s2,s3,s4,w1,w2,w3,w4,enb,vcd,↓vcp,seval]) (by simp only [insA,fnM,n0,n1,n2,n3,n4,s1,s2,s3,s4,w1,w2,w3,w4,enb,vcd,↓vcp,seval]))
 ·simp only [insA,fnM,n0,n1,n2,n3,n4,vcd,↓vcp,seval]
  repeat' first|((first|refine tp hP (by exact h3) ?_|refine tg hP (fun _=>by exact h3) ?_|refine tv hP rfl (by exact h3) ?_);try simp only [n0,n1,n2,n3,n4,s1,s2,s3,s4,w1,w2,w3,w4,vcd,↓vcp,seval])|refine ⟨fun h=>?_,fun h=>?_⟩|refine aO ?_|refine aT ?_|fail
  ·have e0:b0=true:=he 0 (by decide)
   have e1:b1=true:=he 1 (by decide)
   have e2:b2=true:=he 2 (by decide)
   have hb:b3=false:=by simpa using h
   exact retAll (n:=3) (fns:=[fnM 147 cs,fnM 148 cs,fnM 149 cs,fnM 150 cs]) hP (by rw [e0,e1,e2,hb];simp) (Wk.of _ hfn2 rfl (by simp only [enb,vcd,↓vcp,seval]) (by simp only [insA,fnM,enb,vcd,↓vcp,seval]))
  ·have hb:b3=true:=by simpa using h
   exact lopK.on 4 ⟨by decide,fun j hj=>by
    rcases Nat.lt_or_eq_of_le (Nat.le_of_lt_succ hj) with h8|h8
    ·exact he j h8
    ·subst h8;exact hb⟩ (by decide) (Wk.of _ hfn2 rfl (by simp only [n0,n1,n2,n3,n4,s1,s2,s3,s4,w1,w2,w3,w4,enb,vcd,↓vcp,seval]) (by simp only [insA,fnM,n0,n1,n2,n3,n4,s1,s2,s3,s4,w1,w2,w3,w4,enb,vcd,↓vcp,seval]))
 ·simp only [insA,fnM,n0,n1,n2,n3,n4,vcd,↓vcp,seval]
  repeat' first|refine ⟨fun h=>?_,fun h=>?_⟩|refine aO ?_|refine aT ?_|fail
  have e0:b0=true:=he 0 (by decide)
  have e1:b1=true:=he 1 (by decide)
  have e2:b2=true:=he 2 (by decide)
  have e3:b3=true:=he 3 (by decide)
  exact retAll (n:=4) (fns:=[fnM 147 cs,fnM 148 cs,fnM 149 cs,fnM 150 cs]) hP (by rw [e0,e1,e2,e3];simp) (Wk.of _ hfn2 rfl (by simp only [enb,vcd,↓vcp,seval]) (by simp only [insA,fnM,n4,enb,vcd,↓vcp,seval]))
end Go.Proofs.YtanppabbmffokaaGreat
end
section
namespace Go.Proofs.YtanppabbmffokaaGreat
open Go.Bx
set_option maxRecDepth 10000
def dTm (t:Tm):List D:=[.int .i64 t.sf,.int .i64 t.st,.int .i64 t.rk.kd,.int .i64 t.rk.va,.int .i64 t.rk.ag,.int .i64 t.rk.zo,slC t.cv]
theorem sTm1 (t:Tm):Ctr Tryz.prog 147 [.mem (dTm t)] [] (.d (.bool (okS t.sf t.st))) [] []:=by
 have ck:=sSpanRight t.sf t.st
 simp only [vS] at ck
 refine ctr_pure Tryz.func147 ok147 rfl cc147 cr147 Tryz.ntmps147 (by simp) rfl rfl ?_;intro c hP hfn;simp only [kc147,dTm,slC,vcd,↓vcp,seval]
 repeat' first|((first|refine tp hP (by exact ck) ?_|refine tg hP (fun _=>by exact ck) ?_|refine tv hP rfl (by exact ck) ?_);try simp only [vcd,↓vcp,seval])|refine ⟨fun h=>?_,fun h=>?_⟩|refine aO ?_|refine aT ?_|fail
 exact RetK.pure (by simp only [rs147,rsb,vcd,↓vcp,seval]) (by (simp only [rs147,rsb,enb,vcd,↓vcp,seval])<;>(first|rfl))
theorem sTm2 (t:Tm):Ctr Tryz.prog 148 [.mem (dTm t)] [] (.d (.bool (decide (manyR t.sf t.st≥1)&&decide (manyR t.sf t.st≤1100)))) [] []:=by
 have ck:=sMany t.sf t.st
 simp only [vS] at ck
 refine ctr_pure Tryz.func148 ok148 rfl cc148 cr148 Tryz.ntmps148 (by simp) rfl rfl ?_;intro c hP hfn;simp only [kc148,dTm,slC,vcd,↓vcp,seval]
 repeat' first|((first|refine tp hP (by exact ck) ?_|refine tg hP (fun _=>by exact ck) ?_|refine tv hP rfl (by exact ck) ?_);try simp only [vcd,↓vcp,seval])|refine ⟨fun h=>?_,fun h=>?_⟩|refine aO ?_|refine aT ?_|fail
 exact RetK.pure (by simp only [rs148,rsb,vcd,↓vcp,seval]) (by (simp only [rs148,rsb,enb,vcd,↓vcp,seval])<;>(first|rfl))
theorem sTm3 (t:Tm):Ctr Tryz.prog 149 [.mem (dTm t)] [] (.d (.bool (rightR t.rk))) [] []:=by
 have ck:=sRisk t.rk
 simp only [vR,cR] at ck
 refine ctr_pure Tryz.func149 ok149 rfl cc149 cr149 Tryz.ntmps149 (by simp) rfl rfl ?_;intro c hP hfn;simp only [kc149,dTm,slC,vcd,↓vcp,seval]
 repeat' first|((first|refine tp hP (by exact ck) ?_|refine tg hP (fun _=>by exact ck) ?_|refine tv hP rfl (by exact ck) ?_);try simp only [vcd,↓vcp,seval])|refine ⟨fun h=>?_,fun h=>?_⟩|refine aO ?_|refine aT ?_|fail
 exact RetK.pure (by simp only [rs149,rsb,vcd,↓vcp,seval]) (by (simp only [rs149,rsb,enb,vcd,↓vcp,seval])<;>(first|rfl))
theorem sTm4 (t:Tm) (hl:t.cv.length≤9223372036854775807):Ctr Tryz.prog 150 [.mem (dTm t)] [] (.d (.bool (coversT t.cv))) [] []:=by
 have ck:=sCovers t.cv hl
 simp only [slC] at ck
 refine ctr_pure Tryz.func150 ok150 rfl cc150 cr150 Tryz.ntmps150 (by simp) rfl rfl ?_;intro c hP hfn;simp only [kc150,dTm,slC,vcd,↓vcp,seval]
 repeat' first|((first|refine tp hP (by exact ck) ?_|refine tg hP (fun _=>by exact ck) ?_|refine tv hP rfl (by exact ck) ?_);try simp only [vcd,↓vcp,seval])|refine ⟨fun h=>?_,fun h=>?_⟩|refine aO ?_|refine aT ?_|fail
 exact RetK.pure (by simp only [rs150,rsb,vcd,↓vcp,seval]) (by (simp only [rs150,rsb,enb,vcd,↓vcp,seval])<;>(first|rfl))
def rightTm (t:Tm):Bool:=okS t.sf t.st&&(decide (manyR t.sf t.st≥1)&&decide (manyR t.sf t.st≤1100))&&rightR t.rk&&coversT t.cv
theorem sTerms (t:Tm) (hl:t.cv.length≤9223372036854775807):Ctr Tryz.prog 107 [vTm t] [] (.d (.bool (rightTm t))) [] []:=by
 have ca:=sAll (dTm t) _ _ _ _ (sTm1 t) (sTm2 t) (sTm3 t) (sTm4 t hl)
 simp only [fnM,dTm] at ca
 refine ctr_pure Tryz.func107 ok107 rfl cc107 cr107 Tryz.ntmps107 (by simp) rfl rfl ?_;intro c hP hfn;simp only [kc107,vTm,cTm,vcd,↓vcp,seval]
 refine TR.wk _ (Wk.pubF 1 rfl rfl) ?_
 simp only [vcd,↓vcp,seval]
 refine TR.call [(7,.lit 38 1 4 [.fn (.func 147) [] [.mem (dTm t)],.fn (.func 148) [] [.mem (dTm t)],.fn (.func 149) [] [.mem (dTm t)],.fn (.func 150) [] [.mem (dTm t)]])] [] _ [] (by rw [hP];exact ca) (by repeat' first|exact trivial|(intro _;assumption)|apply And.intro) (hin1 rfl) (by simp [keysO]) (by simp) ?_
 simp only [vcd,↓vcp,seval]
 repeat' first|refine ⟨fun h=>?_,fun h=>?_⟩|refine aO ?_|refine aT ?_|fail
 exact RetK.pure (by simp only [rs107,rsb,vcd,↓vcp,seval]) (by (simp only [rs107,rsb,enb,vcd,↓vcp,seval])<;>(first|rfl))
end Go.Proofs.YtanppabbmffokaaGreat
end
section
namespace Go.Proofs.YtanppabbmffokaaGreat
open Go.Bx
set_option maxRecDepth 10000
theorem TR.gpv {c:Ctx} {b:Bool} {is:List I} {st:St} {acc:List Lg} {K:List Lg→St→Prop} {P:Program} (hP:c.P=P) {d:Option Nat} {s:Nat} {want gc:Bool} {x:X} {f:Nat} {first cap:List V} {xs:List X} {res:V} (hg:gOf st.env s want=some gc)
  (hx:gc=true→evV st x=.fn (.func f) first cap) (hS:gc=true→Ctr P f (first++(evVs st xs++cap)) [] res [] []) (hsx:gc=true→evS true st x) (hs:gc=true→evSs true st xs)
  (h:vcR c b is (st.stp d { val:=.gd gc res,upd:=[],rd:=[],new:=[] }) (lgs b acc ⟨[],[]⟩) K):TR c b (⟨d,some (s,want),.callv x xs⟩::is) st acc K:=
 TR.cons { val:=.gd gc res,upd:=[],rd:=[],new:=[] } (valid_gd_pure hg fun e=>valid_callv (hx e) (by rw [hP];exact hS e) (hsx e) (hs e) (fun k o h=>by simp at h) (by simp [keysO])) (fun k hk=>by simp at hk) (vcR_ok h)
def fD (g:Nat):D:=.raw (.func (.func g) #[] #[])
def ckF (m:Int):D:=if m=4 then fD 134 else if m=3 then fD 133 else if m=2 then fD 131 else if m=1 then fD 129 else .raw .nilFunc
theorem sChecks:Ctr Tryz.prog 84 [] [] (.osl 1) [(1,.mp (.raw .nilFunc) ckF)] [1]:=by
 refine ctr_own Tryz.func84 ok84 rfl cc84 cr84 Tryz.ntmps84 (by simp) rfl ?_
 intro c hP hfn
 simp only [kc84,namesL,V.names,ownNames,vcd,↓vcp,seval]
 have hne:∀ g,¬ (D.raw (Value.func (.func g) #[] #[])=D.raw Value.nilFunc):=fun g h=>by injection h with h;cases h
 refine ⟨hne _,hne _,hne _,hne _,RetK.mk _ (Wk.refl _ _) (by simp only [rs84,rsb,vcd,↓vcp,seval]) (by simp only [rs84,rsb,enb,vcd,↓vcp,seval]) ?_⟩
 simp only [enb,vcd,↓vcp,seval]
 exact OLe.eq rfl
def rightCh (c:Ch):Bool:=decide (c.kd=1∨c.kd=2∨c.kd=3∨c.kd=4)&&dayB c.bk&&dayB c.dy&&(if c.kd=1 then ck1 c else if c.kd=2 then ck2 c else if c.kd=3 then ck3 c else ck4 c)
theorem sRightCh (c':Ch) (hl:c'.cv.length≤9223372036854775807):Ctr Tryz.prog 36 [vCh c'] [] (.d (.bool (rightCh c'))) [] []:=by
 have k1:=sCk1 c'
 have k2:=sCk2 c' hl
 have k3:=sCk3 c'
 have k4:=sCk4 c'
 have d1:=sDay
 simp only [vCh,cCh,slC] at k1 k2 k3 k4
 refine ctr_pure Tryz.func36 ok36 rfl cc36 cr36 Tryz.ntmps36 (by simp) rfl rfl ?_;intro c hP hfn;simp only [kc36,vCh,cCh,slC,vcd,↓vcp,seval]
 have cc:=(sChecks.sw 1 6)
 simp only [vcd,↓vcp,seval] at cc
 refine TR.call [] [(6,.mp (.raw .nilFunc) ckF)] (.osl 6) [6] (by rw [hP];exact cc) (by repeat' first|exact trivial|(intro _;assumption)|apply And.intro) (fun k o h=>by simp at h) (by simp [keysO]) (by simp) ?_
 clear cc
 have f1:ckF 1=fD 129:=rfl
 have f2:ckF 2=fD 131:=rfl
 have f3:ckF 3=fD 133:=rfl
 have f4:ckF 4=fD 134:=rfl
 have zA:(#[]:Array Value).size=0:=rfl
 by_cases hb:(dayB c'.bk&&dayB c'.dy)=true
 ·have hb':dayB c'.bk=true∧dayB c'.dy=true:=by simpa using hb
  have hr:c'.kd=1∨c'.kd=2∨c'.kd=3∨c'.kd=4∨(¬ c'.kd=1∧¬ c'.kd=2∧¬ c'.kd=3∧¬ c'.kd=4):=by omega
  rcases hr with e1|e1|e1|e1|⟨e1,e2,e3,e4⟩
  ·have hr:rightCh c'=ck1 c':=by simp [rightCh,e1,hb'.1,hb'.2]
   rw [hr]
   simp only [dayB] at hb
   clear hr hb'
   rw [e1] at k1 ⊢
   simp only [f1,fD,okV,zA,e1,vcd,↓vcp,seval]
   repeat' first|((first|refine tp hP (by exact d1 _) ?_|refine tg hP (fun _=>by exact d1 _) ?_|refine tv hP rfl (by exact d1 _) ?_);try simp only [hb,zA,vcd,↓vcp,seval])|refine ⟨fun h=>?_,fun h=>?_⟩|refine aO ?_|refine aT ?_|fail
   refine TR.gpv (gc:=true) hP rfl (fun _=>rfl) (fun _=>k1) (by intro _;simp only [vcd,↓vcp,seval]) (by intro _;simp only [vcd,↓vcp,seval]) ?_
   simp only [vcd,↓vcp,seval]
   repeat' first|refine ⟨fun h=>?_,fun h=>?_⟩|refine aO ?_|refine aT ?_|fail
   exact RetK.pure (by simp only [rs36,rsb,vcd,↓vcp,seval]) (by (simp only [rs36,rsb,enb,vcd,↓vcp,seval])<;>(first|exact VLe.refl _))
  ·have hr:rightCh c'=ck2 c':=by simp [rightCh,e1,hb'.1,hb'.2]
   rw [hr]
   simp only [dayB] at hb
   clear hr hb'
   rw [e1] at k2 ⊢
   simp only [f2,fD,okV,zA,e1,vcd,↓vcp,seval]
   repeat' first|((first|refine tp hP (by exact d1 _) ?_|refine tg hP (fun _=>by exact d1 _) ?_|refine tv hP rfl (by exact d1 _) ?_);try simp only [hb,zA,vcd,↓vcp,seval])|refine ⟨fun h=>?_,fun h=>?_⟩|refine aO ?_|refine aT ?_|fail
   refine TR.gpv (gc:=true) hP rfl (fun _=>rfl) (fun _=>k2) (by intro _;simp only [vcd,↓vcp,seval]) (by intro _;simp only [vcd,↓vcp,seval]) ?_
   simp only [vcd,↓vcp,seval]
   repeat' first|refine ⟨fun h=>?_,fun h=>?_⟩|refine aO ?_|refine aT ?_|fail
   exact RetK.pure (by simp only [rs36,rsb,vcd,↓vcp,seval]) (by (simp only [rs36,rsb,enb,vcd,↓vcp,seval])<;>(first|exact VLe.refl _))
  ·have hr:rightCh c'=ck3 c':=by simp [rightCh,e1,hb'.1,hb'.2]
   rw [hr]
   simp only [dayB] at hb
   clear hr hb'
   rw [e1] at k3 ⊢
   simp only [f3,fD,okV,zA,e1,vcd,↓vcp,seval]
   repeat' first|((first|refine tp hP (by exact d1 _) ?_|refine tg hP (fun _=>by exact d1 _) ?_|refine tv hP rfl (by exact d1 _) ?_);try simp only [hb,zA,vcd,↓vcp,seval])|refine ⟨fun h=>?_,fun h=>?_⟩|refine aO ?_|refine aT ?_|fail
   refine TR.gpv (gc:=true) hP rfl (fun _=>rfl) (fun _=>k3) (by intro _;simp only [vcd,↓vcp,seval]) (by intro _;simp only [vcd,↓vcp,seval]) ?_
   simp only [vcd,↓vcp,seval]
   repeat' first|refine ⟨fun h=>?_,fun h=>?_⟩|refine aO ?_|refine aT ?_|fail
   exact RetK.pure (by simp only [rs36,rsb,vcd,↓vcp,seval]) (by (simp only [rs36,rsb,enb,vcd,↓vcp,seval])<;>(first|exact VLe.refl _))
  ·have hr:rightCh c'=ck4 c':=by simp [rightCh,e1,hb'.1,hb'.2]
   rw [hr]
   simp only [dayB] at hb
   clear hr hb'
   rw [e1] at k4 ⊢
   simp only [f4,fD,okV,zA,e1,vcd,↓vcp,seval]
   repeat' first|((first|refine tp hP (by exact d1 _) ?_|refine tg hP (fun _=>by exact d1 _) ?_|refine tv hP rfl (by exact d1 _) ?_);try simp only [hb,zA,vcd,↓vcp,seval])|refine ⟨fun h=>?_,fun h=>?_⟩|refine aO ?_|refine aT ?_|fail
   refine TR.gpv (gc:=true) hP rfl (fun _=>rfl) (fun _=>k4) (by intro _;simp only [vcd,↓vcp,seval]) (by intro _;simp only [vcd,↓vcp,seval]) ?_
   simp only [vcd,↓vcp,seval]
   repeat' first|refine ⟨fun h=>?_,fun h=>?_⟩|refine aO ?_|refine aT ?_|fail
   exact RetK.pure (by simp only [rs36,rsb,vcd,↓vcp,seval]) (by (simp only [rs36,rsb,enb,vcd,↓vcp,seval])<;>(first|exact VLe.refl _))
  ·have hr:rightCh c'=false:=by simp [rightCh,e1,e2,e3,e4]
   have f0:ckF c'.kd=.raw .nilFunc:=by simp [ckF,e1,e2,e3,e4]
   rw [hr]
   simp only [f0,okV,vcd,↓vcp,seval]
   repeat' first|((first|refine tp hP (by exact d1 _) ?_|refine tg hP (fun _=>by exact d1 _) ?_|refine tv hP rfl (by exact d1 _) ?_);try simp only [vcd,↓vcp,seval])|refine ⟨fun h=>?_,fun h=>?_⟩|refine aO ?_|refine aT ?_|fail
   refine TR.gpv (gc:=false) (first:=[]) (cap:=[]) (f:=0) (res:=.d (.bool false)) hP rfl (fun h=>by cases h) (fun h=>by cases h) (fun h=>by cases h) (fun h=>by cases h) ?_
   simp only [vcd,↓vcp,seval]
   repeat' first|refine ⟨fun h=>?_,fun h=>?_⟩|refine aO ?_|refine aT ?_|fail
   exact RetK.pure (by simp only [rs36,rsb,vcd,↓vcp,seval]) (by (simp only [rs36,rsb,enb,vcd,↓vcp,seval])<;>(first|exact VLe.refl _))
 ·have hb0:(dayB c'.bk&&dayB c'.dy)=false:=by simpa using hb
  have hr:rightCh c'=false:=by
   simp only [rightCh,Bool.and_assoc]
   rw [←Bool.and_assoc (dayB c'.bk),hb0];simp
  rw [hr]
  simp only [dayB] at hb0
  have hr4:c'.kd=1∨c'.kd=2∨c'.kd=3∨c'.kd=4∨(¬ c'.kd=1∧¬ c'.kd=2∧¬ c'.kd=3∧¬ c'.kd=4):=by omega
  clear hr hb
  rcases hr4 with e1|e1|e1|e1|⟨e1,e2,e3,e4⟩
  ·simp only [f1,fD,okV,zA,e1,vcd,↓vcp,seval]
   repeat' first|((first|refine tp hP (by exact d1 _) ?_|refine tg hP (fun _=>by exact d1 _) ?_|refine tv hP rfl (by exact d1 _) ?_);try simp only [hb0,zA,vcd,↓vcp,seval])|refine ⟨fun h=>?_,fun h=>?_⟩|refine aO ?_|refine aT ?_|fail
   refine TR.gpv (gc:=false) (first:=[]) (cap:=[]) (f:=0) (res:=.d (.bool false)) hP rfl (fun h=>by cases h) (fun h=>by cases h) (fun h=>by cases h) (fun h=>by cases h) ?_
   simp only [vcd,↓vcp,seval]
   repeat' first|refine ⟨fun h=>?_,fun h=>?_⟩|refine aO ?_|refine aT ?_|fail
   exact RetK.pure (by simp only [rs36,rsb,vcd,↓vcp,seval]) (by (simp only [rs36,rsb,enb,vcd,↓vcp,seval])<;>(first|exact VLe.refl _))
  ·simp only [f2,fD,okV,zA,e1,vcd,↓vcp,seval]
   repeat' first|((first|refine tp hP (by exact d1 _) ?_|refine tg hP (fun _=>by exact d1 _) ?_|refine tv hP rfl (by exact d1 _) ?_);try simp only [hb0,zA,vcd,↓vcp,seval])|refine ⟨fun h=>?_,fun h=>?_⟩|refine aO ?_|refine aT ?_|fail
   refine TR.gpv (gc:=false) (first:=[]) (cap:=[]) (f:=0) (res:=.d (.bool false)) hP rfl (fun h=>by cases h) (fun h=>by cases h) (fun h=>by cases h) (fun h=>by cases h) ?_
   simp only [vcd,↓vcp,seval]
   repeat' first|refine ⟨fun h=>?_,fun h=>?_⟩|refine aO ?_|refine aT ?_|fail
   exact RetK.pure (by simp only [rs36,rsb,vcd,↓vcp,seval]) (by (simp only [rs36,rsb,enb,vcd,↓vcp,seval])<;>(first|exact VLe.refl _))
  ·simp only [f3,fD,okV,zA,e1,vcd,↓vcp,seval]
   repeat' first|((first|refine tp hP (by exact d1 _) ?_|refine tg hP (fun _=>by exact d1 _) ?_|refine tv hP rfl (by exact d1 _) ?_);try simp only [hb0,zA,vcd,↓vcp,seval])|refine ⟨fun h=>?_,fun h=>?_⟩|refine aO ?_|refine aT ?_|fail
   refine TR.gpv (gc:=false) (first:=[]) (cap:=[]) (f:=0) (res:=.d (.bool false)) hP rfl (fun h=>by cases h) (fun h=>by cases h) (fun h=>by cases h) (fun h=>by cases h) ?_
   simp only [vcd,↓vcp,seval]
   repeat' first|refine ⟨fun h=>?_,fun h=>?_⟩|refine aO ?_|refine aT ?_|fail
   exact RetK.pure (by simp only [rs36,rsb,vcd,↓vcp,seval]) (by (simp only [rs36,rsb,enb,vcd,↓vcp,seval])<;>(first|exact VLe.refl _))
  ·simp only [f4,fD,okV,zA,e1,vcd,↓vcp,seval]
   repeat' first|((first|refine tp hP (by exact d1 _) ?_|refine tg hP (fun _=>by exact d1 _) ?_|refine tv hP rfl (by exact d1 _) ?_);try simp only [hb0,zA,vcd,↓vcp,seval])|refine ⟨fun h=>?_,fun h=>?_⟩|refine aO ?_|refine aT ?_|fail
   refine TR.gpv (gc:=false) (first:=[]) (cap:=[]) (f:=0) (res:=.d (.bool false)) hP rfl (fun h=>by cases h) (fun h=>by cases h) (fun h=>by cases h) (fun h=>by cases h) ?_
   simp only [vcd,↓vcp,seval]
   repeat' first|refine ⟨fun h=>?_,fun h=>?_⟩|refine aO ?_|refine aT ?_|fail
   exact RetK.pure (by simp only [rs36,rsb,vcd,↓vcp,seval]) (by (simp only [rs36,rsb,enb,vcd,↓vcp,seval])<;>(first|exact VLe.refl _))
  ·have f0:ckF c'.kd=.raw .nilFunc:=by simp [ckF,e1,e2,e3,e4]
   simp only [f0,okV,vcd,↓vcp,seval]
   repeat' first|((first|refine tp hP (by exact d1 _) ?_|refine tg hP (fun _=>by exact d1 _) ?_|refine tv hP rfl (by exact d1 _) ?_);try simp only [hb0,vcd,↓vcp,seval])|refine ⟨fun h=>?_,fun h=>?_⟩|refine aO ?_|refine aT ?_|fail
   refine TR.gpv (gc:=false) (first:=[]) (cap:=[]) (f:=0) (res:=.d (.bool false)) hP rfl (fun h=>by cases h) (fun h=>by cases h) (fun h=>by cases h) (fun h=>by cases h) ?_
   simp only [vcd,↓vcp,seval]
   repeat' first|refine ⟨fun h=>?_,fun h=>?_⟩|refine aO ?_|refine aT ?_|fail
   exact RetK.pure (by simp only [rs36,rsb,vcd,↓vcp,seval]) (by (simp only [rs36,rsb,enb,vcd,↓vcp,seval])<;>(first|exact VLe.refl _))
end Go.Proofs.YtanppabbmffokaaGreat
end
section
namespace Go.Proofs.YtanppabbmffokaaGreat
open Go.Bx
set_option maxRecDepth 10000
def inT (t:Tm) (d:Int):Bool:=decide (d≥(keptR t.sf t.st).1)&&decide (d<(keptR t.sf t.st).2)
def rightHi (h:Hi):Bool:=h.ch.all (fun c=>rightCh c&&inT h.tm c.dy)&&(rightTm h.tm&&decide (h.ch.length≤2000))
structure SzHi (h:Hi):Prop where
 tc:h.tm.cv.length≤9223372036854775807
 ch:h.ch.length≤9223372036854775807
 cc:∀ c,c∈h.ch→c.cv.length≤9223372036854775807
theorem sRightHi (hh:Hi) (z:SzHi hh):Ctr Tryz.prog 64 [vHi hh] [] (.d (.bool (rightHi hh))) [] []:=by
 refine ctr_pure Tryz.func64 ok64 rfl cc64 cr64 Tryz.ntmps64 (by simp) rfl rfl ?_;intro c hP hfn;simp only [kc64,vHi,cHi,slH,vcd,↓vcp,seval]
 refine vcC.loop (X:=Nat) (fun k=>⟨[(1,.own 1 0),(6,.d (slH hh.ch)),(7,.d (.int .i64 hh.ch.length)),(8,.d (.int .i64 k))],[(1,.fix (cHi hh))],[1]⟩)
  (fun k=>k≤hh.ch.length∧hh.ch.all (fun c=>rightCh c&&inT hh.tm c.dy)=(hh.ch.drop k).all (fun c=>rightCh c&&inT hh.tm c.dy)) (fun k=>hh.ch.length-k) 0 ⟨Nat.zero_le _,rfl⟩ (Wk.of _ hfn rfl (by simp only [slH,enb,vcd,↓vcp,seval]) (by simp only [cHi,slH,enb,vcd,↓vcp,seval])) ?_
 rintro k ⟨hk,he⟩
 by_cases hlt:k<hh.ch.length
 ·obtain ⟨c',hd,hg,hm,-⟩:=drop_at hlt
  have d0:decide ((k:Int)<(hh.ch.length:Int))=true:=decide_eq_true (by have:=z.ch;omega)
  have ewk:IntKind.i64.wrap ((k:Int)+1)=((k+1:Nat):Int):=wS (by have:=z.ch;omega)
  have cc:=sRightCh c' (z.cc c' hm)
  have ci:=sIn hh.tm.sf hh.tm.st c'.dy
  simp only [vCh,cCh,slC] at cc
  simp only [vS] at ci
  rw [hd,List.all_cons] at he
  simp only [slH,dCh,slC,cHi,hg,d0,ewk,vcd,↓vcp,seval]
  repeat' first|((first|refine tp hP (by first|exact cc|exact ci) ?_|refine tg hP (fun _=>by first|exact cc|exact ci) ?_|refine tv hP rfl (by first|exact cc|exact ci) ?_);try simp only [hg,ewk,vcd,↓vcp,seval])|refine ⟨fun h=>?_,fun h=>?_⟩|refine aO ?_|refine aT ?_|fail
  ·have hx:(rightCh c'&&inT hh.tm c'.dy)=false:=by
    cases h1:rightCh c' with
    |false=>rfl
    |true =>
     rw [h1] at h
     cases h2:inT hh.tm c'.dy with
     |false=>rfl
     |true=>exfalso;simp only [inT] at h2;rw [h2] at h;simp at h
   have e:rightHi hh=false:=by rw [rightHi,he,hx];rfl
   exact RetK.pure (by simp only [rs64,rsb,vcd,↓vcp,seval]) (by (simp only [rs64,rsb,enb,vcd,↓vcp,seval])<;>(first|rw [e]))
  ·have hx:(rightCh c'&&inT hh.tm c'.dy)=true:=by
    cases h1:rightCh c' with
    |false=>rw [h1] at h;simp at h
    |true =>
     rw [h1] at h
     cases h2:inT hh.tm c'.dy with
     |true=>rfl
     |false=>exfalso;simp only [inT] at h2;rw [h2] at h;simp at h
   rw [hx,Bool.true_and] at he
   exact lopK.on (k+1) ⟨hlt,he⟩ (by omega) (Wk.of _ hfn rfl (by simp only [slH,dCh,slC,enb,vcd,↓vcp,seval]) (by simp only [cHi,slH,dCh,slC,enb,vcd,↓vcp,seval]))
 ·have d0:decide ((k:Int)<(hh.ch.length:Int))=false:=decide_eq_false (by have:=z.ch;omega)
  rw [List.drop_eq_nil_of_le (by omega),List.all_nil] at he
  have ct:=sTerms hh.tm z.tc
  simp only [vTm,cTm] at ct
  have e:rightHi hh=(rightTm hh.tm&&decide ((hh.ch.length:Int)≤2000)):=by
   rw [rightHi,he,Bool.true_and]
   congr 1
   exact decide_eq_decide.2 (by omega)
  simp only [slH,cHi,d0,vcd,↓vcp,seval]
  repeat' first|((first|refine tp hP (by exact ct) ?_|refine tg hP (fun _=>by exact ct) ?_|refine tv hP rfl (by exact ct) ?_);try simp only [vcd,↓vcp,seval])|refine ⟨fun h=>?_,fun h=>?_⟩|refine aO ?_|refine aT ?_|fail
  exact RetK.pure (by simp only [rs64,rsb,vcd,↓vcp,seval]) (by (simp only [rs64,rsb,enb,vcd,↓vcp,seval])<;>(first|rw [e]))
end Go.Proofs.YtanppabbmffokaaGreat
end
section
namespace Go.Proofs.YtanppabbmffokaaGreat
open Go.Bx
set_option maxRecDepth 10000
structure Sl where
 sf:Int
 st:Int
 on:Bool
 rk:Rk
 cv:List Cv
 yr:Int
instance:Inhabited Sl:=⟨⟨0,0,false,default,[],0⟩⟩
def cSl (s:Sl):List V:=[.d (.int .i64 s.sf),.d (.int .i64 s.st),.d (.bool s.on),.d (.int .i64 s.rk.kd),.d (.int .i64 s.rk.va),.d (.int .i64 s.rk.ag),.d (.int .i64 s.rk.zo),.d (slC s.cv),.d (.int .i64 s.yr)]
def vSl (s:Sl):V:=.ag (cSl s)
def dSl (s:Sl):List D:=[.int .i64 s.sf,.int .i64 s.st,.bool s.on,.int .i64 s.rk.kd,.int .i64 s.rk.va,.int .i64 s.rk.ag,.int .i64 s.rk.zo,slC s.cv,.int .i64 s.yr]
def slS (l:List Sl):D:=.sl false 9 l.length (fun i=>dSl (l.getD i default))
def eqCv (a b:Cv):Bool:=(a.pe == b.pe)&&((a.li == b.li)&&((a.ag == b.ag)&&((a.de == b.de)&&(a.sh == b.sh))))
theorem eqCv_iff {a b:Cv}:eqCv a b=true↔a=b:=by
 obtain ⟨a1,a2,a3,a4,a5⟩:=a
 obtain ⟨b1,b2,b3,b4,b5⟩:=b
 simp [eqCv,and_assoc]
def eqRk (a b:Rk):Bool:=(a.kd == b.kd)&&((a.va == b.va)&&((a.ag == b.ag)&&(a.zo == b.zo)))
theorem eqRk_iff {a b:Rk}:eqRk a b=true↔a=b:=by
 obtain ⟨a1,a2,a3,a4⟩:=a
 obtain ⟨b1,b2,b3,b4⟩:=b
 simp [eqRk,and_assoc]
theorem sAlike (a b:List Cv) (ha:a.length≤9223372036854775806):Ctr Tryz.prog 152 [.d (slC a),.d (slC b)] [] (.d (.bool (decide (a=b)))) [] []:=by
 by_cases hl:a.length=b.length
 ·have d0:(((a.length:Int) != (b.length:Int)))=false:=by rw [bne_eq_false_iff_eq];omega
  refine ctr_pure Tryz.func152 ok152 rfl cc152 cr152 Tryz.ntmps152 (by simp) rfl rfl ?_;intro c hP hfn;simp only [kc152,slC,d0,vcd,↓vcp,seval]
  repeat' first|refine ⟨fun h=>?_,fun h=>?_⟩|refine aO ?_|refine aT ?_|fail
  refine vcC.loop (X:=Nat) (fun k=>⟨[(1,.d (slC b)),(12,.d (slC a)),(13,.d (.int .i64 a.length)),(14,.d (.int .i64 k))],[],[]⟩)
   (fun k=>k≤a.length∧∀ j,j<k→a.getD j default=b.getD j default) (fun k=>a.length-k) 0 ⟨Nat.zero_le _,fun j hj=>absurd hj (Nat.not_lt_zero j)⟩ (Wk.of _ hfn rfl (by simp only [slC,enb,vcd,↓vcp,seval]) (by simp only [enb,vcd,↓vcp,seval])) ?_
  rintro k ⟨hk,he⟩
  by_cases hlt:k<a.length
  ·obtain ⟨x,hd,hg,-,-⟩:=drop_at hlt
   obtain ⟨y,hd2,hg2,-,-⟩:=drop_at (l:=b) (k:=k) (by omega)
   have b0:decide ((k:Int)<(a.length:Int))=true:=decide_eq_true (by omega)
   have ewk:IntKind.i64.wrap ((k:Int)+1)=((k+1:Nat):Int):=wS (by omega)
   simp only [slC,hg,hg2,b0,ewk,vcd,↓vcp,seval]
   repeat' first|refine ⟨fun h=>?_,fun h=>?_⟩|refine aO ?_|refine aT ?_|fail
   ·have hx:eqCv x y=false:=by rw [eqCv,←Bool.not_eq_true'];exact h
    have:a≠b:=by
     intro e
     rw [eqCv_iff.2 (by rw [←hg default,←hg2 default,e])] at hx
     exact absurd hx (by decide)
    exact RetK.pure (by simp only [rs152,rsb,vcd,↓vcp,seval]) (by (simp only [rs152,rsb,enb,vcd,↓vcp,seval])<;>(first|simp [this]))
   ·have hx:x=y:=eqCv_iff.1 (by rw [eqCv,←Bool.not_eq_false'];exact h)
    refine lopK.on (k+1) ⟨hlt,fun j hj=>?_⟩ (by omega) (Wk.of _ hfn rfl (by simp only [enb,vcd,↓vcp,seval]) (by simp only [enb,vcd,↓vcp,seval]))
    rcases Nat.lt_succ_iff_lt_or_eq.1 hj with h1|h1
    ·exact he j h1
    ·rw [h1,hg,hg2,hx]
  ·have b0:decide ((k:Int)<(a.length:Int))=false:=decide_eq_false (by omega)
   have:a=b:=by
    apply List.ext_getElem hl
    intro j h1 h2
    have:=he j (by omega)
    simpa [List.getD_eq_getElem?_getD,h1,h2] using this
   simp only [slC,b0,vcd,↓vcp,seval]
   repeat' first|refine ⟨fun h=>?_,fun h=>?_⟩|refine aO ?_|refine aT ?_|fail
   exact RetK.pure (by simp only [rs152,rsb,vcd,↓vcp,seval]) (by (simp only [rs152,rsb,enb,vcd,↓vcp,seval])<;>(first|simp [this]))
 ·have d0:(((a.length:Int) != (b.length:Int)))=true:=by rw [bne_iff_ne];omega
  have:a≠b:=fun e=>hl (by rw [e])
  refine ctr_pure Tryz.func152 ok152 rfl cc152 cr152 Tryz.ntmps152 (by simp) rfl rfl ?_;intro c hP hfn;simp only [kc152,slC,d0,vcd,↓vcp,seval]
  repeat' first|refine ⟨fun h=>?_,fun h=>?_⟩|refine aO ?_|refine aT ?_|fail
  exact RetK.pure (by simp only [rs152,rsb,vcd,↓vcp,seval]) (by (simp only [rs152,rsb,enb,vcd,↓vcp,seval])<;>(first|simp [this]))
def holdsS (a b:Sl):Bool:=(a.on == b.on)&&eqRk a.rk b.rk&&decide (a.cv=b.cv)
theorem sHolds (a b:Sl) (ha:a.cv.length≤9223372036854775806):Ctr Tryz.prog 110 [vSl a,vSl b] [] (.d (.bool (holdsS a b))) [] []:=by
 have ca:=sAlike a.cv b.cv ha
 simp only [slC] at ca
 refine ctr_pure Tryz.func110 ok110 rfl cc110 cr110 Tryz.ntmps110 (by simp) rfl rfl ?_;intro c hP hfn;simp only [kc110,vSl,cSl,slC,vcd,↓vcp,seval]
 repeat' first|((first|refine tp hP (by exact ca) ?_|refine tg hP (fun _=>by exact ca) ?_|refine tv hP rfl (by exact ca) ?_);try simp only [vcd,↓vcp,seval])|refine ⟨fun h=>?_,fun h=>?_⟩|refine aO ?_|refine aT ?_|fail
 exact RetK.pure (by simp only [rs110,rsb,vcd,↓vcp,seval]) (by (simp only [rs110,rsb,enb,vcd,↓vcp,seval])<;>(first|simp [holdsS,eqRk]))
end Go.Proofs.YtanppabbmffokaaGreat
end
section
namespace Go.Proofs.YtanppabbmffokaaGreat
open Go.Bx
set_option maxRecDepth 10000
def z0:Sl:=⟨0,0,false,⟨0,0,0,0⟩,[],0⟩
end Go.Proofs.YtanppabbmffokaaGreat
end
section
namespace Go.Proofs.YtanppabbmffokaaGreat
open Go.Bx
set_option maxRecDepth 10000
def dHi (h:Hi):List D:=[.int .i64 h.id,.int .i64 h.bk,.int .i64 h.tm.sf,.int .i64 h.tm.st,.int .i64 h.tm.rk.kd,.int .i64 h.tm.rk.va,.int .i64 h.tm.rk.ag,.int .i64 h.tm.rk.zo,slC h.tm.cv,slH h.ch]
def dayC (l:List Ch) (a:Int):Int:=(l.getD a.toNat default).dy
def cfC (l:List Ch) (a b:Int):Int:=cmpI (dayC l a) (dayC l b)
def okH (l:List Ch) (a:Int):Prop:=0≤a∧a<l.length
theorem cmpI_lt (a b:Int):decide (cmpI a b<0)=decide (a<b):=by
 unfold cmpI
 by_cases h:a<b
 ·simp [h]
 ·by_cases h2:b<a<;>simp [h,h2]
theorem ltC (l:List Ch) (a b:Int):ltO (cfC l) a b=decide (dayC l a<dayC l b):=cmpI_lt _ _
theorem swoC (l:List Ch):Swo (ltO (cfC l)):=⟨fun a b h=>by rw [ltC] at *;simp at *;omega,fun a b c h1 h2=>by rw [ltC] at *;simp at *;omega⟩
theorem sOrder1 (h:Hi) (a b:Int) (ha:okH h.ch a) (hb:okH h.ch b):Ctr Tryz.prog 154 [.d (.int .i64 a),.d (.int .i64 b),.mem (dHi h)] [] (.d (.int .i64 (cfC h.ch a b))) [] []:=by
 have cc:=sCmpI (dayC h.ch a) (dayC h.ch b)
 simp only [dayC] at cc
 obtain ⟨h1,h2⟩:=ha
 obtain ⟨h3,h4⟩:=hb
 refine ctr_pure Tryz.func154 ok154 rfl cc154 cr154 Tryz.ntmps154 (by simp) rfl rfl ?_;intro c hP hfn;simp only [kc154,dHi,slH,dCh,vcd,↓vcp,seval]
 repeat' first|((first|refine tp hP (by exact cc) ?_|refine tg hP (fun _=>by exact cc) ?_|refine tv hP rfl (by exact cc) ?_);try simp only [vcd,↓vcp,seval])|refine ⟨fun h=>?_,fun h=>?_⟩|refine aO ?_|refine aT ?_|fail
 exact RetK.pure (by simp only [rs154,rsb,vcd,↓vcp,seval]) (by (simp only [rs154,rsb,enb,vcd,↓vcp,seval])<;>(first|rfl))
theorem cmpOC (h:Hi):CmpO 154 (dHi h) (cfC h.ch) (okH h.ch):=⟨swoC _,fun a b ha hb=>sOrder1 h a b ha hb⟩
def intsN (n:Nat):List Int:=(List.range n).map fun k:Nat=>((k:Nat):Int)
def orderC (l:List Ch):List Int:=srt (ltO (cfC l)) [] (intsN l.length)
theorem intsN_succ (n:Nat):intsN (n+1)=intsN n++[(n:Int)]:=by simp [intsN,List.range_succ]
theorem intsN_len (n:Nat):(intsN n).length=n:=by simp [intsN]
theorem orderC_perm (l:List Ch):(orderC l).Perm (intsN l.length):=by have:=srt_perm (ltO (cfC l)) (intsN l.length) [];rwa [List.nil_append] at this
theorem orderC_len (l:List Ch):(orderC l).length=l.length:=by rw [(orderC_perm l).length_eq,intsN_len]
theorem orderC_ok (l:List Ch):∀ x,x∈orderC l→okH l x:=fun x hx=>by
 have:=(orderC_perm l).mem_iff.1 hx
 simp only [intsN,List.mem_map,List.mem_range] at this
 obtain ⟨k,hk,rfl⟩:=this
 exact ⟨by omega,by omega⟩
theorem sOrderC (hh:Hi) (hl:hh.ch.length≤1000000):Ctr Tryz.prog 111 [vHi hh] [] (.d (slK .i64 (orderC hh.ch))) [] []:=by
 refine ctr_pure Tryz.func111 ok111 rfl cc111 cr111 Tryz.ntmps111 (by simp) rfl rfl ?_;intro c hP hfn;simp only [kc111,vHi,cHi,slH,vcd,↓vcp,seval]
 refine vcC.loop (X:=Nat) (fun k=>⟨[(3,.osl 1000),(1,.mem (dHi hh)),(7,.d (.int .i64 hh.ch.length)),(8,.d (.int .i64 k))],[(1000,rowZ (intsN k))],[1000,1]⟩)
  (fun k=>k≤hh.ch.length) (fun k=>hh.ch.length-k) 0 (Nat.zero_le _) ?_ ?_
 ·refine (Wk.pubF 1 rfl rfl).trans ((Wk.row0 (s:=3) (k:=1000) (e:=3) (sz:=1) (f':=fun _=>[]) rfl rfl (by simp)).trans (Wk.of _ hfn rfl ?_ ?_))
  ·simp only [dHi,slH,slC,enb,vcd,↓vcp,seval]
  ·simp only [rowZ,enb,vcd,↓vcp,seval];exact OLe.row rfl (fun i hi=>absurd hi (Nat.not_lt_zero i))
 intro k hk
 have il:=intsN_len k
 by_cases hlt:k<hh.ch.length
 ·have d0:decide ((k:Int)<(hh.ch.length:Int))=true:=decide_eq_true (by omega)
  have w1:IntKind.i64.wrap ((k:Int)+1)=((k+1:Nat):Int):=wS (by omega)
  simp only [rowZ,d0,vcd,↓vcp,seval]
  repeat' first|refine ⟨fun h=>?_,fun h=>?_⟩|refine aO ?_|refine aT ?_|fail
  refine lopK.on (k+1) (by omega) (by omega) ((Wk.sw 14 1000 _ hfn (by simp) (by simp)).trans (Wk.of _ hfn rfl (by simp only [w1,enb,vcd,↓vcp,seval]) ?_))
  simp only [rowZ,intsN_succ,enb,vcd,↓vcp,seval]
  exact OLe.app1 (fun n:Int=>[.int .i64 n]) (fun i hi=>by simp [hi]) (by simp [litRow])
 ·have d0:decide ((k:Int)<(hh.ch.length:Int))=false:=decide_eq_false (by omega)
  obtain rfl:k=hh.ch.length:=by omega
  have cc:=(sSortSt (cmpOC hh) (intsN hh.ch.length) (fun x hx=>by
   simp only [intsN,List.mem_map,List.mem_range] at hx
   obtain ⟨k,hk,rfl⟩:=hx
   exact ⟨by omega,by omega⟩) (by omega)).sw 900 1000
  simp only [rowZ,fnO,vcd,↓vcp,seval] at cc
  simp only [rowZ,d0,vcd,↓vcp,seval]
  repeat' first|refine ⟨fun h=>?_,fun h=>?_⟩|refine aO ?_|refine aT ?_|fail
  refine TR.call [(1000,rowZ (intsN hh.ch.length))] [(1000,rowZ (orderC hh.ch))] _ [] (by rw [hP];exact cc) (by repeat' first|exact trivial|(intro _;assumption)|apply And.intro) (hin1 rfl) (by simp [keysO]) (by simp) ?_
  simp only [rowZ,vcd,↓vcp,seval]
  repeat' first|refine ⟨fun h=>?_,fun h=>?_⟩|refine aO ?_|refine aT ?_|fail
  refine RetK.mk _ (Wk.pub 1000 rfl) (by simp only [rs111,rsb,vcd,↓vcp,seval]) ?_ trivial
  simp only [rs111,rsb,vcd,↓vcp,seval]
  exact VLe.refl _
end Go.Proofs.YtanppabbmffokaaGreat
end
section
namespace Go.Proofs.YtanppabbmffokaaGreat
open Go.Bx
set_option maxRecDepth 10000
def doesS (s:Sl) (c:Ch):Sl:=
 if c.kd=1 then { s with rk:=c.rk } else if c.kd=2 then { s with cv:=c.cv } else if c.kd=3 then { s with on:=false } else if c.kd=4 then { s with on:=true } else s
theorem sDoes (s:Sl) (h:Ch) (hl:h.cv.length≤1000000):Ctr Tryz.prog 112 [.own 1 0,vCh h] [(1,.fix (cSl s))] (.tup []) [(1,.fix (cSl (doesS s h)))] []:=by
 refine ctr_own Tryz.func112 ok112 rfl cc112 cr112 Tryz.ntmps112 (by simp) rfl ?_
 intro c hP hfn
 have hr:h.kd=1∨h.kd=2∨h.kd=3∨h.kd=4∨(¬ h.kd=1∧¬ h.kd=2∧¬ h.kd=3∧¬ h.kd=4):=by omega
 have n2:((2:Int) == 1)=false:=rfl
 have n3:((3:Int) == 1)=false:=rfl
 have n4:((4:Int) == 1)=false:=rfl
 have n5:((3:Int) == 2)=false:=rfl
 have n6:((4:Int) == 2)=false:=rfl
 have n7:((4:Int) == 3)=false:=rfl
 rcases hr with e1|e1|e1|e1|⟨e1,e2,e3,e4⟩
 ·have hd:doesS s h={ s with rk:=h.rk }:=by simp [doesS,e1]
  rw [hd]
  simp only [kc112,namesL,V.names,ownNames,vCh,cCh,cSl,slC,e1,vcd,↓vcp,seval]
  repeat' first|refine ⟨fun h=>?_,fun h=>?_⟩|refine aO ?_|refine aT ?_|fail
  all_goals
   refine RetK.mk' _ (Wk.refl _ _) (by simp only [rs112,rsb,vcd,↓vcp,seval]) (by simp only [rs112,rsb,enb,vcd,↓vcp,seval]) ?_
   simp only [enb,vcd,↓vcp,seval]
 ·have hd:doesS s h={ s with cv:=h.cv }:=by simp [doesS,e1]
  rw [hd]
  have hb:h.cv.length*40≤140737488355328∧h.cv.length≤maxLen:=⟨by omega,by simp only [maxLen];omega⟩
  simp only [kc112,namesL,V.names,ownNames,vCh,cCh,cSl,slC,e1,n2,vcd,↓vcp,seval]
  repeat' first|refine ⟨fun h=>?_,fun h=>?_⟩|refine aO ?_|refine aT ?_|fail
  all_goals
   refine RetK.mk' _ (Wk.pub 24 rfl) (by simp only [rs112,rsb,vcd,↓vcp,seval]) (by simp only [rs112,rsb,enb,vcd,↓vcp,seval]) ?_
   simp only [enb,vcd,↓vcp,seval]
 ·have hd:doesS s h={ s with on:=false }:=by simp [doesS,e1]
  rw [hd]
  simp only [kc112,namesL,V.names,ownNames,vCh,cCh,cSl,slC,e1,n3,n5,vcd,↓vcp,seval]
  repeat' first|refine ⟨fun h=>?_,fun h=>?_⟩|refine aO ?_|refine aT ?_|fail
  all_goals
   refine RetK.mk' _ (Wk.refl _ _) (by simp only [rs112,rsb,vcd,↓vcp,seval]) (by simp only [rs112,rsb,enb,vcd,↓vcp,seval]) ?_
   simp only [enb,vcd,↓vcp,seval]
 ·have hd:doesS s h={ s with on:=true }:=by simp [doesS,e1]
  rw [hd]
  simp only [kc112,namesL,V.names,ownNames,vCh,cCh,cSl,slC,e1,n4,n6,n7,vcd,↓vcp,seval]
  repeat' first|refine ⟨fun h=>?_,fun h=>?_⟩|refine aO ?_|refine aT ?_|fail
  all_goals
   refine RetK.mk' _ (Wk.refl _ _) (by simp only [rs112,rsb,vcd,↓vcp,seval]) (by simp only [rs112,rsb,enb,vcd,↓vcp,seval]) ?_
   simp only [enb,vcd,↓vcp,seval]
 ·have hd:doesS s h=s:=by simp [doesS,e1,e2,e3,e4]
  have m1:(h.kd == 1)=false:=beq_false_of_ne e1
  have m2:(h.kd == 2)=false:=beq_false_of_ne e2
  have m3:(h.kd == 3)=false:=beq_false_of_ne e3
  have m4:(h.kd == 4)=false:=beq_false_of_ne e4
  rw [hd]
  simp only [kc112,namesL,V.names,ownNames,vCh,cCh,cSl,slC,m1,m2,m3,m4,vcd,↓vcp,seval]
  repeat' first|refine ⟨fun h=>?_,fun h=>?_⟩|refine aO ?_|refine aT ?_|fail
  all_goals
   refine RetK.mk' _ (Wk.refl _ _) (by simp only [rs112,rsb,vcd,↓vcp,seval]) (by simp only [rs112,rsb,enb,vcd,↓vcp,seval]) ?_
   simp only [enb,vcd,↓vcp,seval]
def rowS (l:List Sl):Go.Bx.Own:=.row 118 9 l.length (fun i=>dSl (l.getD i default))
def endB (now:Sl) (out:List Sl) (d:Int):Bool:=decide (0<out.length)&&holdsS (out.getD (out.length-1) default) { now with st:=d }
def endO (now:Sl) (out:List Sl) (d:Int):List Sl:=
 if now.sf=d then out else if endB now out d=true then out.set (out.length-1) { (out.getD (out.length-1) default) with st:=d } else out++[{ now with st:=d }]
theorem sEnd0 (now:Sl) (out:List Sl) (d:Int) (ho:out.length≤1000000) (hc:∀ s,s∈out→s.cv.length≤1000000) (h:now.sf=d∨endB now out d=true) :
  Ctr Tryz.prog 109 [.d (.int .i64 d),.own 901 0,.own 902 0] [(901,.fix (cSl now)),(902,.fix [.osl 1000]),(1000,rowS out)] (.tup []) [(901,.fix (cSl { now with sf:=d })),(902,.fix [.osl 1000]),(1000,rowS (endO now out d))] []:=by
 refine ctr_own Tryz.func109 ok109 rfl cc109 cr109 Tryz.ntmps109 (by simp) rfl ?_
 intro c hP hfn
 by_cases h1:now.sf=d
 ·have e:endO now out d=out:=by rw [endO,if_pos h1]
  have d0:(now.sf == d)=true:=beq_iff_eq.2 h1
  rw [e]
  simp only [kc109,namesL,V.names,ownNames,cSl,slC,rowS,dSl,d0,vcd,↓vcp,seval]
  repeat' first|refine ⟨fun h=>?_,fun h=>?_⟩|refine aO ?_|refine aT ?_|fail
  refine RetK.mk' _ (Wk.refl _ _) (by simp only [rs109,rsb,vcd,↓vcp,seval]) (by simp only [rs109,rsb,enb,vcd,↓vcp,seval]) ?_
  simp only [enb,vcd,↓vcp,seval]
 ·have hb:=h.resolve_left h1
  have e:endO now out d=out.set (out.length-1) { (out.getD (out.length-1) default) with st:=d }:=by rw [endO,if_neg h1,if_pos hb]
  have d0:(now.sf == d)=false:=beq_false_of_ne h1
  simp only [endB,Bool.and_eq_true,decide_eq_true_eq] at hb
  have w1:IntKind.i64.wrap ((out.length:Int)-1)=((out.length-1:Nat):Int):=(wI (by omega)).trans (by omega)
  obtain ⟨x,hx,hxm⟩:∃ x,(∀ d,out.getD (out.length-1) d=x)∧x∈out:=by
   obtain ⟨x,-,hg,hm,-⟩:=drop_at (l:=out) (k:=out.length-1) (by omega)
   exact ⟨x,hg,hm⟩
  rw [hx] at hb e
  have d1:decide (((out.length-1:Nat):Int)≥0)=true:=decide_eq_true (by omega)
  have cc:=sHolds x { now with st:=d } (by have:=hc x hxm;omega)
  rw [hb.2] at cc
  simp only [vSl,cSl,slC] at cc
  have b1:(0:Int)≤((out.length-1:Nat):Int)∧((out.length-1:Nat):Int)<(out.length:Int):=by omega
  rw [e]
  simp only [kc109,namesL,V.names,ownNames,cSl,slC,rowS,dSl,d0,w1,d1,hx,vcd,↓vcp,seval]
  repeat' first|((first|refine tp hP (by exact cc) ?_|refine tg hP (fun _=>by exact cc) ?_|refine tv hP rfl (by exact cc) ?_);try simp only [d0,w1,d1,hx,vcd,↓vcp,seval])|refine ⟨fun h=>?_,fun h=>?_⟩|refine aO ?_|refine aT ?_|fail
  refine RetK.mk' _ (Wk.refl _ _) (by simp only [rs109,rsb,vcd,↓vcp,seval]) (by simp only [rs109,rsb,enb,vcd,↓vcp,seval]) ?_
  simp only [enb,vcd,↓vcp,seval]
  refine OLe.row (by rw [List.length_set]) fun i hi=>?_
  have hgi:(out.set (out.length-1) { x with st:=d }).getD i default=if i=out.length-1 then { x with st:=d } else out.getD i default:=by
   simp only [List.getD_eq_getElem?_getD,List.getElem?_set]
   by_cases hi2:out.length-1=i
   ·rw [if_pos hi2,if_pos (by omega),if_pos hi2.symm];rfl
   ·rw [if_neg hi2,if_neg (fun h=>hi2 h.symm)]
  rw [hgi]
  by_cases hi2:i=out.length-1
  ·rw [if_pos hi2,if_pos hi2]
   simp [putD]
  ·rw [if_neg hi2,if_neg hi2]
theorem sEnd1 (now:Sl) (out:List Sl) (d:Int) (ho:out.length≤1000000) (hc:∀ s,s∈out→s.cv.length≤1000000) (h:¬ (now.sf=d∨endB now out d=true)) :
  Ctr Tryz.prog 109 [.d (.int .i64 d),.own 901 0,.own 902 0] [(901,.fix (cSl now)),(902,.fix [.osl 1000]),(1000,rowS out)] (.tup []) [(901,.fix (cSl { now with sf:=d })),(902,.fix [.osl 1001]),(1001,rowS (endO now out d))] [1001]:=by
 refine ctr_own Tryz.func109 ok109 rfl cc109 cr109 Tryz.ntmps109 (by simp) rfl ?_
 intro c hP hfn
 have h1:¬ now.sf=d:=fun e=>h (.inl e)
 have hb:¬ endB now out d=true:=fun e=>h (.inr e)
 have e:endO now out d=out++[{ now with st:=d }]:=by rw [endO,if_neg h1,if_neg hb]
 have d0:(now.sf == d)=false:=beq_false_of_ne h1
 have hroom:(out.length+1)*88≤140737488355328∧out.length+1≤maxLen:=⟨by omega,by simp only [maxLen];omega⟩
 by_cases h0:out.length=0
 ·have w1:IntKind.i64.wrap ((out.length:Int)-1)=-1:=(wI (by omega)).trans (by omega)
  have d1:decide ((-1:Int)≥0)=false:=rfl
  rw [e]
  simp only [kc109,namesL,V.names,ownNames,cSl,slC,rowS,dSl,d0,w1,d1,vcd,↓vcp,seval]
  refine TR.gp (gc:=false) (res:=.d (.bool false)) hP rfl (fun h=>by cases h) (fun h=>by cases h) ?_
  simp only [d0,w1,d1,vcd,↓vcp,seval]
  repeat' first|refine ⟨fun h=>?_,fun h=>?_⟩|refine aO ?_|refine aT ?_|fail
  refine RetK.mk' _ (Wk.sw 16 1001 _ hfn (by simp [namesL,V.names,ownNames,rowS,cSl]) (by simp [namesL,V.names,ownNames,rowS,cSl])) (by simp only [rs109,rsb,vcd,↓vcp,seval]) (by simp only [rs109,rsb,enb,vcd,↓vcp,seval]) ?_
  simp only [rowS,cSl,slC,dSl,enb,vcd,↓vcp,seval]
  exact OLe.app1 dSl (fun i hi=>by simp [hi,dSl,slC]) (by simp [dSl,slC,litRow])
 ·have w1:IntKind.i64.wrap ((out.length:Int)-1)=((out.length-1:Nat):Int):=(wI (by omega)).trans (by omega)
  obtain ⟨x,hx,hxm⟩:∃ x,(∀ d,out.getD (out.length-1) d=x)∧x∈out:=by
   obtain ⟨x,-,hg,hm,-⟩:=drop_at (l:=out) (k:=out.length-1) (by omega)
   exact ⟨x,hg,hm⟩
  rw [e]
  rw [endB,hx] at hb
  have hb2:holdsS x { now with st:=d }=false:=by
   cases hq:holdsS x { now with st:=d } with
   |false=>rfl
   |true=>rw [hq,decide_eq_true (by omega:0<out.length)] at hb;exact absurd rfl hb
  have d1:decide (((out.length-1:Nat):Int)≥0)=true:=decide_eq_true (by omega)
  have cc:=sHolds x { now with st:=d } (by have:=hc x hxm;omega)
  rw [hb2] at cc
  simp only [vSl,cSl,slC] at cc
  have b1:(0:Int)≤((out.length-1:Nat):Int)∧((out.length-1:Nat):Int)<(out.length:Int):=by omega
  simp only [kc109,namesL,V.names,ownNames,cSl,slC,rowS,dSl,d0,w1,d1,hx,vcd,↓vcp,seval]
  repeat' first|((first|refine tp hP (by exact cc) ?_|refine tg hP (fun _=>by exact cc) ?_|refine tv hP rfl (by exact cc) ?_);try simp only [d0,w1,d1,hx,vcd,↓vcp,seval])|refine ⟨fun h=>?_,fun h=>?_⟩|refine aO ?_|refine aT ?_|fail
  refine RetK.mk' _ (Wk.sw 16 1001 _ hfn (by simp [namesL,V.names,ownNames,rowS,cSl]) (by simp [namesL,V.names,ownNames,rowS,cSl])) (by simp only [rs109,rsb,vcd,↓vcp,seval]) (by simp only [rs109,rsb,enb,vcd,↓vcp,seval]) ?_
  simp only [rowS,cSl,slC,dSl,enb,vcd,↓vcp,seval]
  exact OLe.app1 dSl (fun i hi=>by simp [hi,dSl,slC]) (by simp [dSl,slC,litRow])
end Go.Proofs.YtanppabbmffokaaGreat
end
section
namespace Go.Proofs.YtanppabbmffokaaGreat
open Go.Bx
set_option maxRecDepth 10000
theorem hin3 {own:List (Nat×Go.Bx.Own)} {k1 k2 k3:Nat} {o1 o2 o3:Go.Bx.Own} (h1:own? own k1=some o1) (h2:own? own k2=some o2) (h3:own? own k3=some o3):∀ k' o',(k',o')∈[(k1,o1),(k2,o2),(k3,o3)]→own? own k'=some o':=fun k' o' hm=>by
 simp only [List.mem_cons,Prod.mk.injEq,List.not_mem_nil,or_false] at hm
 rcases hm with ⟨rfl,rfl⟩|⟨rfl,rfl⟩|⟨rfl,rfl⟩
 ·exact h1
 ·exact h2
 ·exact h3
def stepCut (ch:List Ch) (x:Sl×List Sl) (i:Int):Sl×List Sl:=(doesS { x.1 with sf:=(ch.getD i.toNat default).dy } (ch.getD i.toNat default),endO x.1 x.2 (ch.getD i.toNat default).dy)
def cut0 (h:Hi):Sl×List Sl:=(⟨h.tm.sf,0,true,h.tm.rk,h.tm.cv,0⟩,[])
def cutK (h:Hi) (k:Nat):Sl×List Sl:=((orderC h.ch).take k).foldl (stepCut h.ch) (cut0 h)
def cutS (h:Hi):List Sl:=endO (cutK h h.ch.length).1 (cutK h h.ch.length).2 h.tm.st
structure CutI (k:Nat) (x:Sl×List Sl):Prop where
 len:x.2.length≤k
 now:x.1.cv.length≤1000000
 cv:∀ s,s∈x.2→s.cv.length≤1000000
theorem endO_len (now:Sl) (out:List Sl) (d:Int):(endO now out d).length≤out.length+1:=by
 unfold endO
 split
 ·omega
 ·split
  ·simp
  ·simp
theorem endO_cv {now:Sl} {out:List Sl} {d:Int} (h1:now.cv.length≤1000000) (h2:∀ s,s∈out→s.cv.length≤1000000):∀ s,s∈endO now out d→s.cv.length≤1000000:=by
 unfold endO
 split
 ·exact h2
 ·split
  ·rename_i hb
   simp only [endB,Bool.and_eq_true,decide_eq_true_eq] at hb
   intro s hs
   rcases List.mem_or_eq_of_mem_set hs with h|h
   ·exact h2 s h
   ·obtain ⟨x,-,hg,hm,-⟩:=drop_at (l:=out) (k:=out.length-1) (by omega)
    rw [h,hg];exact h2 x hm
  ·intro s hs
   rcases List.mem_append.1 hs with h|h
   ·exact h2 s h
   ·rw [List.mem_singleton.1 h];exact h1
theorem doesS_cv {s:Sl} {c:Ch} (h1:s.cv.length≤1000000) (h2:c.cv.length≤1000000):(doesS s c).cv.length≤1000000:=by
 unfold doesS
 split
 ·exact h1
 ·split
  ·exact h2
  ·split
   ·exact h1
   ·split<;>exact h1
theorem CutI.step {h:Hi} (hc:∀ c,c∈h.ch→c.cv.length≤1000000) {k:Nat} {x:Sl×List Sl} (hx:CutI k x) {i:Int} (hi:okH h.ch i):CutI (k+1) (stepCut h.ch x i):=by
 obtain ⟨c,-,hg,hm,-⟩:=drop_at (l:=h.ch) (k:=i.toNat) (by have:=hi.1;have:=hi.2;omega)
 refine ⟨?_,?_,?_⟩
 ·have:=endO_len x.1 x.2 (h.ch.getD i.toNat default).dy
  have:=hx.len
  simp only [stepCut];omega
 ·simp only [stepCut];rw [hg];exact doesS_cv hx.now (hc c hm)
 ·simp only [stepCut];exact endO_cv hx.now hx.cv
theorem cutK_ok {h:Hi} (ht:h.tm.cv.length≤1000000) (hc:∀ c,c∈h.ch→c.cv.length≤1000000):∀ k,CutI k (cutK h k)
 |0=>⟨Nat.le_refl _,ht,fun s hs=>by simp [cutK,cut0] at hs⟩
 |k+1=>by
  by_cases hk:k<(orderC h.ch).length
  ·obtain ⟨x,hd,hg,hm,he⟩:=drop_at hk
   have:cutK h (k+1)=stepCut h.ch (cutK h k) x:=by rw [cutK,List.take_add_one,he,List.foldl_append];rfl
   rw [this]
   exact (cutK_ok ht hc k).step hc (orderC_ok _ x hm)
  ·have:cutK h (k+1)=cutK h k:=by rw [cutK,cutK,List.take_of_length_le (by omega),List.take_of_length_le (by omega)]
   rw [this]
   have:=cutK_ok ht hc k
   exact ⟨by have:=this.len;omega,this.now,this.cv⟩
structure SzC (h:Hi):Prop where
 t:h.tm.cv.length≤1000000
 n:h.ch.length≤100000
 c:∀ c,c∈h.ch→c.cv.length≤1000000
set_option maxHeartbeats 2000000 in
theorem sCut (hh:Hi) (z:SzC hh):Ctr Tryz.prog 66 [vHi hh] [] (.osl 7) [(7,rowS (cutS hh))] [7]:=by
 have co:=sOrderC hh (by have:=z.n;omega)
 simp only [vHi,cHi,slC,slH,dCh] at co
 have hb:hh.tm.cv.length*40≤140737488355328∧hh.tm.cv.length≤maxLen:=⟨by have:=z.t;omega,by have:=z.t;simp only [maxLen];omega⟩
 have hol:=orderC_len hh.ch
 refine ctr_own Tryz.func66 ok66 rfl cc66 cr66 Tryz.ntmps66 (by simp [vHi,cHi]) rfl ?_
 intro c hP hfn
 replace hfn:c.fn=[]:=hfn
 simp only [kc66,namesL,V.names,ownNames,vHi,cHi,slC,slH,dCh,vcd,↓vcp,seval]
 repeat' first|((first|refine tp hP (by exact co) ?_|refine tg hP (fun _=>by exact co) ?_|refine tv hP rfl (by exact co) ?_);try simp only [vcd,↓vcp,seval])|refine ⟨fun h=>?_,fun h=>?_⟩|refine aO ?_|refine aT ?_|fail
 refine vcC.loop (X:=Nat) (fun k=>⟨[(1,.mem (dHi hh)),(3,.own 3 0),(4,.own 4 0),(5,.own 5 0),(6,.fn (.func 109) [] [.own 4 0,.own 5 0]),(26,.d (slK .i64 (orderC hh.ch))),(27,.d (.int .i64 (orderC hh.ch).length)),(28,.d (.int .i64 k))],[(3,.fix [.d (.int .i64 hh.tm.sf),.d (.int .i64 hh.tm.st)]),(4,.fix (cSl (cutK hh k).1)),(5,.fix [.osl 1000]),(1000,rowS (cutK hh k).2)],[1,3,4,5,1000]⟩)
  (fun k=>k≤(orderC hh.ch).length) (fun k=>(orderC hh.ch).length-k) 0 (Nat.zero_le _) ?_ ?_
 ·refine (Wk.pubF 1 rfl rfl).trans ((Wk.pub 22 rfl).trans ((Wk.row0F 5 0 1000 118 9 (fun _=>[]) rfl rfl (by simp)).trans (Wk.of _ hfn rfl ?_ ?_)))
  ·simp only [dHi,slH,slC,dCh,enb,vcd,↓vcp,seval]
  ·simp only [rowS,cutK,cut0,cSl,slC,List.foldl_nil,enb,vcd,↓vcp,seval]
   exact OLe.row rfl (fun i hi=>absurd hi (Nat.not_lt_zero i))
 intro k hk
 have hI:=cutK_ok z.t z.c k
 by_cases hlt:k<(orderC hh.ch).length
 ·obtain ⟨i,hd,hg,hm,he⟩:=drop_at hlt
  have hi:=orderC_ok _ i hm
  obtain ⟨h1,h2⟩:=hi
  obtain ⟨c',hd',hg',hm',-⟩:=drop_at (l:=hh.ch) (k:=i.toNat) (by omega)
  have hS:cutK hh (k+1)=stepCut hh.ch (cutK hh k) i:=by rw [cutK,List.take_add_one,he,List.foldl_append];rfl
  have hS2:stepCut hh.ch (cutK hh k) i=(doesS { (cutK hh k).1 with sf:=c'.dy } c',endO (cutK hh k).1 (cutK hh k).2 c'.dy):=by rw [stepCut,hg']
  rw [hS2] at hS
  have hfin:∀ st:St,Wk c st ⟨[(1,.mem (dHi hh)),(3,.own 3 0),(4,.own 4 0),(5,.own 5 0),(6,.fn (.func 109) [] [.own 4 0,.own 5 0]),(26,.d (slK .i64 (orderC hh.ch))),(27,.d (.int .i64 (orderC hh.ch).length)),(28,.d (.int .i64 ((k+1:Nat):Int)))],[(3,.fix [.d (.int .i64 hh.tm.sf),.d (.int .i64 hh.tm.st)]),(4,.fix (cSl (doesS { (cutK hh k).1 with sf:=c'.dy } c'))),(5,.fix [.osl 1000]),(1000,rowS (endO (cutK hh k).1 (cutK hh k).2 c'.dy))],[1,3,4,5,1000]⟩→Wk c st ⟨[(1,.mem (dHi hh)),(3,.own 3 0),(4,.own 4 0),(5,.own 5 0),(6,.fn (.func 109) [] [.own 4 0,.own 5 0]),(26,.d (slK .i64 (orderC hh.ch))),(27,.d (.int .i64 (orderC hh.ch).length)),(28,.d (.int .i64 ((k+1:Nat):Int)))],[(3,.fix [.d (.int .i64 hh.tm.sf),.d (.int .i64 hh.tm.st)]),(4,.fix (cSl (cutK hh (k+1)).1)),(5,.fix [.osl 1000]),(1000,rowS (cutK hh (k+1)).2)],[1,3,4,5,1000]⟩:=fun st h=>by rw [hS];exact h
  have dc:=(sDoes { (cutK hh k).1 with sf:=c'.dy } c' (z.c c' hm')).sw 1 4
  have d0:decide ((k:Int)<((orderC hh.ch).length:Int))=true:=decide_eq_true (by omega)
  have w1:IntKind.i64.wrap ((k:Int)+1)=((k+1:Nat):Int):=wS (by have:=z.n;omega)
  generalize cutK hh k=x at *
  obtain ⟨now,out⟩:=x
  have hl:out.length≤k:=hI.len
  have hn:=z.n
  simp only [vCh,cCh,cSl,slC,vcd,↓vcp,seval] at dc
  by_cases hb:now.sf=c'.dy∨endB now out c'.dy=true
  ·have ec:=((sEnd0 now out c'.dy (by omega) hI.cv hb).sw 901 4).sw 902 5
   simp only [rowS,cSl,slC,vcd,↓vcp,seval] at ec
   simp only [dHi,slH,dCh,slC,cSl,rowS,hg,hg',d0,vcd,↓vcp,seval]
   repeat' first|refine ⟨fun h=>?_,fun h=>?_⟩|refine aO ?_|refine aT ?_|fail
   refine TR.callv [(4,.fix (cSl now)),(5,.fix [.osl 1000]),(1000,rowS out)] [(4,.fix (cSl { now with sf:=c'.dy })),(5,.fix [.osl 1000]),(1000,rowS (endO now out c'.dy))] _ [] rfl (by rw [hP];exact ec) trivial (by repeat' first|exact trivial|(intro _;assumption)|apply And.intro) (hin3 rfl rfl rfl) (by simp [keysO]) (by simp) ?_
   simp only [hg,hg',cSl,slC,rowS,vcd,↓vcp,seval]
   repeat' first|refine ⟨fun h=>?_,fun h=>?_⟩|refine aO ?_|refine aT ?_|fail
   refine TR.call [(4,.fix (cSl { now with sf:=c'.dy }))] [(4,.fix (cSl (doesS { now with sf:=c'.dy } c')))] _ [] (by rw [hP];exact dc) (by repeat' first|exact trivial|(intro _;assumption)|apply And.intro) (hin1 rfl) (by simp [keysO]) (by simp) ?_
   simp only [w1,cSl,slC,vcd,↓vcp,seval]
   repeat' first|refine ⟨fun h=>?_,fun h=>?_⟩|refine aO ?_|refine aT ?_|fail
   refine lopK.on (k+1) hlt (by omega) (hfin _ (Wk.of _ hfn rfl (by simp only [dHi,slH,dCh,slC,w1,enb,vcd,↓vcp,seval]) (by simp only [rowS,cSl,slC,enb,vcd,↓vcp,seval])))
  ·have ec:=((((sEnd1 now out c'.dy (by omega) hI.cv hb).sw 901 4).sw 902 5))
   simp only [rowS,cSl,slC,vcd,↓vcp,seval] at ec
   simp only [dHi,slH,dCh,slC,cSl,rowS,hg,hg',d0,vcd,↓vcp,seval]
   repeat' first|refine ⟨fun h=>?_,fun h=>?_⟩|refine aO ?_|refine aT ?_|fail
   refine TR.callv [(4,.fix (cSl now)),(5,.fix [.osl 1000]),(1000,rowS out)] [(4,.fix (cSl { now with sf:=c'.dy })),(5,.fix [.osl 1001]),(1001,rowS (endO now out c'.dy))] _ [1001] rfl (by rw [hP];exact ec) trivial (by repeat' first|exact trivial|(intro _;assumption)|apply And.intro) (hin3 rfl rfl rfl) (by simp [keysO]) (by simp) ?_
   simp only [hg,hg',cSl,slC,rowS,vcd,↓vcp,seval]
   repeat' first|refine ⟨fun h=>?_,fun h=>?_⟩|refine aO ?_|refine aT ?_|fail
   refine TR.call [(4,.fix (cSl { now with sf:=c'.dy }))] [(4,.fix (cSl (doesS { now with sf:=c'.dy } c')))] _ [] (by rw [hP];exact dc) (by repeat' first|exact trivial|(intro _;assumption)|apply And.intro) (hin1 rfl) (by simp [keysO]) (by simp) ?_
   simp only [w1,cSl,slC,vcd,↓vcp,seval]
   repeat' first|refine ⟨fun h=>?_,fun h=>?_⟩|refine aO ?_|refine aT ?_|fail
   refine lopK.on (k+1) hlt (by omega) (hfin _ ((Wk.sw 1001 1000 _ hfn (by simp) (by simp)).trans (Wk.of _ hfn rfl (by simp only [dHi,slH,dCh,slC,w1,enb,vcd,↓vcp,seval]) (by simp only [rowS,cSl,slC,enb,vcd,↓vcp,seval]))))
 ·have d0:decide ((k:Int)<((orderC hh.ch).length:Int))=false:=decide_eq_false (by omega)
  have hkn:k=hh.ch.length:=by omega
  subst hkn
  have hC:cutS hh=endO (cutK hh hh.ch.length).1 (cutK hh hh.ch.length).2 hh.tm.st:=rfl
  rw [hC]
  generalize cutK hh hh.ch.length=x at *
  obtain ⟨now,out⟩:=x
  have hl:out.length≤hh.ch.length:=hI.len
  have hn:=z.n
  by_cases hb:now.sf=hh.tm.st∨endB now out hh.tm.st=true
  ·have ec:=((sEnd0 now out hh.tm.st (by omega) hI.cv hb).sw 901 4).sw 902 5
   simp only [rowS,cSl,slC,vcd,↓vcp,seval] at ec
   simp only [dHi,slH,dCh,slC,cSl,rowS,d0,vcd,↓vcp,seval]
   repeat' first|refine ⟨fun h=>?_,fun h=>?_⟩|refine aO ?_|refine aT ?_|fail
   refine TR.callv [(4,.fix (cSl now)),(5,.fix [.osl 1000]),(1000,rowS out)] [(4,.fix (cSl { now with sf:=hh.tm.st })),(5,.fix [.osl 1000]),(1000,rowS (endO now out hh.tm.st))] _ [] rfl (by rw [hP];exact ec) trivial (by repeat' first|exact trivial|(intro _;assumption)|apply And.intro) (hin3 rfl rfl rfl) (by simp [keysO]) (by simp) ?_
   simp only [cSl,slC,rowS,vcd,↓vcp,seval]
   repeat' first|refine ⟨fun h=>?_,fun h=>?_⟩|refine aO ?_|refine aT ?_|fail
   refine RetK.mk _ (Wk.sw 1000 7 _ hfn (by simp) (by simp)) (by simp only [rs66,rsb,vcd,↓vcp,seval]) (by simp only [rs66,rsb,enb,vcd,↓vcp,seval]) ?_
   simp only [rowS,enb,vcd,↓vcp,seval]
  ·have ec:=((sEnd1 now out hh.tm.st (by omega) hI.cv hb).sw 901 4).sw 902 5
   simp only [rowS,cSl,slC,vcd,↓vcp,seval] at ec
   simp only [dHi,slH,dCh,slC,cSl,rowS,d0,vcd,↓vcp,seval]
   repeat' first|refine ⟨fun h=>?_,fun h=>?_⟩|refine aO ?_|refine aT ?_|fail
   refine TR.callv [(4,.fix (cSl now)),(5,.fix [.osl 1000]),(1000,rowS out)] [(4,.fix (cSl { now with sf:=hh.tm.st })),(5,.fix [.osl 1001]),(1001,rowS (endO now out hh.tm.st))] _ [1001] rfl (by rw [hP];exact ec) trivial (by repeat' first|exact trivial|(intro _;assumption)|apply And.intro) (hin3 rfl rfl rfl) (by simp [keysO]) (by simp) ?_
   simp only [cSl,slC,rowS,vcd,↓vcp,seval]
   repeat' first|refine ⟨fun h=>?_,fun h=>?_⟩|refine aO ?_|refine aT ?_|fail
   refine RetK.mk _ (Wk.sw 1001 7 _ hfn (by simp) (by simp)) (by simp only [rs66,rsb,vcd,↓vcp,seval]) (by simp only [rs66,rsb,enb,vcd,↓vcp,seval]) ?_
   simp only [rowS,enb,vcd,↓vcp,seval]
end Go.Proofs.YtanppabbmffokaaGreat
end
section
namespace Go.Proofs.YtanppabbmffokaaGreat
open Go.Bx
set_option maxRecDepth 10000
theorem pCloneC (l:List Cv) (hl:l.length≤1000000):Ctr Tryz.prog 37 [.d (slC l)] [] (.d (slC l)) [] []:=by
 have hb:l.length*40≤140737488355328∧l.length≤maxLen:=⟨by omega,by simp only [maxLen];omega⟩
 refine ctr_pure Tryz.func37 ok37 rfl cc37 cr37 Tryz.ntmps37 (by simp) rfl rfl ?_;intro c hP hfn;simp only [kc37,slC,vcd,↓vcp,seval]
 refine ⟨fun h=>?_,?_⟩
 ·refine RetK.pure (by simp only [rs37,rsb,vcd,↓vcp,seval]) ?_
  simp only [rs37,h,rsb,vcd,↓vcp,seval]
  exact VLe.nil rfl (fun h=>by cases h)
 ·repeat' first|refine ⟨fun h=>?_,fun h=>?_⟩|refine aO ?_|refine aT ?_|fail
  refine RetK.mk _ (Wk.pub 7 rfl) (by simp only [rs37,rsb,vcd,↓vcp,seval]) ?_ trivial
  simp only [rs37,rsb,enb,vcd,↓vcp,seval]
theorem pCloneB (l:List (Int×Int)) (hl:l.length≤1000000):Ctr Tryz.prog 106 [.d (slB l)] [] (.d (slB l)) [] []:=by
 have hb:l.length*16≤140737488355328∧l.length≤maxLen:=⟨by omega,by simp only [maxLen];omega⟩
 refine ctr_pure Tryz.func106 ok106 rfl cc106 cr106 Tryz.ntmps106 (by simp) rfl rfl ?_;intro c hP hfn;simp only [kc106,slB,vcd,↓vcp,seval]
 refine ⟨fun h=>?_,?_⟩
 ·refine RetK.pure (by simp only [rs106,rsb,vcd,↓vcp,seval]) ?_
  simp only [rs106,h,rsb,vcd,↓vcp,seval]
  exact VLe.nil rfl (fun h=>by cases h)
 ·repeat' first|refine ⟨fun h=>?_,fun h=>?_⟩|refine aO ?_|refine aT ?_|fail
  refine RetK.mk _ (Wk.pub 7 rfl) (by simp only [rs106,rsb,vcd,↓vcp,seval]) ?_ trivial
  simp only [rs106,rsb,enb,vcd,↓vcp,seval]
theorem pCloneI (l:List Int) (hl:l.length≤1000000):Ctr Tryz.prog 72 [.d (slK .i64 l)] [] (.d (slK .i64 l)) [] []:=by
 have hb:l.length*8≤140737488355328∧l.length≤maxLen:=⟨by omega,by simp only [maxLen];omega⟩
 refine ctr_pure Tryz.func72 ok72 rfl cc72 cr72 Tryz.ntmps72 (by simp) rfl rfl ?_;intro c hP hfn;simp only [kc72,slK,vcd,↓vcp,seval]
 refine ⟨fun h=>?_,?_⟩
 ·refine RetK.pure (by simp only [rs72,rsb,vcd,↓vcp,seval]) ?_
  simp only [rs72,h,rsb,vcd,↓vcp,seval]
  exact VLe.nil rfl (fun h=>by cases h)
 ·repeat' first|refine ⟨fun h=>?_,fun h=>?_⟩|refine aO ?_|refine aT ?_|fail
  refine RetK.mk _ (Wk.pub 7 rfl) (by simp only [rs72,rsb,vcd,↓vcp,seval]) ?_ trivial
  simp only [rs72,rsb,enb,vcd,↓vcp,seval]
structure SzV (v:Vs):Prop where
 age:v.age.length≤1000000
 zn:v.zn.length≤1000000
 pr:v.pr.length≤1000000
theorem SzV.short {v:Vs} (h:SzV v):ShortV v:=⟨by have:=h.age;omega,by have:=h.zn;omega,by have:=h.pr;omega⟩
theorem sOwnV (v:Vs) (hv:SzV v):Ctr Tryz.prog 63 [vV v] [] (vV v) [] []:=by
 have c1:=pCloneB v.age hv.age
 have c2:=pCloneI v.zn hv.zn
 have c3:=pCloneI v.pr hv.pr
 simp only [slB,slK] at c1 c2 c3
 refine ctr_pure Tryz.func63 ok63 rfl cc63 cr63 Tryz.ntmps63 (by simp) rfl rfl ?_;intro c hP hfn;simp only [kc63,vV,cV,slB,slK,vcd,↓vcp,seval]
 repeat' first|((first|refine tp hP (by first|exact c1|exact c2|exact c3) ?_|refine tg hP (fun _=>by first|exact c1|exact c2|exact c3) ?_|refine tv hP rfl (by first|exact c1|exact c2|exact c3) ?_);try simp only [vcd,↓vcp,seval])|refine ⟨fun h=>?_,fun h=>?_⟩|refine aO ?_|refine aT ?_|fail
 exact RetK.pure (by simp only [rs63,rsb,vcd,↓vcp,seval]) (by simp only [rs63,rsb,enb,vcd,↓vcp,seval])
theorem sOwnT (t:Tm) (ht:t.cv.length≤1000000):Ctr Tryz.prog 38 [vTm t] [] (vTm t) [] []:=by
 have c1:=pCloneC t.cv ht
 simp only [slC] at c1
 refine ctr_pure Tryz.func38 ok38 rfl cc38 cr38 Tryz.ntmps38 (by simp) rfl rfl ?_;intro c hP hfn;simp only [kc38,vTm,cTm,slC,vcd,↓vcp,seval]
 repeat' first|((first|refine tp hP (by exact c1) ?_|refine tg hP (fun _=>by exact c1) ?_|refine tv hP rfl (by exact c1) ?_);try simp only [vcd,↓vcp,seval])|refine ⟨fun h=>?_,fun h=>?_⟩|refine aO ?_|refine aT ?_|fail
 exact RetK.pure (by simp only [rs38,rsb,vcd,↓vcp,seval]) (by simp only [rs38,rsb,enb,vcd,↓vcp,seval])
def dVs (v:Vs):List D:=[.int .i64 v.fr,.int .i64 v.b0,.int .i64 v.b1,.int .i64 v.b2,.int .i64 v.b3,slB v.age,slK .i64 v.zn,slK .i64 v.pr,.int .i64 v.mn]
def slV (l:List Vs):D:=.sl false 9 l.length (fun i=>dVs (l.getD i default))
theorem sBackV (l:List Vs):Ctr Tryz.prog 108 [.d (slV l)] [] (.fn (.func 151) [] [.mem [slV l]]) [] []:=by
 refine ctr_pure Tryz.func108 ok108 rfl cc108 cr108 Tryz.ntmps108 (by simp) rfl rfl ?_;intro c hP hfn;simp only [kc108,slV,vcd,↓vcp,seval]
 repeat' first|refine ⟨fun h=>?_,fun h=>?_⟩|refine aO ?_|refine aT ?_|fail
 exact RetK.mk _ (Wk.pubF 1 rfl rfl) (by simp only [rs108,rsb,vcd,↓vcp,seval]) (by simp only [rs108,rsb,enb,vcd,↓vcp,seval]) trivial
def bkArgs (l:List Vs) (k:Nat):List V:=[.d (.int .i64 ((l.length-1-k:Nat):Int)),vV (l.getD (l.length-1-k) default)]
theorem it_backV (l:List Vs) (hl:l.length≤1000000):IterC Tryz.prog 151 [.mem [slV l]] (bkArgs l) l.length:=by
 refine iter_of_vc Tryz.func151 ok151 rfl cc151 cr151 (by simp only [Tryz.ntmps151,List.length_cons,List.length_nil];decide) rfl (fun _=>rfl) ?_
 intro c l' T stop Z hP _ hZ hT hT' hY
 have w1:IntKind.i64.wrap ((l.length:Int)-1)=(l.length:Int)-1:=wI (by omega)
 simp only [kc151,slV,w1,vcd,↓vcp,seval]
 refine vcC.loop (X:=Nat) (fun k=>⟨[(0,.fn (.yield l') [] []),(1,.mem [slV l]),(3,.d (.int .i64 ((l.length:Int)-1-(k:Int))))],[]++Z k,[]++keysO (Z k)⟩)
  (fun k=>k≤l.length∧k≤T∧(stop=true→k<T)) (fun k=>l.length-k) 0 ⟨Nat.zero_le _,Nat.zero_le _,fun h=>(hT' h).1⟩ (Wk.ofZ hZ rfl 0 (own:=[]) (nm:=[]) rfl rfl (by simp only [slV,w1,enb,vcd,↓vcp,seval];omega) (by simp only [enb,vcd,↓vcp,seval]) (fun n o hm=>mem_own? (hZ.nodup 0) hm)) ?_
 rintro k ⟨hk,hkT,hks⟩
 by_cases hlt:k<l.length
 ·have d0:decide ((l.length:Int)-1-(k:Int)≥0)=true:=decide_eq_true (by omega)
  have e0:(l.length:Int)-1-(k:Int)=((l.length-1-k:Nat):Int):=by omega
  have e1:IntKind.i64.wrap (((l.length-1-k:Nat):Int)-1)=(l.length:Int)-1-((k+1:Nat):Int):=(wI (by omega)).trans (by omega)
  have b1:(0:Int)≤((l.length-1-k:Nat):Int)∧((l.length-1-k:Nat):Int)<(l.length:Int):=by omega
  have hlT:k<T:=by
   cases hst:stop with
   |true=>exact hks hst
   |false=>rw [hT hst];exact hlt
  rw [e0] at d0
  simp only [slV,dVs,e0,d0,vcd,↓vcp,seval]
  repeat' first|refine ⟨fun h=>?_,fun h=>?_⟩|refine aO ?_|refine aT ?_|fail
  refine TR.yield hZ rfl (hY k hlT) (own:=[]) (nm:=[]) rfl rfl rfl trivial (by simp only [bkArgs,vV,cV,slV,slB,vcd,↓vcp,seval]) (by simp only [vcd,↓vcp,seval]) ?_
  simp only [vcd,↓vcp,seval]
  refine ⟨fun hg=>?_,fun hg=>?_⟩
  ·have hT1:T=k+1:=by
    simp [goAt] at hg
    have:=hks hg.2
    omega
   subst hT1
   exact IterK.mk _ (Wk.refl _ _) (OwnLe.of fun n o hm=>⟨o,mem_own? (hZ.nodup (k+1)) hm,OLe.refl o⟩)
  ·have hg':k+1<T∨stop=false:=by
    simp [goAt] at hg
    by_cases h9:k+1<T
    ·exact .inl h9
    ·exact .inr (hg (by omega))
   simp only [e1,vcd,↓vcp,seval]
   refine lopK.on (k+1) ⟨hlt,hlT,fun h=>hg'.resolve_right (by rw [h];simp)⟩ (by omega) (Wk.ofZ hZ rfl (k+1) (own:=[]) (nm:=[]) rfl rfl (by simp only [slV,e1,enb,vcd,↓vcp,seval]) (by simp only [enb,vcd,↓vcp,seval]) (fun n o hm=>mem_own? (hZ.nodup (k+1)) hm))
 ·have hkl:k=l.length:=by omega
  have hst:stop=false:=by
   cases hst:stop with
   |false=>rfl
   |true=>have:=hks hst;have:=(hT' hst).2;omega
  have hTk:T=k:=by rw [hT hst,hkl]
  have d0:decide ((l.length:Int)-1-(k:Int)≥0)=false:=decide_eq_false (by omega)
  simp only [d0,vcd,↓vcp,seval]
  repeat' first|refine ⟨fun h=>?_,fun h=>?_⟩|refine aO ?_|refine aT ?_|fail
  rw [hTk]
  exact IterK.mk' _ (Wk.refl _ _) (OwnLe.of fun n o hm=>⟨o,mem_own? (hZ.nodup k) hm,OLe.refl o⟩)
def atV (l:List Vs) (d:Int):Option Vs:=l.reverse.find? (fun v=>decide (v.fr≤d))
def zV:Vs:=⟨0,0,0,0,0,[],[],[],0⟩
def atO (o:Option Vs):Vs:=o.getD zV
def atE (o:Option Vs):Int:=if o.isSome then 0 else 7
def zVs:List V:=[.d (.int .i64 0),.d (.int .i64 0),.d (.int .i64 0),.d (.int .i64 0),.d (.int .i64 0),.d (.sl true 0 0 fun _=>[]),.d (.sl true 0 0 fun _=>[]),.d (.sl true 0 0 fun _=>[]),.d (.int .i64 0)]
theorem bk_at {l:List Vs} {k:Nat} (h:k<l.length):l.reverse[k]?=some (l.getD (l.length-1-k) default):=by
 rw [List.getElem?_reverse h,List.getD_eq_getElem?_getD]
 have:l.length-1-k<l.length:=by omega
 rw [List.getElem?_eq_getElem this];rfl
theorem find_or {X:Type} (p:X→Bool):∀ (l:List X),(∃ (k:Nat) (x:X),l[k]?=some x∧p x=true∧l.find? p=some x∧∀ (j:Nat) (y:X),j<k→l[j]?=some y→p y=false)∨(l.find? p=none∧∀ (j:Nat) (y:X),l[j]?=some y→p y=false)
 |[]=>.inr ⟨rfl,fun j y h=>by simp at h⟩
 |a::l=>by
  cases ha:p a with
  |true=>exact .inl ⟨0,a,rfl,ha,by rw [List.find?_cons,ha],fun j y h=>absurd h (Nat.not_lt_zero j)⟩
  |false =>
   rcases find_or p l with ⟨k,x,h1,h2,h3,h4⟩|⟨h1,h2⟩
   ·refine .inl ⟨k+1,x,h1,h2,by rw [List.find?_cons,ha];exact h3,fun j y hj hy=>?_⟩
    cases j with
    |zero=>simp at hy;subst hy;exact ha
    |succ j=>exact h4 j y (by omega) (by simpa using hy)
   ·refine .inr ⟨by rw [List.find?_cons,ha];exact h1,fun j y hy=>?_⟩
    cases j with
    |zero=>simp at hy;subst hy;exact ha
    |succ j=>exact h2 j y (by simpa using hy)
def atOw (d:Int) (cs:List V):List (Nat×Go.Bx.Own):=[(3,.fix [.d (.int .i64 d)]),(4,.fix cs),(5,.fix [.d (.int .i64 0)])]
def atO1 (d:Int) (v:Vs) (cs:List V):List (Nat×Go.Bx.Own):=[(3,.fix [.d (.int .i64 d)]),(4,.fix cs),(5,.fix [.d (.int .i64 0)]),(7,.fix (cV v))]
def atEn (l:List Vs):List (Nat×V):=[(3,.own 3 0),(4,.own 4 0),(5,.own 5 0),(10,.fn (.func 151) [] [.mem [slV l]])]
def atE1:List (Nat×V):=[(3,.own 3 0),(4,.own 4 0),(5,.own 5 0),(7,.own 7 0)]
theorem at_cli (d:Int) (cs:Nat→List V) (h:∀ k,namesL (cs k)=[]):CliO [3,4,5] (fun k=>atOw d (cs k)):=by
 refine ⟨fun k=>by simp [atOw,keysO],fun k n hn=>?_,fun k n hn=>by simpa [atOw,keysO] using hn⟩
 simp only [atOw,ownNames,namesL,V.names,h,List.append_nil,List.nil_append] at hn
 simpa [atOw,keysO] using hn
theorem at_cli1 (d:Int) (v:Nat→Vs) (cs:Nat→List V) (h:∀ k,namesL (cs k)=[]):CliO [3,4,5] (fun k=>atO1 d (v k) (cs k)):=by
 refine ⟨fun k=>by simp [atO1,keysO],fun k n hn=>?_,fun k n hn=>?_⟩
 ·simp only [atO1,cV,ownNames,namesL,V.names,h,List.append_nil,List.nil_append] at hn
  simpa [atO1,keysO] using hn
 ·simp only [List.mem_cons,List.not_mem_nil,or_false] at hn
  rcases hn with h|h|h<;>simp [atO1,keysO,h]
theorem env_names {l:List (Nat×V)} {NF:List Nat} (h:∀ s y,(s,y)∈l→∀ n,n∈y.names→n∈NF):∀ s n,n∈(Go.Bx.get l s).names→n∈NF:=by
 induction l with
 |nil=>intro s n hn;simp [Go.Bx.get,V.names] at hn
 |cons p l ih =>
  obtain ⟨s',y⟩:=p
  intro s n hn
  simp only [Go.Bx.get] at hn
  split at hn
  ·exact h s' y (by simp) n hn
  ·exact ih (fun s y hm=>h s y (by simp [hm])) s n hn
theorem at_env (l:List Vs):∀ s n,n∈(Go.Bx.get (atEn l) s).names→n∈[3,4,5]:=env_names fun s y hm n hn=>by
 simp only [atEn,List.mem_cons,Prod.mk.injEq,List.not_mem_nil,or_false] at hm
 rcases hm with ⟨rfl,rfl⟩|⟨rfl,rfl⟩|⟨rfl,rfl⟩|⟨rfl,rfl⟩<;>simp [V.names,namesL] at hn ⊢<;>simp [hn]
set_option maxHeartbeats 1000000 in
theorem sAtV (l:List Vs) (d:Int) (hl:l.length≤1000000) (hz:∀ v,v∈l→SzV v):Ctr Tryz.prog 65 [.ag [.d (slV l)],.d (.int .i64 d)] [] (.tup [vV (atO (atV l d)),.d (.int .i64 (atE (atV l d)))]) [] []:=by
 have cb:=sBackV l
 simp only [slV,dVs] at cb
 refine ctr_pureL Tryz.func65 ok65 rfl cc65 cr65 Tryz.ntmps65 (by simp) rfl rfl ?_;intro c hP hfn hrd;simp only [kc65,slV,dVs,vcd,↓vcp,seval]
 repeat' first|((first|refine tp hP (by exact cb) ?_|refine tg hP (fun _=>by exact cb) ?_|refine tv hP rfl (by exact cb) ?_);try simp only [vcd,↓vcp,seval])|refine ⟨fun h=>?_,fun h=>?_⟩|refine aO ?_|refine aT ?_|fail
 have hI:=it_backV l hl
 rw [←hP] at hI
 have hv:∀ k,k<l.length→l.reverse[k]?=some (l.getD (l.length-1-k) default):=fun k hk=>bk_at hk
 have hmem:∀ k,k<l.length→l.getD (l.length-1-k) default∈l:=fun k hk=>by
  obtain ⟨x,-,hg,hm,-⟩:=drop_at (l:=l) (k:=l.length-1-k) (by omega)
  rw [hg];exact hm
 rcases find_or (fun v:Vs=>decide (v.fr≤d)) l.reverse with ⟨K,x,h1,h2,h3,h4⟩|⟨h3,h4⟩
 ·have hK:K<l.length:=by have:=(List.getElem?_eq_some_iff.1 h1).1;simpa using this
  have hx:l.getD (l.length-1-K) default=x:=by have:=hv K hK;rw [h1] at this;injection this with this;exact this.symm
  have hat:atV l d=some x:=h3
  have hcs:∀ k,namesL (if k=K+1 then cV x else zVs)=[]:=fun k=>by split<;>simp [cV,zVs,namesL,V.names]
  refine vcC.rfnJ hI (K+1) (some .ret) (atEn l) [3,4,5] (fun k=>atOw d (if k=K+1 then cV x else zVs)) (fun k=>atO1 d (l.getD (l.length-1-k) default) zVs) (fun _=>atE1) ?_ rfl trivial
   ⟨hrd,at_cli d _ hcs,at_cli1 d _ _ (fun _=>by simp [zVs,namesL,V.names]),fun n hn=>(by rw [hfn] at hn;cases hn),at_env l,rfl,fun _=>rfl,fun _=>rfl,fun h=>(by cases h),fun _=>⟨by omega,by omega⟩,fun h=>(by cases h)⟩ ?_ ?_ (fun h=>by cases h) ?_
  ·refine Wk.of (b:=⟨atEn l,atOw d zVs,[3,4,5]⟩) _ hfn rfl ?_ ?_
   ·simp only [atEn,slV,dVs,slB,enb,vcd,↓vcp,seval]
   ·simp only [atOw,zVs,enb,vcd,↓vcp,seval]
  ·intro k hk cB hPB hfB
   have hne:¬ k=K+1:=by omega
   simp only [setPs,bkArgs,vV,cV,atOw,atEn,zVs,hne,if_false,vcd,↓vcp,seval]
   rw [rfnA_nrm]
   refine Wk.of (b:=⟨atE1,atO1 d (l.getD (l.length-1-k) default) zVs,[3,4,5,7]⟩) _ hfB rfl ?_ ?_
   ·simp only [atE1,enb,vcd,↓vcp,seval]
   ·simp only [atO1,zVs,cV,enb,vcd,↓vcp,seval]
  ·intro k hk cB hPB hfB
   have hP:=hPB.trans hP
   by_cases hkK:k=K
   ·subst hkK
    have hg:goAt (k+1) (some Ex.ret).isSome k=false:=by simp [goAt]
    have d0:decide (x.fr≤d)=true:=h2
    have co:=sOwnV x (hz x (by rw [←hx];exact hmem k hK))
    simp only [vV,cV,slB] at co
    simp only [hg,hx,if_true]
    simp only [atO1,atE1,atOw,cV,slB,zVs,d0,vcd,↓vcp,seval]
    repeat' first|((first|refine tp hP (by exact co) ?_|refine tg hP (fun _=>by exact co) ?_|refine tv hP rfl (by exact co) ?_);try simp only [d0,vcd,↓vcp,seval])|refine ⟨fun h=>?_,fun h=>?_⟩|refine aO ?_|refine aT ?_|fail
    all_goals
     exact Wk.of (b:=⟨[],atOw d (cV x),[3,4,5]⟩) _ hfB rfl (by simp only [enb,vcd,↓vcp,seval]) (by simp only [atOw,cV,slB,enb,vcd,↓vcp,seval])
   ·have hg:goAt (K+1) (some Ex.ret).isSome k=true:=by simp [goAt];omega
    have hne:¬ k+1=K+1:=by omega
    obtain ⟨y,hy⟩:∃ y,l.getD (l.length-1-k) default=y:=⟨_,rfl⟩
    have d0:decide (y.fr≤d)=false:=by rw [←hy];exact h4 k _ (by omega) (hv k (by omega))
    simp only [hg,hy,hne,if_false]
    simp only [atO1,atE1,atOw,cV,slB,zVs,d0,vcd,↓vcp,seval]
    repeat' first|refine ⟨fun h=>?_,fun h=>?_⟩|refine aO ?_|refine aT ?_|fail
    all_goals
     exact Wk.of (b:=⟨[],atOw d zVs,[3,4,5]⟩) _ hfB rfl (by simp only [enb,vcd,↓vcp,seval]) (by simp only [atOw,zVs,enb,vcd,↓vcp,seval])
  ·intro e he
   injection he with he
   subst he
   simp only [if_true,atEn,atOw,cV,hat,atO,atE,Option.getD_some,Option.isSome_some,vcd,↓vcp,seval]
   refine RetK.pure (by simp only [rs65,rsb,vcd,↓vcp,seval]) ?_
   simp only [rs65,vV,cV,rsb,enb,vcd,↓vcp,seval]
 ·have hat:atV l d=none:=h3
  refine vcC.rfnAll hI (atEn l) [3,4,5] (fun k=>atOw d zVs) (fun k=>atO1 d (l.getD (l.length-1-k) default) zVs) (fun _=>atE1) ?_ rfl trivial
   ⟨hrd,at_cli d _ (fun _=>by simp [zVs,namesL,V.names]),at_cli1 d _ _ (fun _=>by simp [zVs,namesL,V.names]),fun n hn=>(by rw [hfn] at hn;cases hn),at_env l,rfl,fun _=>rfl,fun _=>rfl,fun _=>rfl,fun h=>absurd rfl h,fun h=>(by cases h)⟩ ?_ ?_ ?_
  ·refine Wk.of (b:=⟨atEn l,atOw d zVs,[3,4,5]⟩) _ hfn rfl ?_ ?_
   ·simp only [atEn,slV,dVs,slB,enb,vcd,↓vcp,seval]
   ·simp only [atOw,zVs,enb,vcd,↓vcp,seval]
  ·intro k hk cB hPB hfB
   simp only [setPs,bkArgs,vV,cV,atOw,atEn,zVs,vcd,↓vcp,seval]
   rw [rfnA_nrm]
   refine Wk.of (b:=⟨atE1,atO1 d (l.getD (l.length-1-k) default) zVs,[3,4,5,7]⟩) _ hfB rfl ?_ ?_
   ·simp only [atE1,enb,vcd,↓vcp,seval]
   ·simp only [atO1,zVs,cV,enb,vcd,↓vcp,seval]
  ·intro k hk cB hPB hfB
   obtain ⟨y,hy⟩:∃ y,l.getD (l.length-1-k) default=y:=⟨_,rfl⟩
   have d0:decide (y.fr≤d)=false:=by rw [←hy];exact h4 k _ (hv k hk)
   simp only [hy]
   simp only [atO1,atE1,atOw,cV,slB,zVs,d0,vcd,↓vcp,seval]
   repeat' first|refine ⟨fun h=>?_,fun h=>?_⟩|refine aO ?_|refine aT ?_|fail
   all_goals
    exact Wk.of (b:=⟨[],atOw d zVs,[3,4,5]⟩) _ hfB rfl (by simp only [enb,vcd,↓vcp,seval]) (by simp only [atOw,zVs,enb,vcd,↓vcp,seval])
  ·simp only [atEn,atOw,zVs,hat,atO,atE,vcd,↓vcp,seval]
   refine RetK.pure (by simp only [rs65,rsb,vcd,↓vcp,seval]) ?_
   simp only [rs65,vV,cV,rsb,enb,vcd,↓vcp,seval]
   have nl:∀ {sz:Nat} {f g:Nat→List D},VLe (.d (.sl true 0 0 g)) (.d (.sl false sz 0 f)):=VLe.nil rfl (fun h=>by cases h)
   exact VLe.tups ⟨VLe.ags ⟨VLe.refl _,VLe.refl _,VLe.refl _,VLe.refl _,VLe.refl _,nl,nl,nl,VLe.refl _,trivial⟩,VLe.refl _,trivial⟩
end Go.Proofs.YtanppabbmffokaaGreat
end
section
namespace Go.Proofs.YtanppabbmffokaaGreat
open Go.ChangeShapes Go.WideShapes Go.ChangeAt Go.RowKit Go.Bx
theorem band_reads:Reads Tryz.prog 182 2 (fun l:Int×Int=>[.int .i64 l.1,.int .i64 l.2]) (fun _=>True):=
 (Reads.struct Tryz.underlying182 (FR.cons rfl int_reads (FR.cons rfl int_reads FR.nil)) (by kernel_rfl)).map (fun x=>(x.1,x.2.1)) _ _ (fun _=>rfl) (fun _=>rfl) (fun _ _=>trivial)
theorem bands_reads:Reads Tryz.prog 73 1 (fun l:List (Int×Int)=>[slB l]) (fun l=>l.length≤9223372036854775807):=
 (band_reads.slice Tryz.underlying73 (by kernel_rfl) (by decide)).map id _ _ (fun _=>rfl) (fun _=>rfl) (fun _ h=>h.1)
theorem ints_reads:Reads Tryz.prog 46 1 (fun l:List Int=>[slK .i64 l]) (fun l=>l.length≤9223372036854775807∧∀ n,n∈l→I64 n):=
 (int_reads.slice Tryz.underlying46 (by kernel_rfl) (by decide)).map id _ _ (fun _=>rfl) (fun _=>rfl) (fun _ h=>h)
theorem four_reads:Reads Tryz.prog 72 4 (fun t:Int×Int×Int×Int=>[.int .i64 t.1,.int .i64 t.2.1,.int .i64 t.2.2.1,.int .i64 t.2.2.2]) (fun _=>True):=
 (int_reads.array Tryz.underlying72 (by kernel_rfl)).map (fun g=>(g 0,g 1,g 2,g 3)) _ _ (fun _=>rfl) (fun _=>rfl) (fun _ _=>trivial)
def okV (v:Vs):Prop:=I64 v.fr∧v.age.length≤9223372036854775807∧v.zn.length≤9223372036854775807∧v.pr.length≤9223372036854775807
theorem version_reads:Reads Tryz.prog 75 9 dVs okV:=
 (Reads.struct Tryz.underlying75 (FR.cons rfl int_reads (FR.cons rfl four_reads (FR.cons rfl bands_reads (FR.cons rfl ints_reads (FR.cons rfl ints_reads (FR.cons rfl int_reads FR.nil)))))) (by kernel_rfl)).map (fun x=>⟨x.1,x.2.1.1,x.2.1.2.1,x.2.1.2.2.1,x.2.1.2.2.2,x.2.2.1,x.2.2.2.1,x.2.2.2.2.1,x.2.2.2.2.2.1⟩) _ _ (fun _=>rfl) (fun _=>rfl) (fun _ h=>⟨h.1,h.2.2.1,h.2.2.2.1.1,h.2.2.2.2.1.1⟩)
theorem versions_reads:Reads Tryz.prog 32 1 (fun l:List Vs=>[slV l]) (fun l=>l.length≤9223372036854775807∧∀ v,v∈l→okV v):=
 (version_reads.slice Tryz.underlying32 (by kernel_rfl) (by decide)).map id _ _ (fun _=>rfl) (fun _=>rfl) (fun _ h=>h)
theorem tariff_reads:Reads Tryz.prog 34 1 (fun l:List Vs=>[slV l]) (fun l=>l.length≤9223372036854775807∧∀ v,v∈l→okV v):=
 (Reads.struct Tryz.underlying34 (FR.cons rfl versions_reads FR.nil) (by kernel_rfl)).map (fun x=>x.1) _ _ (fun _=>rfl) (fun _=>rfl) (fun _ h=>h.1)
theorem risk_reads:Reads Tryz.prog 25 4 (fun r:Rk=>[.int .i64 r.kd,.int .i64 r.va,.int .i64 r.ag,.int .i64 r.zo]) (fun _=>True):=
 (Reads.struct Tryz.underlying25 (FR.cons rfl int_reads (FR.cons rfl int_reads (FR.cons rfl int_reads (FR.cons rfl int_reads FR.nil)))) (by kernel_rfl)).map (fun x=>⟨x.1,x.2.1,x.2.2.1,x.2.2.2.1⟩) _ _ (fun _=>rfl) (fun _=>rfl) (fun _ _=>trivial)
theorem cover_reads:Reads Tryz.prog 63 5 (fun c:Cv=>[.int .i64 c.pe,.int .i64 c.li,.int .i64 c.ag,.int .i64 c.de,.int .i64 c.sh]) (fun _=>True):=
 (Reads.struct Tryz.underlying63 (FR.cons rfl int_reads (FR.cons rfl int_reads (FR.cons rfl int_reads (FR.cons rfl int_reads (FR.cons rfl int_reads FR.nil))))) (by kernel_rfl)).map (fun x=>⟨x.1,x.2.1,x.2.2.1,x.2.2.2.1,x.2.2.2.2.1⟩) _ _ (fun _=>rfl) (fun _=>rfl) (fun _ _=>trivial)
theorem covers_reads:Reads Tryz.prog 26 1 (fun l:List Cv=>[slC l]) (fun l=>l.length≤9223372036854775807):=
 (cover_reads.slice Tryz.underlying26 (by kernel_rfl) (by decide)).map id _ _ (fun _=>rfl) (fun _=>rfl) (fun _ h=>h.1)
theorem span_reads:Reads Tryz.prog 23 2 (fun l:Int×Int=>[.int .i64 l.1,.int .i64 l.2]) (fun l=>I64 l.1∧I64 l.2):=
 (Reads.struct Tryz.underlying23 (FR.cons rfl int_reads (FR.cons rfl int_reads FR.nil)) (by kernel_rfl)).map (fun x=>(x.1,x.2.1)) _ _ (fun _=>rfl) (fun _=>rfl) (fun _ h=>⟨h.1,h.2.1⟩)
theorem terms_reads:Reads Tryz.prog 28 7 (fun t:Tm=>[.int .i64 t.sf,.int .i64 t.st,.int .i64 t.rk.kd,.int .i64 t.rk.va,.int .i64 t.rk.ag,.int .i64 t.rk.zo,slC t.cv]) (fun t=>I64 t.sf∧I64 t.st∧t.cv.length≤9223372036854775807):=
 (Reads.struct Tryz.underlying28 (FR.cons rfl span_reads (FR.cons rfl risk_reads (FR.cons rfl covers_reads FR.nil))) (by kernel_rfl)).map (fun x=>⟨x.1.1,x.1.2,x.2.1,x.2.2.1⟩) _ _ (fun _=>rfl) (fun _=>rfl) (fun _ h=>⟨h.1.1,h.1.2,h.2.2.1⟩)
def okCh (c:Ch):Prop:=I64 c.bk∧I64 c.dy∧c.cv.length≤9223372036854775807
theorem change_reads:Reads Tryz.prog 36 9 dCh okCh:=
 (Reads.struct Tryz.underlying36 (FR.cons rfl int_reads (FR.cons rfl int_reads (FR.cons rfl int_reads (FR.cons rfl risk_reads (FR.cons rfl covers_reads (FR.cons rfl int_reads FR.nil)))))) (by kernel_rfl)).map (fun x=>⟨x.1,x.2.1,x.2.2.1,x.2.2.2.1,x.2.2.2.2.1,x.2.2.2.2.2.1⟩) _ _ (fun _=>rfl) (fun _=>rfl) (fun _ h=>⟨h.1,h.2.1,h.2.2.2.2.1⟩)
theorem changes_reads:Reads Tryz.prog 29 1 (fun l:List Ch=>[slH l]) (fun l=>l.length≤9223372036854775807∧∀ c,c∈l→okCh c):=
 (change_reads.slice Tryz.underlying29 (by kernel_rfl) (by decide)).map id _ _ (fun _=>rfl) (fun _=>rfl) (fun _ h=>h)
def okHi (h:Hi):Prop:=I64 h.bk∧(I64 h.tm.sf∧I64 h.tm.st∧h.tm.cv.length≤9223372036854775807)∧h.ch.length≤9223372036854775807∧∀ c,c∈h.ch→okCh c
theorem history_reads:Reads Tryz.prog 31 10 (fun h:Hi=>[.int .i64 h.id,.int .i64 h.bk,.int .i64 h.tm.sf,.int .i64 h.tm.st,.int .i64 h.tm.rk.kd,.int .i64 h.tm.rk.va,.int .i64 h.tm.rk.ag,.int .i64 h.tm.rk.zo,slC h.tm.cv,slH h.ch]) okHi:=
 (Reads.struct Tryz.underlying31 (FR.cons rfl int_reads (FR.cons rfl int_reads (FR.cons rfl terms_reads (FR.cons rfl changes_reads FR.nil)))) (by kernel_rfl)).map (fun x=>⟨x.1,x.2.1,x.2.2.1,x.2.2.2.1⟩) _ _ (fun _=>rfl) (fun _=>rfl) (fun _ h=>⟨h.2.1,h.2.2.1,h.2.2.2.1⟩)
end Go.Proofs.YtanppabbmffokaaGreat
end
section
namespace Go.Proofs.YtanppabbmffokaaGreat
open Go.Bx
def moneyB (v:Int):Bool:=decide (v≥-4000000000000000000)&&decide (v≤4000000000000000000)
def stG:Int→Int→List (Int×Int)→Bool
 |_,_,[]=>true
 |day,val,(d,v)::r=>!(decide (d≤day) || decide (d>292194) || (v == val) || !(moneyB v))&&stG d v r
def valG:Int→List (Int×Int)→Int→Int
 |cur,[],_=>cur
 |cur,(d,v)::r,day=>if d≤day then valG v r day else cur
def valS (P:List (Int×Int)) (day:Int):Int:=valG 0 P day
def pieG (f:Int→Int) (to:Int):Int→List Int→List ((Int×Int)×Int)
 |fr,[]=>[((fr,to),f fr)]
 |fr,d::r=>if d≤fr∨d≥to then pieG f to fr r else ((fr,d),f fr)::pieG f to d r
def sumG:Int→Int→List ((Int×Int)×Int)→Int×Int
 |sum,_,[]=>(sum,0)
 |sum,all,((p,q),v)::r=>if max v (-v)>(4000000000000000000-all) / (q-p) then (0,5) else sumG (sum+(q-p)*v) (all+(q-p)*max v (-v)) r
def fullB (a b:Int):Bool:=decide (a≥1)&&decide (a<b)&&decide (b≤292195)
def sumS (P:List (Int×Int)) (a b:Int):Int×Int:=if stG 0 0 P&&fullB a b then sumG 0 0 (pieG (valS P) b a (P.map (·.1))) else (0,1)
def dSum (g:Int→Int):Int→Nat→Int
 |_,0=>0
 |a,n+1=>g a+dSum g (a+1) n
theorem dSum_add (g:Int→Int):∀ (m n:Nat) (a:Int),dSum g a (m+n)=dSum g a m+dSum g (a+m) n
 |0,n,a=>by simp [dSum]
 |m+1,n,a=>by
  have e:a+((m+1:Nat):Int)=a+1+(m:Int):=by omega
  rw [show m+1+n=(m+n)+1 by omega,dSum,dSum,dSum_add g m n (a+1),e,Int.add_assoc (g a)]
theorem dSum_const {g:Int→Int} {v:Int}:∀ (n:Nat) (a:Int),(∀ d,a≤d→d<a+n→g d=v)→dSum g a n=n*v
 |0,a,_=>by simp [dSum]
 |n+1,a,h=>by
  rw [dSum,dSum_const n (a+1) (fun d h1 h2=>h d (by omega) (by omega)),h a (by omega) (by omega)]
  rw [show ((n+1:Nat):Int)=1+(n:Int) by omega,Int.add_mul,Int.one_mul]
theorem dSum_nonneg {g:Int→Int}:∀ (n:Nat) (a:Int),(∀ d,a≤d→d<a+n→0≤g d)→0≤dSum g a n
 |0,a,_=>Int.le_refl _
 |n+1,a,h=>by
  have h1:=h a (by omega) (by omega)
  have h2:=dSum_nonneg n (a+1) (fun d h1 h2=>h d (by omega) (by omega))
  rw [dSum];omega
theorem stG_iff:∀ {P:List (Int×Int)} {day val:Int},stG day val P=true→(∀ p,p∈P→day<p.1∧p.1≤292194∧-4000000000000000000≤p.2∧p.2≤4000000000000000000)∧P.Pairwise (fun a b=>a.1<b.1)
 |[],_,_,_=>⟨fun p hp=>by simp at hp,List.Pairwise.nil⟩
 |(d,v)::r,day,val,h=>by
  simp only [stG,moneyB,Bool.and_eq_true,Bool.not_eq_true',Bool.or_eq_false_iff,decide_eq_false_iff_not] at h
  obtain ⟨⟨⟨⟨h1,h2⟩,h3⟩,h4⟩,h5⟩:=h
  obtain ⟨i1,i2⟩:=stG_iff h5
  have hm:-4000000000000000000≤v∧v≤4000000000000000000:=by simpa using h4
  refine ⟨fun p hp=>?_,List.pairwise_cons.2 ⟨fun p hp=>(i1 p hp).1,i2⟩⟩
  rcases List.mem_cons.1 hp with rfl|hp
  ·exact ⟨by simp only;omega,by simp only;omega,hm⟩
  ·have:=i1 p hp;exact ⟨by omega,this.2⟩
theorem valG_mem:∀ {P:List (Int×Int)} {cur day:Int},valG cur P day=cur∨∃ p,p∈P∧valG cur P day=p.2
 |[],_,_=>.inl rfl
 |(d,v)::r,cur,day=>by
  rw [valG]
  split
  ·rcases valG_mem (P:=r) (cur:=v) (day:=day) with h|⟨p,h1,h2⟩
   ·exact .inr ⟨(d,v),by simp,h⟩
   ·exact .inr ⟨p,by simp [h1],h2⟩
  ·exact .inl rfl
theorem valG_same:∀ {P:List (Int×Int)} {cur a b:Int},a≤b→(∀ p,p∈P→p.1≤a∨b<p.1)→valG cur P b=valG cur P a
 |[],_,_,_,_,_=>rfl
 |(d,v)::r,cur,a,b,hab,h=>by
  have h1:=h (d,v) (by simp)
  simp only at h1
  rw [valG,valG]
  rcases h1 with h1|h1
  ·rw [if_pos (by omega),if_pos h1,valG_same hab (fun p hp=>h p (by simp [hp]))]
  ·rw [if_neg (by omega),if_neg (by omega)]
theorem valG_at:∀ {P:List (Int×Int)} {cur day:Int} (k:Nat),k≤P.length→(∀ j,j<k→(P.getD j (0,0)).1≤day)→(∀ j,k≤j→j<P.length→day<(P.getD j (0,0)).1)→valG cur P day=if k=0 then cur else (P.getD (k-1) (0,0)).2
 |[],cur,day,k,hk,_,_=>by simp at hk;subst hk;rfl
 |(d,v)::r,cur,day,0,hk,h1,h2=>by
  have:=h2 0 (Nat.le_refl _) (by simp)
  rw [valG,if_neg (by simpa using this)];rfl
 |(d,v)::r,cur,day,k+1,hk,h1,h2=>by
  have:=h1 0 (by omega)
  rw [valG,if_pos (by simpa using this),valG_at k (by simpa using hk) (fun j hj=>by simpa using h1 (j+1) (by omega)) (fun j hj hl=>by simpa using h2 (j+1) (by omega) (by simpa using hl))]
  cases k with
  |zero=>simp
  |succ k=>simp
inductive Cut (g:Int→Int):Int→Int→List ((Int×Int)×Int)→Prop
 |nil (a:Int):Cut g a a []
 |cons {a b c:Int} {l:List ((Int×Int)×Int)} (h:a<b) (hg:∀ d,a≤d→d<b→g d=g a) (hl:Cut g b c l):Cut g a c (((a,b),g a)::l)
theorem pieG_cut {P:List (Int×Int)} {to:Int}:∀ {r:List Int} {fr:Int},fr<to→r.Pairwise (·<·)→(∀ d,d∈P.map (·.1)→d≤fr∨d∈r)→Cut (valS P) fr to (pieG (valS P) to fr r)
 |[],fr,h,_,hr=>by
  refine .cons h (fun d h1 h2=>valG_same h1 fun p hp=>?_) (.nil _)
  rcases hr p.1 (List.mem_map.2 ⟨p,hp,rfl⟩) with h3|h3
  ·exact .inl h3
  ·simp at h3
 |d::r,fr,h,hp,hr=>by
  obtain ⟨p1,p2⟩:=List.pairwise_cons.1 hp
  rw [pieG]
  split
  ·rename_i h3
   rcases h3 with h3|h3
   ·refine pieG_cut h p2 (fun x hx=>?_)
    rcases hr x hx with h4|h4
    ·exact .inl h4
    ·rcases List.mem_cons.1 h4 with rfl|h4
     ·exact .inl h3
     ·exact .inr h4
   ·
    have key:∀ (r':List Int),(∀ x,x∈r'→x≥to)→pieG (valS P) to fr r'=[((fr,to),valS P fr)]:=by
     intro r'
     induction r' with
     |nil=>intro _;rfl
     |cons x r' ih=>intro hx;rw [pieG,if_pos (.inr (hx x (by simp))),ih fun y hy=>hx y (by simp [hy])]
    rw [key r fun x hx=>by have:=p1 x hx;omega]
    refine .cons h (fun x h1 h2=>valG_same h1 fun p hp=>?_) (.nil _)
    rcases hr p.1 (List.mem_map.2 ⟨p,hp,rfl⟩) with h4|h4
    ·exact .inl h4
    ·rcases List.mem_cons.1 h4 with h5|h4
     ·exact .inr (by omega)
     ·have:=p1 _ h4;exact .inr (by omega)
  ·rename_i h3
   refine .cons (by omega) (fun x h1 h2=>valG_same h1 fun p hp=>?_) (pieG_cut (by omega) p2 fun x hx=>?_)
   ·rcases hr p.1 (List.mem_map.2 ⟨p,hp,rfl⟩) with h4|h4
    ·exact .inl h4
    ·rcases List.mem_cons.1 h4 with h5|h4
     ·exact .inr (by omega)
     ·have:=p1 _ h4;exact .inr (by omega)
   ·rcases hr x hx with h4|h4
    ·exact .inl (by omega)
    ·rcases List.mem_cons.1 h4 with rfl|h4
     ·exact .inl (Int.le_refl _)
     ·exact .inr h4
theorem Cut.le {g:Int→Int} {a b:Int} {l:List ((Int×Int)×Int)} (h:Cut g a b l):a≤b:=by
 induction h with
 |nil=>exact Int.le_refl _
 |cons h _ _ ih=>omega
theorem sumG_cut {g:Int→Int} {a b:Int} {l:List ((Int×Int)×Int)} (h:Cut g a b l):∀ (sum all:Int),0≤all→all≤4000000000000000000 →
  sumG sum all l=if all+dSum (fun d=>max (g d) (-(g d))) a (b-a).toNat>4000000000000000000 then (0,5) else (sum+dSum g a (b-a).toNat,0):=by
 induction h with
 |nil a=>intro sum all h1 h2;simp [sumG,dSum];omega
 |@cons a b c l hab hg hl ih =>
  intro sum all h1 h2
  have hbc:=hl.le
  obtain ⟨n,hn⟩:∃ n:Nat,b-a=(n:Int):=⟨(b-a).toNat,by omega⟩
  obtain ⟨m,hm⟩:∃ m:Nat,c-b=(m:Int):=⟨(c-b).toNat,by omega⟩
  have e1:(c-a).toNat=n+m:=by omega
  have e2:(c-b).toNat=m:=by omega
  have eb:b=a+(n:Int):=by omega
  have s1:dSum g a n=n*g a:=dSum_const n a fun d h3 h4=>hg d h3 (by omega)
  have s2:dSum (fun d=>max (g d) (-(g d))) a n=n*max (g a) (-(g a)):=dSum_const n a fun d h3 h4=>by rw [hg d h3 (by omega)]
  have s3:0≤dSum (fun d=>max (g d) (-(g d))) b m:=dSum_nonneg m b fun d _ _=>by omega
  have hn0:0<(n:Int):=by omega
  rw [e2] at ih
  rw [e1,dSum_add,dSum_add,s1,s2,←eb,sumG,hn]
  have hq:max (g a) (-(g a))>(4000000000000000000-all) / (n:Int)↔all+n*max (g a) (-(g a))>4000000000000000000:=by
   have:=Int.le_ediv_iff_mul_le (a:=max (g a) (-(g a))) (b:=4000000000000000000-all) hn0
   rw [Int.mul_comm] at this
   omega
  have hpos:0≤(n:Int)*max (g a) (-(g a)):=Int.mul_nonneg (by omega) (by omega)
  by_cases hb:max (g a) (-(g a))>(4000000000000000000-all) / (n:Int)
  ·rw [if_pos hb,if_pos (by have:=hq.1 hb;omega)]
  ·have hb':=mt hq.2 hb
   rw [if_neg hb,ih _ _ (by omega) (by omega)]
   have e3:all+↑n*max (g a) (-g a)+dSum (fun d=>max (g d) (-g d)) b m=all+(↑n*max (g a) (-g a)+dSum (fun d=>max (g d) (-g d)) b m):=by omega
   have e4:sum+↑n*g a+dSum g b m=sum+(↑n*g a+dSum g b m):=by omega
   rw [e3,e4]
theorem sumS_eq (P:List (Int×Int)) (a b:Int):sumS P a b=if stG 0 0 P&&fullB a b then
  (if dSum (fun d=>max (valS P d) (-(valS P d))) a (b-a).toNat>4000000000000000000 then (0,5) else (dSum (valS P) a (b-a).toNat,0)) else (0,1):=by
 unfold sumS
 split
 ·rename_i h
  simp only [Bool.and_eq_true,fullB,decide_eq_true_eq] at h
  obtain ⟨-,i2⟩:=stG_iff h.1
  rw [sumG_cut (pieG_cut (by omega) (List.pairwise_map.2 i2) fun d hd=>.inr hd) 0 0 (by omega) (by omega),Int.zero_add,Int.zero_add]
 ·rfl
end Go.Proofs.YtanppabbmffokaaGreat
end
section
namespace Go.Proofs.YtanppabbmffokaaGreat
open Go.Bx
theorem stG_snoc:∀ {P:List (Int×Int)} {d0 v0 d v:Int},stG d0 v0 (P++[(d,v)])=(stG d0 v0 P&&!(decide (d≤(P.getD (P.length-1) (d0,v0)).1) || decide (d>292194) || (v == (P.getD (P.length-1) (d0,v0)).2) || !(moneyB v)))
 |[],d0,v0,d,v=>by simp [stG]
 |(a,b)::P,d0,v0,d,v=>by
  rw [List.cons_append,stG,stG,stG_snoc (P:=P),Bool.and_assoc]
  have e:((a,b)::P).getD (((a,b)::P).length-1) (d0,v0)=P.getD (P.length-1) (a,b):=by
   cases P with
   |nil=>rfl
   |cons p P=>simp [List.getD_eq_getElem?_getD]
  rw [e]
theorem valG_snoc:∀ {P:List (Int×Int)} {cur d v day:Int},(∀ p,p∈P→p.1<d)→valG cur (P++[(d,v)]) day=if d≤day then v else valG cur P day
 |[],cur,d,v,day,_=>by simp [valG]
 |(a,b)::P,cur,d,v,day,h=>by
  have h1:=h (a,b) (by simp)
  simp only at h1
  rw [List.cons_append,valG,valG,valG_snoc (fun p hp=>h p (by simp [hp]))]
  by_cases h2:d≤day
  ·rw [if_pos h2,if_pos h2,if_pos (by omega)]
  ·rw [if_neg h2,if_neg h2]
def popP (P:List (Int×Int)) (day:Int):List (Int×Int):=if 0<P.length∧(P.getD (P.length-1) (0,0)).1=day then P.take (P.length-1) else P
def pushP (P:List (Int×Int)) (day v:Int):List (Int×Int):=if v≠(P.getD (P.length-1) (0,0)).2∧day≤292194 then P++[(day,v)] else P
def addP (P:List (Int×Int)) (day v:Int):List (Int×Int):=pushP (popP P day) day v
theorem snoc_or {α:Type} (l:List α):l=[]∨∃ m x,l=m++[x]:=by
 rcases List.eq_nil_or_concat l with h|⟨m,x,h⟩
 ·exact .inl h
 ·exact .inr ⟨m,x,by simpa using h⟩
theorem pushP_ok {P:List (Int×Int)} {day v:Int} (h:stG 0 0 P=true) (hd:∀ p,p∈P→p.1<day) (h1:1≤day) (hv:moneyB v=true) :
  stG 0 0 (pushP P day v)=true∧(∀ p,p∈pushP P day v→p.1≤day)∧∀ d,d≤292194→valS (pushP P day v) d=if d<day then valS P d else v:=by
 have hl:(P.getD (P.length-1) (0,0)).1<day:=by
  rcases snoc_or P with rfl|⟨m,x,rfl⟩
  ·simp;omega
  ·simpa [List.getD_eq_getElem?_getD] using hd x (by simp)
 have hlast:∀ d,day≤d→valS P d=(P.getD (P.length-1) (0,0)).2:=fun d h2=>by
  rcases snoc_or P with rfl|⟨m,x,rfl⟩
  ·rfl
  ·have hx:=hd x (by simp)
   have hm:∀ p,p∈m→p.1<x.1:=fun p hp=>(List.pairwise_append.1 (stG_iff h).2).2.2 p hp x (by simp)
   have:=valG_snoc (P:=m) (cur:=0) (d:=x.1) (v:=x.2) (day:=d) hm
   rw [valS,this,if_pos (by omega)]
   simp [List.getD_eq_getElem?_getD]
 unfold pushP
 split
 ·rename_i hc
  refine ⟨?_,fun p hp=>?_,fun d h2=>?_⟩
  ·rw [stG_snoc,h,hv]
   have a1:decide (day≤(P.getD (P.length-1) (0,0)).1)=false:=decide_eq_false (by omega)
   have a2:decide (day>292194)=false:=decide_eq_false (by omega)
   have a3:(v == (P.getD (P.length-1) (0,0)).2)=false:=by simpa using hc.1
   rw [a1,a2,a3];rfl
  ·rcases List.mem_append.1 hp with h3|h3
   ·have:=hd p h3;omega
   ·simp at h3;subst h3;exact Int.le_refl _
  ·rw [valS,valG_snoc hd]
   by_cases h3:d<day
   ·rw [if_pos h3,if_neg (by omega)];rfl
   ·rw [if_neg h3,if_pos (by omega)]
 ·rename_i hc
  refine ⟨h,fun p hp=>by have:=hd p hp;omega,fun d h2=>?_⟩
  by_cases h3:d<day
  ·rw [if_pos h3]
  ·rw [if_neg h3,hlast d (by omega)]
   by_cases h4:v=(P.getD (P.length-1) (0,0)).2
   ·exact h4.symm
   ·exact absurd ⟨h4,by omega⟩ hc
theorem popP_ok {P:List (Int×Int)} {day:Int} (h:stG 0 0 P=true) (hd:∀ p,p∈P→p.1≤day):stG 0 0 (popP P day)=true∧(∀ p,p∈popP P day→p.1<day)∧∀ d,d<day→valS (popP P day) d=valS P d:=by
 rcases snoc_or P with rfl|⟨m,x,rfl⟩
 ·exact ⟨h,fun p hp=>by simp [popP] at hp,fun d _=>rfl⟩
 ·have hm:∀ p,p∈m→p.1<x.1:=fun p hp=>(List.pairwise_append.1 (stG_iff h).2).2.2 p hp x (by simp)
  have hx:=hd x (by simp)
  have e1:((m++[x]).getD ((m++[x]).length-1) (0,0))=x:=by simp [List.getD_eq_getElem?_getD]
  have e2:(m++[x]).take ((m++[x]).length-1)=m:=by simp
  rw [popP,e1,e2]
  split
  ·rename_i hc
   have:=stG_snoc (P:=m) (d0:=0) (v0:=0) (d:=x.1) (v:=x.2)
   rw [h] at this
   refine ⟨?_,fun p hp=>by have:=hm p hp;omega,fun d h2=>?_⟩
   ·simp only [Bool.true_eq,Bool.and_eq_true] at this
    exact this.1
   ·rw [valS,valS,valG_snoc hm,if_neg (by omega)]
  ·rename_i hc
   have hne:x.1≠day:=fun e=>hc ⟨by simp,e⟩
   refine ⟨h,fun p hp=>?_,fun d _=>rfl⟩
   rcases List.mem_append.1 hp with h3|h3
   ·have:=hm p h3;omega
   ·simp at h3;subst h3;omega
theorem addP_ok {P:List (Int×Int)} {day v:Int} (h:stG 0 0 P=true) (hd:∀ p,p∈P→p.1≤day) (h1:1≤day) (hv:moneyB v=true) :
  stG 0 0 (addP P day v)=true∧(∀ p,p∈addP P day v→p.1≤day)∧∀ d,d≤292194→valS (addP P day v) d=if d<day then valS P d else v:=by
 obtain ⟨a1,a2,a3⟩:=popP_ok h hd
 obtain ⟨b1,b2,b3⟩:=pushP_ok a1 a2 h1 hv
 refine ⟨b1,b2,fun d h2=>?_⟩
 rw [addP,b3 d h2]
 split
 ·rename_i h3;exact a3 d h3
 ·rfl
def fullSl (s:Sl) (e:Int):Bool:=(decide (s.sf≥e)&&(decide (s.sf<s.st)&&decide (s.st≤292195)))&&(decide (s.yr≥0)&&decide (s.yr≤4000000000000000000))
def curG:List (Int×Int)→Int→List Sl→Option (List (Int×Int))
 |P,_,[]=>some P
 |P,e,s::r=>if fullSl s e=true then curG (addP (addP P s.sf s.yr) s.st 0) s.st r else none
def curS (l:List Sl):Option (List (Int×Int)):=if l.length>2000 then none else curG [] 1 l
def yrAt (l:List Sl) (d:Int):Int:=match l.find? (fun s=>decide (s.sf≤d)&&decide (d<s.st)) with|some s=>s.yr|none=>0
theorem fullSl_iff {s:Sl} {e:Int}:fullSl s e=true↔e≤s.sf∧s.sf<s.st∧s.st≤292195∧0≤s.yr∧s.yr≤4000000000000000000:=by
 simp only [fullSl,Bool.and_eq_true,decide_eq_true_eq];omega
theorem yrAt_cons (s:Sl) (l:List Sl) (d:Int):yrAt (s::l) d=if s.sf≤d∧d<s.st then s.yr else yrAt l d:=by
 unfold yrAt
 rw [List.find?_cons]
 by_cases h:s.sf≤d∧d<s.st
 ·rw [if_pos h,decide_eq_true h.1,decide_eq_true h.2];rfl
 ·have e1:(decide (s.sf≤d)&&decide (d<s.st))=false:=by
   rw [Bool.and_eq_false_iff,decide_eq_false_iff_not,decide_eq_false_iff_not];omega
  rw [if_neg h,e1]
inductive Run:Int→List Sl→Prop
 |nil (e:Int):Run e []
 |cons {e:Int} {s:Sl} {l:List Sl} (h:fullSl s e=true) (hl:Run s.st l):Run e (s::l)
theorem Run.yr {e d:Int} {l:List Sl} (h:Run e l) (hd:d<e):yrAt l d=0:=by
 induction h generalizing d with
 |nil=>rfl
 |cons h _ ih =>
  have:=fullSl_iff.1 h
  rw [yrAt_cons,if_neg (by omega)]
  exact ih (by omega)
theorem curG_ok:∀ {l:List Sl} {P Q:List (Int×Int)} {e:Int},curG P e l=some Q→1≤e→stG 0 0 P=true→(∀ p,p∈P→p.1≤e)→(∀ d,e≤d→d≤292194→valS P d=0) →
  Run e l∧stG 0 0 Q=true∧∀ d,d≤292194→valS Q d=if d<e then valS P d else yrAt l d
 |[],P,Q,e,h,h1,h2,h3,h4=>by
  injection h with h;subst h
  refine ⟨.nil _,h2,fun d hd=>?_⟩
  split
  ·rfl
  ·exact h4 d (by omega) hd
 |s::l,P,Q,e,h,h1,h2,h3,h4=>by
  rw [curG] at h
  split at h
  ·rename_i hf
   have hf':=fullSl_iff.1 hf
   obtain ⟨a1,a2,a3⟩:=addP_ok (v:=s.yr) h2 (fun p hp=>by have:=h3 p hp;omega:∀ p,p∈P→p.1≤s.sf) (by omega) (by simp only [moneyB,Bool.and_eq_true,decide_eq_true_eq];omega)
   obtain ⟨b1,b2,b3⟩:=addP_ok (v:=0) a1 (fun p hp=>by have:=a2 p hp;omega:∀ p,p∈addP P s.sf s.yr→p.1≤s.st) (by omega) rfl
   obtain ⟨c1,c2,c3⟩:=curG_ok h (by omega) b1 b2 (fun d g1 g2=>by rw [b3 d g2,if_neg (by omega)])
   refine ⟨.cons hf c1,c2,fun d hd=>?_⟩
   rw [c3 d hd,b3 d hd,a3 d hd,yrAt_cons]
   by_cases g1:d<e
   ·rw [if_pos (by omega),if_pos (by omega),if_pos (by omega),if_pos g1]
   ·rw [if_neg g1]
    by_cases g2:d<s.sf
    ·rw [if_pos (by omega),if_pos (by omega),if_pos g2,if_neg (by omega),h4 d (by omega) hd]
     exact (c1.yr (by omega)).symm
    ·by_cases g3:d<s.st
     ·rw [if_pos g3,if_pos g3,if_neg g2,if_pos ⟨by omega,g3⟩]
     ·rw [if_neg g3,if_neg (by omega)]
  ·cases h
theorem curS_ok {l:List Sl} {P:List (Int×Int)} (h:curS l=some P):Run 1 l∧l.length≤2000∧stG 0 0 P=true∧∀ d,1≤d→d≤292194→valS P d=yrAt l d:=by
 unfold curS at h
 split at h
 ·cases h
 ·obtain ⟨h1,h2,h3⟩:=curG_ok h (by omega) rfl (fun p hp=>by simp at hp) (fun d _ _=>rfl)
  exact ⟨h1,by omega,h2,fun d g1 g2=>by rw [h3 d g2,if_neg (by omega)]⟩
end Go.Proofs.YtanppabbmffokaaGreat
end
section
namespace Go.Proofs.YtanppabbmffokaaGreat
open Go.Bx
set_option maxRecDepth 10000
theorem TR.yieldD {c:Ctx} {fn:List Nat} {Z:Nat→List (Nat×Go.Bx.Own)} (hZ:CliZ fn Z) (hfn:c.fn=fn) {k l:Nat} {go:Bool} {args:List V} (hY:YR c l args (Z k) (Z (k+1)) go) {env:List (Nat×V)} {own:List (Nat×Go.Bx.Own)} {nm:List Nat} (hB:wkB [] ⟨env,own,nm⟩=true) (hnm:(nm.all fun n=>decide (n<1000000))=true)
  {d:Option Nat} {x:X} {xs:List X} {acc:List Lg} {anc:List Nat} {K:Kont} (hx:evV ⟨env,own++Z k,nm++keysO (Z k)⟩ x=.fn (.yield l) [] []) (hsx:evS true ⟨env,own++Z k,nm++keysO (Z k)⟩ x) (ha:evVs ⟨env,own++Z k,nm++keysO (Z k)⟩ xs=args) (hs:evSs true ⟨env,own++Z k,nm++keysO (Z k)⟩ xs)
  (hok:∀ lg,ownOk (acc++[lg]) anc=true) (h:∀ st',Wk c st' ⟨setE env d (.d (.bool go)),own++Z (k+1),nm++keysO (Z (k+1))⟩→K .nrm st'):TR c true [⟨d,none,.callv x xs⟩] ⟨env,own++Z k,nm++keysO (Z k)⟩ acc (drwK anc K):=by
 have hB':=hB
 simp only [wkB,Bool.and_eq_true,List.all_eq_true,List.contains_iff_mem] at hB'
 obtain ⟨-,h2,h3,h4⟩:=hB'
 have hk:∀ n,n∈keysO own→n∈nm:=fun n hk=>by obtain ⟨o,ho'⟩:=keys_mem hk;exact h4 n (oNames_in ho').1
 have hlt:∀ n,n∈nm→n<1000000:=fun n hn=>by simpa using List.all_eq_true.1 hnm n hn
 have hnd:(keysO (own++Z k)).Nodup:=by
  rw [keysO_app,List.nodup_append]
  exact ⟨nodupB_ok h2,hZ.nodup k,fun a ha b hb e=>by have:=hlt a (hk a ha);have:=hZ.ge k b hb;omega⟩
 have hin:∀ n o,(n,o)∈Z k→own? (own++Z k) n=some o:=fun n o hm=>mem_own? hnd (List.mem_append_right _ hm)
 refine TR.cons _ (hY d x xs _ hx hsx ha hs hin) (fun n hn h5=>?_) (TR.nil ⟨hok _,h _ ?_⟩)
 ·obtain ⟨h6,h7⟩:=List.mem_filter.1 hn
  rcases List.mem_append.1 h5 with h5|h5
  ·have:=hlt n h5;have:=hZ.ge _ n h6;omega
  ·simp only [Bool.not_eq_true',List.contains_eq_mem,decide_eq_false_iff_not] at h7
   exact h7 h5
 ·have hcall:=fun n=>own?_call (ins:=Z k) (outs:=Z (k+1)) hnd (hZ.nodup (k+1)) n
  refine Wk.ofZ0 (c:=c) (st:=St.stp ⟨env,own++Z k,nm++keysO (Z k)⟩ d { val:=.d (.bool go),upd:=callU (Z k) (Z (k+1)),rd:=keysO (Z k),new:=(keysO (Z (k+1))).filter fun n=>!(keysO (Z k)).contains n }) hZ hfn (k+1) (env:=setE env d (.d (.bool go))) (own:=own) (nm:=nm) ?_ hnm ?_ ?_ ?_
  ·simp only [wkB,List.all_nil,Bool.true_and,Bool.and_eq_true,List.all_eq_true,List.contains_iff_mem] at hB ⊢
   refine ⟨hB.1,fun n hn=>?_,hB.2.2⟩
   cases d with
   |none=>exact hB.2.1 n hn
   |some d =>
    simp only [setE,envNames,V.names,List.nil_append] at hn
    exact hB.2.1 n hn
  ·exact fun s=>VLe.refl _
  ·refine OwnLe.of fun n o hm=>⟨o,?_,OLe.refl o⟩
   have hn:=hlt n (hk n (mem_keys hm))
   show own? (applyU (own++Z k) (callU (Z k) (Z (k+1)))) n=some o
   rw [hcall,own?_Z hZ hn]
   simp only
   rw [if_neg (fun h=>by have:=hZ.ge k n h;omega)]
   exact mem_own? hnd (List.mem_append_left _ hm)
  ·intro n o hm
   show own? (applyU (own++Z k) (callU (Z k) (Z (k+1)))) n=some o
   rw [hcall,mem_own? (hZ.nodup (k+1)) hm]
def cSt (P:List (Int×Int)):List V:=[.d (slK .i64 (P.map (·.1))),.d (slK .i64 (P.map (·.2)))]
def vSt (P:List (Int×Int)):V:=.ag (cSt P)
theorem map1 {P:List (Int×Int)} {k:Nat} {p:Int×Int} (h:P[k]?=some p):(P.map (·.1)).getD k 0=p.1∧(P.map (·.2)).getD k 0=p.2:=by
 simp [List.getD_eq_getElem?_getD,h]
theorem sMoney (v:Int):Ctr Tryz.prog 121 [.d (.int .i64 v)] [] (.d (.bool (moneyB v))) [] []:=by
 refine ctr_pure Tryz.func121 ok121 rfl cc121 cr121 Tryz.ntmps121 (by simp) rfl rfl ?_;intro c hP hfn;simp only [kc121,vcd,↓vcp,seval]
 repeat' first|refine ⟨fun h=>?_,fun h=>?_⟩|refine aO ?_|refine aT ?_|fail
 exact RetK.pure (by simp only [rs121,rsb,vcd,↓vcp,seval]) (by (simp only [rs121,rsb,enb,vcd,↓vcp,seval])<;>(first|rfl))
theorem sFullS (a b:Int):Ctr Tryz.prog 78 [vS a b] [] (.d (.bool (fullB a b))) [] []:=by
 refine ctr_pure Tryz.func78 ok78 rfl cc78 cr78 Tryz.ntmps78 (by simp) rfl rfl ?_;intro c hP hfn;simp only [kc78,vS,vcd,↓vcp,seval]
 repeat' first|refine ⟨fun h=>?_,fun h=>?_⟩|refine aO ?_|refine aT ?_|fail
 exact RetK.pure (by simp only [rs78,rsb,vcd,↓vcp,seval]) (by (simp only [rs78,rsb,enb,vcd,↓vcp,seval])<;>(first|rfl))
theorem sRightS (P:List (Int×Int)) (hl:P.length≤9223372036854775806):Ctr Tryz.prog 77 [vSt P] [] (.d (.bool (stG 0 0 P))) [] []:=by
 have n0:((P.length:Int) != (P.length:Int))=false:=by rw [bne_eq_false_iff_eq]
 refine ctr_pure Tryz.func77 ok77 rfl cc77 cr77 Tryz.ntmps77 (by simp) rfl rfl ?_;intro c hP hfn;simp only [kc77,vSt,cSt,slK,List.length_map,n0,vcd,↓vcp,seval]
 repeat' first|refine ⟨fun h=>?_,fun h=>?_⟩|refine aO ?_|refine aT ?_|fail
 refine vcC.loop (X:=Nat×Int×Int) (fun x=>⟨[(1,.own 1 0),(3,.d (.int .i64 x.2.1)),(4,.d (.int .i64 x.2.2)),(16,.d (slK .i64 (P.map (·.1)))),(17,.d (.int .i64 P.length)),(18,.d (.int .i64 x.1))],[(1,.fix (cSt P))],[1]⟩)
  (fun x=>x.1≤P.length∧stG 0 0 P=stG x.2.1 x.2.2 (P.drop x.1)) (fun x=>P.length-x.1) (0,0,0) ⟨Nat.zero_le _,rfl⟩ (Wk.of _ hfn rfl (by simp only [slK,List.length_map,enb,vcd,↓vcp,seval]) (by simp only [cSt,slK,List.length_map,enb,vcd,↓vcp,seval])) ?_
 rintro ⟨k,day,val⟩ ⟨hk,he⟩
 simp only at hk he
 by_cases hlt:k<P.length
 ·obtain ⟨⟨d,v⟩,hd,-,-,hp⟩:=drop_at hlt
  obtain ⟨g1,g2⟩:=map1 hp
  simp only at g1 g2
  rw [hd,stG] at he
  have d0:decide ((k:Int)<(P.length:Int))=true:=decide_eq_true (by omega)
  have w1:IntKind.i64.wrap ((k:Int)+1)=((k+1:Nat):Int):=wS (by omega)
  have b1:(0:Int)≤(k:Int)∧(k:Int)<(P.length:Int):=by omega
  simp only [cSt,slK,List.length_map,d0,g1,g2,vcd,↓vcp,seval]
  repeat' first|((first|refine tp hP (by exact sMoney v) ?_|refine tg hP (fun _=>by exact sMoney v) ?_|refine tv hP rfl (by exact sMoney v) ?_);try simp only [d0,g1,g2,w1,vcd,↓vcp,seval])|refine ⟨fun h=>?_,fun h=>?_⟩|refine aO ?_|refine aT ?_|fail
  ·have hx:stG 0 0 P=false:=by rw [he,h];rfl
   rw [hx]
   exact RetK.pure (by simp only [rs77,rsb,vcd,↓vcp,seval]) (by (simp only [rs77,rsb,enb,vcd,↓vcp,seval])<;>(first|rfl))
  ·rw [h] at he
   refine lopK.on (k+1,d,v) ⟨hlt,he⟩ (by simp only;omega) (Wk.of _ hfn rfl (by simp only [slK,List.length_map,w1,enb,vcd,↓vcp,seval]) (by simp only [cSt,slK,List.length_map,enb,vcd,↓vcp,seval]))
 ·have d0:decide ((k:Int)<(P.length:Int))=false:=decide_eq_false (by omega)
  rw [List.drop_eq_nil_of_le (by omega),stG] at he
  rw [he]
  simp only [cSt,slK,List.length_map,d0,vcd,↓vcp,seval]
  repeat' first|refine ⟨fun h=>?_,fun h=>?_⟩|refine aO ?_|refine aT ?_|fail
  exact RetK.pure (by simp only [rs77,rsb,vcd,↓vcp,seval]) (by (simp only [rs77,rsb,enb,vcd,↓vcp,seval])<;>(first|rfl))
end Go.Proofs.YtanppabbmffokaaGreat
end
section
namespace Go.Proofs.YtanppabbmffokaaGreat
open Go.Bx
set_option maxRecDepth 10000
theorem sIsNaN (a:Int):Ctr Tryz.prog 190 [.d (.int .i64 a)] [] (.d (.bool false)) [] []:=by
 refine ctr_pure Tryz.func190 ok190 rfl cc190 cr190 Tryz.ntmps190 (by simp) rfl rfl ?_;intro c hP hfn;simp only [kc190,vcd,↓vcp,seval]
 exact RetK.pure (by simp only [rs190,rsb,vcd,↓vcp,seval]) (by (simp only [rs190,rsb,enb,vcd,↓vcp,seval])<;>(first|simp))
def CutAt (A:List Int) (x:Int) (n:Nat):Prop:=n≤A.length∧(∀ j,j<n→A.getD j 0<x)∧(∀ j,n≤j→j<A.length→x≤A.getD j 0)
theorem cutAt_ex:∀ {A:List Int} (x:Int),A.Pairwise (·<·)→∃ n,CutAt A x n
 |[],x,_=>⟨0,Nat.le_refl _,fun j hj=>absurd hj (Nat.not_lt_zero j),fun j _ hj=>by simp at hj⟩
 |a::A,x,h=>by
  obtain ⟨h1,h2⟩:=List.pairwise_cons.1 h
  by_cases hx:a<x
  ·obtain ⟨n,g1,g2,g3⟩:=cutAt_ex x h2
   refine ⟨n+1,by simpa using g1,fun j hj=>?_,fun j hj hl=>?_⟩
   ·cases j with
    |zero=>simpa using hx
    |succ j=>simpa using g2 j (by omega)
   ·cases j with
    |zero=>omega
    |succ j=>simpa using g3 j (by omega) (by simpa using hl)
  ·refine ⟨0,Nat.zero_le _,fun j hj=>absurd hj (Nat.not_lt_zero j),fun j _ hl=>?_⟩
   cases j with
   |zero=>simp;omega
   |succ j =>
    have hl':j<A.length:=by simpa using hl
    have:=h1 A[j] (List.getElem_mem hl')
    simp [List.getD_eq_getElem?_getD,hl'];omega
theorem sBin (A:List Int) (x:Int) (n:Nat) (hn:CutAt A x n) (hl:A.length≤2305843009213693952):Ctr Tryz.prog 170 [.d (slK .i64 A),.d (.int .i64 x)] [] (.tup [.d (.int .i64 (n:Int)),.d (.bool (decide (n<A.length)&&(A.getD n 0 == x)))]) [] []:=by
 obtain ⟨hnl,hlo,hhi⟩:=hn
 refine ctr_pure Tryz.func170 ok170 rfl cc170 cr170 Tryz.ntmps170 (by simp) rfl rfl ?_;intro c hP hfn;simp only [kc170,slK,vcd,↓vcp,seval]
 refine vcC.loop (X:=Nat×Nat) (fun y=>⟨[(0,.d (slK .i64 A)),(1,.d (.int .i64 x)),(6,.d (.int .i64 A.length)),(7,.d (.int .i64 (y.1:Nat))),(8,.d (.int .i64 (y.2:Nat)))],[],[]⟩)
  (fun y=>y.1≤n∧n≤y.2∧y.2≤A.length) (fun y=>y.2-y.1) (0,A.length) ⟨Nat.zero_le _,hnl,Nat.le_refl _⟩ (Wk.of _ hfn rfl (by simp only [slK,enb,vcd,↓vcp,seval]) (by simp only [enb,vcd,↓vcp,seval])) ?_
 rintro ⟨i,j⟩ ⟨h1,h2,h3⟩
 simp only at h1 h2 h3
 by_cases hij:i<j
 ·have d0:decide ((i:Int)<(j:Int))=true:=decide_eq_true (by omega)
  have wq:=midW (i:=i) (j:=j) (by omega)
  obtain ⟨q,hh⟩:∃ q,q=(i+j) / 2:=⟨_,rfl⟩
  rw [←hh] at wq
  have hq:i≤q∧q<j:=by omega
  have w1:IntKind.i64.wrap ((q:Int)+1)=((q+1:Nat):Int):=wS (by omega)
  have b1:(0:Int)≤(q:Int)∧(q:Int)<(A.length:Int):=by omega
  have cc:=sLess (A.getD q 0) x
  simp only [slK,d0,wq,vcd,↓vcp,seval]
  repeat' first|((first|refine tp hP (by exact cc) ?_|refine tg hP (fun _=>by exact cc) ?_|refine tv hP rfl (by exact cc) ?_);try simp only [d0,wq,w1,vcd,↓vcp,seval])|refine ⟨fun h=>?_,fun h=>?_⟩|refine aO ?_|refine aT ?_|fail
  ·have hx:A.getD q 0<x:=of_decide_eq_true h
   have hqn:q<n:=by
    by_cases g:q<n
    ·exact g
    ·have:=hhi q (by omega) (by omega);omega
   exact lopK.on (q+1,j) ⟨hqn,h2,h3⟩ (by simp only;omega) (Wk.of _ hfn rfl (by simp only [slK,w1,enb,vcd,↓vcp,seval]) (by simp only [enb,vcd,↓vcp,seval]))
  ·have hx:¬ A.getD q 0<x:=of_decide_eq_false h
   have hqn:n≤q:=by
    by_cases g:q<n
    ·exact absurd (hlo q g) hx
    ·omega
   exact lopK.on (i,q) ⟨h1,hqn,by simp only;omega⟩ (by simp only;omega) (Wk.of _ hfn rfl (by simp only [slK,enb,vcd,↓vcp,seval]) (by simp only [enb,vcd,↓vcp,seval]))
 ·have d0:decide ((i:Int)<(j:Int))=false:=decide_eq_false (by omega)
  obtain rfl:i=n:=by omega
  by_cases hb:i<A.length
  ·have d1:decide ((i:Int)<(A.length:Int))=true:=decide_eq_true (by omega)
   have d2:decide (i<A.length)=true:=decide_eq_true hb
   have b1:(0:Int)≤(i:Int)∧(i:Int)<(A.length:Int):=by omega
   rw [d2,Bool.true_and]
   cases hq:(A.getD i 0 == x) with
   |true =>
    simp only [slK,d0,d1,hq,vcd,↓vcp,seval]
    repeat' first|((first|refine tp hP (by first|exact sIsNaN (A.getD i 0)|exact sIsNaN x) ?_|refine tg hP (fun _=>by first|exact sIsNaN (A.getD i 0)|exact sIsNaN x) ?_|refine tv hP rfl (by first|exact sIsNaN (A.getD i 0)|exact sIsNaN x) ?_);try simp only [d0,d1,hq,vcd,↓vcp,seval])|refine ⟨fun h=>?_,fun h=>?_⟩|refine aO ?_|refine aT ?_|fail
    exact RetK.pure (by simp only [rs170,rsb,vcd,↓vcp,seval]) (by (simp only [rs170,rsb,enb,vcd,↓vcp,seval])<;>(first|exact VLe.refl _))
   |false =>
    simp only [slK,d0,d1,hq,vcd,↓vcp,seval]
    repeat' first|((first|refine tp hP (by first|exact sIsNaN (A.getD i 0)|exact sIsNaN x) ?_|refine tg hP (fun _=>by first|exact sIsNaN (A.getD i 0)|exact sIsNaN x) ?_|refine tv hP rfl (by first|exact sIsNaN (A.getD i 0)|exact sIsNaN x) ?_);try simp only [d0,d1,hq,vcd,↓vcp,seval])|refine ⟨fun h=>?_,fun h=>?_⟩|refine aO ?_|refine aT ?_|fail
    exact RetK.pure (by simp only [rs170,rsb,vcd,↓vcp,seval]) (by (simp only [rs170,rsb,enb,vcd,↓vcp,seval])<;>(first|exact VLe.refl _))
  ·have d1:decide ((i:Int)<(A.length:Int))=false:=decide_eq_false (by omega)
   have d2:decide (i<A.length)=false:=decide_eq_false hb
   rw [d2,Bool.false_and]
   simp only [slK,d0,d1,vcd,↓vcp,seval]
   repeat' first|((first|refine tp hP (by first|exact sIsNaN (A.getD i 0)|exact sIsNaN x) ?_|refine tg hP (fun _=>by first|exact sIsNaN (A.getD i 0)|exact sIsNaN x) ?_|refine tv hP rfl (by first|exact sIsNaN (A.getD i 0)|exact sIsNaN x) ?_);try simp only [d0,d1,vcd,↓vcp,seval])|refine ⟨fun h=>?_,fun h=>?_⟩|refine aO ?_|refine aT ?_|fail
   exact RetK.pure (by simp only [rs170,rsb,vcd,↓vcp,seval]) (by (simp only [rs170,rsb,enb,vcd,↓vcp,seval])<;>(first|exact VLe.refl _))
theorem sValue (P:List (Int×Int)) (day:Int) (hs:P.Pairwise (fun a b=>a.1<b.1)) (hl:P.length≤2305843009213693952):Ctr Tryz.prog 123 [vSt P,.d (.int .i64 day)] [] (.d (.int .i64 (valS P day))) [] []:=by
 obtain ⟨n,hn⟩:=cutAt_ex (A:=P.map (·.1)) day (List.pairwise_map.2 hs)
 have cb:=sBin (P.map (·.1)) day n hn (by rw [List.length_map];exact hl)
 obtain ⟨h1,h2,h3⟩:=hn
 rw [List.length_map] at h1
 have hm:∀ j,j<P.length→(P.map (·.1)).getD j 0=(P.getD j (0,0)).1∧(P.map (·.2)).getD j 0=(P.getD j (0,0)).2:=fun j hj=>by
  obtain ⟨p,-,hg,-,hp⟩:=drop_at hj
  rw [hg];exact map1 hp
 have hlt:∀ i j,i<j→j<P.length→(P.getD i (0,0)).1<(P.getD j (0,0)).1:=fun i j hij hj=>by
  have:=List.pairwise_iff_getElem.1 hs i j (by omega) hj hij
  simpa [List.getD_eq_getElem?_getD,hj,(by omega:i<P.length)] using this
 rw [List.length_map] at cb
 simp only [slK,List.length_map] at cb
 by_cases hb:n<P.length∧(P.getD n (0,0)).1=day
 ·obtain ⟨hb1,hb2⟩:=hb
  have hv:valS P day=(P.getD n (0,0)).2:=by
   have:=valG_at (P:=P) (cur:=0) (day:=day) (n+1) hb1 (fun j hj=>by
    by_cases g:j=n
    ·rw [g,hb2];exact Int.le_refl _
    ·have:=h2 j (by omega);rw [(hm j (by omega)).1] at this;omega) (fun j hj hl=>by have:=hlt n j (by omega) hl;omega)
   rw [valS,this,if_neg (by omega)];rfl
  have hd:(decide (n<P.length)&&((P.map (·.1)).getD n 0 == day))=true:=by rw [(hm n hb1).1,decide_eq_true hb1,hb2];simp
  rw [hd] at cb
  have d0:decide ((n:Int)<0)=false:=decide_eq_false (by omega)
  have b1:(0:Int)≤(n:Int)∧(n:Int)<(P.length:Int):=by omega
  rw [hv]
  refine ctr_pure Tryz.func123 ok123 rfl cc123 cr123 Tryz.ntmps123 (by simp) rfl rfl ?_;intro c hP hfn;simp only [kc123,vSt,cSt,slK,List.length_map,vcd,↓vcp,seval]
  repeat' first|((first|refine tp hP (by exact cb) ?_|refine tg hP (fun _=>by exact cb) ?_|refine tv hP rfl (by exact cb) ?_);try simp only [d0,vcd,↓vcp,seval])|refine ⟨fun h=>?_,fun h=>?_⟩|refine aO ?_|refine aT ?_|fail
  refine RetK.pure (by simp only [rs123,rsb,vcd,↓vcp,seval]) ?_
  simp only [rs123,(hm n hb1).2,rsb,vcd,↓vcp,seval]
  exact VLe.refl _
 ·have hd:(decide (n<P.length)&&((P.map (·.1)).getD n 0 == day))=false:=by
   by_cases g:n<P.length
   ·rw [(hm n g).1,decide_eq_true g,Bool.true_and,beq_eq_false_iff_ne];exact fun e=>hb ⟨g,e⟩
   ·rw [decide_eq_false g];rfl
  rw [hd] at cb
  have hv:valS P day=if n=0 then 0 else (P.getD (n-1) (0,0)).2:=valG_at (P:=P) (cur:=0) (day:=day) n h1 (fun j hj=>by have:=h2 j hj;rw [(hm j (by omega)).1] at this;omega) (fun j hj hl=>by
    have:=h3 j hj (by rw [List.length_map];exact hl)
    rw [(hm j hl).1] at this
    by_cases g:j=n
    ·subst g
     have:¬ (P.getD j (0,0)).1=day:=fun e=>hb ⟨hl,e⟩
     omega
    ·have:=hlt n j (by omega) hl
     have g3:=h3 n (Nat.le_refl _) (by rw [List.length_map];omega)
     rw [(hm n (by omega)).1] at g3
     omega)
  by_cases h0:n=0
  ·subst h0
   have w0:IntKind.i64.wrap (-1)=-1:=wI (by omega)
   have d0:decide ((-1:Int)<0)=true:=rfl
   rw [hv,if_pos rfl]
   refine ctr_pure Tryz.func123 ok123 rfl cc123 cr123 Tryz.ntmps123 (by simp) rfl rfl ?_;intro c hP hfn;simp only [kc123,vSt,cSt,slK,List.length_map,vcd,↓vcp,seval]
   repeat' first|((first|refine tp hP (by exact cb) ?_|refine tg hP (fun _=>by exact cb) ?_|refine tv hP rfl (by exact cb) ?_);try simp only [w0,d0,vcd,↓vcp,seval])|refine ⟨fun h=>?_,fun h=>?_⟩|refine aO ?_|refine aT ?_|fail
   exact RetK.pure (by simp only [rs123,rsb,vcd,↓vcp,seval]) (by (simp only [rs123,rsb,enb,vcd,↓vcp,seval])<;>(first|rfl))
  ·have w1:IntKind.i64.wrap ((n:Int)-1)=((n-1:Nat):Int):=(wI (by omega)).trans (by omega)
   have d0:decide (((n-1:Nat):Int)<0)=false:=decide_eq_false (by omega)
   have b1:(0:Int)≤((n-1:Nat):Int)∧((n-1:Nat):Int)<(P.length:Int):=by omega
   rw [hv,if_neg h0]
   refine ctr_pure Tryz.func123 ok123 rfl cc123 cr123 Tryz.ntmps123 (by simp) rfl rfl ?_;intro c hP hfn;simp only [kc123,vSt,cSt,slK,List.length_map,vcd,↓vcp,seval]
   repeat' first|((first|refine tp hP (by exact cb) ?_|refine tg hP (fun _=>by exact cb) ?_|refine tv hP rfl (by exact cb) ?_);try simp only [w1,d0,vcd,↓vcp,seval])|refine ⟨fun h=>?_,fun h=>?_⟩|refine aO ?_|refine aT ?_|fail
   refine RetK.pure (by simp only [rs123,rsb,vcd,↓vcp,seval]) ?_
   simp only [rs123,(hm (n-1) (by omega)).2,rsb,vcd,↓vcp,seval]
   exact VLe.refl _
def pcL (P:List (Int×Int)) (a b:Int):List ((Int×Int)×Int):=pieG (valS P) b a (P.map (·.1))
def dSt (P:List (Int×Int)):List D:=[slK .i64 (P.map (·.1)),slK .i64 (P.map (·.2))]
def pcF (P:List (Int×Int)) (a b:Int):V:=.fn (.func 122) [] [.mem [.int .i64 a,.int .i64 b],.mem (dSt P)]
theorem sPieces (P:List (Int×Int)) (a b:Int):Ctr Tryz.prog 79 [vSt P,vS a b] [] (pcF P a b) [] []:=by
 refine ctr_pure Tryz.func79 ok79 rfl cc79 cr79 Tryz.ntmps79 (by simp) rfl rfl ?_;intro c hP hfn;simp only [kc79,vSt,cSt,slK,List.length_map,vS,vcd,↓vcp,seval]
 repeat' first|refine ⟨fun h=>?_,fun h=>?_⟩|refine aO ?_|refine aT ?_|fail
 exact RetK.mk _ ((Wk.pubF 2 rfl rfl).trans (Wk.pubF 3 rfl rfl)) (by simp only [rs79,rsb,vcd,↓vcp,seval]) (by simp only [rs79,pcF,dSt,slK,List.length_map,rsb,enb,vcd,↓vcp,seval]) trivial
def pcArgs (P:List (Int×Int)) (a b:Int) (k:Nat):List V:=[vS ((pcL P a b).getD k default).1.1 ((pcL P a b).getD k default).1.2,.d (.int .i64 ((pcL P a b).getD k default).2)]
theorem pieG_ne (f:Int→Int) (to:Int):∀ (r:List Int) (fr:Int),0<(pieG f to fr r).length
 |[],fr=>by simp [pieG]
 |d::r,fr=>by
  rw [pieG]
  split
  ·exact pieG_ne f to r fr
  ·simp
theorem it_pieces (P:List (Int×Int)) (a b:Int) (hs:P.Pairwise (fun a b=>a.1<b.1)) (hl:P.length≤1000000):IterC Tryz.prog 122 [.mem [.int .i64 a,.int .i64 b],.mem (dSt P)] (pcArgs P a b) (pcL P a b).length:=by
 refine iter_of_vc Tryz.func122 ok122 rfl cc122 cr122 (by simp only [Tryz.ntmps122,List.length_cons,List.length_nil];decide) rfl (fun _=>rfl) ?_
 intro c l' T stop Z hP _ hZ hT hT' hY
 have hbk:∀ k n o,(n,o)∈Z k→own? ([]++Z k) n=some o:=fun k n o hm=>mem_own? (hZ.nodup k) hm
 simp only [kc122,dSt,slK,List.length_map,vcd,↓vcp,seval]
 refine vcC.loop (X:=Nat×Int×Nat) (fun x=>⟨[(0,.fn (.yield l') [] []),(1,.mem [.int .i64 a,.int .i64 b]),(2,.mem (dSt P)),(4,.d (.int .i64 x.2.1)),(10,.d (slK .i64 (P.map (·.1)))),(11,.d (.int .i64 P.length)),(12,.d (.int .i64 (x.1:Nat)))],[]++Z x.2.2,[]++keysO (Z x.2.2)⟩)
  (fun x=>x.1≤P.length∧(pcL P a b).drop x.2.2=pieG (valS P) b x.2.1 ((P.map (·.1)).drop x.1)∧x.2.2<T) (fun x=>P.length-x.1) (0,a,0)
  ⟨Nat.zero_le _,rfl,by
   have h1:=pieG_ne (valS P) b (P.map (·.1)) a
   cases hst:stop with
   |true=>exact (hT' hst).1
   |false=>rw [hT hst];exact h1⟩ (Wk.ofZ hZ rfl 0 (own:=[]) (nm:=[]) rfl rfl (by simp only [dSt,slK,List.length_map,enb,vcd,↓vcp,seval]) (by simp only [enb,vcd,↓vcp,seval]) (hbk 0)) ?_
 rintro ⟨k,fr,m⟩ ⟨hk,hd,hm⟩
 simp only at hk hd hm
 have hTn:T≤(pcL P a b).length:=by
  cases hst:stop with
  |true=>exact (hT' hst).2
  |false=>rw [hT hst];exact Nat.le_refl _
 obtain ⟨x,hdx,hgx,-,-⟩:=drop_at (l:=pcL P a b) (k:=m) (by omega)
 have hgx:=hgx default
 rw [hdx] at hd
 have hval:=sValue P fr hs (by omega)
 simp only [vSt,cSt,slK,List.length_map] at hval
 by_cases hlt:k<P.length
 ·obtain ⟨⟨d,v⟩,hdp,-,-,hp⟩:=drop_at hlt
  obtain ⟨g1,g2⟩:=map1 hp
  simp only at g1
  have hdm:(P.map (·.1)).drop k=d::(P.map (·.1)).drop (k+1):=by rw [←List.map_drop,hdp,←List.map_drop];rfl
  rw [hdm,pieG] at hd
  have d0:decide ((k:Int)<(P.length:Int))=true:=decide_eq_true (by omega)
  have w1:IntKind.i64.wrap ((k:Int)+1)=((k+1:Nat):Int):=wS (by omega)
  have b1:(0:Int)≤(k:Int)∧(k:Int)<(P.length:Int):=by omega
  by_cases hskip:d≤fr∨d≥b
  ·rw [if_pos hskip] at hd
   have hc:(decide (d≤fr) || decide (d≥b))=true:=by rw [Bool.or_eq_true,decide_eq_true_eq,decide_eq_true_eq];exact hskip
   simp only [dSt,slK,List.length_map,d0,g1,hc,vcd,↓vcp,seval]
   repeat' first|refine ⟨fun h=>?_,fun h=>?_⟩|refine aO ?_|refine aT ?_|fail
   exact lopK.on (k+1,fr,m) ⟨hlt,by rw [hdx];exact hd,hm⟩ (by simp only;omega) (Wk.ofZ hZ rfl m (own:=[]) (nm:=[]) rfl rfl (by simp only [dSt,slK,List.length_map,w1,enb,vcd,↓vcp,seval]) (by simp only [enb,vcd,↓vcp,seval]) (hbk m))
  ·rw [if_neg hskip] at hd
   have hc:(decide (d≤fr) || decide (d≥b))=false:=by rw [Bool.or_eq_false_iff,decide_eq_false_iff_not,decide_eq_false_iff_not];omega
   injection hd with hd1 hd2
   simp only [dSt,slK,List.length_map,d0,g1,hc,vcd,↓vcp,seval]
   repeat' first|((first|refine tp hP (by exact hval) ?_|refine tg hP (fun _=>by exact hval) ?_|refine tv hP rfl (by exact hval) ?_);try simp only [d0,g1,w1,hc,vcd,↓vcp,seval])|refine ⟨fun h=>?_,fun h=>?_⟩|refine aO ?_|refine aT ?_|fail
   refine TR.yield hZ rfl (hY m hm) (own:=[]) (nm:=[]) rfl rfl rfl trivial (by simp only [pcArgs,hgx,hd1,vS,vcd,↓vcp,seval]) (by simp only [vcd,↓vcp,seval]) ?_
   simp only [vcd,↓vcp,seval]
   refine ⟨fun hg=>?_,fun hg=>?_⟩
   ·have hT1:T=m+1:=by
     simp [goAt] at hg
     omega
    subst hT1
    exact IterK.mk _ (Wk.refl _ _) (OwnLe.of fun n o hm=>⟨o,mem_own? (hZ.nodup (m+1)) hm,OLe.refl o⟩)
   ·have hmT:m+1<T:=by
     simp [goAt] at hg
     by_cases h9:m+1<T
     ·exact h9
     ·have h8:=hT (hg (by omega))
      have h7:=pieG_ne (valS P) b ((P.map (·.1)).drop (k+1)) d
      rw [←hd2,List.length_drop] at h7
      omega
    simp only [w1,vcd,↓vcp,seval]
    exact lopK.on (k+1,d,m+1) ⟨hlt,hd2,hmT⟩ (by simp only;omega) (Wk.ofZ hZ rfl (m+1) (own:=[]) (nm:=[]) rfl rfl (by simp only [dSt,slK,List.length_map,w1,enb,vcd,↓vcp,seval]) (by simp only [enb,vcd,↓vcp,seval]) (hbk (m+1)))
 ·have d0:decide ((k:Int)<(P.length:Int))=false:=decide_eq_false (by omega)
  have hdm:(P.map (·.1)).drop k=[]:=List.drop_eq_nil_of_le (by rw [List.length_map];omega)
  rw [hdm,pieG] at hd
  injection hd with hd1 hd2
  have hTm:T=m+1:=by
   have:=congrArg List.length hd2
   simp at this
   omega
  simp only [dSt,slK,List.length_map,d0,vcd,↓vcp,seval]
  repeat' first|((first|refine tp hP (by exact hval) ?_|refine tg hP (fun _=>by exact hval) ?_|refine tv hP rfl (by exact hval) ?_);try simp only [d0,vcd,↓vcp,seval])|refine ⟨fun h=>?_,fun h=>?_⟩|refine aO ?_|refine aT ?_|fail
  refine TR.yieldD hZ rfl (hY m hm) (own:=[]) (nm:=[]) rfl rfl rfl trivial (by simp only [pcArgs,hgx,hd1,vS,vcd,↓vcp,seval]) (by simp only [vcd,↓vcp,seval]) ?_ ?_
  ·intro lg
   simp [ownOk,meetL,hitL,List.range,List.range.loop]
  ·intro st' hw
   rw [hTm]
   exact IterK.mk' _ hw (OwnLe.of fun n o hm=>⟨o,mem_own? (hZ.nodup (m+1)) hm,OLe.refl o⟩)
end Go.Proofs.YtanppabbmffokaaGreat
end
