import Derived.Test.YtanppabbmffokaaGreatXD9
import Derived.Shelf.Sort.Plain
import Derived.Shelf.Slices.In.SortNone
import Derived.Ground.Names2Prog
import Derived.Shelf.Slices.CompactI
set_option linter.unusedSimpArgs false
set_option linter.unusedVariables false
section
namespace Go.Proofs.YtanppabbmffokaaGreat
open Go.Bx
set_option maxRecDepth 10000
theorem layK_nrm {c:Ctx} {r:Dfr} {g:FuncId} {ks:List Nat} {rs:List RV} {res:V} {st:St}:layK c r g ks rs res .nrm st=vcR c false r.is st [] (fun _ st1=>layR c r g ks rs res st1):=propext ⟨fun h=>h,fun h=>h⟩
def insA (n:Int) (b:Bool) (m:Nat) (cs:List V):List (Nat×Own):=[(3,.fix [.d (.int .i64 n)]),(1,.fix [.osl 7]),(2,.fix [.d (.bool b)]),(7,.lit 38 1 m cs)]
theorem dAll (n:Int) (b:Bool) (m:Nat) (cs:List V):CtrD Tryz.prog 182 [3,1,2] none (insA n b m cs) (insA n (n == m) m cs):=by
 refine ⟨ok182,by simp [keysO,insA],by simp [keysO,insA],fun E0 β w vals pv hE hsz hv hins _=>?_⟩
 obtain ⟨v0,v1,v2,rfl⟩:∃ v0 v1 v2,vals=#[v0,v1,v2]:=by
  match vals,hsz with
  |⟨[a,b,c]⟩,_=>exact ⟨a,b,c,rfl⟩
 have ptr:∀ (v:Value) (k:Nat) (E:Nat→Prop),RelV β E w v (.own k 0)→∃ b,v=.pointer (some ⟨b,0,none⟩)∧β k=some (.pointer (some ⟨b,0,none⟩)):=fun v k E h=>by
  cases h with
  |own k off b h=>exact ⟨b,rfl,h⟩
 obtain ⟨b0,rfl,hb0⟩:=ptr _ _ _ (hv 0 v0 3 rfl rfl)
 obtain ⟨b1,rfl,hb1⟩:=ptr _ _ _ (hv 1 v1 1 rfl rfl)
 obtain ⟨b2,rfl,hb2⟩:=ptr _ _ _ (hv 2 v2 2 rfl rfl)
 obtain ⟨u0,e0,g1,g2,g3,g4⟩:=fix_at (k:=3) (x:=.d (.int .i64 n)) hins (by simp [insA]) hb0
 obtain ⟨u1,e1,q1,q2,q3,q4⟩:=fix_at (k:=1) (x:=.osl 7) hins (by simp [insA]) hb1
 obtain ⟨u2,e2,r1,r2,r3,r4⟩:=fix_at (k:=2) (x:=.d (.bool b)) hins (by simp [insA]) hb2
 obtain rfl:u0=.int .i64 n:=by cases g4 with|d _ _ h=>cases h;rfl
 obtain ⟨A,cp,rfl⟩:∃ A cp,u1=.slice A m cp:=by
  obtain ⟨v,xs,h1,⟨-,h2⟩,-⟩:=hins.ok 7 (.lit 38 1 m cs) (by simp [insA])
  cases q4 with
  |osl k v' h _ =>
   rw [h1] at h;cases h
   rcases h2 with ⟨⟨a,rfl⟩,rfl⟩|⟨g,cap,cur,rfl,-⟩
   ·exact ⟨a,0,rfl⟩
   ·exact ⟨_,cap,rfl⟩
 refine (callsDIn_of_wpSIn (R:=fun e u' w'=>e=.returned (.tuple #[])∧u'=.returning∧w'=w.setCell ⟨b2,0,none⟩ (.bool (n == m))) Tryz.func182 rfl trivial fun c₀ cs hu=>?_).mono ?_
 ·simp only [modeP] at hu
  apply wpSIn_region
  simp [wpOpsSIn,go_sem,hu,Tryz.ntmps182,g2,g3,q2,q3,r2,r3,bodyPostS,results,Tryz.results182]
  cases c₀
  simp_all
 ·rintro e' u' w' ⟨rfl,rfl,rfl⟩
  refine ⟨_,rfl,rfl,?_,set_keeps ⟨2,by simp [keysO,insA],by simp [Names.blk,hb2,blkOf]⟩⟩
  have:=own_set (k:=2) (x:=.d (.bool b)) hins (by simp [insA]) hb2 (v:=.bool (n == m)) (y:=.d (.bool (n == m))) (.d _ _ (.bool _))
  simpa [setO,insA] using this
def fnM (g:Nat) (cs:List D):V:=.fn (.func g) [] [.mem cs]
theorem retAll {c2:Ctx} (hP:c2.P=Tryz.prog) {n:Int} {fns:List V} {b:Bool} (hb:b=(n == 4)) {st:St} (h:Wk c2 st ⟨[(2,.own 2 0)],insA n false 4 fns,[3,2,1,7]⟩):RetD c2 182 [3,1,2] rs146 (.d (.bool b)) .ret st:=by
 refine ⟨_,insA n false 4 fns,insA n (n == ((4:Nat):Int)) 4 fns,h,by rw [hP];exact dAll n false 4 fns,fun k o hm=>mem_own? (by simp [keysO,insA]) hm,?_,?_⟩
 ·first|(simp only [rs146,insA,rsb,vcd,↓vcp,seval];done)|trivial
 ·simp only [rs146,insA,rsb,enb,vcd,↓vcp,seval]
  rw [hb];first|done|exact VLe.refl _
theorem sAll (cs:List D) (b0 b1 b2 b3:Bool) (h0:Ctr Tryz.prog 147 [.mem cs] [] (.d (.bool b0)) [] []) (h1:Ctr Tryz.prog 148 [.mem cs] [] (.d (.bool b1)) [] []) (h2:Ctr Tryz.prog 149 [.mem cs] [] (.d (.bool b2)) [] [])
  (h3:Ctr Tryz.prog 150 [.mem cs] [] (.d (.bool b3)) [] []):Ctr Tryz.prog 146 [.osl 7] [(7,.lit 38 1 4 [fnM 147 cs,fnM 148 cs,fnM 149 cs,fnM 150 cs])] (.d (.bool (b0&&b1&&b2&&b3))) [] []:=by
 refine ctr_deferO 182 [3,1,2] Tryz.func146 ok146 rfl cd146 cr146 Tryz.ntmps146 (by simp) rfl ?_
 intro c hP hfn
 simp only [kd146,fnM,namesL,V.names,ownNames,vcd,↓vcp,seval]
 rw [layK_nrm]
 simp only [vcd,↓vcp,seval]
 refine ⟨⟨_,_,rfl,trivial,trivial,rfl⟩,by simp [keysO],fun c2 hP2 hfn2 hrd2 hpk2=>?_⟩
 refine vcS.of ?_
 simp only [vcd,↓vcp,seval]
 refine vcC.loop (X:=Nat) (fun k=>⟨[(2,.own 2 0),(3,.own 3 0),(7,.osl 7),(8,.d (.int .i64 4)),(9,.d (.int .i64 k))],insA k false 4 [fnM 147 cs,fnM 148 cs,fnM 149 cs,fnM 150 cs],[3,2,1,7]⟩)
  (fun k=>k≤4∧∀ j,j<k→[b0,b1,b2,b3].getD j false=true) (fun k=>4-k) 0 ⟨Nat.zero_le _,fun j hj=>absurd hj (Nat.not_lt_zero j)⟩ (Wk.of _ hfn2 rfl (by simp only [enb,vcd,↓vcp,seval]) (by simp only [insA,fnM,enb,vcd,↓vcp,seval])) ?_
 rintro k ⟨hk,he⟩
 have hk4:k=0∨k=1∨k=2∨k=3∨k=4:=by omega
 have hP:=hP2.trans hP
 have w1:IntKind.i64.wrap 1=1:=wI (by omega)
 have w2:IntKind.i64.wrap 2=2:=wI (by omega)
 have w3:IntKind.i64.wrap 3=3:=wI (by omega)
 have w4:IntKind.i64.wrap 4=4:=wI (by omega)
 have n1:((1:Nat):Int)=1:=rfl
 have n2:((2:Nat):Int)=2:=rfl
 have n3:((3:Nat):Int)=3:=rfl
 have n4:((4:Nat):Int)=4:=rfl
 have n0:((0:Nat):Int)=0:=rfl
 have s1:(0:Int)+1=1:=rfl
 have s2:(1:Int)+1=2:=rfl
 have s3:(2:Int)+1=3:=rfl
 have s4:(3:Int)+1=4:=rfl
 rcases hk4 with rfl|rfl|rfl|rfl|rfl
 ·simp only [insA,fnM,n0,n1,n2,n3,n4,vcd,↓vcp,seval]
  repeat' first|((first|refine tp hP (by exact h0) ?_|refine tg hP (fun _=>by exact h0) ?_|refine tv hP rfl (by exact h0) ?_);try simp only [n0,n1,n2,n3,n4,s1,s2,s3,s4,w1,w2,w3,w4,vcd,↓vcp,seval])|refine ⟨fun h=>?_,fun h=>?_⟩|refine aO ?_|refine aT ?_|fail
  ·
   have hb:b0=false:=by simpa using h
   exact retAll (n:=0) (fns:=[fnM 147 cs,fnM 148 cs,fnM 149 cs,fnM 150 cs]) hP (by rw [ hb];simp) (Wk.of _ hfn2 rfl (by simp only [enb,vcd,↓vcp,seval]) (by simp only [insA,fnM,enb,vcd,↓vcp,seval]))
  ·have hb:b0=true:=by simpa using h
   exact lopK.on 1 ⟨by decide,fun j hj=>by
    rcases Nat.lt_or_eq_of_le (Nat.le_of_lt_succ hj) with h8|h8
    ·exact he j h8
    ·subst h8;exact hb⟩ (by decide) (Wk.of _ hfn2 rfl (by simp only [n0,n1,n2,n3,n4,s1,s2,s3,s4,w1,w2,w3,w4,enb,vcd,↓vcp,seval]) (by simp only [insA,fnM,n0,n1,n2,n3,n4,s1,s2,s3,s4,w1,w2,w3,w4,enb,vcd,↓vcp,seval]))
 ·simp only [insA,fnM,n0,n1,n2,n3,n4,vcd,↓vcp,seval]
  repeat' first|((first|refine tp hP (by exact h1) ?_|refine tg hP (fun _=>by exact h1) ?_|refine tv hP rfl (by exact h1) ?_);try simp only [n0,n1,n2,n3,n4,s1,s2,s3,s4,w1,w2,w3,w4,vcd,↓vcp,seval])|refine ⟨fun h=>?_,fun h=>?_⟩|refine aO ?_|refine aT ?_|fail
  ·have e0:b0=true:=he 0 (by decide)
   have hb:b1=false:=by simpa using h
   exact retAll (n:=1) (fns:=[fnM 147 cs,fnM 148 cs,fnM 149 cs,fnM 150 cs]) hP (by rw [e0,hb];simp) (Wk.of _ hfn2 rfl (by simp only [enb,vcd,↓vcp,seval]) (by simp only [insA,fnM,enb,vcd,↓vcp,seval]))
  ·have hb:b1=true:=by simpa using h
   exact lopK.on 2 ⟨by decide,fun j hj=>by
    rcases Nat.lt_or_eq_of_le (Nat.le_of_lt_succ hj) with h8|h8
    ·exact he j h8
    ·subst h8;exact hb⟩ (by decide) (Wk.of _ hfn2 rfl (by simp only [n0,n1,n2,n3,n4,s1,s2,s3,s4,w1,w2,w3,w4,enb,vcd,↓vcp,seval]) (by simp only [insA,fnM,n0,n1,n2,n3,n4,s1,s2,s3,s4,w1,w2,w3,w4,enb,vcd,↓vcp,seval]))
 ·simp only [insA,fnM,n0,n1,n2,n3,n4,vcd,↓vcp,seval]
  repeat' first|((first|refine tp hP (by exact h2) ?_|refine tg hP (fun _=>by exact h2) ?_|refine tv hP rfl (by exact h2) ?_);try simp only [n0,n1,n2,n3,n4,s1,s2,s3,s4,w1,w2,w3,w4,vcd,↓vcp,seval])|refine ⟨fun h=>?_,fun h=>?_⟩|refine aO ?_|refine aT ?_|fail
  ·have e0:b0=true:=he 0 (by decide)
   have e1:b1=true:=he 1 (by decide)
   have hb:b2=false:=by simpa using h
   exact retAll (n:=2) (fns:=[fnM 147 cs,fnM 148 cs,fnM 149 cs,fnM 150 cs]) hP (by rw [e0,e1,hb];simp) (Wk.of _ hfn2 rfl (by simp only [enb,vcd,↓vcp,seval]) (by simp only [insA,fnM,enb,vcd,↓vcp,seval]))
  ·have hb:b2=true:=by simpa using h
   exact lopK.on 3 ⟨by decide,fun j hj=>by
    rcases Nat.lt_or_eq_of_le (Nat.le_of_lt_succ hj) with h8|h8
    ·exact he j h8
    ·subst h8;exact hb⟩ (by decide) (Wk.of _ hfn2 rfl (by simp only [n0,n1,n2,n3,n4,s1,s2,s3,s4,w1,w2,w3,w4,enb,vcd,↓vcp,seval]) (by simp only [insA,fnM,n0,n1,n2,n3,n4,s1,s2,s3,s4,w1,w2,w3,w4,enb,vcd,↓vcp,seval]))
 ·simp only [insA,fnM,n0,n1,n2,n3,n4,vcd,↓vcp,seval]
  repeat' first|((first|refine tp hP (by exact h3) ?_|refine tg hP (fun _=>by exact h3) ?_|refine tv hP rfl (by exact h3) ?_);try simp only [n0,n1,n2,n3,n4,s1,s2,s3,s4,w1,w2,w3,w4,vcd,↓vcp,seval])|refine ⟨fun h=>?_,fun h=>?_⟩|refine aO ?_|refine aT ?_|fail
  ·have e0:b0=true:=he 0 (by decide)
   have e1:b1=true:=he 1 (by decide)
   have e2:b2=true:=he 2 (by decide)
   have hb:b3=false:=by simpa using h
   exact retAll (n:=3) (fns:=[fnM 147 cs,fnM 148 cs,fnM 149 cs,fnM 150 cs]) hP (by rw [e0,e1,e2,hb];simp) (Wk.of _ hfn2 rfl (by simp only [enb,vcd,↓vcp,seval]) (by simp only [insA,fnM,enb,vcd,↓vcp,seval]))
  ·have hb:b3=true:=by simpa using h
   exact lopK.on 4 ⟨by decide,fun j hj=>by
    rcases Nat.lt_or_eq_of_le (Nat.le_of_lt_succ hj) with h8|h8
    ·exact he j h8
    ·subst h8;exact hb⟩ (by decide) (Wk.of _ hfn2 rfl (by simp only [n0,n1,n2,n3,n4,s1,s2,s3,s4,w1,w2,w3,w4,enb,vcd,↓vcp,seval]) (by simp only [insA,fnM,n0,n1,n2,n3,n4,s1,s2,s3,s4,w1,w2,w3,w4,enb,vcd,↓vcp,seval]))
 ·simp only [insA,fnM,n0,n1,n2,n3,n4,vcd,↓vcp,seval]
  repeat' first|refine ⟨fun h=>?_,fun h=>?_⟩|refine aO ?_|refine aT ?_|fail
  have e0:b0=true:=he 0 (by decide)
  have e1:b1=true:=he 1 (by decide)
  have e2:b2=true:=he 2 (by decide)
  have e3:b3=true:=he 3 (by decide)
  exact retAll (n:=4) (fns:=[fnM 147 cs,fnM 148 cs,fnM 149 cs,fnM 150 cs]) hP (by rw [e0,e1,e2,e3];simp) (Wk.of _ hfn2 rfl (by simp only [enb,vcd,↓vcp,seval]) (by simp only [insA,fnM,n4,enb,vcd,↓vcp,seval]))
end Go.Proofs.YtanppabbmffokaaGreat
end
section
namespace Go.Proofs.YtanppabbmffokaaGreat
open Go.Bx
set_option maxRecDepth 10000
def dTm (t:Tm):List D:=[.int .i64 t.sf,.int .i64 t.st,.int .i64 t.rk.kd,.int .i64 t.rk.va,.int .i64 t.rk.ag,.int .i64 t.rk.zo,slC t.cv]
theorem sTm1 (t:Tm):Ctr Tryz.prog 147 [.mem (dTm t)] [] (.d (.bool (okS t.sf t.st))) [] []:=by
 have ck:=sSpanRight t.sf t.st
 simp only [vS] at ck
 refine ctr_pure Tryz.func147 ok147 rfl cc147 cr147 Tryz.ntmps147 (by simp) rfl rfl ?_;intro c hP hfn;simp only [kc147,dTm,slC,vcd,↓vcp,seval]
 repeat' first|((first|refine tp hP (by exact ck) ?_|refine tg hP (fun _=>by exact ck) ?_|refine tv hP rfl (by exact ck) ?_);try simp only [vcd,↓vcp,seval])|refine ⟨fun h=>?_,fun h=>?_⟩|refine aO ?_|refine aT ?_|fail
 exact RetK.pure (by simp only [rs147,rsb,vcd,↓vcp,seval]) (by (simp only [rs147,rsb,enb,vcd,↓vcp,seval])<;>(first|rfl))
theorem sTm2 (t:Tm):Ctr Tryz.prog 148 [.mem (dTm t)] [] (.d (.bool (decide (manyR t.sf t.st≥1)&&decide (manyR t.sf t.st≤1100)))) [] []:=by
 have ck:=sMany t.sf t.st
 simp only [vS] at ck
 refine ctr_pure Tryz.func148 ok148 rfl cc148 cr148 Tryz.ntmps148 (by simp) rfl rfl ?_;intro c hP hfn;simp only [kc148,dTm,slC,vcd,↓vcp,seval]
 repeat' first|((first|refine tp hP (by exact ck) ?_|refine tg hP (fun _=>by exact ck) ?_|refine tv hP rfl (by exact ck) ?_);try simp only [vcd,↓vcp,seval])|refine ⟨fun h=>?_,fun h=>?_⟩|refine aO ?_|refine aT ?_|fail
 exact RetK.pure (by simp only [rs148,rsb,vcd,↓vcp,seval]) (by (simp only [rs148,rsb,enb,vcd,↓vcp,seval])<;>(first|rfl))
theorem sTm3 (t:Tm):Ctr Tryz.prog 149 [.mem (dTm t)] [] (.d (.bool (rightR t.rk))) [] []:=by
 have ck:=sRisk t.rk
 simp only [vR,cR] at ck
 refine ctr_pure Tryz.func149 ok149 rfl cc149 cr149 Tryz.ntmps149 (by simp) rfl rfl ?_;intro c hP hfn;simp only [kc149,dTm,slC,vcd,↓vcp,seval]
 repeat' first|((first|refine tp hP (by exact ck) ?_|refine tg hP (fun _=>by exact ck) ?_|refine tv hP rfl (by exact ck) ?_);try simp only [vcd,↓vcp,seval])|refine ⟨fun h=>?_,fun h=>?_⟩|refine aO ?_|refine aT ?_|fail
 exact RetK.pure (by simp only [rs149,rsb,vcd,↓vcp,seval]) (by (simp only [rs149,rsb,enb,vcd,↓vcp,seval])<;>(first|rfl))
theorem sTm4 (t:Tm) (hl:t.cv.length≤9223372036854775807):Ctr Tryz.prog 150 [.mem (dTm t)] [] (.d (.bool (coversT t.cv))) [] []:=by
 have ck:=sCovers t.cv hl
 simp only [slC] at ck
 refine ctr_pure Tryz.func150 ok150 rfl cc150 cr150 Tryz.ntmps150 (by simp) rfl rfl ?_;intro c hP hfn;simp only [kc150,dTm,slC,vcd,↓vcp,seval]
 repeat' first|((first|refine tp hP (by exact ck) ?_|refine tg hP (fun _=>by exact ck) ?_|refine tv hP rfl (by exact ck) ?_);try simp only [vcd,↓vcp,seval])|refine ⟨fun h=>?_,fun h=>?_⟩|refine aO ?_|refine aT ?_|fail
 exact RetK.pure (by simp only [rs150,rsb,vcd,↓vcp,seval]) (by (simp only [rs150,rsb,enb,vcd,↓vcp,seval])<;>(first|rfl))
def rightTm (t:Tm):Bool:=okS t.sf t.st&&(decide (manyR t.sf t.st≥1)&&decide (manyR t.sf t.st≤1100))&&rightR t.rk&&coversT t.cv
theorem sTerms (t:Tm) (hl:t.cv.length≤9223372036854775807):Ctr Tryz.prog 107 [vTm t] [] (.d (.bool (rightTm t))) [] []:=by
 have ca:=sAll (dTm t) _ _ _ _ (sTm1 t) (sTm2 t) (sTm3 t) (sTm4 t hl)
 simp only [fnM,dTm] at ca
 refine ctr_pure Tryz.func107 ok107 rfl cc107 cr107 Tryz.ntmps107 (by simp) rfl rfl ?_;intro c hP hfn;simp only [kc107,vTm,cTm,vcd,↓vcp,seval]
 refine TR.wk _ (Wk.pubF 1 rfl rfl) ?_
 simp only [vcd,↓vcp,seval]
 refine TR.call [(7,.lit 38 1 4 [.fn (.func 147) [] [.mem (dTm t)],.fn (.func 148) [] [.mem (dTm t)],.fn (.func 149) [] [.mem (dTm t)],.fn (.func 150) [] [.mem (dTm t)]])] [] _ [] (by rw [hP];exact ca) (by repeat' first|exact trivial|(intro _;assumption)|apply And.intro) (hin1 rfl) (by simp [keysO]) (by simp) ?_
 simp only [vcd,↓vcp,seval]
 repeat' first|refine ⟨fun h=>?_,fun h=>?_⟩|refine aO ?_|refine aT ?_|fail
 exact RetK.pure (by simp only [rs107,rsb,vcd,↓vcp,seval]) (by (simp only [rs107,rsb,enb,vcd,↓vcp,seval])<;>(first|rfl))
end Go.Proofs.YtanppabbmffokaaGreat
end
section
namespace Go.Proofs.YtanppabbmffokaaGreat
open Go.Bx
set_option maxRecDepth 10000
theorem TR.gpv {c:Ctx} {b:Bool} {is:List I} {st:St} {acc:List Lg} {K:List Lg→St→Prop} {P:Program} (hP:c.P=P) {d:Option Nat} {s:Nat} {want gc:Bool} {x:X} {f:Nat} {first cap:List V} {xs:List X} {res:V} (hg:gOf st.env s want=some gc)
  (hx:gc=true→evV st x=.fn (.func f) first cap) (hS:gc=true→Ctr P f (first++(evVs st xs++cap)) [] res [] []) (hsx:gc=true→evS true st x) (hs:gc=true→evSs true st xs)
  (h:vcR c b is (st.stp d { val:=.gd gc res,upd:=[],rd:=[],new:=[] }) (lgs b acc ⟨[],[]⟩) K):TR c b (⟨d,some (s,want),.callv x xs⟩::is) st acc K:=
 TR.cons { val:=.gd gc res,upd:=[],rd:=[],new:=[] } (valid_gd_pure hg fun e=>valid_callv (hx e) (by rw [hP];exact hS e) (hsx e) (hs e) (fun k o h=>by simp at h) (by simp [keysO])) (fun k hk=>by simp at hk) (vcR_ok h)
def fD (g:Nat):D:=.raw (.func (.func g) #[] #[])
def ckF (m:Int):D:=if m=4 then fD 134 else if m=3 then fD 133 else if m=2 then fD 131 else if m=1 then fD 129 else .raw .nilFunc
theorem sChecks:Ctr Tryz.prog 84 [] [] (.osl 1) [(1,.mp (.raw .nilFunc) ckF)] [1]:=by
 refine ctr_own Tryz.func84 ok84 rfl cc84 cr84 Tryz.ntmps84 (by simp) rfl ?_
 intro c hP hfn
 simp only [kc84,namesL,V.names,ownNames,vcd,↓vcp,seval]
 have hne:∀ g,¬ (D.raw (Value.func (.func g) #[] #[])=D.raw Value.nilFunc):=fun g h=>by injection h with h;cases h
 refine ⟨hne _,hne _,hne _,hne _,RetK.mk _ (Wk.refl _ _) (by simp only [rs84,rsb,vcd,↓vcp,seval]) (by simp only [rs84,rsb,enb,vcd,↓vcp,seval]) ?_⟩
 simp only [enb,vcd,↓vcp,seval]
 exact OLe.eq rfl
def rightCh (c:Ch):Bool:=decide (c.kd=1∨c.kd=2∨c.kd=3∨c.kd=4)&&dayB c.bk&&dayB c.dy&&(if c.kd=1 then ck1 c else if c.kd=2 then ck2 c else if c.kd=3 then ck3 c else ck4 c)
theorem sRightCh (c':Ch) (hl:c'.cv.length≤9223372036854775807):Ctr Tryz.prog 36 [vCh c'] [] (.d (.bool (rightCh c'))) [] []:=by
 have k1:=sCk1 c'
 have k2:=sCk2 c' hl
 have k3:=sCk3 c'
 have k4:=sCk4 c'
 have d1:=sDay
 simp only [vCh,cCh,slC] at k1 k2 k3 k4
 refine ctr_pure Tryz.func36 ok36 rfl cc36 cr36 Tryz.ntmps36 (by simp) rfl rfl ?_;intro c hP hfn;simp only [kc36,vCh,cCh,slC,vcd,↓vcp,seval]
 have cc:=(sChecks.sw 1 6)
 simp only [vcd,↓vcp,seval] at cc
 refine TR.call [] [(6,.mp (.raw .nilFunc) ckF)] (.osl 6) [6] (by rw [hP];exact cc) (by repeat' first|exact trivial|(intro _;assumption)|apply And.intro) (fun k o h=>by simp at h) (by simp [keysO]) (by simp) ?_
 clear cc
 have f1:ckF 1=fD 129:=rfl
 have f2:ckF 2=fD 131:=rfl
 have f3:ckF 3=fD 133:=rfl
 have f4:ckF 4=fD 134:=rfl
 have zA:(#[]:Array Value).size=0:=rfl
 by_cases hb:(dayB c'.bk&&dayB c'.dy)=true
 ·have hb':dayB c'.bk=true∧dayB c'.dy=true:=by simpa using hb
  have hr:c'.kd=1∨c'.kd=2∨c'.kd=3∨c'.kd=4∨(¬ c'.kd=1∧¬ c'.kd=2∧¬ c'.kd=3∧¬ c'.kd=4):=by omega
  rcases hr with e1|e1|e1|e1|⟨e1,e2,e3,e4⟩
  ·have hr:rightCh c'=ck1 c':=by simp [rightCh,e1,hb'.1,hb'.2]
   rw [hr]
   simp only [dayB] at hb
   clear hr hb'
   rw [e1] at k1 ⊢
   simp only [f1,fD,okV,zA,e1,vcd,↓vcp,seval]
   repeat' first|((first|refine tp hP (by exact d1 _) ?_|refine tg hP (fun _=>by exact d1 _) ?_|refine tv hP rfl (by exact d1 _) ?_);try simp only [hb,zA,vcd,↓vcp,seval])|refine ⟨fun h=>?_,fun h=>?_⟩|refine aO ?_|refine aT ?_|fail
   refine TR.gpv (gc:=true) hP rfl (fun _=>rfl) (fun _=>k1) (by intro _;simp only [vcd,↓vcp,seval]) (by intro _;simp only [vcd,↓vcp,seval]) ?_
   simp only [vcd,↓vcp,seval]
   repeat' first|refine ⟨fun h=>?_,fun h=>?_⟩|refine aO ?_|refine aT ?_|fail
   exact RetK.pure (by simp only [rs36,rsb,vcd,↓vcp,seval]) (by (simp only [rs36,rsb,enb,vcd,↓vcp,seval])<;>(first|exact VLe.refl _))
  ·have hr:rightCh c'=ck2 c':=by simp [rightCh,e1,hb'.1,hb'.2]
   rw [hr]
   simp only [dayB] at hb
   clear hr hb'
   rw [e1] at k2 ⊢
   simp only [f2,fD,okV,zA,e1,vcd,↓vcp,seval]
   repeat' first|((first|refine tp hP (by exact d1 _) ?_|refine tg hP (fun _=>by exact d1 _) ?_|refine tv hP rfl (by exact d1 _) ?_);try simp only [hb,zA,vcd,↓vcp,seval])|refine ⟨fun h=>?_,fun h=>?_⟩|refine aO ?_|refine aT ?_|fail
   refine TR.gpv (gc:=true) hP rfl (fun _=>rfl) (fun _=>k2) (by intro _;simp only [vcd,↓vcp,seval]) (by intro _;simp only [vcd,↓vcp,seval]) ?_
   simp only [vcd,↓vcp,seval]
   repeat' first|refine ⟨fun h=>?_,fun h=>?_⟩|refine aO ?_|refine aT ?_|fail
   exact RetK.pure (by simp only [rs36,rsb,vcd,↓vcp,seval]) (by (simp only [rs36,rsb,enb,vcd,↓vcp,seval])<;>(first|exact VLe.refl _))
  ·have hr:rightCh c'=ck3 c':=by simp [rightCh,e1,hb'.1,hb'.2]
   rw [hr]
   simp only [dayB] at hb
   clear hr hb'
   rw [e1] at k3 ⊢
   simp only [f3,fD,okV,zA,e1,vcd,↓vcp,seval]
   repeat' first|((first|refine tp hP (by exact d1 _) ?_|refine tg hP (fun _=>by exact d1 _) ?_|refine tv hP rfl (by exact d1 _) ?_);try simp only [hb,zA,vcd,↓vcp,seval])|refine ⟨fun h=>?_,fun h=>?_⟩|refine aO ?_|refine aT ?_|fail
   refine TR.gpv (gc:=true) hP rfl (fun _=>rfl) (fun _=>k3) (by intro _;simp only [vcd,↓vcp,seval]) (by intro _;simp only [vcd,↓vcp,seval]) ?_
   simp only [vcd,↓vcp,seval]
   repeat' first|refine ⟨fun h=>?_,fun h=>?_⟩|refine aO ?_|refine aT ?_|fail
   exact RetK.pure (by simp only [rs36,rsb,vcd,↓vcp,seval]) (by (simp only [rs36,rsb,enb,vcd,↓vcp,seval])<;>(first|exact VLe.refl _))
  ·have hr:rightCh c'=ck4 c':=by simp [rightCh,e1,hb'.1,hb'.2]
   rw [hr]
   simp only [dayB] at hb
   clear hr hb'
   rw [e1] at k4 ⊢
   simp only [f4,fD,okV,zA,e1,vcd,↓vcp,seval]
   repeat' first|((first|refine tp hP (by exact d1 _) ?_|refine tg hP (fun _=>by exact d1 _) ?_|refine tv hP rfl (by exact d1 _) ?_);try simp only [hb,zA,vcd,↓vcp,seval])|refine ⟨fun h=>?_,fun h=>?_⟩|refine aO ?_|refine aT ?_|fail
   refine TR.gpv (gc:=true) hP rfl (fun _=>rfl) (fun _=>k4) (by intro _;simp only [vcd,↓vcp,seval]) (by intro _;simp only [vcd,↓vcp,seval]) ?_
   simp only [vcd,↓vcp,seval]
   repeat' first|refine ⟨fun h=>?_,fun h=>?_⟩|refine aO ?_|refine aT ?_|fail
   exact RetK.pure (by simp only [rs36,rsb,vcd,↓vcp,seval]) (by (simp only [rs36,rsb,enb,vcd,↓vcp,seval])<;>(first|exact VLe.refl _))
  ·have hr:rightCh c'=false:=by simp [rightCh,e1,e2,e3,e4]
   have f0:ckF c'.kd=.raw .nilFunc:=by simp [ckF,e1,e2,e3,e4]
   rw [hr]
   simp only [f0,okV,vcd,↓vcp,seval]
   repeat' first|((first|refine tp hP (by exact d1 _) ?_|refine tg hP (fun _=>by exact d1 _) ?_|refine tv hP rfl (by exact d1 _) ?_);try simp only [vcd,↓vcp,seval])|refine ⟨fun h=>?_,fun h=>?_⟩|refine aO ?_|refine aT ?_|fail
   refine TR.gpv (gc:=false) (first:=[]) (cap:=[]) (f:=0) (res:=.d (.bool false)) hP rfl (fun h=>by cases h) (fun h=>by cases h) (fun h=>by cases h) (fun h=>by cases h) ?_
   simp only [vcd,↓vcp,seval]
   repeat' first|refine ⟨fun h=>?_,fun h=>?_⟩|refine aO ?_|refine aT ?_|fail
   exact RetK.pure (by simp only [rs36,rsb,vcd,↓vcp,seval]) (by (simp only [rs36,rsb,enb,vcd,↓vcp,seval])<;>(first|exact VLe.refl _))
 ·have hb0:(dayB c'.bk&&dayB c'.dy)=false:=by simpa using hb
  have hr:rightCh c'=false:=by
   simp only [rightCh,Bool.and_assoc]
   rw [←Bool.and_assoc (dayB c'.bk),hb0];simp
  rw [hr]
  simp only [dayB] at hb0
  have hr4:c'.kd=1∨c'.kd=2∨c'.kd=3∨c'.kd=4∨(¬ c'.kd=1∧¬ c'.kd=2∧¬ c'.kd=3∧¬ c'.kd=4):=by omega
  clear hr hb
  rcases hr4 with e1|e1|e1|e1|⟨e1,e2,e3,e4⟩
  ·simp only [f1,fD,okV,zA,e1,vcd,↓vcp,seval]
   repeat' first|((first|refine tp hP (by exact d1 _) ?_|refine tg hP (fun _=>by exact d1 _) ?_|refine tv hP rfl (by exact d1 _) ?_);try simp only [hb0,zA,vcd,↓vcp,seval])|refine ⟨fun h=>?_,fun h=>?_⟩|refine aO ?_|refine aT ?_|fail
   refine TR.gpv (gc:=false) (first:=[]) (cap:=[]) (f:=0) (res:=.d (.bool false)) hP rfl (fun h=>by cases h) (fun h=>by cases h) (fun h=>by cases h) (fun h=>by cases h) ?_
   simp only [vcd,↓vcp,seval]
   repeat' first|refine ⟨fun h=>?_,fun h=>?_⟩|refine aO ?_|refine aT ?_|fail
   exact RetK.pure (by simp only [rs36,rsb,vcd,↓vcp,seval]) (by (simp only [rs36,rsb,enb,vcd,↓vcp,seval])<;>(first|exact VLe.refl _))
  ·simp only [f2,fD,okV,zA,e1,vcd,↓vcp,seval]
   repeat' first|((first|refine tp hP (by exact d1 _) ?_|refine tg hP (fun _=>by exact d1 _) ?_|refine tv hP rfl (by exact d1 _) ?_);try simp only [hb0,zA,vcd,↓vcp,seval])|refine ⟨fun h=>?_,fun h=>?_⟩|refine aO ?_|refine aT ?_|fail
   refine TR.gpv (gc:=false) (first:=[]) (cap:=[]) (f:=0) (res:=.d (.bool false)) hP rfl (fun h=>by cases h) (fun h=>by cases h) (fun h=>by cases h) (fun h=>by cases h) ?_
   simp only [vcd,↓vcp,seval]
   repeat' first|refine ⟨fun h=>?_,fun h=>?_⟩|refine aO ?_|refine aT ?_|fail
   exact RetK.pure (by simp only [rs36,rsb,vcd,↓vcp,seval]) (by (simp only [rs36,rsb,enb,vcd,↓vcp,seval])<;>(first|exact VLe.refl _))
  ·simp only [f3,fD,okV,zA,e1,vcd,↓vcp,seval]
   repeat' first|((first|refine tp hP (by exact d1 _) ?_|refine tg hP (fun _=>by exact d1 _) ?_|refine tv hP rfl (by exact d1 _) ?_);try simp only [hb0,zA,vcd,↓vcp,seval])|refine ⟨fun h=>?_,fun h=>?_⟩|refine aO ?_|refine aT ?_|fail
   refine TR.gpv (gc:=false) (first:=[]) (cap:=[]) (f:=0) (res:=.d (.bool false)) hP rfl (fun h=>by cases h) (fun h=>by cases h) (fun h=>by cases h) (fun h=>by cases h) ?_
   simp only [vcd,↓vcp,seval]
   repeat' first|refine ⟨fun h=>?_,fun h=>?_⟩|refine aO ?_|refine aT ?_|fail
   exact RetK.pure (by simp only [rs36,rsb,vcd,↓vcp,seval]) (by (simp only [rs36,rsb,enb,vcd,↓vcp,seval])<;>(first|exact VLe.refl _))
  ·simp only [f4,fD,okV,zA,e1,vcd,↓vcp,seval]
   repeat' first|((first|refine tp hP (by exact d1 _) ?_|refine tg hP (fun _=>by exact d1 _) ?_|refine tv hP rfl (by exact d1 _) ?_);try simp only [hb0,zA,vcd,↓vcp,seval])|refine ⟨fun h=>?_,fun h=>?_⟩|refine aO ?_|refine aT ?_|fail
   refine TR.gpv (gc:=false) (first:=[]) (cap:=[]) (f:=0) (res:=.d (.bool false)) hP rfl (fun h=>by cases h) (fun h=>by cases h) (fun h=>by cases h) (fun h=>by cases h) ?_
   simp only [vcd,↓vcp,seval]
   repeat' first|refine ⟨fun h=>?_,fun h=>?_⟩|refine aO ?_|refine aT ?_|fail
   exact RetK.pure (by simp only [rs36,rsb,vcd,↓vcp,seval]) (by (simp only [rs36,rsb,enb,vcd,↓vcp,seval])<;>(first|exact VLe.refl _))
  ·have f0:ckF c'.kd=.raw .nilFunc:=by simp [ckF,e1,e2,e3,e4]
   simp only [f0,okV,vcd,↓vcp,seval]
   repeat' first|((first|refine tp hP (by exact d1 _) ?_|refine tg hP (fun _=>by exact d1 _) ?_|refine tv hP rfl (by exact d1 _) ?_);try simp only [hb0,vcd,↓vcp,seval])|refine ⟨fun h=>?_,fun h=>?_⟩|refine aO ?_|refine aT ?_|fail
   refine TR.gpv (gc:=false) (first:=[]) (cap:=[]) (f:=0) (res:=.d (.bool false)) hP rfl (fun h=>by cases h) (fun h=>by cases h) (fun h=>by cases h) (fun h=>by cases h) ?_
   simp only [vcd,↓vcp,seval]
   repeat' first|refine ⟨fun h=>?_,fun h=>?_⟩|refine aO ?_|refine aT ?_|fail
   exact RetK.pure (by simp only [rs36,rsb,vcd,↓vcp,seval]) (by (simp only [rs36,rsb,enb,vcd,↓vcp,seval])<;>(first|exact VLe.refl _))
end Go.Proofs.YtanppabbmffokaaGreat
end
section
namespace Go.Proofs.YtanppabbmffokaaGreat
open Go.Bx
set_option maxRecDepth 10000
def inT (t:Tm) (d:Int):Bool:=decide (d≥(keptR t.sf t.st).1)&&decide (d<(keptR t.sf t.st).2)
def rightHi (h:Hi):Bool:=h.ch.all (fun c=>rightCh c&&inT h.tm c.dy)&&(rightTm h.tm&&decide (h.ch.length≤2000))
structure SzHi (h:Hi):Prop where
 tc:h.tm.cv.length≤9223372036854775807
 ch:h.ch.length≤9223372036854775807
 cc:∀ c,c∈h.ch→c.cv.length≤9223372036854775807
theorem sRightHi (hh:Hi) (z:SzHi hh):Ctr Tryz.prog 64 [vHi hh] [] (.d (.bool (rightHi hh))) [] []:=by
 refine ctr_pure Tryz.func64 ok64 rfl cc64 cr64 Tryz.ntmps64 (by simp) rfl rfl ?_;intro c hP hfn;simp only [kc64,vHi,cHi,slH,vcd,↓vcp,seval]
 refine vcC.loop (X:=Nat) (fun k=>⟨[(1,.own 1 0),(6,.d (slH hh.ch)),(7,.d (.int .i64 hh.ch.length)),(8,.d (.int .i64 k))],[(1,.fix (cHi hh))],[1]⟩)
  (fun k=>k≤hh.ch.length∧hh.ch.all (fun c=>rightCh c&&inT hh.tm c.dy)=(hh.ch.drop k).all (fun c=>rightCh c&&inT hh.tm c.dy)) (fun k=>hh.ch.length-k) 0 ⟨Nat.zero_le _,rfl⟩ (Wk.of _ hfn rfl (by simp only [slH,enb,vcd,↓vcp,seval]) (by simp only [cHi,slH,enb,vcd,↓vcp,seval])) ?_
 rintro k ⟨hk,he⟩
 by_cases hlt:k<hh.ch.length
 ·obtain ⟨c',hd,hg,hm,-⟩:=drop_at hlt
  have d0:decide ((k:Int)<(hh.ch.length:Int))=true:=decide_eq_true (by have:=z.ch;omega)
  have ewk:IntKind.i64.wrap ((k:Int)+1)=((k+1:Nat):Int):=wS (by have:=z.ch;omega)
  have cc:=sRightCh c' (z.cc c' hm)
  have ci:=sIn hh.tm.sf hh.tm.st c'.dy
  simp only [vCh,cCh,slC] at cc
  simp only [vS] at ci
  rw [hd,List.all_cons] at he
  simp only [slH,dCh,slC,cHi,hg,d0,ewk,vcd,↓vcp,seval]
  repeat' first|((first|refine tp hP (by first|exact cc|exact ci) ?_|refine tg hP (fun _=>by first|exact cc|exact ci) ?_|refine tv hP rfl (by first|exact cc|exact ci) ?_);try simp only [hg,ewk,vcd,↓vcp,seval])|refine ⟨fun h=>?_,fun h=>?_⟩|refine aO ?_|refine aT ?_|fail
  ·have hx:(rightCh c'&&inT hh.tm c'.dy)=false:=by
    cases h1:rightCh c' with
    |false=>rfl
    |true =>
     rw [h1] at h
     cases h2:inT hh.tm c'.dy with
     |false=>rfl
     |true=>exfalso;simp only [inT] at h2;rw [h2] at h;simp at h
   have e:rightHi hh=false:=by rw [rightHi,he,hx];rfl
   exact RetK.pure (by simp only [rs64,rsb,vcd,↓vcp,seval]) (by (simp only [rs64,rsb,enb,vcd,↓vcp,seval])<;>(first|rw [e]))
  ·have hx:(rightCh c'&&inT hh.tm c'.dy)=true:=by
    cases h1:rightCh c' with
    |false=>rw [h1] at h;simp at h
    |true =>
     rw [h1] at h
     cases h2:inT hh.tm c'.dy with
     |true=>rfl
     |false=>exfalso;simp only [inT] at h2;rw [h2] at h;simp at h
   rw [hx,Bool.true_and] at he
   exact lopK.on (k+1) ⟨hlt,he⟩ (by omega) (Wk.of _ hfn rfl (by simp only [slH,dCh,slC,enb,vcd,↓vcp,seval]) (by simp only [cHi,slH,dCh,slC,enb,vcd,↓vcp,seval]))
 ·have d0:decide ((k:Int)<(hh.ch.length:Int))=false:=decide_eq_false (by have:=z.ch;omega)
  rw [List.drop_eq_nil_of_le (by omega),List.all_nil] at he
  have ct:=sTerms hh.tm z.tc
  simp only [vTm,cTm] at ct
  have e:rightHi hh=(rightTm hh.tm&&decide ((hh.ch.length:Int)≤2000)):=by
   rw [rightHi,he,Bool.true_and]
   congr 1
   exact decide_eq_decide.2 (by omega)
  simp only [slH,cHi,d0,vcd,↓vcp,seval]
  repeat' first|((first|refine tp hP (by exact ct) ?_|refine tg hP (fun _=>by exact ct) ?_|refine tv hP rfl (by exact ct) ?_);try simp only [vcd,↓vcp,seval])|refine ⟨fun h=>?_,fun h=>?_⟩|refine aO ?_|refine aT ?_|fail
  exact RetK.pure (by simp only [rs64,rsb,vcd,↓vcp,seval]) (by (simp only [rs64,rsb,enb,vcd,↓vcp,seval])<;>(first|rw [e]))
end Go.Proofs.YtanppabbmffokaaGreat
end
section
namespace Go.Proofs.YtanppabbmffokaaGreat
open Go.Bx
set_option maxRecDepth 10000
structure Sl where
 sf:Int
 st:Int
 on:Bool
 rk:Rk
 cv:List Cv
 yr:Int
instance:Inhabited Sl:=⟨⟨0,0,false,default,[],0⟩⟩
def cSl (s:Sl):List V:=[.d (.int .i64 s.sf),.d (.int .i64 s.st),.d (.bool s.on),.d (.int .i64 s.rk.kd),.d (.int .i64 s.rk.va),.d (.int .i64 s.rk.ag),.d (.int .i64 s.rk.zo),.d (slC s.cv),.d (.int .i64 s.yr)]
def vSl (s:Sl):V:=.ag (cSl s)
def dSl (s:Sl):List D:=[.int .i64 s.sf,.int .i64 s.st,.bool s.on,.int .i64 s.rk.kd,.int .i64 s.rk.va,.int .i64 s.rk.ag,.int .i64 s.rk.zo,slC s.cv,.int .i64 s.yr]
def slS (l:List Sl):D:=.sl false 9 l.length (fun i=>dSl (l.getD i default))
def eqCv (a b:Cv):Bool:=(a.pe == b.pe)&&((a.li == b.li)&&((a.ag == b.ag)&&((a.de == b.de)&&(a.sh == b.sh))))
theorem eqCv_iff {a b:Cv}:eqCv a b=true↔a=b:=by
 obtain ⟨a1,a2,a3,a4,a5⟩:=a
 obtain ⟨b1,b2,b3,b4,b5⟩:=b
 simp [eqCv,and_assoc]
def eqRk (a b:Rk):Bool:=(a.kd == b.kd)&&((a.va == b.va)&&((a.ag == b.ag)&&(a.zo == b.zo)))
theorem eqRk_iff {a b:Rk}:eqRk a b=true↔a=b:=by
 obtain ⟨a1,a2,a3,a4⟩:=a
 obtain ⟨b1,b2,b3,b4⟩:=b
 simp [eqRk,and_assoc]
theorem sAlike (a b:List Cv) (ha:a.length≤9223372036854775806):Ctr Tryz.prog 152 [.d (slC a),.d (slC b)] [] (.d (.bool (decide (a=b)))) [] []:=by
 by_cases hl:a.length=b.length
 ·have d0:(((a.length:Int) != (b.length:Int)))=false:=by rw [bne_eq_false_iff_eq];omega
  refine ctr_pure Tryz.func152 ok152 rfl cc152 cr152 Tryz.ntmps152 (by simp) rfl rfl ?_;intro c hP hfn;simp only [kc152,slC,d0,vcd,↓vcp,seval]
  repeat' first|refine ⟨fun h=>?_,fun h=>?_⟩|refine aO ?_|refine aT ?_|fail
  refine vcC.loop (X:=Nat) (fun k=>⟨[(1,.d (slC b)),(12,.d (slC a)),(13,.d (.int .i64 a.length)),(14,.d (.int .i64 k))],[],[]⟩)
   (fun k=>k≤a.length∧∀ j,j<k→a.getD j default=b.getD j default) (fun k=>a.length-k) 0 ⟨Nat.zero_le _,fun j hj=>absurd hj (Nat.not_lt_zero j)⟩ (Wk.of _ hfn rfl (by simp only [slC,enb,vcd,↓vcp,seval]) (by simp only [enb,vcd,↓vcp,seval])) ?_
  rintro k ⟨hk,he⟩
  by_cases hlt:k<a.length
  ·obtain ⟨x,hd,hg,-,-⟩:=drop_at hlt
   obtain ⟨y,hd2,hg2,-,-⟩:=drop_at (l:=b) (k:=k) (by omega)
   have b0:decide ((k:Int)<(a.length:Int))=true:=decide_eq_true (by omega)
   have ewk:IntKind.i64.wrap ((k:Int)+1)=((k+1:Nat):Int):=wS (by omega)
   simp only [slC,hg,hg2,b0,ewk,vcd,↓vcp,seval]
   repeat' first|refine ⟨fun h=>?_,fun h=>?_⟩|refine aO ?_|refine aT ?_|fail
   ·have hx:eqCv x y=false:=by rw [eqCv,←Bool.not_eq_true'];exact h
    have:a≠b:=by
     intro e
     rw [eqCv_iff.2 (by rw [←hg default,←hg2 default,e])] at hx
     exact absurd hx (by decide)
    exact RetK.pure (by simp only [rs152,rsb,vcd,↓vcp,seval]) (by (simp only [rs152,rsb,enb,vcd,↓vcp,seval])<;>(first|simp [this]))
   ·have hx:x=y:=eqCv_iff.1 (by rw [eqCv,←Bool.not_eq_false'];exact h)
    refine lopK.on (k+1) ⟨hlt,fun j hj=>?_⟩ (by omega) (Wk.of _ hfn rfl (by simp only [enb,vcd,↓vcp,seval]) (by simp only [enb,vcd,↓vcp,seval]))
    rcases Nat.lt_succ_iff_lt_or_eq.1 hj with h1|h1
    ·exact he j h1
    ·rw [h1,hg,hg2,hx]
  ·have b0:decide ((k:Int)<(a.length:Int))=false:=decide_eq_false (by omega)
   have:a=b:=by
    apply List.ext_getElem hl
    intro j h1 h2
    have:=he j (by omega)
    simpa [List.getD_eq_getElem?_getD,h1,h2] using this
   simp only [slC,b0,vcd,↓vcp,seval]
   repeat' first|refine ⟨fun h=>?_,fun h=>?_⟩|refine aO ?_|refine aT ?_|fail
   exact RetK.pure (by simp only [rs152,rsb,vcd,↓vcp,seval]) (by (simp only [rs152,rsb,enb,vcd,↓vcp,seval])<;>(first|simp [this]))
 ·have d0:(((a.length:Int) != (b.length:Int)))=true:=by rw [bne_iff_ne];omega
  have:a≠b:=fun e=>hl (by rw [e])
  refine ctr_pure Tryz.func152 ok152 rfl cc152 cr152 Tryz.ntmps152 (by simp) rfl rfl ?_;intro c hP hfn;simp only [kc152,slC,d0,vcd,↓vcp,seval]
  repeat' first|refine ⟨fun h=>?_,fun h=>?_⟩|refine aO ?_|refine aT ?_|fail
  exact RetK.pure (by simp only [rs152,rsb,vcd,↓vcp,seval]) (by (simp only [rs152,rsb,enb,vcd,↓vcp,seval])<;>(first|simp [this]))
def holdsS (a b:Sl):Bool:=(a.on == b.on)&&eqRk a.rk b.rk&&decide (a.cv=b.cv)
theorem sHolds (a b:Sl) (ha:a.cv.length≤9223372036854775806):Ctr Tryz.prog 110 [vSl a,vSl b] [] (.d (.bool (holdsS a b))) [] []:=by
 have ca:=sAlike a.cv b.cv ha
 simp only [slC] at ca
 refine ctr_pure Tryz.func110 ok110 rfl cc110 cr110 Tryz.ntmps110 (by simp) rfl rfl ?_;intro c hP hfn;simp only [kc110,vSl,cSl,slC,vcd,↓vcp,seval]
 repeat' first|((first|refine tp hP (by exact ca) ?_|refine tg hP (fun _=>by exact ca) ?_|refine tv hP rfl (by exact ca) ?_);try simp only [vcd,↓vcp,seval])|refine ⟨fun h=>?_,fun h=>?_⟩|refine aO ?_|refine aT ?_|fail
 exact RetK.pure (by simp only [rs110,rsb,vcd,↓vcp,seval]) (by (simp only [rs110,rsb,enb,vcd,↓vcp,seval])<;>(first|simp [holdsS,eqRk]))
def sameS (a b:Sl):Bool:=((a.sf == b.sf)&&(a.st == b.st))&&(a.yr == b.yr)&&holdsS a b
theorem sSameS (a b:Sl) (ha:a.cv.length≤9223372036854775806):Ctr Tryz.prog 82 [vSl a,vSl b] [] (.d (.bool (sameS a b))) [] []:=by
 have ca:=sHolds a b ha
 simp only [vSl,cSl,slC] at ca
 refine ctr_pure Tryz.func82 ok82 rfl cc82 cr82 Tryz.ntmps82 (by simp) rfl rfl ?_;intro c hP hfn;simp only [kc82,vSl,cSl,slC,vcd,↓vcp,seval]
 repeat' first|((first|refine tp hP (by exact ca) ?_|refine tg hP (fun _=>by exact ca) ?_|refine tv hP rfl (by exact ca) ?_);try simp only [vcd,↓vcp,seval])|refine ⟨fun h=>?_,fun h=>?_⟩|refine aO ?_|refine aT ?_|fail
 exact RetK.pure (by simp only [rs82,rsb,vcd,↓vcp,seval]) (by (simp only [rs82,rsb,enb,vcd,↓vcp,seval])<;>(first|simp [sameS]))
end Go.Proofs.YtanppabbmffokaaGreat
end
section
namespace Go.Proofs.YtanppabbmffokaaGreat
open Go.Bx
set_option maxRecDepth 10000
def z0:Sl:=⟨0,0,false,⟨0,0,0,0⟩,[],0⟩
end Go.Proofs.YtanppabbmffokaaGreat
end
section
namespace Go.Proofs.YtanppabbmffokaaGreat
open Go.Bx
set_option maxRecDepth 10000
def dHi (h:Hi):List D:=[.int .i64 h.id,.int .i64 h.bk,.int .i64 h.tm.sf,.int .i64 h.tm.st,.int .i64 h.tm.rk.kd,.int .i64 h.tm.rk.va,.int .i64 h.tm.rk.ag,.int .i64 h.tm.rk.zo,slC h.tm.cv,slH h.ch]
def dayC (l:List Ch) (a:Int):Int:=(l.getD a.toNat default).dy
def cfC (l:List Ch) (a b:Int):Int:=cmpI (dayC l a) (dayC l b)
def okH (l:List Ch) (a:Int):Prop:=0≤a∧a<l.length
theorem cmpI_lt (a b:Int):decide (cmpI a b<0)=decide (a<b):=by
 unfold cmpI
 by_cases h:a<b
 ·simp [h]
 ·by_cases h2:b<a<;>simp [h,h2]
theorem ltC (l:List Ch) (a b:Int):ltO (cfC l) a b=decide (dayC l a<dayC l b):=cmpI_lt _ _
theorem swoC (l:List Ch):Swo (ltO (cfC l)):=⟨fun a b h=>by rw [ltC] at *;simp at *;omega,fun a b c h1 h2=>by rw [ltC] at *;simp at *;omega⟩
theorem sOrder1 (h:Hi) (a b:Int) (ha:okH h.ch a) (hb:okH h.ch b):Ctr Tryz.prog 154 [.d (.int .i64 a),.d (.int .i64 b),.mem (dHi h)] [] (.d (.int .i64 (cfC h.ch a b))) [] []:=by
 have cc:=sCmpI (dayC h.ch a) (dayC h.ch b)
 simp only [dayC] at cc
 obtain ⟨h1,h2⟩:=ha
 obtain ⟨h3,h4⟩:=hb
 refine ctr_pure Tryz.func154 ok154 rfl cc154 cr154 Tryz.ntmps154 (by simp) rfl rfl ?_;intro c hP hfn;simp only [kc154,dHi,slH,dCh,vcd,↓vcp,seval]
 repeat' first|((first|refine tp hP (by exact cc) ?_|refine tg hP (fun _=>by exact cc) ?_|refine tv hP rfl (by exact cc) ?_);try simp only [vcd,↓vcp,seval])|refine ⟨fun h=>?_,fun h=>?_⟩|refine aO ?_|refine aT ?_|fail
 exact RetK.pure (by simp only [rs154,rsb,vcd,↓vcp,seval]) (by (simp only [rs154,rsb,enb,vcd,↓vcp,seval])<;>(first|rfl))
theorem cmpOC (h:Hi):CmpO 154 (dHi h) (cfC h.ch) (okH h.ch):=⟨swoC _,fun a b ha hb=>sOrder1 h a b ha hb⟩
def intsN (n:Nat):List Int:=(List.range n).map fun k:Nat=>((k:Nat):Int)
def orderC (l:List Ch):List Int:=srt (ltO (cfC l)) [] (intsN l.length)
theorem intsN_succ (n:Nat):intsN (n+1)=intsN n++[(n:Int)]:=by simp [intsN,List.range_succ]
theorem intsN_len (n:Nat):(intsN n).length=n:=by simp [intsN]
theorem orderC_perm (l:List Ch):(orderC l).Perm (intsN l.length):=by have:=srt_perm (ltO (cfC l)) (intsN l.length) [];rwa [List.nil_append] at this
theorem orderC_len (l:List Ch):(orderC l).length=l.length:=by rw [(orderC_perm l).length_eq,intsN_len]
theorem orderC_ok (l:List Ch):∀ x,x∈orderC l→okH l x:=fun x hx=>by
 have:=(orderC_perm l).mem_iff.1 hx
 simp only [intsN,List.mem_map,List.mem_range] at this
 obtain ⟨k,hk,rfl⟩:=this
 exact ⟨by omega,by omega⟩
theorem sOrderC (hh:Hi) (hl:hh.ch.length≤1000000):Ctr Tryz.prog 111 [vHi hh] [] (.d (slK .i64 (orderC hh.ch))) [] []:=by
 refine ctr_pure Tryz.func111 ok111 rfl cc111 cr111 Tryz.ntmps111 (by simp) rfl rfl ?_;intro c hP hfn;simp only [kc111,vHi,cHi,slH,vcd,↓vcp,seval]
 refine vcC.loop (X:=Nat) (fun k=>⟨[(3,.osl 1000),(1,.mem (dHi hh)),(7,.d (.int .i64 hh.ch.length)),(8,.d (.int .i64 k))],[(1000,rowZ (intsN k))],[1000,1]⟩)
  (fun k=>k≤hh.ch.length) (fun k=>hh.ch.length-k) 0 (Nat.zero_le _) ?_ ?_
 ·refine (Wk.pubF 1 rfl rfl).trans ((Wk.row0 (s:=3) (k:=1000) (e:=3) (sz:=1) (f':=fun _=>[]) rfl rfl (by simp)).trans (Wk.of _ hfn rfl ?_ ?_))
  ·simp only [dHi,slH,slC,enb,vcd,↓vcp,seval]
  ·simp only [rowZ,enb,vcd,↓vcp,seval];exact OLe.row rfl (fun i hi=>absurd hi (Nat.not_lt_zero i))
 intro k hk
 have il:=intsN_len k
 by_cases hlt:k<hh.ch.length
 ·have d0:decide ((k:Int)<(hh.ch.length:Int))=true:=decide_eq_true (by omega)
  have w1:IntKind.i64.wrap ((k:Int)+1)=((k+1:Nat):Int):=wS (by omega)
  simp only [rowZ,d0,vcd,↓vcp,seval]
  repeat' first|refine ⟨fun h=>?_,fun h=>?_⟩|refine aO ?_|refine aT ?_|fail
  refine lopK.on (k+1) (by omega) (by omega) ((Wk.sw 14 1000 _ hfn (by simp) (by simp)).trans (Wk.of _ hfn rfl (by simp only [w1,enb,vcd,↓vcp,seval]) ?_))
  simp only [rowZ,intsN_succ,enb,vcd,↓vcp,seval]
  exact OLe.app1 (fun n:Int=>[.int .i64 n]) (fun i hi=>by simp [hi]) (by simp [litRow])
 ·have d0:decide ((k:Int)<(hh.ch.length:Int))=false:=decide_eq_false (by omega)
  obtain rfl:k=hh.ch.length:=by omega
  have cc:=(sSortSt (cmpOC hh) (intsN hh.ch.length) (fun x hx=>by
   simp only [intsN,List.mem_map,List.mem_range] at hx
   obtain ⟨k,hk,rfl⟩:=hx
   exact ⟨by omega,by omega⟩) (by omega)).sw 900 1000
  simp only [rowZ,fnO,vcd,↓vcp,seval] at cc
  simp only [rowZ,d0,vcd,↓vcp,seval]
  repeat' first|refine ⟨fun h=>?_,fun h=>?_⟩|refine aO ?_|refine aT ?_|fail
  refine TR.call [(1000,rowZ (intsN hh.ch.length))] [(1000,rowZ (orderC hh.ch))] _ [] (by rw [hP];exact cc) (by repeat' first|exact trivial|(intro _;assumption)|apply And.intro) (hin1 rfl) (by simp [keysO]) (by simp) ?_
  simp only [rowZ,vcd,↓vcp,seval]
  repeat' first|refine ⟨fun h=>?_,fun h=>?_⟩|refine aO ?_|refine aT ?_|fail
  refine RetK.mk _ (Wk.pub 1000 rfl) (by simp only [rs111,rsb,vcd,↓vcp,seval]) ?_ trivial
  simp only [rs111,rsb,vcd,↓vcp,seval]
  exact VLe.refl _
end Go.Proofs.YtanppabbmffokaaGreat
end
section
namespace Go.Proofs.YtanppabbmffokaaGreat
open Go.Bx
set_option maxRecDepth 10000
def doesS (s:Sl) (c:Ch):Sl:=
 if c.kd=1 then { s with rk:=c.rk } else if c.kd=2 then { s with cv:=c.cv } else if c.kd=3 then { s with on:=false } else if c.kd=4 then { s with on:=true } else s
theorem sDoes (s:Sl) (h:Ch) (hl:h.cv.length≤1000000):Ctr Tryz.prog 112 [.own 1 0,vCh h] [(1,.fix (cSl s))] (.tup []) [(1,.fix (cSl (doesS s h)))] []:=by
 refine ctr_own Tryz.func112 ok112 rfl cc112 cr112 Tryz.ntmps112 (by simp) rfl ?_
 intro c hP hfn
 have hr:h.kd=1∨h.kd=2∨h.kd=3∨h.kd=4∨(¬ h.kd=1∧¬ h.kd=2∧¬ h.kd=3∧¬ h.kd=4):=by omega
 have n2:((2:Int) == 1)=false:=rfl
 have n3:((3:Int) == 1)=false:=rfl
 have n4:((4:Int) == 1)=false:=rfl
 have n5:((3:Int) == 2)=false:=rfl
 have n6:((4:Int) == 2)=false:=rfl
 have n7:((4:Int) == 3)=false:=rfl
 rcases hr with e1|e1|e1|e1|⟨e1,e2,e3,e4⟩
 ·have hd:doesS s h={ s with rk:=h.rk }:=by simp [doesS,e1]
  rw [hd]
  simp only [kc112,namesL,V.names,ownNames,vCh,cCh,cSl,slC,e1,vcd,↓vcp,seval]
  repeat' first|refine ⟨fun h=>?_,fun h=>?_⟩|refine aO ?_|refine aT ?_|fail
  all_goals
   refine RetK.mk' _ (Wk.refl _ _) (by simp only [rs112,rsb,vcd,↓vcp,seval]) (by simp only [rs112,rsb,enb,vcd,↓vcp,seval]) ?_
   simp only [enb,vcd,↓vcp,seval]
 ·have hd:doesS s h={ s with cv:=h.cv }:=by simp [doesS,e1]
  rw [hd]
  have hb:h.cv.length*40≤140737488355328∧h.cv.length≤maxLen:=⟨by omega,by simp only [maxLen];omega⟩
  simp only [kc112,namesL,V.names,ownNames,vCh,cCh,cSl,slC,e1,n2,vcd,↓vcp,seval]
  repeat' first|refine ⟨fun h=>?_,fun h=>?_⟩|refine aO ?_|refine aT ?_|fail
  all_goals
   refine RetK.mk' _ (Wk.pub 24 rfl) (by simp only [rs112,rsb,vcd,↓vcp,seval]) (by simp only [rs112,rsb,enb,vcd,↓vcp,seval]) ?_
   simp only [enb,vcd,↓vcp,seval]
 ·have hd:doesS s h={ s with on:=false }:=by simp [doesS,e1]
  rw [hd]
  simp only [kc112,namesL,V.names,ownNames,vCh,cCh,cSl,slC,e1,n3,n5,vcd,↓vcp,seval]
  repeat' first|refine ⟨fun h=>?_,fun h=>?_⟩|refine aO ?_|refine aT ?_|fail
  all_goals
   refine RetK.mk' _ (Wk.refl _ _) (by simp only [rs112,rsb,vcd,↓vcp,seval]) (by simp only [rs112,rsb,enb,vcd,↓vcp,seval]) ?_
   simp only [enb,vcd,↓vcp,seval]
 ·have hd:doesS s h={ s with on:=true }:=by simp [doesS,e1]
  rw [hd]
  simp only [kc112,namesL,V.names,ownNames,vCh,cCh,cSl,slC,e1,n4,n6,n7,vcd,↓vcp,seval]
  repeat' first|refine ⟨fun h=>?_,fun h=>?_⟩|refine aO ?_|refine aT ?_|fail
  all_goals
   refine RetK.mk' _ (Wk.refl _ _) (by simp only [rs112,rsb,vcd,↓vcp,seval]) (by simp only [rs112,rsb,enb,vcd,↓vcp,seval]) ?_
   simp only [enb,vcd,↓vcp,seval]
 ·have hd:doesS s h=s:=by simp [doesS,e1,e2,e3,e4]
  have m1:(h.kd == 1)=false:=beq_false_of_ne e1
  have m2:(h.kd == 2)=false:=beq_false_of_ne e2
  have m3:(h.kd == 3)=false:=beq_false_of_ne e3
  have m4:(h.kd == 4)=false:=beq_false_of_ne e4
  rw [hd]
  simp only [kc112,namesL,V.names,ownNames,vCh,cCh,cSl,slC,m1,m2,m3,m4,vcd,↓vcp,seval]
  repeat' first|refine ⟨fun h=>?_,fun h=>?_⟩|refine aO ?_|refine aT ?_|fail
  all_goals
   refine RetK.mk' _ (Wk.refl _ _) (by simp only [rs112,rsb,vcd,↓vcp,seval]) (by simp only [rs112,rsb,enb,vcd,↓vcp,seval]) ?_
   simp only [enb,vcd,↓vcp,seval]
def rowS (l:List Sl):Go.Bx.Own:=.row 118 9 l.length (fun i=>dSl (l.getD i default))
def endB (now:Sl) (out:List Sl) (d:Int):Bool:=decide (0<out.length)&&holdsS (out.getD (out.length-1) default) { now with st:=d }
def endO (now:Sl) (out:List Sl) (d:Int):List Sl:=
 if now.sf=d then out else if endB now out d=true then out.set (out.length-1) { (out.getD (out.length-1) default) with st:=d } else out++[{ now with st:=d }]
theorem sEnd0 (now:Sl) (out:List Sl) (d:Int) (ho:out.length≤1000000) (hc:∀ s,s∈out→s.cv.length≤1000000) (h:now.sf=d∨endB now out d=true) :
  Ctr Tryz.prog 109 [.d (.int .i64 d),.own 901 0,.own 902 0] [(901,.fix (cSl now)),(902,.fix [.osl 1000]),(1000,rowS out)] (.tup []) [(901,.fix (cSl { now with sf:=d })),(902,.fix [.osl 1000]),(1000,rowS (endO now out d))] []:=by
 refine ctr_own Tryz.func109 ok109 rfl cc109 cr109 Tryz.ntmps109 (by simp) rfl ?_
 intro c hP hfn
 by_cases h1:now.sf=d
 ·have e:endO now out d=out:=by rw [endO,if_pos h1]
  have d0:(now.sf == d)=true:=beq_iff_eq.2 h1
  rw [e]
  simp only [kc109,namesL,V.names,ownNames,cSl,slC,rowS,dSl,d0,vcd,↓vcp,seval]
  repeat' first|refine ⟨fun h=>?_,fun h=>?_⟩|refine aO ?_|refine aT ?_|fail
  refine RetK.mk' _ (Wk.refl _ _) (by simp only [rs109,rsb,vcd,↓vcp,seval]) (by simp only [rs109,rsb,enb,vcd,↓vcp,seval]) ?_
  simp only [enb,vcd,↓vcp,seval]
 ·have hb:=h.resolve_left h1
  have e:endO now out d=out.set (out.length-1) { (out.getD (out.length-1) default) with st:=d }:=by rw [endO,if_neg h1,if_pos hb]
  have d0:(now.sf == d)=false:=beq_false_of_ne h1
  simp only [endB,Bool.and_eq_true,decide_eq_true_eq] at hb
  have w1:IntKind.i64.wrap ((out.length:Int)-1)=((out.length-1:Nat):Int):=(wI (by omega)).trans (by omega)
  obtain ⟨x,hx,hxm⟩:∃ x,(∀ d,out.getD (out.length-1) d=x)∧x∈out:=by
   obtain ⟨x,-,hg,hm,-⟩:=drop_at (l:=out) (k:=out.length-1) (by omega)
   exact ⟨x,hg,hm⟩
  rw [hx] at hb e
  have d1:decide (((out.length-1:Nat):Int)≥0)=true:=decide_eq_true (by omega)
  have cc:=sHolds x { now with st:=d } (by have:=hc x hxm;omega)
  rw [hb.2] at cc
  simp only [vSl,cSl,slC] at cc
  have b1:(0:Int)≤((out.length-1:Nat):Int)∧((out.length-1:Nat):Int)<(out.length:Int):=by omega
  rw [e]
  simp only [kc109,namesL,V.names,ownNames,cSl,slC,rowS,dSl,d0,w1,d1,hx,vcd,↓vcp,seval]
  repeat' first|((first|refine tp hP (by exact cc) ?_|refine tg hP (fun _=>by exact cc) ?_|refine tv hP rfl (by exact cc) ?_);try simp only [d0,w1,d1,hx,vcd,↓vcp,seval])|refine ⟨fun h=>?_,fun h=>?_⟩|refine aO ?_|refine aT ?_|fail
  refine RetK.mk' _ (Wk.refl _ _) (by simp only [rs109,rsb,vcd,↓vcp,seval]) (by simp only [rs109,rsb,enb,vcd,↓vcp,seval]) ?_
  simp only [enb,vcd,↓vcp,seval]
  refine OLe.row (by rw [List.length_set]) fun i hi=>?_
  have hgi:(out.set (out.length-1) { x with st:=d }).getD i default=if i=out.length-1 then { x with st:=d } else out.getD i default:=by
   simp only [List.getD_eq_getElem?_getD,List.getElem?_set]
   by_cases hi2:out.length-1=i
   ·rw [if_pos hi2,if_pos (by omega),if_pos hi2.symm];rfl
   ·rw [if_neg hi2,if_neg (fun h=>hi2 h.symm)]
  rw [hgi]
  by_cases hi2:i=out.length-1
  ·rw [if_pos hi2,if_pos hi2]
   simp [putD]
  ·rw [if_neg hi2,if_neg hi2]
theorem sEnd1 (now:Sl) (out:List Sl) (d:Int) (ho:out.length≤1000000) (hc:∀ s,s∈out→s.cv.length≤1000000) (h:¬ (now.sf=d∨endB now out d=true)) :
  Ctr Tryz.prog 109 [.d (.int .i64 d),.own 901 0,.own 902 0] [(901,.fix (cSl now)),(902,.fix [.osl 1000]),(1000,rowS out)] (.tup []) [(901,.fix (cSl { now with sf:=d })),(902,.fix [.osl 1001]),(1001,rowS (endO now out d))] [1001]:=by
 refine ctr_own Tryz.func109 ok109 rfl cc109 cr109 Tryz.ntmps109 (by simp) rfl ?_
 intro c hP hfn
 have h1:¬ now.sf=d:=fun e=>h (.inl e)
 have hb:¬ endB now out d=true:=fun e=>h (.inr e)
 have e:endO now out d=out++[{ now with st:=d }]:=by rw [endO,if_neg h1,if_neg hb]
 have d0:(now.sf == d)=false:=beq_false_of_ne h1
 have hroom:(out.length+1)*88≤140737488355328∧out.length+1≤maxLen:=⟨by omega,by simp only [maxLen];omega⟩
 by_cases h0:out.length=0
 ·have w1:IntKind.i64.wrap ((out.length:Int)-1)=-1:=(wI (by omega)).trans (by omega)
  have d1:decide ((-1:Int)≥0)=false:=rfl
  rw [e]
  simp only [kc109,namesL,V.names,ownNames,cSl,slC,rowS,dSl,d0,w1,d1,vcd,↓vcp,seval]
  refine TR.gp (gc:=false) (res:=.d (.bool false)) hP rfl (fun h=>by cases h) (fun h=>by cases h) ?_
  simp only [d0,w1,d1,vcd,↓vcp,seval]
  repeat' first|refine ⟨fun h=>?_,fun h=>?_⟩|refine aO ?_|refine aT ?_|fail
  refine RetK.mk' _ (Wk.sw 16 1001 _ hfn (by simp [namesL,V.names,ownNames,rowS,cSl]) (by simp [namesL,V.names,ownNames,rowS,cSl])) (by simp only [rs109,rsb,vcd,↓vcp,seval]) (by simp only [rs109,rsb,enb,vcd,↓vcp,seval]) ?_
  simp only [rowS,cSl,slC,dSl,enb,vcd,↓vcp,seval]
  exact OLe.app1 dSl (fun i hi=>by simp [hi,dSl,slC]) (by simp [dSl,slC,litRow])
 ·have w1:IntKind.i64.wrap ((out.length:Int)-1)=((out.length-1:Nat):Int):=(wI (by omega)).trans (by omega)
  obtain ⟨x,hx,hxm⟩:∃ x,(∀ d,out.getD (out.length-1) d=x)∧x∈out:=by
   obtain ⟨x,-,hg,hm,-⟩:=drop_at (l:=out) (k:=out.length-1) (by omega)
   exact ⟨x,hg,hm⟩
  rw [e]
  rw [endB,hx] at hb
  have hb2:holdsS x { now with st:=d }=false:=by
   cases hq:holdsS x { now with st:=d } with
   |false=>rfl
   |true=>rw [hq,decide_eq_true (by omega:0<out.length)] at hb;exact absurd rfl hb
  have d1:decide (((out.length-1:Nat):Int)≥0)=true:=decide_eq_true (by omega)
  have cc:=sHolds x { now with st:=d } (by have:=hc x hxm;omega)
  rw [hb2] at cc
  simp only [vSl,cSl,slC] at cc
  have b1:(0:Int)≤((out.length-1:Nat):Int)∧((out.length-1:Nat):Int)<(out.length:Int):=by omega
  simp only [kc109,namesL,V.names,ownNames,cSl,slC,rowS,dSl,d0,w1,d1,hx,vcd,↓vcp,seval]
  repeat' first|((first|refine tp hP (by exact cc) ?_|refine tg hP (fun _=>by exact cc) ?_|refine tv hP rfl (by exact cc) ?_);try simp only [d0,w1,d1,hx,vcd,↓vcp,seval])|refine ⟨fun h=>?_,fun h=>?_⟩|refine aO ?_|refine aT ?_|fail
  refine RetK.mk' _ (Wk.sw 16 1001 _ hfn (by simp [namesL,V.names,ownNames,rowS,cSl]) (by simp [namesL,V.names,ownNames,rowS,cSl])) (by simp only [rs109,rsb,vcd,↓vcp,seval]) (by simp only [rs109,rsb,enb,vcd,↓vcp,seval]) ?_
  simp only [rowS,cSl,slC,dSl,enb,vcd,↓vcp,seval]
  exact OLe.app1 dSl (fun i hi=>by simp [hi,dSl,slC]) (by simp [dSl,slC,litRow])
end Go.Proofs.YtanppabbmffokaaGreat
end
section
namespace Go.Proofs.YtanppabbmffokaaGreat
open Go.Bx
set_option maxRecDepth 10000
theorem hin3 {own:List (Nat×Go.Bx.Own)} {k1 k2 k3:Nat} {o1 o2 o3:Go.Bx.Own} (h1:own? own k1=some o1) (h2:own? own k2=some o2) (h3:own? own k3=some o3):∀ k' o',(k',o')∈[(k1,o1),(k2,o2),(k3,o3)]→own? own k'=some o':=fun k' o' hm=>by
 simp only [List.mem_cons,Prod.mk.injEq,List.not_mem_nil,or_false] at hm
 rcases hm with ⟨rfl,rfl⟩|⟨rfl,rfl⟩|⟨rfl,rfl⟩
 ·exact h1
 ·exact h2
 ·exact h3
def stepCut (ch:List Ch) (x:Sl×List Sl) (i:Int):Sl×List Sl:=(doesS { x.1 with sf:=(ch.getD i.toNat default).dy } (ch.getD i.toNat default),endO x.1 x.2 (ch.getD i.toNat default).dy)
def cut0 (h:Hi):Sl×List Sl:=(⟨h.tm.sf,0,true,h.tm.rk,h.tm.cv,0⟩,[])
def cutK (h:Hi) (k:Nat):Sl×List Sl:=((orderC h.ch).take k).foldl (stepCut h.ch) (cut0 h)
def cutS (h:Hi):List Sl:=endO (cutK h h.ch.length).1 (cutK h h.ch.length).2 h.tm.st
structure CutI (k:Nat) (x:Sl×List Sl):Prop where
 len:x.2.length≤k
 now:x.1.cv.length≤1000000
 cv:∀ s,s∈x.2→s.cv.length≤1000000
theorem endO_len (now:Sl) (out:List Sl) (d:Int):(endO now out d).length≤out.length+1:=by
 unfold endO
 split
 ·omega
 ·split
  ·simp
  ·simp
theorem endO_cv {now:Sl} {out:List Sl} {d:Int} (h1:now.cv.length≤1000000) (h2:∀ s,s∈out→s.cv.length≤1000000):∀ s,s∈endO now out d→s.cv.length≤1000000:=by
 unfold endO
 split
 ·exact h2
 ·split
  ·rename_i hb
   simp only [endB,Bool.and_eq_true,decide_eq_true_eq] at hb
   intro s hs
   rcases List.mem_or_eq_of_mem_set hs with h|h
   ·exact h2 s h
   ·obtain ⟨x,-,hg,hm,-⟩:=drop_at (l:=out) (k:=out.length-1) (by omega)
    rw [h,hg];exact h2 x hm
  ·intro s hs
   rcases List.mem_append.1 hs with h|h
   ·exact h2 s h
   ·rw [List.mem_singleton.1 h];exact h1
theorem doesS_cv {s:Sl} {c:Ch} (h1:s.cv.length≤1000000) (h2:c.cv.length≤1000000):(doesS s c).cv.length≤1000000:=by
 unfold doesS
 split
 ·exact h1
 ·split
  ·exact h2
  ·split
   ·exact h1
   ·split<;>exact h1
theorem CutI.step {h:Hi} (hc:∀ c,c∈h.ch→c.cv.length≤1000000) {k:Nat} {x:Sl×List Sl} (hx:CutI k x) {i:Int} (hi:okH h.ch i):CutI (k+1) (stepCut h.ch x i):=by
 obtain ⟨c,-,hg,hm,-⟩:=drop_at (l:=h.ch) (k:=i.toNat) (by have:=hi.1;have:=hi.2;omega)
 refine ⟨?_,?_,?_⟩
 ·have:=endO_len x.1 x.2 (h.ch.getD i.toNat default).dy
  have:=hx.len
  simp only [stepCut];omega
 ·simp only [stepCut];rw [hg];exact doesS_cv hx.now (hc c hm)
 ·simp only [stepCut];exact endO_cv hx.now hx.cv
theorem cutK_ok {h:Hi} (ht:h.tm.cv.length≤1000000) (hc:∀ c,c∈h.ch→c.cv.length≤1000000):∀ k,CutI k (cutK h k)
 |0=>⟨Nat.le_refl _,ht,fun s hs=>by simp [cutK,cut0] at hs⟩
 |k+1=>by
  by_cases hk:k<(orderC h.ch).length
  ·obtain ⟨x,hd,hg,hm,he⟩:=drop_at hk
   have:cutK h (k+1)=stepCut h.ch (cutK h k) x:=by rw [cutK,List.take_add_one,he,List.foldl_append];rfl
   rw [this]
   exact (cutK_ok ht hc k).step hc (orderC_ok _ x hm)
  ·have:cutK h (k+1)=cutK h k:=by rw [cutK,cutK,List.take_of_length_le (by omega),List.take_of_length_le (by omega)]
   rw [this]
   have:=cutK_ok ht hc k
   exact ⟨by have:=this.len;omega,this.now,this.cv⟩
structure SzC (h:Hi):Prop where
 t:h.tm.cv.length≤1000000
 n:h.ch.length≤100000
 c:∀ c,c∈h.ch→c.cv.length≤1000000
set_option maxHeartbeats 2000000 in
theorem sCut (hh:Hi) (z:SzC hh):Ctr Tryz.prog 66 [vHi hh] [] (.osl 7) [(7,rowS (cutS hh))] [7]:=by
 have co:=sOrderC hh (by have:=z.n;omega)
 simp only [vHi,cHi,slC,slH,dCh] at co
 have hb:hh.tm.cv.length*40≤140737488355328∧hh.tm.cv.length≤maxLen:=⟨by have:=z.t;omega,by have:=z.t;simp only [maxLen];omega⟩
 have hol:=orderC_len hh.ch
 refine ctr_own Tryz.func66 ok66 rfl cc66 cr66 Tryz.ntmps66 (by simp [vHi,cHi]) rfl ?_
 intro c hP hfn
 replace hfn:c.fn=[]:=hfn
 simp only [kc66,namesL,V.names,ownNames,vHi,cHi,slC,slH,dCh,vcd,↓vcp,seval]
 repeat' first|((first|refine tp hP (by exact co) ?_|refine tg hP (fun _=>by exact co) ?_|refine tv hP rfl (by exact co) ?_);try simp only [vcd,↓vcp,seval])|refine ⟨fun h=>?_,fun h=>?_⟩|refine aO ?_|refine aT ?_|fail
 refine vcC.loop (X:=Nat) (fun k=>⟨[(1,.mem (dHi hh)),(3,.own 3 0),(4,.own 4 0),(5,.own 5 0),(6,.fn (.func 109) [] [.own 4 0,.own 5 0]),(26,.d (slK .i64 (orderC hh.ch))),(27,.d (.int .i64 (orderC hh.ch).length)),(28,.d (.int .i64 k))],[(3,.fix [.d (.int .i64 hh.tm.sf),.d (.int .i64 hh.tm.st)]),(4,.fix (cSl (cutK hh k).1)),(5,.fix [.osl 1000]),(1000,rowS (cutK hh k).2)],[1,3,4,5,1000]⟩)
  (fun k=>k≤(orderC hh.ch).length) (fun k=>(orderC hh.ch).length-k) 0 (Nat.zero_le _) ?_ ?_
 ·refine (Wk.pubF 1 rfl rfl).trans ((Wk.pub 22 rfl).trans ((Wk.row0F 5 0 1000 118 9 (fun _=>[]) rfl rfl (by simp)).trans (Wk.of _ hfn rfl ?_ ?_)))
  ·simp only [dHi,slH,slC,dCh,enb,vcd,↓vcp,seval]
  ·simp only [rowS,cutK,cut0,cSl,slC,List.foldl_nil,enb,vcd,↓vcp,seval]
   exact OLe.row rfl (fun i hi=>absurd hi (Nat.not_lt_zero i))
 intro k hk
 have hI:=cutK_ok z.t z.c k
 by_cases hlt:k<(orderC hh.ch).length
 ·obtain ⟨i,hd,hg,hm,he⟩:=drop_at hlt
  have hi:=orderC_ok _ i hm
  obtain ⟨h1,h2⟩:=hi
  obtain ⟨c',hd',hg',hm',-⟩:=drop_at (l:=hh.ch) (k:=i.toNat) (by omega)
  have hS:cutK hh (k+1)=stepCut hh.ch (cutK hh k) i:=by rw [cutK,List.take_add_one,he,List.foldl_append];rfl
  have hS2:stepCut hh.ch (cutK hh k) i=(doesS { (cutK hh k).1 with sf:=c'.dy } c',endO (cutK hh k).1 (cutK hh k).2 c'.dy):=by rw [stepCut,hg']
  rw [hS2] at hS
  have hfin:∀ st:St,Wk c st ⟨[(1,.mem (dHi hh)),(3,.own 3 0),(4,.own 4 0),(5,.own 5 0),(6,.fn (.func 109) [] [.own 4 0,.own 5 0]),(26,.d (slK .i64 (orderC hh.ch))),(27,.d (.int .i64 (orderC hh.ch).length)),(28,.d (.int .i64 ((k+1:Nat):Int)))],[(3,.fix [.d (.int .i64 hh.tm.sf),.d (.int .i64 hh.tm.st)]),(4,.fix (cSl (doesS { (cutK hh k).1 with sf:=c'.dy } c'))),(5,.fix [.osl 1000]),(1000,rowS (endO (cutK hh k).1 (cutK hh k).2 c'.dy))],[1,3,4,5,1000]⟩→Wk c st ⟨[(1,.mem (dHi hh)),(3,.own 3 0),(4,.own 4 0),(5,.own 5 0),(6,.fn (.func 109) [] [.own 4 0,.own 5 0]),(26,.d (slK .i64 (orderC hh.ch))),(27,.d (.int .i64 (orderC hh.ch).length)),(28,.d (.int .i64 ((k+1:Nat):Int)))],[(3,.fix [.d (.int .i64 hh.tm.sf),.d (.int .i64 hh.tm.st)]),(4,.fix (cSl (cutK hh (k+1)).1)),(5,.fix [.osl 1000]),(1000,rowS (cutK hh (k+1)).2)],[1,3,4,5,1000]⟩:=fun st h=>by rw [hS];exact h
  have dc:=(sDoes { (cutK hh k).1 with sf:=c'.dy } c' (z.c c' hm')).sw 1 4
  have d0:decide ((k:Int)<((orderC hh.ch).length:Int))=true:=decide_eq_true (by omega)
  have w1:IntKind.i64.wrap ((k:Int)+1)=((k+1:Nat):Int):=wS (by have:=z.n;omega)
  generalize cutK hh k=x at *
  obtain ⟨now,out⟩:=x
  have hl:out.length≤k:=hI.len
  have hn:=z.n
  simp only [vCh,cCh,cSl,slC,vcd,↓vcp,seval] at dc
  by_cases hb:now.sf=c'.dy∨endB now out c'.dy=true
  ·have ec:=((sEnd0 now out c'.dy (by omega) hI.cv hb).sw 901 4).sw 902 5
   simp only [rowS,cSl,slC,vcd,↓vcp,seval] at ec
   simp only [dHi,slH,dCh,slC,cSl,rowS,hg,hg',d0,vcd,↓vcp,seval]
   repeat' first|refine ⟨fun h=>?_,fun h=>?_⟩|refine aO ?_|refine aT ?_|fail
   refine TR.callv [(4,.fix (cSl now)),(5,.fix [.osl 1000]),(1000,rowS out)] [(4,.fix (cSl { now with sf:=c'.dy })),(5,.fix [.osl 1000]),(1000,rowS (endO now out c'.dy))] _ [] rfl (by rw [hP];exact ec) trivial (by repeat' first|exact trivial|(intro _;assumption)|apply And.intro) (hin3 rfl rfl rfl) (by simp [keysO]) (by simp) ?_
   simp only [hg,hg',cSl,slC,rowS,vcd,↓vcp,seval]
   repeat' first|refine ⟨fun h=>?_,fun h=>?_⟩|refine aO ?_|refine aT ?_|fail
   refine TR.call [(4,.fix (cSl { now with sf:=c'.dy }))] [(4,.fix (cSl (doesS { now with sf:=c'.dy } c')))] _ [] (by rw [hP];exact dc) (by repeat' first|exact trivial|(intro _;assumption)|apply And.intro) (hin1 rfl) (by simp [keysO]) (by simp) ?_
   simp only [w1,cSl,slC,vcd,↓vcp,seval]
   repeat' first|refine ⟨fun h=>?_,fun h=>?_⟩|refine aO ?_|refine aT ?_|fail
   refine lopK.on (k+1) hlt (by omega) (hfin _ (Wk.of _ hfn rfl (by simp only [dHi,slH,dCh,slC,w1,enb,vcd,↓vcp,seval]) (by simp only [rowS,cSl,slC,enb,vcd,↓vcp,seval])))
  ·have ec:=((((sEnd1 now out c'.dy (by omega) hI.cv hb).sw 901 4).sw 902 5))
   simp only [rowS,cSl,slC,vcd,↓vcp,seval] at ec
   simp only [dHi,slH,dCh,slC,cSl,rowS,hg,hg',d0,vcd,↓vcp,seval]
   repeat' first|refine ⟨fun h=>?_,fun h=>?_⟩|refine aO ?_|refine aT ?_|fail
   refine TR.callv [(4,.fix (cSl now)),(5,.fix [.osl 1000]),(1000,rowS out)] [(4,.fix (cSl { now with sf:=c'.dy })),(5,.fix [.osl 1001]),(1001,rowS (endO now out c'.dy))] _ [1001] rfl (by rw [hP];exact ec) trivial (by repeat' first|exact trivial|(intro _;assumption)|apply And.intro) (hin3 rfl rfl rfl) (by simp [keysO]) (by simp) ?_
   simp only [hg,hg',cSl,slC,rowS,vcd,↓vcp,seval]
   repeat' first|refine ⟨fun h=>?_,fun h=>?_⟩|refine aO ?_|refine aT ?_|fail
   refine TR.call [(4,.fix (cSl { now with sf:=c'.dy }))] [(4,.fix (cSl (doesS { now with sf:=c'.dy } c')))] _ [] (by rw [hP];exact dc) (by repeat' first|exact trivial|(intro _;assumption)|apply And.intro) (hin1 rfl) (by simp [keysO]) (by simp) ?_
   simp only [w1,cSl,slC,vcd,↓vcp,seval]
   repeat' first|refine ⟨fun h=>?_,fun h=>?_⟩|refine aO ?_|refine aT ?_|fail
   refine lopK.on (k+1) hlt (by omega) (hfin _ ((Wk.sw 1001 1000 _ hfn (by simp) (by simp)).trans (Wk.of _ hfn rfl (by simp only [dHi,slH,dCh,slC,w1,enb,vcd,↓vcp,seval]) (by simp only [rowS,cSl,slC,enb,vcd,↓vcp,seval]))))
 ·have d0:decide ((k:Int)<((orderC hh.ch).length:Int))=false:=decide_eq_false (by omega)
  have hkn:k=hh.ch.length:=by omega
  subst hkn
  have hC:cutS hh=endO (cutK hh hh.ch.length).1 (cutK hh hh.ch.length).2 hh.tm.st:=rfl
  rw [hC]
  generalize cutK hh hh.ch.length=x at *
  obtain ⟨now,out⟩:=x
  have hl:out.length≤hh.ch.length:=hI.len
  have hn:=z.n
  by_cases hb:now.sf=hh.tm.st∨endB now out hh.tm.st=true
  ·have ec:=((sEnd0 now out hh.tm.st (by omega) hI.cv hb).sw 901 4).sw 902 5
   simp only [rowS,cSl,slC,vcd,↓vcp,seval] at ec
   simp only [dHi,slH,dCh,slC,cSl,rowS,d0,vcd,↓vcp,seval]
   repeat' first|refine ⟨fun h=>?_,fun h=>?_⟩|refine aO ?_|refine aT ?_|fail
   refine TR.callv [(4,.fix (cSl now)),(5,.fix [.osl 1000]),(1000,rowS out)] [(4,.fix (cSl { now with sf:=hh.tm.st })),(5,.fix [.osl 1000]),(1000,rowS (endO now out hh.tm.st))] _ [] rfl (by rw [hP];exact ec) trivial (by repeat' first|exact trivial|(intro _;assumption)|apply And.intro) (hin3 rfl rfl rfl) (by simp [keysO]) (by simp) ?_
   simp only [cSl,slC,rowS,vcd,↓vcp,seval]
   repeat' first|refine ⟨fun h=>?_,fun h=>?_⟩|refine aO ?_|refine aT ?_|fail
   refine RetK.mk _ (Wk.sw 1000 7 _ hfn (by simp) (by simp)) (by simp only [rs66,rsb,vcd,↓vcp,seval]) (by simp only [rs66,rsb,enb,vcd,↓vcp,seval]) ?_
   simp only [rowS,enb,vcd,↓vcp,seval]
  ·have ec:=((sEnd1 now out hh.tm.st (by omega) hI.cv hb).sw 901 4).sw 902 5
   simp only [rowS,cSl,slC,vcd,↓vcp,seval] at ec
   simp only [dHi,slH,dCh,slC,cSl,rowS,d0,vcd,↓vcp,seval]
   repeat' first|refine ⟨fun h=>?_,fun h=>?_⟩|refine aO ?_|refine aT ?_|fail
   refine TR.callv [(4,.fix (cSl now)),(5,.fix [.osl 1000]),(1000,rowS out)] [(4,.fix (cSl { now with sf:=hh.tm.st })),(5,.fix [.osl 1001]),(1001,rowS (endO now out hh.tm.st))] _ [1001] rfl (by rw [hP];exact ec) trivial (by repeat' first|exact trivial|(intro _;assumption)|apply And.intro) (hin3 rfl rfl rfl) (by simp [keysO]) (by simp) ?_
   simp only [cSl,slC,rowS,vcd,↓vcp,seval]
   repeat' first|refine ⟨fun h=>?_,fun h=>?_⟩|refine aO ?_|refine aT ?_|fail
   refine RetK.mk _ (Wk.sw 1001 7 _ hfn (by simp) (by simp)) (by simp only [rs66,rsb,vcd,↓vcp,seval]) (by simp only [rs66,rsb,enb,vcd,↓vcp,seval]) ?_
   simp only [rowS,enb,vcd,↓vcp,seval]
end Go.Proofs.YtanppabbmffokaaGreat
end
section
namespace Go.Proofs.YtanppabbmffokaaGreat
open Go.Bx
set_option maxRecDepth 10000
theorem pCloneC (l:List Cv) (hl:l.length≤1000000):Ctr Tryz.prog 37 [.d (slC l)] [] (.d (slC l)) [] []:=by
 have hb:l.length*40≤140737488355328∧l.length≤maxLen:=⟨by omega,by simp only [maxLen];omega⟩
 refine ctr_pure Tryz.func37 ok37 rfl cc37 cr37 Tryz.ntmps37 (by simp) rfl rfl ?_;intro c hP hfn;simp only [kc37,slC,vcd,↓vcp,seval]
 refine ⟨fun h=>?_,?_⟩
 ·refine RetK.pure (by simp only [rs37,rsb,vcd,↓vcp,seval]) ?_
  simp only [rs37,h,rsb,vcd,↓vcp,seval]
  exact VLe.nil rfl (fun h=>by cases h)
 ·repeat' first|refine ⟨fun h=>?_,fun h=>?_⟩|refine aO ?_|refine aT ?_|fail
  refine RetK.mk _ (Wk.pub 7 rfl) (by simp only [rs37,rsb,vcd,↓vcp,seval]) ?_ trivial
  simp only [rs37,rsb,enb,vcd,↓vcp,seval]
theorem pCloneB (l:List (Int×Int)) (hl:l.length≤1000000):Ctr Tryz.prog 106 [.d (slB l)] [] (.d (slB l)) [] []:=by
 have hb:l.length*16≤140737488355328∧l.length≤maxLen:=⟨by omega,by simp only [maxLen];omega⟩
 refine ctr_pure Tryz.func106 ok106 rfl cc106 cr106 Tryz.ntmps106 (by simp) rfl rfl ?_;intro c hP hfn;simp only [kc106,slB,vcd,↓vcp,seval]
 refine ⟨fun h=>?_,?_⟩
 ·refine RetK.pure (by simp only [rs106,rsb,vcd,↓vcp,seval]) ?_
  simp only [rs106,h,rsb,vcd,↓vcp,seval]
  exact VLe.nil rfl (fun h=>by cases h)
 ·repeat' first|refine ⟨fun h=>?_,fun h=>?_⟩|refine aO ?_|refine aT ?_|fail
  refine RetK.mk _ (Wk.pub 7 rfl) (by simp only [rs106,rsb,vcd,↓vcp,seval]) ?_ trivial
  simp only [rs106,rsb,enb,vcd,↓vcp,seval]
theorem pCloneI (l:List Int) (hl:l.length≤1000000):Ctr Tryz.prog 72 [.d (slK .i64 l)] [] (.d (slK .i64 l)) [] []:=by
 have hb:l.length*8≤140737488355328∧l.length≤maxLen:=⟨by omega,by simp only [maxLen];omega⟩
 refine ctr_pure Tryz.func72 ok72 rfl cc72 cr72 Tryz.ntmps72 (by simp) rfl rfl ?_;intro c hP hfn;simp only [kc72,slK,vcd,↓vcp,seval]
 refine ⟨fun h=>?_,?_⟩
 ·refine RetK.pure (by simp only [rs72,rsb,vcd,↓vcp,seval]) ?_
  simp only [rs72,h,rsb,vcd,↓vcp,seval]
  exact VLe.nil rfl (fun h=>by cases h)
 ·repeat' first|refine ⟨fun h=>?_,fun h=>?_⟩|refine aO ?_|refine aT ?_|fail
  refine RetK.mk _ (Wk.pub 7 rfl) (by simp only [rs72,rsb,vcd,↓vcp,seval]) ?_ trivial
  simp only [rs72,rsb,enb,vcd,↓vcp,seval]
structure SzV (v:Vs):Prop where
 age:v.age.length≤1000000
 zn:v.zn.length≤1000000
 pr:v.pr.length≤1000000
theorem SzV.short {v:Vs} (h:SzV v):ShortV v:=⟨by have:=h.age;omega,by have:=h.zn;omega,by have:=h.pr;omega⟩
theorem sOwnV (v:Vs) (hv:SzV v):Ctr Tryz.prog 63 [vV v] [] (vV v) [] []:=by
 have c1:=pCloneB v.age hv.age
 have c2:=pCloneI v.zn hv.zn
 have c3:=pCloneI v.pr hv.pr
 simp only [slB,slK] at c1 c2 c3
 refine ctr_pure Tryz.func63 ok63 rfl cc63 cr63 Tryz.ntmps63 (by simp) rfl rfl ?_;intro c hP hfn;simp only [kc63,vV,cV,slB,slK,vcd,↓vcp,seval]
 repeat' first|((first|refine tp hP (by first|exact c1|exact c2|exact c3) ?_|refine tg hP (fun _=>by first|exact c1|exact c2|exact c3) ?_|refine tv hP rfl (by first|exact c1|exact c2|exact c3) ?_);try simp only [vcd,↓vcp,seval])|refine ⟨fun h=>?_,fun h=>?_⟩|refine aO ?_|refine aT ?_|fail
 exact RetK.pure (by simp only [rs63,rsb,vcd,↓vcp,seval]) (by simp only [rs63,rsb,enb,vcd,↓vcp,seval])
theorem sOwnT (t:Tm) (ht:t.cv.length≤1000000):Ctr Tryz.prog 38 [vTm t] [] (vTm t) [] []:=by
 have c1:=pCloneC t.cv ht
 simp only [slC] at c1
 refine ctr_pure Tryz.func38 ok38 rfl cc38 cr38 Tryz.ntmps38 (by simp) rfl rfl ?_;intro c hP hfn;simp only [kc38,vTm,cTm,slC,vcd,↓vcp,seval]
 repeat' first|((first|refine tp hP (by exact c1) ?_|refine tg hP (fun _=>by exact c1) ?_|refine tv hP rfl (by exact c1) ?_);try simp only [vcd,↓vcp,seval])|refine ⟨fun h=>?_,fun h=>?_⟩|refine aO ?_|refine aT ?_|fail
 exact RetK.pure (by simp only [rs38,rsb,vcd,↓vcp,seval]) (by simp only [rs38,rsb,enb,vcd,↓vcp,seval])
def dVs (v:Vs):List D:=[.int .i64 v.fr,.int .i64 v.b0,.int .i64 v.b1,.int .i64 v.b2,.int .i64 v.b3,slB v.age,slK .i64 v.zn,slK .i64 v.pr,.int .i64 v.mn]
def slV (l:List Vs):D:=.sl false 9 l.length (fun i=>dVs (l.getD i default))
theorem sBackV (l:List Vs):Ctr Tryz.prog 108 [.d (slV l)] [] (.fn (.func 151) [] [.mem [slV l]]) [] []:=by
 refine ctr_pure Tryz.func108 ok108 rfl cc108 cr108 Tryz.ntmps108 (by simp) rfl rfl ?_;intro c hP hfn;simp only [kc108,slV,vcd,↓vcp,seval]
 repeat' first|refine ⟨fun h=>?_,fun h=>?_⟩|refine aO ?_|refine aT ?_|fail
 exact RetK.mk _ (Wk.pubF 1 rfl rfl) (by simp only [rs108,rsb,vcd,↓vcp,seval]) (by simp only [rs108,rsb,enb,vcd,↓vcp,seval]) trivial
def bkArgs (l:List Vs) (k:Nat):List V:=[.d (.int .i64 ((l.length-1-k:Nat):Int)),vV (l.getD (l.length-1-k) default)]
theorem it_backV (l:List Vs) (hl:l.length≤1000000):IterC Tryz.prog 151 [.mem [slV l]] (bkArgs l) l.length:=by
 refine iter_of_vc Tryz.func151 ok151 rfl cc151 cr151 (by simp only [Tryz.ntmps151,List.length_cons,List.length_nil];decide) rfl (fun _=>rfl) ?_
 intro c l' T stop Z hP _ hZ hT hT' hY
 have w1:IntKind.i64.wrap ((l.length:Int)-1)=(l.length:Int)-1:=wI (by omega)
 simp only [kc151,slV,w1,vcd,↓vcp,seval]
 refine vcC.loop (X:=Nat) (fun k=>⟨[(0,.fn (.yield l') [] []),(1,.mem [slV l]),(3,.d (.int .i64 ((l.length:Int)-1-(k:Int))))],[]++Z k,[]++keysO (Z k)⟩)
  (fun k=>k≤l.length∧k≤T∧(stop=true→k<T)) (fun k=>l.length-k) 0 ⟨Nat.zero_le _,Nat.zero_le _,fun h=>(hT' h).1⟩ (Wk.ofZ hZ rfl 0 (own:=[]) (nm:=[]) rfl rfl (by simp only [slV,w1,enb,vcd,↓vcp,seval];omega) (by simp only [enb,vcd,↓vcp,seval]) (fun n o hm=>mem_own? (hZ.nodup 0) hm)) ?_
 rintro k ⟨hk,hkT,hks⟩
 by_cases hlt:k<l.length
 ·have d0:decide ((l.length:Int)-1-(k:Int)≥0)=true:=decide_eq_true (by omega)
  have e0:(l.length:Int)-1-(k:Int)=((l.length-1-k:Nat):Int):=by omega
  have e1:IntKind.i64.wrap (((l.length-1-k:Nat):Int)-1)=(l.length:Int)-1-((k+1:Nat):Int):=(wI (by omega)).trans (by omega)
  have b1:(0:Int)≤((l.length-1-k:Nat):Int)∧((l.length-1-k:Nat):Int)<(l.length:Int):=by omega
  have hlT:k<T:=by
   cases hst:stop with
   |true=>exact hks hst
   |false=>rw [hT hst];exact hlt
  rw [e0] at d0
  simp only [slV,dVs,e0,d0,vcd,↓vcp,seval]
  repeat' first|refine ⟨fun h=>?_,fun h=>?_⟩|refine aO ?_|refine aT ?_|fail
  refine TR.yield hZ rfl (hY k hlT) (own:=[]) (nm:=[]) rfl rfl rfl trivial (by simp only [bkArgs,vV,cV,slV,slB,vcd,↓vcp,seval]) (by simp only [vcd,↓vcp,seval]) ?_
  simp only [vcd,↓vcp,seval]
  refine ⟨fun hg=>?_,fun hg=>?_⟩
  ·have hT1:T=k+1:=by
    simp [goAt] at hg
    have:=hks hg.2
    omega
   subst hT1
   exact IterK.mk _ (Wk.refl _ _) (OwnLe.of fun n o hm=>⟨o,mem_own? (hZ.nodup (k+1)) hm,OLe.refl o⟩)
  ·have hg':k+1<T∨stop=false:=by
    simp [goAt] at hg
    by_cases h9:k+1<T
    ·exact .inl h9
    ·exact .inr (hg (by omega))
   simp only [e1,vcd,↓vcp,seval]
   refine lopK.on (k+1) ⟨hlt,hlT,fun h=>hg'.resolve_right (by rw [h];simp)⟩ (by omega) (Wk.ofZ hZ rfl (k+1) (own:=[]) (nm:=[]) rfl rfl (by simp only [slV,e1,enb,vcd,↓vcp,seval]) (by simp only [enb,vcd,↓vcp,seval]) (fun n o hm=>mem_own? (hZ.nodup (k+1)) hm))
 ·have hkl:k=l.length:=by omega
  have hst:stop=false:=by
   cases hst:stop with
   |false=>rfl
   |true=>have:=hks hst;have:=(hT' hst).2;omega
  have hTk:T=k:=by rw [hT hst,hkl]
  have d0:decide ((l.length:Int)-1-(k:Int)≥0)=false:=decide_eq_false (by omega)
  simp only [d0,vcd,↓vcp,seval]
  repeat' first|refine ⟨fun h=>?_,fun h=>?_⟩|refine aO ?_|refine aT ?_|fail
  rw [hTk]
  exact IterK.mk' _ (Wk.refl _ _) (OwnLe.of fun n o hm=>⟨o,mem_own? (hZ.nodup k) hm,OLe.refl o⟩)
def atV (l:List Vs) (d:Int):Option Vs:=l.reverse.find? (fun v=>decide (v.fr≤d))
def zV:Vs:=⟨0,0,0,0,0,[],[],[],0⟩
def atO (o:Option Vs):Vs:=o.getD zV
def atE (o:Option Vs):Int:=if o.isSome then 0 else 7
def zVs:List V:=[.d (.int .i64 0),.d (.int .i64 0),.d (.int .i64 0),.d (.int .i64 0),.d (.int .i64 0),.d (.sl true 0 0 fun _=>[]),.d (.sl true 0 0 fun _=>[]),.d (.sl true 0 0 fun _=>[]),.d (.int .i64 0)]
theorem bk_at {l:List Vs} {k:Nat} (h:k<l.length):l.reverse[k]?=some (l.getD (l.length-1-k) default):=by
 rw [List.getElem?_reverse h,List.getD_eq_getElem?_getD]
 have:l.length-1-k<l.length:=by omega
 rw [List.getElem?_eq_getElem this];rfl
theorem find_or {X:Type} (p:X→Bool):∀ (l:List X),(∃ (k:Nat) (x:X),l[k]?=some x∧p x=true∧l.find? p=some x∧∀ (j:Nat) (y:X),j<k→l[j]?=some y→p y=false)∨(l.find? p=none∧∀ (j:Nat) (y:X),l[j]?=some y→p y=false)
 |[]=>.inr ⟨rfl,fun j y h=>by simp at h⟩
 |a::l=>by
  cases ha:p a with
  |true=>exact .inl ⟨0,a,rfl,ha,by rw [List.find?_cons,ha],fun j y h=>absurd h (Nat.not_lt_zero j)⟩
  |false =>
   rcases find_or p l with ⟨k,x,h1,h2,h3,h4⟩|⟨h1,h2⟩
   ·refine .inl ⟨k+1,x,h1,h2,by rw [List.find?_cons,ha];exact h3,fun j y hj hy=>?_⟩
    cases j with
    |zero=>simp at hy;subst hy;exact ha
    |succ j=>exact h4 j y (by omega) (by simpa using hy)
   ·refine .inr ⟨by rw [List.find?_cons,ha];exact h1,fun j y hy=>?_⟩
    cases j with
    |zero=>simp at hy;subst hy;exact ha
    |succ j=>exact h2 j y (by simpa using hy)
def atOw (d:Int) (cs:List V):List (Nat×Go.Bx.Own):=[(3,.fix [.d (.int .i64 d)]),(4,.fix cs),(5,.fix [.d (.int .i64 0)])]
def atO1 (d:Int) (v:Vs) (cs:List V):List (Nat×Go.Bx.Own):=[(3,.fix [.d (.int .i64 d)]),(4,.fix cs),(5,.fix [.d (.int .i64 0)]),(7,.fix (cV v))]
def atEn (l:List Vs):List (Nat×V):=[(3,.own 3 0),(4,.own 4 0),(5,.own 5 0),(10,.fn (.func 151) [] [.mem [slV l]])]
def atE1:List (Nat×V):=[(3,.own 3 0),(4,.own 4 0),(5,.own 5 0),(7,.own 7 0)]
theorem at_cli (d:Int) (cs:Nat→List V) (h:∀ k,namesL (cs k)=[]):CliO [3,4,5] (fun k=>atOw d (cs k)):=by
 refine ⟨fun k=>by simp [atOw,keysO],fun k n hn=>?_,fun k n hn=>by simpa [atOw,keysO] using hn⟩
 simp only [atOw,ownNames,namesL,V.names,h,List.append_nil,List.nil_append] at hn
 simpa [atOw,keysO] using hn
theorem at_cli1 (d:Int) (v:Nat→Vs) (cs:Nat→List V) (h:∀ k,namesL (cs k)=[]):CliO [3,4,5] (fun k=>atO1 d (v k) (cs k)):=by
 refine ⟨fun k=>by simp [atO1,keysO],fun k n hn=>?_,fun k n hn=>?_⟩
 ·simp only [atO1,cV,ownNames,namesL,V.names,h,List.append_nil,List.nil_append] at hn
  simpa [atO1,keysO] using hn
 ·simp only [List.mem_cons,List.not_mem_nil,or_false] at hn
  rcases hn with h|h|h<;>simp [atO1,keysO,h]
theorem env_names {l:List (Nat×V)} {NF:List Nat} (h:∀ s y,(s,y)∈l→∀ n,n∈y.names→n∈NF):∀ s n,n∈(Go.Bx.get l s).names→n∈NF:=by
 induction l with
 |nil=>intro s n hn;simp [Go.Bx.get,V.names] at hn
 |cons p l ih =>
  obtain ⟨s',y⟩:=p
  intro s n hn
  simp only [Go.Bx.get] at hn
  split at hn
  ·exact h s' y (by simp) n hn
  ·exact ih (fun s y hm=>h s y (by simp [hm])) s n hn
theorem at_env (l:List Vs):∀ s n,n∈(Go.Bx.get (atEn l) s).names→n∈[3,4,5]:=env_names fun s y hm n hn=>by
 simp only [atEn,List.mem_cons,Prod.mk.injEq,List.not_mem_nil,or_false] at hm
 rcases hm with ⟨rfl,rfl⟩|⟨rfl,rfl⟩|⟨rfl,rfl⟩|⟨rfl,rfl⟩<;>simp [V.names,namesL] at hn ⊢<;>simp [hn]
set_option maxHeartbeats 1000000 in
theorem sAtV (l:List Vs) (d:Int) (hl:l.length≤1000000) (hz:∀ v,v∈l→SzV v):Ctr Tryz.prog 65 [.ag [.d (slV l)],.d (.int .i64 d)] [] (.tup [vV (atO (atV l d)),.d (.int .i64 (atE (atV l d)))]) [] []:=by
 have cb:=sBackV l
 simp only [slV,dVs] at cb
 refine ctr_pureL Tryz.func65 ok65 rfl cc65 cr65 Tryz.ntmps65 (by simp) rfl rfl ?_;intro c hP hfn hrd;simp only [kc65,slV,dVs,vcd,↓vcp,seval]
 repeat' first|((first|refine tp hP (by exact cb) ?_|refine tg hP (fun _=>by exact cb) ?_|refine tv hP rfl (by exact cb) ?_);try simp only [vcd,↓vcp,seval])|refine ⟨fun h=>?_,fun h=>?_⟩|refine aO ?_|refine aT ?_|fail
 have hI:=it_backV l hl
 rw [←hP] at hI
 have hv:∀ k,k<l.length→l.reverse[k]?=some (l.getD (l.length-1-k) default):=fun k hk=>bk_at hk
 have hmem:∀ k,k<l.length→l.getD (l.length-1-k) default∈l:=fun k hk=>by
  obtain ⟨x,-,hg,hm,-⟩:=drop_at (l:=l) (k:=l.length-1-k) (by omega)
  rw [hg];exact hm
 rcases find_or (fun v:Vs=>decide (v.fr≤d)) l.reverse with ⟨K,x,h1,h2,h3,h4⟩|⟨h3,h4⟩
 ·have hK:K<l.length:=by have:=(List.getElem?_eq_some_iff.1 h1).1;simpa using this
  have hx:l.getD (l.length-1-K) default=x:=by have:=hv K hK;rw [h1] at this;injection this with this;exact this.symm
  have hat:atV l d=some x:=h3
  have hcs:∀ k,namesL (if k=K+1 then cV x else zVs)=[]:=fun k=>by split<;>simp [cV,zVs,namesL,V.names]
  refine vcC.rfnJ hI (K+1) (some .ret) (atEn l) [3,4,5] (fun k=>atOw d (if k=K+1 then cV x else zVs)) (fun k=>atO1 d (l.getD (l.length-1-k) default) zVs) (fun _=>atE1) ?_ rfl trivial
   ⟨hrd,at_cli d _ hcs,at_cli1 d _ _ (fun _=>by simp [zVs,namesL,V.names]),fun n hn=>(by rw [hfn] at hn;cases hn),at_env l,rfl,fun _=>rfl,fun _=>rfl,fun h=>(by cases h),fun _=>⟨by omega,by omega⟩,fun h=>(by cases h)⟩ ?_ ?_ (fun h=>by cases h) ?_
  ·refine Wk.of (b:=⟨atEn l,atOw d zVs,[3,4,5]⟩) _ hfn rfl ?_ ?_
   ·simp only [atEn,slV,dVs,slB,enb,vcd,↓vcp,seval]
   ·simp only [atOw,zVs,enb,vcd,↓vcp,seval]
  ·intro k hk cB hPB hfB
   have hne:¬ k=K+1:=by omega
   simp only [setPs,bkArgs,vV,cV,atOw,atEn,zVs,hne,if_false,vcd,↓vcp,seval]
   rw [rfnA_nrm]
   refine Wk.of (b:=⟨atE1,atO1 d (l.getD (l.length-1-k) default) zVs,[3,4,5,7]⟩) _ hfB rfl ?_ ?_
   ·simp only [atE1,enb,vcd,↓vcp,seval]
   ·simp only [atO1,zVs,cV,enb,vcd,↓vcp,seval]
  ·intro k hk cB hPB hfB
   have hP:=hPB.trans hP
   by_cases hkK:k=K
   ·subst hkK
    have hg:goAt (k+1) (some Ex.ret).isSome k=false:=by simp [goAt]
    have d0:decide (x.fr≤d)=true:=h2
    have co:=sOwnV x (hz x (by rw [←hx];exact hmem k hK))
    simp only [vV,cV,slB] at co
    simp only [hg,hx,if_true]
    simp only [atO1,atE1,atOw,cV,slB,zVs,d0,vcd,↓vcp,seval]
    repeat' first|((first|refine tp hP (by exact co) ?_|refine tg hP (fun _=>by exact co) ?_|refine tv hP rfl (by exact co) ?_);try simp only [d0,vcd,↓vcp,seval])|refine ⟨fun h=>?_,fun h=>?_⟩|refine aO ?_|refine aT ?_|fail
    all_goals
     exact Wk.of (b:=⟨[],atOw d (cV x),[3,4,5]⟩) _ hfB rfl (by simp only [enb,vcd,↓vcp,seval]) (by simp only [atOw,cV,slB,enb,vcd,↓vcp,seval])
   ·have hg:goAt (K+1) (some Ex.ret).isSome k=true:=by simp [goAt];omega
    have hne:¬ k+1=K+1:=by omega
    obtain ⟨y,hy⟩:∃ y,l.getD (l.length-1-k) default=y:=⟨_,rfl⟩
    have d0:decide (y.fr≤d)=false:=by rw [←hy];exact h4 k _ (by omega) (hv k (by omega))
    simp only [hg,hy,hne,if_false]
    simp only [atO1,atE1,atOw,cV,slB,zVs,d0,vcd,↓vcp,seval]
    repeat' first|refine ⟨fun h=>?_,fun h=>?_⟩|refine aO ?_|refine aT ?_|fail
    all_goals
     exact Wk.of (b:=⟨[],atOw d zVs,[3,4,5]⟩) _ hfB rfl (by simp only [enb,vcd,↓vcp,seval]) (by simp only [atOw,zVs,enb,vcd,↓vcp,seval])
  ·intro e he
   injection he with he
   subst he
   simp only [if_true,atEn,atOw,cV,hat,atO,atE,Option.getD_some,Option.isSome_some,vcd,↓vcp,seval]
   refine RetK.pure (by simp only [rs65,rsb,vcd,↓vcp,seval]) ?_
   simp only [rs65,vV,cV,rsb,enb,vcd,↓vcp,seval]
 ·have hat:atV l d=none:=h3
  refine vcC.rfnAll hI (atEn l) [3,4,5] (fun k=>atOw d zVs) (fun k=>atO1 d (l.getD (l.length-1-k) default) zVs) (fun _=>atE1) ?_ rfl trivial
   ⟨hrd,at_cli d _ (fun _=>by simp [zVs,namesL,V.names]),at_cli1 d _ _ (fun _=>by simp [zVs,namesL,V.names]),fun n hn=>(by rw [hfn] at hn;cases hn),at_env l,rfl,fun _=>rfl,fun _=>rfl,fun _=>rfl,fun h=>absurd rfl h,fun h=>(by cases h)⟩ ?_ ?_ ?_
  ·refine Wk.of (b:=⟨atEn l,atOw d zVs,[3,4,5]⟩) _ hfn rfl ?_ ?_
   ·simp only [atEn,slV,dVs,slB,enb,vcd,↓vcp,seval]
   ·simp only [atOw,zVs,enb,vcd,↓vcp,seval]
  ·intro k hk cB hPB hfB
   simp only [setPs,bkArgs,vV,cV,atOw,atEn,zVs,vcd,↓vcp,seval]
   rw [rfnA_nrm]
   refine Wk.of (b:=⟨atE1,atO1 d (l.getD (l.length-1-k) default) zVs,[3,4,5,7]⟩) _ hfB rfl ?_ ?_
   ·simp only [atE1,enb,vcd,↓vcp,seval]
   ·simp only [atO1,zVs,cV,enb,vcd,↓vcp,seval]
  ·intro k hk cB hPB hfB
   obtain ⟨y,hy⟩:∃ y,l.getD (l.length-1-k) default=y:=⟨_,rfl⟩
   have d0:decide (y.fr≤d)=false:=by rw [←hy];exact h4 k _ (hv k hk)
   simp only [hy]
   simp only [atO1,atE1,atOw,cV,slB,zVs,d0,vcd,↓vcp,seval]
   repeat' first|refine ⟨fun h=>?_,fun h=>?_⟩|refine aO ?_|refine aT ?_|fail
   all_goals
    exact Wk.of (b:=⟨[],atOw d zVs,[3,4,5]⟩) _ hfB rfl (by simp only [enb,vcd,↓vcp,seval]) (by simp only [atOw,zVs,enb,vcd,↓vcp,seval])
  ·simp only [atEn,atOw,zVs,hat,atO,atE,vcd,↓vcp,seval]
   refine RetK.pure (by simp only [rs65,rsb,vcd,↓vcp,seval]) ?_
   simp only [rs65,vV,cV,rsb,enb,vcd,↓vcp,seval]
   have nl:∀ {sz:Nat} {f g:Nat→List D},VLe (.d (.sl true 0 0 g)) (.d (.sl false sz 0 f)):=VLe.nil rfl (fun h=>by cases h)
   exact VLe.tups ⟨VLe.ags ⟨VLe.refl _,VLe.refl _,VLe.refl _,VLe.refl _,VLe.refl _,nl,nl,nl,VLe.refl _,trivial⟩,VLe.refl _,trivial⟩
end Go.Proofs.YtanppabbmffokaaGreat
end
section
namespace Go.Proofs.YtanppabbmffokaaGreat
open Go.ChangeShapes Go.WideShapes Go.ChangeAt Go.RowKit Go.Bx
theorem band_reads:Reads Tryz.prog 182 2 (fun l:Int×Int=>[.int .i64 l.1,.int .i64 l.2]) (fun _=>True):=
 (Reads.struct Tryz.underlying182 (FR.cons rfl int_reads (FR.cons rfl int_reads FR.nil)) (by kernel_rfl)).map (fun x=>(x.1,x.2.1)) _ _ (fun _=>rfl) (fun _=>rfl) (fun _ _=>trivial)
theorem bands_reads:Reads Tryz.prog 73 1 (fun l:List (Int×Int)=>[slB l]) (fun l=>l.length≤9223372036854775807):=
 (band_reads.slice Tryz.underlying73 (by kernel_rfl) (by decide)).map id _ _ (fun _=>rfl) (fun _=>rfl) (fun _ h=>h.1)
theorem ints_reads:Reads Tryz.prog 46 1 (fun l:List Int=>[slK .i64 l]) (fun l=>l.length≤9223372036854775807∧∀ n,n∈l→I64 n):=
 (int_reads.slice Tryz.underlying46 (by kernel_rfl) (by decide)).map id _ _ (fun _=>rfl) (fun _=>rfl) (fun _ h=>h)
theorem four_reads:Reads Tryz.prog 72 4 (fun t:Int×Int×Int×Int=>[.int .i64 t.1,.int .i64 t.2.1,.int .i64 t.2.2.1,.int .i64 t.2.2.2]) (fun _=>True):=
 (int_reads.array Tryz.underlying72 (by kernel_rfl)).map (fun g=>(g 0,g 1,g 2,g 3)) _ _ (fun _=>rfl) (fun _=>rfl) (fun _ _=>trivial)
def okV (v:Vs):Prop:=I64 v.fr∧v.age.length≤9223372036854775807∧v.zn.length≤9223372036854775807∧v.pr.length≤9223372036854775807
theorem version_reads:Reads Tryz.prog 75 9 dVs okV:=
 (Reads.struct Tryz.underlying75 (FR.cons rfl int_reads (FR.cons rfl four_reads (FR.cons rfl bands_reads (FR.cons rfl ints_reads (FR.cons rfl ints_reads (FR.cons rfl int_reads FR.nil)))))) (by kernel_rfl)).map (fun x=>⟨x.1,x.2.1.1,x.2.1.2.1,x.2.1.2.2.1,x.2.1.2.2.2,x.2.2.1,x.2.2.2.1,x.2.2.2.2.1,x.2.2.2.2.2.1⟩) _ _ (fun _=>rfl) (fun _=>rfl) (fun _ h=>⟨h.1,h.2.2.1,h.2.2.2.1.1,h.2.2.2.2.1.1⟩)
theorem versions_reads:Reads Tryz.prog 32 1 (fun l:List Vs=>[slV l]) (fun l=>l.length≤9223372036854775807∧∀ v,v∈l→okV v):=
 (version_reads.slice Tryz.underlying32 (by kernel_rfl) (by decide)).map id _ _ (fun _=>rfl) (fun _=>rfl) (fun _ h=>h)
theorem tariff_reads:Reads Tryz.prog 34 1 (fun l:List Vs=>[slV l]) (fun l=>l.length≤9223372036854775807∧∀ v,v∈l→okV v):=
 (Reads.struct Tryz.underlying34 (FR.cons rfl versions_reads FR.nil) (by kernel_rfl)).map (fun x=>x.1) _ _ (fun _=>rfl) (fun _=>rfl) (fun _ h=>h.1)
theorem risk_reads:Reads Tryz.prog 25 4 (fun r:Rk=>[.int .i64 r.kd,.int .i64 r.va,.int .i64 r.ag,.int .i64 r.zo]) (fun _=>True):=
 (Reads.struct Tryz.underlying25 (FR.cons rfl int_reads (FR.cons rfl int_reads (FR.cons rfl int_reads (FR.cons rfl int_reads FR.nil)))) (by kernel_rfl)).map (fun x=>⟨x.1,x.2.1,x.2.2.1,x.2.2.2.1⟩) _ _ (fun _=>rfl) (fun _=>rfl) (fun _ _=>trivial)
theorem cover_reads:Reads Tryz.prog 63 5 (fun c:Cv=>[.int .i64 c.pe,.int .i64 c.li,.int .i64 c.ag,.int .i64 c.de,.int .i64 c.sh]) (fun _=>True):=
 (Reads.struct Tryz.underlying63 (FR.cons rfl int_reads (FR.cons rfl int_reads (FR.cons rfl int_reads (FR.cons rfl int_reads (FR.cons rfl int_reads FR.nil))))) (by kernel_rfl)).map (fun x=>⟨x.1,x.2.1,x.2.2.1,x.2.2.2.1,x.2.2.2.2.1⟩) _ _ (fun _=>rfl) (fun _=>rfl) (fun _ _=>trivial)
theorem covers_reads:Reads Tryz.prog 26 1 (fun l:List Cv=>[slC l]) (fun l=>l.length≤9223372036854775807):=
 (cover_reads.slice Tryz.underlying26 (by kernel_rfl) (by decide)).map id _ _ (fun _=>rfl) (fun _=>rfl) (fun _ h=>h.1)
theorem span_reads:Reads Tryz.prog 23 2 (fun l:Int×Int=>[.int .i64 l.1,.int .i64 l.2]) (fun l=>I64 l.1∧I64 l.2):=
 (Reads.struct Tryz.underlying23 (FR.cons rfl int_reads (FR.cons rfl int_reads FR.nil)) (by kernel_rfl)).map (fun x=>(x.1,x.2.1)) _ _ (fun _=>rfl) (fun _=>rfl) (fun _ h=>⟨h.1,h.2.1⟩)
theorem terms_reads:Reads Tryz.prog 28 7 (fun t:Tm=>[.int .i64 t.sf,.int .i64 t.st,.int .i64 t.rk.kd,.int .i64 t.rk.va,.int .i64 t.rk.ag,.int .i64 t.rk.zo,slC t.cv]) (fun t=>I64 t.sf∧I64 t.st∧t.cv.length≤9223372036854775807):=
 (Reads.struct Tryz.underlying28 (FR.cons rfl span_reads (FR.cons rfl risk_reads (FR.cons rfl covers_reads FR.nil))) (by kernel_rfl)).map (fun x=>⟨x.1.1,x.1.2,x.2.1,x.2.2.1⟩) _ _ (fun _=>rfl) (fun _=>rfl) (fun _ h=>⟨h.1.1,h.1.2,h.2.2.1⟩)
def okCh (c:Ch):Prop:=I64 c.bk∧I64 c.dy∧c.cv.length≤9223372036854775807
theorem change_reads:Reads Tryz.prog 36 9 dCh okCh:=
 (Reads.struct Tryz.underlying36 (FR.cons rfl int_reads (FR.cons rfl int_reads (FR.cons rfl int_reads (FR.cons rfl risk_reads (FR.cons rfl covers_reads (FR.cons rfl int_reads FR.nil)))))) (by kernel_rfl)).map (fun x=>⟨x.1,x.2.1,x.2.2.1,x.2.2.2.1,x.2.2.2.2.1,x.2.2.2.2.2.1⟩) _ _ (fun _=>rfl) (fun _=>rfl) (fun _ h=>⟨h.1,h.2.1,h.2.2.2.2.1⟩)
theorem changes_reads:Reads Tryz.prog 29 1 (fun l:List Ch=>[slH l]) (fun l=>l.length≤9223372036854775807∧∀ c,c∈l→okCh c):=
 (change_reads.slice Tryz.underlying29 (by kernel_rfl) (by decide)).map id _ _ (fun _=>rfl) (fun _=>rfl) (fun _ h=>h)
def okHi (h:Hi):Prop:=I64 h.bk∧(I64 h.tm.sf∧I64 h.tm.st∧h.tm.cv.length≤9223372036854775807)∧h.ch.length≤9223372036854775807∧∀ c,c∈h.ch→okCh c
theorem history_reads:Reads Tryz.prog 31 10 (fun h:Hi=>[.int .i64 h.id,.int .i64 h.bk,.int .i64 h.tm.sf,.int .i64 h.tm.st,.int .i64 h.tm.rk.kd,.int .i64 h.tm.rk.va,.int .i64 h.tm.rk.ag,.int .i64 h.tm.rk.zo,slC h.tm.cv,slH h.ch]) okHi:=
 (Reads.struct Tryz.underlying31 (FR.cons rfl int_reads (FR.cons rfl int_reads (FR.cons rfl terms_reads (FR.cons rfl changes_reads FR.nil)))) (by kernel_rfl)).map (fun x=>⟨x.1,x.2.1,x.2.2.1,x.2.2.2.1⟩) _ _ (fun _=>rfl) (fun _=>rfl) (fun _ h=>⟨h.2.1,h.2.2.1,h.2.2.2.1⟩)
end Go.Proofs.YtanppabbmffokaaGreat
end
section
namespace Go.Proofs.YtanppabbmffokaaGreat
open Go.Shelf Go.Proofs Go.Bx
theorem lq {X:Type}{o:Option X}{a b:X}(h:o=some a)(e:a=b:=by kernel_rfl):o=some b:=h.trans (congrArg some e)
def lays189_ren : Go.Shelf.Ren := ⟨fun |189=>73|125=>120|257=>119|128=>168|129=>169|294=>159|295=>160|296=>161|297=>162|298=>163|299=>164|216=>165|300=>166|301=>167|328=>185|329=>186|330=>187|331=>188|332=>189|215=>173|343=>203|n=>n,fun |28=>46|3=>3|46=>177|0=>0|51=>37|53=>235|4=>4|183=>227|182=>226|131=>130|5=>5|9=>9|218=>248|222=>252|228=>263|229=>53|n=>n,fun |n=>n⟩
theorem lays189 : Lays.n189 Tryz.prog lays189_ren := {
  mixed:=by kernel_rfl,f125:=lq Tryz.func120,f128:=lq Tryz.func168,f129:=lq Tryz.func169,f189:=lq Tryz.func73,f215:=lq Tryz.func173,f216:=lq Tryz.func165,f257:=lq Tryz.func119,f294:=lq Tryz.func159,f295:=lq Tryz.func160,f296:=lq Tryz.func161,f297:=lq Tryz.func162,f298:=lq Tryz.func163,f299:=lq Tryz.func164,f300:=lq Tryz.func166,f301:=lq Tryz.func167,
  f328:=lq Tryz.func185,f329:=lq Tryz.func186,f330:=lq Tryz.func187,f331:=lq Tryz.func188,f332:=lq Tryz.func189,f343:=lq Tryz.func203,t0:=Tryz.underlying0,a0:=Tryz.isAgg0,z0:=Tryz.sizeOf0,v0:=Tryz.zeroValue0,t3:=Tryz.underlying3,a3:=Tryz.isAgg3,z3:=Tryz.sizeOf3,v3:=Tryz.zeroValue3,t4:=Tryz.underlying4,a4:=Tryz.isAgg4,
  z4:=Tryz.sizeOf4,v4:=Tryz.zeroValue4,t5:=Tryz.underlying5,a5:=Tryz.isAgg5,z5:=Tryz.sizeOf5,v5:=Tryz.zeroValue5,t9:=Tryz.underlying9,a9:=Tryz.isAgg9,z9:=Tryz.sizeOf9,v9:=Tryz.zeroValue9,t28:=Tryz.underlying46,a28:=Tryz.isAgg46,z28:=Tryz.sizeOf46,v28:=Tryz.zeroValue46,t46:=Tryz.underlying177,a46:=Tryz.isAgg177,
  z46:=Tryz.sizeOf177,v46:=Tryz.zeroValue177,t51:=Tryz.underlying37,a51:=Tryz.isAgg37,z51:=Tryz.sizeOf37,v51:=Tryz.zeroValue37,t53:=Tryz.underlying235,a53:=Tryz.isAgg235,z53:=Tryz.sizeOf235,v53:=Tryz.zeroValue235,t131:=Tryz.underlying130,a131:=Tryz.isAgg130,z131:=Tryz.sizeOf130,v131:=Tryz.zeroValue130,t182:=Tryz.underlying226,a182:=Tryz.isAgg226,
  z182:=Tryz.sizeOf226,v182:=Tryz.zeroValue226,t183:=Tryz.underlying227,a183:=Tryz.isAgg227,z183:=Tryz.sizeOf227,v183:=Tryz.zeroValue227,t218:=Tryz.underlying248,a218:=Tryz.isAgg248,z218:=Tryz.sizeOf248,v218:=Tryz.zeroValue248,t222:=Tryz.underlying252,a222:=Tryz.isAgg252,z222:=Tryz.sizeOf252,v222:=Tryz.zeroValue252,t228:=Tryz.underlying263,a228:=Tryz.isAgg263,
  z228:=Tryz.sizeOf263,v228:=Tryz.zeroValue263,t229:=Tryz.underlying53,a229:=Tryz.isAgg53,z229:=Tryz.sizeOf53,v229:=Tryz.zeroValue53 }
def sortI (l:List Int):List Int:=l.mergeSort fun x y=>decide (x≤y)
theorem sSortI (l:List Int) (hl:l.length≤1000000):Ctr Tryz.prog 73 [.osl 900] [(900,rowZ l)] (.tup []) [(900,rowZ (sortI l))] []:=by
 refine ⟨ok73,by simp [keysO],by simp,fun E0 β w vals hE hsz hv hins hnn=>?_⟩
 obtain ⟨v,rfl⟩:∃ v,vals=#[v]:=by
  match vals,hsz with
  |⟨[v]⟩,_=>exact ⟨v,rfl⟩
 have h1:=hv 0 v (.osl 900) rfl rfl
 obtain ⟨v',xs,q1,⟨hx,hrow⟩,hlen,hcell⟩:=hins.ok 900 (rowZ l) (by simp)
 obtain rfl:v=v':=by
  cases h1 with
  |osl k u h _=>rw [h] at q1;injection q1
 rcases hrow with ⟨⟨a,rfl⟩,h0⟩|⟨g,cap,cur,rfl,hc0,hheap,hn,hcm,hcs,htake⟩
 ·have e0:l=[]:=List.eq_nil_of_length_eq_zero h0
  subst e0
  refine (Any.slices_Sort_int_none lays189 a 0 w).mono ?_
  rintro e w' ⟨rfl,rfl⟩
  have es:sortI []=[]:=by simp [sortI]
  rw [es]
  refine ⟨_,β,rfl,Names.le.refl β,fun _ _=>rfl,.tup _ _ rfl (fun j v x h=>by simp at h),hins,Keeps.refl _ _,fun k hk b hb=>.inr ⟨k,hk,hb⟩⟩
 ·have hH:Go.Sort.Holds (Value.int .i64) w g 0 l.toArray:=by
   intro j hj
   have hj':j<l.length:=by simpa using hj
   obtain ⟨u,g1,g2⟩:=hcell j 0 hj' (by decide) _ rfl
   have hu:u=.int .i64 (l.getD j 0):=by cases g2;rfl
   rw [←htake,Nat.mul_one,Nat.mul_one,Nat.add_zero,List.getElem?_take_of_lt hj',Array.getElem?_toList] at g1
   rw [Nat.zero_add]
   refine ⟨?_,by simp [World.frozen?,hheap]⟩
   simp only [World.cell?,hheap,g1,hu]
   simp [List.getD_eq_getElem?_getD,hj']
  have hg:g<w.heap.size:=(Array.getElem?_eq_some_iff.1 hheap).1
  refine (Any.slices_Sort_int lays189 g 0 cap l w hH hg (by omega)).mono ?_
  rintro e w' ⟨rfl,n,os,rfl⟩
  have hbk:β.blk 900=some g:=by simp [Names.blk,q1,blkOf];omega
  obtain ⟨W,eW⟩:∃ W,W=Go.Sort.grow (Go.Sort.putRow (Value.int .i64) (Go.Sort.ahead w n) g 0 (l.mergeSort fun x y=>decide (x≤y)).toArray) os:=⟨_,rfl⟩
  have hw:∀ b,b<w.heap.size→W.heap[b]?=if b=g then some (.cells (Go.Sort.putCells (Value.int .i64) 0 (sortI l).toArray cur) 3 (0,0)) else w.heap[b]?:=fun b hb=>by
   rw [eW,Go.Sort.heap_grow_old _ _ (by simpa [Go.Sort.ahead] using hb)]
   by_cases e:b=g
   ·subst e
    simp [Go.Sort.putRow,Go.Sort.mapBlock,Go.Sort.ahead,Array.getElem?_modify,hheap,Go.Sort.onCells,sortI]
   ·simp [Go.Sort.putRow,Go.Sort.mapBlock,Go.Sort.ahead,Array.getElem?_modify,e,Ne.symm e]
  have hsz2:w.heap.size≤W.heap.size:=by rw [eW];simp [Go.Sort.ahead]
  have hK:W.os=w.os∧W.tape=w.tape∧W.output=w.output:=by rw [eW];exact ⟨rfl,rfl,rfl⟩
  rw [←eW]
  clear eW
  have hsl:(sortI l).length=l.length:=by simp [sortI]
  refine ⟨_,β,rfl,Names.le.refl β,fun _ _=>rfl,.tup _ _ rfl (fun j v x h=>by simp at h),⟨fun k o hm=>?_,by simp [keysO],fun k k' h1 h2 hne=>?_,fun k hk b hb=>?_⟩,⟨hK.1,hK.2.1,hK.2.2,hsz2,fun b hb hnb=>?_⟩,fun k hk b hb=>.inr ⟨k,hk,hb⟩⟩
  ·simp only [List.mem_singleton,Prod.mk.injEq] at hm
   obtain ⟨rfl,rfl⟩:=hm
   refine ⟨_,(Go.Sort.putCells (Value.int .i64) 0 (sortI l).toArray cur).toList.take l.length,q1,⟨?_,.inr ⟨g,cap,_,by rw [hsl],hc0,by rw [hw g hg,if_pos rfl],by rw [hsl];exact hn,hcm,?_,by rw [hsl,Nat.mul_one]⟩⟩,fun i hi=>rfl,fun i j hi hj x hx'=>?_⟩
   ·simp [Go.Sort.putCells,hsl];omega
   ·simp [Go.Sort.putCells];omega
   ·have hi':i<(sortI l).length:=hi
    obtain rfl:j=0:=by omega
    simp only [List.getElem?_cons_zero,Option.some.injEq] at hx'
    subst hx'
    have hic:i<cur.size:=by omega
    refine ⟨.int .i64 ((sortI l).getD i 0),?_,.int _ _⟩
    rw [Nat.mul_one,Nat.add_zero,List.getElem?_take_of_lt (by omega),Array.getElem?_toList]
    simp only [Go.Sort.putCells,Array.getElem?_mapIdx,Array.getElem?_eq_getElem hic,Option.map_some,List.size_toArray]
    rw [if_pos ⟨Nat.zero_le _,by omega⟩]
    simp [List.getD_eq_getElem?_getD,hi']
  ·simp [keysO] at h1 h2;omega
  ·have:=hins.lt k (by simpa [keysO] using hk) b hb
   exact ⟨by omega,this.2⟩
  ·rw [hw b hb,if_neg]
   rintro rfl
   exact hnb ⟨900,by simp [keysO],hbk⟩
end Go.Proofs.YtanppabbmffokaaGreat
end
section
namespace Go.Proofs.YtanppabbmffokaaGreat
open Go.Shelf Go.Proofs Go.Bx
def lays220_ren : Go.Shelf.Ren := ⟨fun |20=>74|n=>n,fun |22=>46|3=>3|4=>4|0=>0|n=>n,fun |n=>n⟩
theorem lays220 : Lays2.n20 Tryz.prog lays220_ren := {
  mixed:=by kernel_rfl,f20:=lq Tryz.func74,t0:=Tryz.underlying0,a0:=Tryz.isAgg0,z0:=Tryz.sizeOf0,v0:=Tryz.zeroValue0,t3:=Tryz.underlying3,a3:=Tryz.isAgg3,z3:=Tryz.sizeOf3,v3:=Tryz.zeroValue3,t4:=Tryz.underlying4,a4:=Tryz.isAgg4,z4:=Tryz.sizeOf4,v4:=Tryz.zeroValue4,t22:=Tryz.underlying46,a22:=Tryz.isAgg46,
  z22:=Tryz.sizeOf46,v22:=Tryz.zeroValue46,i3:=by kernel_rfl }
def cmpcI (l:List Int):List Int:=Go.Lib.compact l
theorem cmpcI_len (l:List Int):(cmpcI l).length≤l.length:=by
 simp only [cmpcI,Go.Lib.compact,Go.Lib.compactUpTo,List.length_map]
 have:=List.length_filter_le (Go.Lib.keeps l.toArray) (List.range l.length)
 simpa using this
theorem cells_at {E:Nat→Prop} {w:World} {l:List Int} {xs:List Value} {cur:Array Value} {g cap:Nat} (hheap:w.heap[g]?=some (.cells cur 3 (0,0))) (htake:List.take (l.length*1) cur.toList=xs)
  (hcell:∀ i j,i<l.length→j<1→∀ (x:D),((fun i=>[D.int IntKind.i64 (l.getD i 0)]) i)[j]?=some x→∃ u,xs[i*1+j]?=some u∧RelD E w u x):Go.Sort.Holds (Value.int .i64) w g 0 l.toArray:=by
 intro j hj
 have hj':j<l.length:=by simpa using hj
 obtain ⟨u,g1,g2⟩:=hcell j 0 hj' (by decide) _ rfl
 have hu:u=.int .i64 (l.getD j 0):=by cases g2;rfl
 rw [←htake,Nat.mul_one,Nat.mul_one,Nat.add_zero,List.getElem?_take_of_lt hj',Array.getElem?_toList] at g1
 rw [Nat.zero_add]
 refine ⟨?_,by simp [World.frozen?,hheap]⟩
 simp only [World.cell?,hheap,g1,hu]
 simp [List.getD_eq_getElem?_getD,hj']
theorem sCompactI (l:List Int) (hl:l.length≤1000000):Ctr Tryz.prog 74 [.osl 900] [(900,rowZ l)] (.osl 7) [(7,rowZ (cmpcI l))] [7]:=by
 refine ⟨by kernel_rfl,by simp [keysO],by simp [keysO],fun E0 β w vals hE hsz hv hins hnn=>?_⟩
 obtain ⟨v,rfl⟩:∃ v,vals=#[v]:=by
  match vals,hsz with
  |⟨[v]⟩,_=>exact ⟨v,rfl⟩
 have h1:=hv 0 v (.osl 900) rfl rfl
 obtain ⟨v',xs,q1,⟨hx,hrow⟩,hlen,hcell⟩:=hins.ok 900 (rowZ l) (by simp)
 obtain rfl:v=v':=by
  cases h1 with
  |osl k u h _=>rw [h] at q1;injection q1
 have h7:β 7=none:=hnn 7 (by simp)
 have hcl:=cmpcI_len l
 have mk:∀ (u:Value) (w':World),u.oneCell'=true→(∃ xs,RowOk w' 3 1 u (cmpcI l).length xs∧∀ i j,i<(cmpcI l).length→j<1→∀ (x:D),([D.int IntKind.i64 ((cmpcI l).getD i 0)])[j]?=some x→∃ y,xs[i*1+j]?=some y∧∀ E,RelD E w' y x)→(∀ b,blkOf u=some b→β.blk 900=some b)→w.heap.size≤w'.heap.size→Keeps (ownB β [(900,rowZ l)]) w w' →
   ∃ v β',Ending.returned u=Ending.returned v∧β.le β'∧(∀ k,¬ k∈[7]→β' k=β k)∧RelV β' (Eo E0 β' [(7,rowZ (cmpcI l))]) w' v (.osl 7)∧OwnsOk E0 β' w' [(7,rowZ (cmpcI l))]∧Keeps (ownB β [(900,rowZ l)]) w w'∧∀ k,k∈keysO [(7,rowZ (cmpcI l))]→∀ b,β'.blk k=some b→w.heap.size≤b∨ownB β [(900,rowZ l)] b:=by
  rintro u w' hu1 ⟨xs',hr,hc⟩ hub hsz' hk
  have hb7:∀ k,k∈keysO [(7,rowZ (cmpcI l))]→∀ b,Names.blk (fun k=>if k=7 then some u else β k) k=some b→β.blk 900=some b:=fun k hk b hb=>by
   obtain rfl:k=7:=by simpa [keysO] using hk
   simp only [Names.blk,if_true,Option.bind_some] at hb
   exact hub b hb
  refine ⟨u,fun k=>if k=7 then some u else β k,rfl,fun k v h=>?_,fun k hk=>if_neg (by simpa using hk),.osl _ _ (if_pos rfl) hu1,⟨fun k o hm=>?_,by simp [keysO],fun k k' h1 h2 hne=>?_,fun k hk b hb=>?_⟩,hk,fun k hk b hb=>.inr ⟨900,by simp [keysO],hb7 k hk b hb⟩⟩
  ·simp only
   rw [if_neg]
   ·exact h
   ·rintro rfl;rw [h7] at h;cases h
  ·simp only [List.mem_singleton,Prod.mk.injEq] at hm
   obtain ⟨rfl,rfl⟩:=hm
   exact ⟨u,xs',if_pos rfl,hr,fun i hi=>rfl,fun i j hi hj x hx'=>by obtain ⟨y,g1,g2⟩:=hc i j hi hj x hx';exact ⟨y,g1,g2 _⟩⟩
  ·simp [keysO] at h1 h2;omega
  ·have:=hins.lt 900 (by simp [keysO]) b (hb7 k hk b hb)
   exact ⟨by omega,this.2⟩
 rcases hrow with ⟨⟨a,rfl⟩,h0⟩|⟨g,cap,cur,rfl,hc0,hheap,hn,hcm,hcs,htake⟩
 ·have e0:l=[]:=List.eq_nil_of_length_eq_zero h0
  refine (Any.slices_Compact_int_empty lays220 a 0 w).mono ?_
  rintro e w' ⟨rfl,rfl⟩
  have ec:(cmpcI l).length=0:=by omega
  exact mk _ _ rfl ⟨[],⟨by rw [ec];rfl,.inl ⟨⟨a,rfl⟩,ec⟩⟩,fun i j hi=>by omega⟩ (fun b hb=>by rw [Names.blk,q1];exact hb) (Nat.le_refl _) (Keeps.refl _ _)
 ·have hH:=cells_at (E:=Eo E0 β [(900,rowZ l)]) (cap:=cap) hheap htake hcell
  have hg:g<w.heap.size:=(Array.getElem?_eq_some_iff.1 hheap).1
  refine (Any.slices_Compact_int lays220 g 0 cap l w hH (by omega) hn).mono ?_
  rintro e w' ⟨rfl,q,rfl⟩
  have hbk:β.blk 900=some g:=by simp [Names.blk,q1,blkOf];omega
  obtain ⟨W,eW⟩:∃ W,W=Go.Sort.putRow (Value.int .i64) (Go.Sort.ahead w q) g 0 (Go.Lib.compact l++List.replicate (l.length-(Go.Lib.compact l).length) 0).toArray:=⟨_,rfl⟩
  have hw:∀ b,W.heap[b]?=if b=g then some (.cells (Go.Sort.putCells (Value.int .i64) 0 (cmpcI l++List.replicate (l.length-(cmpcI l).length) 0).toArray cur) 3 (0,0)) else w.heap[b]?:=fun b=>by
   rw [eW]
   by_cases e:b=g
   ·subst e
    simp [Go.Sort.putRow,Go.Sort.mapBlock,Go.Sort.ahead,Array.getElem?_modify,hheap,Go.Sort.onCells,cmpcI]
   ·simp [Go.Sort.putRow,Go.Sort.mapBlock,Go.Sort.ahead,Array.getElem?_modify,e,Ne.symm e]
  have hsz2:w.heap.size=W.heap.size:=by rw [eW];simp [Go.Sort.ahead]
  have hK:W.os=w.os∧W.tape=w.tape∧W.output=w.output:=by rw [eW];exact ⟨rfl,rfl,rfl⟩
  rw [←eW]
  clear eW
  refine mk _ W rfl ⟨(Go.Sort.putCells (Value.int .i64) 0 (cmpcI l++List.replicate (l.length-(cmpcI l).length) 0).toArray cur).toList.take (cmpcI l).length,⟨?_,.inr ⟨g,cap,_,rfl,hc0,by rw [hw g,if_pos rfl],by omega,hcm,?_,by rw [Nat.mul_one]⟩⟩,fun i j hi hj x hx'=>?_⟩ (fun b hb=>by
   rw [hbk,←hb];simp [blkOf];omega) (by omega) ⟨hK.1,hK.2.1,hK.2.2,by omega,fun b hb hnb=>?_⟩
  ·simp [Go.Sort.putCells];omega
  ·simp [Go.Sort.putCells];omega
  ·obtain rfl:j=0:=by omega
   simp only [List.getElem?_cons_zero,Option.some.injEq] at hx'
   subst hx'
   have hic:i<cur.size:=by omega
   refine ⟨.int .i64 ((cmpcI l).getD i 0),?_,fun E=>.int _ _⟩
   rw [Nat.mul_one,Nat.add_zero,List.getElem?_take_of_lt hi,Array.getElem?_toList]
   simp only [Go.Sort.putCells,Array.getElem?_mapIdx,Array.getElem?_eq_getElem hic,Option.map_some,List.size_toArray]
   rw [if_pos ⟨Nat.zero_le _,by simp;omega⟩]
   simp [List.getD_eq_getElem?_getD,List.getElem?_append_left hi,hi]
  ·rw [hw b,if_neg]
   rintro rfl
   exact hnb ⟨900,by simp [keysO],hbk⟩
end Go.Proofs.YtanppabbmffokaaGreat
end
section
namespace Go.Proofs.YtanppabbmffokaaGreat
open Go.Bx
set_option maxRecDepth 10000
def mapP (v:Vs) (s:Sl):Sl:=if s.on=true then { s with yr:=(yearR v s.rk s.cv).1 } else s
def errP (v:Vs):List Sl→Int
 |[]=>0
 |s::r=>if s.on=true∧(yearR v s.rk s.cv).2≠0 then (yearR v s.rk s.cv).2 else errP v r
def ofS (h:Hi) (t:List Vs):List Sl×Int:=
 if rightHi h=false then ([],1) else
  match atV t h.tm.sf with
  |none=>([],7)
  |some v=>if errP v (cutS h)=0 then ((cutS h).map (mapP v),0) else ([],errP v (cutS h))
theorem cutS_ok {h:Hi} (z:SzC h):(cutS h).length≤h.ch.length+1∧∀ s,s∈cutS h→s.cv.length≤1000000:=by
 have hI:=cutK_ok z.t z.c h.ch.length
 refine ⟨?_,endO_cv hI.now hI.cv⟩
 have h1:=endO_len (cutK h h.ch.length).1 (cutK h h.ch.length).2 h.tm.st
 have h2:=hI.len
 simp only [cutS];omega
theorem SzC.hi {h:Hi} (z:SzC h):SzHi h:=⟨by have:=z.t;omega,by have:=z.n;omega,fun c hc=>by have:=z.c c hc;omega⟩
def upK (v:Vs) (l:List Sl) (k:Nat):List Sl:=(l.take k).map (mapP v)++l.drop k
theorem upK_len (v:Vs) (l:List Sl) (k:Nat):(upK v l k).length=l.length:=by simp [upK];omega
theorem upK_get {v:Vs} {l:List Sl} {k i:Nat} (hi:i<l.length):(upK v l k).getD i default=if i<k then mapP v (l.getD i default) else l.getD i default:=by
 simp only [upK,List.getD_eq_getElem?_getD,List.getElem?_append,List.length_map,List.length_take]
 by_cases h:i<k
 ·rw [if_pos (by omega),if_pos h,List.getElem?_map,List.getElem?_take_of_lt h,List.getElem?_eq_getElem hi];rfl
 ·rw [if_neg (by omega),if_neg h,List.getElem?_drop]
  congr 2;omega
set_option maxHeartbeats 2000000 in
theorem sOfS (hh:Hi) (t:List Vs) (z:SzC hh) (ht:t.length≤1000000) (hz:∀ v,v∈t→SzV v):Ctr Tryz.prog 24 [vHi hh,.ag [.d (slV t)]] [] (.tup [.d (slS (ofS hh t).1),.d (.int .i64 (ofS hh t).2)]) [] []:=by
 have cr:=sRightHi hh z.hi
 have ca:=sAtV t hh.tm.sf ht hz
 have cc:=(sCut hh z).sw 7 1000
 obtain ⟨hl1,hl2⟩:=cutS_ok z
 have hn:=z.n
 simp only [vHi,cHi,slC,slH,dCh] at cr
 simp only [vHi,cHi,slC,slH,dCh,rowS,vcd,↓vcp,seval] at cc
 simp only [slV,dVs,vV,cV,slB] at ca
 have nl:∀ {sz:Nat} {f g:Nat→List D},VLe (.d (.sl true 0 0 g)) (.d (.sl false sz 0 f)):=VLe.nil rfl (fun h=>by cases h)
 cases hr:rightHi hh with
 |false =>
  have e:ofS hh t=([],1):=by rw [ofS,if_pos hr]
  rw [hr] at cr
  rw [e]
  refine ctr_pure Tryz.func24 ok24 rfl cc24 cr24 Tryz.ntmps24 (by simp) rfl rfl ?_;intro c hP hfn;simp only [kc24,vHi,cHi,slC,slH,dCh,slV,dVs,slB,vcd,↓vcp,seval]
  repeat' first|((first|refine tp hP (by exact cr) ?_|refine tg hP (fun _=>by exact cr) ?_|refine tv hP rfl (by exact cr) ?_);try simp only [vcd,↓vcp,seval])|refine ⟨fun h=>?_,fun h=>?_⟩|refine aO ?_|refine aT ?_|fail
  refine RetK.pure (by simp only [rs24,rsb,vcd,↓vcp,seval]) ?_
  simp only [rs24,rsb,vcd,↓vcp,seval]
  exact VLe.tups ⟨nl,VLe.refl _,trivial⟩
 |true =>
  rw [hr] at cr
  cases hat:atV t hh.tm.sf with
  |none =>
   have e:ofS hh t=([],7):=by rw [ofS,if_neg (by rw [hr];simp),hat]
   have n0:((7:Int) != 0)=true:=rfl
   rw [hat] at ca
   simp only [atO,atE,Option.getD_none,Option.isSome_none,Bool.false_eq_true,if_false] at ca
   rw [e]
   refine ctr_pure Tryz.func24 ok24 rfl cc24 cr24 Tryz.ntmps24 (by simp) rfl rfl ?_;intro c hP hfn;simp only [kc24,vHi,cHi,slC,slH,dCh,slV,dVs,slB,vcd,↓vcp,seval]
   repeat' first|((first|refine tp hP (by first|exact cr|exact ca) ?_|refine tg hP (fun _=>by first|exact cr|exact ca) ?_|refine tv hP rfl (by first|exact cr|exact ca) ?_);try simp only [n0,vcd,↓vcp,seval])|refine ⟨fun h=>?_,fun h=>?_⟩|refine aO ?_|refine aT ?_|fail
   refine RetK.pure (by simp only [rs24,rsb,vcd,↓vcp,seval]) ?_
   simp only [rs24,rsb,vcd,↓vcp,seval]
   exact VLe.tups ⟨nl,VLe.refl _,trivial⟩
  |some v =>
   have hvz:SzV v:=hz v (by
    have:=List.mem_of_find?_eq_some hat
    simpa using this)
   have e:ofS hh t=if errP v (cutS hh)=0 then ((cutS hh).map (mapP v),0) else ([],errP v (cutS hh)):=by rw [ofS,if_neg (by rw [hr];simp),hat]
   have n0:((0:Int) != 0)=false:=rfl
   rw [hat] at ca
   simp only [atO,atE,Option.getD_some,Option.isSome_some,if_true] at ca
   rw [e]
   generalize cutS hh=L at *
   refine ctr_pure Tryz.func24 ok24 rfl cc24 cr24 Tryz.ntmps24 (by simp) rfl rfl ?_;intro c hP hfn;simp only [kc24,vHi,cHi,slC,slH,dCh,slV,dVs,slB,vcd,↓vcp,seval]
   repeat' first|((first|refine tp hP (by first|exact cr|exact ca) ?_|refine tg hP (fun _=>by first|exact cr|exact ca) ?_|refine tv hP rfl (by first|exact cr|exact ca) ?_);try simp only [n0,vcd,↓vcp,seval])|refine ⟨fun h=>?_,fun h=>?_⟩|refine aO ?_|refine aT ?_|fail
   refine TR.call [] [(1000,rowS L)] (.osl 1000) [1000] (by rw [hP];exact cc) (by repeat' first|exact trivial|(intro _;assumption)|apply And.intro) (fun k o h=>by simp at h) (by simp [keysO]) (by simp) ?_
   simp only [rowS,n0,vcd,↓vcp,seval]
   repeat' first|refine ⟨fun h=>?_,fun h=>?_⟩|refine aO ?_|refine aT ?_|fail
   refine vcC.loop (X:=Nat) (fun k=>⟨[(6,.own 6 0),(8,.osl 1000),(28,.osl 1000),(29,.d (.int .i64 L.length)),(30,.d (.int .i64 k))],[(6,.fix (cV v)),(1000,rowS (upK v L k))],[6,1000]⟩)
    (fun k=>k≤L.length∧errP v L=errP v (L.drop k)) (fun k=>L.length-k) 0 ⟨Nat.zero_le _,rfl⟩ (Wk.of _ hfn rfl (by simp only [enb,vcd,↓vcp,seval]) (by simp only [cV,slB,rowS,enb,vcd,↓vcp,seval];exact OLe.row (upK_len v L 0).symm (fun i hi=>by rw [upK_get hi,if_neg (Nat.not_lt_zero i)]))) ?_
   clear cr ca cc
   rintro k ⟨hk,he⟩
   have hul:=upK_len v L k
   by_cases hlt:k<L.length
   ·obtain ⟨s,hd,hg,hm,-⟩:=drop_at hlt
    have d0:decide ((k:Int)<(L.length:Int))=true:=decide_eq_true (by omega)
    have w1:IntKind.i64.wrap ((k:Int)+1)=((k+1:Nat):Int):=wS (by omega)
    have hgk:(upK v L k).getD k default=s:=by rw [upK_get hlt,if_neg (Nat.lt_irrefl k),hg]
    have b1:(0:Int)≤(k:Int)∧(k:Int)<((upK v L k).length:Int):=by omega
    have cy:=sYear v s.rk s.cv hvz.short (by have:=hl2 s hm;omega)
    simp only [vV,cV,slB,vR,cR,slC] at cy
    rw [hd,errP] at he
    cases hon:s.on with
    |false =>
     have hrow:∀ i,i<(upK v L k).length→dSl ((upK v L k).getD i default)=dSl ((upK v L (k+1)).getD i default):=fun i hi=>by
      rw [hul] at hi
      rw [upK_get hi,upK_get hi]
      by_cases h1:i<k
      ·rw [if_pos h1,if_pos (by omega)]
      ·rw [if_neg h1]
       by_cases h2:i=k
       ·subst h2;rw [if_pos (by omega),hg,mapP,if_neg (by rw [hon];simp)]
       ·rw [if_neg (by omega)]
     have he2:errP v L=errP v (L.drop (k+1)):=by rw [he,if_neg (by rw [hon];simp)]
     simp only [rowS,dSl,cV,slB,slC,d0,hgk,hon,vcd,↓vcp,seval]
     repeat' first|refine ⟨fun h=>?_,fun h=>?_⟩|refine aO ?_|refine aT ?_|fail
     refine lopK.on (k+1) ⟨hlt,he2⟩ (by omega) (Wk.of _ hfn rfl (by simp only [w1,enb,vcd,↓vcp,seval]) ?_)
     simp only [cV,slB,rowS,enb,vcd,↓vcp,seval]
     exact OLe.row (by rw [hul,upK_len]) hrow
    |true =>
     obtain ⟨y,e1,hy⟩:∃ y e,yearR v s.rk s.cv=(y,e):=⟨_,_,rfl⟩
     rw [hy] at cy he
     simp only at cy he
     by_cases h0:e1=0
     ·subst h0
      have he2:errP v L=errP v (L.drop (k+1)):=by rw [he,if_neg (by simp)]
      simp only [rowS,dSl,cV,slB,slC,d0,hgk,hon,vcd,↓vcp,seval]
      repeat' first|((first|refine tp hP (by exact cy) ?_|refine tg hP (fun _=>by exact cy) ?_|refine tv hP rfl (by exact cy) ?_);try simp only [d0,hgk,hon,w1,n0,vcd,↓vcp,seval])|refine ⟨fun h=>?_,fun h=>?_⟩|refine aO ?_|refine aT ?_|fail
      refine lopK.on (k+1) ⟨hlt,he2⟩ (by omega) (Wk.of _ hfn rfl (by simp only [w1,enb,vcd,↓vcp,seval]) ?_)
      simp only [cV,slB,rowS,enb,vcd,↓vcp,seval]
      refine OLe.row (by rw [hul,upK_len]) (fun i hi=>?_)
      rw [hul] at hi
      rw [upK_get (k:=k+1) hi]
      by_cases h2:i=k
      ·subst h2
       rw [if_pos (Nat.lt_succ_self i),hg,mapP,if_pos hon,hy]
       simp [putD,dSl,slC,hon]
      ·rw [if_neg h2,upK_get hi]
       by_cases h1:i<k
       ·rw [if_pos h1,if_pos (by omega)]
       ·rw [if_neg h1,if_neg (by omega)]
     ·have n1:(e1 != 0)=true:=bne_iff_ne.2 h0
      have he2:errP v L=e1:=by rw [he,if_pos ⟨hon,h0⟩]
      rw [he2,if_neg h0]
      simp only [rowS,dSl,cV,slB,slC,d0,hgk,hon,vcd,↓vcp,seval]
      repeat' first|((first|refine tp hP (by exact cy) ?_|refine tg hP (fun _=>by exact cy) ?_|refine tv hP rfl (by exact cy) ?_);try simp only [d0,hgk,hon,w1,n1,vcd,↓vcp,seval])|refine ⟨fun h=>?_,fun h=>?_⟩|refine aO ?_|refine aT ?_|fail
      refine RetK.pure (by simp only [rs24,rsb,vcd,↓vcp,seval]) ?_
      simp only [rs24,rsb,vcd,↓vcp,seval]
      exact VLe.tups ⟨nl,VLe.refl _,trivial⟩
   ·have d0:decide ((k:Int)<(L.length:Int))=false:=decide_eq_false (by omega)
    have hkl:k=L.length:=by omega
    subst hkl
    rw [List.drop_length,errP] at he
    have hu:upK v L L.length=L.map (mapP v):=by simp [upK]
    rw [he,if_pos rfl]
    simp only [rowS,hu,d0,vcd,↓vcp,seval]
    repeat' first|refine ⟨fun h=>?_,fun h=>?_⟩|refine aO ?_|refine aT ?_|fail
    refine RetK.mk _ (Wk.pub 1000 rfl) (by simp only [rs24,rsb,vcd,↓vcp,seval]) ?_ trivial
    simp only [rs24,rsb,vcd,↓vcp,seval]
    exact VLe.refl _
end Go.Proofs.YtanppabbmffokaaGreat
end
section
namespace Go.Proofs.YtanppabbmffokaaGreat
open Go.Bx
set_option maxRecDepth 10000
def zHi:Hi:=⟨0,0,⟨0,0,⟨0,0,0,0⟩,[]⟩,[]⟩
def lastB (h:Hi):Int:=if 0<h.ch.length then (h.ch.getD (h.ch.length-1) default).bk else h.bk
def putC (h:Hi) (c:Ch):Hi×Int:=
 if (rightCh c&&inT h.tm c.dy)=false then (zHi,1) else if c.bk<lastB h then (zHi,4) else if h.ch.length≥2000 then (zHi,2) else ({ h with ch:=h.ch++[c] },0)
theorem vle_nil {sz:Nat} {f g:Nat→List D}:VLe (.d (.sl true 0 0 g)) (.d (.sl false sz 0 f)):=VLe.nil rfl (fun h=>by cases h)
theorem vle_zHi {g1 g2:Nat→List D}:VLe (.ag [.d (.int .i64 0),.d (.int .i64 0),.d (.int .i64 0),.d (.int .i64 0),.d (.int .i64 0),.d (.int .i64 0),.d (.int .i64 0),.d (.int .i64 0),.d (.sl true 0 0 g1),.d (.sl true 0 0 g2)]) (vHi zHi):=
 VLe.ags ⟨VLe.refl _,VLe.refl _,VLe.refl _,VLe.refl _,VLe.refl _,VLe.refl _,VLe.refl _,VLe.refl _,vle_nil,vle_nil,trivial⟩
theorem vle_snocH {l:List Ch} {c:Ch} {F:Nat→List D} (h1:∀ i,i<l.length→F i=dCh (l.getD i default)) (h2:F l.length=dCh c):VLe (.d (.sl false 9 (l.length+1) F)) (.d (slH (l++[c]))):=
 VLe.sl (by simp) (fun _=>rfl) id fun i hi=>by
  by_cases h:i<l.length
  ·rw [h1 i h,List.getD_eq_getElem?_getD,List.getD_eq_getElem?_getD,List.getElem?_append_left h]
  ·have:i=l.length:=by omega
   subst this
   rw [h2];simp [List.getD_eq_getElem?_getD]
set_option maxHeartbeats 2000000 in
theorem sPutC (hh:Hi) (c':Ch) (ht:hh.tm.cv.length≤1000000) (hl:c'.cv.length≤1000000) (hn:hh.ch.length≤1000000):Ctr Tryz.prog 10 [vHi hh,vCh c'] [] (.tup [vHi (putC hh c').1,.d (.int .i64 (putC hh c').2)]) [] []:=by
 have cr:=sRightCh c' (by omega)
 have ci:=sIn hh.tm.sf hh.tm.st c'.dy
 have cc:=pCloneC c'.cv hl
 have co:=sOwnT hh.tm ht
 simp only [vCh,cCh,slC] at cr
 simp only [vS] at ci
 simp only [slC] at cc
 simp only [vTm,cTm,slC] at co
 have hlast:∀ {d:Ch},0<hh.ch.length→lastB hh=(hh.ch.getD (hh.ch.length-1) d).bk:=fun {d} h=>by
  obtain ⟨x,-,hg,-,-⟩:=drop_at (l:=hh.ch) (k:=hh.ch.length-1) (by omega)
  rw [lastB,if_pos h,hg,hg]
 have w1:0<hh.ch.length→IntKind.i64.wrap ((hh.ch.length:Int)-1)=((hh.ch.length-1:Nat):Int):=fun h=>(wI (by omega)).trans (by omega)
 cases hr:rightCh c' with
 |false =>
  have e:putC hh c'=(zHi,1):=by rw [putC,if_pos (by rw [hr];rfl)]
  rw [hr] at cr
  rw [e]
  by_cases h0:0<hh.ch.length
  ·have d0:decide ((hh.ch.length:Int)>0)=true:=decide_eq_true (by omega)
   have w1:=w1 h0
   have b1:(0:Int)≤((hh.ch.length-1:Nat):Int)∧((hh.ch.length-1:Nat):Int)<(hh.ch.length:Int):=by omega
   refine ctr_pure Tryz.func10 ok10 rfl cc10 cr10 Tryz.ntmps10 (by simp) rfl rfl ?_;intro c hP hfn;simp only [kc10,vHi,cHi,vCh,cCh,slC,slH,dCh,d0,w1,vcd,↓vcp,seval]
   repeat' first|((first|refine tp hP (by first|exact cr|exact ci) ?_|refine tg hP (fun _=>by first|exact cr|exact ci) ?_|refine tv hP rfl (by first|exact cr|exact ci) ?_);try simp only [d0,w1,vcd,↓vcp,seval])|refine ⟨fun h=>?_,fun h=>?_⟩|refine aO ?_|refine aT ?_|fail
   all_goals
    refine RetK.pure (by simp only [rs10,rsb,vcd,↓vcp,seval]) ?_
    simp only [rs10,rsb,vcd,↓vcp,seval]
    exact VLe.tups ⟨vle_zHi,VLe.refl _,trivial⟩
  ·have d0:decide ((hh.ch.length:Int)>0)=false:=decide_eq_false (by omega)
   refine ctr_pure Tryz.func10 ok10 rfl cc10 cr10 Tryz.ntmps10 (by simp) rfl rfl ?_;intro c hP hfn;simp only [kc10,vHi,cHi,vCh,cCh,slC,slH,dCh,d0,vcd,↓vcp,seval]
   repeat' first|((first|refine tp hP (by first|exact cr|exact ci) ?_|refine tg hP (fun _=>by first|exact cr|exact ci) ?_|refine tv hP rfl (by first|exact cr|exact ci) ?_);try simp only [d0,vcd,↓vcp,seval])|refine ⟨fun h=>?_,fun h=>?_⟩|refine aO ?_|refine aT ?_|fail
   all_goals
    refine RetK.pure (by simp only [rs10,rsb,vcd,↓vcp,seval]) ?_
    simp only [rs10,rsb,vcd,↓vcp,seval]
    exact VLe.tups ⟨vle_zHi,VLe.refl _,trivial⟩
 |true =>
 rw [hr] at cr
 cases hi:inT hh.tm c'.dy with
 |false =>
  have e:putC hh c'=(zHi,1):=by rw [putC,if_pos (by rw [hr,hi];rfl)]
  simp only [inT] at hi
  rw [hi] at ci
  rw [e]
  by_cases h0:0<hh.ch.length
  ·have d0:decide ((hh.ch.length:Int)>0)=true:=decide_eq_true (by omega)
   have w1:=w1 h0
   have b1:(0:Int)≤((hh.ch.length-1:Nat):Int)∧((hh.ch.length-1:Nat):Int)<(hh.ch.length:Int):=by omega
   refine ctr_pure Tryz.func10 ok10 rfl cc10 cr10 Tryz.ntmps10 (by simp) rfl rfl ?_;intro c hP hfn;simp only [kc10,vHi,cHi,vCh,cCh,slC,slH,dCh,d0,w1,vcd,↓vcp,seval]
   repeat' first|((first|refine tp hP (by first|exact cr|exact ci) ?_|refine tg hP (fun _=>by first|exact cr|exact ci) ?_|refine tv hP rfl (by first|exact cr|exact ci) ?_);try simp only [d0,w1,vcd,↓vcp,seval])|refine ⟨fun h=>?_,fun h=>?_⟩|refine aO ?_|refine aT ?_|fail
   all_goals
    refine RetK.pure (by simp only [rs10,rsb,vcd,↓vcp,seval]) ?_
    simp only [rs10,rsb,vcd,↓vcp,seval]
    exact VLe.tups ⟨vle_zHi,VLe.refl _,trivial⟩
  ·have d0:decide ((hh.ch.length:Int)>0)=false:=decide_eq_false (by omega)
   refine ctr_pure Tryz.func10 ok10 rfl cc10 cr10 Tryz.ntmps10 (by simp) rfl rfl ?_;intro c hP hfn;simp only [kc10,vHi,cHi,vCh,cCh,slC,slH,dCh,d0,vcd,↓vcp,seval]
   repeat' first|((first|refine tp hP (by first|exact cr|exact ci) ?_|refine tg hP (fun _=>by first|exact cr|exact ci) ?_|refine tv hP rfl (by first|exact cr|exact ci) ?_);try simp only [d0,vcd,↓vcp,seval])|refine ⟨fun h=>?_,fun h=>?_⟩|refine aO ?_|refine aT ?_|fail
   all_goals
    refine RetK.pure (by simp only [rs10,rsb,vcd,↓vcp,seval]) ?_
    simp only [rs10,rsb,vcd,↓vcp,seval]
    exact VLe.tups ⟨vle_zHi,VLe.refl _,trivial⟩
 |true =>
 have e0:putC hh c'=if c'.bk<lastB hh then (zHi,4) else if hh.ch.length≥2000 then (zHi,2) else ({ hh with ch:=hh.ch++[c'] },0):=by rw [putC,if_neg (by rw [hr,hi];simp)]
 simp only [inT] at hi
 rw [hi] at ci
 rw [e0]
 clear e0
 by_cases h0:0<hh.ch.length
 ·have d0:decide ((hh.ch.length:Int)>0)=true:=decide_eq_true (by omega)
  have w1:=w1 h0
  have b1:(0:Int)≤((hh.ch.length-1:Nat):Int)∧((hh.ch.length-1:Nat):Int)<(hh.ch.length:Int):=by omega
  rw [hlast h0 (d:=default)]
  by_cases ho:c'.bk<(hh.ch.getD (hh.ch.length-1) default).bk
  ·rw [if_pos ho]
   have dd:decide (c'.bk<(hh.ch.getD (hh.ch.length-1) default).bk)=true:=decide_eq_true ho
   refine ctr_pure Tryz.func10 ok10 rfl cc10 cr10 Tryz.ntmps10 (by simp) rfl rfl ?_;intro c hP hfn;simp only [kc10,vHi,cHi,vCh,cCh,slC,slH,dCh,d0,w1,dd,vcd,↓vcp,seval]
   repeat' first|((first|refine tp hP (by first|exact cr|exact ci) ?_|refine tg hP (fun _=>by first|exact cr|exact ci) ?_|refine tv hP rfl (by first|exact cr|exact ci) ?_);try simp only [d0,w1,dd,vcd,↓vcp,seval])|refine ⟨fun h=>?_,fun h=>?_⟩|refine aO ?_|refine aT ?_|fail
   all_goals
    refine RetK.pure (by simp only [rs10,rsb,vcd,↓vcp,seval]) ?_
    simp only [rs10,rsb,vcd,↓vcp,seval]
    exact VLe.tups ⟨vle_zHi,VLe.refl _,trivial⟩
  ·rw [if_neg ho]
   have dd:decide (c'.bk<(hh.ch.getD (hh.ch.length-1) default).bk)=false:=decide_eq_false ho
   by_cases hb:hh.ch.length≥2000
   ·rw [if_pos hb]
    have de:decide ((hh.ch.length:Int)≥2000)=true:=decide_eq_true (by omega)
    refine ctr_pure Tryz.func10 ok10 rfl cc10 cr10 Tryz.ntmps10 (by simp) rfl rfl ?_;intro c hP hfn;simp only [kc10,vHi,cHi,vCh,cCh,slC,slH,dCh,d0,w1,dd,de,vcd,↓vcp,seval]
    repeat' first|((first|refine tp hP (by first|exact cr|exact ci) ?_|refine tg hP (fun _=>by first|exact cr|exact ci) ?_|refine tv hP rfl (by first|exact cr|exact ci) ?_);try simp only [d0,w1,dd,de,vcd,↓vcp,seval])|refine ⟨fun h=>?_,fun h=>?_⟩|refine aO ?_|refine aT ?_|fail
    all_goals
     refine RetK.pure (by simp only [rs10,rsb,vcd,↓vcp,seval]) ?_
     simp only [rs10,rsb,vcd,↓vcp,seval]
     exact VLe.tups ⟨vle_zHi,VLe.refl _,trivial⟩
   ·rw [if_neg hb]
    have de:decide ((hh.ch.length:Int)≥2000)=false:=decide_eq_false (by omega)
    have hroom:(hh.ch.length+1)*88≤140737488355328∧hh.ch.length+1≤maxLen:=⟨by omega,by simp only [maxLen];omega⟩
    refine ctr_pure Tryz.func10 ok10 rfl cc10 cr10 Tryz.ntmps10 (by simp) rfl rfl ?_;intro c hP hfn;simp only [kc10,vHi,cHi,vCh,cCh,slC,slH,dCh,d0,w1,dd,de,vcd,↓vcp,seval]
    repeat' first|((first|refine tp hP (by first|exact cr|exact ci|exact cc|exact co) ?_|refine tg hP (fun _=>by first|exact cr|exact ci|exact cc|exact co) ?_|refine tv hP rfl (by first|exact cr|exact ci|exact cc|exact co) ?_);try simp only [d0,w1,dd,de,vcd,↓vcp,seval])|refine ⟨fun h=>?_,fun h=>?_⟩|refine aO ?_|refine aT ?_|fail
    refine RetK.mk _ (Wk.pub 61 rfl) (by simp only [rs10,rsb,vcd,↓vcp,seval]) ?_ trivial
    simp only [rs10,rsb,vcd,↓vcp,seval]
    exact VLe.tups ⟨VLe.ags ⟨VLe.refl _,VLe.refl _,VLe.refl _,VLe.refl _,VLe.refl _,VLe.refl _,VLe.refl _,VLe.refl _,VLe.refl _,vle_snocH (fun i hi=>by simp [hi,dCh,slC]) (by simp [dCh,slC]),trivial⟩,VLe.refl _,trivial⟩
 ·have d0:decide ((hh.ch.length:Int)>0)=false:=decide_eq_false (by omega)
  rw [show lastB hh=hh.bk from if_neg h0]
  by_cases ho:c'.bk<hh.bk
  ·rw [if_pos ho]
   have dd:decide (c'.bk<hh.bk)=true:=decide_eq_true ho
   refine ctr_pure Tryz.func10 ok10 rfl cc10 cr10 Tryz.ntmps10 (by simp) rfl rfl ?_;intro c hP hfn;simp only [kc10,vHi,cHi,vCh,cCh,slC,slH,dCh,d0,dd,vcd,↓vcp,seval]
   repeat' first|((first|refine tp hP (by first|exact cr|exact ci) ?_|refine tg hP (fun _=>by first|exact cr|exact ci) ?_|refine tv hP rfl (by first|exact cr|exact ci) ?_);try simp only [d0,dd,vcd,↓vcp,seval])|refine ⟨fun h=>?_,fun h=>?_⟩|refine aO ?_|refine aT ?_|fail
   all_goals
    refine RetK.pure (by simp only [rs10,rsb,vcd,↓vcp,seval]) ?_
    simp only [rs10,rsb,vcd,↓vcp,seval]
    exact VLe.tups ⟨vle_zHi,VLe.refl _,trivial⟩
  ·rw [if_neg ho]
   have dd:decide (c'.bk<hh.bk)=false:=decide_eq_false ho
   by_cases hb:hh.ch.length≥2000
   ·rw [if_pos hb]
    have de:decide ((hh.ch.length:Int)≥2000)=true:=decide_eq_true (by omega)
    refine ctr_pure Tryz.func10 ok10 rfl cc10 cr10 Tryz.ntmps10 (by simp) rfl rfl ?_;intro c hP hfn;simp only [kc10,vHi,cHi,vCh,cCh,slC,slH,dCh,d0,dd,de,vcd,↓vcp,seval]
    repeat' first|((first|refine tp hP (by first|exact cr|exact ci) ?_|refine tg hP (fun _=>by first|exact cr|exact ci) ?_|refine tv hP rfl (by first|exact cr|exact ci) ?_);try simp only [d0,dd,de,vcd,↓vcp,seval])|refine ⟨fun h=>?_,fun h=>?_⟩|refine aO ?_|refine aT ?_|fail
    all_goals
     refine RetK.pure (by simp only [rs10,rsb,vcd,↓vcp,seval]) ?_
     simp only [rs10,rsb,vcd,↓vcp,seval]
     exact VLe.tups ⟨vle_zHi,VLe.refl _,trivial⟩
   ·rw [if_neg hb]
    have de:decide ((hh.ch.length:Int)≥2000)=false:=decide_eq_false (by omega)
    have hroom:(hh.ch.length+1)*88≤140737488355328∧hh.ch.length+1≤maxLen:=⟨by omega,by simp only [maxLen];omega⟩
    refine ctr_pure Tryz.func10 ok10 rfl cc10 cr10 Tryz.ntmps10 (by simp) rfl rfl ?_;intro c hP hfn;simp only [kc10,vHi,cHi,vCh,cCh,slC,slH,dCh,d0,dd,de,vcd,↓vcp,seval]
    repeat' first|((first|refine tp hP (by first|exact cr|exact ci|exact cc|exact co) ?_|refine tg hP (fun _=>by first|exact cr|exact ci|exact cc|exact co) ?_|refine tv hP rfl (by first|exact cr|exact ci|exact cc|exact co) ?_);try simp only [d0,dd,de,vcd,↓vcp,seval])|refine ⟨fun h=>?_,fun h=>?_⟩|refine aO ?_|refine aT ?_|fail
    refine RetK.mk _ (Wk.pub 61 rfl) (by simp only [rs10,rsb,vcd,↓vcp,seval]) ?_ trivial
    simp only [rs10,rsb,vcd,↓vcp,seval]
    exact VLe.tups ⟨VLe.ags ⟨VLe.refl _,VLe.refl _,VLe.refl _,VLe.refl _,VLe.refl _,VLe.refl _,VLe.refl _,VLe.refl _,VLe.refl _,vle_snocH (fun i hi=>by simp [hi,dCh,slC]) (by simp [dCh,slC]),trivial⟩,VLe.refl _,trivial⟩
end Go.Proofs.YtanppabbmffokaaGreat
end
section
namespace Go.Proofs.YtanppabbmffokaaGreat
open Go.Bx
set_option maxRecDepth 10000
def kdC (l:List Ch) (i:Int):Int:=(l.getD i.toNat default).kd
def isT (l:List Ch) (i:Int):Bool:=(kdC l i == 3) || (kdC l i == 4)
def turnL (l:List Ch) (O:List Int):Option Int:=O.reverse.find? (isT l)
def turnS (h:Hi):Option Int:=turnL h.ch (orderC h.ch)
theorem turnL_snoc (l:List Ch) (O:List Int) (x:Int):turnL l (O++[x])=if isT l x=true then some x else turnL l O:=by
 rw [turnL,List.reverse_append,List.reverse_singleton,List.singleton_append,List.find?_cons]
 cases isT l x<;>rfl
theorem turnL_mem {l:List Ch} {O:List Int} {x:Int} (h:turnL l O=some x):x∈O∧isT l x=true:=by
 have h1:=List.mem_of_find?_eq_some h
 have h2:=List.find?_some h
 exact ⟨by simpa using h1,h2⟩
def turnV (o:Option Int):Int:=o.getD 0
set_option maxHeartbeats 1000000 in
theorem sTurn (hh:Hi) (hn:hh.ch.length≤1000000):Ctr Tryz.prog 86 [vHi hh] [] (.tup [.d (.int .i64 (turnV (turnS hh))),.d (.bool (turnS hh).isSome)]) [] []:=by
 have co:=sOrderC hh hn
 simp only [slK] at co
 have hol:=orderC_len hh.ch
 simp only [vHi,cHi,slC,slH,dCh] at co
 obtain ⟨O,hO⟩:∃ O,O=orderC hh.ch:=⟨_,rfl⟩
 have hok:∀ x,x∈O→okH hh.ch x:=by rw [hO];exact orderC_ok hh.ch
 rw [turnS]
 rw [←hO] at co hol ⊢
 clear hO
 refine ctr_pure Tryz.func86 ok86 rfl cc86 cr86 Tryz.ntmps86 (by simp) rfl rfl ?_;intro c hP hfn;simp only [kc86,vHi,cHi,slC,slH,dCh,vcd,↓vcp,seval]
 refine vcC.scope (X:=Nat) (fun k=>⟨[(1,.own 1 0),(4,.d (slK .i64 O)),(5,.d (.int .i64 (k:Nat)))],[(1,.fix (cHi hh))],[1]⟩) (fun k=>k≤O.length∧turnL hh.ch O=turnL hh.ch (O.take k)) (fun k=>k) ?_ ?_
 ·by_cases h0:O.length=0
  ·have d0:(((O.length:Nat):Int) == 0)=true:=by rw [beq_iff_eq];omega
   have e:turnL hh.ch O=none:=by
    rw [List.eq_nil_of_length_eq_zero h0];rfl
   rw [e]
   simp only [slK,d0,vcd,↓vcp,seval]
   repeat' first|((first|refine tp hP (by exact co) ?_|refine tg hP (fun _=>by exact co) ?_|refine tv hP rfl (by exact co) ?_);try simp only [d0,vcd,↓vcp,seval])|refine ⟨fun h=>?_,fun h=>?_⟩|refine aO ?_|refine aT ?_|fail
   exact RetK.pure (by simp only [rs86,rsb,vcd,↓vcp,seval]) (by (simp only [rs86,rsb,enb,vcd,↓vcp,seval])<;>(first|exact VLe.refl _))
  ·have d0:(((O.length:Nat):Int) == 0)=false:=by rw [beq_eq_false_iff_ne];omega
   have w1:IntKind.i64.wrap (((O.length:Nat):Int)-1)=((O.length-1:Nat):Int):=(wI (by omega)).trans (by omega)
   obtain ⟨x,hd,hg,hm,hx⟩:=drop_at (l:=O) (k:=O.length-1) (by omega)
   have hg:=hg 0
   obtain ⟨h1,h2⟩:=hok x hm
   have he2:turnL hh.ch O=if isT hh.ch x=true then some x else turnL hh.ch (O.take (O.length-1)):=by
    conv=>lhs;rw [←List.take_length (l:=O)]
    conv=>lhs;rw [show O.length=(O.length-1)+1 by omega,List.take_add_one,hx]
    exact turnL_snoc _ _ _
   have b1:(0:Int)≤((O.length-1:Nat):Int)∧((O.length-1:Nat):Int)<(O.length:Int):=by omega
   by_cases hT:isT hh.ch x=true
   ·rw [if_pos hT] at he2
    have dk:(((hh.ch.getD x.toNat default).kd != 3)&&((hh.ch.getD x.toNat default).kd != 4))=false:=by
     simp only [isT,kdC,Bool.or_eq_true,beq_iff_eq] at hT
     rw [Bool.and_eq_false_iff,bne_eq_false_iff_eq,bne_eq_false_iff_eq];exact hT
    rw [he2]
    simp only [slK,d0,w1,hg,dk,vcd,↓vcp,seval]
    repeat' first|((first|refine tp hP (by exact co) ?_|refine tg hP (fun _=>by exact co) ?_|refine tv hP rfl (by exact co) ?_);try simp only [d0,w1,hg,dk,vcd,↓vcp,seval])|refine ⟨fun h=>?_,fun h=>?_⟩|refine aO ?_|refine aT ?_|fail
    exact RetK.pure (by simp only [rs86,rsb,vcd,↓vcp,seval]) (by (simp only [rs86,rsb,enb,vcd,↓vcp,seval])<;>(first|exact VLe.refl _))
   ·rw [if_neg hT] at he2
    have dk:(((hh.ch.getD x.toNat default).kd != 3)&&((hh.ch.getD x.toNat default).kd != 4))=true:=by
     simp only [isT,kdC,Bool.or_eq_true,beq_iff_eq] at hT
     rw [Bool.and_eq_true,bne_iff_ne,bne_iff_ne];omega
    simp only [slK,d0,w1,hg,dk,vcd,↓vcp,seval]
    repeat' first|((first|refine tp hP (by exact co) ?_|refine tg hP (fun _=>by exact co) ?_|refine tv hP rfl (by exact co) ?_);try simp only [d0,w1,hg,dk,vcd,↓vcp,seval])|refine ⟨fun h=>?_,fun h=>?_⟩|refine aO ?_|refine aT ?_|fail
    refine ⟨O.length-1,⟨by omega,he2⟩,Wk.of _ hfn rfl (by simp only [slK,w1,enb,vcd,↓vcp,seval]) (by simp only [cHi,slC,slH,dCh,enb,vcd,↓vcp,seval])⟩
 ·rintro k ⟨hk,he⟩
  by_cases h0:k=0
  ·have d0:(((k:Nat):Int) == 0)=true:=by rw [beq_iff_eq];omega
   have e:turnL hh.ch O=none:=by
    rw [he,h0];rfl
   rw [e]
   simp only [cHi,slC,slH,dCh,slK,d0,vcd,↓vcp,seval]
   repeat' first|refine ⟨fun h=>?_,fun h=>?_⟩|refine aO ?_|refine aT ?_|fail
   exact RetK.pure (by simp only [rs86,rsb,vcd,↓vcp,seval]) (by (simp only [rs86,rsb,enb,vcd,↓vcp,seval])<;>(first|exact VLe.refl _))
  ·have d0:(((k:Nat):Int) == 0)=false:=by rw [beq_eq_false_iff_ne];omega
   have w1:IntKind.i64.wrap (((k:Nat):Int)-1)=((k-1:Nat):Int):=(wI (by omega)).trans (by omega)
   obtain ⟨x,hd,hg,hm,hx⟩:=drop_at (l:=O) (k:=k-1) (by omega)
   have hg:=hg 0
   obtain ⟨h1,h2⟩:=hok x hm
   have he2:turnL hh.ch O=if isT hh.ch x=true then some x else turnL hh.ch (O.take (k-1)):=by
    rw [he]
    conv=>lhs;rw [show k=(k-1)+1 by omega,List.take_add_one,hx]
    exact turnL_snoc _ _ _
   have b1:(0:Int)≤((k-1:Nat):Int)∧((k-1:Nat):Int)<(O.length:Int):=by omega
   by_cases hT:isT hh.ch x=true
   ·rw [if_pos hT] at he2
    have dk:(((hh.ch.getD x.toNat default).kd != 3)&&((hh.ch.getD x.toNat default).kd != 4))=false:=by
     simp only [isT,kdC,Bool.or_eq_true,beq_iff_eq] at hT
     rw [Bool.and_eq_false_iff,bne_eq_false_iff_eq,bne_eq_false_iff_eq];exact hT
    rw [he2]
    simp only [cHi,slC,slH,dCh,slK,d0,w1,hg,dk,vcd,↓vcp,seval]
    repeat' first|refine ⟨fun h=>?_,fun h=>?_⟩|refine aO ?_|refine aT ?_|fail
    exact RetK.pure (by simp only [rs86,rsb,vcd,↓vcp,seval]) (by (simp only [rs86,rsb,enb,vcd,↓vcp,seval])<;>(first|exact VLe.refl _))
   ·rw [if_neg hT] at he2
    have dk:(((hh.ch.getD x.toNat default).kd != 3)&&((hh.ch.getD x.toNat default).kd != 4))=true:=by
     simp only [isT,kdC,Bool.or_eq_true,beq_iff_eq] at hT
     rw [Bool.and_eq_true,bne_iff_ne,bne_iff_ne];omega
    simp only [cHi,slC,slH,dCh,slK,d0,w1,hg,dk,vcd,↓vcp,seval]
    repeat' first|refine ⟨fun h=>?_,fun h=>?_⟩|refine aO ?_|refine aT ?_|fail
    refine ⟨k-1,⟨by omega,he2⟩,Wk.of _ hfn rfl (by simp only [slK,w1,enb,vcd,↓vcp,seval]) (by simp only [cHi,slC,slH,dCh,enb,vcd,↓vcp,seval]),by omega⟩
end Go.Proofs.YtanppabbmffokaaGreat
end
