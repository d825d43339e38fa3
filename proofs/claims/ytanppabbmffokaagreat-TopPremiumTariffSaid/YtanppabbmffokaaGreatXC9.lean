import Derived.Test.YtanppabbmffokaaGreatXC8
import Derived.Tactics
import Derived.Tactics2
import Derived.TacticsInMore
import Derived.RegionIn
import Derived.Laws.Pointers
set_option linter.unusedSimpArgs false
set_option linter.unusedVariables false
section
namespace Go.Proofs.YtanppabbmffokaaGreat
open Go.Bx
set_option maxRecDepth 10000
section
variable {X:Type} (lt:X→X→Bool)
def sbl (w:Nat):Nat→List X→List X
 |0,l=>srt lt [] l
 |f+1,l=>if l.length≤w then srt lt [] l else srt lt [] (l.take w)++sbl w f (l.drop w)
def sb (w:Nat) (l:List X):List X:=sbl lt w l.length l
variable {lt}
theorem sbl_fuel {w:Nat} (hw:0<w):∀ (f g:Nat) (l:List X),l.length≤f→l.length≤g→sbl lt w f l=sbl lt w g l
 |0,0,_,_,_=>rfl
 |0,g+1,l,h,_=>by rw [sbl,sbl,if_pos (by omega)]
 |f+1,0,l,_,h=>by rw [sbl,sbl,if_pos (by omega)]
 |f+1,g+1,l,h1,h2=>by
  rw [sbl,sbl]
  split
  ·rfl
  ·rw [sbl_fuel hw f g (l.drop w) (by rw [List.length_drop];omega) (by rw [List.length_drop];omega)]
theorem sb_small {w:Nat} {l:List X} (h:l.length≤w):sb lt w l=srt lt [] l:=by
 unfold sb
 cases hl:l.length with
 |zero=>rfl
 |succ n=>rw [sbl,if_pos h]
theorem sb_step {w:Nat} (hw:0<w) {l:List X} (h:w≤l.length):sb lt w l=srt lt [] (l.take w)++sb lt w (l.drop w):=by
 rcases Nat.lt_or_eq_of_le h with h|h
 ·unfold sb
  obtain ⟨n,hn⟩:∃ n,l.length=n+1:=⟨l.length-1,by omega⟩
  rw [hn,sbl,if_neg (by omega),sbl_fuel hw n (l.drop w).length (l.drop w) (by rw [List.length_drop];omega) (Nat.le_refl _)]
 ·have e1:l.take w=l:=List.take_of_length_le (by omega)
  have e2:l.drop w=[]:=List.drop_eq_nil_of_le (by omega)
  rw [sb_small (by omega),e1,e2,sb_small (by simp)]
  simp [srt]
theorem sb_len {w:Nat} (hw:0<w):∀ (f:Nat) (l:List X),(sbl lt w f l).length=l.length
 |0,l=>by rw [sbl,srt_len];simp
 |f+1,l=>by
  rw [sbl]
  split
  ·rw [srt_len];simp
  ·rw [List.length_append,srt_len,sb_len hw f];simp;omega
end
set_option maxHeartbeats 2000000 in
theorem sStable {g:Nat} {ds:List D} {cf:Int→Int→Int} {ok:Int→Prop} (hc:CmpO g ds cf ok) (L:List Int) (hok:∀ x,x∈L→ok x) (hl:L.length≤1000000) :
  Ctr Tryz.prog 183 [.osl 900,.d (.int .i64 (L.length:Int)),fnO g ds] [(900,rowZ L)] (.tup []) [(900,rowZ (srt (ltO cf) [] L))] []:=by
 refine ctr_own Tryz.func183 ok183 rfl cc183 cr183 Tryz.ntmps183 (by simp) rfl ?_
 intro c hP hfn
 obtain ⟨n,hn⟩:∃ n,n=L.length:=⟨_,rfl⟩
 rw [←hn]
 simp only [kc183,namesL,V.names,ownNames,rowZ,fnO,vcd,↓vcp,seval]
 refine vcC.loop (X:=Nat×List Int) (fun x=>⟨[(0,.osl 900),(1,.d (.int .i64 (n:Int))),(2,fnO g ds),(6,.d (.int .i64 20)),(7,.d (.int .i64 (x.1:Nat))),(8,.d (.int .i64 ((x.1+20:Nat):Int)))],[(900,rowZ x.2)],[900]⟩)
  (fun x=>∃ P Z,x.1=P.length∧P.length+Z.length=n∧x.2=P++Z∧(∀ y,y∈Z→ok y)∧sb (ltO cf) 20 L=P++sb (ltO cf) 20 Z) (fun x=>n-x.1) (0,L) ⟨[],L,rfl,by simp [hn],rfl,hok,rfl⟩ (Wk.of _ hfn rfl (by simp only [fnO,enb,vcd,↓vcp,seval]) (by simp only [rowZ,enb,vcd,↓vcp,seval])) ?_
 rintro ⟨a,r⟩ ⟨P,Z,ha,hn2,hr,hz,hs⟩
 simp only at ha hr
 by_cases hlt:20≤Z.length
 ·have d0:decide (((a+20:Nat):Int)≤(n:Int))=true:=decide_eq_true (by omega)
  have w1:IntKind.i64.wrap (((a+20:Nat):Int)+20)=((a+20+20:Nat):Int):=(wI (by omega)).trans (by omega)
  have cc:=sInsert hc P (Z.take 20) (Z.drop 20) (fun x hx=>hz x (List.mem_of_mem_take hx)) (by rw [List.length_take,List.length_drop];omega)
  rw [List.take_append_drop,←hr,←ha,List.length_take,Nat.min_eq_left hlt] at cc
  simp only [rowZ,fnO] at cc
  simp only [rowZ,fnO,d0,vcd,↓vcp,seval]
  repeat' first|refine ⟨fun h=>?_,fun h=>?_⟩|refine aO ?_|refine aT ?_|fail
  refine TR.call [(900,rowZ r)] [(900,rowZ (P++(srt (ltO cf) [] (Z.take 20)++Z.drop 20)))] _ [] (by rw [hP];exact cc) (by repeat' first|exact trivial|(intro _;assumption)|apply And.intro) (hin1 rfl) (by simp [keysO]) (by simp) ?_
  simp only [w1,vcd,↓vcp,seval]
  repeat' first|refine ⟨fun h=>?_,fun h=>?_⟩|refine aO ?_|refine aT ?_|fail
  refine lopK.on (a+20,P++(srt (ltO cf) [] (Z.take 20)++Z.drop 20)) ⟨P++srt (ltO cf) [] (Z.take 20),Z.drop 20,?_,?_,by simp,fun y hy=>hz y (List.mem_of_mem_drop hy),?_⟩ (by simp only;omega) (Wk.of _ hfn rfl (by simp only [fnO,w1,enb,vcd,↓vcp,seval]) (by simp only [rowZ,enb,vcd,↓vcp,seval]))
  ·rw [List.length_append,srt_len,List.length_take];simp only [List.length_nil];omega
  ·rw [List.length_append,srt_len,List.length_take,List.length_drop];simp only [List.length_nil];omega
  ·rw [hs,sb_step (by decide) hlt];simp
 ·have d0:decide (((a+20:Nat):Int)≤(n:Int))=false:=decide_eq_false (by omega)
  have cc:=sInsert hc P Z [] hz (by simp only [List.length_nil];omega)
  rw [List.append_nil,←hr,←ha,show a+Z.length=n by omega] at cc
  have hs2:P++(srt (ltO cf) [] Z++[])=sb (ltO cf) 20 L:=by rw [hs,sb_small (by omega)];simp
  rw [hs2] at cc
  simp only [rowZ,fnO] at cc
  simp only [rowZ,fnO,d0,vcd,↓vcp,seval]
  repeat' first|refine ⟨fun h=>?_,fun h=>?_⟩|refine aO ?_|refine aT ?_|fail
  refine TR.call [(900,rowZ r)] [(900,rowZ (sb (ltO cf) 20 L))] _ [] (by rw [hP];exact cc) (by repeat' first|exact trivial|(intro _;assumption)|apply And.intro) (hin1 rfl) (by simp [keysO]) (by simp) ?_
  clear cc hs2 d0 hlt hs hz hr hn2 ha
  simp only [vcd,↓vcp,seval]
  refine vcC.loop (X:=Nat) (fun w=>⟨[(0,.osl 900),(1,.d (.int .i64 (n:Int))),(2,fnO g ds),(6,.d (.int .i64 (w:Nat)))],[(900,rowZ (sb (ltO cf) w L))],[900]⟩)
   (fun w=>0<w∧w≤2*n+20) (fun w=>n-w) 20 ⟨by decide,by omega⟩ (Wk.of _ hfn rfl (by simp only [fnO,enb,vcd,↓vcp,seval]) (by simp only [rowZ,enb,vcd,↓vcp,seval])) ?_
  rintro w ⟨hw0,hw1⟩
  by_cases hwn:w<n
  ·have d0:decide ((w:Int)<(n:Int))=true:=decide_eq_true (by omega)
   have w2:IntKind.i64.wrap (2*(w:Int))=((2*w:Nat):Int):=(wI (by omega)).trans (by omega)
   have w3:IntKind.i64.wrap ((w:Int)*2)=((2*w:Nat):Int):=(wI (by omega)).trans (by omega)
   simp only [rowZ,fnO,d0,w2,vcd,↓vcp,seval]
   repeat' first|refine ⟨fun h=>?_,fun h=>?_⟩|refine aO ?_|refine aT ?_|fail
   refine vcC.loop (X:=Nat×List Int) (fun x=>⟨[(0,.osl 900),(1,.d (.int .i64 (n:Int))),(2,fnO g ds),(6,.d (.int .i64 (w:Nat))),(7,.d (.int .i64 (x.1:Nat))),(8,.d (.int .i64 ((x.1+2*w:Nat):Int)))],[(900,rowZ x.2)],[900]⟩)
    (fun x=>∃ P Z,x.1=P.length∧P.length+Z.length=n∧x.2=P++sb (ltO cf) w Z∧(∀ y,y∈Z→ok y)∧sb (ltO cf) (2*w) L=P++sb (ltO cf) (2*w) Z) (fun x=>n-x.1) (0,sb (ltO cf) w L) ⟨[],L,rfl,by simp [hn],rfl,hok,rfl⟩ (Wk.of _ hfn rfl (by simp only [fnO,Nat.zero_add,enb,vcd,↓vcp,seval]) (by simp only [rowZ,enb,vcd,↓vcp,seval])) ?_
   rintro ⟨a,r⟩ ⟨P,Z,ha,hn2,hr,hz,hs⟩
   simp only at ha hr
   have w4:IntKind.i64.wrap ((a:Int)+(w:Int))=((a+w:Nat):Int):=(wI (by omega)).trans (by omega)
   have okT:∀ (M:List Int),(∀ x,x∈M→x∈Z)→∀ x,x∈srt (ltO cf) [] M→ok x:=fun M hM x hx=>hz x (hM x (by simpa using (srt_perm (ltO cf) M []).mem_iff.1 hx))
   have slen:∀ (M:List Int),(srt (ltO cf) [] M).length=M.length:=fun M=>by rw [srt_len];simp
   by_cases hlt:2*w≤Z.length
   ·have d1:decide (((a+2*w:Nat):Int)≤(n:Int))=true:=decide_eq_true (by omega)
    have w5:IntKind.i64.wrap (((a+2*w:Nat):Int)+((2*w:Nat):Int))=((a+2*w+2*w:Nat):Int):=(wI (by omega)).trans (by omega)
    have e1:sb (ltO cf) w Z=srt (ltO cf) [] (Z.take w)++(srt (ltO cf) [] ((Z.drop w).take w)++sb (ltO cf) w (Z.drop (2*w))):=by
     rw [sb_step hw0 (by omega),sb_step hw0 (l:=Z.drop w) (by rw [List.length_drop];omega),List.drop_drop,show w+w=2*w by omega]
    have e2:mrg (ltO cf) (srt (ltO cf) [] (Z.take w)) (srt (ltO cf) [] ((Z.drop w).take w))=srt (ltO cf) [] (Z.take (2*w)):=by
     rw [srt_two hc.w,show 2*w=w+w by omega,List.take_add]
    have l1:(srt (ltO cf) [] (Z.take w)).length=w:=by rw [slen,List.length_take];omega
    have l2:(srt (ltO cf) [] ((Z.drop w).take w)).length=w:=by rw [slen,List.length_take,List.length_drop];omega
    have l3:(sb (ltO cf) w (Z.drop (2*w))).length=Z.length-2*w:=by rw [sb,sb_len hw0,List.length_drop]
    have cc:=sSym hc (w+w) P (srt (ltO cf) [] (Z.take w)) (srt (ltO cf) [] ((Z.drop w).take w)) (sb (ltO cf) w (Z.drop (2*w))) a (a+w) (a+2*w) ha (by omega) (by omega) (by omega) (by omega) (by omega) (srt_sorted hc.w _ [] List.Pairwise.nil) (srt_sorted hc.w _ [] List.Pairwise.nil)
     (fun x hx=>by
      rcases List.mem_append.1 hx with h|h
      ·exact okT _ (fun y hy=>List.mem_of_mem_take hy) x h
      ·exact okT _ (fun y hy=>List.mem_of_mem_drop (List.mem_of_mem_take hy)) x h) (by omega)
    rw [←e1,←hr,e2] at cc
    simp only [rowZ,fnO] at cc
    simp only [rowZ,fnO,d1,w2,w4,vcd,↓vcp,seval]
    repeat' first|refine ⟨fun h=>?_,fun h=>?_⟩|refine aO ?_|refine aT ?_|fail
    refine TR.call [(900,rowZ r)] [(900,rowZ (P++(srt (ltO cf) [] (Z.take (2*w))++sb (ltO cf) w (Z.drop (2*w)))))] _ [] (by rw [hP];exact cc) (by repeat' first|exact trivial|(intro _;assumption)|apply And.intro) (hin1 rfl) (by simp [keysO]) (by simp) ?_
    clear cc
    simp only [w2,w5,vcd,↓vcp,seval]
    repeat' first|refine ⟨fun h=>?_,fun h=>?_⟩|refine aO ?_|refine aT ?_|fail
    refine lopK.on (a+2*w,P++(srt (ltO cf) [] (Z.take (2*w))++sb (ltO cf) w (Z.drop (2*w)))) ⟨P++srt (ltO cf) [] (Z.take (2*w)),Z.drop (2*w),?_,?_,by simp,fun y hy=>hz y (List.mem_of_mem_drop hy),?_⟩ (by simp only;omega) (Wk.of _ hfn rfl (by simp only [fnO,w5,enb,vcd,↓vcp,seval]) (by simp only [rowZ,enb,vcd,↓vcp,seval]))
    ·rw [List.length_append,slen,List.length_take];simp only;omega
    ·rw [List.length_append,slen,List.length_take,List.length_drop];omega
    ·rw [hs,sb_step (by omega) hlt];simp
   ·have d1:decide (((a+2*w:Nat):Int)≤(n:Int))=false:=decide_eq_false (by omega)
    have e3:sb (ltO cf) (2*w) L=P++srt (ltO cf) [] Z:=by rw [hs,sb_small (by omega)]
    by_cases hm:w<Z.length
    ·have d2:decide (((a+w:Nat):Int)<(n:Int))=true:=decide_eq_true (by omega)
     have e1:sb (ltO cf) w Z=srt (ltO cf) [] (Z.take w)++(srt (ltO cf) [] (Z.drop w)++[]):=by
      rw [sb_step hw0 (by omega),sb_small (l:=Z.drop w) (by rw [List.length_drop];omega),List.append_nil]
     have e2:mrg (ltO cf) (srt (ltO cf) [] (Z.take w)) (srt (ltO cf) [] (Z.drop w))=srt (ltO cf) [] Z:=by
      rw [srt_two hc.w,List.take_append_drop]
     have l1:(srt (ltO cf) [] (Z.take w)).length=w:=by rw [slen,List.length_take];omega
     have l2:(srt (ltO cf) [] (Z.drop w)).length=Z.length-w:=by rw [slen,List.length_drop]
     have cc:=sSym hc (w+w) P (srt (ltO cf) [] (Z.take w)) (srt (ltO cf) [] (Z.drop w)) [] a (a+w) n ha (by omega) (by omega) (by omega) (by omega) (by omega) (srt_sorted hc.w _ [] List.Pairwise.nil) (srt_sorted hc.w _ [] List.Pairwise.nil)
      (fun x hx=>by
       rcases List.mem_append.1 hx with h|h
       ·exact okT _ (fun y hy=>List.mem_of_mem_take hy) x h
       ·exact okT _ (fun y hy=>List.mem_of_mem_drop hy) x h) (by simp only [List.length_nil];omega)
     rw [←e1,←hr,e2,List.append_nil,←e3] at cc
     simp only [rowZ,fnO] at cc
     simp only [rowZ,fnO,d1,d2,w3,w4,vcd,↓vcp,seval]
     repeat' first|refine ⟨fun h=>?_,fun h=>?_⟩|refine aO ?_|refine aT ?_|fail
     refine TR.call [(900,rowZ r)] [(900,rowZ (sb (ltO cf) (2*w) L))] _ [] (by rw [hP];exact cc) (by repeat' first|exact trivial|(intro _;assumption)|apply And.intro) (hin1 rfl) (by simp [keysO]) (by simp) ?_
     clear cc
     simp only [w3,vcd,↓vcp,seval]
     repeat' first|refine ⟨fun h=>?_,fun h=>?_⟩|refine aO ?_|refine aT ?_|fail
     exact lopK.on (2*w) ⟨by omega,by omega⟩ (by omega) (Wk.of _ hfn rfl (by simp only [fnO,w3,enb,vcd,↓vcp,seval]) (by simp only [rowZ,enb,vcd,↓vcp,seval]))
    ·have d2:decide (((a+w:Nat):Int)<(n:Int))=false:=decide_eq_false (by omega)
     have e4:r=sb (ltO cf) (2*w) L:=by rw [hr,e3,sb_small (by omega)]
     simp only [rowZ,fnO,d1,d2,w3,w4,vcd,↓vcp,seval]
     repeat' first|refine ⟨fun h=>?_,fun h=>?_⟩|refine aO ?_|refine aT ?_|fail
     exact lopK.on (2*w) ⟨by omega,by omega⟩ (by omega) (Wk.of _ hfn rfl (by simp only [fnO,w3,enb,vcd,↓vcp,seval]) (by simp only [rowZ,e4,enb,vcd,↓vcp,seval]))
  ·have d0:decide ((w:Int)<(n:Int))=false:=decide_eq_false (by omega)
   have e:sb (ltO cf) w L=srt (ltO cf) [] L:=sb_small (by omega)
   simp only [rowZ,fnO,d0,e,vcd,↓vcp,seval]
   repeat' first|refine ⟨fun h=>?_,fun h=>?_⟩|refine aO ?_|refine aT ?_|fail
   refine RetK.mk' _ (Wk.refl _ _) (by simp only [rs183,rsb,vcd,↓vcp,seval]) (by simp only [rs183,rsb,enb,vcd,↓vcp,seval]) ?_
   simp only [enb,vcd,↓vcp,seval]
theorem sSortSt {g:Nat} {ds:List D} {cf:Int→Int→Int} {ok:Int→Prop} (hc:CmpO g ds cf ok) (L:List Int) (hok:∀ x,x∈L→ok x) (hl:L.length≤1000000) :
  Ctr Tryz.prog 153 [.osl 900,fnO g ds] [(900,rowZ L)] (.tup []) [(900,rowZ (srt (ltO cf) [] L))] []:=by
 refine ctr_own Tryz.func153 ok153 rfl cc153 cr153 Tryz.ntmps153 (by simp) rfl ?_
 intro c hP hfn
 have cc:=sStable hc L hok hl
 simp only [rowZ,fnO] at cc
 simp only [kc153,namesL,V.names,ownNames,rowZ,fnO,vcd,↓vcp,seval]
 refine TR.call [(900,rowZ L)] [(900,rowZ (srt (ltO cf) [] L))] _ [] (by rw [hP];exact cc) (by repeat' first|exact trivial|(intro _;assumption)|apply And.intro) (hin1 rfl) (by simp [keysO]) (by simp) ?_
 simp only [vcd,↓vcp,seval]
 repeat' first|refine ⟨fun h=>?_,fun h=>?_⟩|refine aO ?_|refine aT ?_|fail
 refine RetK.mk' _ (Wk.refl _ _) (by simp only [rs153,rsb,vcd,↓vcp,seval]) (by simp only [rs153,rsb,enb,vcd,↓vcp,seval]) ?_
 simp only [rowZ,enb,vcd,↓vcp,seval]
end Go.Proofs.YtanppabbmffokaaGreat
end
section
namespace Go.Proofs.YtanppabbmffokaaGreat
open Go.Bx
def vErr (e:Int):V:=.ifc 40 (.d (.int .i64 e))
theorem dTold0 (k:Nat) (e:Int):CtrD Tryz.prog 53 [k] none [(k,.fix [.d (.int .i64 e)])] [(k,.fix [.d (.int .i64 e)])]:=by
 refine ⟨ok53,by simp [keysO],by simp [keysO],fun E0 β w vals pv hE hsz hv hins _=>?_⟩
 obtain ⟨v,rfl⟩:∃ v,vals=#[v]:=by
  match vals,hsz with
  |⟨[v]⟩,_=>exact ⟨v,rfl⟩
 have h1:=hv 0 v k rfl rfl
 obtain ⟨b,rfl,hb⟩:∃ b,v=.pointer (some ⟨b,0,none⟩)∧β k=some (.pointer (some ⟨b,0,none⟩)):=by
  cases h1 with
  |own _ off b h=>exact ⟨b,rfl,h⟩
 refine (callsDIn_of_wpSIn (R:=fun e u' w'=>e=.returned (.tuple #[])∧u'=.returning∧w'=w) Tryz.func53 rfl trivial fun c₀ cs hu=>?_).mono ?_
 ·simp only [modeP] at hu
  apply wpSIn_seq
  apply wpSIn_region
  simp [wpOpsSIn,go_sem,recoverD,hu,Tryz.ntmps53,Exit.thenS]
  apply wpSIn_seq
  apply wpSIn_region
  simp [wpOpsSIn,go_sem,Tryz.ntmps53,Exit.thenS]
  refine wpSIn_cond (t:=false) (by simp [Act.eval,Array.replicate]) ?_
  simp only [Bool.false_eq_true,if_false]
  refine wpSIn_of_wpIn rfl (wpIn_skip ?_)
  cases c₀
  simp_all [bodyPostS,results,Tryz.results53]
 ·rintro e u' w' ⟨rfl,rfl,rfl⟩
  exact ⟨_,rfl,rfl,hins,Keeps.refl _ _⟩
theorem fix_at {E0:Nat→Prop} {β:Names} {w:World} {own:List (Nat×Own)} {k b:Nat} {x:V} (h:OwnsOk E0 β w own) (hk:(k,Own.fix [x])∈own) (hb:β k=some (.pointer (some ⟨b,0,none⟩))) :
  ∃ v e,w.heap[b]?=some (.cells #[v] e (0,0))∧w.cell? ⟨b,0,none⟩=some v∧w.frozen? ⟨b,0,none⟩=false∧RelV β (Eo E0 β own) w v x:=by
 obtain ⟨b',arr,e,h1,h2,h3,h4⟩:=h.ok k _ hk
 rw [hb] at h1
 injection h1 with h1;injection h1 with h1;injection h1 with h1;injection h1 with h1
 subst h1
 match arr,h3 with
 |⟨[v]⟩,_=>exact ⟨v,e,h2,by simp [World.cell?,h2],by simp [World.frozen?,h2],h4 0 v x rfl rfl⟩
theorem set_heap {w:World} {b:Nat} {u v:Value} {e:TypeId} (h:w.heap[b]?=some (.cells #[u] e (0,0))):(w.setCell ⟨b,0,none⟩ v).heap[b]?=some (.cells #[v] e (0,0)):=by
 simp [World.setCell,Array.getElem?_modify,h]
theorem set_other {w:World} {b i:Nat} {v:Value} (h:b≠i):(w.setCell ⟨b,0,none⟩ v).heap[i]?=w.heap[i]?:=by
 simp [World.setCell,Array.getElem?_modify,h]
theorem set_keeps {w:World} {b:Nat} {v:Value} {L:Nat→Prop} (h:L b):Keeps L w (w.setCell ⟨b,0,none⟩ v):=
 ⟨rfl,rfl,rfl,by simp,fun i _ hl=>set_other (fun e=>hl (e▸h))⟩
theorem own_set {E0:Nat→Prop} {β:Names} {w:World} {own:List (Nat×Own)} {k b:Nat} {x:V} (h:OwnsOk E0 β w own) (hk:(k,Own.fix [x])∈own) (hb:β k=some (.pointer (some ⟨b,0,none⟩))) {v:Value} {y:V}
  (hv:RelV β (Eo E0 β own) w v y):OwnsOk E0 β (w.setCell ⟨b,0,none⟩ v) (setO own k (.fix [y])):=by
 obtain ⟨u,e,h1,-,-,-⟩:=fix_at h hk hb
 have hkk:k∈keysO own:=mem_keys hk
 have hE:Eo E0 β (setO own k (.fix [y]))=Eo E0 β own:=Eo_setO_same hkk
 have hbk:β.blk k=some b:=by simp [Names.blk,hb,blkOf]
 have hl:Lasts (Eo E0 β own) (Eo E0 β (setO own k (.fix [y]))) w (w.setCell ⟨b,0,none⟩ v):=fun i hi hn=>by
  rw [hE]
  refine ⟨hn,set_other fun e=>hn (.inr ⟨k,hkk,by rw [hbk,e]⟩)⟩
 have hks:∀ j,j∈keysO (setO own k (.fix [y]))→j∈keysO own:=fun j hj=>by
  obtain ⟨o,ho⟩:=key_iff.1 hj
  rw [own?_setO] at ho
  split at ho
  ·rename_i e;rw [e];exact hkk
  ·exact mem_keys (own?_mem ho)
 refine ⟨fun j o hj=>?_,nodup_setO h.nodup,fun j j' h1 h2=>h.apart j j' (hks j h1) (hks j' h2),fun j hj i hi=>by
  have:=h.lt j (hks j hj) i hi
  simpa using this⟩
 have ho:=mem_own? (nodup_setO h.nodup) hj
 rw [own?_setO] at ho
 split at ho
 ·rename_i e1
  cases ho
  subst e1
  refine ⟨b,#[v],e,hb,set_heap h1,rfl,fun q u' x' hq hx'=>?_⟩
  have:q=0:=by
   have:=(Array.getElem?_eq_some_iff.1 hq).1;simp at this;exact this
  subst this
  cases hq;cases hx'
  exact hv.lasts hl (fun _ _=>rfl)
 ·rename_i e1
  refine (h.ok j o (own?_mem ho)).lasts hl (Names.le.refl β) (fun i hi=>set_other fun e2=>?_)
  exact h.apart j k (mem_keys (own?_mem ho)) hkk e1 i hi (by rw [hbk,e2])
theorem run_tasT {P:Program} {t xt:TypeId} (hr:concB P t=true) (v:Value) (w:World):(Instr.typeAssert (.iface t v) xt t true).run P w=.ok (.tuple #[v,.bool true]) w:=by
 unfold concB at hr
 split at hr
 ·cases hr
 ·rename_i dd hne hdd
  simp only [Instr.typeAssert,Sem.run_bind,run_underlying hdd,Result.andThen_ok]
  split<;>first
   |(rename_i hm;exact absurd (hm▸hdd) (hne _))
   |simp_all
 ·cases hr
theorem dTold1 (k:Nat) (e n:Int):CtrD Tryz.prog 53 [k] (some (vErr n)) [(k,.fix [.d (.int .i64 e)])] [(k,.fix [.d (.int .i64 n)])]:=by
 refine ⟨ok53,by simp [keysO],by simp [keysO],fun E0 β w vals pv hE hsz hv hins hp=>?_⟩
 obtain ⟨v,rfl⟩:∃ v,vals=#[v]:=by
  match vals,hsz with
  |⟨[v]⟩,_=>exact ⟨v,rfl⟩
 have h1:=hv 0 v k rfl rfl
 obtain ⟨b,rfl,hb⟩:∃ b,v=.pointer (some ⟨b,0,none⟩)∧β k=some (.pointer (some ⟨b,0,none⟩)):=by
  cases h1 with
  |own _ off b h=>exact ⟨b,rfl,h⟩
 obtain rfl:pv=.iface 40 (.int .i64 n):=by
  have:=hp _ rfl
  cases this with
  |ifc t v x h=>cases h with|d _ _ h=>cases h;rfl
 obtain ⟨u,ty,g1,g2,g3,-⟩:=fix_at (x:=.d (.int .i64 e)) hins (by simp) hb
 refine (callsDIn_of_wpSIn (R:=fun e u' w'=>e=.returned (.tuple #[])∧u'=.panicking [{ v:=.iface 40 (.int .i64 n),recovered:=true }]∧w'=w.setCell ⟨b,0,none⟩ (.int .i64 n)) Tryz.func53 rfl trivial fun c₀ cs hu=>?_).mono ?_
 ·simp only [modeP] at hu
  apply wpSIn_seq
  apply wpSIn_region
  simp [wpOpsSIn,go_sem,recoverD,hu,Tryz.ntmps53,Exit.thenS]
  apply wpSIn_seq
  apply wpSIn_region
  simp [wpOpsSIn,go_sem,Tryz.ntmps53,Exit.thenS]
  refine wpSIn_cond (t:=true) (by simp [Act.eval,Array.replicate]) ?_
  simp only [if_true]
  apply wpSIn_region
  have q1:=run_tasT (P:=Tryz.prog) (t:=40) (xt:=20) (by kernel_rfl) (.int .i64 n) w
  simp [wpOpsSIn,go_sem,q1,g2,g3,bodyPostS,results,Tryz.results53]
 ·rintro e' u' w' ⟨rfl,rfl,rfl⟩
  refine ⟨_,rfl,rfl,?_,set_keeps ⟨k,by simp [keysO],by simp [Names.blk,hb,blkOf]⟩⟩
  have:=own_set (x:=.d (.int .i64 e)) hins (by simp) hb (v:=.int .i64 n) (y:=.d (.int .i64 n)) (.d _ _ (.int _ _))
  simpa [setO] using this
end Go.Proofs.YtanppabbmffokaaGreat
end
section
namespace Go.Proofs.YtanppabbmffokaaGreat
open Go.Bx
set_option maxRecDepth 10000
def slB (l:List (Int×Int)):D:=.sl false 2 l.length (fun i=>[.int .i64 (l.getD i default).1,.int .i64 (l.getD i default).2])
def bandsR:Int→List (Int×Int)→Bool
 |_,[]=>true
 |last,b::r=>decide (last<b.1∧b.1≤200∧0≤b.2∧b.2≤100000)&&bandsR b.1 r
def bandsL (l:List (Int×Int)):Bool:=bandsR (-1) l&&decide (l.length≤100)
theorem sBands (l:List (Int×Int)) (hl:l.length≤9223372036854775807):Ctr Tryz.prog 103 [.d (slB l)] [] (.d (.bool (bandsL l))) [] []:=by
 refine ctr_pure Tryz.func103 ok103 rfl cc103 cr103 Tryz.ntmps103 (by simp) rfl rfl ?_;intro c hP hfn;simp only [kc103,slB,vcd,↓vcp,seval]
 refine vcC.loop (X:=Nat×Int) (fun x=>⟨[(0,.d (slB l)),(3,.d (.int .i64 x.2)),(6,.d (slB l)),(7,.d (.int .i64 l.length)),(8,.d (.int .i64 x.1))],[],[]⟩)
  (fun x=>x.1≤l.length∧bandsR (-1) l=bandsR x.2 (l.drop x.1)) (fun x=>l.length-x.1) (0,-1) ⟨Nat.zero_le _,rfl⟩ (Wk.of [] hfn rfl (by (simp only [slB,enb,vcd,↓vcp,seval])<;>(first|exact wS (by omega)|(rw [List.length_append];exact wS (by omega))|assumption)) (by simp only [enb,vcd,↓vcp,seval])) ?_
 rintro ⟨k,last⟩ ⟨hk,he⟩
 simp only at hk he
 simp only [slB,vcd,↓vcp,seval]
 refine ⟨fun h1=>?_,fun h1=>?_⟩
 ·have hlt:k<l.length:=by have:=of_decide_eq_true h1;omega
  obtain ⟨x,hd,hg,-,-⟩:=drop_at hlt
  simp only [hg]
  rw [hd,bandsR] at he
  repeat' first|refine ⟨fun h=>?_,fun h=>?_⟩|refine aO ?_|(refine tA rfl rfl rfl rfl ?_;try simp only [hg,vcd,↓vcp,seval])|refine aT ?_|fail
  ·have hb:¬ (last<x.1∧x.1≤200∧0≤x.2∧x.2≤100000):=by simp only [Bool.or_eq_true,decide_eq_true_eq] at h;omega
   exact RetK.pure (by simp only [rs103,rsb,vcd,↓vcp,seval]) (by (simp only [rs103,rsb,enb,vcd,↓vcp,seval])<;>(first|(rw [bandsL,he];simp [hb])))
  ·have hb:(last<x.1∧x.1≤200∧0≤x.2∧x.2≤100000):=by simp only [Bool.or_eq_false_iff,decide_eq_false_iff_not] at h;omega
   refine lopK.on (k+1,x.1) ⟨hlt,?_⟩ (by simp only;omega) (Wk.of [] hfn rfl (by (simp only [slB,enb,vcd,↓vcp,seval])<;>(first|exact wS (by omega)|(rw [List.length_append];exact wS (by omega))|assumption)) (by simp only [enb,vcd,↓vcp,seval]))
   rw [he];simp [hb]
 ·have hkl:k=l.length:=by have:=of_decide_eq_false h1;omega
  rw [hkl,List.drop_length,bandsR] at he
  exact RetK.pure (by simp only [rs103,rsb,vcd,↓vcp,seval]) (by (simp only [rs103,rsb,enb,vcd,↓vcp,seval])<;>(first|(rw [bandsL,he,Bool.true_and,Bool.eq_iff_iff];simp only [decide_eq_true_eq];omega)))
def bandR:List (Int×Int)→Int→Int
 |[],_=>10000
 |b::r,a=>if b.1<a then bandR r a else b.2
theorem slB_drop {full:Bool} {l:List (Int×Int)} {k m:Nat} (hm:m=(l.drop (k+1)).length):VLe (.d (.sl full 2 m (fun i=>[.int .i64 ((l.drop k).getD (1+i) default).1,.int .i64 ((l.drop k).getD (1+i) default).2]))) (.d (slB (l.drop (k+1)))):=
 VLe.sl hm (fun _=>rfl) (by simp) fun i hi=>by
  have:∀ d,(l.drop k).getD (1+i) d=(l.drop (k+1)).getD i d:=fun d=>by
   rw [List.getD_eq_getElem?_getD,List.getD_eq_getElem?_getD,List.getElem?_drop,List.getElem?_drop,show k+(1+i)=k+1+i by omega]
  rw [this]
theorem sBand (l:List (Int×Int)) (a:Int) (hl:l.length≤9223372036854775807):Ctr Tryz.prog 157 [.d (slB l),.d (.int .i64 a)] [] (.d (.int .i64 (bandR l a))) [] []:=by
 refine ctr_pure Tryz.func157 ok157 rfl cc157 cr157 Tryz.ntmps157 (by simp) rfl rfl ?_;intro c hP hfn;simp only [kc157,vcd,↓vcp,seval]
 have nxt:∀ k,k≤l.length→bandR l a=bandR (l.drop k) a→∀ J:St→Prop,(∀ st',k<l.length→bandR l a=bandR (l.drop (k+1)) a→(Wk c st' ⟨[(0,.d (slB (l.drop (k+1)))),(1,.d (.int .i64 a))],[],[]⟩)→J st')→True:=fun _ _ _ _ _=>trivial
 clear nxt
 refine vcC.scope (X:=Nat) (fun k=>⟨[(0,.d (slB (l.drop k))),(1,.d (.int .i64 a))],[],[]⟩) (fun k=>k≤l.length∧bandR l a=bandR (l.drop k) a) (fun k=>l.length-k) ?_ ?_
 ·simp only [slB,vcd,↓vcp,seval]
  refine ⟨fun h1=>?_,fun h1=>?_⟩
  ·have:l=[]:=by simpa using h1
   subst this
   exact RetK.pure (by simp only [rs157,rsb,vcd,↓vcp,seval]) (by (simp only [rs157,rsb,enb,vcd,↓vcp,seval])<;>(first|rfl))
  have hlt:0<l.length:=by simp at h1;exact List.length_pos_iff.2 h1
  obtain ⟨x,hd,hg,-,-⟩:=drop_at hlt
  rw [List.drop_zero] at hd
  have hb:bandR l a=if x.1<a then bandR (l.drop 1) a else x.2:=by
   have:=congrArg (bandR · a) hd
   simpa [bandR] using this
  simp only [hg,vcd,↓vcp,seval]
  repeat' first|refine ⟨fun h=>?_,fun h=>?_⟩|refine aO ?_|(refine tA rfl rfl rfl rfl ?_;try simp only [vcd,↓vcp,seval])|refine aT ?_|fail
  ·refine ⟨1,⟨hlt,?_⟩,Wk.of [] hfn rfl (by simp only [enb,vcd,↓vcp,seval,Int.reduceToNat];exact slB_drop (l:=l) (k:=0) (by simp)) (by simp only [enb,vcd,↓vcp,seval])⟩
   rw [hb,if_pos (of_decide_eq_true h)]
  ·exact RetK.pure (by simp only [rs157,rsb,vcd,↓vcp,seval]) (by (simp only [rs157,rsb,enb,vcd,↓vcp,seval])<;>(first|(rw [hb,if_neg (of_decide_eq_false h)])))
 ·rintro k ⟨hk,he⟩
  simp only [slB,vcd,↓vcp,seval]
  refine ⟨fun h1=>?_,fun h1=>?_⟩
  ·have:l.drop k=[]:=List.eq_nil_of_length_eq_zero (by simpa using h1)
   rw [this] at he
   exact RetK.pure (by simp only [rs157,rsb,vcd,↓vcp,seval]) (by (simp only [rs157,rsb,enb,vcd,↓vcp,seval])<;>(first|(rw [he];rfl)))
  have hlt:k<l.length:=by simp at h1;omega
  obtain ⟨x,hd,hg,-,-⟩:=drop_at hlt
  have hg0:∀ d,(l.drop k).getD 0 d=x:=fun d=>by rw [hd];rfl
  rw [hd,bandR] at he
  have hlen:(l.drop k).length=l.length-k:=List.length_drop
  simp only [hg0,vcd,↓vcp,seval]
  repeat' first|refine ⟨fun h=>?_,fun h=>?_⟩|refine aO ?_|(refine tA rfl rfl rfl rfl ?_;try simp only [vcd,↓vcp,seval])|refine aT ?_|fail
  ·rw [if_pos (of_decide_eq_true h)] at he
   refine ⟨k+1,⟨hlt,he⟩,Wk.of [] hfn rfl (by simp only [enb,vcd,↓vcp,seval,Int.reduceToNat];exact slB_drop (l:=l) (k:=k) (by simp;omega)) (by simp only [enb,vcd,↓vcp,seval]),by omega⟩
  ·rw [if_neg (of_decide_eq_false h)] at he
   exact RetK.pure (by simp only [rs157,rsb,vcd,↓vcp,seval]) (by (simp only [rs157,rsb,enb,vcd,↓vcp,seval])<;>(first|(rw [he])))
structure Vs where
 fr:Int
 b0:Int
 b1:Int
 b2:Int
 b3:Int
 age:List (Int×Int)
 zn:List Int
 pr:List Int
 mn:Int
instance:Inhabited Vs:=⟨⟨0,0,0,0,0,[],[],[],0⟩⟩
def cV (v:Vs):List V:=[.d (.int .i64 v.fr),.d (.int .i64 v.b0),.d (.int .i64 v.b1),.d (.int .i64 v.b2),.d (.int .i64 v.b3),.d (slB v.age),.d (slK .i64 v.zn),.d (slK .i64 v.pr),.d (.int .i64 v.mn)]
def vV (v:Vs):V:=.ag (cV v)
structure ShortV (v:Vs):Prop where
 age:v.age.length≤9223372036854775807
 zn:v.zn.length≤9223372036854775807
 pr:v.pr.length≤9223372036854775807
def headV (v:Vs):Bool:=decide (1≤v.fr∧v.fr≤292194∧0≤v.mn∧v.mn≤1000000000000000∧v.age.length≤100∧1≤v.zn.length∧v.zn.length≤100∧v.pr.length=8)
def rightV (v:Vs):Bool:=headV v&&([v.b0,v.b1,v.b2,v.b3].all facB&&v.zn.all facB&&v.pr.all facB&&bandsL v.age)
theorem headV_iff {v:Vs}:headV v=true↔1≤v.fr∧v.fr≤292194∧0≤v.mn∧v.mn≤1000000000000000∧v.age.length≤100∧1≤v.zn.length∧v.zn.length≤100∧v.pr.length=8:=by simp only [headV,decide_eq_true_eq]
theorem sFactors4 {full:Bool} {l:List Int} {F:Nat→List D} (hl:l.length=4) (hF:∀ i,i<4→F i=[.int .i64 (l.getD i 0)]):Ctr Tryz.prog 102 [.d (.sl full 1 4 F)] [] (.d (.bool (l.all facB))) [] []:=
 (sFactors l (by omega)).arg ⟨VLe.sl hl.symm (fun _=>rfl) (by simp) hF,trivial⟩
theorem sVersion (v:Vs) (hv:ShortV v):Ctr Tryz.prog 58 [vV v] [] (.d (.bool (rightV v))) [] []:=by
 have hh:=@headV_iff v
 have c1:=sFactors4 (full:=true) (l:=[v.b0,v.b1,v.b2,v.b3]) (F:=litRow 1 [.int .i64 v.b0,.int .i64 v.b1,.int .i64 v.b2,.int .i64 v.b3,slB v.age,slK .i64 v.zn,slK .i64 v.pr,.int .i64 v.mn]) rfl (by intro i hi;rcases i with _|_|_|_|i<;>first|rfl|omega)
 have cb:=sBands v.age hv.age
 have h1:=hv.age
 have h2:=hv.zn
 have h3:=hv.pr
 simp only [slB,slK] at c1 cb
 refine ctr_pure Tryz.func58 ok58 rfl cc58 cr58 Tryz.ntmps58 (by simp) rfl rfl ?_;intro c hP hfn;simp only [kc58,vV,cV,slB,slK,vcd,↓vcp,seval]
 repeat' first|((first|refine tp hP (by first|exact c1|exact sFactors v.zn hv.zn|exact sFactors v.pr hv.pr|exact cb) ?_|refine tg hP (fun _=>by first|exact c1|exact sFactors v.zn hv.zn|exact sFactors v.pr hv.pr|exact cb) ?_|refine tv hP rfl (by first|exact c1|exact sFactors v.zn hv.zn|exact sFactors v.pr hv.pr|exact cb) ?_);try simp only [vcd,↓vcp,seval])|refine ⟨fun h=>?_,fun h=>?_⟩|refine aO ?_|(refine tA rfl rfl rfl rfl ?_;try simp only [vcd,↓vcp,seval])|refine aT ?_|fail
 ·have hb:headV v=false:=by rw [←Bool.not_eq_true,hh];simp only [Bool.or_eq_true,decide_eq_true_eq] at h;omega
  exact RetK.pure (by simp only [rs58,rsb,vcd,↓vcp,seval]) (by (simp only [rs58,rsb,enb,vcd,↓vcp,seval])<;>(first|(rw [rightV,hb];rfl)))
 ·rename_i h0
  have hb:headV v=false:=by rw [←Bool.not_eq_true,hh];simp only [Bool.or_eq_true,bne_iff_ne,ne_eq,decide_eq_true_eq] at h;omega
  exact RetK.pure (by simp only [rs58,rsb,vcd,↓vcp,seval]) (by (simp only [rs58,rsb,enb,vcd,↓vcp,seval])<;>(first|(rw [rightV,hb];rfl)))
 ·rename_i h0
  have hb:headV v=true:=by
   rw [hh]
   simp only [Bool.or_eq_false_iff,bne_eq_false_iff_eq,decide_eq_false_iff_not] at h0 h
   omega
  exact RetK.pure (by simp only [rs58,rsb,vcd,↓vcp,seval]) (by (simp only [rs58,rsb,enb,vcd,↓vcp,seval])<;>(first|(rw [rightV,hb];simp [Bool.and_assoc])))
end Go.Proofs.YtanppabbmffokaaGreat
end
section
namespace Go.Proofs.YtanppabbmffokaaGreat
open Go.Bx
set_option maxRecDepth 10000
def goQ:Int→List Int→Int×Int
 |m,[]=>(m,0)
 |m,f::r=>if (bpR m f).2=0 then goQ (bpR m f).1 r else (0,(bpR m f).2)
theorem bpR_fst (a b:Int):0≤(bpR a b).1∧(bpR a b).1≤4000000000000000000:=by
 unfold bpR ofR
 generalize (if upE (a.toNat*b.toNat / (10000:Int).toNat) (a.toNat*b.toNat % (10000:Int).toNat) (10000:Int).toNat=true then 1 else 0)=u
 generalize a.toNat*b.toNat / (10000:Int).toNat=q
 (repeat' split)<;>first
  |(simp;done)
  |(constructor<;>simp only<;>omega)
def baseR (v:Vs) (k:Int):Int:=if k=0 then v.b0 else if k=1 then v.b1 else if k=2 then v.b2 else v.b3
def facsR (v:Vs) (r:Rk) (c:Cv):List Int:=[baseR v r.kd,bandR v.age r.ag,v.zn.getD r.zo.toNat 0,v.pr.getD c.pe.toNat 0,c.sh]
def mayQ (v:Vs) (r:Rk) (c:Cv):Bool:=rightV v&&rightR r&&rightC c
def oneR (v:Vs) (r:Rk) (c:Cv):Int×Int:=
 if mayQ v r c=false then (0,1) else if (v.zn.length:Int)≤r.zo then (0,7)
 else if (goQ r.va (facsR v r c)).2=0 then (max (goQ r.va (facsR v r c)).1 v.mn,0) else (0,(goQ r.va (facsR v r c)).2)
theorem rightC_weak {c:Cv} (h:rightC c=true):0≤c.pe∧c.pe<8∧1≤c.sh∧c.sh≤10000:=by
 simp only [rightC,Bool.and_eq_true,decide_eq_true_eq] at h
 omega
theorem bandR_le {l:List (Int×Int)} {last:Int} (h:bandsR last l=true) (a:Int):0≤bandR l a∧bandR l a≤100000:=by
 induction l generalizing last with
 |nil=>simp [bandR]
 |cons b r ih =>
  simp only [bandsR,Bool.and_eq_true,decide_eq_true_eq] at h
  simp only [bandR]
  split
  ·exact ih h.2
  ·omega
structure FacsOk (v:Vs) (r:Rk) (c:Cv):Prop where
 head:headV v=true
 kd:0≤r.kd∧r.kd<4
 va:1≤r.va∧r.va≤1000000000000000
 zo:0≤r.zo∧r.zo<100
 pe:0≤c.pe∧c.pe<8
 mn:0≤v.mn∧v.mn≤1000000000000000
 pr:v.pr.length=8
 all:∀ x,x∈facsR v r c→0≤x∧x≤100000
theorem getD_all {l:List Int} (h:l.all facB=true) (n:Nat):0≤l.getD n 0∧l.getD n 0≤100000:=by
 by_cases hn:n<l.length
 ·have:=List.all_eq_true.1 h (l.getD n 0) (by rw [List.getD_eq_getElem?_getD,List.getElem?_eq_getElem hn];exact List.getElem_mem hn)
  exact facB_iff.1 this
 ·rw [List.getD_eq_getElem?_getD,List.getElem?_eq_none (by omega)];simp
theorem facs_ok {v:Vs} {r:Rk} {c:Cv} (h:mayQ v r c=true):FacsOk v r c:=by
 simp only [mayQ,rightV,Bool.and_eq_true,List.all_cons,List.all_nil,Bool.and_true] at h
 obtain ⟨⟨⟨h1,⟨⟨⟨g0,g1,g2,g3⟩,h3⟩,h4⟩,h5⟩,h6⟩,h7⟩:=h
 rw [facB_iff] at g0 g1 g2 g3
 have k1:=headV_iff.1 h1
 have k6:=rightR_iff.1 h6
 have k7:=rightC_weak h7
 simp only [bandsL,Bool.and_eq_true] at h5
 refine ⟨h1,by omega,by omega,by omega,by omega,by omega,by omega,fun x hx=>?_⟩
 simp only [facsR,List.mem_cons,List.not_mem_nil,or_false] at hx
 rcases hx with rfl|rfl|rfl|rfl|rfl
 ·unfold baseR;split;· omega
  split;· omega
  split<;>omega
 ·exact bandR_le h5.1 _
 ·exact getD_all h3 _
 ·exact getD_all h4 _
 ·omega
end Go.Proofs.YtanppabbmffokaaGreat
end
section
namespace Go.Proofs.YtanppabbmffokaaGreat
open Go.Bx
set_option maxRecDepth 10000
theorem base_nth {v:Vs} {k:Int} (h:0≤k∧k<4) (a b c d:V) (x:V):nth [x,.d (.int .i64 v.b0),.d (.int .i64 v.b1),.d (.int .i64 v.b2),.d (.int .i64 v.b3),a,b,c,d] (1+k.toNat)=.d (.int .i64 (baseR v k)):=by
 have:k=0∨k=1∨k=2∨k=3:=by omega
 rcases this with rfl|rfl|rfl|rfl<;>rfl
theorem facs_nth {v:Vs} {r:Rk} {c:Cv} {k:Nat} (h:k<5):nth [.d (.int .i64 (baseR v r.kd)),.d (.int .i64 (bandR v.age r.ag)),.d (.int .i64 (v.zn.getD r.zo.toNat 0)),.d (.int .i64 (v.pr.getD c.pe.toNat 0)),.d (.int .i64 c.sh)] k=.d (.int .i64 ((facsR v r c).getD k 0)):=by
 have:k=0∨k=1∨k=2∨k=3∨k=4:=by omega
 rcases this with rfl|rfl|rfl|rfl|rfl<;>rfl
theorem oneR_bad {v:Vs} {r:Rk} {c:Cv} (h:mayQ v r c=false):oneR v r c=(0,1):=by rw [oneR,if_pos h]
theorem oneR_none {v:Vs} {r:Rk} {c:Cv} (h:mayQ v r c=true) (h2:(v.zn.length:Int)≤r.zo):oneR v r c=(0,7):=by rw [oneR,if_neg (by rw [h];simp),if_pos h2]
theorem oneR_go {v:Vs} {r:Rk} {c:Cv} (h:mayQ v r c=true) (h2:¬ (v.zn.length:Int)≤r.zo) :
  oneR v r c=if (goQ r.va (facsR v r c)).2=0 then (max (goQ r.va (facsR v r c)).1 v.mn,0) else (0,(goQ r.va (facsR v r c)).2):=by rw [oneR,if_neg (by rw [h];simp),if_neg h2]
set_option maxHeartbeats 2000000 in
theorem sOne (v:Vs) (r:Rk) (w:Cv) (hv:ShortV v):Ctr Tryz.prog 114 [vV v,vR r,vC w] [] (.tup [.d (.int .i64 (oneR v r w).1),.d (.int .i64 (oneR v r w).2)]) [] []:=by
 have c1:=sVersion v hv
 have c2:=sRisk r
 have c3:=sCover w
 have c4:=sBand v.age r.ag hv.age
 have hm2:mayQ v r w=(rightV v&&rightR r&&rightC w):=rfl
 have hz2:=hv.zn
 have hp2:=hv.pr
 simp only [vV,cV,vR,cR,vC,cC,slB,slK] at c1 c2 c3 c4
 generalize rightV v=q1 at c1 hm2
 generalize rightR r=q2 at c2 hm2
 generalize rightC w=q3 at c3 hm2
 refine ctr_pure Tryz.func114 ok114 rfl cc114 cr114 Tryz.ntmps114 (by simp) rfl rfl ?_;intro c hP hfn;simp only [kc114,vV,cV,vR,cR,vC,cC,slB,slK,vcd,↓vcp,seval]
 refine vcC.scope0 ?_
 simp only [vcd,↓vcp,seval]
 repeat' first|((first|refine tp hP (by first|exact c1|exact c2|exact c3) ?_|refine tg hP (fun _=>by first|exact c1|exact c2|exact c3) ?_|refine tv hP rfl (by first|exact c1|exact c2|exact c3) ?_);try simp only [vcd,↓vcp,seval])|refine ⟨fun h=>?_,fun h=>?_⟩|refine aO ?_|refine aT ?_|fail
 ·have hm:mayQ v r w=false:=by rw [hm2];cases q1<;>cases q2<;>cases q3<;>simp_all
  (refine RetK.pure (by simp only [rs114,rsb,vcd,↓vcp,seval]) (VLe.tups ?_);simp only [rs114,rsb,vcd,↓vcp,seval])
  rw [oneR_bad hm];exact ⟨VLe.refl _,VLe.refl _,trivial⟩
 ·rename_i h0
  have hm:mayQ v r w=true:=by rw [hm2];cases q1<;>cases q2<;>cases q3<;>simp_all
  (refine RetK.pure (by simp only [rs114,rsb,vcd,↓vcp,seval]) (VLe.tups ?_);simp only [rs114,rsb,vcd,↓vcp,seval])
  rw [oneR_none hm (of_decide_eq_true h)];exact ⟨VLe.refl _,VLe.refl _,trivial⟩
 rename_i h0
 have hm:mayQ v r w=true:=by rw [hm2];cases q1<;>cases q2<;>cases q3<;>simp_all
 clear h0
 have hf:=facs_ok hm
 obtain ⟨f1,f2,f3,f4,f5,f6,f7,f8⟩:=hf
 have hbn:=base_nth (v:=v) f2 (.d (slB v.age)) (.d (slK .i64 v.zn)) (.d (slK .i64 v.pr)) (.d (.int .i64 v.mn)) (.d (.int .i64 v.fr))
 simp only [slB,slK] at hbn
 have hz:¬ (v.zn.length:Int)≤r.zo:=of_decide_eq_false h
 have he:=oneR_go hm hz
 have hpr:(v.pr.length:Int)=8:=by omega
 clear h
 simp only [hbn]
 repeat' first|((first|refine tp hP (by exact c4) ?_|refine tg hP (fun _=>by exact c4) ?_|refine tv hP rfl (by exact c4) ?_);try simp only [hbn,vcd,↓vcp,seval])|refine ⟨fun h=>?_,fun h=>?_⟩|refine aO ?_|refine aT ?_|fail
 refine vcC.loop (X:=Nat×Int) (fun x=>⟨[(3,.own 3 0),(8,.d (.int .i64 x.2)),(9,.d (.int .i64 0)),(59,.ag [.d (.int .i64 (baseR v r.kd)),.d (.int .i64 (bandR v.age r.ag)),.d (.int .i64 (v.zn.getD r.zo.toNat 0)),.d (.int .i64 (v.pr.getD w.pe.toNat 0)),.d (.int .i64 w.sh)]),(60,.d (.int .i64 x.1))],[(3,.fix (cV v))],[3]⟩)
  (fun x=>x.1≤5∧0≤x.2∧x.2≤4000000000000000000∧goQ r.va (facsR v r w)=goQ x.2 ((facsR v r w).drop x.1)) (fun x=>5-x.1) (0,r.va) ⟨by omega,by simp only;omega,by simp only;omega,rfl⟩ (Wk.of [] hfn rfl (by simp only [cV,slB,slK,enb,vcd,↓vcp,seval]) (by simp only [cV,slB,slK,enb,vcd,↓vcp,seval])) ?_
 rintro ⟨k,m⟩ ⟨hk,hm0,hm1,hgo⟩
 simp only at hk hm0 hm1 hgo
 simp only [cV,slB,slK,vcd,↓vcp,seval]
 refine ⟨fun h1=>?_,fun h1=>?_⟩
 ·have hlt:k<5:=by have:=of_decide_eq_true h1;omega
  have hn:=facs_nth (v:=v) (r:=r) (c:=w) hlt
  obtain ⟨x,hd,hg,hmem,-⟩:=drop_at (l:=facsR v r w) (show k<(facsR v r w).length from hlt)
  have hx:=f8 x hmem
  have c5:=sBp m x (by omega) (by omega)
  have hb:=bpR_fst m x
  rw [hd,goQ] at hgo
  simp only [hn,hg,vcd,↓vcp,seval]
  repeat' first|((first|refine tp hP (by exact c5) ?_|refine tg hP (fun _=>by exact c5) ?_|refine tv hP rfl (by exact c5) ?_);try simp only [vcd,↓vcp,seval])|refine ⟨fun h=>?_,fun h=>?_⟩|refine aO ?_|refine aT ?_|fail
  ·have h':¬ (bpR m x).2=0:=by simpa using h
   rw [if_neg h'] at hgo
   rw [hgo,if_neg h'] at he
   (refine RetK.pure (by simp only [rs114,rsb,vcd,↓vcp,seval]) (VLe.tups ?_);simp only [rs114,rsb,vcd,↓vcp,seval])
   rw [he];exact ⟨VLe.refl _,VLe.refl _,trivial⟩
  ·rename_i g;rw [g] at h;cases h
  ·have h':(bpR m x).2=0:=by simpa using h
   rw [if_pos h'] at hgo
   rw [h']
   exact lopK.on (k+1,(bpR m x).1) ⟨hlt,hb.1,hb.2,hgo⟩ (by simp only;omega) (Wk.of [] hfn rfl (by (simp only [cV,slB,slK,enb,vcd,↓vcp,seval])<;>(first|exact wS (by omega)|(rw [List.length_append];exact wS (by omega))|assumption)) (by simp only [cV,slB,slK,enb,vcd,↓vcp,seval]))
 ·have hk5:k=5:=by have:=of_decide_eq_false h1;omega
  rw [hk5,show (facsR v r w).drop 5=[] from rfl,goQ] at hgo
  rw [hgo,if_pos rfl] at he
  repeat' first|refine ⟨fun h=>?_,fun h=>?_⟩|refine aO ?_|refine aT ?_|fail
  all_goals try (exact absurd h (by decide))
  (refine RetK.pure (by simp only [rs114,rsb,vcd,↓vcp,seval]) (VLe.tups ?_);simp only [rs114,rsb,vcd,↓vcp,seval])
  rw [he];exact ⟨VLe.refl _,VLe.refl _,trivial⟩
end Go.Proofs.YtanppabbmffokaaGreat
end
section
namespace Go.Proofs.YtanppabbmffokaaGreat
open Go.Bx
set_option maxRecDepth 10000
def slC (l:List Cv):D:=.sl false 5 l.length (fun i=>[.int .i64 (l.getD i default).pe,.int .i64 (l.getD i default).li,.int .i64 (l.getD i default).ag,.int .i64 (l.getD i default).de,.int .i64 (l.getD i default).sh])
def errQ (v:Vs) (r:Rk):List Cv→Int
 |[]=>0
 |c::l=>if (oneR v r c).2=0 then errQ v r l else (oneR v r c).2
def msQ (v:Vs) (r:Rk) (l:List Cv):List Int:=l.map fun c=>(oneR v r c).1
def yearR (v:Vs) (r:Rk) (l:List Cv):Int×Int:=
 if errQ v r l≠0 then (0,errQ v r l) else if 4000000000000000000<(msQ v r l).sum then (0,5) else ((msQ v r l).sum,0)
theorem goQ_fst {l:List Int}:∀ {m:Int},0≤m→m≤4000000000000000000→0≤(goQ m l).1∧(goQ m l).1≤4000000000000000000:=by
 induction l with
 |nil=>intro m h1 h2;exact ⟨h1,h2⟩
 |cons f r ih =>
  intro m h1 h2
  rw [goQ]
  split
  ·exact ih (bpR_fst m f).1 (bpR_fst m f).2
  ·simp
theorem oneR_fst (v:Vs) (r:Rk) (c:Cv):0≤(oneR v r c).1∧(oneR v r c).1≤4000000000000000000:=by
 unfold oneR
 split
 ·simp
 ·rename_i h
  have hf:=facs_ok (v:=v) (r:=r) (c:=c) (by simpa using h)
  have h1:=hf.va
  have h2:=hf.mn
  split
  ·simp
  ·split
   ·have:=goQ_fst (l:=facsR v r c) (m:=r.va) (by omega) (by omega)
    constructor<;>simp only<;>omega
   ·simp
theorem sumQ_nonneg:∀ {l:List Int},(∀ x,x∈l→0≤x)→0≤l.sum
 |[],_=>by simp
 |a::t,h=>by
  have h1:=h a (by simp)
  have h2:=sumQ_nonneg (l:=t) (fun x hx=>h x (by simp [hx]))
  simp only [List.sum_cons];omega
theorem msQ_pos (v:Vs) (r:Rk) (l:List Cv):∀ x,x∈msQ v r l→0≤x∧x≤4000000000000000000:=by
 intro x hx
 obtain ⟨c,-,rfl⟩:=List.mem_map.1 hx
 exact oneR_fst v r c
theorem msQ_snoc (v:Vs) (r:Rk) {l:List Cv} {k:Nat} {c:Cv} (h:l[k]?=some c):msQ v r (l.take (k+1))=msQ v r (l.take k)++[(oneR v r c).1]:=by
 rw [List.take_add_one,h];simp [msQ]
theorem sAdder:Ctr Tryz.prog 113 [] [] (.fn (.func 155) [] [.own 1 0]) [(1,.fix [.d (.int .i64 0)])] [1]:=by
 refine ctr_own Tryz.func113 ok113 rfl cc113 cr113 Tryz.ntmps113 (by simp) rfl ?_
 intro c hP hfn
 simp only [kc113,namesL,V.names,ownNames,vcd,↓vcp,seval]
 repeat' first|refine ⟨fun h=>?_,fun h=>?_⟩|refine aO ?_|refine aT ?_|fail
 exact RetK.mk _ (Wk.refl _ _) (by simp only [rs113,rsb,vcd,↓vcp,seval]) (by simp only [rs113,rsb,enb,vcd,↓vcp,seval]) (by simp only [enb,vcd,↓vcp,seval])
def addR (s m:Int):Int×Bool:=if 4000000000000000000-s<m then (0,false) else (s+m,true)
theorem sAdd (s m:Int) (h1:0≤s) (h2:s≤4000000000000000000) (h3:0≤m) (h4:m≤4000000000000000000) :
  Ctr Tryz.prog 155 [.d (.int .i64 m),.own 1 0] [(1,.fix [.d (.int .i64 s)])] (.tup [.d (.int .i64 (addR s m).1),.d (.bool (addR s m).2)]) [(1,.fix [.d (.int .i64 (if (addR s m).2=true then s+m else s))])] []:=by
 refine ctr_own Tryz.func155 ok155 rfl cc155 cr155 Tryz.ntmps155 (by simp) rfl ?_
 intro c hP hfn
 have e1:IntKind.i64.wrap (4000000000000000000-s)=4000000000000000000-s:=wI (by omega)
 simp only [kc155,namesL,V.names,ownNames,e1,vcd,↓vcp,seval]
 repeat' first|refine ⟨fun h=>?_,fun h=>?_⟩|refine aO ?_|refine aT ?_|fail
 ·have e:addR s m=(0,false):=by rw [addR,if_pos (by have:=of_decide_eq_true h;omega)]
  rw [e]
  exact RetK.mk _ (Wk.refl _ _) (by simp only [rs155,rsb,vcd,↓vcp,seval]) (VLe.tups (by simp only [rs155,rsb,enb,vcd,↓vcp,seval])) (by simp only [enb,vcd,↓vcp,seval])
 ·have e:addR s m=(s+m,true):=by rw [addR,if_neg (by have:=of_decide_eq_false h;omega)]
  have e2:IntKind.i64.wrap (s+m)=s+m:=by have:=of_decide_eq_false h;exact wI (by omega)
  rw [e]
  simp only [e2]
  exact RetK.mk _ (Wk.refl _ _) (by simp only [rs155,rsb,vcd,↓vcp,seval]) (VLe.tups (by simp only [rs155,rsb,enb,vcd,↓vcp,seval])) (by simp only [enb,vcd,↓vcp,seval])
end Go.Proofs.YtanppabbmffokaaGreat
end
section
namespace Go.Proofs.YtanppabbmffokaaGreat
open Go.Bx
set_option maxRecDepth 10000
structure YrI (v:Vs) (r:Rk) (l:List Cv) (k:Nat) (acc s:Int) (b:Bool):Prop where
 le:k≤l.length
 er:errQ v r l=errQ v r (l.drop k)
 fit:b=true→acc=(msQ v r (l.take k)).sum∧s=acc∧acc≤4000000000000000000
 not:b=false→4000000000000000000<(msQ v r (l.take k)).sum
set_option maxHeartbeats 2000000 in
theorem sYear (v:Vs) (r:Rk) (l:List Cv) (hv:ShortV v) (hl:l.length≤9223372036854775807):Ctr Tryz.prog 67 [vV v,vR r,.d (slC l)] [] (.tup [.d (.int .i64 (yearR v r l).1),.d (.int .i64 (yearR v r l).2)]) [] []:=by
 have hy:yearR v r l=if errQ v r l≠0 then (0,errQ v r l) else if 4000000000000000000<(msQ v r l).sum then (0,5) else ((msQ v r l).sum,0):=rfl
 refine ctr_pure Tryz.func67 ok67 rfl cc67 cr67 Tryz.ntmps67 (by simp) rfl rfl ?_;intro c hP hfn;simp only [kc67,vV,cV,vR,cR,slC,slB,slK,vcd,↓vcp,seval]
 refine TR.call [] [(1,.fix [.d (.int .i64 0)])] _ [1] (by rw [hP];exact sAdder) trivial (by simp) (by simp [keysO]) (by simp) ?_
 simp only [vcd,↓vcp,seval]
 refine vcC.loop (X:=Nat×Int×Int×Bool) (fun x=>⟨[(3,.own 3 0),(4,.own 4 0),(8,.fn (.func 155) [] [.own 1 0]),(9,.d (.int .i64 x.2.2.1)),(10,.d (.bool x.2.2.2)),(16,.d (slC l)),(17,.d (.int .i64 l.length)),(18,.d (.int .i64 x.1))],
   [(1,.fix [.d (.int .i64 x.2.1)]),(3,.fix (cV v)),(4,.fix (cR r))],[1,3,4]⟩)
  (fun x=>YrI v r l x.1 x.2.1 x.2.2.1 x.2.2.2) (fun x=>l.length-x.1) (0,0,0,true) ⟨Nat.zero_le _,rfl,fun _=>(by simp [msQ]),fun h=>(by cases h)⟩
  (Wk.of [] hfn rfl (by simp only [slC,enb,vcd,↓vcp,seval]) (by simp only [cV,cR,slB,slK,enb,vcd,↓vcp,seval])) ?_
 rintro ⟨k,acc,s,b⟩ ⟨hk,he,hft,hfn2⟩
 simp only at hk he hft hfn2
 simp only [cV,cR,slB,slK,slC,vcd,↓vcp,seval]
 refine ⟨fun h1=>?_,fun h1=>?_⟩
 ·have hlt:k<l.length:=by have:=of_decide_eq_true h1;omega
  obtain ⟨x,hd,hg,hmem,hat⟩:=drop_at hlt
  have c1:=sOne v r x hv
  simp only [vV,cV,vR,cR,vC,cC,slB,slK] at c1
  rw [hd,errQ] at he
  have hsn:=msQ_snoc v r hat
  have hpos:=oneR_fst v r x
  simp only [hg,vcd,↓vcp,seval]
  repeat' first|((first|refine tp hP (by exact c1) ?_|refine tg hP (fun _=>by exact c1) ?_|refine tv hP rfl (by exact c1) ?_);try simp only [vcd,↓vcp,seval])|refine ⟨fun h=>?_,fun h=>?_⟩|refine aO ?_|refine aT ?_|fail
  ·have h':¬ (oneR v r x).2=0:=by simpa using h
   rw [if_neg h'] at he
   rw [if_pos (by rw [he];exact h'),he] at hy
   (refine RetK.pure (by simp only [rs67,rsb,vcd,↓vcp,seval]) (VLe.tups ?_);simp only [rs67,rsb,vcd,↓vcp,seval])
   rw [hy];exact ⟨VLe.refl _,VLe.refl _,trivial⟩
  ·rename_i h2
   have h':(oneR v r x).2=0:=by simpa using h2
   rw [if_pos h'] at he
   obtain ⟨g1,g2,g3⟩:=hft h
   have g0:0≤acc:=by rw [g1];exact sumQ_nonneg (fun y hy=>(msQ_pos v r _ y hy).1)
   have c2:=sAdd acc (oneR v r x).1 g0 g3 hpos.1 hpos.2
   refine TR.cv1 hP rfl c2 trivial (by repeat' first|exact trivial|(intro _;assumption)|apply And.intro) rfl ?_
   simp only [vcd,↓vcp,seval]
   have hs:(msQ v r (l.take (k+1))).sum=acc+(oneR v r x).1:=by rw [hsn,List.sum_append,g1];simp
   by_cases hov:4000000000000000000-acc<(oneR v r x).1
   ·have e:addR acc (oneR v r x).1=(0,false):=by rw [addR,if_pos hov]
    rw [e]
    exact lopK.on (k+1,acc,0,false) ⟨hlt,he,fun h=>(by cases h),fun _=>by simp only;omega⟩ (by simp only;omega) (Wk.of [] hfn rfl (by (simp only [slC,cV,cR,slB,slK,enb,vcd,↓vcp,seval])<;>(first|exact wS (by omega)|(rw [List.length_append];exact wS (by omega))|assumption)) (by simp only [cV,cR,slB,slK,enb,vcd,↓vcp,seval]))
   ·have e:addR acc (oneR v r x).1=(acc+(oneR v r x).1,true):=by rw [addR,if_neg hov]
    rw [e]
    exact lopK.on (k+1,acc+(oneR v r x).1,acc+(oneR v r x).1,true) ⟨hlt,he,fun _=>⟨by simp only;omega,rfl,by simp only;omega⟩,fun h=>by cases h⟩ (by simp only;omega) (Wk.of [] hfn rfl (by (simp only [slC,cV,cR,slB,slK,enb,vcd,↓vcp,seval])<;>(first|exact wS (by omega)|(rw [List.length_append];exact wS (by omega))|assumption)) (by simp only [cV,cR,slB,slK,enb,vcd,↓vcp,seval]))
  ·rename_i h2
   have h':(oneR v r x).2=0:=by simpa using h2
   rw [if_pos h'] at he
   have hs:=hfn2 h
   have h3:(msQ v r (l.take (k+1))).sum=(msQ v r (l.take k)).sum+(oneR v r x).1:=by rw [hsn,List.sum_append];simp
   exact lopK.on (k+1,acc,s,b) ⟨hlt,he,fun g=>(by rw [h] at g;cases g),fun _=>by simp only;omega⟩ (by simp only;omega) (Wk.of [] hfn rfl (by (simp only [slC,cV,cR,slB,slK,enb,vcd,↓vcp,seval])<;>(first|exact wS (by omega)|(rw [List.length_append];exact wS (by omega))|assumption)) (by simp only [cV,cR,slB,slK,enb,vcd,↓vcp,seval]))
 ·have hkl:k=l.length:=by have:=of_decide_eq_false h1;omega
  rw [hkl,List.drop_length,errQ] at he
  rw [hkl,List.take_length] at hft hfn2
  rw [he,if_neg (by simp)] at hy
  repeat' first|refine ⟨fun h=>?_,fun h=>?_⟩|refine aO ?_|refine aT ?_|fail
  ·have hb:b=false:=by simpa using h
   rw [if_pos (hfn2 hb)] at hy
   (refine RetK.pure (by simp only [rs67,rsb,vcd,↓vcp,seval]) (VLe.tups ?_);simp only [rs67,rsb,vcd,↓vcp,seval])
   rw [hy];exact ⟨VLe.refl _,VLe.refl _,trivial⟩
  ·have hb:b=true:=by simpa using h
   obtain ⟨g1,g2,g3⟩:=hft hb
   rw [if_neg (by omega),←g1] at hy
   (refine RetK.pure (by simp only [rs67,rsb,vcd,↓vcp,seval]) (VLe.tups ?_);simp only [rs67,rsb,vcd,↓vcp,seval])
   rw [hy,g2];exact ⟨VLe.refl _,VLe.refl _,trivial⟩
end Go.Proofs.YtanppabbmffokaaGreat
end
section
namespace Go.Proofs.YtanppabbmffokaaGreat
open Go.Bx
set_option maxRecDepth 10000
def upD (_ _ _:Nat):Bool:=false
theorem sDown1 (q r c:Nat) (_:r<c) (_:c<9223372036854775808):Ctr Tryz.prog 199 [.d (.int .u64 q),.d (.int .u64 r),.d (.int .u64 c)] [] (.d (.bool (upD q r c))) [] []:=by
 refine ctr_pure Tryz.func199 ok199 rfl cc199 cr199 Tryz.ntmps199 (by simp) rfl rfl ?_;intro c hP hfn;simp only [kc199,vcd,↓vcp,seval]
 exact RetK.pure (by simp only [rs199,rsb,vcd,↓vcp,seval]) (by simp only [rs199,rsb,enb,vcd,↓vcp,seval,upD])
theorem sDown0:Ctr Tryz.prog 175 [] [] (.ag [.fn (.func 199) [] []]) [] []:=by
 refine ctr_pure Tryz.func175 ok175 rfl cc175 cr175 Tryz.ntmps175 (by simp) rfl rfl ?_;intro c hP hfn;simp only [kc175,vcd,↓vcp,seval]
 exact RetK.pure (by simp only [rs175,rsb,vcd,↓vcp,seval]) (by simp only [rs175,rsb,enb,vcd,↓vcp,seval])
def downR (a b k:Int):Int×Int:=ofR upD a b k
theorem sDown (a b k:Int) (ha:a≤9223372036854775807) (hb:b≤9223372036854775807) (hc:k≤9223372036854775807) :
  Ctr Tryz.prog 137 [.d (.int .i64 a),.d (.int .i64 b),.d (.int .i64 k)] [] (.tup [.d (.int .i64 (downR a b k).1),.d (.int .i64 (downR a b k).2)]) [] []:=by
 refine ctr_pure Tryz.func137 ok137 rfl cc137 cr137 Tryz.ntmps137 (by simp) rfl rfl ?_;intro c hP hfn;simp only [kc137,vcd,↓vcp,seval]
 repeat' first|((first|refine tp hP (by first|exact sDown0|exact sOf 199 upD sDown1 a b k ha hb hc) ?_|refine tg hP (fun _=>by first|exact sDown0|exact sOf 199 upD sDown1 a b k ha hb hc) ?_|refine tv hP rfl (by first|exact sDown0|exact sOf 199 upD sDown1 a b k ha hb hc) ?_);try simp only [vcd,↓vcp,seval])|refine ⟨fun h=>?_,fun h=>?_⟩|refine aO ?_|refine aT ?_|fail
 (refine RetK.pure (by simp only [rs137,rsb,vcd,↓vcp,seval]) (VLe.tups ?_);simp only [rs137,rsb,vcd,↓vcp,seval])
 exact ⟨VLe.refl _,VLe.refl _,trivial⟩
def psums:Int→List Int→List Int
 |_,[]=>[]
 |n,p::r=>(n+p)::psums (n+p) r
def deal2 (m S:Int):Int→List Int→List Int
 |_,[]=>[]
 |d,s::r=>IntKind.i64.wrap ((downR m s S).1-d)::deal2 m S (downR m s S).1 r
def splitR (m:Int) (parts:List Int):List Int×Int:=
 if m<0∨2000<parts.length then ([],1)
 else if parts.any (fun p=>decide (p<0))=true then ([],1)
 else if 4000000000000000000<parts.sum∨4000000000000000000<m then ([],5)
 else if parts.sum=0 then ([],6)
 else (deal2 m parts.sum 0 (psums 0 parts),0)
theorem psums_len:∀ (l:List Int) (n:Int),(psums n l).length=l.length
 |[],_=>rfl
 |p::r,n=>by simp [psums,psums_len r]
theorem psums_snoc:∀ (l:List Int) (n x:Int),psums n (l++[x])=psums n l++[n+l.sum+x]
 |[],n,x=>by simp [psums]
 |p::r,n,x=>by simp [psums,psums_snoc r];omega
theorem psums_last {l:List Int} {n:Int} (h:0<l.length):(psums n l).getD (l.length-1) 0=n+l.sum:=by
 obtain ⟨r,x,rfl⟩:∃ r x,l=r++[x]:=by
  cases l with
  |nil=>simp at h
  |cons p r=>exact ⟨(p::r).dropLast,(p::r).getLast (by simp),(List.dropLast_concat_getLast (by simp)).symm⟩
 rw [psums_snoc]
 simp [psums_len]
 omega
def runR (s p:Int):(Int×Int)×Int:=
 if p<0 then ((0,1),s)
 else if IntKind.i64.wrap (s+p)>4000000000000000000∨IntKind.i64.wrap (s+p)<0 then ((0,5),4000000000000000001)
 else ((IntKind.i64.wrap (s+p),0),IntKind.i64.wrap (s+p))
theorem sRun1 (s p:Int):Ctr Tryz.prog 174 [.d (.int .i64 p),.own 1 0] [(1,.fix [.d (.int .i64 s)])] (.tup [.d (.int .i64 (runR s p).1.1),.d (.int .i64 (runR s p).1.2)]) [(1,.fix [.d (.int .i64 (runR s p).2)])] []:=by
 refine ctr_own Tryz.func174 ok174 rfl cc174 cr174 Tryz.ntmps174 (by simp) rfl ?_
 intro c hP hfn
 simp only [kc174,namesL,V.names,ownNames,vcd,↓vcp,seval]
 refine ⟨fun h=>?_,fun h=>⟨fun h2=>?_,fun h2=>?_⟩⟩
 ·have e:runR s p=((0,1),s):=by rw [runR,if_pos (of_decide_eq_true h)]
  rw [e]
  exact RetK.mk _ (Wk.refl _ _) (by simp only [rs174,rsb,vcd,↓vcp,seval]) (by simp only [rs174,rsb,enb,vcd,↓vcp,seval]) (by simp only [enb,vcd,↓vcp,seval])
 ·have h2':IntKind.i64.wrap (s+p)>4000000000000000000∨IntKind.i64.wrap (s+p)<0:=by simpa using h2
  have e:runR s p=((0,5),4000000000000000001):=by rw [runR,if_neg (of_decide_eq_false h),if_pos h2']
  rw [e]
  exact RetK.mk _ (Wk.refl _ _) (by simp only [rs174,rsb,vcd,↓vcp,seval]) (by simp only [rs174,rsb,enb,vcd,↓vcp,seval]) (by simp only [enb,vcd,↓vcp,seval])
 ·have h2':¬ (IntKind.i64.wrap (s+p)>4000000000000000000∨IntKind.i64.wrap (s+p)<0):=by simpa using h2
  have e:runR s p=((IntKind.i64.wrap (s+p),0),IntKind.i64.wrap (s+p)):=by rw [runR,if_neg (of_decide_eq_false h),if_neg h2']
  rw [e]
  exact RetK.mk _ (Wk.refl _ _) (by simp only [rs174,rsb,vcd,↓vcp,seval]) (by simp only [rs174,rsb,enb,vcd,↓vcp,seval]) (by simp only [enb,vcd,↓vcp,seval])
theorem sRun:Ctr Tryz.prog 136 [] [] (.fn (.func 174) [] [.own 1 0]) [(1,.fix [.d (.int .i64 0)])] [1]:=by
 refine ctr_own Tryz.func136 ok136 rfl cc136 cr136 Tryz.ntmps136 (by simp) rfl ?_
 intro c hP hfn
 simp only [kc136,namesL,V.names,ownNames,vcd,↓vcp,seval]
 exact RetK.mk _ (Wk.refl _ _) (by simp only [rs136,rsb,vcd,↓vcp,seval]) (by simp only [rs136,rsb,enb,vcd,↓vcp,seval]) (by simp only [enb,vcd,↓vcp,seval])
structure SpI (m:Int) (l:List Int) (k:Nat) (dn:List Int) (s:Int) (over:Bool):Prop where
 len:dn.length=k
 le:k≤l.length
 nn:∀ x,x∈l.take k→0≤x
 st:((l.take k).sum≤4000000000000000000∧s=(l.take k).sum∧dn=psums 0 (l.take k)∧over=decide (m>4000000000000000000))∨(4000000000000000000<(l.take k).sum∧s=4000000000000000001∧over=true)
theorem sum_nonneg:∀ {l:List Int},(∀ x,x∈l→0≤x)→0≤l.sum
 |[],_=>by simp
 |p::r,h=>by
  have:=h p (by simp)
  have ih:=sum_nonneg (l:=r) (fun x hx=>h x (by simp [hx]))
  simp only [List.sum_cons];omega
theorem spI_step {m:Int} {l:List Int} {k:Nat} {dn:List Int} {s:Int} {over:Bool} {x:Int} (h:SpI m l k dn s over) (hlt:k<l.length) (hat:l[k]?=some x) (hx:x≤9223372036854775807) :
  ((runR s x).1.2=1∧x<0)∨(0≤x∧(runR s x).1.2≠1∧SpI m l (k+1) (dn++[(runR s x).1.1]) (runR s x).2 (over || ((runR s x).1.2 == 5))):=by
 have ht:l.take (k+1)=l.take k++[x]:=by rw [List.take_add_one,hat];rfl
 by_cases hneg:x<0
 ·left;rw [runR,if_pos hneg];exact ⟨rfl,hneg⟩
 right
 have hs0:=sum_nonneg h.nn
 have hnn:∀ y,y∈l.take (k+1)→0≤y:=by
  intro y hy
  rw [ht] at hy
  rcases List.mem_append.1 hy with hy|hy
  ·exact h.nn y hy
  ·simp at hy;omega
 have hsum:(l.take (k+1)).sum=(l.take k).sum+x:=by rw [ht];simp
 rcases h.st with ⟨h1,h2,h3,h4⟩|⟨h1,h2,h3⟩
 ·by_cases hov:4000000000000000000<(l.take k).sum+x
  ·have hw:IntKind.i64.wrap (s+x)>4000000000000000000∨IntKind.i64.wrap (s+x)<0:=by rw [IntKind.wrap_i64];omega
   rw [runR,if_neg hneg,if_pos hw]
   exact ⟨by omega,by simp,⟨by simp [h.len],hlt,hnn,.inr ⟨by omega,rfl,by simp⟩⟩⟩
  ·have hw:IntKind.i64.wrap (s+x)=s+x:=wI (by omega)
   rw [runR,if_neg hneg,hw,if_neg (by omega)]
   refine ⟨by omega,by simp,⟨by simp [h.len],hlt,hnn,.inl ⟨by omega,by simp only;omega,?_,by simp [h4]⟩⟩⟩
   rw [ht,psums_snoc,h3,h2];simp
 ·have hw:IntKind.i64.wrap (s+x)>4000000000000000000∨IntKind.i64.wrap (s+x)<0:=by rw [IntKind.wrap_i64];omega
  rw [runR,if_neg hneg,if_pos hw]
  exact ⟨by omega,by simp,⟨by simp [h.len],hlt,hnn,.inr ⟨by omega,rfl,by simp⟩⟩⟩
theorem any_neg {l:List Int} {x:Int} (hx:x∈l) (h:x<0):l.any (fun p=>decide (p<0))=true:=by
 rw [List.any_eq_true];exact ⟨x,hx,by simpa using h⟩
theorem any_nonneg {l:List Int} (h:∀ x,x∈l→0≤x):¬ (l.any (fun p=>decide (p<0))=true):=by
 rw [List.any_eq_true];rintro ⟨x,hx,h2⟩;have:=h x hx;simp at h2;omega
theorem psums_le {l:List Int} (h:∀ x,x∈l→0≤x):∀ (n:Int),0≤n→∀ s,s∈psums n l→0≤s∧s≤n+l.sum:=by
 induction l with
 |nil=>intro n _ s hs;simp [psums] at hs
 |cons p r ih =>
  intro n hn s hs
  have hp:=h p (by simp)
  have hr:=sum_nonneg (l:=r) (fun x hx=>h x (by simp [hx]))
  simp only [psums,List.mem_cons] at hs
  simp only [List.sum_cons]
  rcases hs with rfl|hs
  ·omega
  ·have:=ih (fun x hx=>h x (by simp [hx])) (n+p) (by omega) s hs
   omega
theorem sSplit (m:Int) (l:List Int) (hm:m≤9223372036854775807) (hl:l.length≤9223372036854775807) (hx:∀ x,x∈l→x≤9223372036854775807) :
  Ctr Tryz.prog 90 [.d (.int .i64 m),.d (slK .i64 l)] [] (.tup [.d (slK .i64 (splitR m l).1),.d (.int .i64 (splitR m l).2)]) [] []:=by
 refine ctr_pure Tryz.func90 ok90 rfl cc90 cr90 Tryz.ntmps90 (by simp) rfl rfl ?_;intro c hP hfn;simp only [kc90,vcd,↓vcp,seval]
 refine ⟨fun h=>?_,fun h=>?_⟩
 ·have h':m<0∨2000<l.length:=by simp only [Bool.or_eq_true,decide_eq_true_eq] at h;omega
  (refine RetK.pure (by simp only [rs90,rsb,vcd,↓vcp,seval]) (VLe.tups ?_);simp only [rs90,rsb,vcd,↓vcp,seval])
  rw [splitR,if_pos h'];exact ⟨nilK,VLe.refl _,trivial⟩
 have h0:¬ (m<0∨2000<l.length):=by simp only [Bool.or_eq_false_iff,decide_eq_false_iff_not] at h;omega
 clear h
 refine TR.call [] [(1,.fix [.d (.int .i64 0)])] _ [1] (hP▸sRun) (by repeat' first|exact trivial|(intro _;assumption)|apply And.intro) (by simp) (by simp [keysO]) (by simp) ?_
 simp only [vcd,↓vcp,seval]
 repeat' first|refine ⟨fun h=>?_,fun h=>?_⟩|refine aO ?_|refine aT ?_|fail
 refine vcC.loop (X:=Nat×List Int×Int×Bool) (fun x=>⟨[(8,.osl 1000),(0,.d (.int .i64 m)),(6,.fn (.func 174) [] [.own 1 0]),(7,.d (.bool x.2.2.2)),(33,.d (slK .i64 l)),(34,.d (.int .i64 l.length)),(35,.d (.int .i64 x.1))],
    [(1000,.row 3 1 x.2.1.length (fun i=>[.int .i64 (x.2.1.getD i 0)])),(1,.fix [.d (.int .i64 x.2.2.1)])],[1000,1]⟩)
   (fun x=>SpI m l x.1 x.2.1 x.2.2.1 x.2.2.2) (fun x=>l.length-x.1) (0,[],0,decide (m>4000000000000000000)) ⟨rfl,Nat.zero_le _,by simp,.inl ⟨by simp,by simp,by simp [psums],rfl⟩⟩
   (Wk.snoc (k:=32) _ hfn rfl rfl rfl rfl (OLe.row rfl (fun i hi=>absurd hi (Nat.not_lt_zero i))) (by (simp only [enb,vcd,↓vcp,seval])<;>(first|exact wS (by omega)|(rw [List.length_append];exact wS (by omega))|assumption)) (by simp only [enb,vcd,↓vcp,seval]) (by simp) (by simp only [enb,vcd,↓vcp,seval]) (by simp only [enb,vcd,↓vcp,seval])) ?_
 rintro ⟨k,dn,s,over⟩ hk
 simp only at hk
 simp only [vcd,↓vcp,seval]
 refine ⟨fun h1=>?_,fun h1=>?_⟩
 ·have hlt:k<l.length:=by have:=of_decide_eq_true h1;omega
  obtain ⟨x,hd,hg,hmx,hat⟩:=drop_at hlt
  have hst:=spI_step hk hlt hat (hx x hmx)
  simp only [hg]
  repeat' first|refine ⟨fun h=>?_,fun h=>?_⟩|refine aO ?_|refine aT ?_|fail
  refine TR.cv1 hP rfl (sRun1 s x) trivial (by repeat' first|exact trivial|(intro _;assumption)|apply And.intro) (by simp only [vcd,↓vcp,seval]) ?_
  simp only [vcd,↓vcp,seval]
  have hdl:=hk.len
  repeat' first|refine ⟨fun h=>?_,fun h=>?_⟩|refine aO ?_|refine aT ?_|fail
  ·have he:(runR s x).1.2=1:=eq_of_beq h
   have hneg:x<0:=by rcases hst with h|h;exact h.2;exact absurd he h.2.1
   (refine RetK.pure (by simp only [rs90,rsb,vcd,↓vcp,seval]) (VLe.tups ?_);simp only [rs90,rsb,vcd,↓vcp,seval])
   rw [splitR,if_neg h0,if_pos (any_neg hmx hneg),he];exact ⟨nilK,VLe.refl _,trivial⟩
  ·have hne:(runR s x).1.2≠1:=by simpa using h
   have hst2:SpI m l (k+1) (dn++[(runR s x).1.1]) (runR s x).2 (over || ((runR s x).1.2 == 5)):=by
    rcases hst with h|h
    ·exact absurd h.1 hne
    ·exact h.2.2
   exact lopK.on (k+1,dn++[(runR s x).1.1],(runR s x).2,(over || ((runR s x).1.2 == 5))) hst2 (by simp only;omega) (Wk.snoc (k:=56) _ hfn rfl rfl rfl rfl (OLe.app1 (cells:=fun n=>[.int .i64 n]) (fun i hi=>by simp only [if_pos hi]) (by simp)) (by (simp only [enb,vcd,↓vcp,seval])<;>(first|exact wS (by omega)|(rw [List.length_append];exact wS (by omega))|assumption)) (by simp only [enb,vcd,↓vcp,seval]) (by simp) (by simp only [enb,vcd,↓vcp,seval]) (by simp only [enb,vcd,↓vcp,seval]))
 have hkl:k=l.length:=by have:=of_decide_eq_false h1;have:=hk.le;omega
 have hnn:=hk.nn
 have hst:=hk.st
 have hdl:=hk.len
 rw [hkl,List.take_length] at hnn hst
 rw [hkl] at hdl
 clear hk h1
 refine ⟨fun h2=>?_,fun h2=>?_⟩
 ·have h2':4000000000000000000<l.sum∨4000000000000000000<m:=by
   subst h2
   rcases hst with h|h
   ·have:=of_decide_eq_true h.2.2.2.symm;omega
   ·omega
  (refine RetK.pure (by simp only [rs90,rsb,vcd,↓vcp,seval]) (VLe.tups ?_);simp only [rs90,rsb,vcd,↓vcp,seval])
  rw [splitR,if_neg h0,if_neg (any_nonneg hnn),if_pos h2'];exact ⟨nilK,VLe.refl _,trivial⟩
 have hst:l.sum≤4000000000000000000∧dn=psums 0 l∧¬ (m>4000000000000000000):=by
  subst h2
  rcases hst with h|h
  ·exact ⟨h.1,h.2.2.1,of_decide_eq_false h.2.2.2.symm⟩
  ·cases h.2.2
 have h2':¬ (4000000000000000000<l.sum∨4000000000000000000<m):=by omega
 have hS0:=sum_nonneg hnn
 have hbase:splitR m l=if l.sum=0 then ([],6) else (deal2 m l.sum 0 (psums 0 l),0):=by
  rw [splitR,if_neg h0,if_neg (any_nonneg hnn),if_neg h2']
 have hlast:0<l.length→dn.getD (dn.length-1) 0=l.sum:=fun h=>by
  rw [hdl,hst.2.1,psums_last h];omega
 have e1:0<l.length→IntKind.i64.wrap ((dn.length:Int)-1)=((dn.length-1:Nat):Int):=fun h=>(wI (by omega)).trans (by omega)
 rcases Nat.eq_zero_or_pos l.length with hz|hpos
 ·have hd0:dn.length=0:=by omega
  refine ⟨fun h=>?_,fun h=>?_,fun h=>?_,fun h=>?_⟩
  ·exfalso;simp [hd0] at h
  ·exfalso;simp [hd0] at h
  ·have hl0:l=[]:=List.eq_nil_of_length_eq_zero hz
   (refine RetK.pure (by simp only [rs90,rsb,vcd,↓vcp,seval]) (VLe.tups ?_);simp only [rs90,rsb,vcd,↓vcp,seval])
   rw [hbase,if_pos (by rw [hl0];rfl)];exact ⟨nilK,VLe.refl _,trivial⟩
  ·exfalso;simp [hd0] at h
 simp only [e1 hpos,Int.toNat_natCast,hlast hpos]
 refine ⟨fun _=>⟨by omega,by omega⟩,fun _=>by omega,fun h=>?_,fun h=>?_⟩
 ·have h':l.sum=0:=by
   simp only [Bool.or_eq_true,beq_iff_eq] at h;omega
  (refine RetK.pure (by simp only [rs90,rsb,vcd,↓vcp,seval]) (VLe.tups ?_);simp only [rs90,rsb,vcd,↓vcp,seval])
  rw [hbase,if_pos h'];exact ⟨nilK,VLe.refl _,trivial⟩
 have hSn:¬ l.sum=0:=by
  simp only [Bool.or_eq_false_iff,beq_eq_false_iff_ne,ne_eq] at h;exact h.2
 clear h
 rw [if_neg hSn] at hbase
 repeat' first|refine ⟨fun h=>?_,fun h=>?_⟩|refine aO ?_|refine aT ?_|fail
 refine vcC.loop (X:=List Int×Int) (fun x=>⟨[(0,.d (.int .i64 m)),(13,.d (.int .i64 l.sum)),(14,.osl 81),(15,.d (.int .i64 x.2)),(82,.osl 1000),(83,.d (.int .i64 dn.length)),(84,.d (.int .i64 x.1.length))],
    [(1000,.row 3 1 dn.length (fun i=>[.int .i64 (dn.getD i 0)])),(81,.row 3 1 dn.length (fun i=>[.int .i64 (x.1.getD i 0)]))],[1000,81]⟩)
   (fun x=>x.1.length≤dn.length∧deal2 m l.sum 0 dn=x.1++deal2 m l.sum x.2 (dn.drop x.1.length)) (fun x=>dn.length-x.1.length) ([],0) ⟨Nat.zero_le _,rfl⟩
   (Wk.of _ hfn rfl (by simp only [enb,vcd,↓vcp,seval]) (by simp only [enb,vcd,↓vcp,seval];exact OLe.row rfl fun i _=>by simp)) ?_
 rintro ⟨out,dealt⟩ ⟨hk,he⟩
 simp only at hk he
 simp only [vcd,↓vcp,seval]
 refine ⟨fun h1=>?_,fun h1=>?_⟩
 ·have hlt:out.length<dn.length:=by have:=of_decide_eq_true h1;omega
  obtain ⟨x,hd,hg,hmx,hat⟩:=drop_at hlt
  have hxb:=psums_le hnn 0 (by omega) x (by rw [←hst.2.1];exact hmx)
  rw [hd,deal2] at he
  simp only [hg]
  repeat' first|((first|refine tp hP (by exact sDown m x l.sum hm (by omega) (by omega)) ?_|refine tg hP (fun _=>by exact sDown m x l.sum hm (by omega) (by omega)) ?_|refine tv hP rfl (by exact sDown m x l.sum hm (by omega) (by omega)) ?_);try simp only [hg,vcd,↓vcp,seval])|refine ⟨fun h=>?_,fun h=>?_⟩|refine aO ?_|refine aT ?_|fail
  exact lopK.on (out++[IntKind.i64.wrap ((downR m x l.sum).1-dealt)],(downR m x l.sum).1) ⟨by simp;omega,by rw [he];simp⟩ (by simp;omega) (Wk.of _ hfn rfl (by (simp only [enb,vcd,↓vcp,seval])<;>(first|exact wS (by omega)|(rw [List.length_append];exact wS (by omega))|assumption)) (by simp only [enb,vcd,↓vcp,seval];exact OLe.snoc))
 ·have hkl:out.length=dn.length:=by have:=of_decide_eq_false h1;omega
  rw [hkl,List.drop_length,deal2,List.append_nil] at he
  repeat' first|refine ⟨fun h=>?_,fun h=>?_⟩|refine aO ?_|refine aT ?_|fail
  refine RetK.mk _ (Wk.pub 81 rfl) (by simp only [rs90,rsb,vcd,↓vcp,seval]) ?_ trivial
  simp only [rs90,rsb,vcd,↓vcp,seval]
  rw [hbase,←hst.2.1,he]
  exact VLe.tups ⟨VLe.sl hkl.symm (fun _=>rfl) id fun i hi=>rfl,VLe.refl _,trivial⟩
end Go.Proofs.YtanppabbmffokaaGreat
end
section
namespace Go.Proofs.YtanppabbmffokaaGreat
open Go.Bx
set_option maxRecDepth 10000
def leapN (y:Nat):Bool:=decide (y % 4=0∧(y % 100≠0∨y % 400=0))
def ylen (y:Nat):Nat:=if leapN y=true then 366 else 365
def feb (y:Nat):Nat:=if leapN y=true then 29 else 28
def mlen (y m:Nat):Nat:=if m=2 then feb y else if m=4∨m=6∨m=9∨m=11 then 30 else 31
def ahN (y:Nat):Nat:=(y-1601)*365+(y-1601) / 4-(y-1601) / 100+(y-1601) / 400
theorem leapN_iff {y:Nat}:leapN y=true↔(y % 4=0∧(y % 100≠0∨y % 400=0)):=by simp only [leapN,decide_eq_true_eq]
theorem ylen_or (y:Nat):(leapN y=true∧ylen y=366∧feb y=29)∨(¬ leapN y=true∧ylen y=365∧feb y=28):=by
 unfold ylen feb
 by_cases h:leapN y=true
 ·left;simp [h]
 ·right;simp [h]
theorem ah_succ {y:Nat} (h:1601≤y):ahN (y+1)=ahN y+ylen y:=by
 have hl:=@leapN_iff y
 have ho:=ylen_or y
 obtain ⟨n,rfl⟩:∃ n,y=1601+n:=⟨y-1601,by omega⟩
 unfold ahN
 rw [show 1601+n+1-1601=n+1 by omega,show 1601+n-1601=n by omega]
 have a1:(n+1) / 4=n / 4+(if n % 4=3 then 1 else 0):=by split<;>omega
 have a2:(n+1) / 100=n / 100+(if n % 100=99 then 1 else 0):=by split<;>omega
 have a3:(n+1) / 400=n / 400+(if n % 400=399 then 1 else 0):=by split<;>omega
 have b1:(1601+n) % 4=0↔n % 4=3:=by omega
 have b2:(1601+n) % 100=0↔n % 100=99:=by omega
 have b3:(1601+n) % 400=0↔n % 400=399:=by omega
 have b4:n % 100=99→n % 4=3:=by omega
 have b5:n % 400=399→n % 100=99:=by omega
 have b6:n / 100≤n / 4:=Nat.div_le_div_left (by omega) (by omega)
 rw [a1,a2,a3]
 rw [ne_eq,b1,b2,b3] at hl
 clear a1 a2 a3 b1 b2 b3
 generalize n / 4=q4 at *
 generalize n / 100=q1 at *
 generalize n / 400=q0 at *
 by_cases c1:n % 4=3
 ·by_cases c2:n % 100=99
  ·by_cases c3:n % 400=399
   ·rw [if_pos c1,if_pos c2,if_pos c3]
    have:=hl.2 ⟨c1,.inr c3⟩
    rcases ho with ⟨h1,h2,-⟩|⟨h1,h2,-⟩
    ·omega
    ·exact absurd this h1
   ·rw [if_pos c1,if_pos c2,if_neg c3]
    rcases ho with ⟨h1,h2,-⟩|⟨h1,h2,-⟩
    ·rcases (hl.1 h1).2 with g|g
     ·exact absurd c2 g
     ·exact absurd g c3
    ·omega
  ·have c3:¬ n % 400=399:=fun h=>c2 (b5 h)
   rw [if_pos c1,if_neg c2,if_neg c3]
   have:=hl.2 ⟨c1,.inl c2⟩
   rcases ho with ⟨h1,h2,-⟩|⟨h1,h2,-⟩
   ·omega
   ·exact absurd this h1
 ·have c2:¬ n % 100=99:=fun h=>c1 (b4 h)
  have c3:¬ n % 400=399:=fun h=>c2 (b5 h)
  rw [if_neg c1,if_neg c2,if_neg c3]
  rcases ho with ⟨h1,h2,-⟩|⟨h1,h2,-⟩
  ·exact absurd (hl.1 h1).1 c1
  ·omega
def msum (y:Nat):Nat→Nat
 |0=>0
 |m+1=>msum y m+mlen y (m+1)
theorem msum12 (y:Nat):msum y 12=ylen y:=by
 have ho:=ylen_or y
 simp only [msum,mlen]
 rcases ho with ⟨h1,h2,h3⟩|⟨h1,h2,h3⟩<;>simp [h2,h3]
theorem mlen_le (y m:Nat):28≤mlen y m∧mlen y m≤31:=by
 have ho:=ylen_or y
 unfold mlen
 split
 ·omega
 ·split<;>omega
theorem msum_le (y:Nat) {a b:Nat} (h:a≤b):msum y a≤msum y b:=by
  induction b with
  | zero => have : a = 0 := by omega
            subst this;exact Nat.le_refl _
  |succ b ih =>
    by_cases e:a=b+1
    · subst e;exact Nat.le_refl _
    · have:=ih (by omega);simp only [msum];omega
def yN (n:Nat):Nat:=if n≤ahN (1601+(n-1) / 365) then 1600+(n-1) / 365 else 1601+(n-1) / 365
theorem ah_at (q:Nat):ahN (1601+q)=q*365+q / 4-q / 100+q / 400:=by
 unfold ahN;rw [show 1601+q-1601=q by omega]
theorem yN_spec {n:Nat} (h1:1≤n) (h2:n≤292194):1601≤yN n∧yN n≤2400∧ahN (yN n)<n∧n≤ahN (yN n+1):=by
 unfold yN
 have hq:(n-1) / 365≤800:=by omega
 have hn:365*((n-1) / 365)+1≤n∧n≤365*((n-1) / 365)+365:=by omega
 generalize (n-1) / 365=q at *
 have e1:=ah_at q
 have e2:=ah_at (q+1)
 rw [show 1601+(q+1)=1601+q+1 by omega] at e2
 split
 ·rename_i h
  rw [e1] at h
  obtain ⟨p,rfl⟩:∃ p,q=p+1:=⟨q-1,by omega⟩
  have e3:=ah_at p
  rw [show 1600+(p+1)=1601+p by omega,e3,show 1601+p+1=1601+(p+1) by omega,e1]
  omega
 ·rename_i h
  rw [e1] at h
  rw [e1,e2]
  have:(q+1) / 100≤(q+1) / 4:=Nat.div_le_div_left (by omega) (by omega)
  have:q / 100≤q / 4:=Nat.div_le_div_left (by omega) (by omega)
  omega
theorem ah_mono {a b:Nat} (ha:1601≤a) (h:a≤b):ahN a≤ahN b:=by
 induction b with
 |zero=>omega
 |succ b ih =>
  by_cases e:a=b+1
  ·subst e;exact Nat.le_refl _
  ·have:=ih (by omega);rw [ah_succ (by omega)];omega
def mgo (y:Nat):Nat→Nat→Nat→Nat×Nat
 |0,m,r=>(m,r)
 |k+1,m,r=>if r≤mlen y m then (m,r) else mgo y k (m+1) (r-mlen y m)
theorem mgo_spec {y:Nat}:∀ {k m r:Nat},m+k=13→1≤m→1≤r→r+msum y (m-1)≤msum y 12 →
  m≤(mgo y k m r).1∧(mgo y k m r).1≤12∧1≤(mgo y k m r).2∧(mgo y k m r).2≤mlen y (mgo y k m r).1∧msum y ((mgo y k m r).1-1)+(mgo y k m r).2=msum y (m-1)+r
 |0,m,r,h1,h2,h3,h4=>by
  rw [show m-1=12 by omega] at h4;omega
 |k+1,m,r,h1,h2,h3,h4=>by
  rw [mgo]
  by_cases h:r≤mlen y m
  ·rw [if_pos h];exact ⟨Nat.le_refl _,by simp only;omega,h3,h,rfl⟩
  ·rw [if_neg h]
   obtain ⟨p,rfl⟩:∃ p,m=p+1:=⟨m-1,by omega⟩
   have e:msum y (p+1)=msum y p+mlen y (p+1):=rfl
   have ih:=mgo_spec (y:=y) (k:=k) (m:=p+1+1) (r:=r-mlen y (p+1)) (by omega) (by omega) (by omega) (by rw [show p+1+1-1=p+1 by omega,e];rw [show p+1-1=p by omega] at h4;omega)
   rw [show p+1+1-1=p+1 by omega,e] at ih
   rw [show p+1-1=p by omega]
   omega
def ofN (n:Nat):Nat×Nat×Nat:=(yN n,mgo (yN n) 12 1 (n-ahN (yN n)))
def numN (y m d:Nat):Nat:=ahN y+msum y (m-1)+d
theorem ofN_spec {n:Nat} (h1:1≤n) (h2:n≤292194):1601≤(ofN n).1∧(ofN n).1≤2400∧1≤(ofN n).2.1∧(ofN n).2.1≤12∧1≤(ofN n).2.2∧(ofN n).2.2≤mlen (ofN n).1 (ofN n).2.1∧numN (ofN n).1 (ofN n).2.1 (ofN n).2.2=n:=by
 obtain ⟨a,b,c,d⟩:=yN_spec h1 h2
 rw [ah_succ a] at d
 have hm:=msum12 (yN n)
 obtain ⟨p,q,r,s,t⟩:=mgo_spec (y:=yN n) (k:=12) (m:=1) (r:=n-ahN (yN n)) rfl (by omega) (by omega) (by simp only [Nat.sub_self,msum];simp only [msum] at hm;omega)
 simp only [Nat.sub_self,show msum (yN n) 0=0 from rfl] at t
 refine ⟨a,b,p,q,r,s,?_⟩
 unfold numN ofN
 simp only
 omega
def shiftT (n b:Nat):Nat:=((ofN n).1-1601)*12+((ofN n).2.1-1)+b
def shiftV (n b:Nat):Nat:=numN (1601+shiftT n b / 12) (shiftT n b % 12+1) (min (ofN n).2.2 (mlen (1601+shiftT n b / 12) (shiftT n b % 12+1)))
def shiftN (n:Int) (b:Nat):Int×Int:=
 if n<1∨292194<n then (0,3) else if 9600≤shiftT n.toNat b then (0,3) else (((shiftV n.toNat b:Nat):Int),0)
theorem numN_bounds {y m d:Nat} (hy:1601≤y) (hy2:y≤2400) (hm:1≤m) (hm2:m≤12) (hd:1≤d) (hd2:d≤mlen y m):1≤numN y m d∧numN y m d≤292194∧numN y m d≤ahN y+msum y m:=by
 obtain ⟨p,rfl⟩:∃ p,m=p+1:=⟨m-1,by omega⟩
 have e:msum y (p+1)=msum y p+mlen y (p+1):=rfl
 have h1:=msum_le y hm2
 rw [msum12] at h1
 have h2:=ah_succ hy
 have h3:=ah_mono (a:=y+1) (b:=2401) (by omega) (by omega)
 have h4:ahN 2401=292194:=by decide +kernel
 unfold numN
 rw [show p+1-1=p by omega]
 omega
theorem leap_eq (y:Nat):(((y:Int).tmod 4 == 0)&&(((y:Int).tmod 100 != 0) || ((y:Int).tmod 400 == 0)))=leapN y:=by
 have e1:(y:Int).tmod 4=((y % 4:Nat):Int):=tmod_nat y 4
 have e2:(y:Int).tmod 100=((y % 100:Nat):Int):=tmod_nat y 100
 have e3:(y:Int).tmod 400=((y % 400:Nat):Int):=tmod_nat y 400
 rw [e1,e2,e3,Bool.eq_iff_iff,leapN_iff]
 simp only [Bool.and_eq_true,Bool.or_eq_true,beq_iff_eq,bne_iff_ne,ne_eq]
 omega
theorem sLeap (y:Nat):Ctr Tryz.prog 117 [.d (.int .i64 (y:Int))] [] (.d (.bool (leapN y))) [] []:=by
 have e:=leap_eq y
 refine ctr_pure Tryz.func117 ok117 rfl cc117 cr117 Tryz.ntmps117 (by simp) rfl rfl ?_;intro c hP hfn;simp only [kc117,vcd,↓vcp,seval]
 repeat' first|refine ⟨fun h=>?_,fun h=>?_⟩|refine aO ?_|refine aT ?_|fail
 exact RetK.pure (by simp only [rs117,rsb,vcd,↓vcp,seval]) (by (simp only [rs117,rsb,enb,vcd,↓vcp,seval])<;>(first|exact e))
def lenV (y:Nat):List V:=[.d (.int .i64 31),.d (.int .i64 (feb y:Nat)),.d (.int .i64 31),.d (.int .i64 30),.d (.int .i64 31),.d (.int .i64 30),.d (.int .i64 31),.d (.int .i64 31),.d (.int .i64 30),.d (.int .i64 31),.d (.int .i64 30),.d (.int .i64 31)]
theorem len_nth (y:Nat) {k:Nat} (h:k<12):nth [.d (.int .i64 31),.d (.int .i64 (feb y:Nat)),.d (.int .i64 31),.d (.int .i64 30),.d (.int .i64 31),.d (.int .i64 30),.d (.int .i64 31),.d (.int .i64 31),.d (.int .i64 30),.d (.int .i64 31),.d (.int .i64 30),.d (.int .i64 31)] k=.d (.int .i64 (mlen y (k+1):Nat)):=by
 have:k=0∨k=1∨k=2∨k=3∨k=4∨k=5∨k=6∨k=7∨k=8∨k=9∨k=10∨k=11:=by omega
 rcases this with rfl|rfl|rfl|rfl|rfl|rfl|rfl|rfl|rfl|rfl|rfl|rfl<;>rfl
theorem sLen (y:Nat):Ctr Tryz.prog 69 [.d (.int .i64 (y:Int))] [] (.ag (lenV y)) [] []:=by
 have ho:=ylen_or y
 have e0:IntKind.i64.wrap (28+1)=29:=wI (by omega)
 refine ctr_pure Tryz.func69 ok69 rfl cc69 cr69 Tryz.ntmps69 (by simp) rfl rfl ?_;intro c hP hfn;simp only [kc69,e0,vcd,↓vcp,seval]
 repeat' first|((first|refine tp hP (by exact sLeap y) ?_|refine tg hP (fun _=>by exact sLeap y) ?_|refine tv hP rfl (by exact sLeap y) ?_);try simp only [e0,vcd,↓vcp,seval])|refine ⟨fun h=>?_,fun h=>?_⟩|refine aO ?_|refine aT ?_|fail
 ·have hf:feb y=29:=by rcases ho with h'|h';exact h'.2.2;exact absurd h h'.1
  exact RetK.pure (by simp only [rs69,rsb,vcd,↓vcp,seval]) (by (simp only [rs69,rsb,enb,vcd,↓vcp,seval])<;>(first|(simp only [lenV,hf];exact VLe.refl _)))
 ·have hf:feb y=28:=by rcases ho with h'|h';exact absurd h (by rw [h'.1];simp);exact h'.2.2
  exact RetK.pure (by simp only [rs69,rsb,vcd,↓vcp,seval]) (by (simp only [rs69,rsb,enb,vcd,↓vcp,seval])<;>(first|(simp only [lenV,hf];exact VLe.refl _)))
theorem ah_int {y:Nat} (h1:1601≤y) (h2:y≤20000):IntKind.i64.wrap (IntKind.i64.wrap (IntKind.i64.wrap (IntKind.i64.wrap (IntKind.i64.wrap ((y:Int)-1601)*365)+IntKind.i64.wrap ((IntKind.i64.wrap ((y:Int)-1601)).tdiv 4))-IntKind.i64.wrap ((IntKind.i64.wrap ((y:Int)-1601)).tdiv 100))+IntKind.i64.wrap ((IntKind.i64.wrap ((y:Int)-1601)).tdiv 400))=(ahN y:Nat):=by
 obtain ⟨n,rfl⟩:∃ n,y=1601+n:=⟨y-1601,by omega⟩
 have e:IntKind.i64.wrap (((1601+n:Nat):Int)-1601)=(n:Int):=(wI (by omega)).trans (by omega)
 have e1:((n:Int)).tdiv 4=((n / 4:Nat):Int):=tdiv_nat n 4
 have e2:((n:Int)).tdiv 100=((n / 100:Nat):Int):=tdiv_nat n 100
 have e3:((n:Int)).tdiv 400=((n / 400:Nat):Int):=tdiv_nat n 400
 rw [e,e1,e2,e3,ah_at,wI (a:=((n / 4:Nat):Int)) (by omega),wI (a:=((n / 100:Nat):Int)) (by omega),wI (a:=((n / 400:Nat):Int)) (by omega),wI (a:=(n:Int)*365) (by omega),wI (a:=(n:Int)*365+((n / 4:Nat):Int)) (by omega),wI (a:=(n:Int)*365+((n / 4:Nat):Int)-((n / 100:Nat):Int)) (by omega),wI (by omega)]
 omega
theorem sAhead (y:Nat) (h1:1601≤y) (h2:y≤20000):Ctr Tryz.prog 116 [.d (.int .i64 (y:Int))] [] (.d (.int .i64 (ahN y:Nat))) [] []:=by
 have e:=ah_int h1 h2
 refine ctr_pure Tryz.func116 ok116 rfl cc116 cr116 Tryz.ntmps116 (by simp) rfl rfl ?_;intro c hP hfn;simp only [kc116,vcd,↓vcp,seval]
 repeat' first|refine ⟨fun h=>?_,fun h=>?_⟩|refine aO ?_|refine aT ?_|fail
 exact RetK.pure (by simp only [rs116,rsb,vcd,↓vcp,seval]) (by (simp only [rs116,rsb,enb,vcd,↓vcp,seval])<;>(first|exact e))
def isD (n:Int):Bool:=decide (1≤n)&&decide (n≤292194)
theorem isD_iff {n:Int}:isD n=true↔1≤n∧n≤292194:=by simp only [isD,Bool.and_eq_true,decide_eq_true_eq]
theorem sIs (n:Int):Ctr Tryz.prog 158 [.d (.int .i64 n)] [] (.d (.bool (isD n))) [] []:=by
 refine ctr_pure Tryz.func158 ok158 rfl cc158 cr158 Tryz.ntmps158 (by simp) rfl rfl ?_;intro c hP hfn;simp only [kc158,vcd,↓vcp,seval]
 exact RetK.pure (by simp only [rs158,rsb,vcd,↓vcp,seval]) (by (simp only [rs158,rsb,enb,vcd,↓vcp,seval])<;>(first|rfl))
def yearD (n:Int):Int×Int:=if isD n=true then ((yN n.toNat:Nat),0) else (0,3)
theorem sYearD (n:Int):Ctr Tryz.prog 115 [.d (.int .i64 n)] [] (.tup [.d (.int .i64 (yearD n).1),.d (.int .i64 (yearD n).2)]) [] []:=by
 refine ctr_pure Tryz.func115 ok115 rfl cc115 cr115 Tryz.ntmps115 (by simp) rfl rfl ?_;intro c hP hfn;simp only [kc115,vcd,↓vcp,seval]
 repeat' first|((first|refine tp hP (by exact sIs n) ?_|refine tg hP (fun _=>by exact sIs n) ?_|refine tv hP rfl (by exact sIs n) ?_);try simp only [vcd,↓vcp,seval])|refine ⟨fun h=>?_,fun h=>?_⟩|refine aO ?_|refine aT ?_|fail
 ·(refine RetK.pure (by simp only [rs115,rsb,vcd,↓vcp,seval]) (VLe.tups ?_);simp only [rs115,rsb,vcd,↓vcp,seval])
  rw [yearD,if_neg (by simpa using h)];exact ⟨VLe.refl _,VLe.refl _,trivial⟩
 have hi:=isD_iff.1 (show isD n=true by simpa using h)
 have hd:yearD n=(((yN n.toNat:Nat):Int),0):=by rw [yearD,if_pos (by simpa using h)]
 obtain ⟨m,rfl⟩:∃ m:Nat,n=(m:Int):=⟨n.toNat,by omega⟩
 rw [Int.toNat_natCast] at hd
 have hs:=yN_spec (n:=m) (by omega) (by omega)
 have hy:yN m=if m≤ahN (1601+(m-1) / 365) then 1600+(m-1) / 365 else 1601+(m-1) / 365:=rfl
 have e1:IntKind.i64.wrap ((m:Int)-1)=((m-1:Nat):Int):=(wI (by omega)).trans (by omega)
 have e2:(((m-1:Nat):Int)).tdiv 365=(((m-1) / 365:Nat):Int):=tdiv_nat _ 365
 have e3:IntKind.i64.wrap (((m-1) / 365:Nat):Int)=(((m-1) / 365:Nat):Int):=wI (by omega)
 have e4:IntKind.i64.wrap (1601+(((m-1) / 365:Nat):Int))=((1601+(m-1) / 365:Nat):Int):=(wI (by omega)).trans (by omega)
 have hq:(m-1) / 365≤800:=by omega
 generalize (m-1) / 365=q at *
 clear h
 refine vcC.loop (X:=Nat) (fun y=>⟨[(0,.d (.int .i64 m)),(4,.d (.int .i64 y))],[],[]⟩) (fun y=>1601≤y∧y≤2401∧((yN m=if m≤ahN y then y-1 else y) )) (fun y=>y) (1601+q) ⟨by omega,by omega,by rw [hy,show 1601+q-1=1600+q by omega]⟩ (Wk.of [] hfn rfl (by simp only [enb,vcd,↓vcp,seval,e1,e2,e3,e4]) (by simp only [enb,vcd,↓vcp,seval])) ?_
 rintro y ⟨h1,h2,h3⟩
 simp only [vcd,↓vcp,seval]
 repeat' first|((first|refine tp hP (by exact sAhead y h1 (by omega)) ?_|refine tg hP (fun _=>by exact sAhead y h1 (by omega)) ?_|refine tv hP rfl (by exact sAhead y h1 (by omega)) ?_);try simp only [vcd,↓vcp,seval])|refine ⟨fun h=>?_,fun h=>?_⟩|refine aO ?_|refine aT ?_|fail
 ·have h':m≤ahN y:=by have:=of_decide_eq_true h;omega
  rw [if_pos h'] at h3
  have e5:IntKind.i64.wrap ((y:Int)-1)=((y-1:Nat):Int):=(wI (by omega)).trans (by omega)
  simp only [e5]
  exact lopK.on (y-1) ⟨by omega,by omega,by rw [←h3,if_neg (by omega)]⟩ (by omega) (Wk.of [] hfn rfl (by simp only [enb,vcd,↓vcp,seval]) (by simp only [enb,vcd,↓vcp,seval]))
 ·have h':¬ m≤ahN y:=by have:=of_decide_eq_false h;omega
  rw [if_neg h'] at h3
  (refine RetK.pure (by simp only [rs115,rsb,vcd,↓vcp,seval]) (VLe.tups ?_);simp only [rs115,rsb,vcd,↓vcp,seval])
  rw [hd,h3];exact ⟨VLe.refl _,VLe.refl _,trivial⟩
end Go.Proofs.YtanppabbmffokaaGreat
end
section
namespace Go.Proofs.YtanppabbmffokaaGreat
open Go.Bx
set_option maxRecDepth 10000
def ymd (t:Nat×Nat×Nat):List V:=[.d (.int .i64 (t.1:Nat)),.d (.int .i64 (t.2.1:Nat)),.d (.int .i64 (t.2.2:Nat))]
def ofD (n:Int):Nat×Nat×Nat:=if isD n=true then ofN n.toNat else (0,0,0)
def ofE (n:Int):Int:=if isD n=true then 0 else 3
set_option maxHeartbeats 1000000 in
theorem sOfD (n:Int):Ctr Tryz.prog 68 [.d (.int .i64 n)] [] (.tup [.ag (ymd (ofD n)),.d (.int .i64 (ofE n))]) [] []:=by
 refine ctr_pure Tryz.func68 ok68 rfl cc68 cr68 Tryz.ntmps68 (by simp) rfl rfl ?_;intro c hP hfn;simp only [kc68,vcd,↓vcp,seval]
 by_cases hi:isD n=true
 ·have h12:=isD_iff.1 hi
  have e1:yearD n=(((yN n.toNat:Nat):Int),0):=by rw [yearD,if_pos hi]
  have e2:ofD n=ofN n.toNat:=by rw [ofD,if_pos hi]
  have e3:ofE n=0:=by rw [ofE,if_pos hi]
  have cy:=sYearD n
  rw [e1] at cy
  rw [e2,e3]
  obtain ⟨m,rfl⟩:∃ m:Nat,n=(m:Int):=⟨n.toNat,by omega⟩
  rw [Int.toNat_natCast] at *
  obtain ⟨a,b,p,q⟩:=yN_spec (n:=m) (by omega) (by omega)
  have hof:ofN m=(yN m,mgo (yN m) 12 1 (m-ahN (yN m))):=rfl
  have hq:m≤ahN (yN m)+msum (yN m) 12:=by rw [msum12,←ah_succ a];exact q
  have hq2:=ylen_or (yN m)
  rw [msum12] at hq
  generalize yN m=y at *
  have e4:IntKind.i64.wrap ((m:Int)-(ahN y:Nat))=((m-ahN y:Nat):Int):=(wI (by omega)).trans (by omega)
  have hr1:1≤m-ahN y:=by omega
  have hr2:m-ahN y≤366:=by omega
  have hr3:m-ahN y≤msum y 12:=by rw [msum12];omega
  generalize m-ahN y=r at *
  repeat' first|((first|refine tp hP (by first|exact cy|exact sAhead y a (by omega)|exact sLen y) ?_|refine tg hP (fun _=>by first|exact cy|exact sAhead y a (by omega)|exact sLen y) ?_|refine tv hP rfl (by first|exact cy|exact sAhead y a (by omega)|exact sLen y) ?_);try simp only [e4,vcd,↓vcp,seval])|refine ⟨fun h=>?_,fun h=>?_⟩|refine aO ?_|refine aT ?_|fail
  all_goals try (cases h;done)
  refine vcC.loop (X:=Nat×Nat) (fun x=>⟨[(2,.own 2 0),(6,.own 6 0),(25,.ag (lenV y)),(26,.d (.int .i64 x.1))],[(2,.fix [.d (.int .i64 0),.d (.int .i64 0),.d (.int .i64 0)]),(6,.fix [.d (.int .i64 (y:Int)),.d (.int .i64 (x.1+1:Nat)),.d (.int .i64 x.2)])],[2,6]⟩)
   (fun x=>x.1≤12∧1≤x.2∧x.2≤366∧x.2+msum y x.1≤msum y 12∧mgo y 12 1 r=mgo y (12-x.1) (x.1+1) x.2) (fun x=>12-x.1) (0,r) ⟨by omega,hr1,hr2,by simpa [msum] using hr3,rfl⟩ (Wk.of [] hfn rfl (by simp only [enb,vcd,↓vcp,seval]) (by simp only [e4,enb,vcd,↓vcp,seval])) ?_
  rintro ⟨k,d⟩ ⟨hk,hd1,hd2,hd3,hg⟩
  simp only at hk hd1 hd2 hd3 hg
  simp only [lenV,vcd,↓vcp,seval]
  refine ⟨fun h1=>?_,fun h1=>?_⟩
  ·have hlt:k<12:=by have:=of_decide_eq_true h1;omega
   have hn:=len_nth y hlt
   have hml:=mlen_le y (k+1)
   have hms:msum y (k+1)=msum y k+mlen y (k+1):=rfl
   have hmx:=msum_le y (show k+1≤12 from hlt)
   have hmg:mgo y (12-k) (k+1) d=if d≤mlen y (k+1) then (k+1,d) else mgo y (12-(k+1)) (k+1+1) (d-mlen y (k+1)):=by
    rw [show 12-k=(12-(k+1))+1 by omega,mgo]
   rw [hmg] at hg
   simp only [hn,vcd,↓vcp,seval]
   repeat' first|refine ⟨fun h=>?_,fun h=>?_⟩|refine aO ?_|refine aT ?_|fail
   ·have h':d≤mlen y (k+1):=by have:=of_decide_eq_true h;omega
    rw [if_pos h'] at hg
    (refine RetK.pure (by simp only [rs68,rsb,vcd,↓vcp,seval]) (VLe.tups ?_);simp only [rs68,rsb,vcd,↓vcp,seval])
    rw [hof,hg];exact ⟨VLe.refl _,VLe.refl _,trivial⟩
   ·have h':¬ d≤mlen y (k+1):=by have:=of_decide_eq_false h;omega
    rw [if_neg h'] at hg
    have e5:IntKind.i64.wrap ((d:Int)-(mlen y (k+1):Nat))=((d-mlen y (k+1):Nat):Int):=(wI (by omega)).trans (by omega)
    have e6:IntKind.i64.wrap (((k+1:Nat):Int)+1)=((k+1+1:Nat):Int):=(wI (by omega)).trans (by omega)
    simp only [e5,e6]
    exact lopK.on (k+1,d-mlen y (k+1)) ⟨hlt,by simp only;omega,by simp only;omega,by simp only;omega,hg⟩ (by simp only;omega) (Wk.of [] hfn rfl (by (simp only [lenV,enb,vcd,↓vcp,seval])<;>(first|exact wS (by omega)|(rw [List.length_append];exact wS (by omega))|assumption)) (by simp only [enb,vcd,↓vcp,seval]))
  ·have hk12:k=12:=by have:=of_decide_eq_false h1;omega
   subst hk12;omega
 ·have e1:yearD n=(0,3):=by rw [yearD,if_neg hi]
  have e2:ofD n=(0,0,0):=by rw [ofD,if_neg hi]
  have e3:ofE n=3:=by rw [ofE,if_neg hi]
  have cy:=sYearD n
  rw [e1] at cy
  repeat' first|((first|refine tp hP (by exact cy) ?_|refine tg hP (fun _=>by exact cy) ?_|refine tv hP rfl (by exact cy) ?_);try simp only [vcd,↓vcp,seval])|refine ⟨fun h=>?_,fun h=>?_⟩|refine aO ?_|refine aT ?_|fail
  ·(refine RetK.pure (by simp only [rs68,rsb,vcd,↓vcp,seval]) (VLe.tups ?_);simp only [rs68,rsb,vcd,↓vcp,seval])
   rw [e2,e3];exact ⟨VLe.refl _,VLe.refl _,trivial⟩
  all_goals try (cases h;done)
structure Dy (y m d:Nat):Prop where
 y1:1601≤y
 y2:y≤2400
 m1:1≤m
 m2:m≤12
 d1:1≤d
 d2:d≤mlen y m
theorem sRightD (y m d:Nat) (h:Dy y m d):Ctr Tryz.prog 118 [.ag [.d (.int .i64 (y:Int)),.d (.int .i64 (m:Int)),.d (.int .i64 (d:Int))]] [] (.d (.bool true)) [] []:=by
 obtain ⟨y1,y2,m1,m2,d1,d2⟩:=h
 have hn:=len_nth y (show m-1<12 by omega)
 rw [show m-1+1=m by omega] at hn
 have hml:=mlen_le y m
 have e1:IntKind.i64.wrap ((m:Int)-1)=((m-1:Nat):Int):=(wI (by omega)).trans (by omega)
 have cl:=sLen y
 simp only [lenV] at cl
 refine ctr_pure Tryz.func118 ok118 rfl cc118 cr118 Tryz.ntmps118 (by simp) rfl rfl ?_;intro c hP hfn;simp only [kc118,e1,vcd,↓vcp,seval]
 repeat' first|((first|refine tp hP (by exact cl) ?_|refine tg hP (fun _=>by exact cl) ?_|refine tv hP rfl (by exact cl) ?_);try simp only [e1,hn,vcd,↓vcp,seval])|refine ⟨fun h=>?_,fun h=>?_⟩|refine aO ?_|refine aT ?_|fail
 ·exfalso;simp only [Bool.or_eq_true,decide_eq_true_eq] at h;omega
 ·exact RetK.pure (by simp only [rs118,rsb,vcd,↓vcp,seval]) (by (simp only [rs118,rsb,enb,vcd,↓vcp,seval])<;>(first|(simp only [Bool.and_eq_true,decide_eq_true_eq];omega)))
set_option maxHeartbeats 1000000 in
theorem sNumD (y m d:Nat) (h:Dy y m d):Ctr Tryz.prog 70 [.ag [.d (.int .i64 (y:Int)),.d (.int .i64 (m:Int)),.d (.int .i64 (d:Int))]] [] (.tup [.d (.int .i64 (numN y m d:Nat)),.d (.int .i64 0)]) [] []:=by
 have cr:=sRightD y m d h
 have hb:=numN_bounds h.y1 h.y2 h.m1 h.m2 h.d1 h.d2
 obtain ⟨y1,y2,m1,m2,d1,d2⟩:=h
 have hml:=mlen_le y m
 have cl:=sLen y
 have ca:=sAhead y y1 (by omega)
 simp only [lenV] at cl
 have hnum:numN y m d=ahN y+msum y (m-1)+d:=rfl
 have hah:ahN y≤292194:=by unfold numN at hb;omega
 have e1:IntKind.i64.wrap ((m:Int)-1)=((m-1:Nat):Int):=(wI (by omega)).trans (by omega)
 have e2:IntKind.i64.wrap ((ahN y:Int)+(d:Int))=((ahN y+d:Nat):Int):=(wI (by omega)).trans (by omega)
 refine ctr_pure Tryz.func70 ok70 rfl cc70 cr70 Tryz.ntmps70 (by simp) rfl rfl ?_;intro c hP hfn;simp only [kc70,vcd,↓vcp,seval]
 repeat' first|((first|refine tp hP (by first|exact cr|exact cl|exact ca) ?_|refine tg hP (fun _=>by first|exact cr|exact cl|exact ca) ?_|refine tv hP rfl (by first|exact cr|exact cl|exact ca) ?_);try simp only [e1,e2,vcd,↓vcp,seval])|refine ⟨fun h=>?_,fun h=>?_⟩|refine aO ?_|refine aT ?_|fail
 refine vcC.loop (X:=Nat) (fun k=>⟨[(4,.own 4 0),(5,.d (.int .i64 (ahN y+d+msum y k:Nat))),(21,.d (.int .i64 (m-1:Nat))),(22,.d (.int .i64 k))],[(4,.fix (lenV y))],[4]⟩)
  (fun k=>k≤m-1) (fun k=>m-1-k) 0 (by omega) (Wk.of [] hfn rfl (by simp only [msum,e1,e2,enb,vcd,↓vcp,seval]) (by simp only [lenV,enb,vcd,↓vcp,seval])) ?_
 intro k hk
 simp only [lenV,vcd,↓vcp,seval]
 refine ⟨fun h1=>?_,fun h1=>?_⟩
 ·have hlt:k<m-1:=by have:=of_decide_eq_true h1;omega
  have hn:=len_nth y (show k<12 by omega)
  have hms:msum y (k+1)=msum y k+mlen y (k+1):=rfl
  have hmx:=msum_le y (show k+1≤12 by omega)
  rw [msum12] at hmx
  have hyl:=ylen_or y
  have e3:IntKind.i64.wrap (((ahN y+d+msum y k:Nat):Int)+(mlen y (k+1):Nat))=((ahN y+d+msum y (k+1):Nat):Int):=(wI (by omega)).trans (by omega)
  simp only [hn,e3,vcd,↓vcp,seval]
  repeat' first|refine ⟨fun h=>?_,fun h=>?_⟩|refine aO ?_|refine aT ?_|fail
  exact lopK.on (k+1) (by omega) (by omega) (Wk.of [] hfn rfl (by (simp only [lenV,enb,vcd,↓vcp,seval])<;>(first|exact wS (by omega)|(rw [List.length_append];exact wS (by omega))|assumption)) (by simp only [lenV,enb,vcd,↓vcp,seval]))
 ·have hkl:k=m-1:=by have:=of_decide_eq_false h1;omega
  subst hkl
  repeat' first|refine ⟨fun h=>?_,fun h=>?_⟩|refine aO ?_|refine aT ?_|fail
  (refine RetK.pure (by simp only [rs70,rsb,vcd,↓vcp,seval]) (VLe.tups ?_);simp only [rs70,rsb,vcd,↓vcp,seval])
  rw [hnum,show ahN y+msum y (m-1)+d=ahN y+d+msum y (m-1) by omega];exact ⟨VLe.refl _,VLe.refl _,trivial⟩
theorem shift_dy {n b:Nat} (h1:1≤n) (h2:n≤292194) (h3:shiftT n b<9600):Dy (1601+shiftT n b / 12) (shiftT n b % 12+1) (min (ofN n).2.2 (mlen (1601+shiftT n b / 12) (shiftT n b % 12+1))):=by
 have hs:=ofN_spec h1 h2
 have hml:=mlen_le (1601+shiftT n b / 12) (shiftT n b % 12+1)
 generalize shiftT n b=t at *
 exact ⟨by omega,by omega,by omega,by omega,by omega,Nat.min_le_right _ _⟩
set_option maxHeartbeats 1000000 in
theorem sShift (n:Int) (b:Nat) (hb:b≤9600):Ctr Tryz.prog 27 [.d (.int .i64 n),.d (.int .i64 (b:Int))] [] (.tup [.d (.int .i64 (shiftN n b).1),.d (.int .i64 (shiftN n b).2)]) [] []:=by
 have co:=sOfD n
 have e0:IntKind.i64.wrap (0-9600)=-9600:=wI (by omega)
 by_cases hi:isD n=true
 ·have h12:=isD_iff.1 hi
  rw [ofD,if_pos hi,ofE,if_pos hi] at co
  obtain ⟨m,rfl⟩:∃ m:Nat,n=(m:Int):=⟨n.toNat,by omega⟩
  rw [Int.toNat_natCast] at co
  have hs:=ofN_spec (n:=m) (by omega) (by omega)
  have hd:=shift_dy (n:=m) (b:=b) (by omega) (by omega)
  have hsh:shiftN (m:Int) b=if 9600≤shiftT m b then (0,3) else (((shiftV m b:Nat):Int),0):=by rw [shiftN,if_neg (by omega),Int.toNat_natCast]
  have ht:shiftT m b=((ofN m).1-1601)*12+((ofN m).2.1-1)+b:=rfl
  have hv:shiftV m b=numN (1601+shiftT m b / 12) (shiftT m b % 12+1) (min (ofN m).2.2 (mlen (1601+shiftT m b / 12) (shiftT m b % 12+1))):=rfl
  generalize shiftT m b=t at *
  generalize shiftV m b=v at *
  obtain ⟨⟨y,mo,d⟩,hof⟩:∃ p,ofN m=p:=⟨_,rfl⟩
  rw [hof] at co hs hd ht hv
  simp only at hs hd ht hv
  simp only [ymd] at co
  obtain ⟨y1,y2,m1,m2,d1,d2,-⟩:=hs
  have hml:=mlen_le y mo
  have e1:IntKind.i64.wrap ((y:Int)-1601)=((y-1601:Nat):Int):=(wI (by omega)).trans (by omega)
  have e2:IntKind.i64.wrap (((y-1601:Nat):Int)*12)=(((y-1601)*12:Nat):Int):=(wI (by omega)).trans (by omega)
  have e3:IntKind.i64.wrap ((((y-1601)*12:Nat):Int)+(mo:Int))=(((y-1601)*12+mo:Nat):Int):=(wI (by omega)).trans (by omega)
  have e4:IntKind.i64.wrap ((((y-1601)*12+mo:Nat):Int)-1)=(((y-1601)*12+mo-1:Nat):Int):=(wI (by omega)).trans (by omega)
  have e5:IntKind.i64.wrap ((((y-1601)*12+mo-1:Nat):Int)+(b:Int))=(t:Int):=(wI (by omega)).trans (by omega)
  have htb:t≤20000:=by omega
  have e6:((t:Int)).tdiv 12=((t / 12:Nat):Int):=tdiv_nat t 12
  have e7:((t:Int)).tmod 12=((t % 12:Nat):Int):=tmod_nat t 12
  have e8:IntKind.i64.wrap ((t / 12:Nat):Int)=((t / 12:Nat):Int):=wI (by omega)
  have e9:IntKind.i64.wrap (1601+((t / 12:Nat):Int))=((1601+t / 12:Nat):Int):=(wI (by omega)).trans (by omega)
  have e10:IntKind.i64.wrap (((t % 12:Nat):Int)+1)=((t % 12+1:Nat):Int):=(wI (by omega)).trans (by omega)
  have e11:IntKind.i64.wrap (((t % 12+1:Nat):Int)-1)=((t % 12:Nat):Int):=(wI (by omega)).trans (by omega)
  have hn:=len_nth (1601+t / 12) (show t % 12<12 by omega)
  have e12:min (d:Int) (mlen (1601+t / 12) (t % 12+1):Nat)=((min d (mlen (1601+t / 12) (t % 12+1)):Nat):Int):=by omega
  have cl:=sLen (1601+t / 12)
  simp only [lenV] at cl
  clear ht
  refine ctr_pure Tryz.func27 ok27 rfl cc27 cr27 Tryz.ntmps27 (by simp) rfl rfl ?_;intro c hP hfn;simp only [kc27,e0,e1,e2,e3,e4,e5,e6,e7,e8,e9,e10,e11,vcd,↓vcp,seval]
  repeat' first|((first|refine tp hP (by exact co) ?_|refine tg hP (fun _=>by exact co) ?_|refine tv hP rfl (by exact co) ?_);try simp only [e0,e1,e2,e3,e4,e5,e6,e7,e8,e9,e10,e11,vcd,↓vcp,seval])|refine ⟨fun h=>?_,fun h=>?_⟩|refine aO ?_|refine aT ?_|fail
  ·exfalso;have e9:IntKind.i64.wrap (-9600)=-9600:=by decide
   simp only [bne_self_eq_false,Bool.false_or,Bool.or_eq_true,decide_eq_true_eq] at h;omega
  ·have h':9600≤t:=by simp only [Bool.or_eq_true,decide_eq_true_eq] at h;omega
   (refine RetK.pure (by simp only [rs27,rsb,vcd,↓vcp,seval]) (VLe.tups ?_);simp only [rs27,rsb,vcd,↓vcp,seval])
   rw [hsh,if_pos h'];exact ⟨VLe.refl _,VLe.refl _,trivial⟩
  ·have h':¬ 9600≤t:=by simp only [Bool.or_eq_false_iff,decide_eq_false_iff_not] at h;omega
   have cn:=sNumD _ _ _ (hd (by omega))
   rw [if_neg h'] at hsh
   clear h
   repeat' first|((first|refine tp hP (by exact cl) ?_|refine tg hP (fun _=>by exact cl) ?_|refine tv hP rfl (by exact cl) ?_);try simp only [e9,e10,e11,hn,e12,vcd,↓vcp,seval])|refine ⟨fun h=>?_,fun h=>?_⟩|refine aO ?_|refine aT ?_|fail
   repeat' first|((first|refine tp hP (by exact cn) ?_|refine tg hP (fun _=>by exact cn) ?_|refine tv hP rfl (by exact cn) ?_);try simp only [vcd,↓vcp,seval])|refine ⟨fun h=>?_,fun h=>?_⟩|refine aO ?_|refine aT ?_|fail
   (refine RetK.pure (by simp only [rs27,rsb,vcd,↓vcp,seval]) (VLe.tups ?_);simp only [rs27,rsb,vcd,↓vcp,seval])
   rw [hsh,hv];exact ⟨VLe.refl _,VLe.refl _,trivial⟩
 ·rw [ofD,if_neg hi,ofE,if_neg hi] at co
  simp only [ymd] at co
  have hsh:shiftN n b=(0,3):=by
   have:=@isD_iff n
   rw [shiftN,if_pos]
   by_cases h1:n<1
   ·exact .inl h1
   ·right
    by_cases h2:n≤292194
    ·exact absurd (this.2 ⟨by omega,h2⟩) hi
    ·omega
  refine ctr_pure Tryz.func27 ok27 rfl cc27 cr27 Tryz.ntmps27 (by simp) rfl rfl ?_;intro c hP hfn;simp only [kc27,e0,vcd,↓vcp,seval]
  repeat' first|((first|refine tp hP (by exact co) ?_|refine tg hP (fun _=>by exact co) ?_|refine tv hP rfl (by exact co) ?_);try simp only [e0,vcd,↓vcp,seval])|refine ⟨fun h=>?_,fun h=>?_⟩|refine aO ?_|refine aT ?_|fail
  ·(refine RetK.pure (by simp only [rs27,rsb,vcd,↓vcp,seval]) (VLe.tups ?_);simp only [rs27,rsb,vcd,↓vcp,seval])
   rw [hsh];exact ⟨VLe.refl _,VLe.refl _,trivial⟩
  all_goals try (rename_i g;exfalso;simp at g;done)
  all_goals try (rename_i g;exfalso;simp at g;done)
end Go.Proofs.YtanppabbmffokaaGreat
end
section
namespace Go.Proofs.YtanppabbmffokaaGreat
open Go.Bx
def okS (f t:Int):Bool:=decide (f≥1)&&decide (f≤t)&&decide (t≤292195)
def keptR (f t:Int):Int×Int:=if (!(okS f t) || f == t)=true then (0,0) else (f,t)
def manyR (f t:Int):Int:=IntKind.i64.wrap ((keptR f t).2-(keptR f t).1)
def vS (f t:Int):V:=.ag [.d (.int .i64 f),.d (.int .i64 t)]
theorem sSpanRight (f t:Int):Ctr Tryz.prog 75 [vS f t] [] (.d (.bool (okS f t))) [] []:=by
 refine ctr_pure Tryz.func75 ok75 rfl cc75 cr75 Tryz.ntmps75 (by simp) rfl rfl ?_;intro c hP hfn;simp only [kc75,vS,vcd,↓vcp,seval]
 exact RetK.pure (by simp only [rs75,rsb,vcd,↓vcp,seval]) (by simp only [rs75,rsb,enb,vcd,↓vcp,seval,okS])
theorem sKept (f t:Int):Ctr Tryz.prog 71 [vS f t] [] (vS (keptR f t).1 (keptR f t).2) [] []:=by
 refine ctr_pure Tryz.func71 ok71 rfl cc71 cr71 Tryz.ntmps71 (by simp) rfl rfl ?_;intro c hP hfn;simp only [kc71,vS,vcd,↓vcp,seval]
 repeat' first|((first|refine tp hP (by exact sSpanRight ..) ?_|refine tg hP (fun _=>by exact sSpanRight ..) ?_|refine tv hP rfl (by exact sSpanRight ..) ?_);try simp only [vcd,↓vcp,seval])|refine ⟨fun h=>?_,fun h=>?_⟩|refine aO ?_|refine aT ?_|fail
 all_goals exact RetK.pure (by simp only [rs71,rsb,vcd,↓vcp,seval]) (by simp only [rs71,rsb,enb,vcd,↓vcp,seval,keptR,vS, *])
theorem sMany (f t:Int):Ctr Tryz.prog 41 [vS f t] [] (.d (.int .i64 (manyR f t))) [] []:=by
 refine ctr_pure Tryz.func41 ok41 rfl cc41 cr41 Tryz.ntmps41 (by simp) rfl rfl ?_;intro c hP hfn;simp only [kc41,vS,vcd,↓vcp,seval]
 repeat' first|((first|refine tp hP (by exact sKept ..) ?_|refine tg hP (fun _=>by exact sKept ..) ?_|refine tv hP rfl (by exact sKept ..) ?_);try simp only [vS,vcd,↓vcp,seval])|refine ⟨fun h=>?_,fun h=>?_⟩|refine aO ?_|refine aT ?_|fail
 exact RetK.pure (by simp only [rs41,rsb,vcd,↓vcp,seval]) (by simp only [rs41,rsb,enb,vcd,↓vcp,seval,manyR])
end Go.Proofs.YtanppabbmffokaaGreat
end
section
namespace Go.Proofs.YtanppabbmffokaaGreat
open Go.Bx
set_option maxRecDepth 10000
def idxE (x:Int):Nat→List Int→Int
 |_,[]=>-1
 |k,y::r=>if x=y then (k:Int) else idxE x (k+1) r
theorem idxE_mem (x:Int):∀ (l:List Int) (k:Nat),decide (idxE x k l≥0)=decide (x∈l)
 |[],k=>by simp [idxE]
 |y::r,k=>by
  by_cases h:x=y
  ·simp [idxE,h]
  ·simp [idxE,h];simpa using idxE_mem x r (k+1)
theorem sIndex (l:List Int) (x:Int) (hl:l.length≤9223372036854775807):Ctr Tryz.prog 89 [.d (slK .i64 l),.d (.int .i64 x)] [] (.d (.int .i64 (idxE x 0 l))) [] []:=by
 refine ctr_pure Tryz.func89 ok89 rfl cc89 cr89 Tryz.ntmps89 (by simp) rfl rfl ?_;intro c hP hfn;simp only [kc89,vcd,↓vcp,seval]
 refine vcC.loop (X:=Nat) (fun k=>⟨[(0,.d (slK .i64 l)),(1,.d (.int .i64 x)),(7,.d (.int .i64 l.length)),(8,.d (.int .i64 k))],[],[]⟩)
  (fun k=>k≤l.length∧idxE x 0 l=idxE x k (l.drop k)) (fun k=>l.length-k) 0 ⟨Nat.zero_le _,rfl⟩ (Wk.of [] hfn rfl (by (simp only [enb,vcd,↓vcp,seval])<;>(first|exact wS (by omega)|(rw [List.length_append];exact wS (by omega))|assumption)) (by simp only [enb,vcd,↓vcp,seval])) ?_
 rintro k ⟨hk,he⟩
 simp only [vcd,↓vcp,seval]
 refine ⟨fun h1=>?_,fun h1=>?_⟩
 ·have hlt:k<l.length:=by simpa using h1
  obtain ⟨y,hd,hg,-,-⟩:=drop_at hlt
  rw [hd,idxE] at he
  simp only [hg,vcd,↓vcp,seval]
  repeat' first|refine ⟨fun h=>?_,fun h=>?_⟩|refine aO ?_|refine aT ?_|fail
  ·exact RetK.pure (by simp only [rs89,rsb,vcd,↓vcp,seval]) (by (simp only [rs89,rsb,enb,vcd,↓vcp,seval])<;>(first|rw [he,if_pos (eq_of_beq h)]))
  ·rw [if_neg (by simpa using h)] at he
   exact lopK.on (k+1) ⟨hlt,he⟩ (by omega) (Wk.of [] hfn rfl (by (simp only [enb,vcd,↓vcp,seval])<;>(first|exact wS (by omega)|(rw [List.length_append];exact wS (by omega))|assumption)) (by simp only [enb,vcd,↓vcp,seval]))
 ·have hkl:k=l.length:=by simp at h1;omega
  rw [hkl] at he
  exact RetK.pure (by simp only [rs89,rsb,vcd,↓vcp,seval]) (by (simp only [rs89,rsb,enb,vcd,↓vcp,seval])<;>(first|simp [he,idxE]))
theorem sContains (l:List Int) (x:Int) (hl:l.length≤9223372036854775807):Ctr Tryz.prog 40 [.d (slK .i64 l),.d (.int .i64 x)] [] (.d (.bool (decide (x∈l)))) [] []:=by
 refine ctr_pure Tryz.func40 ok40 rfl cc40 cr40 Tryz.ntmps40 (by simp) rfl rfl ?_;intro c hP hfn;simp only [kc40,vcd,↓vcp,seval]
 repeat' first|((first|refine tp hP (by exact sIndex l x hl) ?_|refine tg hP (fun _=>by exact sIndex l x hl) ?_|refine tv hP rfl (by exact sIndex l x hl) ?_);try simp only [vcd,↓vcp,seval])|refine ⟨fun h=>?_,fun h=>?_⟩|refine aO ?_|refine aT ?_|fail
 exact RetK.pure (by simp only [rs40,rsb,vcd,↓vcp,seval]) (by (simp only [rs40,rsb,enb,vcd,↓vcp,seval])<;>(first|exact idxE_mem x l 0))
theorem sContains' {full:Bool} {n:Nat} {ds:List D} {l:List Int} {x:Int} (h:LitI .i64 ds l) (hn:n=l.length) (hl:l.length≤9223372036854775807):Ctr Tryz.prog 40 [.d (.sl full 1 n (litRow 1 ds)),.d (.int .i64 x)] [] (.d (.bool (decide (x∈l)))) [] []:=
 (sContains l x hl).arg ⟨h.vle hn,VLe.refl _,trivial⟩
theorem sMulU (x y:Nat) (hx:x<18446744073709551616) (hy:y<18446744073709551616):Ctr Tryz.prog 138 [.d (.int .u64 x),.d (.int .u64 y)] [] (.tup [.d (.int .u64 ((x*y / 18446744073709551616:Nat):Int)),.d (.int .u64 ((x*y % 18446744073709551616:Nat):Int))]) [] []:=by
 refine ctr_pure Tryz.func138 ok138 rfl cc138 cr138 Tryz.ntmps138 (by simp) rfl rfl ?_;intro c hP hfn;simp only [kc138,vcd,↓vcp,seval]
 repeat' first|((first|refine tp hP (by exact sMul64 x y hx hy) ?_|refine tg hP (fun _=>by exact sMul64 x y hx hy) ?_|refine tv hP rfl (by exact sMul64 x y hx hy) ?_);try simp only [vcd,↓vcp,seval])|refine ⟨fun h=>?_,fun h=>?_⟩|refine aO ?_|refine aT ?_|fail
 (refine RetK.pure (by simp only [rs138,rsb,vcd,↓vcp,seval]) (VLe.tups ?_);simp only [rs138,rsb,vcd,↓vcp,seval])
 exact ⟨VLe.refl _,VLe.refl _,trivial⟩
set_option maxHeartbeats 1000000 in
theorem sRepeat1 (n:Nat) (h1:1≤n) (h2:n≤2000):Ctr Tryz.prog 91 [.d (.sl true 1 1 (litRow 1 [.int .i64 1])),.d (.int .i64 (n:Int))] [] (.d (slK .i64 (List.replicate n 1))) [] []:=by
 have e1:IntKind.u64.wrap (1:Int)=((1:Nat):Int):=by rw [IntKind.wrap_u64];omega
 have e2:IntKind.u64.wrap (n:Int)=(n:Int):=by rw [IntKind.wrap_u64];omega
 have cm:=sMulU 1 n (by omega) (by omega)
 have g1:1*n / 18446744073709551616=0:=by omega
 have g2:1*n % 18446744073709551616=n:=by omega
 rw [g1,g2] at cm
 have e3:IntKind.i64.wrap (n:Int)=(n:Int):=wI (by omega)
 refine ctr_pure Tryz.func91 ok91 rfl cc91 cr91 Tryz.ntmps91 (by simp) rfl rfl ?_;intro c hP hfn;simp only [kc91,e1,e2,e3,vcd,↓vcp,seval]
 repeat' first|refine ⟨fun h=>?_,fun h=>?_⟩|refine aO ?_|refine aT ?_|fail
 ·exfalso;have:=of_decide_eq_true h;omega
 clear h
 repeat' first|((first|refine tp hP (by exact cm) ?_|refine tg hP (fun _=>by exact cm) ?_|refine tv hP rfl (by exact cm) ?_);try simp only [e1,e2,e3,vcd,↓vcp,seval])|refine ⟨fun h=>?_,fun h=>?_⟩|refine aO ?_|refine aT ?_|fail
 ·exfalso;simp only [Bool.or_eq_true,decide_eq_true_eq] at h;omega
 clear h
 have e4:min 1 n=1:=by omega
 simp only [e3,e4,vcd,↓vcp,seval]
 repeat' first|refine ⟨fun h=>?_,fun h=>?_⟩|refine aO ?_|refine aT ?_|fail
 refine vcC.loop (X:=Nat) (fun m=>⟨[(7,.osl 30),(8,.d (.int .i64 (m:Int)))],[(30,.row 3 1 n (fun i=>[.int .i64 (if i<m then 1 else 0)]))],[30]⟩)
  (fun m=>1≤m∧m≤n) (fun m=>n-m) 1 ⟨by omega,by omega⟩ (Wk.of [] hfn rfl (by simp only [enb,vcd,↓vcp,seval]) (by
   simp only [e3,e4,enb,vcd,↓vcp,seval]
   refine OLe.row rfl fun i hi=>?_
   by_cases h:i<1
   ·have:i=0:=by omega
    subst this;rfl
   ·rw [if_neg h,if_neg h])) ?_
 rintro m ⟨hm1,hm2⟩
 simp only [vcd,↓vcp,seval]
 refine ⟨fun h1=>?_,fun h1=>?_⟩
 ·have hlt:m<n:=by have:=of_decide_eq_true h1;omega
  have e5:min m (n-m)=(m+min m (n-m))-m:=by omega
  have e6:IntKind.i64.wrap ((m:Int)+(min m (n-m):Nat))=((m+min m (n-m):Nat):Int):=(wI (by omega)).trans (by omega)
  repeat' first|refine ⟨fun h=>?_,fun h=>?_⟩|refine aO ?_|refine aT ?_|fail
  exact lopK.on (m+min m (n-m)) ⟨by omega,by omega⟩ (by omega) (Wk.of [] hfn rfl (by simp only [e6,enb,vcd,↓vcp,seval]) (by
   simp only [enb,vcd,↓vcp,seval]
   refine OLe.row rfl fun i hi=>?_
   by_cases h:m≤i∧i<m+min m (n-m)
   ·rw [if_pos h,if_pos (by omega),if_pos (by omega)]
   ·rw [if_neg h]
    by_cases h3:i<m
    ·rw [if_pos h3,if_pos (by omega)]
    ·rw [if_neg h3,if_neg (by omega)]))
 ·have hml:m=n:=by have:=of_decide_eq_false h1;omega
  subst hml
  repeat' first|refine ⟨fun h=>?_,fun h=>?_⟩|refine aO ?_|refine aT ?_|fail
  refine RetK.mk _ (Wk.pub 30 rfl) (by simp only [rs91,rsb,vcd,↓vcp,seval]) ?_ trivial
  simp only [rs91,rsb,vcd,↓vcp,seval]
  refine VLe.sl (by simp) (fun _=>rfl) id fun i hi=>?_
  rw [if_pos hi]
  simp [List.getD_eq_getElem?_getD,hi]
theorem wN {x:Nat} (h:x≤9223372036854775807):IntKind.i64.wrap (x:Int)=(x:Int):=wI (by omega)
theorem wD {p q:Nat} (h:q≤p) (hp:p≤9223372036854775807):IntKind.i64.wrap ((p:Int)-(q:Int))=((p-q:Nat):Int):=(wI (by omega)).trans (by omega)
def partN (a n i:Nat):Nat:=a*(i+1) / n-a*i / n
def partsN (a n:Nat):List Int:=(List.range n).map fun i=>((partN a n i:Nat):Int)
theorem downR_nat {a s n:Nat} (hn:0<n) (hs:s≤n) (ha:a≤4000000000000000000):downR (a:Int) (s:Int) (n:Int)=(((a*s / n:Nat):Int),0):=by
 have h1:a*s / n≤a:=by
  have:a*s≤a*n:=Nat.mul_le_mul_left _ hs
  calc a*s / n≤a*n / n:=Nat.div_le_div_right this
   _=a:=Nat.mul_div_cancel _ hn
 unfold downR ofR
 rw [if_neg (by omega),if_neg (by omega)]
 simp only [Int.toNat_natCast,upD,Bool.false_eq_true,if_false,Nat.add_zero]
 rw [if_neg (by omega),if_neg (by omega)]
theorem psums_one:∀ (n:Nat) (k:Nat),psums (k:Int) (List.replicate n 1)=(List.range n).map fun i=>((k+i+1:Nat):Int)
 |0,k=>rfl
 |n+1,k=>by
  rw [List.replicate_succ,psums,show ((k:Int)+1)=((k+1:Nat):Int) by omega,psums_one n (k+1),List.range_succ_eq_map]
  simp only [List.map_cons,List.map_map]
  refine List.cons_eq_cons.2 ⟨by omega,?_⟩
  apply List.map_congr_left
  intro i _
  simp only [Function.comp_apply]
  omega
theorem deal2_one {a n:Nat} (hn:0<n) (ha:a≤4000000000000000000):∀ (j k:Nat),k+j≤n→deal2 (a:Int) (n:Int) ((a*k / n:Nat):Int) ((List.range j).map fun i=>((k+i+1:Nat):Int))=(List.range j).map fun i=>((partN a n (k+i):Nat):Int)
 |0,k,_=>rfl
 |j+1,k,h=>by
  have h1:a*k / n≤a*(k+1) / n:=Nat.div_le_div_right (Nat.mul_le_mul_left _ (by omega))
  have h2:a*(k+1) / n≤a:=by
   have:a*(k+1)≤a*n:=Nat.mul_le_mul_left _ (by omega)
   calc a*(k+1) / n≤a*n / n:=Nat.div_le_div_right this
    _=a:=Nat.mul_div_cancel _ hn
  have ih:=deal2_one hn ha j (k+1) (by omega)
  rw [List.range_succ_eq_map]
  simp only [List.map_cons,List.map_map,deal2,Nat.add_zero]
  rw [downR_nat hn (by omega) ha]
  simp only
  refine List.cons_eq_cons.2 ⟨?_,?_⟩
  ·exact wD h1 (Nat.le_trans h2 (Nat.le_trans ha (by decide)))
  ·have e1:(List.range j).map ((fun i=>((k+i+1:Nat):Int)) ∘ Nat.succ)=(List.range j).map fun i=>((k+1+i+1:Nat):Int):=by
    apply List.map_congr_left;intro i _;simp only [Function.comp_apply];omega
   have e2:(List.range j).map ((fun i=>((partN a n (k+i):Nat):Int)) ∘ Nat.succ)=(List.range j).map fun i=>((partN a n (k+1+i):Nat):Int):=by
    apply List.map_congr_left;intro i _;simp only [Function.comp_apply];rw [show k+i.succ=k+1+i by omega]
   rw [e1,e2,ih]
theorem sum_ones (n:Nat):(List.replicate n (1:Int)).sum=n:=by
 induction n with
 |zero=>rfl
 |succ n ih=>rw [List.replicate_succ,List.sum_cons,ih];omega
theorem split_one {a n:Nat} (h1:1≤n) (h2:n≤2000) (ha:a≤4000000000000000000):splitR (a:Int) (List.replicate n 1)=(partsN a n,0):=by
 have hs:=sum_ones n
 have hd:=deal2_one (a:=a) (n:=n) (by omega) ha n 0 (by omega)
 have hp:=psums_one n 0
 simp only [Nat.zero_add,Nat.mul_zero,Nat.zero_div,Int.natCast_zero] at hd hp
 unfold splitR
 rw [if_neg (by simp;omega),if_neg (by rw [List.any_eq_true];rintro ⟨x,hx,hx2⟩;rw [List.eq_of_mem_replicate hx] at hx2;simp at hx2),hs,if_neg (by omega),if_neg (by omega),hp]
 unfold partsN
 rw [←hd]
theorem sEqual (a n:Nat) (h1:1≤n) (h2:n≤2000) (ha:a≤4000000000000000000):Ctr Tryz.prog 42 [.d (.int .i64 (a:Int)),.d (.int .i64 (n:Int))] [] (.d (slK .i64 (partsN a n))) [] []:=by
 have cs:=sSplit (a:Int) (List.replicate n 1) (by omega) (by simp;omega) (by intro x hx;rw [List.eq_of_mem_replicate hx];omega)
 rw [split_one h1 h2 ha] at cs
 refine ctr_pure Tryz.func42 ok42 rfl cc42 cr42 Tryz.ntmps42 (by simp) rfl rfl ?_;intro c hP hfn;simp only [kc42,vcd,↓vcp,seval]
 repeat' first|((first|refine tp hP (by first|exact sRepeat1 n h1 h2|exact cs) ?_|refine tg hP (fun _=>by first|exact sRepeat1 n h1 h2|exact cs) ?_|refine tv hP rfl (by first|exact sRepeat1 n h1 h2|exact cs) ?_);try simp only [vcd,↓vcp,seval])|refine ⟨fun h=>?_,fun h=>?_⟩|refine aO ?_|refine aT ?_|fail
 exact RetK.pure (by simp only [rs42,rsb,vcd,↓vcp,seval]) (by (simp only [rs42,rsb,enb,vcd,↓vcp,seval])<;>(first|exact VLe.refl _))
end Go.Proofs.YtanppabbmffokaaGreat
end
section
namespace Go.Proofs.YtanppabbmffokaaGreat
open Go.Bx
set_option maxRecDepth 10000
structure Bl where
 du:Int
 am:Int
 pa:Int
deriving DecidableEq
instance:Inhabited Bl:=⟨⟨0,0,0⟩⟩
def cB (b:Bl):List D:=[.int .i64 b.du,.int .i64 b.am,.int .i64 b.pa]
def slL (l:List Bl):D:=.sl false 3 l.length (fun i=>[.int .i64 (l.getD i default).du,.int .i64 (l.getD i default).am,.int .i64 (l.getD i default).pa])
theorem rSame (a b:List Bl) (ha:a.length≤9223372036854775807) (hb:b.length≤9223372036854775807):Ctr Tryz.prog 34 [.d (slL a),.d (slL b)] [] (.d (.bool (decide (a=b)))) [] []:=by
 refine ctr_pure Tryz.func34 ok34 rfl cc34 cr34 Tryz.ntmps34 (by simp) rfl rfl ?_;intro c hP hfn;simp only [kc34,slL,vcd,↓vcp,seval]
 refine ⟨fun h0=>?_,fun h0=>?_⟩
 ·have h':¬ a=b:=by rintro rfl;simp at h0
  exact RetK.pure (by simp only [rs34,rsb,vcd,↓vcp,seval]) (by (simp only [rs34,rsb,enb,vcd,↓vcp,seval])<;>(first|simp [h']))
 have hlen:a.length=b.length:=by simp only [bne_eq_false_iff_eq] at h0;omega
 clear h0
 refine vcC.loop (X:=Nat) (fun k=>⟨[(0,.d (slL a)),(1,.d (slL b)),(5,.d (.int .i64 k))],[],[]⟩)
  (fun k=>k≤a.length∧a.take k=b.take k) (fun k=>a.length-k) 0 ⟨Nat.zero_le _,by simp⟩ (Wk.of [] hfn rfl (by (simp only [slL,enb,vcd,↓vcp,seval])<;>(first|exact wS (by omega)|(rw [List.length_append];exact wS (by omega))|assumption)) (by simp only [enb,vcd,↓vcp,seval])) ?_
 rintro k ⟨hk,he⟩
 simp only [slL,vcd,↓vcp,seval]
 refine ⟨fun h1=>?_,fun h1=>?_⟩
 ·have hlt:k<a.length:=by have:=of_decide_eq_true h1;omega
  obtain ⟨x,hdx,hgx,hmx,hax⟩:=drop_at hlt
  obtain ⟨y,hdy,hgy,hmy,hay⟩:=drop_at (show k<b.length by omega)
  simp only [hgx,hgy,vcd,↓vcp,seval]
  repeat' first|refine ⟨fun h=>?_,fun h=>?_⟩|refine aO ?_|refine aT ?_|fail
  ·have h':¬ a=b:=by
    rintro rfl
    have:x=y:=by rw [hax] at hay;exact Option.some.inj hay
    subst this
    simp at h
   exact RetK.pure (by simp only [rs34,rsb,vcd,↓vcp,seval]) (by (simp only [rs34,rsb,enb,vcd,↓vcp,seval])<;>(first|simp [h']))
  ·have hxy:x=y:=by
    obtain ⟨x1,x2,x3⟩:=x
    obtain ⟨y1,y2,y3⟩:=y
    simp at h
    simp [h]
   refine lopK.on (k+1) ⟨hlt,?_⟩ (by omega) (Wk.of [] hfn rfl (by (simp only [slL,enb,vcd,↓vcp,seval])<;>(first|exact wS (by omega)|(rw [List.length_append];exact wS (by omega))|assumption)) (by simp only [enb,vcd,↓vcp,seval]))
   rw [List.take_add_one,List.take_add_one,he,hax,hay,hxy]
 ·have hkl:k=a.length:=by have:=of_decide_eq_false h1;omega
  rw [hkl,List.take_length,hlen,List.take_length] at he
  exact RetK.pure (by simp only [rs34,rsb,vcd,↓vcp,seval]) (by (simp only [rs34,rsb,enb,vcd,↓vcp,seval])<;>(first|simp [he]))
end Go.Proofs.YtanppabbmffokaaGreat
end
section
namespace Go.Proofs.YtanppabbmffokaaGreat
open Go.Bx
set_option maxRecDepth 10000
def rowB (l:List Bl):Own:=.row 56 3 l.length (fun i=>[.int .i64 (l.getD i default).du,.int .i64 (l.getD i default).am,.int .i64 (l.getD i default).pa])
theorem VLe_slL {full:Bool} {n:Nat} {l:List Bl} {F:Nat→List D} (hn:n=l.length) (hF:∀ i,i<n→F i=[.int .i64 (l.getD i default).du,.int .i64 (l.getD i default).am,.int .i64 (l.getD i default).pa]):VLe (.d (.sl full 3 n F)) (.d (slL l)):=VLe.sl hn (fun _=>rfl) (by simp) hF
end Go.Proofs.YtanppabbmffokaaGreat
end
section
namespace Go.Proofs.YtanppabbmffokaaGreat
open Go.Bx
set_option maxRecDepth 10000
theorem partsN_len (a n:Nat):(partsN a n).length=n:=by simp [partsN]
theorem partsN_at {a n i:Nat} (h:i<n) (d:Int):(partsN a n).getD i d=((partN a n i:Nat):Int):=by
 simp [partsN,List.getD_eq_getElem?_getD,h]
end Go.Proofs.YtanppabbmffokaaGreat
end
section
namespace Go.Proofs.YtanppabbmffokaaGreat
open Go.Bx
set_option maxRecDepth 10000
def planB (a:Nat) (f:Int) (n i:Nat):Bl:=⟨(shiftN f (i*12 / n)).1,(partN a n i:Nat),0⟩
def planL (a:Nat) (f:Int) (n:Nat):List Bl:=(List.range n).map (planB a f n)
def fitsP (f:Int) (n:Nat):Bool:=(List.range n).all fun i=>(shiftN f (i*12 / n)).2 == 0
def mayP (amt f t n:Int):Bool:=decide (n∈[1,2,4,12])&&decide (0≤amt∧amt≤4000000000000000000)&&!(manyR f t == 0)
def planR (amt f t n:Int):List Bl×Int:=
 if mayP amt f t n=false then ([],1) else if fitsP f n.toNat=false then ([],3) else (planL amt.toNat f n.toNat,0)
theorem mayP_iff {amt f t n:Int}:mayP amt f t n=true↔(n=1∨n=2∨n=4∨n=12)∧0≤amt∧amt≤4000000000000000000∧¬ manyR f t=0:=by
 simp only [mayP,Bool.and_eq_true,decide_eq_true_eq,List.mem_cons,List.not_mem_nil,or_false,Bool.not_eq_true',beq_eq_false_iff_ne,ne_eq]
 constructor
 ·rintro ⟨⟨h1,h2⟩,h3⟩;exact ⟨h1,h2.1,h2.2,h3⟩
 ·rintro ⟨h1,h2,h3,h4⟩;exact ⟨⟨h1,h2,h3⟩,h4⟩
theorem plan_snoc (a:Nat) (f:Int) (n k:Nat):(List.range (k+1)).map (planB a f n)=(List.range k).map (planB a f n)++[planB a f n k]:=by
 rw [List.range_succ,List.map_append];rfl
theorem fits_not {f:Int} {n i:Nat} (hi:i<n) (h:¬ (shiftN f (i*12 / n)).2=0):fitsP f n=false:=by
 rw [fitsP,List.all_eq_false]
 exact ⟨i,List.mem_range.2 hi,by simpa using h⟩
theorem fits_all {f:Int} {n:Nat} (h:∀ i,i<n→(shiftN f (i*12 / n)).2=0):fitsP f n=true:=by
 rw [fitsP,List.all_eq_true]
 intro i hi
 simpa using h i (List.mem_range.1 hi)
set_option maxHeartbeats 2000000 in
theorem sPlan (amt f t n:Int):Ctr Tryz.prog 13 [.d (.int .i64 amt),vS f t,.d (.int .i64 n)] [] (.tup [.d (slL (planR amt f t n).1),.d (.int .i64 (planR amt f t n).2)]) [] []:=by
 have cm:=sMany f t
 have cc:=sContains' (full:=true) (n:=4) (ds:=[.int .i64 1,.int .i64 2,.int .i64 4,.int .i64 12]) (l:=[1,2,4,12]) (x:=n) (by repeat constructor) rfl (by simp)
 have hmi:=@mayP_iff amt f t n
 simp only [vS] at cm
 refine ctr_pure Tryz.func13 ok13 rfl cc13 cr13 Tryz.ntmps13 (by simp) rfl rfl ?_;intro c hP hfn;simp only [kc13,vS,vcd,↓vcp,seval]
 repeat' first|((first|refine tp hP (by first|exact cc|exact cm) ?_|refine tg hP (fun _=>by first|exact cc|exact cm) ?_|refine tv hP rfl (by first|exact cc|exact cm) ?_);try simp only [vcd,↓vcp,seval])|refine ⟨fun h=>?_,fun h=>?_⟩|refine aO ?_|refine aT ?_|fail
 ·have hm:mayP amt f t n=false:=by
   rw [←Bool.not_eq_true]
   intro g
   have g2:=hmi.1 g
   simp only [Bool.or_eq_true,Bool.not_eq_true',decide_eq_false_iff_not,decide_eq_true_eq,beq_iff_eq,List.mem_cons,List.not_mem_nil,or_false] at h
   omega
  (refine RetK.pure (by simp only [rs13,rsb,vcd,↓vcp,seval]) (VLe.tups ?_);simp only [rs13,rsb,vcd,↓vcp,seval])
  rw [planR,if_pos hm];exact ⟨VLe.nil rfl (by simp),VLe.refl _,trivial⟩
 have hm:mayP amt f t n=true:=by
  rw [hmi]
  simp only [Bool.or_eq_false_iff,Bool.not_eq_false',decide_eq_false_iff_not,decide_eq_true_eq,beq_eq_false_iff_ne,ne_eq,List.mem_cons,List.not_mem_nil,or_false] at h
  omega
 have hq:planR amt f t n=if fitsP f n.toNat=false then ([],3) else (planL amt.toNat f n.toNat,0):=by rw [planR,if_neg (by rw [hm];simp)]
 have h2:=hmi.1 hm
 clear h hmi
 obtain ⟨N,rfl⟩:∃ N:Nat,n=(N:Int):=⟨n.toNat,by omega⟩
 obtain ⟨A,rfl⟩:∃ A:Nat,amt=(A:Int):=⟨amt.toNat,by omega⟩
 simp only [Int.toNat_natCast] at hq
 have hN:1≤N∧N≤12:=by omega
 have ce:=sEqual A N hN.1 (by omega) (by omega)
 repeat' first|((first|refine tp hP (by exact ce) ?_|refine tg hP (fun _=>by exact ce) ?_|refine tv hP rfl (by exact ce) ?_);try simp only [vcd,↓vcp,seval])|refine ⟨fun h=>?_,fun h=>?_⟩|refine aO ?_|refine aT ?_|fail
 refine vcC.loop (X:=Nat) (fun k=>⟨[(10,.osl 1000),(2,.d (.int .i64 (N:Int))),(4,.own 4 0),(9,.d (slK .i64 (partsN A N))),(35,.d (.int .i64 (N:Int))),(36,.d (.int .i64 k))],[(1000,rowB ((List.range k).map (planB A f N))),(4,.fix [.d (.int .i64 f),.d (.int .i64 t)])],[1000,4]⟩)
  (fun k=>k≤N∧∀ i,i<k→(shiftN f (i*12 / N)).2=0) (fun k=>N-k) 0 ⟨Nat.zero_le _,fun i hi=>absurd hi (Nat.not_lt_zero i)⟩
  ((Wk.row0 (s:=10) (k:=1000) (e:=56) (sz:=3) (f':=fun _=>[]) rfl rfl (by simp)).trans (Wk.of _ hfn rfl (by simp only [enb,vcd,↓vcp,seval]) (by simp only [rowB,List.range_zero,List.map_nil,enb,vcd,↓vcp,seval];exact OLe.row rfl (fun i hi=>absurd hi (Nat.not_lt_zero i))))) ?_
 rintro k ⟨hk,hok⟩
 have hpl:((List.range k).map (planB A f N)).length=k:=by simp
 simp only [rowB,vcd,↓vcp,seval]
 refine ⟨fun h1=>?_,fun h1=>?_⟩
 ·have hlt:k<N:=by have:=of_decide_eq_true h1;omega
  have e1:IntKind.i64.wrap ((k:Int)*12)=((k*12:Nat):Int):=(wI (by omega)).trans (by omega)
  have e2:(((k*12:Nat):Int)).tdiv (N:Int)=((k*12 / N:Nat):Int):=tdiv_nat _ _
  have hb:k*12 / N≤k*12:=Nat.div_le_self _ _
  have e3:IntKind.i64.wrap ((k*12 / N:Nat):Int)=((k*12 / N:Nat):Int):=wN (by omega)
  have cs:=sShift f (k*12 / N) (by omega)
  have hpa:=fun d=>partsN_at (a:=A) hlt d
  have hpn:=partsN_len A N
  simp only [e1,e2,e3,hpa,hpn,vcd,↓vcp,seval]
  repeat' first|((first|refine tp hP (by exact cs) ?_|refine tg hP (fun _=>by exact cs) ?_|refine tv hP rfl (by exact cs) ?_);try simp only [e1,e2,e3,hpa,hpn,vcd,↓vcp,seval])|refine ⟨fun h=>?_,fun h=>?_⟩|refine aO ?_|refine aT ?_|fail
  ·have h':¬ (shiftN f (k*12 / N)).2=0:=by simpa using h
   rw [if_pos (fits_not hlt h')] at hq
   (refine RetK.pure (by simp only [rs13,rsb,vcd,↓vcp,seval]) (VLe.tups ?_);simp only [rs13,rsb,vcd,↓vcp,seval])
   rw [hq];exact ⟨VLe.nil rfl (by simp),VLe.refl _,trivial⟩
  ·have h':(shiftN f (k*12 / N)).2=0:=by simpa using h
   refine lopK.on (k+1) ⟨hlt,fun i hi=>?_⟩ (by omega) ?_
   ·by_cases e:i=k
    ·rw [e];exact h'
    ·exact hok i (by omega)
   simp only [rowB,plan_snoc]
   exact (Wk.snoc (k:=59) _ hfn rfl rfl rfl rfl (OLe.app1 (cells:=fun n:Bl=>[.int .i64 n.du,.int .i64 n.am,.int .i64 n.pa]) (fun i hi=>by simp only [if_pos hi]) (by simp [planB])) (by (simp only [enb,vcd,↓vcp,seval])<;>(first|exact wS (by omega)|(rw [List.length_append];exact wS (by omega))|assumption)) (by simp only [enb,vcd,↓vcp,seval]) (by simp) (by simp only [enb,vcd,↓vcp,seval]) (by simp only [enb,vcd,↓vcp,seval]))
 ·have hkl:k=N:=by have:=of_decide_eq_false h1;omega
  subst hkl
  rw [if_neg (by rw [fits_all hok];simp)] at hq
  repeat' first|refine ⟨fun h=>?_,fun h=>?_⟩|refine aO ?_|refine aT ?_|fail
  refine RetK.mk _ (Wk.pub 1000 rfl) (by simp only [rs13,rsb,vcd,↓vcp,seval]) ?_ trivial
  simp only [rs13,rsb,vcd,↓vcp,seval]
  rw [hq];exact VLe.tups ⟨VLe.refl _,VLe.refl _,trivial⟩
end Go.Proofs.YtanppabbmffokaaGreat
end
section
namespace Go.Proofs.YtanppabbmffokaaGreat
open Go.Bx
set_option maxRecDepth 10000
theorem sMust0:Ctr Tryz.prog 76 [.d (.int .i64 0)] [] (.tup []) [] []:=by
 refine ctr_pure Tryz.func76 ok76 rfl cc76 cr76 Tryz.ntmps76 (by simp) rfl rfl ?_;intro c hP hfn;simp only [kc76,vcd,↓vcp,seval]
 repeat' first|refine ⟨fun h=>?_,fun h=>?_⟩|refine aO ?_|refine aT ?_|fail
 all_goals exact RetK.pure (by simp only [rs76,rsb,vcd,↓vcp,seval]) (by (simp only [rs76,rsb,enb,vcd,↓vcp,seval])<;>(first|trivial))
theorem sMust1 (e:Int) (h:e≠0):CtrP Tryz.prog 76 [.d (.int .i64 e)] (vErr e):=by
 have h1:(e != 0)=true:=by rw [bne_iff_ne];exact h
 refine ctr_panics Tryz.func76 ok76 rfl cc76 Tryz.ntmps76 (by simp) rfl rfl ?_;intro c hP hfn hpk;simp only [kc76,h1,vcd,↓vcp,seval]
 repeat' first|refine ⟨fun h=>?_,fun h=>?_⟩|refine aO ?_|refine aT ?_|fail
 refine TR.pnc rfl trivial ?_
 rw [hpk];exact VLe.refl _
theorem sIn (f t d:Int):Ctr Tryz.prog 32 [vS f t,.d (.int .i64 d)] [] (.d (.bool (decide (d≥(keptR f t).1)&&decide (d<(keptR f t).2)))) [] []:=by
 have ck:=sKept f t
 simp only [vS] at ck
 refine ctr_pure Tryz.func32 ok32 rfl cc32 cr32 Tryz.ntmps32 (by simp) rfl rfl ?_;intro c hP hfn;simp only [kc32,vS,vcd,↓vcp,seval]
 repeat' first|((first|refine tp hP (by exact ck) ?_|refine tg hP (fun _=>by exact ck) ?_|refine tv hP rfl (by exact ck) ?_);try simp only [vcd,↓vcp,seval])|refine ⟨fun h=>?_,fun h=>?_⟩|refine aO ?_|refine aT ?_|fail
 exact RetK.pure (by simp only [rs32,rsb,vcd,↓vcp,seval]) (by (simp only [rs32,rsb,enb,vcd,↓vcp,seval])<;>(first|rfl))
theorem sDay (n:Int):Ctr Tryz.prog 85 [.d (.int .i64 n)] [] (.d (.bool (decide (n≥1)&&decide (n≤292194)))) [] []:=by
 refine ctr_pure Tryz.func85 ok85 rfl cc85 cr85 Tryz.ntmps85 (by simp) rfl rfl ?_;intro c hP hfn;simp only [kc85,vcd,↓vcp,seval]
 exact RetK.pure (by simp only [rs85,rsb,vcd,↓vcp,seval]) (by (simp only [rs85,rsb,enb,vcd,↓vcp,seval])<;>(first|rfl))
def covR:Int→List Cv→Bool
 |_,[]=>true
 |last,c::r=>!(decide (c.pe≤last) || !(rightC c))&&covR c.pe r
def coversT (l:List Cv):Bool:=covR (-1) l&&(decide (1≤l.length)&&decide (l.length≤8))
theorem sCovers (l:List Cv) (hl:l.length≤9223372036854775807):Ctr Tryz.prog 132 [.d (slC l)] [] (.d (.bool (coversT l))) [] []:=by
 refine ctr_pure Tryz.func132 ok132 rfl cc132 cr132 Tryz.ntmps132 (by simp) rfl rfl ?_;intro c hP hfn;simp only [kc132,slC,vcd,↓vcp,seval]
 refine vcC.loop (X:=Nat×Int) (fun x=>⟨[(0,.d (slC l)),(3,.d (.int .i64 x.2)),(6,.d (slC l)),(7,.d (.int .i64 l.length)),(8,.d (.int .i64 x.1))],[],[]⟩)
  (fun x=>x.1≤l.length∧covR (-1) l=covR x.2 (l.drop x.1)) (fun x=>l.length-x.1) (0,-1) ⟨Nat.zero_le _,rfl⟩ (Wk.of _ hfn rfl (by simp only [slC,enb,vcd,↓vcp,seval]) (by simp only [enb,vcd,↓vcp,seval])) ?_
 rintro ⟨k,last⟩ ⟨hk,he⟩
 simp only at hk he
 by_cases hlt:k<l.length
 ·obtain ⟨c',hd,hg,-,-⟩:=drop_at hlt
  have d0:decide ((k:Int)<(l.length:Int))=true:=decide_eq_true (by omega)
  have ewk:IntKind.i64.wrap ((k:Int)+1)=((k+1:Nat):Int):=wS (by omega)
  have cc:=sCover c'
  simp only [vC,cC] at cc
  rw [hd,covR] at he
  simp only [slC,hg,d0,ewk,vcd,↓vcp,seval]
  repeat' first|((first|refine tp hP (by exact cc) ?_|refine tg hP (fun _=>by exact cc) ?_|refine tv hP rfl (by exact cc) ?_);try simp only [hg,ewk,vcd,↓vcp,seval])|refine ⟨fun h=>?_,fun h=>?_⟩|refine aO ?_|refine aT ?_|fail
  ·have e:coversT l=false:=by rw [coversT,he,h];rfl
   exact RetK.pure (by simp only [rs132,rsb,vcd,↓vcp,seval]) (by (simp only [rs132,rsb,enb,vcd,↓vcp,seval])<;>(first|rw [e]))
  ·rw [h] at he
   exact lopK.on (k+1,c'.pe) ⟨hlt,by simpa using he⟩ (by simp only;omega) (Wk.of _ hfn rfl (by simp only [slC,enb,vcd,↓vcp,seval]) (by simp only [enb,vcd,↓vcp,seval]))
 ·have hkl:k=l.length:=by omega
  have d0:decide ((k:Int)<(l.length:Int))=false:=decide_eq_false (by omega)
  rw [hkl,List.drop_length,covR] at he
  have e:coversT l=(decide ((l.length:Int)≥1)&&decide ((l.length:Int)≤8)):=by
   rw [coversT,he,Bool.true_and]
   congr 1
   ·exact decide_eq_decide.2 (by omega)
   ·exact decide_eq_decide.2 (by omega)
  simp only [slC,d0,vcd,↓vcp,seval]
  repeat' first|refine ⟨fun h=>?_,fun h=>?_⟩|refine aO ?_|refine aT ?_|fail
  exact RetK.pure (by simp only [rs132,rsb,vcd,↓vcp,seval]) (by (simp only [rs132,rsb,enb,vcd,↓vcp,seval])<;>(first|rw [e]))
structure Tm where
 sf:Int
 st:Int
 rk:Rk
 cv:List Cv
instance:Inhabited Tm:=⟨⟨0,0,default,[]⟩⟩
structure Ch where
 bk:Int
 dy:Int
 kd:Int
 rk:Rk
 cv:List Cv
 wy:Int
instance:Inhabited Ch:=⟨⟨0,0,0,default,[],0⟩⟩
structure Hi where
 id:Int
 bk:Int
 tm:Tm
 ch:List Ch
def cTm (t:Tm):List V:=[.d (.int .i64 t.sf),.d (.int .i64 t.st),.d (.int .i64 t.rk.kd),.d (.int .i64 t.rk.va),.d (.int .i64 t.rk.ag),.d (.int .i64 t.rk.zo),.d (slC t.cv)]
def vTm (t:Tm):V:=.ag (cTm t)
def cCh (c:Ch):List V:=[.d (.int .i64 c.bk),.d (.int .i64 c.dy),.d (.int .i64 c.kd),.d (.int .i64 c.rk.kd),.d (.int .i64 c.rk.va),.d (.int .i64 c.rk.ag),.d (.int .i64 c.rk.zo),.d (slC c.cv),.d (.int .i64 c.wy)]
def vCh (c:Ch):V:=.ag (cCh c)
def dCh (c:Ch):List D:=[.int .i64 c.bk,.int .i64 c.dy,.int .i64 c.kd,.int .i64 c.rk.kd,.int .i64 c.rk.va,.int .i64 c.rk.ag,.int .i64 c.rk.zo,slC c.cv,.int .i64 c.wy]
def slH (l:List Ch):D:=.sl false 9 l.length (fun i=>dCh (l.getD i default))
def cHi (h:Hi):List V:=[.d (.int .i64 h.id),.d (.int .i64 h.bk),.d (.int .i64 h.tm.sf),.d (.int .i64 h.tm.st),.d (.int .i64 h.tm.rk.kd),.d (.int .i64 h.tm.rk.va),.d (.int .i64 h.tm.rk.ag),.d (.int .i64 h.tm.rk.zo),.d (slC h.tm.cv),.d (slH h.ch)]
def vHi (h:Hi):V:=.ag (cHi h)
def dayB (n:Int):Bool:=decide (n≥1)&&decide (n≤292194)
def noRk (r:Rk):Bool:=(r.kd == 0)&&((r.va == 0)&&((r.ag == 0)&&(r.zo == 0)))
def ck1 (c:Ch):Bool:=rightR c.rk&&((c.cv.length:Int) == 0)&&(c.wy == 0)
def ck2 (c:Ch):Bool:=coversT c.cv&&noRk c.rk&&(c.wy == 0)
def ck3 (c:Ch):Bool:=((c.wy == 0) || (c.wy == 1))&&((c.cv.length:Int) == 0)&&noRk c.rk
def ck4 (c:Ch):Bool:=(c.wy == 0)&&((c.cv.length:Int) == 0)&&noRk c.rk
theorem sCk1 (c:Ch):Ctr Tryz.prog 129 [vCh c] [] (.d (.bool (ck1 c))) [] []:=by
 have cr:=sRisk c.rk
 simp only [vR,cR] at cr
 refine ctr_pure Tryz.func129 ok129 rfl cc129 cr129 Tryz.ntmps129 (by simp) rfl rfl ?_;intro c hP hfn;simp only [kc129,vCh,cCh,slC,vcd,↓vcp,seval]
 repeat' first|((first|refine tp hP (by exact cr) ?_|refine tg hP (fun _=>by exact cr) ?_|refine tv hP rfl (by exact cr) ?_);try simp only [vcd,↓vcp,seval])|refine ⟨fun h=>?_,fun h=>?_⟩|refine aO ?_|refine aT ?_|fail
 exact RetK.pure (by simp only [rs129,rsb,vcd,↓vcp,seval]) (by (simp only [rs129,rsb,enb,vcd,↓vcp,seval])<;>(first|rfl))
theorem sCk2 (c:Ch) (hl:c.cv.length≤9223372036854775807):Ctr Tryz.prog 131 [vCh c] [] (.d (.bool (ck2 c))) [] []:=by
 have cr:=sCovers c.cv hl
 simp only [slC] at cr
 refine ctr_pure Tryz.func131 ok131 rfl cc131 cr131 Tryz.ntmps131 (by simp) rfl rfl ?_;intro c hP hfn;simp only [kc131,vCh,cCh,slC,vcd,↓vcp,seval]
 repeat' first|((first|refine tp hP (by exact cr) ?_|refine tg hP (fun _=>by exact cr) ?_|refine tv hP rfl (by exact cr) ?_);try simp only [vcd,↓vcp,seval])|refine ⟨fun h=>?_,fun h=>?_⟩|refine aO ?_|refine aT ?_|fail
 exact RetK.pure (by simp only [rs131,rsb,vcd,↓vcp,seval]) (by (simp only [rs131,rsb,enb,vcd,↓vcp,seval])<;>(first|rfl))
theorem sCk3 (c:Ch):Ctr Tryz.prog 133 [vCh c] [] (.d (.bool (ck3 c))) [] []:=by
 refine ctr_pure Tryz.func133 ok133 rfl cc133 cr133 Tryz.ntmps133 (by simp) rfl rfl ?_;intro c hP hfn;simp only [kc133,vCh,cCh,slC,vcd,↓vcp,seval]
 repeat' first|refine ⟨fun h=>?_,fun h=>?_⟩|refine aO ?_|refine aT ?_|fail
 exact RetK.pure (by simp only [rs133,rsb,vcd,↓vcp,seval]) (by (simp only [rs133,rsb,enb,vcd,↓vcp,seval])<;>(first|rfl))
theorem sCk4 (c:Ch):Ctr Tryz.prog 134 [vCh c] [] (.d (.bool (ck4 c))) [] []:=by
 refine ctr_pure Tryz.func134 ok134 rfl cc134 cr134 Tryz.ntmps134 (by simp) rfl rfl ?_;intro c hP hfn;simp only [kc134,vCh,cCh,slC,vcd,↓vcp,seval]
 repeat' first|refine ⟨fun h=>?_,fun h=>?_⟩|refine aO ?_|refine aT ?_|fail
 exact RetK.pure (by simp only [rs134,rsb,vcd,↓vcp,seval]) (by (simp only [rs134,rsb,enb,vcd,↓vcp,seval])<;>(first|rfl))
end Go.Proofs.YtanppabbmffokaaGreat
end
