import Derived.Test.YtakohhkgeeoniaaGreatXA5
import Derived.RecoverIn
import Derived.KernelRfl
import Derived.CheckFast
import Derived.Test.YtakohhkgeeoniaaGreatRows
import Derived.Tactics
import Derived.Tactics2
import Derived.TacticsInMore
import Derived.RegionIn
import Derived.Laws.Pointers
import Derived.Lib.Mul64
set_option linter.unusedSimpArgs false
set_option linter.unusedVariables false
set_option maxHeartbeats 8000000
section
namespace Go.Bx
open Go.RowKit
def Jn (c:B3) (cc:C) (st:St) (K:Cs):Prop:=∀ (n:Nat) (code:Code),Av c.P c.nt n code=some cc→∀ β a w,Aa c β st a w→code.wpIn c.F 0 c.P (Fl c K) a w
theorem Jn.of {c:B3} {cc:C} {st:St} {K:Cs} (h:B4 c cc st K):Jn c cc st K:=λn _ hc=>M0 n hc h
theorem Jn.seq {c:B3} {ca cb:C} {st:St} {K K1:Cs} (h:Jn c ca st K1) (hn:∀ st',K1 .nrm st'→∃ st1,Wk c st' st1∧Jn c cb st1 K) (he:∀ i st',K1 (.exit i) st'→K (.exit i) st') (hr:∀ st',K1 .ret st'→K .ret st'):Jn c (.seq ca cb) st K:=by
 intro n code hc β a w H
 cases n with
 |zero=>simp [Av] at hc
 |succ n =>
 obtain ⟨x,y,rfl,h1,h2⟩:=T4 hc
 refine wpIn_seq (wpIn_mono (h n x h1 β a w H) ?_)
 rintro e a' w' (⟨ex,hx,β',st',hk,H'⟩|⟨ch,rfl,hpan⟩)
 rotate_left
 ·exact .inr ⟨ch,rfl,hpan⟩
 cases e<;>simp at hx<;>subst hx
 ·obtain ⟨st1,hw,hk⟩:=hn _ hk
  obtain ⟨β2,H2⟩:=hw β' a' w' H'
  exact hk n y h2 β2 a' w' H2
 ·exact .inl ⟨_,rfl,β',st',he _ _ hk,H'⟩
 ·exact .inl ⟨_,rfl,β',st',he _ _ hk,H'⟩
 ·exact .inl ⟨_,rfl,β',st',hr _ hk,H'⟩
def To (c:B3) (Q:Exit→Act→World→Prop) (IS:List I) (s0:St) (i:I) (st:St) (s:Stp):Prop:=
  ∀ (st1 : St), (∀ k, k ∈ i.slots → get st1.env k = get st.env k) → (∀ k, k ∈ s.rd → own? st1.own k = own? st.own k) → (∀ k, k ∈ s.new → k ∉ st1.nm) → (∀ k, (∀ ii, ii ∈ IS → ii.dst ≠ some k) → get st1.env k = get s0.env k) →
    ∀ (ops:Array Oper) (o:Oper),mf c ops o i→∀ (β:A6) (a:Act) (w:World),Aa c β st1 a w→∀ (K:Act→World→Prop),
      (∀ β' a' w',Aa c β' (st1.stp i.dst s) a' w'→K a' w') →
      if Region.wanted o (yielded ops a.tmps) then o.wpIn c.F 0 c.P a w K Q else K (a.put o.dst undef) w
theorem D0.q {c:B3} {Q:Exit→Act→World→Prop} {IS:List I} {s0:St} {i:I} {st:St} {s:Stp} (h:D0 c i st s):To c Q IS s0 i st s:=λst1 h1 h2 h3 _ ops o hc β a w H K hK=>h st1 h1 h2 h3 ops o hc β a w H Q K hK
inductive Jv (c:B3) (Q:Exit→Act→World→Prop) (IS:List I) (s0:St):St→List I→List Stp→St→Prop where
 |nil (st:St):Jv c Q IS s0 st [] [] st
 |cons (st:St) (i:I) (s:Stp) (is:List I) (ss:List Stp) (st':St) (hv:To c Q IS s0 i st s) (hn:∀ k,k∈s.new→k∉st.nm) (h:Jv c Q IS s0 (st.stp i.dst s) is ss st'):Jv c Q IS s0 st (i::is) (s::ss) st'
theorem ee:∀ {c:B3} {Q:Exit→Act→World→Prop} {IS:List I} {s0 st:St} {is:List I} {ss:List Stp} {st':St},Jv c Q IS s0 st is ss st'→∀ (L:Nat→Bool) (j:Nat),(∀ i,i<is.length→L (j+i)=true)→C6 L j ((is.map (·.dst)).zip ss) st=st':=by
 intro c Q IS s0 st is ss st' h
 induction h with
 |nil st=>intro L j _;rfl
 |cons st i s is ss st' hv hn _ ih =>
  intro L j hL
  simp only [List.map_cons,List.zip_cons_cons,C6]
  have h0:=hL 0 (by simp)
  simp only [Nat.add_zero] at h0
  rw [if_pos h0]
  exact ih L (j+1) (λi hi=>by have:=hL (i+1) (by simp;omega);rwa [show j+(i+1)=j+1+i by omega] at this)
theorem Yp {c:B3} {Q:Exit→Act→World→Prop} {IS:List I} {s0 st:St} {is:List I} {ss:List Stp} {st':St} (h:Jv c Q IS s0 st is ss st'):ss.length=is.length:=by
 induction h with
 |nil=>rfl
 |cons _ _ _ _ _ _ _ _ _ ih=>simp [ih]
theorem ei {c:B3} {Q:Exit→Act→World→Prop} {IS:List I} {s0 st:St} {is:List I} {ss:List Stp} {st':St} (h:Jv c Q IS s0 st is ss st'):∀ (j:Nat) (i:I) (s:Stp) (j0:Nat) (L:Nat→Bool),is[j]?=some i→ss[j]?=some s→(∀ x,x<j→L (j0+x)=true)→(∀ x,j≤x→L (j0+x)=false) →
  To c Q IS s0 i (C6 L j0 ((is.map (·.dst)).zip ss) st) s∧∀ k,k∈s.new→k∉(C6 L j0 ((is.map (·.dst)).zip ss) st).nm:=by
 induction h with
 |nil st=>intro j i s j0 L hi;simp at hi
 |cons st i0 s0 is ss st' hv hn _ ih =>
  intro j i s j0 L hi hs h1 h2
  simp only [List.map_cons,List.zip_cons_cons,C6]
  cases j with
  |zero =>
   simp at hi hs
   subst hi;subst hs
   have h0:=h2 0 (by omega)
   simp only [Nat.add_zero] at h0
   rw [if_neg (by rw [h0];simp)]
   have hrest:∀ (l:List (Option Nat×Stp)) (j':Nat),j0≤j'→C6 L j' l st=st:=by
    intro l
    induction l with
    |nil=>intro _ _;rfl
    |cons p l ih2 =>
     intro j' hj
     obtain ⟨d,s⟩:=p
     simp only [C6]
     have:=h2 (j'-j0) (by omega)
     rw [show j0+(j'-j0)=j' by omega] at this
     rw [if_neg (by rw [this];simp)]
     exact ih2 (j'+1) (by omega)
   rw [hrest _ (j0+1) (by omega)]
   exact ⟨hv,hn⟩
  |succ j =>
   simp at hi hs
   have h0:=h1 0 (by omega)
   simp only [Nat.add_zero] at h0
   rw [if_pos h0]
   exact ih j i s (j0+1) L hi hs (λx hx=>by have:=h1 (x+1) (by omega);rwa [show j0+(x+1)=j0+1+x by omega] at this) (λx hx=>by have:=h2 (x+1) (by omega);rwa [show j0+(x+1)=j0+1+x by omega] at this)
theorem Zy {c:B3} {Q:Exit→Act→World→Prop} {ops:Array Oper} {is:List I} {ss:List Stp} {st st':St} {anc:List Nat} (hT:Jv c Q is st st is ss st') (hl:ops.size=is.length) (hc:∀ (j:Nat) (o:Oper) (i:I),ops[j]?=some o→is[j]?=some i→mf c ops o i)
    (ha:Vc ops anc=true) (hsl:Of is anc=true) (hol:Hw (ss.map Stp.lg) anc=true) (hQ:∀ β a w,Aa c β st' a w→Q .normal a w) (hn:(keysO st.own).Nodup) :
    ∀ (fuel : Nat) (listed : Array Bool) (β : A6) (a : Act) (w : World), listed.size = ops.size → (fuel + (List.range ops.size).countP (λj => listed.getD j false) = ops.size) → Shut ops (λj => listed.getD j false) →
      Aa c β (C6 (λj=>listed.getD j false) 0 ((is.map (·.dst)).zip ss) st) a w→wpAnyIn c.F 0 c.P .any ops Q fuel listed a w:=by
  have hsl2:=Yp hT
  have hdone:∀ (listed:Array Bool) (β:A6) (a:Act) (w:World),listed.size=ops.size→Region.ready .any ops listed=[]→Aa c β (C6 (λj=>listed.getD j false) 0 ((is.map (·.dst)).zip ss) st) a w→Q .normal a w:=by
    intro listed β a w hsz hr H
    have hall:=S8 ha hsz hr
    rw [ee hT (λj=>listed.getD j false) 0 (λi hi=>by simpa using hall i (by omega))] at H
    exact hQ β a w H
  intro fuel
  induction fuel with
  |zero =>
    intro listed β a w hsz hf hsh H
    have hall:∀ j,j<ops.size→listed.getD j false=true:=by
      intro j hj
      have:(List.range ops.size).countP (λj=>listed.getD j false)=(List.range ops.size).length:=by rw [List.length_range];omega
      exact List.countP_eq_length.1 this j (List.mem_range.2 hj)
    have hr:Region.ready .any ops listed=[]:=by
      cases h:Region.ready .any ops listed with
      |nil=>rfl
      |cons x l =>
        obtain ⟨h1,h2,_⟩:=Kf (by rw [h];exact List.mem_cons_self)
        have:=hall x h1
        have hx:x<listed.size:=by omega
        simp [hx] at h2 this
        rw [h2] at this
        cases this
    exact ⟨hr,hdone listed β a w hsz hr H⟩
  |succ fuel ih =>
    intro listed β a w hsz hf hsh H
    refine ⟨λhr=>hdone listed β a w hsz hr H,λJ hJ=>?_⟩
    obtain ⟨h1,h2,o,ho,h3⟩:=Kf hJ
    have hJl:J<listed.size:=by omega
    have hLJ:listed.getD J false=false:=by
      simp [hJl] at h2 ⊢
      exact h2
    have hJi:is[J]?=some (is[J]'(by omega)):=List.getElem?_eq_getElem (by omega)
    have hJs:ss[J]?=some (ss[J]'(by omega)):=List.getElem?_eq_getElem (by omega)
    generalize hiJ:is[J]'(by omega)=iJ at hJi
    generalize hsJ:ss[J]'(by omega)=sJ at hJs
    have hsteps:∀ (i:Nat) (d:Option Nat) (s:Stp),((is.map (·.dst)).zip ss)[i]?=some (d,s)→∃ ii,is[i]?=some ii∧ss[i]?=some s∧ii.dst=d:=by
      intro i d s h
      rw [List.getElem?_zip_eq_some] at h
      obtain ⟨q1,q2⟩:=h
      rw [List.getElem?_map,Option.map_eq_some_iff] at q1
      obtain ⟨ii,q3,q4⟩:=q1
      exact ⟨ii,q3,q2,q4⟩
    have hahead:∀ i,Fw anc J i=true→listed.getD i false=true:=J0 ha hsh J o ho h3
    have hbehind:∀ i,Fw anc i J=true→i<ops.size→listed.getD i false=false:=by
      intro i hi hlt
      cases h:listed.getD i false with
      |false=>rfl
      |true =>
        have hoi:=Array.getElem?_eq_getElem hlt
        have:=J0 ha hsh i _ hoi (λe he hb=>hsh i _ hoi h e he hb) J hi
        rw [hLJ] at this
        cases this
    have hmeet:∀ i ii si,is[i]?=some ii→ss[i]?=some si→(G8 ii iJ=true∨Ep si.lg sJ.lg=true)→i≠J→listed.getD i false=decide (i<J):=by
      intro i ii si hi hs hm hne
      have hlt:i<ops.size:=by have:=(List.getElem?_eq_some_iff.1 hi).1;omega
      have hlgi:(ss.map Stp.lg)[i]?=some si.lg:=by simp [hs]
      have hlgJ:(ss.map Stp.lg)[J]?=some sJ.lg:=by simp [hJs]
      have hsym:∀ x y,G8 x y=G8 y x:=λx y=>by simp [G8,Bool.or_comm]
      have hsymL:∀ x y,Ep x y=Ep y x:=λx y=>by simp [Ep,Bool.or_comm]
      by_cases hij:i<J
      · have:Fw anc J i=true:=by
          rcases hm with hm|hm
          · exact J1 hsl hij hi hJi hm
          · exact Md hol hij hlgi hlgJ hm
        rw [hahead i this]
        simp [hij]
      · have:Fw anc i J=true:=by
          rcases hm with hm|hm
          · exact J1 hsl (by omega) hJi hi (by rw [hsym];exact hm)
          · exact Md hol (by omega) hlgJ hlgi (by rw [hsymL];exact hm)
        rw [hbehind i this hlt]
        simp;omega
    obtain ⟨hv,hnew⟩:=ei hT J iJ sJ 0 (λx=>decide (x<J)) hJi hJs (λx hx=>by simp;exact hx) (λx hx=>by simp;exact hx)
    refine Nu ho λK' hK'=>?_
    refine hv _ (λk hk=>?_) (λk hk=>?_) (λk hk=>?_) (λk hk=>?_) ops o (hc J o iJ ho hJi) β a w H K' λβ' a' w' H'=>hK' a' w' ?_
    · 
      refine Mu _ 0 _ _ rfl (λi d s hi hd=>?_)
      obtain ⟨ii,q1,q2,q3⟩:=hsteps i d s hi
      simp only [Nat.zero_add]
      by_cases hne:i=J
      · subst hne;rw [hLJ];simp
      · exact hmeet i ii s q1 q2 (.inl (by simp [G8,gn,q3,hd,hk])) hne
    · refine Qd _ 0 _ _ hn hn rfl (λi d s hi hd=>?_)
      obtain ⟨ii,q1,q2,q3⟩:=hsteps i d s hi
      simp only [Nat.zero_add]
      by_cases hne:i=J
      · subst hne;rw [hLJ];simp
      · refine hmeet i ii s q1 q2 (.inr ?_) hne
        unfold Ep Rv
        rw [Bool.or_eq_true]
        left
        refine List.any_eq_true.2 ⟨k,by simp only [Stp.lg];exact List.mem_append_left _ hd,?_⟩
        simp [Stp.lg,hk]
    · 
      intro hin
      rw [Mw] at hin
      have h0:=hnew k hk
      rw [Mw] at h0
      rcases hin with hin|⟨i,d,s,ow,q0,qL,q5⟩
      · exact h0 (.inl hin)
      · obtain ⟨ii,q1,q2,q3⟩:=hsteps i d s q0
        simp only [Nat.zero_add] at qL
        by_cases hne:i=J
        · subst hne;rw [hLJ] at qL;cases qL
        · have:=hmeet i ii s q1 q2 (.inr (by
            unfold Ep Rv
            rw [Bool.or_eq_true]
            left
            refine List.any_eq_true.2 ⟨k,by simp only [Stp.lg];exact List.mem_append_left _ (List.mem_map.2 ⟨(k,some ow),q5,rfl⟩),?_⟩
            simp [Stp.lg,hk])) hne
          rw [this] at qL
          exact h0 (.inr ⟨i,d,s,ow,q0,by simpa using qL,q5⟩)
    · 
      have h1:C6 (λ_=>false) 0 ((is.map (·.dst)).zip ss) st=st:=by
        have:∀ (l:List (Option Nat×Stp)) (j:Nat),C6 (λ_=>false) j l st=st:=by
          intro l
          induction l with
          |nil=>intro _;rfl
          |cons p l ih=>intro j;obtain ⟨d,s⟩:=p;simp only [C6];exact ih (j+1)
        exact this _ 0
      conv=>rhs;rw [←h1]
      refine Mu _ 0 _ _ rfl (λi d s hi hd=>?_)
      obtain ⟨ii,q1,q2,q3⟩:=hsteps i d s hi
      exact absurd (q3.trans hd) (hk ii (List.mem_of_getElem? q1))
    · 
      have hL':∀ j,(listed.setIfInBounds J true).getD j false=(listed.getD j false || j == J):=λj=>by
        simp only [Array.getD_eq_getD_getElem?,Array.getElem?_setIfInBounds]
        by_cases e:J=j
        · subst e;simp [hJl]
        · have:(j == J)=false:=by simp;exact λx=>e x.symm
          simp [e,this]
      have hfun:(λj=>(listed.setIfInBounds J true).getD j false)=(λj=>listed.getD j false || j == J):=funext hL'
      refine ih (listed.setIfInBounds J true) β' a' w' (by simp [hsz]) ?_ ?_ ?_
      · rw [hfun]
        have hcount:(List.range ops.size).countP (λj=>listed.getD j false || j == J)=(List.range ops.size).countP (λj=>listed.getD j false)+1:=by
          have:∀ n,J<n→(List.range n).countP (λj=>listed.getD j false || j == J)=(List.range n).countP (λj=>listed.getD j false)+1:=by
            intro n
            induction n with
            |zero=>intro h;omega
            |succ n ihn =>
              intro h
              rw [List.range_succ,List.countP_append,List.countP_append]
              by_cases e:n=J
              · subst e
                have:(List.range n).countP (λj=>listed.getD j false || j == n)=(List.range n).countP (λj=>listed.getD j false):=by
                  apply List.countP_congr
                  intro x hx
                  have:=List.mem_range.1 hx
                  have h5:(x == n)=false:=by simp;omega
                  simp [h5]
                rw [this,List.countP_singleton,List.countP_singleton,hLJ]
                simp
              · rw [ihn (by omega)]
                have h5:(n == J)=false:=by simp;exact e
                simp [h5]
                omega
          exact this ops.size h1
        rw [hcount]
        omega
      · intro j oj hoj hj e he hb
        simp only [hL'] at hj ⊢
        rcases Bool.or_eq_true _ _▸hj with h|h
        · have:=hsh j oj hoj h e he hb
          simp only at this
          rw [this];rfl
        · simp at h
          subst h
          rw [ho] at hoj
          cases hoj
          rw [h3 e he hb];rfl
      · rw [hfun]
        have hz:((is.map (·.dst)).zip ss)[J-0]?=some (iJ.dst,sJ):=by
          rw [List.getElem?_zip_eq_some]
          exact ⟨by simp [hJi],by simpa using hJs⟩
        have hmore:=N0 (λj=>listed.getD j false) hLJ ((is.map (·.dst)).zip ss) 0 st iJ.dst sJ hn (Nat.zero_le _) hz (λi d' s' hi hg hLi=>by
          obtain ⟨ii,q1,q2,q3⟩:=hsteps i d' s' (by simpa using hg)
          have hnm:¬ (G8 ii iJ=true∨Ep s'.lg sJ.lg=true):=λhm=>by
            have:=hmeet i ii s' q1 q2 hm (by omega)
            rw [this] at hLi
            simp at hLi
            omega
          refine ⟨λx hx hd=>hnm (.inl ?_),λk hk hk2=>hnm (.inr ?_)⟩
          · simp [G8,gn,q3,hd,hx]
          · unfold Ep Rv
            rw [Bool.or_eq_true]
            left
            refine List.any_eq_true.2 ⟨k,by simp only [Stp.lg];exact List.mem_append_left _ hk2,?_⟩
            simp only [Stp.lg,Bool.or_eq_true]
            left
            simp only [List.contains_iff_mem]
            exact List.mem_append_left _ hk)
        exact H'.ext hmore (Ln _ _ _ _ hn)
def J9 (c:B3) (Q:Exit→Act→World→Prop) (IS:List I) (s0:St) (is:List I) (st:St) (acc:List Lg) (K:List Lg→St→Prop):Prop:=∃ ss st',Jv c Q IS s0 st is ss st'∧K (acc++ss.map Stp.lg) st'
theorem J9.app {c:B3} {Q:Exit→Act→World→Prop} {IS:List I} {s0:St} {rest:List I} {K:List Lg→St→Prop}:∀ {pre:List I} {st:St} {acc:List Lg},TR c true pre st acc (λlg st'=>J9 c Q IS s0 rest st' lg K)→J9 c Q IS s0 (pre++rest) st acc K:=by
 intro pre st acc h
 obtain ⟨ss,st',hT,ss2,st2,hT2,hK⟩:=h
 refine ⟨ss++ss2,st2,?_,by simpa using hK⟩
 clear hK
 induction hT with
 |nil=>exact hT2
 |cons st i s is ss st' hv hn _ ih=>exact .cons _ _ _ _ _ _ hv.q hn (ih hT2)
theorem J9.of {c:B3} {Q:Exit→Act→World→Prop} {IS:List I} {s0:St} {is:List I} {K:List Lg→St→Prop} {st:St} {acc:List Lg} (h:TR c true is st acc K):J9 c Q IS s0 is st acc K:=by
 have:=J9.app (c:=c) (Q:=Q) (IS:=IS) (s0:=s0) (rest:=[]) (K:=K) (pre:=is) (st:=st) (acc:=acc) (TR.mono (λlg st' hk=>⟨[],st',.nil _,by simpa using hk⟩) h)
 simpa using this
theorem J9.cons {c:B3} {Q:Exit→Act→World→Prop} {IS:List I} {s0:St} {i:I} {is:List I} {K:List Lg→St→Prop} {st:St} {acc:List Lg} (s:Stp) (hv:To c Q IS s0 i st s) (hn:∀ k,k∈s.new→k∉st.nm) (h:J9 c Q IS s0 is (st.stp i.dst s) (acc++[s.lg]) K):J9 c Q IS s0 (i::is) st acc K:=by
 obtain ⟨ss,st',h1,h2⟩:=h
 exact ⟨s::ss,st',.cons _ _ _ _ _ _ hv hn h1,by simpa using h2⟩
def ij:V:=.d (.sl false 1 1 (λ_=>[]))
theorem yu {β:A6} {E:Nat→Prop} {w:World} {v:Value} (h:Ai β E w v ij):False:=by
 cases h with
 |d _ _ h=>cases h with
  |sl _ _ _ _ _ _ _ _ _ _ hl _ _=>have:=hl 0 (by decide);simp at this
theorem Jn.drw {c:B3} {anc:List Nat} {is:List I} {st:St} {K:Cs} (h:J9 c (Fl c K) is st is st [] (λlg st'=>Hw lg anc=true∧∀ β a w,Aa c β st' a w→K .nrm st')):Jn c (.drw anc is) st K:=by
 intro n code hc β a w H
 cases n with
 |zero=>simp [Av] at hc
 |succ n =>
 cases code with
 |region id ops draw =>
  simp only [Av] at hc
  split at hc
  ·rename_i is' his
   obtain ⟨hl,hcmp⟩:=Gs his
   split at hc
   ·cases hc
   ·rename_i hd
    have hd:draw=true:=by simpa using hd
    subst hd
    split at hc
    ·rename_i hh
     cases hc
     obtain ⟨ss,st',hT,hk⟩:=h
     simp only [List.nil_append] at hk
     refine wpIn_region_any hh.1 ?_
     have hr0:C6 (λj=>(Array.replicate ops.size false).getD j false) 0 ((is.map (·.dst)).zip ss) st=st:=by
      have:∀ (l:List (Option Nat×Stp)) (j:Nat),C6 (λj=>(Array.replicate ops.size false).getD j false) j l st=st:=by
       intro l
       induction l with
       |nil=>intro _;rfl
       |cons p l ih =>
        intro j
        obtain ⟨d,s⟩:=p
        simp only [C6]
        have:(Array.replicate ops.size false).getD j false=false:=by
         simp only [Array.getD_eq_getD_getElem?,Array.getElem?_replicate]
         split<;>rfl
        rw [if_neg (by rw [this];simp)]
        exact ih (j+1)
      exact this _ 0
     refine Zy (c:=c) hT (by simpa using hl) (λj o i ho hi=>hcmp j o i (by simpa using ho) hi) hh.2.1 hh.2.2 hk.1 (λβ a w H'=>.inl ⟨.nrm,rfl,β,st',hk.2 β a w H',H'⟩) H.own.nodup ops.size _ β a _ (by simp) ?_ ?_ (by rw [hr0];exact H.drew _)
     ·have:(List.range ops.size).countP (λj=>(Array.replicate ops.size false).getD j false)=0:=by
       rw [List.countP_eq_zero]
       intro j hj
       have:=List.mem_range.1 hj
       simp [this]
      omega
     ·intro j o ho hj
      have hjl:=(Array.getElem?_eq_some_iff.1 ho).1
      simp [hjl] at hj
    ·cases hc
  ·cases hc
 |seq x y=>simp only [Av] at hc;split at hc<;>cases hc
 |cond x a b=>simp only [Av] at hc;split at hc<;>cases hc
 |block id a=>simp only [Av,Option.map_eq_some_iff] at hc;obtain ⟨_,_,h⟩:=hc;cases h
 |loop a=>simp only [Av,Option.map_eq_some_iff] at hc;obtain ⟨_,_,h⟩:=hc;cases h
 |scope a =>
  simp only [Av] at hc
  split at hc
  ·split at hc
   ·split at hc<;>cases hc
   ·cases hc
  ·cases hc
 |rangeFunc g ps asg body =>
  simp only [Av] at hc
  split at hc
  ·split at hc<;>cases hc
  ·cases hc
 |_=>simp [Av] at hc
end Go.Bx
end
section
namespace Go.Bx
open Go.RowKit
theorem impFT {A:Prop}:(false=true→A)=True:=eq_true (λh=>by cases h)
theorem impTF {A:Prop}:(true=false→A)=True:=eq_true (λh=>by cases h)
theorem Xg (x:X):isCall (.pnc x)=true:=rfl
theorem ft (x:X):makes (.pnc x)=false:=rfl
theorem Xo (z:D) (x i:X):isCall (.lkq z x i)=false:=rfl
theorem fc (z:D) (x i:X):makes (.lkq z x i)=false:=rfl
def Kv (P:Program) (f:FuncId) (args:List V) (x:V):Prop:=
  In P f=true ∧
  ∀ (E0 : Nat → Prop) (β : A6) (w : World) (vals : Array Value), (∀ b, E0 b → b < w.heap.size) → vals.size = args.length →
    (∀ (j:Nat) (v:Value) (y:V),vals[j]?=some v→args[j]?=some y→Ai β (Eo E0 β []) w v y) →
    Calls P f vals w λe w'=>∃ v,e=.panicked [{ v:=v,recovered:=false }]∧Ai β (Eo E0 β []) w' v x∧Aw (Co β []) w w'
theorem Kv.arg {P:Program} {f:FuncId} {args args':List V} {x:V} (h:Kv P f args' x) (hv:VsLe args args'):Kv P f args x:=by
 obtain ⟨h1,h4⟩:=h
 obtain ⟨hl,hr⟩:=VsLe.get hv
 refine ⟨h1,λE0 β w vals hE hsz hvals=>h4 E0 β w vals hE (hsz.trans hl) λj v x hv' hx=>?_⟩
 have hj:j<args.length:=by have:=(List.getElem?_eq_some_iff.1 hx).1;omega
 exact hr j args[j] x (List.getElem?_eq_getElem hj) hx _ _ _ _ (hvals j v args[j] hv' (List.getElem?_eq_getElem hj))
theorem At.nil (E0:Nat→Prop) (β:A6) (w:World):At E0 β w []:=⟨λk o h=>by simp at h,by simp [keysO],λk k' h=>by simp [keysO] at h,λk h=>by simp [keysO] at h⟩
section
variable {c:B3} {β:A6} {a:Act} {w:World}
theorem kj {st1:St} (H:Aa c β st1 a w) {o:Oper} {f:FuncId} {args:List V} {x:V} (hS:Kv c.P f args x)
  {vals:Array Value} (hrun:(execOp a.eval o).run c.P w=.ok (.enter f vals) w) (hsz:vals.size=args.length)
  (hv:∀ (j:Nat) (v:Value) (x:V),vals[j]?=some v→args[j]?=some x→Ai β (Eo c.E0 β st1.own) w v x) {Q:Exit→Act→World→Prop} {K:Act→World→Prop}
  (hQ:∀ a' w' v,Aa c β st1 a' w'→Ai β (Eo c.E0 β st1.own) w' v x→Q (.panic [{ v:=v,recovered:=false }]) a' w'):o.wpIn c.F 0 c.P a w K Q:=by
 have hE:=Ok (c:=c) (β:=β) (st1:=st1) (ins:=[]) (λk o h=>by simp at h)
 have hcall:=hS.2 (λb=>c.E0 b∨∃ k,k∈keysO st1.own∧k∉keysO []∧β.blk k=some b) β w vals (by
  rintro b (h|⟨k,h1,_,h3⟩)
  ·have:=c.hE b h
   have:=H.kp.size
   omega
  ·exact (H.own.lt k h1 b h3).1) hsz (by rw [hE];exact hv)
 refine Oper.wpc_enter hrun (hcall.mono λe w' he=>?_)
 obtain ⟨v,rfl,h3,hk⟩:=he
 rw [hE] at h3
 have h:=Is (ins:=[]) (outs:=[]) (new:=[]) (β':=β) H (λk o h=>by simp at h) (by simp) (by simp) (A6.le.refl β) (λ_ _=>rfl) (At.nil _ _ _) hk (by simp [keysO])
 exact hQ a w' v h.1 h3
end
section
variable {c:B3} {st:St}
theorem bf {ops:Array Oper} {o:Oper} {d:Option Nat} {q:O} (hc:mf c ops o ⟨d,none,q⟩):o.guard=none:=by
 have hcg:=hc.gd
 cases hg:o.guard with
 |none=>rfl
 |some jw=>simp only [hg] at hcg;obtain ⟨s,_,h⟩:=hcg;cases h
theorem Jh {d:Option Nat} {f:Nat} {xs:List X} {x:V} (hS:Kv c.P f (evVs st xs) x) (hs:evSs true st xs):Tt c ⟨d,none,.call f xs⟩ st st x:=by
 intro ops o hc β a w H Q K hQ
 refine ⟨by simp [Region.wanted,bf hc],?_⟩
 obtain ⟨cl,hcl,hcc⟩:=Gy hc.op rfl (by simp)
 obtain ⟨h4,h5⟩:=Lw hcc
 obtain ⟨q1,q2⟩:=Ee H h5 hs
 have hrun:(execOp a.eval o).run c.P w=.ok (.enter f (cl.args.map a.eval)) w:=by
  have hcf:=Ct (w:=w) hS.1 (cl.args.map a.eval)
  simp [execOp,hcl,resolve,h4,Act.eval,Deferred.ofValue,invoke,hcf]
 exact kj H hS hrun (by simpa using q1) (λj v x hv hx=>q2 j v x (by simpa using hv) hx) (λa' w' v H' hv=>hQ β a' w' v H' hv)
theorem vu {P:Program} {o:Oper} {x:X} (h:sa P o=some (.pnc x)):∃ y,o.op=.panic y∧cX y=some x:=by
 replace h:=pq h (by intro e;cases e)
 unfold Vm at h
 split at h
 case h_29=>rename_i y ho;obtain ⟨z,hz,e⟩:=Option.map_eq_some_iff.1 h;cases e;exact ⟨y,ho,hz⟩
 case h_22 =>
  rename_i cl ho
  unfold Jq at h
  split at h
  ·unfold Gt at h
   (repeat' split at h)<;>first|(cases h;done)|(obtain ⟨_,_,h3⟩:=Option.map_eq_some_iff.1 h;cases h3;done)
  all_goals ((repeat' split at h)<;>first|(cases h;done)|(obtain ⟨_,_,h3⟩:=Option.map_eq_some_iff.1 h;cases h3;done))
 all_goals ((repeat' split at h)<;>first|(cases h;done)|(obtain ⟨_,_,h3⟩:=Option.map_eq_some_iff.1 h;cases h3;done))
theorem Xq {d:Option Nat} {x:X} {t:TypeId} {v:V} (hx:evV st x=.ifc t v) (hs:evS true st x):Tt c ⟨d,none,.pnc x⟩ st st (.ifc t v):=by
 intro ops o hc β a w H Q K hQ
 refine ⟨by simp [Region.wanted,bf hc],?_⟩
 obtain ⟨y,ho,hy⟩:=vu hc.op
 have hv:=Ad H hy hs
 rw [hx] at hv
 obtain ⟨u,hu,hr⟩:∃ u,a.eval y=.iface t u∧Ai β (Eo c.E0 β st.own) w (.iface t u) (.ifc t v):=by
  generalize a.eval y=z at *
  cases hv with
  |ifc _ u _ h=>exact ⟨u,rfl,.ifc _ _ _ h⟩
 refine ⟨λ_ _=>trivial,?_⟩
 have hrun:(execOp a.eval o).run c.P w=.halt (.panic (.iface t u)) w:=by
  simp only [execOp,ho,hu];rfl
 rw [Oper.semAt_eq c.F.round a.eval o (λcl e=>by rw [ho] at e;cases e),hrun]
 exact hQ β a w _ H hr
theorem TR.pan {i:I} {is:List I} {acc:List Lg} {K:List Lg→St→Prop} {x:V} (hv:Tt c i st st x) (hk:c.pk x st):TR c false (i::is) st acc K:=Jr.pan _ _ _ _ _ hv hk
theorem TR.cpan {P:Program} (hP:c.P=P) {d:Option Nat} {f:Nat} {xs:List X} {is:List I} {acc:List Lg} {K:List Lg→St→Prop} {x:V} (hS:Kv P f (evVs st xs) x) (hs:evSs true st xs) (hk:c.pk x st):TR c false (⟨d,none,.call f xs⟩::is) st acc K:=
 TR.pan (Jh (by rw [hP];exact hS) hs) hk
end
theorem J9.pan {c:B3} {K0:Cs} {IS:List I} {s0:St} {d:Option Nat} {f:Nat} {xs:List X} {is:List I} {K:List Lg→St→Prop} {st:St} {acc:List Lg} {P:Program} (hP:c.P=P) {x:V} (rd:List Nat) (hS:Kv P f (evVs st xs) x) (hs:evSs true st xs)
  (hk:∀ st1:St,(∀ k,k∈rd→own? st1.own k=own? st.own k)→(∀ k,(∀ ii,ii∈IS→ii.dst≠some k)→get st1.env k=get s0.env k)→c.pk x st1)
  (h:J9 c (Fl c K0) IS s0 is (st.stp d { val:=ij,upd:=[],rd:=rd,new:=[] }) (acc++[⟨rd,[]⟩]) K):J9 c (Fl c K0) IS s0 (⟨d,none,.call f xs⟩::is) st acc K:=by
 refine J9.cons { val:=ij,upd:=[],rd:=rd,new:=[] } (λst1 h1 h2 _ h4 ops o hc β a w H K hK=>?_) (λk hk=>by simp at hk) h
 have hsl:∀ k,k∈Bc xs→get st1.env k=get st.env k:=λk hk=>h1 k (Ha k hk)
 have hS':Kv c.P f (evVs st1 xs) x:=by rw [Cj hsl,hP];exact hS
 have hs':evSs true st1 xs:=by rw [Cn hsl];exact hs
 obtain ⟨q1,q2⟩:=Jh (d:=d) hS' hs' ops o hc β a w H (Fl c K0) K (λβ' a' w' v H' hv=>.inr ⟨_,rfl,β',st1,v,x,rfl,hk st1 h2 h4,H',hv⟩)
 rw [if_pos q1]
 exact q2
section
variable {c:B3} {st:St}
theorem TR.pnc {d:Option Nat} {x:X} {is:List I} {acc:List Lg} {K:List Lg→St→Prop} {t:TypeId} {v:V} (hx:evV st x=.ifc t v) (hs:evS true st x) (hk:c.pk (.ifc t v) st):TR c false (⟨d,none,.pnc x⟩::is) st acc K:=
 TR.pan (Xq hx hs) hk
end
theorem enter_holds {P:Program} {fn:Func} {args:List V} (hlen:args.length≤fn.ntmps) (hna:A5 args=[]) (PK:V→St→Prop)
    {E0:Nat→Prop} {β:A6} {w:World} {vals:Array Value} (hE:∀ b,E0 b→b<w.heap.size) (hsz:vals.size=args.length)
    (hv:∀ (j:Nat) (v:Value) (y:V),vals[j]?=some v→args[j]?=some y→Ai β (Eo E0 β []) w v y) :
    ∃ c : B3, c.P = P ∧ c.E0 = E0 ∧ c.w0 = w ∧ c.L = (λ_ => False) ∧ c.nt = fn.ntmps ∧ c.fn = [] ∧ c.rd = none ∧ c.db = [] ∧ c.pk = PK ∧
      Aa c (λ_=>none) ⟨initE 0 args,[],[]⟩ { tmps:=vals++Array.replicate (fn.ntmps-vals.size) undef,defers:=[] } w:=by
  let c:B3:={ P:=P,E0:=E0,w0:=w,L:=λ_=>False,nt:=fn.ntmps,fn:=[],fx:=λ_=>none,hE:=hE,rd:=none,pk:=PK }
  have hEq:Eo E0 (λ_=>none) []=Eo E0 β []:=by
    funext b
    apply propext
    unfold Eo
    constructor
    · rintro (h1|⟨k,h1,h2⟩)
      · exact .inl h1
      · simp [keysO] at h1
    · rintro (h1|⟨k,h1,h2⟩)
      · exact .inl h1
      · simp [keysO] at h1
  have hl0:B5 (Eo E0 β []) (Eo E0 (λ_=>none) []) w w:=by rw [hEq];exact B5.refl _ _
  have hsz2:(vals++Array.replicate (fn.ntmps-vals.size) undef).size=fn.ntmps:=by simp;omega
  refine ⟨c,rfl,rfl,rfl,rfl,rfl,rfl,rfl,rfl,rfl,hsz2,Lk.nil rfl,λs=>?_,At.nil _ _ _,λk hk=>by simp [keysO] at hk,λk hk=>by simp [keysO] at hk,λk hk=>rfl,Aw.refl _ _,λk hk=>by cases hk⟩
  rw [Gl,if_pos (Nat.zero_le _),Nat.sub_zero]
  cases ha:args[s]? with
  |none=>exact .un _
  |some x =>
    have hsl:s<vals.size:=by have:=(List.getElem?_eq_some_iff.1 ha).1;omega
    have hvs:vals[s]?=some vals[s]:=Array.getElem?_eq_getElem hsl
    have:(vals++Array.replicate (fn.ntmps-vals.size) undef).getD s undef=vals[s]:=by
      simp only [Array.getD_eq_getD_getElem?,Array.getElem?_append_left hsl,hvs,Option.getD_some]
    simp only
    rw [this]
    exact (hv s _ x hvs ha).lasts hl0 (λk hk=>by have:=Bz ha k hk;rw [hna] at this;cases this)
theorem ji {P:Program} {fn:Func} {code:Code} {cc:C} {args:List V} (hcc:Dg P fn.ntmps code=some cc) (hlen:args.length≤fn.ntmps) (hna:A5 args=[]) {K:Cs} (PK:V→St→Prop)
  (h:∀ c:B3,c.P=P→c.nt=fn.ntmps→c.fn=[]→c.rd=none→c.db=[]→c.pk=PK→B4 c cc ⟨initE 0 args,[],[]⟩ K)
  {E0:Nat→Prop} {β:A6} {w:World} {vals:Array Value} (hE:∀ b,E0 b→b<w.heap.size) (hsz:vals.size=args.length)
  (hv:∀ (j:Nat) (v:Value) (y:V),vals[j]?=some v→args[j]?=some y→Ai β (Eo E0 β []) w v y) :
  ∃ c:B3,c.P=P∧c.E0=E0∧c.w0=w∧c.L=(λ_=>False)∧c.F=Fence.wide∧c.db=[]∧c.pk=PK∧code.wpIn Fence.wide 0 P (Fl c K) { tmps:=vals++Array.replicate (fn.ntmps-vals.size) undef,defers:=[] } w:=by
 obtain ⟨c,h1,h2,h3,h4,h5,h6,h7,h8,h9,H⟩:=enter_holds hlen hna PK hE hsz hv
 have hF:c.F=Fence.wide:=by simp only [B3.F,h7];rfl
 have:=Ol (c:=c) (by rw [h1,h5];exact hcc) (h c h1 h5 h6 h7 h8 h9) _ _ w H
 rw [hF,h1] at this
 exact ⟨c,h1,h2,h3,h4,hF,h8,h9,this⟩
theorem Ag.out {c:B3} {β β':A6} {st:St} {w:World} {v:Value} {y x:V} (h:Ai β (Eo c.E0 β st.own) w v y) (hle:Ag y x) (hx:x.names=[]):Ai β' (Eo c.E0 β' []) w v x:=
 (hle _ _ _ _ h).lasts (λb _ h1=>⟨λh2=>by
  rcases h2 with h2|⟨k,h2,_⟩
  ·exact h1 (.inl h2)
  ·simp [keysO] at h2,rfl⟩) (λk hk=>by rw [hx] at hk;cases hk)
theorem Xn {P:Program} {f:FuncId} {fn:Func} {code:Code} {cc:C} {args:List V} {x:V} {nt:Nat}
  (hf:P.funcs[f]?=some fn) (hok:In P f=true) (hb:fn.body=some code) (hcc:Dg P fn.ntmps code=some cc) (hnt:fn.ntmps=nt) (hlen:args.length≤nt)
  (hna:A5 args=[]) (hnx:x.names=[]) (h:∀ c:B3,c.P=P→c.fn=[]→c.pk=(λv _=>Ag v x)→B4 c cc ⟨initE 0 args,[],[]⟩ (λ_ _=>False)):Kv P f args x:=by
 refine ⟨hok,λE0 β w vals hE hsz hv=>?_⟩
 obtain ⟨c,rfl,rfl,rfl,hL,hF,hdb,hpk,hwp⟩:=ji (K:=λ_ _=>False) hcc (hnt▸hlen) hna (λv _=>Ag v x) (λc h1 _ h2 _ _ h3=>h c h1 h2 h3) hE hsz hv
 refine (callsIn_wide (n:=0)).1 (callsIn_of_wp_marks hf hb trivial (wpIn_mono hwp ?_))
 rintro e a' w' (⟨ex,he,β1,st1,hk,H1⟩|⟨ch,rfl,hpan⟩)
 ·exact hk.elim
 obtain ⟨β1,st1,v,y,rfl,hk,H1,hr⟩:=hpan
 rw [hpk] at hk
 obtain ⟨m,m2,hm1,hm2,hm3⟩:=H1.df
 show LeavesInM _ _ _ _ _ _ a'.defers _ _
 rw [hm1]
 refine E6 (by simp) hm3 m hm1 hm2 H1 λa2 w2 ht hd _ H2 hv2=>?_
 rw [hm3 hdb,hdb]
 refine ⟨v,rfl,Ag.out (hv2 v y hr) hk hnx,?_⟩
 have:=H2.kp
 rw [hL] at this
 exact this.mono λi h=>h.elim
def Wz:List Oper→Option (List Oper×Oper)
 |[]=>none
 |o::l=>match Wz l with
  |none=>some ([],o)
  |some (i,p)=>some (o::i,p)
theorem Vh:∀ {l i:List Oper} {o:Oper},Wz l=some (i,o)→l=i++[o]
 |[],_,_,h=>by cases h
 |o::l,i,p,h=>by
  simp only [Wz] at h
  split at h
  ·rename_i he
   cases h
   have:l=[]:=by
    cases l with
    |nil=>rfl
    |cons a l=>simp only [Wz] at he;split at he<;>cases he
   subst this;rfl
  ·rename_i i' p' he
   cases h
   rw [Vh he];rfl
structure my where
 pre:C
 is:List I
 f:X
 xs:List X
 rest:C
def uq (P:Program) (nt:Nat) (a b:Code):Option my:=
 match a with
 |.region _ ops false =>
  match Wz ops.toList with
  |some (l1,o) =>
   match o.op,o.guard,o.dst with
   |.defer cl,none,none =>
    match cl.callee with
    |.value f =>
     match Ks P nt ops l1,cX f,V5 cl.args.toList,Dg P nt b with
     |some is,some x,some xs,some cc=>some ⟨.skip,is,x,xs,cc⟩
     |_,_,_,_=>none
    |_=>none
   |_,_,_=>none
  |none=>none
 |_=>none
def Jx (P:Program) (nt:Nat):Code→Option my
 |.seq a b =>
  match uq P nt a b with
  |some r=>some r
  |none =>
   match Dg P nt a,Jx P nt b with
   |some a',some r=>some ⟨.seq a' r.pre,r.is,r.f,r.xs,r.rest⟩
   |_,_=>none
 |_=>none
def Mp:Option V→Value→FrameMode
 |none,_=>.returning
 |some _,pv=>.panicking [{ v:=pv,recovered:=false }]
def Yy:Option V→Value→FrameMode
 |none,_=>.returning
 |some _,pv=>.panicking [{ v:=pv,recovered:=true }]
theorem cj (px:Option V) (pv:Value):Mp px pv≠.run:=by cases px<;>simp [Mp]
theorem U6 (px:Option V) (pv:Value):settle (Yy px pv)=.returning:=by cases px<;>simp [Yy,settle]
def fu (P:Program) (g:FuncId) (ks:List Nat) (px:Option V) (ins outs:List (Nat×Own)):Prop:=
  In P g=true∧(keysO ins).Nodup∧(∀ k,k∈keysO outs→k∈keysO ins) ∧
  ∀ (E0 : Nat → Prop) (β : A6) (w : World) (vals : Array Value) (pv : Value), (∀ b, E0 b → b < w.heap.size) → vals.size = ks.length →
    (∀ (j:Nat) (v:Value) (k:Nat),vals[j]?=some v→ks[j]?=some k→Ai β (Eo E0 β ins) w v (.own k 0))→At E0 β w ins→(∀ x,px=some x→Ai β (Eo E0 β ins) w pv x) →
    CallsDIn Fence.wide 0 P g vals (Mp px pv) w λe u' w'=>∃ v,e=.returned v∧u'=Yy px pv∧At E0 β w' outs∧Aw (Co β ins) w w'
def Vr (P:Program) (g:FuncId) (ks:List Nat) (px:Option V) (rs:List RV) (res:V) (ins outs:List (Nat×Own)) (st:St):Prop:=
 fu P g ks px ins outs∧(∀ k o,(k,o)∈ins→own? st.own k=some o) ∧
  ressS ⟨st.env,applyU st.own (callU ins outs),newN st.nm (callU ins outs)⟩ rs∧Ag (retV ⟨st.env,applyU st.own (callU ins outs),newN st.nm (callU ins outs)⟩ rs) res
def uy (P:Program) (g:FuncId) (ks:List Nat) (rs:List RV) (res:V) (x:V) (st:St):Prop:=∃ ins outs,Vr P g ks (some x) rs res ins outs st
def RetD (c:B3) (g:FuncId) (ks:List Nat) (rs:List RV) (res:V):Cs
 |.exit _,_=>False
 |.nrm,st=>∃ st1 ins outs,Wk c st st1∧Vr c.P g ks none rs res ins outs st1
 |.ret,st=>∃ st1 ins outs,Wk c st st1∧Vr c.P g ks none rs res ins outs st1
def sv (c:B3) (r:my) (g:FuncId) (ks:List Nat) (rs:List RV) (res:V) (st1:St):Prop:=
 (∃ first cap,evV st1 r.f=.fn (.func g) first cap∧evS true st1 r.f∧evSs true st1 r.xs∧first++(evVs st1 r.xs++cap)=ks.map (λk=>V.own k 0))∧(∀ k,k∈ks→k∈keysO st1.own) ∧
  ∀ c2:B3,c2.P=c.P→c2.fn=ks→c2.rd=none→c2.pk=uy c.P g ks rs res→Jn c2 r.rest st1 (RetD c2 g ks rs res)
def ms (c:B3) (r:my) (g:FuncId) (ks:List Nat) (rs:List RV) (res:V):Cs
 |.nrm,st=>El c false r.is st [] (λ_ st1=>sv c r g ks rs res st1)
 |.exit _,_=>False
 |.ret,_=>False
theorem ng {c:B3} {ops:Array Oper} {Q:Exit→Act→World→Prop} {K:St→Prop} {l2:List Oper} (hQ:∀ st',K st'→∀ β a w,Aa c β st' a w→wpListIn c.F 0 c.P ops Q l2 a w)
    (hp:∀ st' x,c.pk x st'→∀ β a w v,Aa c β st' a w→Ai β (Eo c.E0 β st'.own) w v x→Q (.panic [{ v:=v,recovered:=false }]) a w) :
    ∀ {is : List I} {st : St}, Jr c K is st → ∀ {l : List Oper}, l.length = is.length → (∀ (j : Nat) (o : Oper) (i : I), l[j]? = some o → is[j]? = some i → mf c ops o i) →
      ∀ (β:A6) (a:Act) (w:World),Aa c β st a w→wpListIn c.F 0 c.P ops Q (l++l2) a w:=by
  intro is st h
  induction h with
  |nil st hk =>
    intro l hl _ β a w H
    have:l=[]:=List.eq_nil_of_length_eq_zero (by simpa using hl)
    subst this
    exact hQ st hk β a w H
  |cons st i s is hv hn _ ih =>
    intro l hl hc β a w H
    cases l with
    |nil=>simp at hl
    |cons o l =>
      have h1:=hv st (λ_ _=>rfl) (λ_ _=>rfl) hn ops o (hc 0 o i rfl rfl) β a w H Q
      refine wpListIn_step λK hK=>?_
      have h2:=h1 K λβ' a' w' H'=>hK a' w' (ih (by simpa using hl) (λj o i ho hi=>hc (j+1) o i (by simpa using ho) (by simpa using hi)) β' a' w' H')
      by_cases hw:Region.wanted o (yielded ops a.tmps)=true
      · rw [if_pos hw] at h2 ⊢;exact h2
      · rw [if_neg hw] at h2 ⊢;exact ⟨λ_ _=>trivial,h2⟩
  |wk st st1 is hw _ ih =>
    intro l hl hc β a w H
    obtain ⟨β1,H1⟩:=hw β a w H
    exact ih hl hc β1 a w H1
  |pan st st1 i is x hv hk =>
    intro l hl hc β a w H
    cases l with
    |nil=>simp at hl
    |cons o l =>
      refine wpListIn_step λK hK=>?_
      obtain ⟨h1,h2⟩:=hv ops o (hc 0 o i rfl rfl) β a w H Q K (λβ' a' w' v H' hv=>hp st1 x hk β' a' w' v H' hv)
      rw [if_pos h1];exact h2
def ls (c2:B3) (d:Deferred) (g:FuncId) (ks:List Nat):Prop:=
 ∃ ca,d.target=.fn (.func g) ca∧(d.args++ca).size=ks.length∧∀ (j:Nat) (v:Value) (k:Nat),(d.args++ca)[j]?=some v→ks[j]?=some k→∃ b,v=.pointer (some ⟨b,0,none⟩)∧c2.fx k=some (.pointer (some ⟨b,0,none⟩))
def ws (c:B3) (g:FuncId) (ks:List Nat) (rs:List RV) (res:V):Exit→Act→World→Prop:=λe a w =>
 ∃ (c2:B3) (d:Deferred),c2.P=c.P∧c2.E0=c.E0∧c2.w0=c.w0∧c2.L=c.L∧c2.fn=ks∧c2.db=[d]∧c2.pk=uy c.P g ks rs res∧ls c2 d g ks∧Fl c2 (RetD c2 g ks rs res) e a w
theorem zf {c:B3} (hrd:c.rd=none) (hdb:c.db=[]) (hpk:c.pk=λ_ _=>False) {g:FuncId} {ks:List Nat} {rs:List RV} {res:V} {a b:Code} {r:my} (hc:uq c.P c.nt a b=some r)
  {st:St} (h:El c false r.is st [] (λ_ st1=>sv c r g ks rs res st1)) {β:A6} {ac:Act} {w:World} (H:Aa c β st ac w):(Code.seq a b).wpIn c.F 0 c.P (ws c g ks rs res) ac w:=by
 unfold uq at hc
 split at hc
 case h_2=>cases hc
 rename_i id ops
 split at hc
 case h_2=>cases hc
 rename_i l1 o hl
 split at hc
 case h_2=>cases hc
 rename_i cl ho hg hd
 split at hc
 case h_2=>cases hc
 rename_i f hf
 split at hc
 case h_2=>cases hc
 rename_i is x xs cc h1 h2 h3 h4
 cases hc
 simp only at h
 have hop:=Vh hl
 obtain ⟨hlen,hcmp⟩:=Gs h1
 refine wpIn_seq (wpIn_region_list ?_)
 rw [hop]
 refine ng (K:=λst1=>sv c ⟨.skip,is,x,xs,cc⟩ g ks rs res st1) (λst1 hk β a w H=>?_) (λst' y hk=>by rw [hpk] at hk;exact hk.elim) (C1 h) hlen hcmp β ac w H
 obtain ⟨⟨first,cap,e1,e2,e3,e4⟩,hks,hrest⟩:=hk
 have hv:=Ad H h2 e2
 rw [e1] at hv
 obtain ⟨q1,q2⟩:=Ee H h3 e3
 obtain ⟨fi,ca,hfv,g1,g2,r1,r2⟩:∃ fi ca:Array Value,a.eval f=.func (.func g) fi ca∧fi.size=first.length∧ca.size=cap.length∧(∀ (j:Nat) (v:Value) (x:V),fi[j]?=some v→first[j]?=some x→Ai β (Eo c.E0 β st1.own) w v x) ∧
   (∀ (j:Nat) (v:Value) (x:V),ca[j]?=some v→cap[j]?=some x→Ai β (Eo c.E0 β st1.own) w v x):=by
  generalize a.eval f=u at *
  cases hv with
  |fn _ fi ca _ _ g1 g2 r1 r2=>exact ⟨fi,ca,rfl,g1,g2,r1,r2⟩
 let d:Deferred:={ target:=.fn (.func g) ca,args:=fi++cl.args.map a.eval }
 have hrun:(execOp a.eval o).run c.P w=.ok (.defer d) w:=by
  simp [execOp,ho,resolve,hf,hfv,Deferred.ofValue,d]
 have hall:(d.args++ca).size=ks.length∧∀ (j:Nat) (v:Value) (k:Nat),(d.args++ca)[j]?=some v→ks[j]?=some k→Ai β (Eo c.E0 β st1.own) w v (.own k 0):=by
  have hlen2:(first++(evVs st1 xs++cap)).length=ks.length:=by rw [e4];simp
  have hsz:(cl.args.map a.eval).size=(evVs st1 xs).length:=by simpa using q1
  simp only [List.length_append] at hlen2
  refine ⟨by simp only [d,Array.size_append];omega,λj v k hj hk=>?_⟩
  have hk':(first++(evVs st1 xs++cap))[j]?=some (.own k 0):=by rw [e4,List.getElem?_map,hk];rfl
  simp only [d,Array.append_assoc] at hj
  by_cases c1:j<fi.size
  ·rw [Array.getElem?_append_left c1] at hj
   rw [List.getElem?_append_left (by omega)] at hk'
   exact r1 j v _ hj hk'
  ·rw [Array.getElem?_append_right (by omega)] at hj
   rw [List.getElem?_append_right (by omega)] at hk'
   rw [←g1] at hk'
   by_cases c2:j-fi.size<(cl.args.map a.eval).size
   ·rw [Array.getElem?_append_left c2] at hj
    rw [List.getElem?_append_left (by omega)] at hk'
    exact q2 _ v _ (by simpa using hj) hk'
   ·rw [Array.getElem?_append_right (by omega)] at hj
    rw [List.getElem?_append_right (by omega)] at hk'
    rw [←hsz] at hk'
    exact r2 _ v _ hj hk'
 let c2:B3:={ P:=c.P,E0:=c.E0,w0:=c.w0,L:=c.L,nt:=c.nt,fn:=ks,fx:=β,hE:=c.hE,rd:=none,pk:=uy c.P g ks rs res,db:=[d] }
 have hlaid:ls c2 d g ks:=⟨ca,rfl,hall.1,λj v k hj hk=>by
  have:=hall.2 j v k hj hk
  cases this with
  |own k off b hb=>exact ⟨b,rfl,hb⟩⟩
 refine wpListIn_step λK hK=>?_
 rw [if_pos (by simp [Region.wanted,hg])]
 refine ⟨λ_ _=>trivial,?_⟩
 have hro:c.F.round=none:=hrd
 rw [hro,Oper.semAt_none,hrun,Oper.uponIn_defer]
 refine hK _ _ ?_
 show Exit.then _ _ .normal _ _
 rw [hd]
 obtain ⟨m,m2,k1,k2,k3⟩:=H.df
 have H2:Aa c2 β st1 { a with defers:=d::a.defers } w:=by
  refine ⟨H.sz,⟨[],m,by rw [k1,hdb,k3 hdb];simp [c2],?_,λh=>by cases h⟩,H.env,H.own,H.fr,H.kn,H.nm,H.kp,λk hk=>⟨H.kn k (hks k hk),rfl⟩⟩
  have:=k2
  rw [k3 hdb,List.append_nil,hrd] at this
  exact this
 have hF2:c2.F=c.F:=by simp only [B3.F,hrd];rfl
 have hw:=hrest c2 rfl rfl rfl rfl 64 _ h4 β _ w H2
 rw [hF2] at hw
 exact wpIn_mono hw λe a' w' hp=>⟨c2,d,rfl,rfl,rfl,rfl,rfl,rfl,rfl,hlaid,hp⟩
theorem jx {c:B3} (hrd:c.rd=none) (hdb:c.db=[]) (hpk:c.pk=λ_ _=>False) {g:FuncId} {ks:List Nat} {rs:List RV} {res:V} :
  ∀ (code:Code) {r:my},Jx c.P c.nt code=some r→∀ {st:St},B4 c r.pre st (ms c r g ks rs res)→∀ β ac w,Aa c β st ac w→code.wpIn c.F 0 c.P (ws c g ks rs res) ac w:=by
 intro code
 induction code with
 |seq a b _ ih =>
  intro r hc st h β ac w H
  simp only [Jx] at hc
  split at hc
  ·rename_i r' hl
   cases hc
   have hpre:r.pre=.skip:=by
    have hl':=hl
    unfold uq at hl'
    split at hl'
    case h_2=>cases hl'
    split at hl'
    case h_2=>cases hl'
    split at hl'
    case h_2=>cases hl'
    split at hl'
    case h_2=>cases hl'
    split at hl'
    case h_2=>cases hl'
    cases hl';rfl
   rw [hpre,vcC_skip] at h
   exact zf hrd hdb hpk hl h H
  ·split at hc
   ·rename_i a' r' ha hb
    cases hc
    simp only at h
    rw [vcC_seq] at h
    refine wpIn_seq (wpIn_mono (Ol ha h β ac w H) ?_)
    rintro e a2 w2 (⟨ex,he,β',st',hk,H'⟩|⟨ch,rfl,hpan⟩)
    rotate_left
    ·obtain ⟨_,_,_,_,_,hq,_⟩:=hpan;rw [hpk] at hq;exact hq.elim
    cases e<;>simp at he<;>subst he
    ·rw [seqK_nrm] at hk
     exact ih hb hk β' a2 w2 H'
    ·rw [seqK_exit] at hk;exact hk.elim
    ·rw [seqK_exit] at hk;exact hk.elim
    ·rw [seqK_ret] at hk;exact hk.elim
   ·cases hc
 |_=>intro r hc;simp [Jx] at hc
theorem Yr {c2:B3} {d:Deferred} {g:FuncId} {ks:List Nat} (hlaid:ls c2 d g ks) (hfn:c2.fn=ks) (hdb:c2.db=[d]) {fn:Func} {rs:List RV} (hrs:D2 c2.P fn.results.toList=some rs) {res:V}
  {px:Option V} {pv:Value} {st1:St} {ins outs:List (Nat×Own)} (hD:Vr c2.P g ks px rs res ins outs st1) {β1:A6} {a1:Act} {w1:World} (H:Aa c2 β1 st1 a1 w1)
  (hpv:∀ x,px=some x→Ai β1 (Eo c2.E0 β1 st1.own) w1 pv x) {m2:List Deferred} (hdf:a1.defers=c2.db++m2) {R:Ending→World→Prop}
  (hR:∀ v w' st2,ressS st2 rs→Ag (retV st2 rs) res→Ai β1 (Eo c2.E0 β1 st2.own) w' v (retV st2 rs)→Aw c2.L c2.w0 w'→R (.returned v) w') :
  LeavesInM Fence.wide 0 c2.P fn a1.tmps R (c2.db++m2) (Mp px pv) w1:=by
 obtain ⟨⟨hok,hnd,hko,hS⟩,hin,hss,hle⟩:=hD
 obtain ⟨ca,ht,hsz,hr⟩:=hlaid
 have hE:=Ok (c:=c2) (β:=β1) hin
 have hins:At (λb=>c2.E0 b∨∃ k,k∈keysO st1.own∧k∉keysO ins∧β1.blk k=some b) β1 w1 ins:=by
  have hk:∀ k,k∈keysO ins→k∈keysO st1.own:=λk h=>by
   obtain ⟨o,ho⟩:=Ba h
   exact Ab (Ah (hin k o ho))
  refine ⟨λk o h=>?_,hnd,λk k' h1 h2=>H.own.apart k k' (hk k h1) (hk k' h2),λk h b hb=>?_⟩
  ·rw [hE];exact H.own.ok k o (Ah (hin k o h))
  ·obtain ⟨x,y⟩:=H.own.lt k (hk k h) b hb
   refine ⟨x,?_⟩
   rintro (h1|⟨k',h1,h2,h3⟩)
   ·exact y h1
   ·exact H.own.apart k k' (hk k h) h1 (λe=>h2 (e▸h)) b hb h3
 have hcall:=hS (λb=>c2.E0 b∨∃ k,k∈keysO st1.own∧k∉keysO ins∧β1.blk k=some b) β1 w1 (d.args++ca) pv (by
  rintro b (h|⟨k,h1,_,h3⟩)
  ·have:=c2.hE b h
   have:=H.kp.size
   omega
  ·exact (H.own.lt k h1 b h3).1) hsz (λj v k hj hk=>by
   obtain ⟨b,rfl,hb⟩:=hr j v k hj hk
   refine .own k 0 b ?_
   have hkm:k∈c2.fn:=by rw [hfn];exact List.mem_of_getElem? hk
   rw [(H.fx k hkm).2];exact hb) hins (λx hx=>by rw [hE];exact hpv x hx)
 rw [hdb]
 refine ⟨cj px pv,.inr ⟨λh=>by simp [Fence.wide] at h,.func g,ca,g,d.args++ca,ht,?_,λ_ _=>trivial,?_⟩⟩
 ·rw [ht];exact Ct hok _
 ·refine hcall.mono λe u' w' he=>?_
  obtain ⟨v,rfl,rfl,hown,hkp⟩:=he
  show LeavesInM _ _ _ _ _ _ _ (settle (Yy px pv)) w'
  rw [U6]
  obtain ⟨H',hEs⟩:=Is (new:=[]) H hin (by simp) (by simp) (A6.le.refl β1) (λ_ _=>rfl) hown hkp (λk hk b hb=>.inr ⟨k,hko k hk,hb⟩)
  have hm2:Ey c2.rd c2.w0 w' m2:=by
   obtain ⟨m,m3,k1,k2,k3⟩:=H'.df
   rw [hdf,hdb] at k1
   cases m with
   |nil =>
    rw [List.nil_append] at k1 k2
    have:=List.append_cancel_left k1
    rw [this];exact k2
   |cons d' m =>
    exfalso
    simp only [List.cons_append,List.nil_append] at k1
    injection k1 with k1 _
    obtain ⟨b,h1,_⟩:=k2.ok d' (by simp)
    rw [←k1] at h1
    rw [h1] at ht;cases ht
  let c3:B3:={ P:=c2.P,E0:=c2.E0,w0:=c2.w0,L:=c2.L,nt:=c2.nt,fn:=c2.fn,fx:=c2.fx,hE:=c2.hE,rd:=c2.rd }
  have H3:Aa c3 β1 ⟨st1.env,applyU st1.own (callU ins outs),newN st1.nm (callU ins outs)⟩ { a1 with defers:=m2 } w':=
   ⟨H'.sz,⟨m2,[],by simp [c3],by rw [List.append_nil];exact hm2,λ_=>rfl⟩,H'.env,H'.own,H'.fr,H'.kn,H'.nm,H'.kp,H'.fx⟩
  refine Gd (c:=c3) rfl m2 (a:={ a1 with defers:=m2 }) rfl H3 λa4 w4 ht4 H4=>?_
  obtain ⟨v4,hrun,hrel⟩:=Il H4 hrs hss
  exact ⟨v4,hrun,hR v4 w4 _ hss hle hrel H4.kp⟩
theorem Sr {P:Program} {fn:Func} {args:List V} {ins:List (Nat×Own)} (hlen:args.length≤fn.ntmps) (PK:V→St→Prop)
    {E0:Nat→Prop} {β:A6} {w:World} {vals:Array Value} (hE:∀ b,E0 b→b<w.heap.size) (hsz:vals.size=args.length)
    (hv:∀ (j:Nat) (v:Value) (y:V),vals[j]?=some v→args[j]?=some y→Ai β (Eo E0 β ins) w v y) (hins:At E0 β w ins) :
    ∃ (c : B3) (βc : A6), c.P = P ∧ c.E0 = E0 ∧ c.w0 = w ∧ c.L = Co β ins ∧ c.nt = fn.ntmps ∧ c.fn = A5 args ++ A4 ins ∧ c.rd = none ∧ c.db = [] ∧ c.pk = PK ∧
      Aa c βc ⟨initE 0 args,ins,A5 args++A4 ins⟩ { tmps:=vals++Array.replicate (fn.ntmps-vals.size) undef,defers:=[] } w:=by
  let nm0:=A5 args++A4 ins
  let βc:A6:=λk=>if k∈nm0 then β k else none
  have hβc:∀ k,k∈nm0→βc k=β k:=λk hk=>if_pos hk
  have hkin:∀ k,k∈keysO ins→k∈nm0:=λk hk=>List.mem_append_right _ (F5 hk)
  have hblk:∀ k,k∈keysO ins→βc.blk k=β.blk k:=λk hk=>by simp only [A6.blk,hβc k (hkin k hk)]
  let c:B3:={ P:=P,E0:=E0,w0:=w,L:=Co β ins,nt:=fn.ntmps,fn:=nm0,fx:=βc,hE:=hE,rd:=none,pk:=PK }
  have hEq:Eo E0 βc ins=Eo E0 β ins:=by
    funext b
    apply propext
    unfold Eo
    constructor
    · rintro (h1|⟨k,h1,h2⟩)
      · exact .inl h1
      · exact .inr ⟨k,h1,by rw [←hblk k h1];exact h2⟩
    · rintro (h1|⟨k,h1,h2⟩)
      · exact .inl h1
      · exact .inr ⟨k,h1,by rw [hblk k h1];exact h2⟩
  have hl0:B5 (Eo E0 β ins) (Eo E0 βc ins) w w:=by rw [hEq];exact B5.refl _ _
  have hsz2:(vals++Array.replicate (fn.ntmps-vals.size) undef).size=fn.ntmps:=by simp;omega
  refine ⟨c,βc,rfl,rfl,rfl,rfl,rfl,rfl,rfl,rfl,rfl,hsz2,Lk.nil rfl,λs=>?_,⟨λk o hk=>?_,hins.nodup,λk k' h1 h2 hne b h3 h4=>?_,λk hk b hb1=>?_⟩,λk hk b hb1=>?_,λk hk=>hkin k hk,λk hk=>if_neg hk,Aw.refl _ _,λk hk=>⟨hk,rfl⟩⟩
  · rw [Gl,if_pos (Nat.zero_le _),Nat.sub_zero]
    cases ha:args[s]? with
    |none=>exact .un _
    |some x =>
      have hsl:s<vals.size:=by have:=(List.getElem?_eq_some_iff.1 ha).1;omega
      have hvs:vals[s]?=some vals[s]:=Array.getElem?_eq_getElem hsl
      have:(vals++Array.replicate (fn.ntmps-vals.size) undef).getD s undef=vals[s]:=by
        simp only [Array.getD_eq_getD_getElem?,Array.getElem?_append_left hsl,hvs,Option.getD_some]
      simp only
      rw [this]
      exact (hv s _ x hvs ha).lasts hl0 (λk hk=>hβc k (List.mem_append_left _ (Bz ha k hk)))
  · exact (hins.ok k o hk).forget hl0 (hβc k (hkin k (Ab hk))) (λj hj=>hβc j (List.mem_append_right _ (D3 hk j hj))) (λ_ _=>rfl)
  · rw [hblk k h1] at h3
    rw [hblk k' h2] at h4
    exact hins.apart k k' h1 h2 hne b h3 h4
  · rw [hblk k hk] at hb1
    exact hins.lt k hk b hb1
  · rw [hblk k hk] at hb1
    exact .inr ⟨k,hk,hb1⟩
theorem Px {P:Program} {f:FuncId} {fn:Func} {code:Code} {r:my} {rs:List RV} {args:List V} {ins0:List (Nat×Own)} {res:V} {nt:Nat} (g:FuncId) (ks:List Nat)
  (hf:P.funcs[f]?=some fn) (hok:In P f=true) (hb:fn.body=some code) (hcd:Jx P fn.ntmps code=some r) (hrs:D2 P fn.results.toList=some rs) (hnt:fn.ntmps=nt) (hlen:args.length≤nt)
  (hnr:res.names=[]) (h:∀ c:B3,c.P=P→c.fn=A5 args++A4 ins0→B4 c r.pre ⟨initE 0 args,ins0,A5 args++A4 ins0⟩ (ms c r g ks rs res)):Aj P f args ins0 res [] []:=by
 refine ⟨hok,by simp [keysO],by simp,λE0 β w vals hE hsz hv hins hnn=>?_⟩
 obtain ⟨c,βc,rfl,rfl,rfl,hL,hcnt,hfn,hrd,hdb,hpk,H⟩:=Sr (P:=P) (fn:=fn) (hnt▸hlen) (λ_ _=>False) hE hsz hv hins
 have hF:c.F=Fence.wide:=by simp only [B3.F,hrd];rfl
 have hwp:=jx hrd hdb hpk code (by rw [hcnt];exact hcd) (h c rfl hfn) _ _ _ H
 rw [hF] at hwp
 refine (callsIn_wide (n:=0)).1 (callsIn_of_wp_marks hf hb trivial (wpIn_mono hwp ?_))
 rintro e a' w' ⟨c2,d,p1,p2,p3,p4,p5,p6,p7,hlaid,hpost⟩
 have hfin:∀ (β1:A6) (v:Value) (w4:World) (st2:St),Ag (retV st2 rs) res→Ai β1 (Eo c2.E0 β1 st2.own) w4 v (retV st2 rs)→Aw c2.L c2.w0 w4 →
   ∃ v' β',Ending.returned v=.returned v'∧β.le β'∧(∀ k,k∉[]→β' k=β k)∧Ai β' (Eo c.E0 β' []) w4 v' res∧At c.E0 β' w4 []∧Aw (Co β ins0) c.w0 w4∧(∀ k,k∈keysO []→∀ b,β'.blk k=some b→c.w0.heap.size≤b∨Co β ins0 b):=by
  intro β1 v w4 st2 hle hrel hkp
  refine ⟨v,β,rfl,A6.le.refl β,λ_ _=>rfl,?_,At.nil _ _ _,?_,by simp [keysO]⟩
  ·have:=Ag.out (β':=β) hrel hle hnr
   rw [p2] at this;exact this
  ·rw [p3,p4,hL] at hkp
   exact hkp
 rcases hpost with ⟨ex,he,β1,st1,hk,H1⟩|⟨ch,rfl,hpan⟩
 ·have ret:(∃ st2 ins outs,Wk c2 st1 st2∧Vr c2.P g ks none rs res ins outs st2)→LeavesInM Fence.wide 0 c.P fn a'.tmps (λe w'=>∃ v β',e=.returned v∧β.le β'∧(∀ k,k∉[]→β' k=β k)∧Ai β' (Eo c.E0 β' []) w' v res∧At c.E0 β' w' []∧Aw (Co β ins0) c.w0 w'∧(∀ k,k∈keysO []→∀ b,β'.blk k=some b→c.w0.heap.size≤b∨Co β ins0 b)) a'.defers .returning w':=by
   rintro ⟨st2,ins,outs,hw,hD⟩
   obtain ⟨β2,H2⟩:=hw β1 a' w' H1
   obtain ⟨m,m2,k1,k2,k3⟩:=H2.df
   rw [k1,←p1]
   refine E6 (by simp) k3 m k1 k2 H2 λa3 w3 ht3 hd3 _ H3 _=>?_
   rw [←ht3]
   exact Yr hlaid p5 p6 (by rw [p1];exact hrs) hD H3 (λx hx=>by cases hx) hd3 (λv w4 st4 _ hle hrel hkp=>hfin β2 v w4 st4 hle hrel hkp) (pv:=.nilIface)
  cases e<;>simp at he<;>subst he
  ·exact ret hk
  ·exact hk.elim
  ·exact hk.elim
  ·exact ret hk
 ·obtain ⟨β1,st1,v,x,rfl,hk,H1,hrv⟩:=hpan
  rw [p7] at hk
  obtain ⟨ins,outs,hD⟩:=hk
  obtain ⟨m,m2,k1,k2,k3⟩:=H1.df
  show LeavesInM _ _ _ _ _ _ a'.defers _ _
  rw [k1,←p1]
  refine E6 (by simp) k3 m k1 k2 H1 λa3 w3 ht3 hd3 _ H3 hv3=>?_
  rw [←ht3]
  rw [←p1] at hD
  exact Yr hlaid p5 p6 (by rw [p1];exact hrs) hD H3 (λy hy=>by cases hy;exact hv3 v x hrv) hd3 (λv w4 st4 _ hle hrel hkp=>hfin β1 v w4 st4 hle hrel hkp)
theorem bx {P:Program} {f:FuncId} {fn:Func} {code:Code} {r:my} {rs:List RV} {args:List V} {res:V} {nt:Nat} (g:FuncId) (ks:List Nat)
  (hf:P.funcs[f]?=some fn) (hok:In P f=true) (hb:fn.body=some code) (hcd:Jx P fn.ntmps code=some r) (hrs:D2 P fn.results.toList=some rs) (hnt:fn.ntmps=nt) (hlen:args.length≤nt)
  (hna:A5 args=[]) (hnr:res.names=[]) (h:∀ c:B3,c.P=P→c.fn=[]→B4 c r.pre ⟨initE 0 args,[],[]⟩ (ms c r g ks rs res)):Aj P f args [] res [] []:=
 Px g ks hf hok hb hcd hrs hnt hlen hnr λc h1 h2=>by
  have e:A5 args++A4 []=[]:=by rw [hna];rfl
  rw [e] at h2 ⊢
  exact h c h1 h2
end Go.Bx
end
section
namespace Go.Bx
open Go.RowKit
set_option linter.defProp false
def jj (d:Nat) (o:O):I:=⟨some d,none,o⟩
def jm (d s:Nat):I:=⟨some d,none,.mov (.t s)⟩
def jg (d s:Nat) (b:Bool) (o:O):I:=⟨some d,some (s,b),o⟩
def jn (o:O):I:=⟨none,none,o⟩
def ki (n:Int):X:=.k (.d (.int .i64 n))
def zi:V:=.d (.int .i64 0)
def zl:V:=.d (.sl true 0 0 λ_=>[])
theorem jl:(∀ d o,jj d o=⟨some d,none,o⟩)∧(∀ d s,jm d s=⟨some d,none,.mov (.t s)⟩)∧(∀ d s b o,jg d s b o=⟨some d,some (s,b),o⟩)∧(∀ o,jn o=⟨none,none,o⟩)∧(∀ n,ki n=.k (.d (.int .i64 n)))∧zi=.d (.int .i64 0)∧zl=.d (.sl true 0 0 λ_=>[]):=⟨λ_ _=>rfl,λ_ _=>rfl,λ_ _ _ _=>rfl,λ_=>rfl,λ_=>rfl,rfl,rfl⟩
theorem Yg:∀ a b c,isCall (.clr a b c)=false:=λ_ _ _=>rfl
theorem Wi:∀ a b,isCall (.nili a b)=false:=λ_ _=>rfl
theorem Xy:∀ a b,makes (.nili a b)=false:=λ_ _=>rfl
theorem fp:∀ a b c,makes (.clr a b c)=false:=λ_ _ _=>rfl
def A0:=And.intro (And.intro @Yg (And.intro @fp (And.intro @Wi (And.intro @Xy @opR.eq_48)))) (And.intro jl (And.intro vcb (And.intro @Xg (And.intro @ft (And.intro @Xo (And.intro @fc (And.intro @nh.eq_1 (And.intro @nh.eq_2 (And.intro @X1.eq_1 (And.intro @X1.eq_2 (And.intro @X1.eq_3 (And.intro @eu.eq_1 (And.intro @eu.eq_2 @eu.eq_3)))))))))))))
def A3:=And.intro @dp (And.intro @impFT @impTF)
section
variable {c:B3} {st:St} {b:Bool} {is:List I} {acc:List Lg} {K:List Lg→St→Prop}
theorem tv {P:Program} (hP:c.P=P) {d:Option Nat} {x:X} {f:Nat} {first cap:List V} {xs:List X} {res:V} (hx:evV st x=.fn (.func f) first cap) (hS:Aj P f (first++(evVs st xs++cap)) [] res [] [])
  (h:El c b is (st.stp d { val:=res,upd:=[],rd:=[],new:=[] }) (lgs b acc ⟨[],[]⟩) K) (hsx:evS true st x:=by exact trivial) (hs:evSs true st xs:=by repeat' first|exact trivial|(intro _;assumption)|apply And.intro):TR c b (⟨d,none,.callv x xs⟩::is) st acc K:=TR.pv hP hx hS hsx hs h
end
theorem tA {c:B3} {st:St} {is:List I} {acc:List Lg} {K:List Lg→St→Prop} {d:Option Nat} {sz n k off:Nat} {x:X} {cs:List V} {ds:List D} (hx:evV st x=.own k off) (ho:own? st.own k=some (.fix cs)) (hd:toDs cs=some ds)
  (hx2:evV ⟨pubFE k ds st.env,pubFO k ds (delO st.own k),st.nm⟩ x=.mem (dropD ds off))
  (h:El c false is (St.stp ⟨pubFE k ds st.env,pubFO k ds (delO st.own k),st.nm⟩ d { val:=.d (.sl true sz n (litRow sz (dropD ds off))),upd:=[],rd:=[],new:=[] }) acc K)
  (hs:evS true ⟨pubFE k ds st.env,pubFO k ds (delO st.own k),st.nm⟩ x:=by exact trivial) (hl:n*sz≤(dropD ds off).length:=by exact Nat.le_of_ble_eq_true rfl):TR c false (⟨d,none,.asl sz n x⟩::is) st acc K:=TR.aslO hx ho hd hx2 hs hl h
end Go.Bx
end
section
namespace Go.Bx
open Go.RowKit
set_option linter.defProp false
theorem Mx {P:Program} {f:FuncId} {fn:Func} (hf:P.funcs[f]?=some fn) (hok:In P f=true):fn.body=some (fn.body.getD .skip):=by
 simp only [In,hf,Bool.and_eq_true] at hok
 obtain ⟨b,hb⟩:=Option.isSome_iff_exists.1 hok.2
 rw [hb];rfl
def lvL (P:Program):Nat→TypeId→Nat→List (Nat×Option IntKind)
 |0,_,_=>[]
 |d+1,t,off=>match P.underlying t with
  |some (.int k)=>[(off,some k)]
  |some .bool=>[(off,none)]
  |some (.struct fs)=>(fs.toList.map λf=>lvL P d f.type (off+f.offset)).flatten
  |some (.array n e)=>((List.range n).map λi=>lvL P d e (off+i*P.cellsOf e)).flatten
  |_=>[]
def cOpL (P:Program) (o:Oper):O:=match o.op with
 |.binOp op t x y _=>match P.underlying t,cX x,cX y with
  |some (.struct _),some x,some y=>.eqa (match op with|.neq=>true|_=>false) (P.cellsOf t) (lvL P 9 t 0) x y
  |some (.array _ _),some x,some y=>.eqa (match op with|.neq=>true|_=>false) (P.cellsOf t) (lvL P 9 t 0) x y
  |_,_,_=>(Vm P o).getD .never
 |_=>(Vm P o).getD .never
def oq (P:Program) (ops:Array Oper):List Oper→List I
 |[]=>[]
 |o::l=>⟨o.dst,(Yd ops o).getD none,cOpL P o⟩::oq P ops l
def Jk (P:Program):Nat→Code→C
 |0,_=>.bad
 |n+1,code=>match code with
  |.skip=>.skip
  |.region _ ops draw=>match draw with
   |false=>.reg (oq P ops ops.toList)
   |true=>.drw (Go.CheckFast.beforeF ops).toList (oq P ops ops.toList)
  |.seq a b=>.seq (Jk P n a) (Jk P n b)
  |.cond x a b=>.cond ((cX x).getD (.t 0)) (Jk P n a) (Jk P n b)
  |.block id a=>.block (2*id) (Jk P n a)
  |.loop a=>.loop (Jk P n a)
  |.exit id=>.exit (2*id)
  |.ret=>.ret
  |.label _=>.skip
  |.goto l=>.exit (2*l+1)
  |.scope body =>
   match Ip body with
   |some l =>
    match findLabel body l with
    |some rest=>.scope (2*l+1) (Jk P n body) (Jk P n rest)
    |none=>.bad
   |none=>.bad
  |.rangeFunc g ps asg body=>.rfn ((cX g).getD (.t 0)) ps.toList (Jk P n asg) (Jk P n body)
  |_=>.bad
def tr (P:Program) (fn:Func):C:=Jk P 64 (fn.body.getD .skip)
section
variable {P:Program} {f:FuncId} {fn:Func} {cc ca cb:C} {r:my} {rs:List RV} {args:List V} {ins outs:List (Nat×Own)} {res x:V} {new:List Nat}
theorem qP (hf:P.funcs[f]?=some fn) (h:∀ c:B3,c.P=P→c.fn=[]→B4 c cc ⟨initE 0 args,[],[]⟩ (Ci c rs res []))
  (_hl:tr P fn=cc:=by set_option maxRecDepth 100000 in conv=>lhs;reduce) (hcc:Dg P fn.ntmps (fn.body.getD .skip)=some cc:=by kernel_rfl) (hrs:D2 P fn.results.toList=some rs:=by set_option maxRecDepth 100000 in conv=>lhs;reduce)
  (hok:In P f=true:=by kernel_rfl) (hlen:args.length≤fn.ntmps:=by exact Nat.le_of_ble_eq_true rfl) (hna:A5 args=[]:=by rfl) (hnr:res.names=[]:=by rfl):Aj P f args [] res [] []:=
 nj hf hok (Mx hf hok) hcc hrs rfl hlen hna hnr h
theorem qT (hf:P.funcs[f]?=some fn) (h:∀ c:B3,c.P=P→c.fn=[]→c.rd=none→B4 c cc ⟨initE 0 args,[],[]⟩ (Ci c rs res []))
  (_hl:tr P fn=cc:=by set_option maxRecDepth 100000 in conv=>lhs;reduce) (hcc:Dg P fn.ntmps (fn.body.getD .skip)=some cc:=by kernel_rfl) (hrs:D2 P fn.results.toList=some rs:=by set_option maxRecDepth 100000 in conv=>lhs;reduce)
  (hok:In P f=true:=by kernel_rfl) (hlen:args.length≤fn.ntmps:=by exact Nat.le_of_ble_eq_true rfl) (hna:A5 args=[]:=by rfl) (hnr:res.names=[]:=by rfl):Aj P f args [] res [] []:=
 ej hf hok (Mx hf hok) hcc hrs rfl hlen hna hnr h
theorem qO (hf:P.funcs[f]?=some fn) (h:∀ c:B3,c.P=P→c.fn=A5 args++A4 ins→B4 c cc ⟨initE 0 args,ins,A5 args++A4 ins⟩ (Ci c rs res outs))
  (_hl:tr P fn=cc:=by set_option maxRecDepth 100000 in conv=>lhs;reduce) (hcc:Dg P fn.ntmps (fn.body.getD .skip)=some cc:=by kernel_rfl) (hrs:D2 P fn.results.toList=some rs:=by set_option maxRecDepth 100000 in conv=>lhs;reduce)
  (hok:In P f=true:=by kernel_rfl) (hlen:args.length≤fn.ntmps:=by exact Nat.le_of_ble_eq_true rfl) (hB:P9 args ins res outs new=true:=by rfl):Aj P f args ins res outs new:=
 td hf hok (Mx hf hok) hcc hrs rfl hlen hB h
theorem qN (hf:P.funcs[f]?=some fn) (h:∀ c:B3,c.P=P→c.fn=[]→c.pk=(λv _=>Ag v x)→B4 c cc ⟨initE 0 args,[],[]⟩ (λ_ _=>False))
  (_hl:tr P fn=cc:=by set_option maxRecDepth 100000 in conv=>lhs;reduce) (hcc:Dg P fn.ntmps (fn.body.getD .skip)=some cc:=by kernel_rfl)
  (hok:In P f=true:=by kernel_rfl) (hlen:args.length≤fn.ntmps:=by exact Nat.le_of_ble_eq_true rfl) (hna:A5 args=[]:=by rfl) (hnx:x.names=[]:=by rfl):Kv P f args x:=
 Xn hf hok (Mx hf hok) hcc rfl hlen hna hnx h
theorem qD (g:FuncId) (ks:List Nat) (hf:P.funcs[f]?=some fn) (h:∀ c:B3,c.P=P→c.fn=[]→B4 c r.pre ⟨initE 0 args,[],[]⟩ (ms c r g ks rs res))
  (hcd:Jx P fn.ntmps (fn.body.getD .skip)=some r:=by set_option maxRecDepth 100000 in conv=>lhs;reduce) (hrs:D2 P fn.results.toList=some rs:=by set_option maxRecDepth 100000 in conv=>lhs;reduce)
  (hok:In P f=true:=by kernel_rfl) (hlen:args.length≤fn.ntmps:=by exact Nat.le_of_ble_eq_true rfl) (hna:A5 args=[]:=by rfl) (hnr:res.names=[]:=by rfl):Aj P f args [] res [] []:=
 bx g ks hf hok (Mx hf hok) hcd hrs rfl hlen hna hnr h
end
section
variable {c:B3} {rs:List RV} {res:V} {st:St}
theorem rp (h2:Ag (retV st rs) res) (h1:ressS st rs:=by simp only [B8,A0,↓A3,seval]):Ci c rs res [] .ret st:=Ci.pure h1 h2
theorem rq {A:Prop} (a:A) (h2:Ag (retV st rs) res=A:=by conv=>lhs;simp only [B8,A7,A0,↓A3,seval]) (h1:ressS st rs:=by simp only [B8,A0,↓A3,seval]):Ci c rs res [] .ret st:=Ci.pure h1 (h2▸a)
theorem rr (h2:Ag (retV st rs) res:=by (simp only [B8,A7,A0,↓A3,seval])<;>first|exact Ag.refl _|rfl|trivial) (h1:ressS st rs:=by simp only [B8,A0,↓A3,seval]):Ci c rs res [] .ret st:=Ci.pure h1 h2
variable {outs:List (Nat×Own)} {st1:St}
theorem rK (h:Wk c st st1) (h3:OwnLe st1.own outs) (h2:Ag (retV st1 rs) res:=by simp only [B8,A7,A0,↓A3,seval]) (h1:ressS st1 rs:=by simp only [B8,A0,↓A3,seval]):Ci c rs res outs .ret st:=Ci.mk st1 h h1 h2 h3
theorem Et (h:Wk c st st1) (h3:OwnLe st1.own outs) (h2:Ag (retV st1 rs) res:=by simp only [B8,A7,A0,↓A3,seval]) (h1:ressS st1 rs:=by simp only [B8,A0,↓A3,seval]):Ci c rs res outs .nrm st:=Ci.mk' st1 h h1 h2 h3
end
section
variable {c:B3} {st:St} {b:Bool} {is:List I} {acc:List Lg} {K:List Lg→St→Prop}
inductive Qk (st:St):I→Bool→FuncId→List V→(V→V)→Prop
 |p {d:Option Nat} {f:Nat} {xs:List X} (hs:evSs true st xs):Qk st ⟨d,none,.call f xs⟩ true f (evVs st xs) (λv=>v)
 |g {d:Option Nat} {s:Nat} {want gc:Bool} {f:Nat} {xs:List X} (hg:gOf st.env s want=some gc) (hs:gc=true→evSs true st xs):Qk st ⟨d,some (s,want),.call f xs⟩ gc f (evVs st xs) (.gd gc)
 |v {d:Option Nat} {x:X} {f:Nat} {first cap:List V} {xs:List X} (hx:evV st x=.fn (.func f) first cap) (hsx:evS true st x) (hs:evSs true st xs):Qk st ⟨d,none,.callv x xs⟩ true f (first++(evVs st xs++cap)) (λv=>v)
theorem tq {P:Program} (hP:c.P=P) {i:I} {gc:Bool} {f:FuncId} {args:List V} {F:V→V}
  (hc:Qk st i gc f args F:=by first|exact .p (by repeat' first|exact trivial|(intro _;assumption)|apply And.intro)|exact .g rfl (by intro _;repeat' first|exact trivial|(intro _;assumption)|apply And.intro)|exact .v rfl trivial (by repeat' first|exact trivial|(intro _;assumption)|apply And.intro))
  (h:∃ res:V,(gc=true→Aj P f args [] res [] [])∧El c b is (st.stp i.dst { val:=F res,upd:=[],rd:=[],new:=[] }) (lgs b acc ⟨[],[]⟩) K):TR c b (i::is) st acc K:=by
 obtain ⟨res,hS,h⟩:=h
 cases hc with
 |p hs=>exact TR.p hP (hS rfl) hs h
 |g hg hs=>exact TR.gp hP hg hS hs h
 |v hx hsx hs=>exact TR.pv hP hx (hS rfl) hsx hs h
theorem tz {P:Program} (hP:c.P=P) {i:I} {gc:Bool} {f:FuncId} {args args':List V} {F:V→V} {res:V} (hS:Aj P f args [] res [] []) (h:El c b is (st.stp i.dst { val:=F res,upd:=[],rd:=[],new:=[] }) (lgs b acc ⟨[],[]⟩) K)
  (hc:Qk st i gc f args' F:=by first|exact .p (by repeat' first|exact trivial|(intro _;assumption)|apply And.intro)|exact .g rfl (by intro _;repeat' first|exact trivial|(intro _;assumption)|apply And.intro)|exact .v rfl trivial (by repeat' first|exact trivial|(intro _;assumption)|apply And.intro)) (he:args'=args:=by rfl):TR c b (i::is) st acc K:=tq hP (hc:=hc) ⟨res,λ_=>he▸hS,h⟩
theorem tC {d:Option Nat} {f:Nat} {xs:List X} (ins outs:List (Nat×Own)) {res:V} {P:Program} (hP:c.P=P) (hS:Aj P f (evVs st xs) ins res outs []) (hin:∀ k o,(k,o)∈ins→own? st.own k=some o)
  (h:El c b is (st.stp d { val:=res,upd:=callU ins outs,rd:=keysO ins,new:=[] }) (lgs b acc ⟨keysO ins,(callU ins outs).map (·.1)++[]⟩) K) (hs:evSs true st xs:=by repeat' first|exact trivial|(intro _;assumption)|apply And.intro) (hno:(keysO ins).Nodup:=by simp [keysO]) (hnew:∀ k,k∈([]:List Nat)→k∉st.nm:=by simp):TR c b (⟨d,none,.call f xs⟩::is) st acc K:=
 TR.call ins outs res [] (hP▸hS) hs hin hno hnew h
theorem Xf {d:Option Nat} {s:Nat} {want:Bool} {q:O} (hg:gOf st.env s want=some false):D0 c ⟨d,some (s,want),q⟩ st { val:=.gd false (.d (.bool false)),upd:=[],rd:=[],new:=[] }:=by
 intro st1 h1 h2 h3 ops o hc β a w H Q K hK
 obtain ⟨j,hgo,hj⟩:=K2 hc
 have hw:=Gj H hgo hj (by rw [Hp h1];exact hg)
 rw [if_neg (by rw [hw];simp)]
 have hdst:=hc.dst
 simp only at hdst
 refine hK β _ w ?_
 rw [hdst]
 simp only [St.stp,applyU,newN]
 cases d with
 |none=>exact H
 |some d'=>exact H.setV (hc.lt d' rfl) (.gd _ _ _ (λh=>by cases h) (λ_=>rfl))
theorem tF {d:Option Nat} {s:Nat} {want:Bool} {q:O} (h:El c b is (st.stp d { val:=.gd false (.d (.bool false)),upd:=[],rd:=[],new:=[] }) (lgs b acc ⟨[],[]⟩) K) (hg:gOf st.env s want=some false:=by rfl):TR c b (⟨d,some (s,want),q⟩::is) st acc K:=
 TR.cons _ (Xf hg) (λk hk=>by simp at hk) (C1 h)
theorem tI {P:Program} (hP:c.P=P) {d:Option Nat} {name:String} {x:X} {t:TypeId} {fs:Array _} {xv:V} {f:Nat} {xs:List X} {res:V} (hm:Ss P t name=some (f,false)) (ht:P.underlying t=some (.struct fs))
  (hS:Aj P f (xv::evVs st xs) [] res [] []) (h:El c b is (st.stp d { val:=res,upd:=[],rd:=[],new:=[] }) (lgs b acc ⟨[],[]⟩) K)
  (hx:evV st x=.ifc t xv:=by rfl) (hsx:evS true st x:=by first|exact trivial|exact λ_=>rfl|rfl) (hs:evSs true st xs:=by repeat' first|exact trivial|rfl|(intro _;first|assumption|rfl)|apply And.intro):TR c b (⟨d,none,.ivk name x xs⟩::is) st acc K:=TR.ivs hP hx hm ht hS hsx hs h
theorem tJ {P:Program} (hP:c.P=P) {d:Option Nat} {s:Nat} {want:Bool} {name:String} {x:X} {t:TypeId} {fs:Array _} {xv:V} {f:Nat} {xs:List X} {res:V} (hm:Ss P t name=some (f,false)) (ht:P.underlying t=some (.struct fs))
  (hS:Aj P f (xv::evVs st xs) [] res [] []) (h:El c b is (st.stp d { val:=res,upd:=[],rd:=[],new:=[] }) (lgs b acc ⟨[],[]⟩) K)
  (hg:gOf st.env s want=some true:=by rfl) (hx:evV st x=.ifc t xv:=by rfl) (hsx:evS true st x:=by first|exact trivial|exact λ_=>rfl|rfl) (hs:evSs true st xs:=by repeat' first|exact trivial|rfl|(intro _;first|assumption|rfl)|apply And.intro):TR c b (⟨d,some (s,want),.ivk name x xs⟩::is) st acc K:=TR.ivsG hP hg hx hm ht hS hsx hs h
end
theorem aX {A B:Prop} (h:B) (o:A:=by first|omega|exact trivial|rfl|(simp only [maxLen,decide_eq_true_eq,decide_eq_false_iff_not] at *;omega)):A∧B:=⟨o,h⟩
end Go.Bx
end
section
namespace Go.Proofs.YtakohhkgeeoniaaGreat
open Go.Bx
set_option maxRecDepth 100000
def kc40:C:=
  (.seq (.reg [jj 3 (.never),jm 2 3])
 (.seq (.reg [jm 4 2,jj 5 (.nili true (.t 4))])
 (.cond (.t 5) (.drw [0, 0, 2, 6, 1, 31]
  [jj 6 (.build [zi,zi,zi,zi,zi] []),jm 7 2,jj 8 (.tas 133 false (.t 7)),jj 9 (.fld 0 1 false (.t 8)),jn (.store 5 (.t 0) (.t 6)),jn (.store 1 (.t 1) (.t 9))])
 .skip)))
theorem ok40:In Tryz.prog 40=true:=by kernel_rfl
def xc:C:=
  (.seq (.reg [jj 2 (.mov (.k (zl)))])
 (.seq (.reg [jm 3 0,jj 4 (.call 129 [(.k (zl)),(.t 3)]),jm 2 4])
 .ret))
def mh:List RV:=[.tmp 2]
theorem ok105:In Tryz.prog 105=true:=by kernel_rfl
theorem cc105:Dg Tryz.prog Tryz.f105.ntmps (Tryz.f105.body.getD .skip)=some xc:=by kernel_rfl
theorem cr105:D2 Tryz.prog Tryz.f105.results.toList=some mh:=by kernel_rfl
def xh:C:=
  (.seq (.reg [jj 2 (.box 92 (.t 0)),jj 4 (.mov (.k (zl)))])
 (.seq (.seq (.reg [jm 6 1])
 (.block 0 (.rfn (.t 6) [7] (.reg [jj 5 (.alloc 111 [zi,zi,zi,zi,zi,zi,zi,zl,zi]),jn (.store 9 (.t 5) (.t 7))])
 (.block 2 (.reg [jj 8 (.load 1 false (.t 2)),jj 9 (.load 9 true (.t 5)),jj 10 (.bslice 111 9 1 [(.t 9)]),jj 11 (.app 111 9 88 (.t 8) (.t 10)),jn (.store 1 (.t 2) (.t 11))])))))
 (.seq (.reg [jj 12 (.load 1 false (.t 2)),jm 4 12])
 .ret)))
def nu:List RV:=[.tmp 4]
theorem ok129:In Tryz.prog 129=true:=by kernel_rfl
theorem cc129:Dg Tryz.prog Tryz.f129.ntmps (Tryz.f129.body.getD .skip)=some xh:=by kernel_rfl
theorem cr129:D2 Tryz.prog Tryz.f129.results.toList=some nu:=by kernel_rfl
def xx:C:=
  (.seq (.reg [jj 6 (.fadr 9 (.t 1)),jj 7 (.load 1 false (.t 6)),jj 8 (.len (.t 7)),jj 9 (.mov (ki 0))])
 (.block 0 (.loop (.seq (.reg [jj 10 (.bin .lss (.t 9) (.t 8))])
 (.seq (.cond (.t 10) .skip
 (.exit 0))
 (.seq (.block 2 (.seq (.reg [jj 11 (.iadr 9 (.t 7) (.t 9)),jj 12 (.load 9 true (.t 11)),jj 5 (.alloc 111 [zi,zi,zi,zi,zi,zi,zi,zl,zi]),jn (.store 9 (.t 5) (.t 12))])
 (.seq (.seq (.reg [jj 13 (.fadr 0 (.t 5)),jj 14 (.load 1 false (.t 13)),jj 15 (.load 1 false (.t 2)),jj 16 (.bin .gtr (.t 14) (.t 15))])
 (.cond (.t 16) (.exit 2)
 .skip))
 (.seq (.reg [jj 17 (.fadr 7 (.t 5)),jj 18 (.load 1 false (.t 17)),jj 19 (.call 104 [(.t 18)]),jj 20 (.fadr 7 (.t 5)),jn (.store 1 (.t 20) (.t 19))])
 (.seq (.reg [jm 21 0,jj 22 (.load 9 true (.t 5)),jj 23 (.callv (.t 21) [(.t 22)]),jj 24 (.inv .not (.t 23))])
 (.cond (.t 24) .ret
 .skip))))))
 (.reg [jj 25 (.bin .add (.t 9) (ki 1)),jm 9 25])))))))
def rs130:List RV:=[]
theorem ok130:In Tryz.prog 130=true:=by kernel_rfl
theorem cc130:Dg Tryz.prog Tryz.f130.ntmps (Tryz.f130.body.getD .skip)=some xx:=by kernel_rfl
theorem cr130:D2 Tryz.prog Tryz.f130.results.toList=some rs130:=by kernel_rfl
def xg:my:=
  ⟨(.seq (.reg [jj 1 (.box 308 (.t 0)),jj 2 (.alloc 4 [.d (.bool false)])])
 (.seq (.reg [jj 3 (.alloc 3 [zi]),jn (.store 1 (.t 3) (ki 0))])
 .skip)),
  [jj 6 (.mkfn (.func 168) [] [(.t 3),(.t 1),(.t 2)])],
  (.t 6),[],
  (.seq (.seq (.reg [jj 7 (.load 1 false (.t 1)),jj 8 (.len (.t 7)),jj 9 (.mov (ki 0))])
 (.block 0 (.loop (.seq (.reg [jj 10 (.bin .lss (.t 9) (.t 8))])
 (.seq (.cond (.t 10) .skip
 (.exit 0))
 (.seq (.block 2 (.seq (.reg [jj 11 (.iadr 1 (.t 7) (.t 9)),jj 12 (.load 1 false (.t 11)),jm 5 12])
 (.seq (.seq (.reg [jm 13 5,jj 14 (.callv (.t 13) []),jj 15 (.inv .not (.t 14))])
 (.cond (.t 15) .ret
 .skip))
 (.reg [jj 16 (.load 1 false (.t 3)),jj 17 (.bin .add (.t 16) (ki 1)),jn (.store 1 (.t 3) (.t 17))]))))
 (.reg [jj 18 (.bin .add (.t 9) (ki 1)),jm 9 18])))))))
 .ret)⟩
def bg:List RV:=[.cell 2 1 false]
theorem ok143:In Tryz.prog 143=true:=by kernel_rfl
theorem cd143:Jx Tryz.prog Tryz.f143.ntmps (Tryz.f143.body.getD .skip)=some xg:=by kernel_rfl
theorem cr143:D2 Tryz.prog Tryz.f143.results.toList=some bg:=by kernel_rfl
def vy:C:=
  (.seq (.reg [jj 4 (.load 1 false (.t 1)),jj 5 (.len (.t 4)),jj 6 (.bin .sub (.t 5) (ki 1)),jm 3 6])
 (.block 0 (.loop (.seq (.seq (.reg [jm 7 3,jj 8 (.bin .geq (.t 7) (ki 0))])
 (.cond (.t 8) .skip
 (.exit 0)))
 (.seq (.block 2 (.seq (.reg [jm 11 0,jm 12 3,jj 13 (.load 1 false (.t 1)),jm 14 3,jj 15 (.iadr 9 (.t 13) (.t 14)),jj 16 (.load 9 true (.t 15)),jj 17 (.callv (.t 11) [(.t 12),(.t 16)]),jj 18 (.inv .not (.t 17))])
 (.cond (.t 18) .ret
 .skip)))
 (.reg [jm 9 3,jj 10 (.bin .sub (.t 9) (ki 1)),jm 3 10]))))))
def rs158:List RV:=[]
theorem ok158:In Tryz.prog 158=true:=by kernel_rfl
theorem cc158:Dg Tryz.prog Tryz.f158.ntmps (Tryz.f158.body.getD .skip)=some vy:=by kernel_rfl
theorem cr158:D2 Tryz.prog Tryz.f158.results.toList=some rs158:=by kernel_rfl
theorem ok168:In Tryz.prog 168=true:=by kernel_rfl
theorem xy:In Tryz.prog 227=true:=by kernel_rfl
def kc232:C:=
  (.seq (.seq (.reg [jj 8 (.fadr 0 (.t 2)),jj 9 (.load 1 false (.t 8)),jj 10 (.len (.t 9)),jm 5 10])
 (.seq (.reg [jm 11 5,jj 12 (.bin .gtr (.t 11) (ki 0)),jm 13 12,jg 14 13 true (.fadr 0 (.t 2)),jg 15 13 true (.load 1 false (.t 14)),jg 16 13 true (.mov (.t 5)),jg 17 13 true (.bin .sub (.t 16) (ki 1)),jg 18 13 true (.iadr 1 (.t 15) (.t 17)),jg 19 13 true (.load 1 false (.t 18)),jg 20 13 true (.mov (.t 0)),jg 21 13 true (.bin .eql (.t 19) (.t 20)),jj 22 (.pick (.t 13) (.t 21) (.k (.d (.bool false))))])
 (.cond (.t 22) (.drw [0, 1, 0, 4, 15, 0, 32, 0, 128, 480, 127, 1151, 4095, 8191]
  [jj 23 (.fadr 0 (.t 2)),jj 24 (.load 1 false (.t 23)),jm 25 5,jj 26 (.bin .sub (.t 25) (ki 1)),jj 27 (.slc 1 (.t 24) none (some (.t 26)) none),jj 28 (.fadr 1 (.t 2)),jj 29 (.load 1 false (.t 28)),jm 30 5,jj 31 (.bin .sub (.t 30) (ki 1)),jj 32 (.slc 1 (.t 29) none (some (.t 31)) none),jj 33 (.fadr 0 (.t 2)),jn (.store 1 (.t 33) (.t 27)),jj 34 (.fadr 1 (.t 2)),jn (.store 1 (.t 34) (.t 32))])
 .skip)))
 (.seq (.reg [jj 6 (.mov (ki 0))])
 (.seq (.seq (.reg [jj 35 (.fadr 1 (.t 2)),jj 36 (.load 1 false (.t 35)),jj 37 (.len (.t 36)),jm 7 37])
 (.seq (.reg [jm 38 7,jj 39 (.bin .gtr (.t 38) (ki 0))])
 (.cond (.t 39) (.reg [jj 40 (.fadr 1 (.t 2)),jj 41 (.load 1 false (.t 40)),jm 42 7,jj 43 (.bin .sub (.t 42) (ki 1)),jj 44 (.iadr 1 (.t 41) (.t 43)),jj 45 (.load 1 false (.t 44)),jm 6 45])
 .skip)))
 (.seq (.reg [jm 46 1,jm 47 6,jj 48 (.bin .neq (.t 46) (.t 47)),jm 49 48,jg 50 49 true (.mov (.t 0)),jg 51 49 true (.bin .leq (.t 50) (ki 292194)),jj 52 (.pick (.t 49) (.t 51) (.k (.d (.bool false))))])
 (.cond (.t 52) (.drw [0, 1, 0, 4, 15, 0, 32, 0, 128, 511, 127, 2047, 4095, 8191]
  [jj 53 (.fadr 0 (.t 2)),jj 54 (.load 1 false (.t 53)),jm 55 0,jj 56 (.bslice 3 1 1 [(.t 55)]),jj 57 (.app 3 1 8 (.t 54) (.t 56)),jj 58 (.fadr 1 (.t 2)),jj 59 (.load 1 false (.t 58)),jm 60 1,jj 61 (.bslice 3 1 1 [(.t 60)]),jj 62 (.app 3 1 8 (.t 59) (.t 61)),jj 63 (.fadr 0 (.t 2)),jn (.store 1 (.t 63) (.t 57)),jj 64 (.fadr 1 (.t 2)),jn (.store 1 (.t 64) (.t 62))])
 .skip)))))
def Ft:List RV:=[]
theorem Yv:In Tryz.prog 232=true:=by kernel_rfl
theorem Zr:Dg Tryz.prog Tryz.f232.ntmps (Tryz.f232.body.getD .skip)=some kc232:=by kernel_rfl
theorem Z3:D2 Tryz.prog Tryz.f232.results.toList=some Ft:=by kernel_rfl
def xf:C:=
  (.seq (.reg [jj 7 (.fadr 0 (.t 1)),jj 8 (.load 1 false (.t 7)),jm 4 8])
 (.seq (.seq (.reg [jj 9 (.fadr 0 (.t 2)),jj 10 (.load 1 false (.t 9)),jj 11 (.len (.t 10)),jj 12 (.mov (ki 0))])
 (.block 0 (.loop (.seq (.reg [jj 13 (.bin .lss (.t 12) (.t 11))])
 (.seq (.cond (.t 13) .skip
 (.exit 0))
 (.seq (.block 2 (.seq (.reg [jj 14 (.iadr 1 (.t 10) (.t 12)),jj 15 (.load 1 false (.t 14)),jm 6 15])
 (.seq (.seq (.reg [jm 16 6,jm 17 4,jj 18 (.bin .leq (.t 16) (.t 17)),jm 19 18,jg 20 19 false (.mov (.t 6)),jg 21 19 false (.fadr 1 (.t 1)),jg 22 19 false (.load 1 false (.t 21)),jg 23 19 false (.bin .geq (.t 20) (.t 22)),jj 24 (.pick (.t 19) (.k (.d (.bool true))) (.t 23))])
 (.cond (.t 24) (.exit 2)
 .skip))
 (.seq (.seq (.reg [jm 25 0,jm 26 4,jm 27 6,jj 28 (.build [zi,zi] [(0,1,(.t 26)),(1,1,(.t 27))]),jj 29 (.load 2 true (.t 2)),jm 30 4,jj 31 (.call 241 [(.t 29),(.t 30)]),jj 32 (.callv (.t 25) [(.t 28),(.t 31)]),jj 33 (.inv .not (.t 32))])
 (.cond (.t 33) .ret
 .skip))
 (.reg [jm 34 6,jm 4 34])))))
 (.reg [jj 35 (.bin .add (.t 12) (ki 1)),jm 12 35])))))))
 (.drw [0, 0, 0, 4, 14, 0, 0, 96, 255]
  [jm 36 0,jm 37 4,jj 38 (.fadr 1 (.t 1)),jj 39 (.load 1 false (.t 38)),jj 40 (.build [zi,zi] [(0,1,(.t 37)),(1,1,(.t 39))]),jj 41 (.load 2 true (.t 2)),jm 42 4,jj 43 (.call 241 [(.t 41),(.t 42)]),jj 44 (.callv (.t 36) [(.t 40),(.t 43)])])))
def rs240:List RV:=[]
theorem ok240:In Tryz.prog 240=true:=by kernel_rfl
theorem cc240:Dg Tryz.prog Tryz.f240.ntmps (Tryz.f240.body.getD .skip)=some xf:=by kernel_rfl
theorem cr240:D2 Tryz.prog Tryz.f240.results.toList=some rs240:=by kernel_rfl
end Go.Proofs.YtakohhkgeeoniaaGreat
end
section
namespace Go.Proofs.YtakohhkgeeoniaaGreat
def R8 (n:Int):Prop:=-9223372036854775808≤n∧n≤9223372036854775807
end Go.Proofs.YtakohhkgeeoniaaGreat
end
section
namespace Go.Proofs.YtakohhkgeeoniaaGreat
open Go.ChangeShapes Go.WideShapes Go.ChangeAt Go.RowKit Go.Bx
theorem Tryz.own:ownKnob Tryz.prog.godebug=none:=by kernel_rfl
theorem Tryz.laidOut:laidOutB Tryz.prog=true:=by kernel_rfl
theorem zt {n:Int} (h:(Lit.int .i64 n).wf=true):R8 n:=by
 simp only [Lit.wf,Bool.and_eq_true,decide_eq_true_eq] at h
 have e1:IntKind.i64.min=-9223372036854775808:=by decide +kernel
 have e2:IntKind.i64.max=9223372036854775807:=by decide +kernel
 unfold R8;omega
theorem Ak:B9 Tryz.prog 3 1 (λn:Int=>[.int .i64 n]) R8:=
 (B9.int Tryz.underlying3 (by kernel_rfl)).map id _ _ (λ_=>rfl) (λ_=>rfl) (λ_ h=>zt h)
end Go.Proofs.YtakohhkgeeoniaaGreat
end
section
namespace Go.Proofs.YtakohhkgeeoniaaGreat
open Go.Bx
def okS (f t:Int):Bool:=decide (f≥1)&&decide (f≤t)&&decide (t≤292195)
def F3 (f t:Int):Int×Int:=if (!(okS f t) || f == t)=true then (0,0) else (f,t)
def Qe (f t:Int):Int:=IntKind.i64.wrap ((F3 f t).2-(F3 f t).1)
def vS (f t:Int):V:=.ag [.d (.int .i64 f),.d (.int .i64 t)]
theorem Ll (f t:Int):Aj Tryz.prog 139 [vS f t] [] (.d (.bool (okS f t))) [] []:=by
 refine qP Tryz.func139 λc hP hfn=>?_;simp only [vS,A0,↓A3,seval]
 exact rp (by simp only [B8,A7,A0,↓A3,seval,okS])
theorem wu (f t:Int):Aj Tryz.prog 111 [vS f t] [] (vS (F3 f t).1 (F3 f t).2) [] []:=by
 refine qP Tryz.func111 λc hP hfn=>?_;simp only [vS,A0,↓A3,seval]
 repeat' first|(refine tz hP (Ll ..) ?_;try simp only [A0,↓A3,seval])|refine ⟨λh=>?_,λh=>?_⟩|refine aX ?_|fail
 all_goals exact rp (by simp only [B8,A7,A0,↓A3,seval,F3,vS, *])
theorem xb (f t:Int):Aj Tryz.prog 92 [vS f t] [] (.d (.int .i64 (Qe f t))) [] []:=by
 refine qP Tryz.func92 λc hP hfn=>?_;simp only [vS,A0,↓A3,seval]
 repeat' first|(refine tz hP (wu ..) ?_;try simp only [vS,A0,↓A3,seval])|refine ⟨λh=>?_,λh=>?_⟩|refine aX ?_|fail
 exact rp (by simp only [B8,A7,A0,↓A3,seval,Qe])
end Go.Proofs.YtakohhkgeeoniaaGreat
end
section
namespace Go.Proofs.YtakohhkgeeoniaaGreat
open Go.Bx
set_option maxRecDepth 10000
def Xe (lo hi x:Int):Bool:=!(decide (x<lo) || decide (x>hi))
def vW (lo hi:Int):V:=.ag [.d (.int .i64 lo),.d (.int .i64 hi)]
theorem sHas (lo hi:Int) (l:List Int) (hl:l.length≤9223372036854775807):Aj Tryz.prog 91 [vW lo hi,.d (slK .i64 l)] [] (.d (.bool (l.all (Xe lo hi)))) [] []:=by
 refine qP Tryz.func91 λc hP hfn=>?_;simp only [vW,A0,↓A3,seval]
 refine B4.loop (X:=Nat) (λk=>⟨[(2,.own 2 0),(7,.d (slK .i64 l)),(8,.d (.int .i64 l.length)),(9,.d (.int .i64 k))],[(2,.fix [.d (.int .i64 lo),.d (.int .i64 hi)])],[2]⟩)
  (λk=>k≤l.length∧l.all (Xe lo hi)=(l.drop k).all (Xe lo hi)) (λk=>l.length-k) 0 ⟨Nat.zero_le _,rfl⟩ (Wk.of [] hfn rfl (by simp only [A7,A0,↓A3,seval]) (by simp only [A7,A0,↓A3,seval])) ?_
 rintro k ⟨hk,he⟩
 simp only [A0,↓A3,seval]
 refine ⟨λh1=>?_,λh1=>?_⟩
 ·have hlt:k<l.length:=by simpa using h1
  obtain ⟨x,hd,hg,-,-⟩:=Ae hlt
  simp only [hg]
  rw [hd,List.all_cons] at he
  repeat' first|refine ⟨λh=>?_,λh=>?_⟩|refine aX ?_|fail
  ·(refine rq ?_;first|exact ⟨⟩|rw [he];simp [Xe,h])
  ·refine Al.on (k+1) ⟨hlt,?_⟩ (by omega) (Wk.of [] hfn rfl (by simp only [A7,A0,↓A3,seval];exact wS (by omega)) (by simp only [A7,A0,↓A3,seval]))
   rw [he];simp [Xe,h]
 ·have hkl:k=l.length:=by simp at h1;omega
  rw [hkl] at he
  (refine rq ?_;first|exact ⟨⟩|simp [he])
theorem xm {lo hi:Int} {full:Bool} {n:Nat} {ds:List D} {l:List Int} (h:Pv .i64 ds l) (hn:n=l.length) (hl:l.length≤9223372036854775807):Aj Tryz.prog 91 [vW lo hi,.d (.sl full 1 n (litRow 1 ds))] [] (.d (.bool (l.all (Xe lo hi)))) [] []:=
 (sHas lo hi l hl).arg ⟨Ag.refl _,h.vle hn,trivial⟩
structure Ty where
 id:Int
 kd:Int
 sf:Int
 st:Int
 bp:Int
 at':Int
 wi:Int
 ag:Int
 pe:Int
instance:Inhabited Ty:=⟨⟨0,0,0,0,0,0,0,0,0⟩⟩
def Rf (t:Ty):List V:=[.d (.int .i64 t.id),.d (.int .i64 t.kd),.d (.int .i64 t.sf),.d (.int .i64 t.st),.d (.int .i64 t.bp),.d (.int .i64 t.at'),.d (.int .i64 t.wi),.d (.int .i64 t.ag),.d (.int .i64 t.pe)]
def sj (t:Ty):V:=.ag (Rf t)
def Gg (t:Ty):List D:=[.int .i64 t.id,.int .i64 t.kd,.int .i64 t.sf,.int .i64 t.st,.int .i64 t.bp,.int .i64 t.at',.int .i64 t.wi,.int .i64 t.ag,.int .i64 t.pe]
def M1 (t:Ty):Bool:=
  !(!(Xe 1 1000000000 t.id) || (Qe t.sf t.st == 0) || !(Xe 1 255 t.pe)) &&
    (if t.kd = 1 then Xe 1 10000 t.bp && (Xe 0 0 t.at' && (Xe 0 0 t.wi && Xe 0 0 t.ag))
     else if t.kd=2∨t.kd=3 then (t.bp == 0)&&(Xe 0 1000000000000000 t.at'&&Xe 0 1000000000000000 t.wi)&&decide (t.wi>0)&&Xe 0 100 t.ag
     else false)
theorem Wg (t:Ty):Aj Tryz.prog 63 [sj t] [] (.d (.bool (M1 t))) [] []:=by
 refine qP Tryz.func63 λc hP hfn=>?_;simp only [sj,Rf,A0,↓A3,seval]
 repeat' first|(refine tq hP (h:=⟨_,λ_=>by first|exact xm (by repeat constructor) (by rfl) (by simp)|exact xb ..,?_⟩);try simp only [List.all_cons,List.all_nil,A0,↓A3,seval])|refine ⟨λh=>?_,λh=>?_⟩|refine aX ?_|fail
 all_goals (refine rq ?_;first|exact ⟨⟩|(simp [*,M1];done)|(simp_all [M1];done)|(simp only [M1];grind))
end Go.Proofs.YtakohhkgeeoniaaGreat
end
section
namespace Go.Proofs.YtakohhkgeeoniaaGreat
open Go.Bx
def ku (e:Int):V:=.ifc 37 (.d (.int .i64 e))
theorem nw (k:Nat) (e:Int):fu Tryz.prog 227 [k] none [(k,.fix [.d (.int .i64 e)])] [(k,.fix [.d (.int .i64 e)])]:=by
 refine ⟨xy,by simp [keysO],by simp [keysO],λE0 β w vals pv hE hsz hv hins _=>?_⟩
 obtain ⟨v,rfl⟩:∃ v,vals=#[v]:=by
  match vals,hsz with
  |⟨[v]⟩,_=>exact ⟨v,rfl⟩
 have h1:=hv 0 v k rfl rfl
 obtain ⟨b,rfl,hb⟩:∃ b,v=.pointer (some ⟨b,0,none⟩)∧β k=some (.pointer (some ⟨b,0,none⟩)):=by
  cases h1 with
  |own _ off b h=>exact ⟨b,rfl,h⟩
 refine (callsDIn_of_wpSIn (R:=λe u' w'=>e=.returned (.tuple #[])∧u'=.returning∧w'=w) Tryz.func227 rfl trivial λc₀ cs hu=>?_).mono ?_
 ·simp only [Mp] at hu
  apply wpSIn_seq
  apply wpSIn_region
  simp [wpOpsSIn,go_sem,recoverD,hu,Tryz.ntmps227,Exit.thenS]
  apply wpSIn_seq
  apply wpSIn_region
  simp [wpOpsSIn,go_sem,Tryz.ntmps227,Exit.thenS]
  refine wpSIn_cond (t:=false) (by simp [Act.eval,Array.replicate]) ?_
  simp only [Bool.false_eq_true,if_false]
  refine wpSIn_of_wpIn rfl (wpIn_skip ?_)
  cases c₀
  simp_all [bodyPostS,results,Tryz.results227]
 ·rintro e u' w' ⟨rfl,rfl,rfl⟩
  exact ⟨_,rfl,rfl,hins,Aw.refl _ _⟩
theorem Pf {E0:Nat→Prop} {β:A6} {w:World} {own:List (Nat×Own)} {k b:Nat} {x:V} (h:At E0 β w own) (hk:(k,Own.fix [x])∈own) (hb:β k=some (.pointer (some ⟨b,0,none⟩))) :
  ∃ v e,w.heap[b]?=some (.cells #[v] e (0,0))∧w.cell? ⟨b,0,none⟩=some v∧w.frozen? ⟨b,0,none⟩=false∧Ai β (Eo E0 β own) w v x:=by
 obtain ⟨b',arr,e,h1,h2,h3,h4⟩:=h.ok k _ hk
 rw [hb] at h1
 injection h1 with h1;injection h1 with h1;injection h1 with h1;injection h1 with h1
 subst h1
 match arr,h3 with
 |⟨[v]⟩,_=>exact ⟨v,e,h2,by simp [World.cell?,h2],by simp [World.frozen?,h2],h4 0 v x rfl rfl⟩
theorem qc {w:World} {b:Nat} {u v:Value} {e:TypeId} (h:w.heap[b]?=some (.cells #[u] e (0,0))):(w.setCell ⟨b,0,none⟩ v).heap[b]?=some (.cells #[v] e (0,0)):=by
 simp [World.setCell,Array.getElem?_modify,h]
theorem N6 {w:World} {b i:Nat} {v:Value} (h:b≠i):(w.setCell ⟨b,0,none⟩ v).heap[i]?=w.heap[i]?:=by
 simp [World.setCell,Array.getElem?_modify,h]
theorem S3 {w:World} {b:Nat} {v:Value} {L:Nat→Prop} (h:L b):Aw L w (w.setCell ⟨b,0,none⟩ v):=
 ⟨rfl,rfl,rfl,by simp,λi _ hl=>N6 (λe=>hl (e▸h))⟩
theorem bl {E0:Nat→Prop} {β:A6} {w:World} {own:List (Nat×Own)} {k b:Nat} {x:V} (h:At E0 β w own) (hk:(k,Own.fix [x])∈own) (hb:β k=some (.pointer (some ⟨b,0,none⟩))) {v:Value} {y:V}
  (hv:Ai β (Eo E0 β own) w v y):At E0 β (w.setCell ⟨b,0,none⟩ v) (setO own k (.fix [y])):=by
 obtain ⟨u,e,h1,-,-,-⟩:=Pf h hk hb
 have hkk:k∈keysO own:=Ab hk
 have hE:Eo E0 β (setO own k (.fix [y]))=Eo E0 β own:=Mt hkk
 have hbk:β.blk k=some b:=by simp [A6.blk,hb,B0]
 have hl:B5 (Eo E0 β own) (Eo E0 β (setO own k (.fix [y]))) w (w.setCell ⟨b,0,none⟩ v):=λi hi hn=>by
  rw [hE]
  refine ⟨hn,N6 λe=>hn (.inr ⟨k,hkk,by rw [hbk,e]⟩)⟩
 have hks:∀ j,j∈keysO (setO own k (.fix [y]))→j∈keysO own:=λj hj=>by
  obtain ⟨o,ho⟩:=Dh.1 hj
  rw [Af] at ho
  split at ho
  ·rename_i e;rw [e];exact hkk
  ·exact Ab (Ah ho)
 refine ⟨λj o hj=>?_,Gv h.nodup,λj j' h1 h2=>h.apart j j' (hks j h1) (hks j' h2),λj hj i hi=>by
  have:=h.lt j (hks j hj) i hi
  simpa using this⟩
 have ho:=Ay (Gv h.nodup) hj
 rw [Af] at ho
 split at ho
 ·rename_i e1
  cases ho
  subst e1
  refine ⟨b,#[v],e,hb,qc h1,rfl,λq u' x' hq hx'=>?_⟩
  have:q=0:=by
   have:=(Array.getElem?_eq_some_iff.1 hq).1;simp at this;exact this
  subst this
  cases hq;cases hx'
  exact hv.lasts hl (λ_ _=>rfl)
 ·rename_i e1
  refine (h.ok j o (Ah ho)).lasts hl (A6.le.refl β) (λi hi=>N6 λe2=>?_)
  exact h.apart j k (Ab (Ah ho)) hkk e1 i hi (by rw [hbk,e2])
theorem mo {P:Program} {t xt:TypeId} (hr:Mg P t=true) (v:Value) (w:World):(Instr.typeAssert (.iface t v) xt t true).run P w=.ok (.tuple #[v,.bool true]) w:=by
 unfold Mg at hr
 split at hr
 ·cases hr
 ·rename_i dd hne hdd
  simp only [Instr.typeAssert,Sem.run_bind,run_underlying hdd,Result.andThen_ok]
  split<;>first
   |(rename_i hm;exact absurd (hm▸hdd) (hne _))
   |simp_all
 ·cases hr
theorem Qq (k:Nat) (e n:Int):fu Tryz.prog 227 [k] (some (ku n)) [(k,.fix [.d (.int .i64 e)])] [(k,.fix [.d (.int .i64 n)])]:=by
 refine ⟨xy,by simp [keysO],by simp [keysO],λE0 β w vals pv hE hsz hv hins hp=>?_⟩
 obtain ⟨v,rfl⟩:∃ v,vals=#[v]:=by
  match vals,hsz with
  |⟨[v]⟩,_=>exact ⟨v,rfl⟩
 have h1:=hv 0 v k rfl rfl
 obtain ⟨b,rfl,hb⟩:∃ b,v=.pointer (some ⟨b,0,none⟩)∧β k=some (.pointer (some ⟨b,0,none⟩)):=by
  cases h1 with
  |own _ off b h=>exact ⟨b,rfl,h⟩
 obtain rfl:pv=.iface 37 (.int .i64 n):=by
  have:=hp _ rfl
  cases this with
  |ifc t v x h=>cases h with|d _ _ h=>cases h;rfl
 obtain ⟨u,ty,g1,g2,g3,-⟩:=Pf (x:=.d (.int .i64 e)) hins (by simp) hb
 refine (callsDIn_of_wpSIn (R:=λe u' w'=>e=.returned (.tuple #[])∧u'=.panicking [{ v:=.iface 37 (.int .i64 n),recovered:=true }]∧w'=w.setCell ⟨b,0,none⟩ (.int .i64 n)) Tryz.func227 rfl trivial λc₀ cs hu=>?_).mono ?_
 ·simp only [Mp] at hu
  apply wpSIn_seq
  apply wpSIn_region
  simp [wpOpsSIn,go_sem,recoverD,hu,Tryz.ntmps227,Exit.thenS]
  apply wpSIn_seq
  apply wpSIn_region
  simp [wpOpsSIn,go_sem,Tryz.ntmps227,Exit.thenS]
  refine wpSIn_cond (t:=true) (by simp [Act.eval,Array.replicate]) ?_
  simp only [if_true]
  apply wpSIn_region
  have q1:=mo (P:=Tryz.prog) (t:=37) (xt:=20) (by kernel_rfl) (.int .i64 n) w
  simp [wpOpsSIn,go_sem,q1,g2,g3,bodyPostS,results,Tryz.results227]
 ·rintro e' u' w' ⟨rfl,rfl,rfl⟩
  refine ⟨_,rfl,rfl,?_,S3 ⟨k,by simp [keysO],by simp [A6.blk,hb,B0]⟩⟩
  have:=bl (x:=.d (.int .i64 e)) hins (by simp) hb (v:=.int .i64 n) (y:=.d (.int .i64 n)) (.d _ _ (.int _ _))
  simpa [setO] using this
end Go.Proofs.YtakohhkgeeoniaaGreat
end
section
namespace Go.Proofs.YtakohhkgeeoniaaGreat
open Go.Bx
set_option maxRecDepth 10000
theorem wU {a:Int} (h:0≤a∧a≤18446744073709551615):IntKind.u64.wrap a=a:=by rw [IntKind.wrap_u64];omega
def orU (a b:Int):Int:=IntKind.u64.wrap ((BitVec.ofInt IntKind.u64.bits a ||| BitVec.ofInt IntKind.u64.bits b).toNat:Int)
theorem qx (a i b:Nat) (h1:a*2 ^ i<18446744073709551616) (h2:b<2 ^ i) (h3:b<18446744073709551616):orU ((a*2 ^ i:Nat):Int) (b:Int)=((a*2 ^ i+b:Nat):Int):=by
 have e0:∀ x:Nat,x<18446744073709551616→(BitVec.ofInt IntKind.u64.bits (x:Int)).toNat=x:=λx hx=>by simp [IntKind.bits];omega
 have h4:(BitVec.ofInt IntKind.u64.bits ((a*2 ^ i:Nat):Int) ||| BitVec.ofInt IntKind.u64.bits (b:Int)).toNat=a*2 ^ i+b:=by
  rw [BitVec.toNat_or,e0 _ h1,e0 _ h3,←Nat.shiftLeft_eq,Nat.shiftLeft_add_eq_or_of_lt h2]
 have h5:a*2 ^ i+b<18446744073709551616:=by
  rw [←h4];exact (BitVec.ofInt IntKind.u64.bits ((a*2 ^ i:Nat):Int) ||| BitVec.ofInt IntKind.u64.bits (b:Int)).isLt
 rw [orU,h4,wU (by omega)]
theorem K4 (a b:Nat):(a:Int).fdiv (b:Int)=((a / b:Nat):Int):=by
 cases b with
 |zero=>simp
 |succ b=>rw [Int.fdiv_eq_ediv_of_nonneg _ (by omega)];simp
theorem Qb (a b:Nat):(a:Int).tdiv (b:Int)=((a / b:Nat):Int):=by
 rw [Int.tdiv_eq_ediv_of_nonneg (by omega)];simp
theorem Vv (a b:Nat):(a:Int).tmod (b:Int)=((a % b:Nat):Int):=by
 rw [Int.tmod_eq_emod_of_nonneg (by omega)];simp
def Eg (x:Nat):Nat:=if x=0 then 0 else Nat.log2 x+1
theorem ur {x n:Nat} (h1:2 ^ n≤x) (h2:x<2 ^ (n+1)):Eg x=n+1:=by
 have hx:x≠0:=λe=>by have:=Nat.two_pow_pos n;omega
 rw [Eg,if_neg hx,(Nat.log2_eq_iff hx).2 ⟨h1,h2⟩]
theorem Ke {x:Nat} (h:x≠0):∃ n,Eg x=n+1∧2 ^ n≤x∧x<2 ^ (n+1):=
 ⟨Nat.log2 x,by rw [Eg,if_neg h],((Nat.log2_eq_iff h).1 rfl).1,((Nat.log2_eq_iff h).1 rfl).2⟩
theorem Ck {x k:Nat} (h:2 ^ k≤x):Eg x=Eg (x / 2 ^ k)+k:=by
 have h0:0<x / 2 ^ k:=Nat.div_pos h (Nat.two_pow_pos k)
 obtain ⟨n,h1,h2,h3⟩:=Ke (x:=x / 2 ^ k) (by omega)
 rw [h1]
 have h4:2 ^ n*2 ^ k≤x:=(Nat.le_div_iff_mul_le (Nat.two_pow_pos k)).1 h2
 have h5:x<2 ^ (n+1)*2 ^ k:=(Nat.div_lt_iff_lt_mul (Nat.two_pow_pos k)).1 h3
 rw [←Nat.pow_add] at h4 h5
 rw [ur (n:=n+k) h4 (by rw [show n+k+1=n+1+k by omega];exact h5)]
 omega
theorem wUn (n:Nat):IntKind.u64.wrap (n:Int)=((n % 18446744073709551616:Nat):Int):=by rw [IntKind.wrap_u64];omega
theorem andN (x:Nat):(BitVec.ofInt IntKind.u64.bits (x:Int) &&& BitVec.ofInt IntKind.u64.bits 4294967295).toNat=x % 4294967296:=by
 rw [BitVec.toNat_and]
 have e1:(BitVec.ofInt IntKind.u64.bits (x:Int)).toNat=x % 18446744073709551616:=by
  simp [IntKind.bits]
 have e2:(BitVec.ofInt IntKind.u64.bits 4294967295).toNat=2 ^ 32-1:=by decide +kernel
 rw [e1,e2,Nat.and_two_pow_sub_one_eq_mod];omega
theorem p32:(2:Int) ^ min 32 IntKind.u64.bits=4294967296:=by decide +kernel
theorem Za (n:Nat):(n:Int).fdiv 4294967296=((n / 4294967296:Nat):Int):=K4 n 4294967296
theorem p16:(2:Int) ^ min 16 IntKind.u64.bits=65536:=by decide +kernel
theorem p8:(2:Int) ^ min 8 IntKind.u64.bits=256:=by decide +kernel
theorem fdivM (n:Nat):(n:Int).fdiv 65536=((n / 65536:Nat):Int):=K4 n 65536
theorem fdivS (n:Nat):(n:Int).fdiv 256=((n / 256:Nat):Int):=K4 n 256
theorem sMul64 (x y:Nat) (hx:x<18446744073709551616) (hy:y<18446744073709551616):Aj Tryz.prog 141 [.d (.int .u64 x),.d (.int .u64 y)] [] (.tup [.d (.int .u64 ((x*y / 18446744073709551616:Nat):Int)),.d (.int .u64 ((x*y % 18446744073709551616:Nat):Int))]) [] []:=by
 refine qP Tryz.func141 λc hP hfn=>?_;simp only [andN,p32,Za,←Int.natCast_mul,←Int.natCast_add,wUn,A0,↓A3,seval]
 have hm:=Go.Lib.mul64_hi x y hx hy
 have ha:=Go.Lib.half_mul_le (a:=x / 4294967296) (b:=y / 4294967296) (by omega) (by omega)
 have hb:=Go.Lib.half_mul_le (a:=x / 4294967296) (b:=y % 4294967296) (by omega) (by omega)
 have hc:=Go.Lib.half_mul_le (a:=x % 4294967296) (b:=y / 4294967296) (by omega) (by omega)
 have hd:=Go.Lib.half_mul_le (a:=x % 4294967296) (b:=y % 4294967296) (by omega) (by omega)
 (refine rp (Ag.tups ?_);simp only [B8,A0,↓A3,seval])
 refine ⟨Ag.int (congrArg Int.ofNat ?_),Ag.int rfl,trivial⟩
 have e1:x % 4294967296 % 18446744073709551616=x % 4294967296:=by omega
 have e2:y % 4294967296 % 18446744073709551616=y % 4294967296:=by omega
 rw [e1,e2]
 generalize (x / 4294967296)*(y / 4294967296)=a at *
 generalize (x / 4294967296)*(y % 4294967296)=b at *
 generalize (x % 4294967296)*(y / 4294967296)=c at *
 generalize (x % 4294967296)*(y % 4294967296)=d at *
 generalize x*y / 18446744073709551616=z at *
 omega
def qk:ByteArray:=⟨#[0,1,2,2,3,3,3,3,4,4,4,4,4,4,4,4,5,5,5,5,5,5,5,5,5,5,5,5,5,5,5,5,6,6,6,6,6,6,6,6,6,6,6,6,6,6,6,6,6,6,6,6,6,6,6,6,6,6,6,6,6,6,6,6,7,7,7,7,7,7,7,7,7,7,7,7,7,7,7,7,7,7,7,7,7,7,7,7,7,7,7,7,7,7,7,7,7,7,7,7,7,7,7,7,7,7,7,7,7,7,7,7,7,7,7,7,7,7,7,7,7,7,7,7,7,7,7,7,8,8,8,8,8,8,8,8,8,8,8,8,8,8,8,8,8,8,8,8,8,8,8,8,8,8,8,8,8,8,8,8,8,8,8,8,8,8,8,8,8,8,8,8,8,8,8,8,8,8,8,8,8,8,8,8,8,8,8,8,8,8,8,8,8,8,8,8,8,8,8,8,8,8,8,8,8,8,8,8,8,8,8,8,8,8,8,8,8,8,8,8,8,8,8,8,8,8,8,8,8,8,8,8,8,8,8,8,8,8,8,8,8,8,8,8,8,8,8,8,8,8,8,8,8,8,8,8]⟩
theorem Jl:∀ z:Nat,z<256→fh qk z=((Eg z:Nat):Int):=by
 have h:((List.range 256).all λz=>fh qk z == ((Eg z:Nat):Int))=true:=by decide +kernel
 intro z hz
 exact eq_of_beq (List.all_eq_true.1 h z (by simpa using hz))
theorem xl {z:Nat} (h:z<256):IntKind.u8.wrap (z:Int)=(z:Int):=by rw [IntKind.wrap_u8];omega
theorem Fp {z:Nat} (h:z<256):Eg z≤8:=by
 by_cases h0:z=0
 ·subst h0;simp [Eg]
 ·obtain ⟨n,h1,h2,h3⟩:=Ke h0
  rw [h1]
  have:n<8:=(Nat.pow_lt_pow_iff_right (show 1<2 by omega)).1 (show 2 ^ n<2 ^ 8 by omega)
  omega
theorem sLen64 (x:Nat) (hx:x<18446744073709551616):Aj Tryz.prog 180 [.d (.int .u64 x)] [] (.d (.int .i64 ((Eg x:Nat):Int))) [] []:=by
 refine qP Tryz.func180 λc hP hfn=>?_;simp only [p32,p16,p8,Za,fdivM,fdivS,←Int.natCast_mul,←Int.natCast_add,wUn,A0,↓A3,seval]
 repeat' first|refine ⟨λh=>?_,λh=>?_⟩|refine aX ?_|fail
 ·simp only [ge_iff_le,decide_eq_true_eq,decide_eq_false_iff_not,Int.not_le] at *
  have hz:x / 4294967296 / 65536 / 256<256:=by omega
  have q32:=Ck (x:=x) (k:=32) (by omega)
  rw [show (2:Nat) ^ 32=4294967296 from rfl] at q32
  have q16:=Ck (x:=x / 4294967296) (k:=16) (by omega)
  rw [show (2:Nat) ^ 16=65536 from rfl] at q16
  have q8:=Ck (x:=x / 4294967296 / 65536) (k:=8) (by omega)
  rw [show (2:Nat) ^ 8=256 from rfl] at q8
  have e:=xl hz
  have et:=Jl _ hz
  have hb:=Fp hz
  rw [e]
  refine And.intro ⟨by omega,(show (((x / 4294967296 / 65536 / 256:Nat):Int)<256) by omega)⟩ ?_
  (refine rq ?_;first|exact ⟨⟩|(change IntKind.i64.wrap (_+IntKind.i64.wrap (fh qk (x / 4294967296 / 65536 / 256)))=_;rw [et,wI (a:=((Eg (x / 4294967296 / 65536 / 256):Nat):Int)) (by omega)];rw [q32,q16,q8];generalize Eg (x / 4294967296 / 65536 / 256)=w at *;simp only [IntKind.wrap_i64];omega))
 ·simp only [ge_iff_le,decide_eq_true_eq,decide_eq_false_iff_not,Int.not_le] at *
  have hz:x / 4294967296 / 65536<256:=by omega
  have q32:=Ck (x:=x) (k:=32) (by omega)
  rw [show (2:Nat) ^ 32=4294967296 from rfl] at q32
  have q16:=Ck (x:=x / 4294967296) (k:=16) (by omega)
  rw [show (2:Nat) ^ 16=65536 from rfl] at q16
  have e:=xl hz
  have et:=Jl _ hz
  have hb:=Fp hz
  rw [e]
  refine And.intro ⟨by omega,(show (((x / 4294967296 / 65536:Nat):Int)<256) by omega)⟩ ?_
  (refine rq ?_;first|exact ⟨⟩|(change IntKind.i64.wrap (_+IntKind.i64.wrap (fh qk (x / 4294967296 / 65536)))=_;rw [et,wI (a:=((Eg (x / 4294967296 / 65536):Nat):Int)) (by omega)];rw [q32,q16];generalize Eg (x / 4294967296 / 65536)=w at *;simp only [IntKind.wrap_i64];omega))
 ·simp only [ge_iff_le,decide_eq_true_eq,decide_eq_false_iff_not,Int.not_le] at *
  have hz:x / 4294967296 / 256<256:=by omega
  have q32:=Ck (x:=x) (k:=32) (by omega)
  rw [show (2:Nat) ^ 32=4294967296 from rfl] at q32
  have q8:=Ck (x:=x / 4294967296) (k:=8) (by omega)
  rw [show (2:Nat) ^ 8=256 from rfl] at q8
  have e:=xl hz
  have et:=Jl _ hz
  have hb:=Fp hz
  rw [e]
  refine And.intro ⟨by omega,(show (((x / 4294967296 / 256:Nat):Int)<256) by omega)⟩ ?_
  (refine rq ?_;first|exact ⟨⟩|(change IntKind.i64.wrap (_+IntKind.i64.wrap (fh qk (x / 4294967296 / 256)))=_;rw [et,wI (a:=((Eg (x / 4294967296 / 256):Nat):Int)) (by omega)];rw [q32,q8];generalize Eg (x / 4294967296 / 256)=w at *;simp only [IntKind.wrap_i64];omega))
 ·simp only [ge_iff_le,decide_eq_true_eq,decide_eq_false_iff_not,Int.not_le] at *
  have hz:x / 4294967296<256:=by omega
  have q32:=Ck (x:=x) (k:=32) (by omega)
  rw [show (2:Nat) ^ 32=4294967296 from rfl] at q32
  have e:=xl hz
  have et:=Jl _ hz
  have hb:=Fp hz
  rw [e]
  refine And.intro ⟨by omega,(show (((x / 4294967296:Nat):Int)<256) by omega)⟩ ?_
  (refine rq ?_;first|exact ⟨⟩|(change IntKind.i64.wrap (_+IntKind.i64.wrap (fh qk (x / 4294967296)))=_;rw [et,wI (a:=((Eg (x / 4294967296):Nat):Int)) (by omega)];rw [q32];generalize Eg (x / 4294967296)=w at *;simp only [IntKind.wrap_i64];omega))
 ·simp only [ge_iff_le,decide_eq_true_eq,decide_eq_false_iff_not,Int.not_le] at *
  have hz:x / 65536 / 256<256:=by omega
  have q16:=Ck (x:=x) (k:=16) (by omega)
  rw [show (2:Nat) ^ 16=65536 from rfl] at q16
  have q8:=Ck (x:=x / 65536) (k:=8) (by omega)
  rw [show (2:Nat) ^ 8=256 from rfl] at q8
  have e:=xl hz
  have et:=Jl _ hz
  have hb:=Fp hz
  rw [e]
  refine And.intro ⟨by omega,(show (((x / 65536 / 256:Nat):Int)<256) by omega)⟩ ?_
  (refine rq ?_;first|exact ⟨⟩|(change IntKind.i64.wrap (_+IntKind.i64.wrap (fh qk (x / 65536 / 256)))=_;rw [et,wI (a:=((Eg (x / 65536 / 256):Nat):Int)) (by omega)];rw [q16,q8];generalize Eg (x / 65536 / 256)=w at *;simp only [IntKind.wrap_i64];omega))
 ·simp only [ge_iff_le,decide_eq_true_eq,decide_eq_false_iff_not,Int.not_le] at *
  have hz:x / 65536<256:=by omega
  have q16:=Ck (x:=x) (k:=16) (by omega)
  rw [show (2:Nat) ^ 16=65536 from rfl] at q16
  have e:=xl hz
  have et:=Jl _ hz
  have hb:=Fp hz
  rw [e]
  refine And.intro ⟨by omega,(show (((x / 65536:Nat):Int)<256) by omega)⟩ ?_
  (refine rq ?_;first|exact ⟨⟩|(change IntKind.i64.wrap (_+IntKind.i64.wrap (fh qk (x / 65536)))=_;rw [et,wI (a:=((Eg (x / 65536):Nat):Int)) (by omega)];rw [q16];generalize Eg (x / 65536)=w at *;simp only [IntKind.wrap_i64];omega))
 ·simp only [ge_iff_le,decide_eq_true_eq,decide_eq_false_iff_not,Int.not_le] at *
  have hz:x / 256<256:=by omega
  have q8:=Ck (x:=x) (k:=8) (by omega)
  rw [show (2:Nat) ^ 8=256 from rfl] at q8
  have e:=xl hz
  have et:=Jl _ hz
  have hb:=Fp hz
  rw [e]
  refine And.intro ⟨by omega,(show (((x / 256:Nat):Int)<256) by omega)⟩ ?_
  (refine rq ?_;first|exact ⟨⟩|(change IntKind.i64.wrap (_+IntKind.i64.wrap (fh qk (x / 256)))=_;rw [et,wI (a:=((Eg (x / 256):Nat):Int)) (by omega)];rw [q8];generalize Eg (x / 256)=w at *;simp only [IntKind.wrap_i64];omega))
 ·simp only [ge_iff_le,decide_eq_true_eq,decide_eq_false_iff_not,Int.not_le] at *
  have hz:x<256:=by omega
  have e:=xl hz
  have et:=Jl _ hz
  have hb:=Fp hz
  rw [e]
  refine And.intro ⟨by omega,(show (((x:Nat):Int)<256) by omega)⟩ ?_
  (refine rq ?_;first|exact ⟨⟩|(change IntKind.i64.wrap (_+IntKind.i64.wrap (fh qk (x)))=_;rw [et,wI (a:=((Eg (x):Nat):Int)) (by omega)];generalize Eg (x)=w at *;simp only [IntKind.wrap_i64];omega))
theorem sLZ (x:Nat) (hx:x<18446744073709551616):Aj Tryz.prog 167 [.d (.int .u64 x)] [] (.d (.int .i64 ((64-Eg x:Nat):Int))) [] []:=by
 have hb:Eg x≤64:=by
  by_cases h0:x=0
  ·subst h0;simp [Eg]
  ·obtain ⟨n,h1,h2,h3⟩:=Ke h0
   rw [h1]
   have:n<64:=(Nat.pow_lt_pow_iff_right (show 1<2 by omega)).1 (show 2 ^ n<2 ^ 64 by omega)
   omega
 refine qP Tryz.func167 λc hP hfn=>?_;simp only [A0,↓A3,seval]
 repeat' first|(refine tz hP (sLen64 x hx) ?_;try simp only [A0,↓A3,seval])|refine ⟨λh=>?_,λh=>?_⟩|refine aX ?_|fail
 (refine rq ?_;first|exact ⟨⟩|(rw [wI (by omega)];omega))
theorem mc {u d v v1 v0 q r:Nat} (hv:v=v1*4294967296+v0) (hu:u<v) (hd:d<4294967296) (e:u=q*v1+r) (hc:4294967296≤q∨4294967296*r+d<q*v0):(u*4294967296+d) / v<q:=by
 rw [Nat.div_lt_iff_lt_mul (by omega)]
 rcases hc with h|h
 ·have h1:4294967296*v≤q*v:=Nat.mul_le_mul_right _ h
  omega
 ·have h1:q*v=q*v1*4294967296+q*v0:=by rw [hv,Nat.mul_add,Nat.mul_assoc]
  omega
theorem ir {u d v v1 v0 q r:Nat} (hv:v=v1*4294967296+v0) (h0:0<v) (e:u=q*v1+r) (h:q*v0≤4294967296*r+d):q≤(u*4294967296+d) / v:=by
 rw [Nat.le_div_iff_mul_le h0]
 have h1:q*v=q*v1*4294967296+q*v0:=by rw [hv,Nat.mul_add,Nat.mul_assoc]
 omega
theorem xr {u d v v1 v0:Nat} (hv:v=v1*4294967296+v0) (h1:0<v1) (hd:d<4294967296):(u*4294967296+d) / v≤u / v1:=by
 rw [Nat.le_div_iff_mul_le h1]
 have h2:=Nat.div_mul_le_self (u*4294967296+d) v
 generalize (u*4294967296+d) / v=X at *
 have h3:X*v=X*v1*4294967296+X*v0:=by rw [hv,Nat.mul_add,Nat.mul_assoc]
 generalize X*v1=a at *
 omega
theorem Wm {u v v1 v0:Nat} (hv:v=v1*4294967296+v0) (h1:2147483648≤v1) (h0:v0<4294967296) (hu:u<v):u / v1≤4294967297:=by
 have:u / v1<4294967298:=by
  rw [Nat.div_lt_iff_lt_mul (by omega)]
  omega
 omega
theorem oo {u d v v1 v0 q r:Nat} (hv:v=v1*4294967296+v0) (h0:v0<4294967296) (hv0:0<v) (e:u=q*v1+r) (hq:q≤4294967296) (hr:4294967296≤r):q≤(u*4294967296+d) / v:=by
 refine ir hv hv0 e ?_
 have:q*v0≤4294967296*v0:=Nat.mul_le_mul_right _ hq
 omega
theorem vg {u d d0 t p q w z:Nat} (h1:u*4294967296+d=p+w) (h2:w*4294967296+d0=q+z) (ht:t=d*4294967296+d0):u*18446744073709551616+t=p*4294967296+q+z:=by
 rw [ht,show (18446744073709551616:Nat)=4294967296*4294967296 from rfl,←Nat.mul_assoc,←Nat.add_assoc,←Nat.add_mul,h1,Nat.add_mul,Nat.add_assoc,h2,Nat.add_assoc]
theorem g1 (u v1:Nat) (hu:u<18446744073709551616):IntKind.u64.wrap ((u / v1:Nat):Int)=((u / v1:Nat):Int):=by
 rw [wUn,Nat.mod_eq_of_lt (Nat.lt_of_le_of_lt (Nat.div_le_self u v1) hu)]
theorem g2 (u v1:Nat) (hu:u<18446744073709551616):IntKind.u64.wrap (((u / v1:Nat):Int)*(v1:Int))=((u / v1*v1:Nat):Int):=by
 have:=Nat.div_mul_le_self u v1
 rw [←Int.natCast_mul,wU (by omega)]
theorem g3 (u v1:Nat) (hu:u<18446744073709551616):IntKind.u64.wrap ((u:Int)-((u / v1*v1:Nat):Int))=((u % v1:Nat):Int):=by
 have h1:=Nat.div_mul_le_self u v1
 have h2:=Nat.div_add_mod' u v1
 have:u % v1≤u:=Nat.mod_le u v1
 exact (wU (by omega)).trans (by omega)
theorem g4 (u d v q w:Nat) (hw:w<18446744073709551616) (e:u*4294967296+d=q*v+w) :
  IntKind.u64.wrap (IntKind.u64.wrap (IntKind.u64.wrap ((u:Int)*4294967296)+(d:Int))-IntKind.u64.wrap ((q:Int)*(v:Int)))=(w:Int):=by
 rw [←Int.natCast_mul]
 generalize q*v=p at *
 simp only [IntKind.wrap_u64]
 omega
theorem gm (x:Nat):IntKind.u64.wrap ((x % 4294967296:Nat):Int)=((x % 4294967296:Nat):Int):=by rw [wU (by omega)]
structure KnI (u d v v1 v0 q r:Nat):Prop where
 lo:(u*4294967296+d) / v≤q
 hi:q≤4294967297
 e:u=q*v1+r
 r:r<4294967296
theorem ah {d v0 q r:Nat} (hd:d<4294967296) (h0:v0<4294967296) (hr:r<4294967296) :
  ((decide ((q:Int)≥4294967296) || decide (IntKind.u64.wrap ((q:Int)*(v0:Int))>IntKind.u64.wrap (IntKind.u64.wrap (4294967296*(r:Int))+(d:Int))))=true)↔(4294967296≤q∨4294967296*r+d<q*v0):=by
 by_cases hq:4294967296≤q
 ·have:(q:Int)≥4294967296:=by omega
  simp [this,hq]
 ·have h1:q*v0≤4294967295*4294967295:=Nat.mul_le_mul (by omega) (by omega)
  have h2:¬ ((q:Int)≥4294967296):=by omega
  rw [←Int.natCast_mul,wU (a:=((q*v0:Nat):Int)) (by omega),wU (a:=4294967296*(r:Int)) (by omega),wU (by omega)]
  simp only [h2,decide_false,Bool.false_or,decide_eq_true_eq,hq,false_or]
  omega
theorem zx (hi lo y:Nat) (hh:hi<y) (hl:lo<18446744073709551616) (hy:y<18446744073709551616):Aj Tryz.prog 142 [.d (.int .u64 hi),.d (.int .u64 lo),.d (.int .u64 y)] []
  (.tup [.d (.int .u64 (((hi*18446744073709551616+lo) / y:Nat):Int)),.d (.int .u64 (((hi*18446744073709551616+lo) % y:Nat):Int))]) [] []:=by
 obtain ⟨n,b1,b2,b3⟩:=Ke (x:=y) (by omega)
 have hn:n<64:=(Nat.pow_lt_pow_iff_right (show 1<2 by omega)).1 (show 2 ^ n<2 ^ 64 by omega)
 have hs:64-Eg y=63-n:=by omega
 have lz:=sLZ y hy
 rw [hs] at lz
 obtain ⟨sh,hsd⟩:∃ sh,63-n=sh:=⟨_,rfl⟩
 rw [hsd] at lz
 obtain ⟨P,hP2⟩:∃ P,2 ^ sh=P:=⟨_,rfl⟩
 obtain ⟨Q,hQ2⟩:∃ Q,2 ^ (64-sh)=Q:=⟨_,rfl⟩
 have hP0:0<P:=hP2▸Nat.two_pow_pos sh
 have hQ0:0<Q:=hQ2▸Nat.two_pow_pos _
 have hPQ:Q*P=18446744073709551616:=by
  rw [←hP2,←hQ2,←Nat.pow_add,show 64-sh+sh=64 by omega]
 obtain ⟨v,hv⟩:∃ v,y*P=v:=⟨_,rfl⟩
 have v63:9223372036854775808≤v:=by
  have h1:2 ^ n*P≤y*P:=Nat.mul_le_mul_right _ b2
  rw [←hP2,←Nat.pow_add,show n+sh=63 by omega,hP2,hv] at h1
  exact h1
 have v64:v<18446744073709551616:=by
  have h1:y*P<2 ^ (n+1)*P:=Nat.mul_lt_mul_of_pos_right b3 hP0
  rw [←hP2,←Nat.pow_add,show n+1+sh=64 by omega,hP2,hv] at h1
  exact h1
 obtain ⟨g,hg⟩:∃ g,lo / Q=g:=⟨_,rfl⟩
 obtain ⟨t,ht⟩:∃ t,lo*P % 18446744073709551616=t:=⟨_,rfl⟩
 have hgP:g<P:=by
  rw [←hg,Nat.div_lt_iff_lt_mul hQ0,Nat.mul_comm,hPQ];exact hl
 have hlo:lo*P=g*18446744073709551616+t:=by
  have h1:=Nat.div_add_mod (lo*P) 18446744073709551616
  have h2:lo*P / 18446744073709551616=g:=by rw [←hPQ,Nat.mul_div_mul_right _ _ hP0,hg]
  rw [h2,ht] at h1;omega
 obtain ⟨u,hu⟩:∃ u,hi*P+g=u:=⟨_,rfl⟩
 have ht64:t<18446744073709551616:=by rw [←ht];exact Nat.mod_lt _ (by omega)
 have hN:(hi*18446744073709551616+lo)*P=u*18446744073709551616+t:=by
  rw [Nat.add_mul,hlo,←hu,Nat.mul_right_comm];omega
 have huv:u<v:=by
  have h1:(hi*18446744073709551616+lo)<y*18446744073709551616:=by omega
  have h2:(hi*18446744073709551616+lo)*P<y*18446744073709551616*P:=Nat.mul_lt_mul_of_pos_right h1 hP0
  rw [hN,Nat.mul_right_comm,hv] at h2
  omega
 have hhP:hi*P<18446744073709551616:=by omega
 have e1:IntKind.u64.wrap (sh:Int)=(sh:Int):=wU (by omega)
 have e2:(2:Int) ^ min sh IntKind.u64.bits=(P:Int):=by
  rw [show min sh IntKind.u64.bits=sh from Nat.min_eq_left (show sh≤64 by omega),←hP2];simp
 have e3:IntKind.u64.wrap ((y:Int)*(P:Int))=(v:Int):=by rw [←Int.natCast_mul,hv,wU (by omega)]
 have e4:IntKind.u64.wrap ((hi:Int)*(P:Int))=((hi*P:Nat):Int):=by rw [←Int.natCast_mul];exact wU (by omega)
 have e5:IntKind.u64.wrap (64-(sh:Int))=((64-sh:Nat):Int):=(wU (by omega)).trans (by omega)
 have e6:(2:Int) ^ min (64-sh) IntKind.u64.bits=(Q:Int):=by
  rw [show min (64-sh) IntKind.u64.bits=64-sh from Nat.min_eq_left (show 64-sh≤64 by omega),←hQ2];simp
 have e7:(lo:Int).fdiv (Q:Int)=(g:Int):=by rw [K4,hg]
 have e8:IntKind.u64.wrap ((BitVec.ofInt IntKind.u64.bits ((hi*P:Nat):Int) ||| BitVec.ofInt IntKind.u64.bits (g:Int)).toNat:Int)=(u:Int):=by
  have:=qx hi sh g (by rw [hP2];omega) (by rw [hP2];omega) (by omega)
  rw [hP2,hu] at this
  exact this
 have e9:IntKind.u64.wrap ((lo:Int)*(P:Int))=(t:Int):=by rw [←Int.natCast_mul,wUn,ht]
 refine qP Tryz.func142 λc hP hfn=>?_;simp only [A0,↓A3,seval]
 refine ⟨λh=>?_,λh=>?_⟩
 ·exfalso;simp at h;omega
 refine ⟨λh2=>?_,λh2=>?_⟩
 ·exfalso;simp at h2;omega
 refine ⟨λh3=>?_,λh3=>?_⟩
 ·have h0:hi=0:=by simpa using h3
  subst h0
  repeat' first|refine ⟨λh=>?_,λh=>?_⟩|refine aX ?_|fail
  (refine rp (Ag.tups ?_);simp only [B8,A0,↓A3,seval])
  refine ⟨Ag.int ?_,Ag.int ?_,trivial⟩
  ·simp only [Qb,g1 _ _ hl,Nat.zero_mul,Nat.zero_add]
  ·simp only [Vv,Nat.zero_mul,Nat.zero_add]
 have hv1:v=v / 4294967296*4294967296+v % 4294967296:=by omega
 have hv1b:2147483648≤v / 4294967296:=by omega
 have hv0:v % 4294967296<4294967296:=by omega
 obtain ⟨v1,hv1d⟩:∃ v1,v / 4294967296=v1:=⟨_,rfl⟩
 obtain ⟨v0,hv0d⟩:∃ v0,v % 4294967296=v0:=⟨_,rfl⟩
 obtain ⟨d,hdd⟩:∃ d,t / 4294967296=d:=⟨_,rfl⟩
 obtain ⟨d0,hd0d⟩:∃ d0,t % 4294967296=d0:=⟨_,rfl⟩
 have hd:d<4294967296:=by omega
 have hd0:d0<4294967296:=by omega
 have f1:(v:Int).fdiv 4294967296=(v1:Int):=by rw [Za,hv1d]
 have f2:(t:Int).fdiv 4294967296=(d:Int):=by rw [Za,hdd]
 have f3:IntKind.u64.wrap ((BitVec.ofInt IntKind.u64.bits (v:Int) &&& BitVec.ofInt IntKind.u64.bits 4294967295).toNat:Int)=(v0:Int):=by rw [andN,gm,hv0d]
 have f4:IntKind.u64.wrap ((BitVec.ofInt IntKind.u64.bits (t:Int) &&& BitVec.ofInt IntKind.u64.bits 4294967295).toNat:Int)=(d0:Int):=by rw [andN,gm,hd0d]
 rw [hv1d,hv0d] at hv1
 rw [hv1d] at hv1b
 rw [hv0d] at hv0
 have hu64:u<18446744073709551616:=by omega
 have f5:IntKind.u64.wrap ((u:Int).tdiv (v1:Int))=((u / v1:Nat):Int):=by rw [Qb,g1 _ _ hu64]
 have hdiv:∀ q r,KnI u d v v1 v0 q r→(4294967296≤q∨4294967296*r+d<q*v0)→(u*4294967296+d) / v+1≤q:=λq r h hc=>mc hv1 huv hd h.e hc
 obtain ⟨q1,hq1⟩:∃ q1,(u*4294967296+d) / v=q1:=⟨_,rfl⟩
 obtain ⟨w,hw⟩:∃ w,(u*4294967296+d) % v=w:=⟨_,rfl⟩
 have hwv:w<v:=by rw [←hw];exact Nat.mod_lt _ (by omega)
 have hqw:u*4294967296+d=q1*v+w:=by
  have:=Nat.div_add_mod' (u*4294967296+d) v
  rw [hq1,hw] at this;exact this.symm
 obtain ⟨q0,hq0⟩:∃ q0,(w*4294967296+d0) / v=q0:=⟨_,rfl⟩
 obtain ⟨z,hz⟩:∃ z,(w*4294967296+d0) % v=z:=⟨_,rfl⟩
 have hzv:z<v:=by rw [←hz];exact Nat.mod_lt _ (by omega)
 have hqz:w*4294967296+d0=q0*v+z:=by
  have:=Nat.div_add_mod' (w*4294967296+d0) v
  rw [hq0,hz] at this;exact this.symm
 have hq1b:q1<4294967296:=by rw [←hq1,Nat.div_lt_iff_lt_mul (by omega)];omega
 have hq0b:q0<4294967296:=by rw [←hq0,Nat.div_lt_iff_lt_mul (by omega)];omega
 have hw64:w<18446744073709551616:=by omega
 have hz64:z<18446744073709551616:=by omega
 have f6:=g4 u d v q1 w hw64 hqw
 have f7:=g4 w d0 v q0 z hz64 hqz
 have f8:IntKind.u64.wrap ((w:Int).tdiv (v1:Int))=((w / v1:Nat):Int):=by rw [Qb,g1 _ _ hw64]
 have hfin:hi*18446744073709551616+lo=(q1*4294967296+q0)*y+z / P∧z / P<y:=by
  have h1:(hi*18446744073709551616+lo)*P=(q1*4294967296+q0)*v+z:=by
   have ht2:t=d*4294967296+d0:=by omega
   have h2:(q1*4294967296+q0)*v=q1*v*4294967296+q0*v:=by rw [Nat.add_mul,Nat.mul_right_comm]
   rw [hN,h2];exact vg hqw hqz ht2
  have h3:(hi*18446744073709551616+lo)*P=(q1*4294967296+q0)*y*P+z:=by rw [h1,←hv,Nat.mul_assoc]
  have h4:z=((hi*18446744073709551616+lo)-(q1*4294967296+q0)*y)*P:=by rw [Nat.sub_mul];omega
  have h5:z / P=(hi*18446744073709551616+lo)-(q1*4294967296+q0)*y:=by rw [h4,Nat.mul_div_cancel _ hP0]
  have h6:(q1*4294967296+q0)*y≤hi*18446744073709551616+lo:=Nat.le_of_mul_le_mul_right (by omega) hP0
  refine ⟨by rw [h5];exact (Nat.add_sub_cancel' h6).symm,?_⟩
  rw [Nat.div_lt_iff_lt_mul hP0,hv];exact hzv
 have hqq:(hi*18446744073709551616+lo) / y=q1*4294967296+q0:=by
  rw [hfin.1,Nat.mul_comm _ y,Nat.mul_add_div (by omega),Nat.div_eq_of_lt hfin.2,Nat.add_zero]
 have hrr:(hi*18446744073709551616+lo) % y=z / P:=by
  rw [hfin.1,Nat.mul_comm _ y,Nat.mul_add_mod,Nat.mod_eq_of_lt hfin.2]
 repeat' first|(refine tz hP lz ?_;try simp only [p32,e1,e2,e3,e4,e5,e6,e7,e8,e9,f1,f2,f3,f4,f5,g2 u v1 hu64,g3 u v1 hu64,A0,↓A3,seval])|refine ⟨λh=>?_,λh=>?_⟩|refine aX ?_|fail
 refine B4.loopX (X:=Nat×Nat) (Y:=Unit) (λx=>⟨[(2,.d (.int .u64 v)),(8,.d (.int .u64 sh)),(9,.d (.int .u64 v1)),(10,.d (.int .u64 v0)),(11,.d (.int .u64 u)),(13,.d (.int .u64 d)),(14,.d (.int .u64 d0)),(15,.d (.int .u64 x.1)),(16,.d (.int .u64 x.2))],[],[]⟩)
  (λx=>KnI u d v v1 v0 x.1 x.2) (λx=>x.1) (u / v1,u % v1)
  (λ_=>⟨[(2,.d (.int .u64 v)),(8,.d (.int .u64 sh)),(9,.d (.int .u64 v1)),(10,.d (.int .u64 v0)),(11,.d (.int .u64 u)),(13,.d (.int .u64 d)),(14,.d (.int .u64 d0)),(15,.d (.int .u64 q1))],[],[]⟩) (λ_=>True)
  ⟨xr hv1 (by omega) hd,Wm hv1 hv1b hv0 huv,(Nat.div_add_mod' u v1).symm,by have:=Nat.mod_lt u (show 0<v1 by omega);omega⟩ (Wk.of [] hfn rfl (by simp only [A7,A0,↓A3,seval]) (by simp only [A7,A0,↓A3,seval])) ?_ ?_
 ·rintro ⟨q,r⟩ hk
  simp only at hk
  have hc:=ah (q:=q) hd hv0 hk.r
  simp only [A0,↓A3,seval]
  refine ⟨λh4=>?_,λh4=>?_⟩
  ·have h5:=hdiv q r hk (hc.1 h4)
   have k1:=hk.e
   have k2:=hk.r
   have k3:=hk.hi
   have c1:IntKind.u64.wrap ((q:Int)-1)=((q-1:Nat):Int):=(wU (by omega)).trans (by omega)
   have c2:IntKind.u64.wrap ((r:Int)+(v1:Int))=((r+v1:Nat):Int):=(wU (by omega)).trans (by omega)
   have c3:u=(q-1)*v1+(r+v1):=by
    have:q*v1=(q-1)*v1+v1:=by
     rw [←Nat.succ_mul];congr 1;omega
    omega
   simp only [c1,c2]
   refine ⟨λh6=>?_,λh6=>?_⟩
   ·have h7:4294967296≤r+v1:=by have:=of_decide_eq_true h6;omega
    have h8:=oo (d:=d) hv1 hv0 (by omega) c3 (by omega) h7
    refine ⟨(),Wk.of [] hfn rfl (by simp only [A7,A0,↓A3,seval];omega) (by simp only [A7,A0,↓A3,seval])⟩
   ·have h7:r+v1<4294967296:=by have:=of_decide_eq_false h6;omega
    exact Xz.on (q-1,r+v1) ⟨by simp only;omega,by simp only;omega,c3,h7⟩ (by simp only;omega) (Wk.of [] hfn rfl (by simp only [A7,A0,↓A3,seval]) (by simp only [A7,A0,↓A3,seval]))
  ·have h5:¬ (4294967296≤q∨4294967296*r+d<q*v0):=λe=>by rw [hc.2 e] at h4;cases h4
   have h8:=ir (d:=d) hv1 (by omega) hk.e (by omega)
   have h9:=hk.lo
   exact ⟨(),Wk.of [] hfn rfl (by simp only [A7,A0,↓A3,seval];omega) (by simp only [A7,A0,↓A3,seval])⟩
 ·rintro - -
  simp only [f6,f8,g2 w v1 hw64,g3 w v1 hw64,A0,↓A3,seval]
  refine ⟨by omega,?_⟩
  have hdiv2:∀ q r,KnI w d0 v v1 v0 q r→(4294967296≤q∨4294967296*r+d0<q*v0)→(w*4294967296+d0) / v+1≤q:=λq r h hc=>mc hv1 hwv hd0 h.e hc
  refine B4.loopX (X:=Nat×Nat) (Y:=Unit) (λx=>⟨[(2,.d (.int .u64 v)),(8,.d (.int .u64 sh)),(9,.d (.int .u64 v1)),(10,.d (.int .u64 v0)),(14,.d (.int .u64 d0)),(15,.d (.int .u64 q1)),(17,.d (.int .u64 w)),(18,.d (.int .u64 x.1)),(16,.d (.int .u64 x.2))],[],[]⟩)
   (λx=>KnI w d0 v v1 v0 x.1 x.2) (λx=>x.1) (w / v1,w % v1)
   (λ_=>⟨[(2,.d (.int .u64 v)),(8,.d (.int .u64 sh)),(14,.d (.int .u64 d0)),(15,.d (.int .u64 q1)),(17,.d (.int .u64 w)),(18,.d (.int .u64 q0))],[],[]⟩) (λ_=>True)
   ⟨xr hv1 (by omega) hd0,Wm hv1 hv1b hv0 hwv,(Nat.div_add_mod' w v1).symm,by have:=Nat.mod_lt w (show 0<v1 by omega);omega⟩ (Wk.of [] hfn rfl (by simp only [A7,A0,↓A3,seval]) (by simp only [A7,A0,↓A3,seval])) ?_ ?_
  ·rintro ⟨q,r⟩ hk
   simp only at hk
   have hc:=ah (q:=q) hd0 hv0 hk.r
   simp only [A0,↓A3,seval]
   refine ⟨λh4=>?_,λh4=>?_⟩
   ·have h5:=hdiv2 q r hk (hc.1 h4)
    have k1:=hk.e
    have k2:=hk.r
    have k3:=hk.hi
    have c1:IntKind.u64.wrap ((q:Int)-1)=((q-1:Nat):Int):=(wU (by omega)).trans (by omega)
    have c2:IntKind.u64.wrap ((r:Int)+(v1:Int))=((r+v1:Nat):Int):=(wU (by omega)).trans (by omega)
    have c3:w=(q-1)*v1+(r+v1):=by
     have:q*v1=(q-1)*v1+v1:=by
      rw [←Nat.succ_mul];congr 1;omega
     omega
    simp only [c1,c2]
    refine ⟨λh6=>?_,λh6=>?_⟩
    ·have h7:4294967296≤r+v1:=by have:=of_decide_eq_true h6;omega
     have h8:=oo (d:=d0) hv1 hv0 (by omega) c3 (by omega) h7
     refine ⟨(),Wk.of [] hfn rfl (by simp only [A7,A0,↓A3,seval];omega) (by simp only [A7,A0,↓A3,seval])⟩
    ·have h7:r+v1<4294967296:=by have:=of_decide_eq_false h6;omega
     exact Xz.on (q-1,r+v1) ⟨by simp only;omega,by simp only;omega,c3,h7⟩ (by simp only;omega) (Wk.of [] hfn rfl (by simp only [A7,A0,↓A3,seval]) (by simp only [A7,A0,↓A3,seval]))
   ·have h5:¬ (4294967296≤q∨4294967296*r+d0<q*v0):=λe=>by rw [hc.2 e] at h4;cases h4
    have h8:=ir (d:=d0) hv1 (by omega) hk.e (by omega)
    have h9:=hk.lo
    exact ⟨(),Wk.of [] hfn rfl (by simp only [A7,A0,↓A3,seval];omega) (by simp only [A7,A0,↓A3,seval])⟩
  ·rintro - -
   have f9:(z:Int).fdiv (P:Int)=((z / P:Nat):Int):=K4 z P
   have f10:IntKind.u64.wrap (IntKind.u64.wrap ((q1:Int)*4294967296)+(q0:Int))=((q1*4294967296+q0:Nat):Int):=by
    rw [wU (a:=(q1:Int)*4294967296) (by omega),wU (by omega)];omega
   simp only [f7,f9,f10,e2,A0,↓A3,seval]
   repeat' first|refine ⟨λh=>?_,λh=>?_⟩|refine aX ?_|fail
   (refine rq ?_;first|exact ⟨⟩|(rw [hqq,hrr];exact Ag.refl _))
def ig (q r c:Nat):Bool:=decide (c<2*r) || (decide (2*r=c)&&decide (q % 2=1))
def Tq (up:Nat→Nat→Nat→Bool) (a b c:Int):Int×Int:=
 if a<0∨b<0∨c<0 then (0,1)
 else if c=0 then (0,6)
 else if 4000000000000000000<a.toNat*b.toNat / c.toNat then (0,5)
 else if 4000000000000000000<a.toNat*b.toNat / c.toNat+(if up (a.toNat*b.toNat / c.toNat) (a.toNat*b.toNat % c.toNat) c.toNat=true then 1 else 0) then (0,5)
 else (((a.toNat*b.toNat / c.toNat+(if up (a.toNat*b.toNat / c.toNat) (a.toNat*b.toNat % c.toNat) c.toNat=true then 1 else 0):Nat):Int),0)
theorem sOf (g:Nat) (up:Nat→Nat→Nat→Bool) (hg:∀ q r c:Nat,r<c→c<9223372036854775808→Aj Tryz.prog g [.d (.int .u64 q),.d (.int .u64 r),.d (.int .u64 c)] [] (.d (.bool (up q r c))) [] [])
  (a b k:Int) (ha:a≤9223372036854775807) (hb:b≤9223372036854775807) (hc:k≤9223372036854775807) :
  Aj Tryz.prog 114 [.ag [.fn (.func g) [] []],.d (.int .i64 a),.d (.int .i64 b),.d (.int .i64 k)] [] (.tup [.d (.int .i64 (Tq up a b k).1),.d (.int .i64 (Tq up a b k).2)]) [] []:=by
 refine qP Tryz.func114 λc hP hfn=>?_;simp only [A0,↓A3,seval]
 refine ⟨λh1=>?_,λh1=>?_⟩
 ·have e:Tq up a b k=(0,1):=by
   simp only [Bool.or_eq_true,decide_eq_true_eq] at h1
   rw [Tq,if_pos (by omega)]
  (refine rp (Ag.tups ?_);simp only [B8,A0,↓A3,seval])
  rw [e];exact ⟨Ag.refl _,Ag.refl _,trivial⟩
 have h1:¬ (a<0∨b<0∨k<0):=by
  simp only [Bool.or_eq_false_iff,decide_eq_false_iff_not] at h1;omega
 refine ⟨λh2=>?_,λh2=>?_⟩
 ·have h2:k=0:=by simpa using h2
  have e:Tq up a b k=(0,6):=by rw [Tq,if_neg h1,if_pos h2]
  (refine rp (Ag.tups ?_);simp only [B8,A0,↓A3,seval])
  rw [e];exact ⟨Ag.refl _,Ag.refl _,trivial⟩
 have h2:¬ k=0:=by simpa using h2
 obtain ⟨A,rfl⟩:∃ A:Nat,a=(A:Int):=⟨a.toNat,by omega⟩
 obtain ⟨B,rfl⟩:∃ B:Nat,b=(B:Int):=⟨b.toNat,by omega⟩
 obtain ⟨C,rfl⟩:∃ C:Nat,k=(C:Int):=⟨k.toNat,by omega⟩
 have e1:IntKind.u64.wrap (A:Int)=(A:Int):=wU (by omega)
 have e2:IntKind.u64.wrap (B:Int)=(B:Int):=wU (by omega)
 have e3:IntKind.u64.wrap (C:Int)=(C:Int):=wU (by omega)
 have hR:Tq up (A:Int) (B:Int) (C:Int)=(if 4000000000000000000<A*B / C then (0,5) else
   if 4000000000000000000<A*B / C+(if up (A*B / C) (A*B % C) C=true then 1 else 0) then (0,5)
   else (((A*B / C+(if up (A*B / C) (A*B % C) C=true then 1 else 0):Nat):Int),0)):=by
  rw [Tq,if_neg h1,if_neg h2];rfl
 have hm:=Nat.div_add_mod (A*B) 18446744073709551616
 have hml:A*B % 18446744073709551616<18446744073709551616:=Nat.mod_lt _ (by omega)
 have hC0:0<C:=by omega
 simp only [e1,e2,e3]
 repeat' first|(refine tq hP (h:=⟨_,λ_=>by exact sMul64 A B (by omega) (by omega),?_⟩);try simp only [e1,e2,e3,A0,↓A3,seval])|refine ⟨λh=>?_,λh=>?_⟩|refine aX ?_|fail
 ·have h3:4000000000000000000<A*B / C:=by
   have h:=of_decide_eq_true h
   have h4:C≤A*B / 18446744073709551616:=by omega
   have h5:C*18446744073709551616≤A*B:=by
    have:=(Nat.le_div_iff_mul_le (by omega)).1 h4;exact this
   have h6:18446744073709551616≤A*B / C:=(Nat.le_div_iff_mul_le hC0).2 (by omega)
   omega
  (refine rp (Ag.tups ?_);simp only [B8,A0,↓A3,seval])
  rw [hR,if_pos h3];exact ⟨Ag.refl _,Ag.refl _,trivial⟩
 have hh:A*B / 18446744073709551616<C:=by have:=of_decide_eq_false h;omega
 have hd:=zx (A*B / 18446744073709551616) (A*B % 18446744073709551616) C hh hml (by omega)
 rw [show A*B / 18446744073709551616*18446744073709551616+A*B % 18446744073709551616=A*B by omega] at hd
 have hrC:A*B % C<C:=Nat.mod_lt _ hC0
 generalize A*B / C=q at *
 generalize A*B % C=r at *
 repeat' first|(refine tq hP (h:=⟨_,λ_=>by first|exact hd|exact hg q r C hrC (by omega),?_⟩);try simp only [e1,e2,e3,A0,↓A3,seval])|refine ⟨λh=>?_,λh=>?_⟩|refine aX ?_|fail
 ·have h4:4000000000000000000<q:=by have:=of_decide_eq_true h;omega
  (refine rp (Ag.tups ?_);simp only [B8,A0,↓A3,seval])
  rw [hR,if_pos h4];exact ⟨Ag.refl _,Ag.refl _,trivial⟩
 ·rename_i h5 h6
  have h4:¬ 4000000000000000000<q:=by have:=of_decide_eq_false h5;omega
  have e4:IntKind.u64.wrap ((q:Int)+1)=((q+1:Nat):Int):=(wU (by omega)).trans (by omega)
  rw [e4] at h
  have h7:4000000000000000000<q+1:=by have:=of_decide_eq_true h;omega
  (refine rp (Ag.tups ?_);simp only [B8,A0,↓A3,seval])
  rw [hR,if_neg h4,if_pos h6,if_pos h7];exact ⟨Ag.refl _,Ag.refl _,trivial⟩
 ·rename_i h5 h6
  have h4:¬ 4000000000000000000<q:=by have:=of_decide_eq_false h5;omega
  have e4:IntKind.u64.wrap ((q:Int)+1)=((q+1:Nat):Int):=(wU (by omega)).trans (by omega)
  rw [e4] at h
  have h7:¬ 4000000000000000000<q+1:=by have:=of_decide_eq_false h;omega
  (refine rp (Ag.tups ?_);simp only [B8,A0,↓A3,seval])
  rw [hR,if_neg h4,if_pos h6,if_neg h7,e4,wI (a:=((q+1:Nat):Int)) (by omega)];exact ⟨Ag.refl _,Ag.refl _,trivial⟩
 ·rename_i h5 h6
  exfalso;rw [h5] at h;cases h
 ·rename_i h5 h6
  have h4:¬ 4000000000000000000<q:=by have:=of_decide_eq_false h5;omega
  have h8:¬ (up q r C=true):=by rw [h6];simp
  (refine rp (Ag.tups ?_);simp only [B8,A0,↓A3,seval])
  rw [hR,if_neg h4,if_neg h8,Nat.add_zero,if_neg h4,wI (a:=(q:Int)) (by omega)];exact ⟨Ag.refl _,Ag.refl _,trivial⟩
theorem sUpE (q r c:Nat) (hr:r<c) (hc:c<9223372036854775808):Aj Tryz.prog 140 [.d (.int .u64 q),.d (.int .u64 r),.d (.int .u64 c)] [] (.d (.bool (ig q r c))) [] []:=by
 have e1:IntKind.u64.wrap ((c:Int)-(r:Int))=((c-r:Nat):Int):=(wU (by omega)).trans (by omega)
 have e2:(q:Int).tmod 2=((q % 2:Nat):Int):=Vv q 2
 refine qP Tryz.func140 λc hP hfn=>?_;simp only [e1,e2,A0,↓A3,seval]
 repeat' first|refine ⟨λh=>?_,λh=>?_⟩|refine aX ?_|fail
 (refine rq ?_;first|exact ⟨⟩|(rw [Bool.eq_iff_iff];simp only [ig,Bool.or_eq_true,Bool.and_eq_true,decide_eq_true_eq,beq_iff_eq];omega))
theorem sEvenS:Aj Tryz.prog 113 [] [] (.ag [.fn (.func 140) [] []]) [] []:=by
 refine qP Tryz.func113 λc hP hfn=>?_;simp only [A0,↓A3,seval]
 exact rr
theorem nf (a b k:Int) (ha:a≤9223372036854775807) (hb:b≤9223372036854775807) (hc:k≤9223372036854775807) :
  Aj Tryz.prog 85 [.d (.int .i64 a),.d (.int .i64 b),.d (.int .i64 k)] [] (.tup [.d (.int .i64 (Tq ig a b k).1),.d (.int .i64 (Tq ig a b k).2)]) [] []:=by
 refine qP Tryz.func85 λc hP hfn=>?_;simp only [A0,↓A3,seval]
 repeat' first|(refine tq hP (h:=⟨_,λ_=>by first|exact sEvenS|exact sOf 140 ig sUpE a b k ha hb hc,?_⟩);try simp only [A0,↓A3,seval])|refine ⟨λh=>?_,λh=>?_⟩|refine aX ?_|fail
 (refine rp (Ag.tups ?_);simp only [B8,A0,↓A3,seval])
 exact ⟨Ag.refl _,Ag.refl _,trivial⟩
def V1 (m bp:Int):Int×Int:=Tq ig m bp 10000
theorem sBp (a b:Int) (ha:a≤9223372036854775807) (hb:b≤9223372036854775807) :
  Aj Tryz.prog 53 [.d (.int .i64 a),.d (.int .i64 b)] [] (.tup [.d (.int .i64 (V1 a b).1),.d (.int .i64 (V1 a b).2)]) [] []:=by
 refine qP Tryz.func53 λc hP hfn=>?_;simp only [A0,↓A3,seval]
 repeat' first|(refine tq hP (h:=⟨_,λ_=>by exact nf a b 10000 ha hb (by omega),?_⟩);try simp only [A0,↓A3,seval])|refine ⟨λh=>?_,λh=>?_⟩|refine aX ?_|fail
 (refine rp (Ag.tups ?_);simp only [B8,A0,↓A3,seval])
 exact ⟨Ag.refl _,Ag.refl _,trivial⟩
end Go.Proofs.YtakohhkgeeoniaaGreat
end
section
namespace Go.Proofs.YtakohhkgeeoniaaGreat
open Go.Bx
def Yb (x b:Nat):Nat:=x*b / 10000+(if ig (x*b / 10000) (x*b % 10000) 10000=true then 1 else 0)
theorem Me (x b:Nat):10000*Yb x b≤x*b+5000∧x*b≤10000*Yb x b+5000∧((10000*Yb x b=x*b+5000∨x*b=10000*Yb x b+5000)→Yb x b % 2=0):=by
 unfold Yb ig
 generalize x*b=y
 split
 ·rename_i h
  simp only [Bool.or_eq_true,Bool.and_eq_true,decide_eq_true_eq] at h
  omega
 ·rename_i h
  simp only [Bool.or_eq_true,Bool.and_eq_true,decide_eq_true_eq,not_or,not_and] at h
  omega
theorem su {x y b:Nat} (h:x≤y):Yb x b≤Yb y b:=by
 have h1:=Me x b
 have h2:=Me y b
 have h3:x*b≤y*b:=Nat.mul_le_mul_right _ h
 generalize x*b=a at *
 generalize y*b=c at *
 omega
theorem zh {x m b:Nat} (hb:b≤10000):Yb (x+m) b≤Yb x b+m:=by
 have h1:=Me x b
 have h2:=Me (x+m) b
 have h3:m*b≤m*10000:=Nat.mul_le_mul_left _ hb
 rw [Nat.add_mul] at h2
 by_cases hm:m=0
 ·subst hm;simp
 by_cases h4:b=10000
 ·subst h4;omega
 ·have h5:m*b≤m*9999:=Nat.mul_le_mul_left _ (by omega)
  generalize x*b=a at *
  generalize m*b=c at *
  omega
theorem yf {x b:Nat} (hb:b≤10000):Yb x b≤x:=by
 have h:=zh (x:=0) (m:=x) hb
 have h0:Yb 0 b=0:=by have:=Me 0 b;omega
 rw [Nat.zero_add,h0,Nat.zero_add] at h
 exact h
theorem bp_he {x b:Nat} (hx:x≤1000000000000000) (hb:b≤10000):V1 (x:Int) (b:Int)=(((Yb x b:Nat):Int),0):=by
 have h1:x*b≤1000000000000000*10000:=Nat.mul_le_mul hx hb
 have h2:=yf (x:=x) hb
 have e:((10000:Int)).toNat=10000:=rfl
 unfold V1 Tq
 rw [if_neg (by omega),if_neg (by omega),e]
 simp only [Int.toNat_natCast]
 rw [if_neg (by omega),if_neg]
 ·rfl
 ·have:=h2;unfold Yb at this;omega
end Go.Proofs.YtakohhkgeeoniaaGreat
end
