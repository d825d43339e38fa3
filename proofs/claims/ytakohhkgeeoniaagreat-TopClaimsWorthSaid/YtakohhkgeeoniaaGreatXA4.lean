import Derived.Test.YtakohhkgeeoniaaGreatXA3
import Derived.RangeFuncRecord
import Derived.Below
import Derived.Deep.LoopGhost
import Derived.ScopeJumps
import Derived.ControlIn
set_option linter.unusedSimpArgs false
set_option linter.unusedVariables false
set_option maxHeartbeats 8000000
section
namespace Go.Bx
open Go.RowKit
def A4:List (Nat×Own)→List Nat
 |[]=>[]
 |(k,.fix cs)::l=>k::(A5 cs++A4 l)
 |(k,.lit _ _ _ cs)::l=>k::(A5 cs++A4 l)
 |(k,.row _ _ _ _)::l=>k::A4 l
 |(k,.mp _ _)::l=>k::A4 l
 |(k,.lp _ _)::l=>k::A4 l
theorem F5:∀ {l:List (Nat×Own)} {k:Nat},k∈keysO l→k∈A4 l
 |[],k,h=>by simp [keysO] at h
 |(k',o)::l,k,h=>by
  simp only [keysO,List.map_cons,List.mem_cons] at h
  cases o<;>simp only [A4,List.mem_cons,List.mem_append]<;>rcases h with h|h<;>first
   |exact .inl h
   |exact .inr (.inr (F5 h))
   |exact .inr (F5 h)
theorem D3:∀ {l:List (Nat×Own)} {k:Nat} {o:Own},(k,o)∈l→∀ j,j∈(match o with|.fix cs=>A5 cs|.lit _ _ _ cs=>A5 cs|.row _ _ _ _=>[]|.mp _ _=>[]|.lp _ _=>[])→j∈A4 l
 |[],k,o,h=>by simp at h
 |(k',o')::l,k,o,h=>λj hj=>by
  rcases List.mem_cons.1 h with h|h
  ·simp at h
   obtain ⟨rfl,rfl⟩:=h
   cases o<;>simp only at hj<;>simp only [A4,List.mem_cons,List.mem_append]
   ·exact .inr (.inl hj)
   ·simp at hj
   ·exact .inr (.inl hj)
   ·simp at hj
   ·simp at hj
  ·have:=D3 h j hj
   cases o'<;>simp only [A4,List.mem_cons,List.mem_append]
   ·exact .inr (.inr this)
   ·exact .inr this
   ·exact .inr (.inr this)
   ·exact .inr this
   ·exact .inr this
theorem C9.forget {β β':A6} {E E':Nat→Prop} {w w':World} {k:Nat} {o:Own} (h:C9 β E w k o) (hl:B5 E E' w w') (hk:β' k=β k) (hn:∀ j,j∈(match o with|.fix cs=>A5 cs|.lit _ _ _ cs=>A5 cs|.row _ _ _ _=>[]|.mp _ _=>[]|.lp _ _=>[])→β' j=β j)
  (hb:∀ b,β.blk k=some b→w'.heap[b]?=w.heap[b]?):C9 β' E' w' k o:=by
 cases o with
 |fix cs =>
  obtain ⟨b,arr,e,h1,h2,h3,h4⟩:=h
  exact ⟨b,arr,e,hk.trans h1,(hb b (by simp [A6.blk,h1,B0])).trans h2,h3,λj v x hv hx=>(h4 j v x hv hx).lasts hl (λn hm=>hn n (Bz hx n hm))⟩
 |row e sz n f =>
  obtain ⟨v,xs,h1,h2,h3,h4⟩:=h
  refine ⟨v,xs,hk.trans h1,h2.lasts (λb hv=>hb b (by simp [A6.blk,h1,hv])),h3,λi j hi hj x hx=>?_⟩
  obtain ⟨u,hu,hr⟩:=h4 i j hi hj x hx
  exact ⟨u,hu,hr.lasts hl⟩
 |lit e sz n cs =>
  obtain ⟨v0,xs,h1,h2,h3,h4⟩:=h
  exact ⟨v0,xs,hk.trans h1,h2.lasts (λb hv=>hb b (by simp [A6.blk,h1,hv])),h3,λj v x hv hx=>(h4 j v x hv hx).lasts hl (λn hm=>hn n (Bz hx n hm))⟩
 |mp z g =>
  obtain ⟨b,es,cl,h1,h2,h3,h4,h5,h6⟩:=h
  exact ⟨b,es,cl,hk.trans h1,(hb b (by simp [A6.blk,h1,B0])).trans h2,h3,h4,λi x n hi hx=>⟨(h5 i x n hi hx).1.lasts hl,(h5 i x n hi hx).2⟩,h6⟩
 |lp l r=>exact ⟨hk.trans h.1,(hb l (by simp [A6.blk,h.1,gz.blk])).trans h.2⟩
mutual
def V.ren (p:Nat→Nat):V→V
 |.own k off=>.own (p k) off
 |.osl k=>.osl (p k)
 |.osub k sz lo n=>.osub (p k) sz lo n
 |.optr k sz i off=>.optr (p k) sz i off
 |.fn f a b=>.fn f (renL p a) (renL p b)
 |.ifc t v=>.ifc t (v.ren p)
 |.ag cs=>.ag (renL p cs)
 |.tup cs=>.tup (renL p cs)
 |.gd c v=>.gd c (v.ren p)
 |.un=>.un
 |.d x=>.d x
 |.mem cs=>.mem cs
def renL (p:Nat→Nat):List V→List V
 |[]=>[]
 |v::l=>v.ren p::renL p l
end
def Own.ren (p:Nat→Nat):Own→Own
 |.fix cs=>.fix (renL p cs)
 |.lit e sz n cs=>.lit e sz n (renL p cs)
 |.row e sz n f=>.row e sz n f
 |.mp z g=>.mp z g
 |.lp z g=>.lp z g
def renO (p:Nat→Nat):List (Nat×Own)→List (Nat×Own)
 |[]=>[]
 |(k,o)::l=>(p k,o.ren p)::renO p l
def renE (p:Nat→Nat):List (Nat×V)→List (Nat×V)
 |[]=>[]
 |(s,v)::l=>(s,v.ren p)::renE p l
theorem Cq (p:Nat→Nat) (l:List V):renL p l=l.map (V.ren p):=by
 induction l with
 |nil=>rfl
 |cons v l ih=>simp [renL,ih]
theorem U4 (p:Nat→Nat) (l:List (Nat×Own)):renO p l=l.map λq=>(p q.1,q.2.ren p):=by
 induction l with
 |nil=>rfl
 |cons v l ih=>simp [renO,ih]
mutual
theorem V.ren_ren {p q:Nat→Nat} (h:∀ k,p (q k)=k):∀ v:V,(v.ren q).ren p=v
 |.own k off=>by simp [V.ren,h]
 |.osl k=>by simp [V.ren,h]
 |.osub k sz lo n=>by simp [V.ren,h]
 |.optr k sz i off=>by simp [V.ren,h]
 |.fn f a b=>by simp [V.ren,I6 h a,I6 h b]
 |.ifc t v=>by simp [V.ren,V.ren_ren h v]
 |.ag cs=>by simp [V.ren,I6 h cs]
 |.tup cs=>by simp [V.ren,I6 h cs]
 |.gd c v=>by simp [V.ren,V.ren_ren h v]
 |.un=>rfl
 |.d x=>rfl
 |.mem cs=>rfl
theorem I6 {p q:Nat→Nat} (h:∀ k,p (q k)=k):∀ l:List V,renL p (renL q l)=l
 |[]=>rfl
 |v::l=>by simp [renL,V.ren_ren h v,I6 h l]
end
theorem Ai.ren {β β':A6} {E:Nat→Prop} {w:World} {p:Nat→Nat} (hp:∀ k v,β k=some v→β' (p k)=some v) {v:Value} {x:V} (h:Ai β E w v x):Ai β' E w v (x.ren p):=by
 induction h with
 |un v=>exact .un v
 |d v x h=>exact .d v x h
 |mem cs b off g hcell hrel=>exact .mem cs b off g hcell hrel
 |own k off b h=>exact .own _ off b (hp _ _ h)
 |osl k v h h1=>exact .osl _ v (hp _ _ h) h1
 |osub k sz lo n b m c a h hn' ha=>exact .osub _ sz lo n b m c a (hp _ _ h) hn' ha
 |osub0 k sz A h=>exact .osub0 _ sz A (hp _ _ h)
 |optr k sz i off b m c h=>exact .optr _ sz i off b m c (hp _ _ h)
 |fn f fi ca first cap h1 h2 _ _ ih1 ih2 =>
  simp only [V.ren,Cq]
  refine .fn f fi ca _ _ (by simpa using h1) (by simpa using h2) (λj v x hv hx=>?_) (λj v x hv hx=>?_)
  ·rw [List.getElem?_map] at hx
   obtain ⟨y,hy,rfl⟩:=Option.map_eq_some_iff.1 hx
   exact ih1 j v y hv hy
  ·rw [List.getElem?_map] at hx
   obtain ⟨y,hy,rfl⟩:=Option.map_eq_some_iff.1 hx
   exact ih2 j v y hv hy
 |ifc t v x _ ih=>exact .ifc t v _ ih
 |ag arr cs h1 _ ih =>
  simp only [V.ren,Cq]
  refine .ag arr _ (by simpa using h1) λj v x hv hx=>?_
  rw [List.getElem?_map] at hx
  obtain ⟨y,hy,rfl⟩:=Option.map_eq_some_iff.1 hx
  exact ih j v y hv hy
 |tup arr cs h1 _ ih =>
  simp only [V.ren,Cq]
  refine .tup arr _ (by simpa using h1) λj v x hv hx=>?_
  rw [List.getElem?_map] at hx
  obtain ⟨y,hy,rfl⟩:=Option.map_eq_some_iff.1 hx
  exact ih j v y hv hy
 |gd c v x _ h' ih=>exact .gd c v _ ih h'
theorem C9.ren {β β':A6} {E:Nat→Prop} {w:World} {p:Nat→Nat} (hp:∀ k v,β k=some v→β' (p k)=some v) {k:Nat} {o:Own} (h:C9 β E w k o):C9 β' E w (p k) (o.ren p):=by
 have hL:∀ {arr:Array Value} {cs:List V},(∀ (j:Nat) (v:Value) (x:V),arr[j]?=some v→cs[j]?=some x→Ai β E w v x)→∀ (j:Nat) (v:Value) (x:V),arr[j]?=some v→(renL p cs)[j]?=some x→Ai β' E w v x:=λhr j v x hv hx=>by
  rw [Cq,List.getElem?_map] at hx
  obtain ⟨y,hy,rfl⟩:=Option.map_eq_some_iff.1 hx
  exact (hr j v y hv hy).ren hp
 cases o with
 |fix cs =>
  obtain ⟨b,arr,e,h1,h2,h3,h4⟩:=h
  exact ⟨b,arr,e,hp _ _ h1,h2,by simpa [Cq] using h3,hL h4⟩
 |row e sz n f =>
  obtain ⟨v,xs,h1,h2,h3,h4⟩:=h
  exact ⟨v,xs,hp _ _ h1,h2,h3,h4⟩
 |lit e sz n cs =>
  obtain ⟨v,xs,h1,h2,h3,h4⟩:=h
  refine ⟨v,xs,hp _ _ h1,h2,by simpa [Cq] using h3,λj u x hu hx=>?_⟩
  rw [Cq,List.getElem?_map] at hx
  obtain ⟨y,hy,rfl⟩:=Option.map_eq_some_iff.1 hx
  exact (h4 j u y hu hy).ren hp
 |mp z g =>
  obtain ⟨b,es,cl,h1,h2⟩:=h
  exact ⟨b,es,cl,hp _ _ h1,h2⟩
 |lp l r=>exact ⟨hp _ _ h.1,h.2⟩
theorem Ai.unren {β:A6} {E:Nat→Prop} {w:World} {p:Nat→Nat} {v:Value} {y:V} (h:Ai β E w v y):∀ x:V,x.ren p=y→Ai (λn=>β (p n)) E w v x:=by
 have hl:∀ {l:List V} {ys:List V},renL p l=ys→l.length=ys.length∧∀ (j:Nat) (x:V),l[j]?=some x→∃ y,ys[j]?=some y∧x.ren p=y:=by
  intro l ys e
  rw [Cq] at e
  subst e
  exact ⟨by simp,λj x hx=>⟨x.ren p,by simp [hx],rfl⟩⟩
 induction h with
 |un v =>
  intro x e
  cases x<;>simp [V.ren] at e
  exact .un v
 |d v d h =>
  intro x e
  cases x<;>simp [V.ren] at e
  subst e;exact .d v _ h
 |mem cs b off g hcell hrel =>
  intro x e
  cases x<;>simp [V.ren] at e
  subst e;exact .mem _ b off g hcell hrel
 |own k off b h =>
  intro x e
  cases x<;>simp [V.ren] at e
  obtain ⟨rfl,rfl⟩:=e
  exact .own _ _ b h
 |osl k v h h1 =>
  intro x e
  cases x<;>simp [V.ren] at e
  subst e;exact .osl _ v h h1
 |osub k sz lo n b m c a h hn ha =>
  intro x e
  cases x<;>simp [V.ren] at e
  obtain ⟨rfl,rfl,rfl,rfl⟩:=e
  exact .osub _ _ _ _ b m c a h hn ha
 |osub0 k sz A h =>
  intro x e
  cases x<;>simp [V.ren] at e
  obtain ⟨rfl,rfl,rfl,rfl⟩:=e
  exact .osub0 _ _ A h
 |optr k sz i off b m c h =>
  intro x e
  cases x<;>simp [V.ren] at e
  obtain ⟨rfl,rfl,rfl,rfl⟩:=e
  exact .optr _ _ _ _ b m c h
 |fn f fi ca first cap h1 h2 _ _ ih1 ih2 =>
  intro x e
  cases x<;>simp [V.ren] at e
  obtain ⟨rfl,e1,e2⟩:=e
  obtain ⟨l1,g1⟩:=hl e1
  obtain ⟨l2,g2⟩:=hl e2
  refine .fn _ fi ca _ _ (h1.trans l1.symm) (h2.trans l2.symm) (λj v x hv hx=>?_) (λj v x hv hx=>?_)
  ·obtain ⟨y,hy,e⟩:=g1 j x hx;exact ih1 j v y hv hy x e
  ·obtain ⟨y,hy,e⟩:=g2 j x hx;exact ih2 j v y hv hy x e
 |ifc t v x _ ih =>
  intro x e
  cases x<;>simp [V.ren] at e
  obtain ⟨rfl,e⟩:=e
  exact .ifc _ _ _ (ih _ e)
 |ag arr cs h1 _ ih =>
  intro x e
  cases x<;>simp [V.ren] at e
  obtain ⟨l1,g1⟩:=hl e
  refine .ag arr _ (h1.trans l1.symm) (λj v x hv hx=>?_)
  obtain ⟨y,hy,e⟩:=g1 j x hx;exact ih j v y hv hy x e
 |tup arr cs h1 _ ih =>
  intro x e
  cases x<;>simp [V.ren] at e
  obtain ⟨l1,g1⟩:=hl e
  refine .tup arr _ (h1.trans l1.symm) (λj v x hv hx=>?_)
  obtain ⟨y,hy,e⟩:=g1 j x hx;exact ih j v y hv hy x e
 |gd c v x _ h' ih =>
  intro x e
  cases x<;>simp [V.ren] at e
  obtain ⟨rfl,e⟩:=e
  exact .gd _ _ _ (λhc=>ih hc _ e) h'
theorem C9.unren {β:A6} {E:Nat→Prop} {w:World} {p:Nat→Nat} {k:Nat} {o:Own} (h:C9 β E w (p k) (o.ren p)):C9 (λn=>β (p n)) E w k o:=by
 have hL:∀ {arr:Array Value} {cs:List V},(∀ (j:Nat) (v:Value) (x:V),arr[j]?=some v→(renL p cs)[j]?=some x→Ai β E w v x)→∀ (j:Nat) (v:Value) (x:V),arr[j]?=some v→cs[j]?=some x→Ai (λn=>β (p n)) E w v x:=λhr j v x hv hx =>
  (hr j v (x.ren p) hv (by rw [Cq,List.getElem?_map,hx];rfl)).unren x rfl
 cases o with
 |fix cs =>
  obtain ⟨b,arr,e,h1,h2,h3,h4⟩:=h
  exact ⟨b,arr,e,h1,h2,by simpa [Cq] using h3,hL h4⟩
 |row e sz n f=>exact h
 |lit e sz n cs =>
  obtain ⟨v,xs,h1,h2,h3,h4⟩:=h
  exact ⟨v,xs,h1,h2,by simpa [Cq] using h3,λj u x hu hx=>(h4 j u (x.ren p) hu (by rw [Cq,List.getElem?_map,hx];rfl)).unren x rfl⟩
 |mp z g=>exact h
 |lp l r=>exact h
theorem Ax (p:Nat→Nat) (l:List (Nat×Own)):keysO (renO p l)=(keysO l).map p:=by rw [U4];simp [keysO,Function.comp_def]
theorem W7 {p:Nat→Nat} {l:List (Nat×Own)} {k:Nat} {o:Own}:(k,o)∈renO p l↔∃ k0 o0,(k0,o0)∈l∧k=p k0∧o=o0.ren p:=by
 rw [U4,List.mem_map]
 constructor
 ·rintro ⟨⟨k0,o0⟩,h1,h2⟩
  simp only [Prod.mk.injEq] at h2
  exact ⟨k0,o0,h1,h2.1.symm,h2.2.symm⟩
 ·rintro ⟨k0,o0,h1,rfl,rfl⟩
  exact ⟨(k0,o0),h1,rfl⟩
theorem Dw {p:Nat→Nat}:∀ {l:List Nat},l.Nodup→(∀ a b,a∈l→b∈l→p a=p b→a=b)→(l.map p).Nodup
 |[],_,_=>by simp
 |x::l,h,hi=>by
  rw [List.nodup_cons] at h
  rw [List.map_cons,List.nodup_cons]
  refine ⟨λhm=>?_,Dw h.2 λa b ha hb=>hi a b (List.mem_cons_of_mem _ ha) (List.mem_cons_of_mem _ hb)⟩
  obtain ⟨y,hy,e⟩:=List.mem_map.1 hm
  exact h.1 (hi y x (List.mem_cons_of_mem _ hy) List.mem_cons_self e▸hy)
theorem At.ren {E0:Nat→Prop} {β β':A6} {w:World} {own:List (Nat×Own)} {p:Nat→Nat} (h:At E0 β w own) (hn:∀ n,n∈A4 own→n∈keysO own) (hp:∀ n,n∈keysO own→β' (p n)=β n)
  (hi:∀ a b,a∈keysO own→b∈keysO own→p a=p b→a=b):At E0 β' w (renO p own)∧Eo E0 β' (renO p own)=Eo E0 β own:=by
 have hblk:∀ k,k∈keysO own→β'.blk (p k)=β.blk k:=λk hk=>by simp only [A6.blk,hp k hk]
 have hE:Eo E0 β' (renO p own)=Eo E0 β own:=by
  funext b;apply propext;unfold Eo;rw [Ax]
  constructor
  ·rintro (h1|⟨k,h1,h2⟩)
   ·exact .inl h1
   ·obtain ⟨k0,h3,rfl⟩:=List.mem_map.1 h1
    exact .inr ⟨k0,h3,by rw [←hblk k0 h3];exact h2⟩
  ·rintro (h1|⟨k,h1,h2⟩)
   ·exact .inl h1
   ·exact .inr ⟨p k,List.mem_map.2 ⟨k,h1,rfl⟩,by rw [hblk k h1];exact h2⟩
 refine ⟨⟨λk o hk=>?_,?_,λk k' h1 h2 hne b h3 h4=>?_,λk h1 b h3=>?_⟩,hE⟩
 ·obtain ⟨k0,o0,h1,rfl,rfl⟩:=W7.1 hk
  rw [hE]
  have h2:C9 (λn=>if n∈keysO own then β n else none) (Eo E0 β own) w k0 o0:=
   (h.ok k0 o0 h1).forget (B5.refl _ _) (if_pos (Ab h1)) (λj hj=>if_pos (hn j (D3 h1 j hj))) (λ_ _=>rfl)
  exact h2.ren λn v hv=>by
   split at hv
   ·rename_i h5;rw [hp n h5];exact hv
   ·cases hv
 ·rw [Ax]
  exact Dw h.nodup hi
 ·rw [Ax] at h1 h2
  obtain ⟨a,ha,rfl⟩:=List.mem_map.1 h1
  obtain ⟨a',ha',rfl⟩:=List.mem_map.1 h2
  rw [hblk a ha] at h3
  rw [hblk a' ha'] at h4
  exact h.apart a a' ha ha' (λe=>hne (by rw [e])) b h3 h4
 ·rw [Ax] at h1
  obtain ⟨a,ha,rfl⟩:=List.mem_map.1 h1
  rw [hblk a ha] at h3
  exact h.lt a ha b h3
theorem At.unren {E0:Nat→Prop} {β:A6} {w:World} {own:List (Nat×Own)} {p:Nat→Nat} (h:At E0 β w (renO p own)) (hnd:(keysO own).Nodup) (hi:∀ a b,a∈keysO own→b∈keysO own→p a=p b→a=b) :
  At E0 (λn=>β (p n)) w own∧Eo E0 (λn=>β (p n)) own=Eo E0 β (renO p own):=by
 have hE:Eo E0 (λn=>β (p n)) own=Eo E0 β (renO p own):=by
  funext b;apply propext;unfold Eo;rw [Ax]
  constructor
  ·rintro (h1|⟨k,h1,h2⟩)
   ·exact .inl h1
   ·exact .inr ⟨p k,List.mem_map.2 ⟨k,h1,rfl⟩,h2⟩
  ·rintro (h1|⟨k,h1,h2⟩)
   ·exact .inl h1
   ·obtain ⟨k0,h3,rfl⟩:=List.mem_map.1 h1
    exact .inr ⟨k0,h3,h2⟩
 refine ⟨⟨λk o hk=>?_,hnd,λk k' h1 h2 hne b h3 h4=>?_,λk h1 b h3=>?_⟩,hE⟩
 ·rw [hE]
  exact C9.unren (h.ok (p k) (o.ren p) (W7.2 ⟨k,o,hk,rfl,rfl⟩))
 ·exact h.apart (p k) (p k') (by rw [Ax];exact List.mem_map.2 ⟨k,h1,rfl⟩) (by rw [Ax];exact List.mem_map.2 ⟨k',h2,rfl⟩) (λe=>hne (hi k k' h1 h2 e)) b h3 h4
 ·exact h.lt (p k) (by rw [Ax];exact List.mem_map.2 ⟨k,h1,rfl⟩) b h3
theorem Wq {w:World} {b:Nat} {ob ob':Obj} (hb:w.heap[b]?=some ob) (hnc:∀ cs e s,ob≠.cells cs e s) {a:Addr} {v:Value} (h:w.cell? a=some v):a.block≠b∧(w.putObj b ob').cell? a=some v:=by
 have hne:a.block≠b:=λe=>by
  unfold World.cell? at h
  rw [e,hb] at h
  cases ob with
  |cells cs e s=>exact hnc cs e s rfl
  |_=>simp at h
 exact ⟨hne,(World.cell?_of_block (World.putObj_heap_other hne)).trans h⟩
theorem Eb {E:Nat→Prop} {w:World} {b:Nat} {ob:Obj} (ob':Obj) (hb:w.heap[b]?=some ob) (hnc:∀ cs e s,ob≠.cells cs e s):Le E E w (w.putObj b ob'):=
 λ_ _ hE hc=>⟨hE,(Wq hb hnc hc).2⟩
theorem Ik {L:Nat→Prop} (w:World) (b:Nat) (ob:Obj) (hL:L b):Aw L w (w.putObj b ob):=
 ⟨rfl,rfl,rfl,by simp,λi _ hl=>World.putObj_heap_other (λe=>hl (e▸hL))⟩
theorem At.turn {E0:Nat→Prop} {β:A6} {w:World} {own:List (Nat×Own)} (h:At E0 β w own) {b:Nat} {ob:Obj} (ob':Obj) (hb:w.heap[b]?=some ob) (hnc:∀ cs e s,ob≠.cells cs e s) (hno:∀ k,k∈keysO own→β.blk k≠some b):At E0 β (w.putObj b ob') own:=
 ⟨λk o hk=>(h.ok k o hk).lastsC (Eb ob' hb hnc) (A6.le.refl β) (λi hi=>World.putObj_heap_other (λe=>hno k (Ab hk) (e▸hi))),h.nodup,h.apart,λk hk i hi=>by
  have:=h.lt k hk i hi
  exact ⟨by simpa using this.1,this.2⟩⟩
theorem Aa.turn {c:B3} {β:A6} {st:St} {a:Act} {w:World} (H:Aa c β st a w) {b:Nat} {ob:Obj} (ob':Obj) (hb:w.heap[b]?=some ob) (hnc:∀ cs e s,ob≠.cells cs e s) (hno:∀ k,k∈keysO st.own→β.blk k≠some b) (hw:c.w0.heap.size≤b) {l:List Deferred}
  (hm:Lk c (w.putObj b ob') l):Aa c β st { a with defers:=l } (w.putObj b ob'):=by
 refine ⟨H.sz,hm,λs=>(H.env s).lastsC' (Eb ob' hb hnc) (A6.le.refl β),H.own.turn ob' hb hnc hno,H.fr,H.kn,H.nm,?_,H.fx⟩
 exact ⟨H.kp.os,H.kp.tape,H.kp.output,by simpa using H.kp.size,λi hi hl=>(World.putObj_heap_other (by omega)).trans (H.kp.block i hi hl)⟩
theorem Ho {c:B3} {β:A6} {st:St} {a:Act} {w:World} (H:Aa c β st a w) {b:Nat} {ds:Option (List Deferred)} (hb:w.heap[b]?=some (Obj.deferred ds)):∀ k,k∈keysO st.own→β.blk k≠some b:=λk hk e=>by
 obtain ⟨o,ho⟩:=Ba hk
 exact (H.own.ok k o ho).obj e hb
theorem E6 {c:B3} {fn:Func} {u:FrameMode} (hu:u≠.run) {R:Ending→World→Prop} {m2:List Deferred} (h2:c.db=[]→m2=[]):∀ (m:List Deferred) {β:A6} {st:St} {a:Act} {w:World},a.defers=m++(c.db++m2)→Ey c.rd c.w0 w (m++m2)→Aa c β st a w →
  (∀ (a':Act) (w':World),a'.tmps=a.tmps→a'.defers=c.db++m2→Ey c.rd c.w0 w' m2→Aa c β st a' w'→(∀ v x,Ai β (Eo c.E0 β st.own) w v x→Ai β (Eo c.E0 β st.own) w' v x)→LeavesInM Fence.wide 0 c.P fn a.tmps R (c.db++m2) u w')→LeavesInM Fence.wide 0 c.P fn a.tmps R (m++(c.db++m2)) u w
 |[],β,st,a,w,e,hdf,H,h=>h a w rfl e hdf H (λ_ _ h=>h)
 |d::m,β,st,a,w,e,hdf,H,h=>by
  obtain ⟨b,rfl,h1,h3⟩:=hdf.ok d (by simp)
  have hnd:=hdf.nodup
  simp only [List.cons_append,List.map_cons,List.nodup_cons] at hnd
  refine ⟨hu,.inl ⟨b,w.putObj b (Obj.deferred none),rfl,run_takeDeferred h3,?_⟩⟩
  have hm:Ey c.rd c.w0 (w.putObj b (Obj.deferred none)) (m++m2):=⟨λd' hd'=>by
   obtain ⟨b',g1,g2,g3⟩:=hdf.ok d' (by rw [List.cons_append];exact List.mem_cons_of_mem _ hd')
   refine ⟨b',g1,g2,(World.putObj_heap_other λe=>?_).trans g3⟩
   subst e
   exact hnd.1 (List.mem_map.2 ⟨d',hd',by rw [g1]⟩),hnd.2,λh=>by have:=hdf.rd0 h;cases this⟩
  have H':=H.turn (Obj.deferred none) h3 (λ_ _ _=>by simp) (Ho H h3) h1 ⟨m,m2,rfl,hm,h2⟩
  exact E6 hu h2 m (a:={ a with defers:=m++(c.db++m2) }) rfl hm H' (λa' w' ha hd hm2 H'' hr=>h a' w' ha hd hm2 H'' (λv x hv=>hr v x (hv.lastsC' (Eb (Obj.deferred none) h3 (λ_ _ _=>by simp)) (A6.le.refl β))))
theorem Gd {c:B3} (hdb:c.db=[]) {fn:Func} {R:Ending→World→Prop} (l:List Deferred) {β:A6} {st:St} {a:Act} {w:World} (e:a.defers=l) (H:Aa c β st a w)
  (h:∀ (a':Act) (w':World),a'.tmps=a.tmps→Aa c β st a' w'→∃ v,(results fn a'.tmps).run c.P w'=.ok v w'∧R (.returned v) w'):LeavesInM Fence.wide 0 c.P fn a.tmps R l .returning w:=by
 obtain ⟨m,m2,h1,h2,h3⟩:=H.df
 have:=E6 (fn:=fn) (R:=R) (u:=.returning) (by simp) h3 m h1 h2 H (λa' w' ha _ _ H' _=>by
  rw [hdb,h3 hdb]
  have:=h a' w' ha H'
  rw [ha] at this
  exact this)
 rw [←e,h1];exact this
def pk (fx:List Nat) (k n:Nat):Nat:=if n∈fx then 1000000+2*n else 1000001+2*((k+n)*(k+n)+n)
theorem Y8 {a b n m:Nat} (hn:n≤a) (hm:m≤b) (h:a*a+n=b*b+m):a=b∧n=m:=by
 rcases Nat.lt_trichotomy a b with h1|h1|h1
 ·have:(a+1)*(a+1)≤b*b:=Nat.mul_le_mul h1 h1
  have h2:(a+1)*(a+1)=a*a+2*a+1:=by simp only [Nat.add_mul,Nat.mul_add];omega
  omega
 ·subst h1;exact ⟨rfl,by omega⟩
 ·have:(b+1)*(b+1)≤a*a:=Nat.mul_le_mul h1 h1
  have h2:(b+1)*(b+1)=b*b+2*b+1:=by simp only [Nat.add_mul,Nat.mul_add];omega
  omega
theorem pk_ge (fx:List Nat) (k n:Nat):1000000≤pk fx k n:=by unfold pk;split<;>omega
theorem Np {fx:List Nat} {n:Nat} (h:n∈fx) (k:Nat):pk fx k n=1000000+2*n:=by unfold pk;rw [if_pos h]
theorem Qr {fx:List Nat} {k k' n m:Nat} (h:pk fx k n=pk fx k' m):n=m∧(n∈fx∨k=k'):=by
 unfold pk at h
 split at h<;>split at h
 ·rename_i h1 h2;exact ⟨by omega,.inl h1⟩
 ·omega
 ·omega
 ·have h3:(k+n)*(k+n)+n=(k'+m)*(k'+m)+m:=by omega
  obtain ⟨h4,h5⟩:=Y8 (by omega) (by omega) h3
  exact ⟨h5,.inr (by omega)⟩
def YAt (P:Program) (l:Nat) (EI LI:Nat→Prop) (wI:World) (βI:A6) (fx:List Nat) (args:List V) (ins outs:List (Nat×Own)) (go:Bool):Prop:=
  ∀ (E0 : Nat → Prop) (β : A6) (w : World) (vals : Array Value), (∀ b, E0 b → b < w.heap.size) → (∀ b, EI b → E0 b) → (∀ b, E0 b → b < wI.heap.size → EI b ∨ LI b) → Aw LI wI w →
    (∀ k,k∈keysO ins→∀ b,β.blk k=some b→wI.heap.size≤b∨LI b)→(∀ n,n∈fx→β n=βI n)→vals.size=args.length →
    (∀ (j:Nat) (v:Value) (x:V),vals[j]?=some v→args[j]?=some x→Ai β (Eo E0 β ins) w v x)→At E0 β w ins →
    ∃ fn tmps asg body,(Instr.yield l vals).run P w=.ok (.round l fn tmps asg body) w∧RoundIn Fence.wide 0 P l fn tmps asg body w λe w' =>
      ∃ β',e=.returned (.bool go)∧(∀ n,n∈fx→β' n=β n)∧At E0 β' w' outs∧Aw (Co β ins) w w'∧(∀ k,k∈keysO outs→∀ b,β'.blk k=some b→w.heap.size≤b∨Co β ins b)
structure Ma (fx:List Nat) (O:Nat→List (Nat×Own)):Prop where
 nodup:∀ k,(keysO (O k)).Nodup
 names:∀ k n,n∈A4 (O k)→n∈keysO (O k)
 fx:∀ k n,n∈fx→n∈keysO (O k)
def F7 (T:Nat) (stop:Bool) (k:Nat):Bool:=decide (k+1<T) || !stop
def L3 (P:Program) (gf:FuncId) (caps:List V) (args:Nat→List V) (n:Nat):Prop:=
 In P gf=true∧∀ (l:Nat) (EI LI:Nat→Prop) (wI:World) (βI:A6) (fx:List Nat) (T:Nat) (stop:Bool) (O:Nat→List (Nat×Own)) (vals:Array Value),Ma fx O →
  (stop=false→T=n)→(stop=true→0<T∧T≤n)→(∀ b,EI b→b<wI.heap.size)→LI=Co βI (O 0)→At EI βI wI (O 0)→vals.size=caps.length →
  (∀ (j:Nat) (v:Value) (x:V),vals[j]?=some v→caps[j]?=some x→Ai βI (Eo EI βI (O 0)) wI v x) →
  (∀ k,k<T→YAt P l EI LI wI βI fx (args k) (O k) (O (k+1)) (F7 T stop k)) →
  Calls P gf (#[.func (.yield l) #[] #[]]++vals) wI λe w'=>∃ v β',e=.returned v∧(∀ n,n∈fx→β' n=βI n)∧At EI β' w' (O T)∧Aw LI wI w'∧(∀ k,k∈keysO (O T)→∀ b,β'.blk k=some b→wI.heap.size≤b∨LI b)
def YR (c:B3) (l:Nat) (args:List V) (Z Z':List (Nat×Own)) (go:Bool):Prop:=
  ∀ (d : Option Nat) (x : X) (xs : List X) (st : St), evV st x = .fn (.yield l) [] [] → evS true st x → evVs st xs = args → evSs true st xs → (∀ k o, (k, o) ∈ Z → own? st.own k = some o) →
    D0 c ⟨d,none,.callv x xs⟩ st { val:=.d (.bool go),upd:=callU Z Z',rd:=keysO Z,new:=(keysO Z').filter λn=>!(keysO Z).contains n }
theorem yr_ok {c:B3} {l:Nat} {βI:A6} {fx:List Nat} {args:List V} {O:Nat→List (Nat×Own)} {k:Nat} {go:Bool} (hfn:∀ n,n∈fx→pk fx 0 n∈c.fn∧c.fx (pk fx 0 n)=βI n) (hcl:Ma fx O)
  (hY:YAt c.P l c.E0 c.L c.w0 βI fx args (O k) (O (k+1)) go) (hna:A5 args=[]):YR c l args (renO (pk fx k) (O k)) (renO (pk fx (k+1)) (O (k+1))) go:=by
 intro d x xs st hx hsx hargs hs hin st1 h1 h2 h3 ops o hc β a w H Q K hK
 have hcg:=hc.gd
 have hg:o.guard=none:=by
  cases hg:o.guard with
  |none=>rfl
  |some jw=>simp only [hg] at hcg;obtain ⟨s,_,h⟩:=hcg;cases h
 rw [if_pos (by simp [Region.wanted,hg])]
 have hsl:∀ k,k∈Bc xs→get st1.env k=get st.env k:=λk hk=>h1 k (by simp [I.slots,Go.Bx.O.slots,hk])
 have hslx:∀ k,k∈x.slots→get st1.env k=get st.env k:=λk hk=>h1 k (by simp [I.slots,Go.Bx.O.slots,hk])
 have e1:=Cj hsl
 have e2:=Cn (p:=true) hsl
 obtain ⟨cl,hcl',hcc⟩:=Gy hc.op rfl (by simp)
 obtain ⟨ox,h4,hox,h5⟩:=Sk hcc
 obtain ⟨q1,q2⟩:=Ee H h5 (by rw [e2];exact hs)
 rw [e1,hargs] at q1 q2
 have hv0:=Ad H hox (by rw [An hslx];exact hsx)
 rw [Am hslx,hx] at hv0
 have hu:a.eval ox=.func (.yield l) #[] #[]:=by
  generalize a.eval ox=u at *
  cases hv0 with
  |fn _ fi ca _ _ g1 g2 r1 r2=>rw [Array.eq_empty_of_size_eq_zero g1,Array.eq_empty_of_size_eq_zero g2]
 have B7:∀ m o,(m,o)∈renO (pk fx k) (O k)→own? st1.own m=some o:=λm o h=>by rw [h2 m (Ab h)];exact hin m o h
 have hE:=Ok (c:=c) (β:=β) B7
 have hkey:∀ m,m∈keysO (renO (pk fx k) (O k))→m∈keysO st1.own:=λm h=>by
  obtain ⟨o,ho⟩:=Ba h
  exact Ab (Ah (B7 m o ho))
 have hpk:∀ (k k' n m:Nat),n∈keysO (O k)→m∈keysO (O k)→pk fx k' n=pk fx k' m→n=m:=λ_ _ _ _ _ _ e=>(Qr e).1
 have hmk:∀ {n k:Nat},n∈keysO (O k)→pk fx k n∈keysO (renO (pk fx k) (O k)):=λ{n k} h=>by rw [Ax];exact List.mem_map.2 ⟨n,h,rfl⟩
 have hins:At (λb=>c.E0 b∨∃ m,m∈keysO st1.own∧m∉keysO (renO (pk fx k) (O k))∧β.blk m=some b) β w (renO (pk fx k) (O k)):=by
  refine ⟨λm o h=>?_,?_,λm m' h1 h2=>H.own.apart m m' (hkey m h1) (hkey m' h2),λm h b hb=>?_⟩
  ·rw [hE];exact H.own.ok m o (Ah (B7 m o h))
  ·rw [Ax];exact Dw (hcl.nodup k) (hpk k k)
  ·obtain ⟨x,y⟩:=H.own.lt m (hkey m h) b hb
   refine ⟨x,?_⟩
   rintro (h1|⟨m',h1,h2,h3⟩)
   ·exact y h1
   ·exact H.own.apart m m' (hkey m h) h1 (λe=>h2 (e▸h)) b hb h3
 obtain ⟨hins',hE'⟩:=hins.unren (hcl.nodup k) (hpk k k)
 have hfx:∀ n,n∈fx→β (pk fx k n)=βI n:=λn hn=>by
  rw [Np hn k,←Np hn 0,(H.fx _ (hfn n hn).1).2,(hfn n hn).2]
 obtain ⟨fn,tmps,asg,body,hy,hR⟩:=hY _ (λn=>β (pk fx k n)) w (cl.args.map a.eval) (by
   rintro b (h|⟨m,h1,_,h3⟩)
   ·have:=c.hE b h
    have:=H.kp.size
    omega
   ·exact (H.own.lt m h1 b h3).1) (λb hb=>.inl hb) (by
   rintro b (h|⟨m,h1,_,h3⟩) hb
   ·exact .inl h
   ·exact .inr ((H.fr m h1 b h3).resolve_left (by omega))) H.kp (λn hn b hb=>H.fr _ (hkey _ (hmk hn)) b hb) hfx (by simpa using q1) (λj v y hv hy=>by
   rw [hE',hE]
   refine (q2 j v y (by simpa using hv) hy).lasts (B5.refl _ _) λm hm=>?_
   have:=Bz hy m hm
   rw [hna] at this;cases this) hins'
 have hrun:(execOp a.eval o).run c.P w=.ok (.round l fn tmps asg body) w:=by
  have hyy:(Instr.yield l (#[]++cl.args.map a.eval++#[])).run c.P w=.ok (.round l fn tmps asg body) w:=by simpa using hy
  simp only [execOp,hcl',resolve,h4,hu,Deferred.ofValue,invoke,Sem.run_bind,Sem.run_pure,Result.andThen_ok]
  exact hyy
 refine Oper.wpc_ok hrun (λd=>by simp) ⟨λh=>by simp [B3.F,Fence.wide] at h,hR.mono ?_⟩
 rintro e w' ⟨β',rfl,g1,g2,g3,g4⟩
 let β2:A6:=λm=>open Classical in if h:∃ n,n∈keysO (O (k+1))∧n∉fx∧pk fx (k+1) n=m then β' (Classical.choose h) else β m
 have hβp:∀ n,n∈keysO (O (k+1))→β2 (pk fx (k+1) n)=β' n:=λn hn=>by
  by_cases hf:n∈fx
  ·have hno:¬ ∃ n',n'∈keysO (O (k+1))∧n'∉fx∧pk fx (k+1) n'=pk fx (k+1) n:=by
    rintro ⟨n',_,h5,h6⟩
    exact h5 ((Qr h6).1▸hf)
   simp only [β2,dif_neg hno]
   rw [g1 n hf,Np hf,Np hf]
  ·have hyes:∃ n',n'∈keysO (O (k+1))∧n'∉fx∧pk fx (k+1) n'=pk fx (k+1) n:=⟨n,hn,hf,rfl⟩
   simp only [β2,dif_pos hyes]
   rw [(Qr (Classical.choose_spec hyes).2.2).1]
 have hnew:∀ m,(∃ n,n∈keysO (O (k+1))∧n∉fx∧pk fx (k+1) n=m)→m∈(keysO (renO (pk fx (k+1)) (O (k+1)))).filter λn=>!(keysO (renO (pk fx k) (O k))).contains n:=by
  rintro m ⟨n,h5,h6,rfl⟩
  refine List.mem_filter.2 ⟨hmk h5,?_⟩
  simp only [Bool.not_eq_true',List.contains_eq_mem,decide_eq_false_iff_not]
  rw [Ax]
  intro h7
  obtain ⟨n',_,h8⟩:=List.mem_map.1 h7
  rcases (Qr h8).2 with h9|h9
  ·exact h6 ((Qr h8).1▸h9)
  ·omega
 have hle:β.le β2:=λm v hv=>by
  by_cases h:∃ n,n∈keysO (O (k+1))∧n∉fx∧pk fx (k+1) n=m
  ·rw [H.nm m (h3 m (hnew m h))] at hv;cases hv
  ·simp only [β2,dif_neg h];exact hv
 have hfr:∀ m,m∉((keysO (renO (pk fx (k+1)) (O (k+1)))).filter λn=>!(keysO (renO (pk fx k) (O k))).contains n)→β2 m=β m:=λm hm=>by
  have h:¬ ∃ n,n∈keysO (O (k+1))∧n∉fx∧pk fx (k+1) n=m:=λh=>hm (hnew m h)
  simp only [β2,dif_neg h]
 obtain ⟨g2',-⟩:=g2.ren (hcl.names (k+1)) hβp (hpk (k+1) (k+1))
 obtain ⟨H',-⟩:=Is H B7 h3 (λm hm=>(List.mem_filter.1 hm).1) hle hfr g2' (g3.mono λb ⟨n,h5,h6⟩=>⟨_,hmk h5,h6⟩) (λm hm b hb=>by
  rw [Ax] at hm
  obtain ⟨n,h5,rfl⟩:=List.mem_map.1 hm
  have:β'.blk n=some b:=by simp only [A6.blk,←hβp n h5];exact hb
  exact (g4 n h5 b this).imp id λ⟨n',h6,h7⟩=>⟨_,hmk h6,h7⟩)
 refine hK β2 _ w' ?_
 have hd:=hc.dst
 simp only at hd
 rw [hd]
 simp only [St.stp]
 cases d with
 |none=>exact H'
 |some d=>exact H'.setV (hc.lt d rfl) (Fj go)
end Go.Bx
end
section
namespace Go.Bx
open Go.RowKit
mutual
theorem V.names_ren (p:Nat→Nat):∀ v:V,(v.ren p).names=v.names.map p
 |.own k off=>by simp [V.ren,V.names]
 |.osl k=>by simp [V.ren,V.names]
 |.osub k sz lo n=>by simp [V.ren,V.names]
 |.optr k sz i off=>by simp [V.ren,V.names]
 |.fn f a b=>by simp [V.ren,V.names,Ei p a,Ei p b]
 |.ifc t v=>by simp [V.ren,V.names,V.names_ren p v]
 |.ag cs=>by simp [V.ren,V.names,Ei p cs]
 |.tup cs=>by simp [V.ren,V.names,Ei p cs]
 |.gd c v=>by simp [V.ren,V.names,V.names_ren p v]
 |.un=>rfl
 |.d x=>rfl
 |.mem cs=>rfl
theorem Ei (p:Nat→Nat):∀ l:List V,A5 (renL p l)=(A5 l).map p
 |[]=>rfl
 |v::l=>by simp [renL,A5,V.names_ren p v,Ei p l]
end
theorem Dj (p:Nat→Nat):∀ l:List (Nat×Own),A4 (renO p l)=(A4 l).map p
 |[]=>rfl
 |(k,.fix cs)::l=>by simp [renO,Own.ren,A4,Ei,Dj p l]
 |(k,.lit e sz n cs)::l=>by simp [renO,Own.ren,A4,Ei,Dj p l]
 |(k,.row e sz n f)::l=>by simp [renO,Own.ren,A4,Dj p l]
 |(k,.mp z g)::l=>by simp [renO,Own.ren,A4,Dj p l]
 |(k,.lp b r)::l=>by simp [renO,Own.ren,A4,Dj p l]
theorem At.restrict {E0:Nat→Prop} {β β':A6} {w:World} {own:List (Nat×Own)} (h:At E0 β w own) (hn:∀ n,n∈A4 own→n∈keysO own) (hp:∀ n,n∈keysO own→β' n=β n) :
  At E0 β' w own∧Eo E0 β' own=Eo E0 β own:=by
 have hblk:∀ k,k∈keysO own→β'.blk k=β.blk k:=λk hk=>by simp only [A6.blk,hp k hk]
 have hE:Eo E0 β' own=Eo E0 β own:=by
  funext b;apply propext;unfold Eo
  constructor
  ·rintro (h1|⟨k,h1,h2⟩)
   ·exact .inl h1
   ·exact .inr ⟨k,h1,by rw [←hblk k h1];exact h2⟩
  ·rintro (h1|⟨k,h1,h2⟩)
   ·exact .inl h1
   ·exact .inr ⟨k,h1,by rw [hblk k h1];exact h2⟩
 refine ⟨⟨λk o hk=>?_,h.nodup,λk k' h1 h2 hne b h3 h4=>?_,λk h1 b h3=>?_⟩,hE⟩
 ·rw [hE]
  exact (h.ok k o hk).forget (B5.refl _ _) (hp k (Ab hk)) (λj hj=>hp j (hn j (D3 hk j hj))) (λ_ _=>rfl)
 ·rw [hblk k h1] at h3
  rw [hblk k' h2] at h4
  exact h.apart k k' h1 h2 hne b h3 h4
 ·rw [hblk k h1] at h3
  exact h.lt k h1 b h3
theorem Eo.grow {E0 E0':Nat→Prop} {β:A6} {w w':World} {own:List (Nat×Own)} (hk:Aw (λ_=>False) w w') (hE:∀ b,b<w.heap.size→E0' b→E0 b):B5 (Eo E0 β own) (Eo E0' β own) w w':=λb hb h1 =>
 ⟨λh=>h1 (h.imp (hE b hb) id),hk.block b hb (λh=>h)⟩
theorem At.grow {E0 E0':Nat→Prop} {β:A6} {w w':World} {own:List (Nat×Own)} (h:At E0 β w own) (hk:Aw (λ_=>False) w w') (hE:∀ b,b<w.heap.size→E0' b→E0 b):At E0' β w' own:=
 ⟨λk o ho=>(h.ok k o ho).lasts (Eo.grow hk hE) (A6.le.refl β) (λb hb=>hk.block b (h.lt k (Ab ho) b hb).1 (λh=>h)),h.nodup,h.apart,λk hk' b hb=>by
  obtain ⟨h1,h2⟩:=h.lt k hk' b hb
  exact ⟨Nat.lt_of_lt_of_le h1 hk.size,λh3=>h2 (hE b h1 h3)⟩⟩
theorem Zt {E0:Nat→Prop} {β:A6} {k l:Nat} {r:Loop} {own:List (Nat×Own)} (hb:β k=some (.pointer (some ⟨l,0,none⟩))):Eo E0 β ((k,.lp l (.loop r))::own)=Eo (λb=>E0 b∨b=l) β own:=by
 have hbl:β.blk k=some l:=by simp [A6.blk,hb,B0]
 funext b;apply propext;unfold Eo
 simp only [keysO,List.map_cons,List.mem_cons]
 constructor
 ·rintro (h|⟨k',rfl|h1,h2⟩)
  ·exact .inl (.inl h)
  ·rw [hbl] at h2;exact .inl (.inr (Option.some.inj h2).symm)
  ·exact .inr ⟨k',h1,h2⟩
 ·rintro ((h|rfl)|⟨k',h1,h2⟩)
  ·exact .inl h
  ·exact .inr ⟨k,.inl rfl,hbl⟩
  ·exact .inr ⟨k',.inr h1,h2⟩
theorem At.lpIn {E0:Nat→Prop} {β:A6} {w:World} {k l:Nat} {r:Loop} {own:List (Nat×Own)} (h:At (λb=>E0 b∨b=l) β w own) (hb:β k=some (.pointer (some ⟨l,0,none⟩))) (hl:w.heap[l]?=some (.loop r)) (hk:k∉keysO own) (hE:¬ E0 l) :
  At E0 β w ((k,.lp l (.loop r))::own):=by
 have hbl:β.blk k=some l:=by simp [A6.blk,hb,B0]
 refine ⟨λk' o h1=>?_,(List.nodup_cons.2 ⟨hk,h.nodup⟩:(k::keysO own).Nodup),λk1 k2 h1 h2 hne b hb1 hb2=>?_,λk1 h1 b hb1=>?_⟩
 ·rcases List.mem_cons.1 h1 with h1|h1
  ·cases h1;exact ⟨hb,hl⟩
  ·rw [Zt hb];exact h.ok k' o h1
 ·simp only [keysO,List.map_cons,List.mem_cons] at h1 h2
  rcases h1 with rfl|h1<;>rcases h2 with rfl|h2
  ·exact hne rfl
  ·rw [hbl] at hb1;cases hb1
   exact (h.lt k2 h2 l hb2).2 (.inr rfl)
  ·rw [hbl] at hb2;cases hb2
   exact (h.lt k1 h1 l hb1).2 (.inr rfl)
  ·exact h.apart k1 k2 h1 h2 hne b hb1 hb2
 ·simp only [keysO,List.map_cons,List.mem_cons] at h1
  rcases h1 with rfl|h1
  ·rw [hbl] at hb1;cases hb1
   exact ⟨(Array.getElem?_eq_some_iff.1 hl).1,hE⟩
  ·obtain ⟨h2,h3⟩:=h.lt k1 h1 b hb1
   exact ⟨h2,λh4=>h3 (.inl h4)⟩
theorem At.lpOut {E0:Nat→Prop} {β:A6} {w:World} {k l:Nat} {r:Loop} {own:List (Nat×Own)} (h:At E0 β w ((k,.lp l (.loop r))::own)) :
  (β k=some (.pointer (some ⟨l,0,none⟩))∧w.heap[l]?=some (.loop r))∧¬ E0 l∧At (λb=>E0 b∨b=l) β w own:=by
 have hlp:C9 β (Eo E0 β ((k,.lp l (.loop r))::own)) w k (.lp l (.loop r)):=h.ok k _ List.mem_cons_self
 have hbl:β.blk k=some l:=by simp [A6.blk,hlp.1,gz.blk]
 have hnd:=h.nodup
 simp only [keysO,List.map_cons,List.nodup_cons] at hnd
 have hkk:∀ k',k'∈keysO own→k'∈keysO ((k,.lp l (.loop r))::own):=λk' hk=>by simp [keysO] at hk ⊢;exact .inr hk
 refine ⟨hlp,(h.lt k (by simp [keysO]) l hbl).2,⟨λk' o h1=>?_,hnd.2,λk1 k2 h1 h2=>h.apart k1 k2 (hkk k1 h1) (hkk k2 h2),λk1 h1 b hb1=>?_⟩⟩
 ·rw [←Zt hlp.1];exact h.ok k' o (List.mem_cons_of_mem _ h1)
 ·obtain ⟨h2,h3⟩:=h.lt k1 (hkk k1 h1) b hb1
  refine ⟨h2,?_⟩
  rintro (h4|rfl)
  ·exact h3 h4
  ·exact h.apart k1 k (hkk k1 h1) (by simp [keysO]) (λe=>hnd.1 (e▸h1)) b hb1 hbl
def I2:List Nat→List V→List (Nat×V)→List (Nat×V)
 |p::ps,v::vs,e=>I2 ps vs ((p,v)::e)
 |_,_,e=>e
theorem Td {β:A6} {E:Nat→Prop} {w:World}:∀ (ps:List Nat) (vals:List Value) (args:List V) (env:List (Nat×V)) (tmps:Array Value),ps.length=vals.length→vals.length=args.length→(∀ p,p∈ps→p<tmps.size) →
  (∀ (j:Nat) (v:Value) (x:V),vals[j]?=some v→args[j]?=some x→Ai β E w v x)→(∀ s,Ai β E w (tmps.getD s undef) (get env s)) →
  ((ps.zip vals).foldl (λt (p,v)=>t.setIfInBounds p v) tmps).size=tmps.size∧∀ s,Ai β E w (((ps.zip vals).foldl (λt (p,v)=>t.setIfInBounds p v) tmps).getD s undef) (get (I2 ps args env) s)
 |[],_,args,env,tmps,_,_,_,_,h=>by cases args<;>exact ⟨rfl,h⟩
 |p::ps,[],args,env,tmps,h1,_,_,_,_=>by simp at h1
 |p::ps,v::vals,[],env,tmps,_,h2,_,_,_=>by simp at h2
 |p::ps,v::vals,x::args,env,tmps,h1,h2,h3,h4,h5=>by
  have hp:p<tmps.size:=h3 p (by simp)
  obtain ⟨q1,q2⟩:=Td ps vals args ((p,x)::env) (tmps.setIfInBounds p v) (by simpa using h1) (by simpa using h2) (λq hq=>by simpa using h3 q (by simp [hq])) (λj u y hu hy=>h4 (j+1) u y (by simpa using hu) (by simpa using hy)) (λs=>by
   have:(tmps.setIfInBounds p v).getD s undef=if p=s then v else tmps.getD s undef:=by
    simp only [Array.getD_eq_getD_getElem?,Array.getElem?_setIfInBounds]
    split
    ·rename_i h;subst h;simp
    ·rfl
   rw [this]
   simp only [get]
   split
   ·exact h4 0 v x rfl rfl
   ·exact h5 s)
  simp only [List.zip_cons_cons,List.foldl_cons,I2]
  exact ⟨by rw [q1];simp,q2⟩
def Tj:Exit→Option Code
 |.ret=>some .ret
 |.exit id=>some (.exit id)
 |.goto t=>some (.goto t)
 |_=>none
def Ga (l:Nat) (rc:Nat→Loop) (O:Nat→List (Nat×Own)) (k:Nat):List (Nat×Own):=(0,.lp l (.loop (rc k)))::renO Nat.succ (O k)
def Sf (l:Nat) (β:A6):A6
 |0=>some (.pointer (some ⟨l,0,none⟩))
 |n+1=>β n
def Ht (own:List (Nat×Own)) (β:A6):A6:=λn=>if n∈keysO own then β (n+1) else none
def Ui (l:Nat) (own:List (Nat×Own)) (β:A6):A6:=Sf l λn=>if n∈keysO own then β n else none
theorem Dp {l:Nat} {rc:Nat→Loop} {O:Nat→List (Nat×Own)} {k:Nat}:keysO (Ga l rc O k)=0::(keysO (O k)).map Nat.succ:=by
 unfold Ga
 rw [←Ax];rfl
theorem cli_up {l:Nat} {rc:Nat→Loop} {NF:List Nat} {O:Nat→List (Nat×Own)} (h:Ma NF O):Ma (0::NF.map Nat.succ) (Ga l rc O):=by
 refine ⟨λk=>?_,λk n hn=>?_,λk n hn=>?_⟩
 ·rw [Dp,List.nodup_cons]
  exact ⟨by simp,Dw (h.nodup k) λa b _ _ e=>Nat.succ.inj e⟩
 ·rw [Dp]
  unfold Ga at hn
  simp only [A4,Dj,List.mem_cons,List.mem_map] at hn ⊢
  rcases hn with rfl|⟨m,h1,rfl⟩
  ·exact .inl rfl
  ·exact .inr ⟨m,h.names k m h1,rfl⟩
 ·rw [Dp]
  simp only [List.mem_cons,List.mem_map] at hn ⊢
  rcases hn with rfl|⟨m,h1,rfl⟩
  ·exact .inl rfl
  ·exact .inr ⟨m,h.fx k m h1,rfl⟩
theorem ko {E0:Nat→Prop} {β:A6} {w:World} {own:List (Nat×Own)} {l:Nat} {r:Loop} (h:At (λb=>E0 b∨b=l) β w own) (hn:∀ n,n∈A4 own→n∈keysO own) (hl:w.heap[l]?=some (.loop r)) (hE:¬ E0 l) {β':A6} (h0:β' 0=some (.pointer (some ⟨l,0,none⟩)))
  (h1:∀ n,n∈keysO own→β' (n+1)=β n):At E0 β' w ((0,.lp l (.loop r))::renO Nat.succ own)∧Eo E0 β' ((0,.lp l (.loop r))::renO Nat.succ own)=Eo (λb=>E0 b∨b=l) β own:=by
 obtain ⟨g1,g2⟩:=h.ren (β':=β') (p:=Nat.succ) hn h1 (λa b _ _ e=>Nat.succ.inj e)
 exact ⟨g1.lpIn h0 hl (by rw [Ax];simp) hE,(Zt h0).trans g2⟩
theorem Vf {E0:Nat→Prop} {β:A6} {w:World} {own:List (Nat×Own)} {l:Nat} {r:Loop} (h:At E0 β w ((0,.lp l (.loop r))::renO Nat.succ own)) (hnd:(keysO own).Nodup) (hn:∀ n,n∈A4 own→n∈keysO own) :
  (β 0=some (.pointer (some ⟨l,0,none⟩))∧w.heap[l]?=some (.loop r))∧¬ E0 l∧At (λb=>E0 b∨b=l) (Ht own β) w own∧Eo (λb=>E0 b∨b=l) (Ht own β) own=Eo E0 β ((0,.lp l (.loop r))::renO Nat.succ own):=by
 obtain ⟨h1,h2,h3⟩:=h.lpOut
 obtain ⟨h4,h5⟩:=h3.unren (p:=Nat.succ) hnd (λa b _ _ e=>Nat.succ.inj e)
 obtain ⟨h6,h7⟩:=h4.restrict (β':=Ht own β) hn (λn hn=>if_pos hn)
 exact ⟨h1,h2,h6,h7.trans (h5.trans (Zt h1.1).symm)⟩
theorem rfn_ok {c:B3} (hrd:c.rd=none) {g:Operand} {ps:Array Tmp} {asg body:Code} {Q:Exit→Act→World→Prop} {gf:Nat} {caps:List V} {env0:List (Nat×V)} {NF:List Nat} {n T:Nat} {J:Option Code}
  {args:Nat→List V} {O O1:Nat→List (Nat×Own)} {env1:Nat→List (Nat×V)} (hcli:Ma NF O) (hcli1:Ma NF O1) (hfn:∀ n,n∈c.fn→n∈NF) (henv:∀ s n,n∈(get env0 s).names→n∈NF) (hcaps:A5 caps=[]) (hargs:∀ k,A5 (args k)=[])
  (hlen:∀ k,(args k).length=ps.size) (hps:∀ p,p∈ps.toList→p<c.nt) (hT:J=none→T=n) (hT':J≠none→0<T∧T≤n) (hI:L3 c.P gf caps args n)
  (hA:∀ k,k<T→∀ cB:B3,cB.P=c.P→cB.nt=c.nt→cB.fn=NF→cB.pk=(λ_ _=>False)→∀ β a w,Aa cB β ⟨I2 ps.toList (args k) env0,O k,keysO (O k)⟩ a w→asg.wpIn cB.F 0 cB.P (λe a' w'=>e=.normal∧∃ β',Aa cB β' ⟨env1 k,O1 k,keysO (O1 k)⟩ a' w') a w)
  (hB:∀ k,k<T→∀ cB:B3,cB.P=c.P→cB.nt=c.nt→cB.fn=NF→cB.pk=(λ_ _=>False)→∀ β a w,Aa cB β ⟨env1 k,O1 k,keysO (O1 k)⟩ a w →
   body.wpIn cB.F 0 cB.P (λe a' w'=>((e=.normal∧F7 T J.isSome k=true)∨(J≠none∧Tj e=J∧F7 T J.isSome k=false))∧∃ β',Aa cB β' ⟨[],O (k+1),keysO (O (k+1))⟩ a' w') a w)
  (hQ0:J=none→∀ β a w,Aa c β ⟨env0,O T,keysO (O T)⟩ a w→Q .normal a w) (hQ1:∀ cd,J=some cd→∀ β a w,Aa c β ⟨env0,O T,keysO (O T)⟩ a w→cd.wpIn c.F 0 c.P Q a w)
  {β:A6} {a:Act} {w:World} (H:Aa c β ⟨env0,O 0,keysO (O 0)⟩ a w) {x:X} (hx:cX g=some x) (hxv:evV ⟨env0,O 0,keysO (O 0)⟩ x=.fn (.func gf) [] caps) (hxs:evS true ⟨env0,O 0,keysO (O 0)⟩ x) :
  (Code.rangeFunc g ps asg body).wpIn c.F 0 c.P Q a w:=by
 have hv0:=Ad H hx hxs
 rw [hxv] at hv0
 obtain ⟨ca,hu,hcs,hcr⟩:∃ ca:Array Value,a.eval g=.func (.func gf) #[] ca∧ca.size=caps.length∧∀ (j:Nat) (v:Value) (x:V),ca[j]?=some v→caps[j]?=some x→Ai β (Eo c.E0 β (O 0)) w v x:=by
  generalize a.eval g=u at *
  cases hv0 with
  |fn _ fi ca _ _ g1 g2 r1 r2=>exact ⟨ca,by rw [Array.eq_empty_of_size_eq_zero g1],g2,r2⟩
 have hro:c.F.round=none:=hrd
 refine wpIn_rangeFunc λfn _=>?_
 rw [hro]
 obtain ⟨rec,hrec⟩:∃ rec:LoopState→Option Code→Loop,rec=λst pe=>{ state:=st,pending:=pe,fn,tmps:=a.tmps,params:=ps,assign:=asg,body,defers:=w.heap.size }:=⟨_,rfl⟩
 obtain ⟨wI,hwI⟩:∃ W1,(w.alloc (Obj.deferred (some []))).alloc (.loop (rec .ready none))=W1:=⟨_,rfl⟩
 obtain ⟨l,hl⟩:∃ l,w.heap.size+1=l:=⟨_,rfl⟩
 have hszI:wI.heap.size=w.heap.size+2:=by rw [←hwI];simp
 have hL1:wI.heap[l]?=some (.loop (rec .ready none)):=by
  rw [←hwI,←hl];have:=World.alloc_heap_new (w.alloc (Obj.deferred (some []))) (.loop (rec .ready none));rwa [World.size_alloc] at this
 have hD1:wI.heap[w.heap.size]?=some (Obj.deferred (some [])):=by
  rw [←hwI];exact (Below.heap_alloc _ _ _ (by simp)).trans (World.alloc_heap_new w _)
 have hkI:Aw (λ_=>False) w wI:=by
  rw [←hwI];exact (Df w _).trans (Df _ _)
 let rc:Nat→Loop:=λk=>if k<T∨J=none then rec .ready none else rec .done J
 let EI:Nat→Prop:=λb=>c.E0 b∨b=w.heap.size
 let βI:A6:=Sf l β
 let fx:List Nat:=0::NF.map Nat.succ
 have hElI:¬ EI l:=by
  rintro (h|h)
  ·have:=c.hE l h;have:=H.kp.size;omega
  ·omega
 have hgrow:At (λb=>EI b∨b=l) β wI (O 0):=H.own.grow hkI (by
  rintro b hb ((h|h)|h)
  ·exact h
  ·omega
  ·omega)
 have hT0:0<T∨J=none:=by
  cases hJ:J with
  |none=>exact .inr rfl
  |some cd=>exact .inl (hT' (by rw [hJ];simp)).1
 obtain ⟨hup,hupE⟩:=ko (β':=βI) (r:=rc 0) hgrow (hcli.names 0) (by simp only [rc,if_pos hT0];exact hL1) hElI rfl (λ_ _=>rfl)
 have hownI:∀ b,Co βI (Ga l rc O 0) b↔(b=l∨Co β (O 0) b):=λb=>by
  unfold Co
  rw [Dp]
  constructor
  ·rintro ⟨k,h1,h2⟩
   rcases List.mem_cons.1 h1 with rfl|h1
   ·simp [A6.blk,βI,Sf,B0] at h2;exact .inl h2.symm
   ·obtain ⟨m,h3,rfl⟩:=List.mem_map.1 h1
    exact .inr ⟨m,h3,h2⟩
  ·rintro (rfl|⟨m,h3,h2⟩)
   ·exact ⟨0,by simp,by simp [A6.blk,βI,Sf,B0]⟩
   ·exact ⟨m+1,List.mem_cons_of_mem _ (List.mem_map.2 ⟨m,h3,rfl⟩),h2⟩
 have hownlt:∀ b,Co β (O 0) b→b<w.heap.size:=λb ⟨m,h1,h2⟩=>(H.own.lt m h1 b h2).1
 have hlater:∀ (E0:Nat→Prop) (βt:A6) (wt:World) (j:Nat),Aw (Co βI (Ga l rc O 0)) wI wt→(∀ b,E0 b→b<wI.heap.size→EI b∨Co βI (Ga l rc O 0) b)→(∀ k,k∈keysO (Ga l rc O j)→∀ b,βt.blk k=some b→wI.heap.size≤b∨Co βI (Ga l rc O 0) b) →
   Le (Eo c.E0 β (O 0)) (Eo E0 βt (Ga l rc O j)) w wt:=λE0 βt wt j hk hE hb ad v h1 h2=>by
  have hlt:=ai h2
  have hno:¬ Co βI (Ga l rc O 0) ad.block:=λh=>by
   rcases (hownI _).1 h with h|⟨m,h3,h4⟩
   ·omega
   ·exact h1 (.inr ⟨m,h3,h4⟩)
  refine ⟨?_,(World.cell?_of_block (hk.block _ (by omega) hno)).trans ((World.cell?_of_block (hkI.block _ hlt (λh=>h))).trans h2)⟩
  rintro (h|⟨m,h3,h4⟩)
  ·rcases hE _ h (by omega) with (h|h)|h
   ·exact h1 (.inl h)
   ·omega
   ·exact hno h
  ·rcases hb m h3 _ h4 with h|h
   ·omega
   ·exact hno h
 have hdown:∀ (own:List (Nat×Own)) (βt:A6),(∀ n,n∈NF→n∈keysO own)→(∀ n,n∈fx→βt n=βI n)→∀ n,n∈NF→Ht own βt n=β n:=λown βt h1 h2 n hn=>by
  simp only [Ht,if_pos (h1 n hn)]
  exact h2 (n+1) (List.mem_cons_of_mem _ (List.mem_map.2 ⟨n,hn,rfl⟩))
 refine ⟨l,[{ target:=.collected w.heap.size,args:=#[] }],wI,{ target:=.fn (.func gf) ca,args:=#[.func (.yield l) #[] #[]] },wI,gf,#[.func (.yield l) #[] #[]]++ca,wI,?_,?_,λ_ _=>trivial,?_,λh=>by simp [B3.F,Fence.wide] at h,?_⟩
 ·rw [←hwI,hrec,←hl];exact run_enterLoop_outer _ _ _ _ _
 ·simp only [resolve,hu]
  simp [go_sem]
 ·have:=Ct (w:=wI) hI.1 (#[.func (.yield l) #[] #[]]++ca)
  simp only [invoke]
  exact this
 ·refine (callsIn_wide (n:=0-1)).2 ((hI.2 l EI (Co βI (Ga l rc O 0)) wI βI fx T J.isSome (Ga l rc O) ca (cli_up hcli) (λh=>hT (by simpa using h)) (λh=>hT' (by rintro rfl;simp at h)) ?_ rfl hup hcs ?_ ?_).mono ?_)
  ·rintro b (h|h)
   ·have:=c.hE b h;have:=H.kp.size;omega
   ·omega
  ·intro j v x hv hx2
   refine (hcr j v x hv hx2).lastsC ?_ λm hm=>?_
   ·exact hlater EI βI wI 0 (Aw.refl _ _) (λb h _=>.inl h) (λk hk b hb=>.inr ⟨k,hk,hb⟩)
   ·have:=Bz hx2 m hm;rw [hcaps] at this;cases this
  ·
   intro k hk E0 βt wt vals hE hEI hEw hK hblk hfx hvs hva hown
   obtain ⟨⟨hp0,hl0⟩,hEl,hown3,hE3⟩:=Vf hown (hcli.nodup k) (hcli.names k)
   have hrck:rc k=rec .ready none:=if_pos (.inl hk)
   rw [hrck] at hl0
   have hltl:l<wt.heap.size:=(Array.getElem?_eq_some_iff.1 hl0).1
   refine ⟨fn,_,asg,body,by have:=run_yield (P:=c.P) (args:=vals) hl0 (by rw [hrec];exact hvs.trans (hlen k));rw [hrec] at this;exact this,roundIn_of_wpIn trivial ?_⟩
   let cB:B3:={ P:=c.P,E0:=λb=>E0 b∨b=l,w0:=wt,L:=Co (Ht (O k) βt) (O k),nt:=c.nt,fn:=NF,fx:=Ht (O k) βt,rd:=some l,hE:=λb h=>h.elim (hE b) (λe=>e▸hltl) }
   have hrel:∀ s,Ai (Ht (O k) βt) (Eo (λb=>E0 b∨b=l) (Ht (O k) βt) (O k)) wt (a.tmps.getD s undef) (get env0 s):=λs=>by
    rw [hE3]
    exact (H.env s).lastsC (hlater E0 βt wt k hK hEw hblk) λm hm=>hdown (O k) βt (hcli.fx k) hfx m (henv s m hm)
   obtain ⟨hsz2,hrel2⟩:=Td ps.toList vals.toList (args k) env0 a.tmps (by simpa using ((hlen k).symm.trans hvs.symm)) (by simpa using hvs) (λp hp=>by have:=hps p hp;rw [←H.sz] at this;exact this) (λj v y hv hy=>(by
    rw [hE3]
    refine (hva j v y (by simpa using hv) hy).lasts (B5.refl _ _) λm hm=>?_
    have:=Bz hy m hm;rw [hargs k] at this;cases this)) hrel
   have hfold:((rec .ready none).params.zip vals).foldl (λtmps (t,a)=>tmps.setIfInBounds t a) (rec .ready none).tmps=(ps.toList.zip vals.toList).foldl (λt (p,v)=>t.setIfInBounds p v) a.tmps:=by
    rw [hrec]
    simp only
    rw [←Array.foldl_toList,Array.toList_zip]
   have HB:Aa cB (Ht (O k) βt) ⟨I2 ps.toList (args k) env0,O k,keysO (O k)⟩ { tmps:=((rec .ready none).params.zip vals).foldl (λtmps (t,a)=>tmps.setIfInBounds t a) (rec .ready none).tmps,defers:=[] } wt:=by
    rw [hfold]
    exact ⟨hsz2.trans H.sz,Lk.nil rfl,hrel2,hown3,λm hm b hb=>.inr ⟨m,hm,hb⟩,λm hm=>hm,λm hm=>if_neg hm,Aw.refl _ _,λm hm=>⟨hcli.fx k m hm,rfl⟩⟩
   rw [hrec] at HB
   refine wpIn_mono (hA k hk cB rfl rfl rfl rfl _ _ wt HB) ?_
   rintro e a1 w1 ⟨rfl,β1,H1⟩
   have hnl1:¬ cB.L l:=λ⟨m,h1,h2⟩=>(hown3.lt m h1 l h2).2 (.inr rfl)
   have hl1:w1.heap[l]?=some (.loop (rec .ready none)):=(H1.kp.block l hltl hnl1).trans hl0
   refine ⟨_,run_beginRound hl1 (by rw [hrec]),?_⟩
   have hll1:l<w1.heap.size:=(Array.getElem?_eq_some_iff.1 hl1).1
   have hno1:∀ m,m∈keysO (O1 k)→β1.blk m≠some l:=λm hm e=>(H1.own.lt m hm l e).2 (.inr rfl)
   have hl2:(w1.putObj l (.loop { rec .ready none with state:=.busy })).heap[l]?=some (.loop { rec .ready none with state:=.busy }):=World.putObj_heap_same hll1
   have hEb:∀ b,(E0 b∨b=l)→b<(w1.putObj l (.loop { rec .ready none with state:=.busy })).heap.size:=λb h=>by
    have:=cB.hE b h
    have h2:=H1.kp.size
    simp only [World.putObj_size]
    exact Nat.lt_of_lt_of_le this h2
   let cB2:B3:={ P:=c.P,E0:=λb=>E0 b∨b=l,w0:=w1.putObj l (.loop { rec .ready none with state:=.busy }),L:=Co β1 (O1 k),nt:=c.nt,fn:=NF,fx:=β1,rd:=some l,hE:=hEb }
   have H2:Aa cB2 β1 ⟨env1 k,O1 k,keysO (O1 k)⟩ a1 (w1.putObj l (.loop { rec .ready none with state:=.busy })):=
    ⟨H1.sz,by obtain ⟨m,m2,g1,g2,g3⟩:=H1.df;have:=g2.rd0 (by simp [cB]);obtain ⟨q1,q2⟩:=List.append_eq_nil_iff.1 this;rw [g1,q1,q2];exact Lk.nil rfl,λs=>(H1.env s).lastsC' (Eb _ hl1 (λ_ _ _=>by simp)) (A6.le.refl β1),H1.own.turn _ hl1 (λ_ _ _=>by simp) hno1,λm hm b hb=>.inr ⟨m,hm,hb⟩,H1.kn,H1.nm,Aw.refl _ _,λm hm=>⟨(H1.fx m hm).1,rfl⟩⟩
   refine wpIn_mono (hB k hk cB2 rfl rfl rfl rfl β1 a1 _ H2) ?_
   rintro e a3 w3 ⟨hcase,β3,H3⟩
   have hnl2:¬ cB2.L l:=λ⟨m,h1,h2⟩=>hno1 m h1 h2
   have hl3:w3.heap[l]?=some (.loop { rec .ready none with state:=.busy }):=(H3.kp.block l (by simp [cB2];exact hll1) hnl2).trans hl2
   have hll3:l<w3.heap.size:=(Array.getElem?_eq_some_iff.1 hl3).1
   have hno3:∀ m,m∈keysO (O (k+1))→β3.blk m≠some l:=λm hm e=>(H3.own.lt m hm l e).2 (.inr rfl)
   have hfin:∀ jump:Option Code,(jump=none∧F7 T J.isSome k=true)∨(J≠none∧jump=J∧F7 T J.isSome k=false)→∃ v w',(Instr.endRound l jump).run c.P w3=.ok v w'∧∃ β',Ending.returned v=.returned (.bool (F7 T J.isSome k))∧(∀ n,n∈fx→β' n=βt n)∧At E0 β' w' (Ga l rc O (k+1))∧Aw (Co βt (Ga l rc O k)) wt w' ∧
     (∀ m,m∈keysO (Ga l rc O (k+1))→∀ b,β'.blk m=some b→wt.heap.size≤b∨Co βt (Ga l rc O k) b):=by
    intro jump hj
    refine ⟨_,_,run_endRound (P:=c.P) jump hl3,Ui l (O (k+1)) β3,?_,?_,?_,?_,?_⟩
    ·rcases hj with ⟨rfl,h⟩|⟨h1,rfl,h2⟩
     ·rw [h];rfl
     ·rw [h2]
      cases jump with
      |none=>exact absurd rfl h1
      |some cd=>rfl
    ·intro m hm
     rcases List.mem_cons.1 hm with rfl|hm
     ·exact hp0.symm
     ·obtain ⟨q,hq,rfl⟩:=List.mem_map.1 hm
      simp only [Ui,Sf,if_pos (hcli.fx (k+1) q hq)]
      rw [(H3.fx q hq).2]
      show β1 q=_
      rw [(H1.fx q hq).2]
      show Ht (O k) βt q=_
      simp only [Ht,if_pos (hcli.fx k q hq)]
    ·have hrc1:({ rec .ready none with state:=if jump.isNone then .ready else .done,pending:=jump }:Loop)=rc (k+1):=by
      rcases hj with ⟨rfl,h⟩|⟨h1,rfl,h2⟩
      ·have:k+1<T∨J=none:=by
        simp only [F7,Bool.or_eq_true,decide_eq_true_eq,Bool.not_eq_true'] at h
        exact h.imp id (λh=>by simpa using h)
       simp only [rc,if_pos this]
       rw [hrec];rfl
      ·have:¬ (k+1<T∨jump=none):=by
        rintro (h|h)
        ·simp [F7,h] at h2
        ·exact h1 h
       simp only [rc,if_neg this]
       have h3:jump.isNone=false:=by
        cases jump with
        |none=>exact absurd rfl h1
        |some cd=>rfl
       rw [hrec,h3];rfl
     have hst:({ { rec .ready none with state:=LoopState.busy } with state:=if jump.isNone then .ready else .done,pending:=jump }:Loop)=rc (k+1):=hrc1
     rw [hst]
     exact (ko (β':=Ui l (O (k+1)) β3) (H3.own.turn (.loop (rc (k+1))) hl3 (λ_ _ _=>by simp) hno3) (hcli.names (k+1)) (World.putObj_heap_same hll3) hEl rfl (λq hq=>if_pos hq)).1
    ·have hLt:∀ b,cB.L b→Co βt (Ga l rc O k) b:=λb ⟨m,h1,h2⟩=>by
      refine ⟨m+1,by rw [Dp];exact List.mem_cons_of_mem _ (List.mem_map.2 ⟨m,h1,rfl⟩),?_⟩
      simp only [A6.blk,Ht,if_pos h1] at h2
      exact h2
     have hLl:Co βt (Ga l rc O k) l:=⟨0,by rw [Dp];simp,by simp [A6.blk,hp0,B0]⟩
     have k1:Aw (Co βt (Ga l rc O k)) wt w1:=H1.kp.mono hLt
     have k2:Aw (Co βt (Ga l rc O k)) w1 (w1.putObj l (.loop { rec .ready none with state:=.busy })):=Ik _ _ _ hLl
     have k3:Aw (Co βt (Ga l rc O k)) wt w3:=(k1.trans k2).trans' H3.kp λi hi ⟨m,h1,h2⟩=>by
      rcases H1.fr m h1 i h2 with h|h
      ·exact absurd h (Nat.not_le.2 hi)
      ·exact hLt i h
     exact k3.trans (Ik _ _ _ hLl)
    ·intro m hm b hb
     rw [Dp] at hm
     rcases List.mem_cons.1 hm with rfl|hm
     ·refine .inr ⟨0,by rw [Dp];simp,?_⟩
      simp only [A6.blk,hp0]
      exact hb
     ·obtain ⟨q,hq,rfl⟩:=List.mem_map.1 hm
      have hb3:β3.blk q=some b:=by
       simp only [A6.blk,Ui,Sf,if_pos hq] at hb
       exact hb
      rcases H3.fr q hq b hb3 with h|⟨m,h1,h2⟩
      ·refine .inl (Nat.le_trans H1.kp.size ?_)
       have h:(w1.putObj l (.loop { rec .ready none with state:=.busy })).heap.size≤b:=h
       rwa [World.putObj_size] at h
      ·rcases H1.fr m h1 b h2 with h|⟨m',h3,h4⟩
       ·exact .inl h
       ·refine .inr ⟨m'+1,by rw [Dp];exact List.mem_cons_of_mem _ (List.mem_map.2 ⟨m',h3,rfl⟩),?_⟩
        have h4:(Ht (O k) βt).blk m'=some b:=h4
        simp only [A6.blk,Ht,if_pos h3] at h4
        exact h4
   rcases hcase with ⟨rfl,hgo⟩|⟨hJ,hpe,hgo⟩
   ·exact hfin none (.inl ⟨rfl,hgo⟩)
   ·cases e with
    |normal=>exact absurd hpe.symm hJ
    |ret=>exact hfin (some .ret) (.inr ⟨hJ,hpe,hgo⟩)
    |exit id=>exact hfin (some (.exit id)) (.inr ⟨hJ,hpe,hgo⟩)
    |goto t=>exact hfin (some (.goto t)) (.inr ⟨hJ,hpe,hgo⟩)
    |panic ch=>exact absurd hpe.symm hJ
    |outgrown=>exact absurd hpe.symm hJ
  ·
   rintro e w' ⟨v,β',rfl,hfx',hown',hK',hblk'⟩
   obtain ⟨⟨hp0,hl0⟩,hEl,hown3,hE3⟩:=Vf hown' (hcli.nodup T) (hcli.names T)
   have hltl:l<w'.heap.size:=(Array.getElem?_eq_some_iff.1 hl0).1
   have hst:(rc T).state≠.busy∧(rc T).pending=J:=by
    by_cases h:T<T∨J=none
    ·simp only [rc,if_pos h]
     rw [hrec]
     exact ⟨by simp,(h.resolve_left (Nat.lt_irrefl T)).symm⟩
    ·simp only [rc,if_neg h]
     rw [hrec]
     exact ⟨by simp,rfl⟩
   refine ⟨J,w'.putObj l (.loop { rc T with state:=.exhausted }),(run_endLoop (P:=c.P) hl0 hst.1).trans (congrArg (λp=>Result.ok p (w'.putObj l (.loop { rc T with state:=.exhausted }))) hst.2),?_⟩
   have hLD:∀ b,Co βI (Ga l rc O 0) b→w'.heap.size=w'.heap.size→b≠w.heap.size:=λb h _ e=>by
    rcases (hownI b).1 h with h|h
    ·omega
    ·have:=hownlt b h;omega
   have hno3:∀ m,m∈keysO (O T)→(Ht (O T) β').blk m≠some l:=λm hm e=>(hown3.lt m hm l e).2 (.inr rfl)
   have HF:Aa c (Ht (O T) β') ⟨env0,O T,keysO (O T)⟩ { a with defers:=[{ target:=.collected w.heap.size,args:=#[] }]++a.defers } (w'.putObj l (.loop { rc T with state:=.exhausted })):=by
    have hEs:B5 (Eo (λb=>EI b∨b=l) (Ht (O T) β') (O T)) (Eo c.E0 (Ht (O T) β') (O T)) w' w':=λb _ h=>⟨λh2=>h (h2.imp (λh=>.inl (.inl h)) id),rfl⟩
    have hheap:∀ b,b<wI.heap.size→¬ Co βI (Ga l rc O 0) b→(w'.putObj l (.loop { rc T with state:=.exhausted })).heap[b]?=wI.heap[b]?:=λb hb hn=>(World.putObj_heap_other (λe=>hn ((hownI b).2 (.inl e)))).trans (hK'.block b hb hn)
    have hdfr:∀ b,w.heap[b]?=some (Obj.deferred (some []))→(w'.putObj l (.loop { rc T with state:=.exhausted })).heap[b]?=w.heap[b]?:=λb hb=>by
     have hlt:=(Array.getElem?_eq_some_iff.1 hb).1
     refine (hheap b (by omega) λh=>?_).trans (hkI.block b hlt (λh=>h))
     rcases (hownI b).1 h with h|⟨m,h1,h2⟩
     ·omega
     ·exact Ho H hb m h1 h2
    obtain ⟨md,md2,hmd1,hmd2,hmd3⟩:=H.df
    refine ⟨H.sz,⟨{ target:=.collected w.heap.size,args:=#[] }::md,md2,by simp only [hmd1,List.cons_append,List.nil_append],⟨λd hd=>?_,?_,λh=>absurd hrd h⟩,hmd3⟩,λs=>?_,?_,λm hm b hb=>?_,λm hm=>hm,λm hm=>if_neg hm,?_,λm hm=>?_⟩
    ·rcases List.mem_cons.1 hd with hd|hd
     ·refine ⟨w.heap.size,hd,H.kp.size,(hheap _ (by omega) λh=>hLD _ h rfl rfl).trans hD1⟩
     ·exact (hmd2.keep hdfr).ok d hd
    ·simp only [List.cons_append,List.map_cons,List.nodup_cons]
     refine ⟨λh=>?_,hmd2.nodup⟩
     obtain ⟨d,hd,e⟩:=List.mem_map.1 h
     obtain ⟨b,rfl,_,h3⟩:=hmd2.ok d hd
     have:=(Array.getElem?_eq_some_iff.1 h3).1
     simp only [Target.collected.injEq] at e
     omega
    ·refine Ai.lastsC' (Eb _ hl0 (λ_ _ _=>by simp)) (A6.le.refl _) ?_
     refine Ai.lasts' hEs (A6.le.refl _) ?_
     rw [hE3]
     exact (H.env s).lastsC (hlater EI β' w' T hK' (λb h _=>.inl h) hblk') λm hm=>hdown (O T) β' (hcli.fx T) hfx' m (henv s m hm)
    ·refine At.turn ?_ _ hl0 (λ_ _ _=>by simp) hno3
     exact hown3.grow ⟨rfl,rfl,rfl,Nat.le_refl _,λ_ _ _=>rfl⟩ (λb _ h=>.inl (.inl h))
    ·have hb':β'.blk (m+1)=some b:=by
      simp only [A6.blk,Ht,if_pos hm] at hb
      exact hb
     rcases hblk' (m+1) (by rw [Dp];exact List.mem_cons_of_mem _ (List.mem_map.2 ⟨m,hm,rfl⟩)) b hb' with h|h
     ·left;have:=H.kp.size;omega
     ·rcases (hownI b).1 h with h|⟨q,h1,h2⟩
      ·left;have:=H.kp.size;omega
      ·exact H.fr q h1 b h2
    ·refine (H.kp.trans' hkI (λ_ _ h=>h.elim)).trans' (hK'.trans' (Ik (L:=λb=>b=l) _ _ _ rfl) λi _ h=>(hownI i).2 (.inl h)) λi hi h=>?_
     rcases (hownI i).1 h with h|⟨q,h1,h2⟩
     ·have:=H.kp.size;omega
     ·exact (H.fr q h1 i h2).resolve_left (by omega)
    ·refine ⟨hcli.fx T m (hfn m hm),?_⟩
     rw [hdown (O T) β' (hcli.fx T) hfx' m (hfn m hm)]
     exact (H.fx m hm).2
   cases hJ:J with
   |none=>exact hQ0 hJ _ _ _ HF
   |some cd=>exact hQ1 cd hJ _ _ _ HF
end Go.Bx
end
section
namespace Go.Bx
open Go.RowKit
inductive C where
 |skip
 |reg (is:List I)
 |drw (anc:List Nat) (is:List I)
 |seq (a b:C)
 |cond (x:X) (a b:C)
 |block (id:Nat) (a:C)
 |loop (a:C)
 |exit (id:Nat)
 |scope (l:Nat) (a b:C)
 |rfn (x:X) (ps:List Nat) (a b:C)
 |ret
 |bad
def Ip:Code→Option Nat
 |.seq a b=>match Ip a with|some l=>some l|none=>Ip b
 |.label l=>some l
 |_=>none
def Yd (ops:Array Oper) (o:Oper):Option (Option (Nat×Bool)):=
 match o.guard with
 |none=>some none
 |some (j,want) =>
  match (ops[j]?).bind (·.dst) with
  |some s=>some (some (s,want))
  |none=>none
def Yq (P:Program) (nt:Nat) (ops:Array Oper) (o:Oper):Option I:=
 match sa P o,Yd ops o with
 |some q,some g=>if (o.dst.all λd=>decide (d<nt))=true∧(makes q=true→o.dst.isSome=true)∧(U1 q=true→o.dst=none) then some ⟨o.dst,g,q⟩ else none
 |_,_=>none
def Ks (P:Program) (nt:Nat) (ops:Array Oper):List Oper→Option (List I)
 |[]=>some []
 |o::l =>
  match Yq P nt ops o,Ks P nt ops l with
  |some i,some r=>some (i::r)
  |_,_=>none
def Av (P:Program) (nt:Nat):Nat→Code→Option C
 |0,_=>some .bad
 |n+1,code=>match code with
  |.skip=>some .skip
  |.region _ ops draw =>
   match Ks P nt ops ops.toList with
   |some is =>
    if draw=false then some (.reg is)
    else if P.follows .mixedOrders=true∧Vc ops (Region.before ops).toList=true∧Of is (Region.before ops).toList=true then some (.drw (Region.before ops).toList is) else none
   |none=>some .bad
  |.seq a b =>
   match Av P nt n a,Av P nt n b with
   |some a,some b=>some (.seq a b)
   |_,_=>none
  |.cond x a b =>
   match cX x,Av P nt n a,Av P nt n b with
   |some x,some a,some b=>some (.cond x a b)
   |_,_,_=>none
  |.block id a=>(Av P nt n a).map (.block (2*id))
  |.loop a=>(Av P nt n a).map .loop
  |.exit id=>some (.exit (2*id))
  |.ret=>some .ret
  |.label _=>some .skip
  |.goto l=>some (.exit (2*l+1))
  |.scope body =>
   match Ip body with
   |some l =>
    match findLabel body l with
    |some rest =>
     match Av P nt n body,Av P nt n rest with
     |some a,some b=>some (.scope (2*l+1) a b)
     |_,_=>none
    |none=>some .bad
   |none=>some .bad
  |.rangeFunc g ps asg body =>
   match cX g,Av P nt n asg,Av P nt n body with
   |some x,some a,some b=>if (ps.toList.all λp=>decide (p<nt))=true then some (.rfn x ps.toList a b) else none
   |_,_,_=>none
  |_=>some .bad
def Dg (P:Program) (nt:Nat) (code:Code):Option C:=Av P nt 64 code
inductive Ex where
 |nrm
 |exit (id:Nat)
 |ret
def G2:Ex→Option Code
 |.nrm=>none
 |.exit i=>some (if i % 2=0 then .exit (i / 2) else .goto (i / 2))
 |.ret=>some .ret
abbrev Cs:=Ex→St→Prop
def di (id:Nat) (K:Cs):Cs
 |.nrm,st=>K .nrm st
 |.exit i,st=>if i=id then K .nrm st else K (.exit i) st
 |.ret,st=>K .ret st
def Al {X:Type} (c:B3) (S:X→St) (p:X→Prop) (m:X→Nat) (x:X) (K:Cs):Cs
 |.nrm,st=>∃ x',p x'∧Wk c st (S x')∧m x'<m x
 |.exit i,st=>K (.exit i) st
 |.ret,st=>K .ret st
def Rr (l:Nat) (J:St→Prop) (K:Cs):Cs
 |.nrm,st=>K .nrm st
 |.exit i,st=>if i=l then J st else if i % 2=1 then False else K (.exit i) st
 |.ret,st=>K .ret st
def qr (c:B3) (env:List (Nat×V)) (O:List (Nat×Own)):Cs
 |.nrm,st=>Wk c st ⟨env,O,keysO O⟩
 |.exit _,_=>False
 |.ret,_=>False
def re (c:B3) (go:Bool) (J:Option Ex) (O:List (Nat×Own)):Cs
 |.nrm,st=>go=true∧Wk c st ⟨[],O,keysO O⟩
 |.exit i,st=>go=false∧J=some (.exit i)∧Wk c st ⟨[],O,keysO O⟩
 |.ret,st=>go=false∧J=some .ret∧Wk c st ⟨[],O,keysO O⟩
structure RfnO (c:B3) (env0:List (Nat×V)) (NF:List Nat) (n T:Nat) (J:Option Ex) (caps:List V) (args:Nat→List V) (O O1:Nat→List (Nat×Own)) (m:Nat):Prop where
 rd:c.rd=none
 cli:Ma NF O
 cli1:Ma NF O1
 fn:∀ n,n∈c.fn→n∈NF
 env:∀ s n,n∈(get env0 s).names→n∈NF
 capn:A5 caps=[]
 argn:∀ k,A5 (args k)=[]
 len:∀ k,(args k).length=m
 all:J=none→T=n
 stp:J≠none→0<T∧T≤n
 nrm:J≠some Ex.nrm
def wkK (c:B3) (K:Cs):Cs:=λe st=>∃ st',Wk c st st'∧K e st'
def B4 (c:B3) (code:C) (st:St) (K:Cs):Prop:=match code,st,K with
 |.skip,st,K=>K .nrm st
 |.reg is,st,K=>El c false is st [] (λ_ st'=>K .nrm st')
 |.drw anc is,st,K=>El c true is st [] (λlg st'=>Hw lg anc=true∧K .nrm st')
 |.seq a b,st,K=>B4 c a st (λe st'=>match e with|.nrm=>B4 c b st' K|.exit i=>K (.exit i) st'|.ret=>K .ret st')
 |.cond x a b,st,K =>
  match evV st x with
  |.d (.bool t)=>evS true st x∧(t=true→B4 c a st K)∧(t=false→B4 c b st K)
  |.d (.qb p q)=>evS true st x∧(p→B4 c a st K)∧(q→B4 c b st K)
  |_=>False
 |.block id a,st,K=>B4 c a st (di id K)
 |.loop a,st,K=>∃ (X:Type) (S:X→St) (p:X→Prop) (m:X→Nat),(∃ x,p x∧Wk c st (S x))∧∀ x,p x→B4 c a (S x) (Al c S p m x (wkK c K))
 |.exit id,st,K=>K (.exit id) st
 |.scope l a b,st,K=>∃ (X:Type) (S:X→St) (p:X→Prop) (m:X→Nat),B4 c a st (Rr l (λst=>∃ x,p x∧Wk c st (S x)) K)∧∀ x,p x→B4 c b (S x) (Rr l (λst=>∃ x',p x'∧Wk c st (S x')∧m x'<m x) K)
 |.rfn x ps a b,st,K=>∃ (gf:FuncId) (caps:List V) (env0:List (Nat×V)) (NF:List Nat) (n T:Nat) (J:Option Ex) (args:Nat→List V) (O O1:Nat→List (Nat×Own)) (env1:Nat→List (Nat×V)),
  Wk c st ⟨env0,O 0,keysO (O 0)⟩∧evV ⟨env0,O 0,keysO (O 0)⟩ x=.fn (.func gf) [] caps∧evS true ⟨env0,O 0,keysO (O 0)⟩ x∧RfnO c env0 NF n T J caps args O O1 ps.length∧L3 c.P gf caps args n ∧
  (∀ k,k<T→∀ cB:B3,cB.P=c.P→cB.nt=c.nt→cB.fn=NF→B4 cB a ⟨I2 ps (args k) env0,O k,keysO (O k)⟩ (qr cB (env1 k) (O1 k))∧B4 cB b ⟨env1 k,O1 k,keysO (O1 k)⟩ (re cB (F7 T J.isSome k) J (O (k+1)))) ∧
  (J=none→K .nrm ⟨env0,O T,keysO (O T)⟩)∧(∀ e,J=some e→K e ⟨env0,O T,keysO (O T)⟩)
 |.ret,st,K=>K .ret st
 |.bad,_,_=>False
def nrmK (K:Cs):List Lg→St→Prop:=λ_ st=>K .nrm st
def zz (anc:List Nat) (K:Cs):List Lg→St→Prop:=λlg st=>Hw lg anc=true∧K .nrm st
def tj (c:B3) (b:C) (K:Cs):Cs
 |.nrm,st=>B4 c b st K
 |.exit i,st=>K (.exit i) st
 |.ret,st=>K .ret st
section
variable {c:B3} {st:St} {K:Cs}
theorem vcC_skip:B4 c .skip st K=K .nrm st:=propext ⟨λh=>h,λh=>h⟩
theorem vcC_reg {is:List I}:B4 c (.reg is) st K=El c false is st [] (nrmK K):=propext ⟨λh=>h,λh=>h⟩
theorem vcC_drw {anc:List Nat} {is:List I}:B4 c (.drw anc is) st K=El c true is st [] (zz anc K):=propext ⟨λh=>h,λh=>h⟩
theorem nrmK_app {lg:List Lg}:nrmK K lg st=K .nrm st:=propext ⟨λh=>h,λh=>h⟩
theorem drwK_app {anc:List Nat} {lg:List Lg}:zz anc K lg st=(Hw lg anc=true∧K .nrm st):=propext ⟨λh=>h,λh=>h⟩
theorem vcC_seq {a b:C}:B4 c (.seq a b) st K=B4 c a st (tj c b K):=by
 simp only [B4]
 congr 1
 funext e st'
 cases e<;>rfl
theorem vcC_cond {x:X} {a b:C}:B4 c (.cond x a b) st K=(match evV st x with
  |.d (.bool t)=>evS true st x∧(t=true→B4 c a st K)∧(t=false→B4 c b st K)
  |.d (.qb p q)=>evS true st x∧(p→B4 c a st K)∧(q→B4 c b st K)
  |_=>False):=propext ⟨λh=>h,λh=>h⟩
theorem vcC_block {id:Nat} {a:C}:B4 c (.block id a) st K=B4 c a st (di id K):=propext ⟨λh=>h,λh=>h⟩
theorem vcC_exit {id:Nat}:B4 c (.exit id) st K=K (.exit id) st:=propext ⟨λh=>h,λh=>h⟩
theorem vcC_ret:B4 c .ret st K=K .ret st:=propext ⟨λh=>h,λh=>h⟩
theorem vcC_bad:B4 c .bad st K=False:=propext ⟨λh=>h,λh=>h⟩
theorem seqK_nrm {b:C}:tj c b K .nrm st=B4 c b st K:=propext ⟨λh=>h,λh=>h⟩
theorem seqK_exit {b:C} {i:Nat}:tj c b K (.exit i) st=K (.exit i) st:=propext ⟨λh=>h,λh=>h⟩
theorem seqK_ret {b:C}:tj c b K .ret st=K .ret st:=propext ⟨λh=>h,λh=>h⟩
theorem blkK_nrm {id:Nat}:di id K .nrm st=K .nrm st:=propext ⟨λh=>h,λh=>h⟩
theorem blkK_exit {id i:Nat}:di id K (.exit i) st=if i=id then K .nrm st else K (.exit i) st:=propext ⟨λh=>h,λh=>h⟩
theorem blkK_ret {id:Nat}:di id K .ret st=K .ret st:=propext ⟨λh=>h,λh=>h⟩
theorem nb {X:Type} {S:X→St} {p:X→Prop} {m:X→Nat} {x:X}:Al c S p m x K .nrm st=∃ x',p x'∧Wk c st (S x')∧m x'<m x:=propext ⟨λh=>h,λh=>h⟩
theorem lopK_exit {X:Type} {S:X→St} {p:X→Prop} {m:X→Nat} {x:X} {i:Nat}:Al c S p m x K (.exit i) st=K (.exit i) st:=propext ⟨λh=>h,λh=>h⟩
theorem lopK_ret {X:Type} {S:X→St} {p:X→Prop} {m:X→Nat} {x:X}:Al c S p m x K .ret st=K .ret st:=propext ⟨λh=>h,λh=>h⟩
theorem jmpK_nrm {l:Nat} {J:St→Prop}:Rr l J K .nrm st=K .nrm st:=propext ⟨λh=>h,λh=>h⟩
theorem jmpK_exit {l i:Nat} {J:St→Prop}:Rr l J K (.exit i) st=if i=l then J st else if i % 2=1 then False else K (.exit i) st:=propext ⟨λh=>h,λh=>h⟩
theorem jmpK_ret {l:Nat} {J:St→Prop}:Rr l J K .ret st=K .ret st:=propext ⟨λh=>h,λh=>h⟩
theorem Ry {l:Nat} {J:St→Prop} {K K':Cs} (hk:∀ e st,K e st→K' e st):∀ e st,Rr l J K e st→Rr l J K' e st:=by
 intro e st h
 cases e with
 |nrm=>exact hk _ _ h
 |exit i =>
  rw [jmpK_exit] at h ⊢
  split
  ·rename_i hi;rw [if_pos hi] at h;exact h
  ·rename_i hi
   rw [if_neg hi] at h
   split
   ·rename_i h2;rw [if_pos h2] at h;exact h
   ·rename_i h2;rw [if_neg h2] at h;exact hk _ _ h
 |ret=>exact hk _ _ h
theorem Qg:∀ {code:C} {st:St} {K K':Cs},(∀ e st,K e st→K' e st)→B4 c code st K→B4 c code st K':=by
 intro code
 induction code with
 |skip=>intro st K K' hk h;exact hk _ _ h
 |reg is=>intro st K K' hk h;exact Ie (λ_ st h=>hk _ st h) h
 |drw anc is=>intro st K K' hk h;exact Ie (λ_ st h=>⟨h.1,hk _ st h.2⟩) h
 |seq a b iha ihb =>
  intro st K K' hk h
  rw [vcC_seq] at h ⊢
  refine iha (λe st h=>?_) h
  cases e with
  |nrm=>exact ihb hk h
  |exit i=>exact hk _ _ h
  |ret=>exact hk _ _ h
 |cond x a b iha ihb =>
  intro st K K' hk h
  rw [vcC_cond] at h ⊢
  split at h
  ·exact ⟨h.1,λe=>iha hk (h.2.1 e),λe=>ihb hk (h.2.2 e)⟩
  ·exact ⟨h.1,λe=>iha hk (h.2.1 e),λe=>ihb hk (h.2.2 e)⟩
  ·exact h.elim
 |block id a ih =>
  intro st K K' hk h
  rw [vcC_block] at h ⊢
  refine ih (λe st h=>?_) h
  cases e with
  |nrm=>exact hk _ _ h
  |exit i =>
   rw [blkK_exit] at h ⊢
   split at h
   ·rename_i hi;rw [if_pos hi];exact hk _ _ h
   ·rename_i hi;rw [if_neg hi];exact hk _ _ h
  |ret=>exact hk _ _ h
 |loop a ih =>
  intro st K K' hk h
  obtain ⟨X,S,p,m,hx,h⟩:=h
  refine ⟨X,S,p,m,hx,λx hp=>ih (λe st h=>?_) (h x hp)⟩
  cases e with
  |nrm=>exact h
  |exit i=>obtain ⟨st',h1,h2⟩:=h;exact ⟨st',h1,hk _ _ h2⟩
  |ret=>obtain ⟨st',h1,h2⟩:=h;exact ⟨st',h1,hk _ _ h2⟩
 |exit id=>intro st K K' hk h;exact hk _ _ h
 |scope l a b iha ihb =>
  intro st K K' hk h
  obtain ⟨X,S,p,m,h1,h2⟩:=h
  exact ⟨X,S,p,m,iha (Ry hk) h1,λx hp=>ihb (Ry hk) (h2 x hp)⟩
 |rfn x ps a b _ _ =>
  intro st K K' hk h
  unfold B4 at h ⊢
  obtain ⟨gf,caps,env0,NF,n,T,J,args,O,O1,env1,h1,h2,h3,h4,h5,h6,h7,h8⟩:=h
  exact ⟨gf,caps,env0,NF,n,T,J,args,O,O1,env1,h1,h2,h3,h4,h5,h6,λe=>hk _ _ (h7 e),λe he=>hk _ _ (h8 e he)⟩
 |ret=>intro st K K' hk h;exact hk _ _ h
 |bad=>intro st K K' hk h;exact h.elim
theorem B4.loop {a:C} {X:Type} (S:X→St) (p:X→Prop) (m:X→Nat) (x0:X) (h0:p x0) (h1:Wk c st (S x0)) (h:∀ x,p x→B4 c a (S x) (Al c S p m x K)):B4 c (.loop a) st K:=
 ⟨X,S,p,m,⟨x0,h0,h1⟩,λx hp=>Qg (λe st h=>by
  cases e with
  |nrm=>exact h
  |exit i=>exact ⟨st,λβ f w H=>⟨β,H⟩,h⟩
  |ret=>exact ⟨st,λβ f w H=>⟨β,H⟩,h⟩) (h x hp)⟩
def Xz {X Y:Type} (c:B3) (S:X→St) (p:X→Prop) (m:X→Nat) (x:X) (id:Nat) (T:Y→St) (pT:Y→Prop) (K:Cs):Cs
 |.nrm,st=>∃ x',p x'∧Wk c st (S x')∧m x'<m x
 |.exit i,st=>if i=id then ∃ y,pT y∧Wk c st (T y) else K (.exit i) st
 |.ret,st=>K .ret st
theorem lopX_exit {X Y:Type} {S:X→St} {p:X→Prop} {m:X→Nat} {x:X} {id:Nat} {T:Y→St} {pT:Y→Prop} {i:Nat}:Xz c S p m x id T pT K (.exit i) st=if i=id then ∃ y,pT y∧Wk c st (T y) else K (.exit i) st:=propext ⟨λh=>h,λh=>h⟩
theorem lopX_ret {X Y:Type} {S:X→St} {p:X→Prop} {m:X→Nat} {x:X} {id:Nat} {T:Y→St} {pT:Y→Prop}:Xz c S p m x id T pT K .ret st=K .ret st:=propext ⟨λh=>h,λh=>h⟩
theorem B4.loopX {a:C} {id:Nat} {X Y:Type} (S:X→St) (p:X→Prop) (m:X→Nat) (x0:X) (T:Y→St) (pT:Y→Prop) (h0:p x0) (h1:Wk c st (S x0)) (h:∀ x,p x→B4 c a (S x) (Xz c S p m x id T pT K)) (hT:∀ y,pT y→K .nrm (T y)) :
  B4 c (.loop a) st (di id K):=
 ⟨X,S,p,m,⟨x0,h0,h1⟩,λx hp=>Qg (λe st h=>by
  cases e with
  |nrm=>exact h
  |exit i =>
   rw [lopX_exit] at h
   by_cases hi:i=id
   ·rw [if_pos hi] at h
    obtain ⟨y,h2,h3⟩:=h
    refine ⟨T y,h3,?_⟩
    rw [blkK_exit,if_pos hi]
    exact hT y h2
   ·rw [if_neg hi] at h
    refine ⟨st,λβ f w H=>⟨β,H⟩,?_⟩
    rw [blkK_exit,if_neg hi]
    exact h
  |ret=>exact ⟨st,λβ f w H=>⟨β,H⟩,h⟩) (h x hp)⟩
end
def PostC (c:B3) (K:Cs):Exit→Act→World→Prop:=λe a w=>∃ x,(match e with|.normal=>some Ex.nrm|.exit i=>some (.exit (2*i))|.goto l=>some (.exit (2*l+1))|.ret=>some .ret|_=>none)=some x∧∃ β st,K x st∧Aa c β st a w
def PanP (c:B3) (ch:List PanicEntry) (a:Act) (w:World):Prop:=∃ β st v x,ch=[{ v:=v,recovered:=false }]∧c.pk x st∧Aa c β st a w∧Ai β (Eo c.E0 β st.own) w v x
def Fl (c:B3) (K:Cs):Exit→Act→World→Prop:=λe a w=>PostC c K e a w∨∃ ch,e=.panic ch∧PanP c ch a w
theorem bu {c:B3} {ops:Array Oper} {o:Oper} {i:I} (h:Yq c.P c.nt ops o=some i):mf c ops o i:=by
 unfold Yq at h
 split at h
 ·rename_i q g hq hg
  split at h
  ·rename_i hh
   cases h
   obtain ⟨h1,h2,h3⟩:=hh
   refine ⟨rfl,λd hd=>?_,hq,h2,h3,?_⟩
   ·simp only at hd
    rw [hd] at h1
    simpa using h1
   ·unfold Yd at hg
    cases hgo:o.guard with
    |none=>simp [hgo] at hg;exact hg.symm
    |some jw =>
     obtain ⟨j,want⟩:=jw
     simp only [hgo] at hg
     split at hg
     ·rename_i s hs
      simp at hg
      exact ⟨s,hs,hg.symm⟩
     ·cases hg
  ·cases h
 ·cases h
theorem Gs {c:B3} {ops:Array Oper}:∀ {l:List Oper} {is:List I},Ks c.P c.nt ops l=some is→l.length=is.length∧∀ (j:Nat) (o:Oper) (i:I),l[j]?=some o→is[j]?=some i→mf c ops o i
 |[],is,h=>by simp [Ks] at h;subst h;simp
 |o::l,is,h=>by
  simp only [Ks] at h
  split at h
  ·rename_i i r h1 h2
   simp at h;subst h
   obtain ⟨e,hr⟩:=Gs h2
   refine ⟨by simp [e],λj o' i' ho hi=>?_⟩
   cases j with
   |zero=>simp at ho hi;subst ho;subst hi;exact bu h1
   |succ j=>simp at ho hi;exact hr j o' i' ho hi
  ·cases h
theorem Aa.drew {c:B3} {β:A6} {st:St} {a:Act} {w:World} (H:Aa c β st a w) (n:Nat):Aa c β st a { w with drawn:=n }:=by
 have hl:B5 (Eo c.E0 β st.own) (Eo c.E0 β st.own) w { w with drawn:=n }:=λb _ h=>⟨h,rfl⟩
 exact ⟨H.sz,H.df.keep (λ_ _=>rfl),λs=>(H.env s).lasts' hl (A6.le.refl β),⟨λk o h=>(H.own.ok k o h).lasts hl (A6.le.refl β) (λ_ _=>rfl),H.own.nodup,H.own.apart,H.own.lt⟩,H.fr,H.kn,H.nm,H.kp.trans ⟨rfl,rfl,rfl,Nat.le_refl _,λ_ _ _=>rfl⟩,H.fx⟩
theorem Pm {p:Nat→Prop}:(∃ n,p n)→∃ n,p n∧∀ m,p m→n≤m:=by
 rintro ⟨n,hn⟩
 induction n using Nat.strongRecOn with
 |_ n ih =>
  by_cases h:∃ m,m<n∧p m
  ·obtain ⟨m,h1,h2⟩:=h
   exact ih m h1 h2
  ·refine ⟨n,hn,λm hm=>?_⟩
   by_cases h3:m<n
   ·exact absurd ⟨m,h3,hm⟩ h
   ·omega
theorem Vu {P:Program} {b:Frame} {a:Act} {k:List Item} {cs:List Frame} {w:World} {c:Code}:step P (lone (b.atR a (.code (.scope c)::k)) cs w)=.next (lone (b.atR a (.code c::.inScope c::k)) cs w):=
 step_lone_go (by simp [stepG,stepG.exec,Frame.atR])
theorem Rh {P:Program} {b:Frame} {a:Act} {k:List Item} {cs:List Frame} {w:World} {c:Code}:step P (lone (b.atR a (.inScope c::k)) cs w)=.next (lone (b.atR a k) cs w):=
 step_lone_go (by simp [stepG,stepG.exec,Frame.atR])
def xn (l:Nat) (J:Act→World→Prop) (Q:Exit→Act→World→Prop):Exit→Act→World→Prop
 |.goto l',a,w=>l'=l∧J a w
 |e,a,w=>Q e a w
theorem Nj {F:Fence} {n:Nat} {P:Program} {a:Act} {w:World} {Q:Exit→Act→World→Prop} {c rest:Code} (l:Nat) (J:Act→World→Prop) (μ:Act→World→Nat) (hf:findLabel c l=some rest)
  (first:c.wpIn F n P (xn l J Q) a w)
  (pass:∀ a w,J a w→rest.wpIn F n P (xn l (λa' w'=>J a' w'∧μ a' w'<μ a w) Q) a w):(Code.scope c).wpIn F n P Q a w:=by
 intro b k cs hro hb hr
 have hg:gotoIn l (.inScope c::k)=some (.code rest::.inScope c::k):=by simp [gotoIn,hf]
 have hx:∀ id,exitTo id (.inScope c::k)=exitTo id k:=λid=>by simp [exitTo]
 have hi:∀ a w,StepsIn (Machine.fenced P F) P (lone (b.atR a (.inScope c::k)) cs w) (lone (b.atR a k) cs w):=λa w=>.one (fenced_calm hb hr rfl) Rh
 have key:∀ m a w,μ a w=m→J a w→∃ e a' w',Q e a' w'∧ArrivesIn (Machine.fenced P F) P (lone (b.atR a (.code rest::.inScope c::k)) cs w) b k cs e a' w':=by
  intro m
  induction m using Nat.strongRecOn with
  |_ m ih =>
   intro a w hn hJ
   obtain ⟨e,a₁,w₁,hq,harr⟩:=pass a w hJ b (.inScope c::k) cs hro hb hr
   cases e with
   |normal=>exact ⟨.normal,a₁,w₁,hq,StepsIn.trans harr (hi _ _)⟩
   |exit id=>exact ⟨.exit id,a₁,w₁,hq,λk' hk=>harr.1 k' (by rw [hx];exact hk),λhr' hk=>harr.2 hr' (by rw [hx];exact hk)⟩
   |goto l' =>
    obtain ⟨rfl,hJ',hlt⟩:=hq
    obtain ⟨e₂,a₂,w₂,hq₂,harr₂⟩:=ih _ (by omega) a₁ w₁ rfl hJ'
    exact ⟨e₂,a₂,w₂,hq₂,.of_steps (harr.1 _ hg) harr₂⟩
   |ret=>exact ⟨_,a₁,w₁,hq,harr⟩
   |panic ch=>exact ⟨_,a₁,w₁,hq,harr⟩
   |outgrown=>exact ⟨_,a₁,w₁,hq,harr⟩
 have h0:StepsIn (Machine.fenced P F) P (lone (b.atR a (.code (.scope c)::k)) cs w) (lone (b.atR a (.code c::.inScope c::k)) cs w):=.one (fenced_calm hb hr rfl) Vu
 obtain ⟨e,a₁,w₁,hq,harr⟩:=first b (.inScope c::k) cs hro hb hr
 cases e with
 |normal=>exact ⟨.normal,a₁,w₁,hq,StepsIn.trans h0 (StepsIn.trans harr (hi _ _))⟩
 |exit id=>exact ⟨.exit id,a₁,w₁,hq,.of_steps (e:=.exit id) h0 ⟨λk' hk=>harr.1 k' (by rw [hx];exact hk),λhr' hk=>harr.2 hr' (by rw [hx];exact hk)⟩⟩
 |goto l' =>
  obtain ⟨rfl,hJ'⟩:=hq
  obtain ⟨e₂,a₂,w₂,hq₂,harr₂⟩:=key _ a₁ w₁ rfl hJ'
  exact ⟨e₂,a₂,w₂,hq₂,.of_steps (StepsIn.trans h0 (harr.1 _ hg)) harr₂⟩
 |ret=>exact ⟨_,a₁,w₁,hq,.of_steps h0 harr⟩
 |panic ch=>exact ⟨_,a₁,w₁,hq,.of_steps h0 harr⟩
 |outgrown=>exact ⟨_,a₁,w₁,hq,.of_steps h0 harr⟩
theorem Ob {F:Fence} {m:Nat} {P:Program} {Q:Exit→Act→World→Prop} {a:Act} {w:World} {c:Code} (I:Nat→Act→World→Prop) (n₀:Nat) (h₀:I n₀ a w)
  (round:∀ n a w,I n a w→c.wpIn F m P (Exit.then (λa' w'=>∃ n',n'<n∧I n' a' w') Q) a w):(Code.loop c).wpIn F m P Q a w:=by
 refine wpIn_loop (λa w=>∃ n,I n a w) (λa w=>leastOf (λn=>I n a w)) ⟨n₀,h₀⟩ ?_
 intro a w hI
 refine wpIn_mono (round _ a w (leastOf_spec hI).1) ?_
 intro e a' w' hq
 cases e with
 |normal =>
  obtain ⟨n',hlt,hI'⟩:=hq
  exact show (∃ n,I n a' w')∧leastOf (λn=>I n a' w')<leastOf (λn=>I n a w) from ⟨⟨n',hI'⟩,Nat.lt_of_le_of_lt ((leastOf_spec ⟨n',hI'⟩).2 n' hI') hlt⟩
 |exit id=>exact hq
 |goto l=>exact hq
 |ret=>exact hq
 |panic ch=>exact hq
 |outgrown=>exact hq
theorem M0:∀ (n:Nat) {c:B3} {code:Code} {cc:C} {st:St} {K:Cs},Av c.P c.nt n code=some cc→B4 c cc st K→∀ β a w,Aa c β st a w→code.wpIn c.F 0 c.P (Fl c K) a w:=by
 intro n
 induction n with
 |zero=>intro c code cc st K hc h;simp [Av] at hc;subst hc;exact h.elim
 |succ n ih =>
 intro c code
 cases code with
 |skip =>
  intro cc st K hc h β a w H
  simp [Av] at hc;subst hc
  exact wpIn_skip (.inl ⟨.nrm,rfl,β,st,h,H⟩)
 |region id ops draw =>
  intro cc st K hc h β a w H
  simp only [Av] at hc
  split at hc
  ·rename_i is his
   obtain ⟨hl,hcmp⟩:=Gs his
   split at hc
   ·rename_i hd
    subst hd
    cases hc
    refine wpIn_region_list ?_
    exact sk (λst' hk β a w H'=>.inl ⟨.nrm,rfl,β,st',hk,H'⟩) (λst' x hk β a w v H' hv=>.inr ⟨_,rfl,β,st',v,x,rfl,hk,H',hv⟩) (C1 h) hl hcmp β a w H
   ·rename_i hd
    have hd:draw=true:=by simpa using hd
    subst hd
    split at hc
    ·rename_i hh
     cases hc
     obtain ⟨ss,st',hT,hk⟩:=C1 h
     simp only [List.nil_append] at hk
     refine wpIn_region_any hh.1 ?_
     have hr0:C6 (λj=>(Array.replicate ops.size false).getD j false) 0 ((is.map (·.dst)).zip ss) st=st:=by
      have:∀ (l:List (Option Nat×Stp)) (j:Nat),C6 (λj=>(Array.replicate ops.size false).getD j false) j l st=st:=by
       intro l
       induction l with
       |nil=>intro _;rfl
       |cons p l ih =>
        intro j
        obtain ⟨d,s⟩:=p
        simp only [C6]
        have:(Array.replicate ops.size false).getD j false=false:=by
         simp only [Array.getD_eq_getD_getElem?,Array.getElem?_replicate]
         split<;>rfl
        rw [if_neg (by rw [this];simp)]
        exact ih (j+1)
      exact this _ 0
     refine wp_any (c:=c) hT (by simpa using hl) (λj o i ho hi=>hcmp j o i (by simpa using ho) hi) hh.2.1 hh.2.2 hk.1 (λβ a w H'=>.inl ⟨.nrm,rfl,β,st',hk.2,H'⟩) H.own.nodup ops.size _ β a _ (by simp) ?_ ?_ (by rw [hr0];exact H.drew _)
     ·have:(List.range ops.size).countP (λj=>(Array.replicate ops.size false).getD j false)=0:=by
       rw [List.countP_eq_zero]
       intro j hj
       have:=List.mem_range.1 hj
       simp [this]
      omega
     ·intro j o ho hj
      have hjl:=(Array.getElem?_eq_some_iff.1 ho).1
      simp [hjl] at hj
    ·cases hc
  ·cases hc;exact h.elim
 |seq x y =>
  intro cc st K hc h β a w H
  simp only [Av] at hc
  split at hc
  ·rename_i x' y' h1 h2
   cases hc
   rw [vcC_seq] at h
   refine wpIn_seq (wpIn_mono (ih h1 h β a w H) ?_)
   rintro e a' w' (⟨ex,he,β',st',hk,H'⟩|⟨ch,rfl,hpan⟩)
   rotate_left
   ·exact .inr ⟨ch,rfl,hpan⟩
   cases e<;>simp at he<;>subst he
   ·exact ih h2 hk β' a' w' H'
   all_goals exact .inl ⟨_,rfl,β',st',hk,H'⟩
  ·cases hc
 |cond x a b =>
  intro cc st K hc h β ac w H
  simp only [Av] at hc
  split at hc
  ·rename_i x' a' b' hx h1 h2
   cases hc
   rw [vcC_cond] at h
   split at h
   ·rename_i t ht
    obtain ⟨hs,ht1,ht2⟩:=h
    have hv:=Ad H hx hs
    rw [ht] at hv
    refine wpIn_cond_split (Du hv) (λe=>ih h1 (ht1 e) β ac w H) (λe=>ih h2 (ht2 e) β ac w H)
   ·rename_i p q ht
    obtain ⟨hs,ht1,ht2⟩:=h
    have hv:=Ad H hx hs
    rw [ht] at hv
    obtain ⟨t,hv,e1,e2⟩:∃ t,ac.eval x=.bool t∧(t=true→p)∧(t=false→q):=by
     generalize ac.eval x=u at *
     cases hv with
     |d _ _ hv=>cases hv with|qb t _ _ e1 e2=>exact ⟨t,rfl,e1,e2⟩
    refine wpIn_cond_split hv (λe=>ih h1 (ht1 (e1 e)) β ac w H) (λe=>ih h2 (ht2 (e2 e)) β ac w H)
   ·exact h.elim
  ·cases hc
 |block id x =>
  intro cc st K hc h β a w H
  simp only [Av] at hc
  obtain ⟨x',h1,rfl⟩:=Option.map_eq_some_iff.1 hc
  rw [vcC_block] at h
  refine wpIn_block (wpIn_mono (ih h1 h β a w H) ?_)
  rintro e a' w' (⟨ex,he,β',st',hk,H'⟩|⟨ch,rfl,hpan⟩)
  rotate_left
  ·exact .inr ⟨ch,rfl,hpan⟩
  cases e<;>simp at he<;>subst he
  ·exact .inl ⟨_,rfl,β',st',hk,H'⟩
  ·rename_i i
   simp only [Exit.inBlock]
   rw [blkK_exit] at hk
   by_cases e:i=id
   ·rw [if_pos (by omega)] at hk
    rw [if_pos e]
    exact .inl ⟨_,rfl,β',st',hk,H'⟩
   ·rw [if_neg (by omega)] at hk
    rw [if_neg e]
    exact .inl ⟨_,rfl,β',st',hk,H'⟩
  ·rw [blkK_exit,if_neg (by omega)] at hk
   exact .inl ⟨_,rfl,β',st',hk,H'⟩
  ·exact .inl ⟨_,rfl,β',st',hk,H'⟩
 |loop x =>
  intro cc st K hc h β a w H
  simp only [Av] at hc
  obtain ⟨x',h1,rfl⟩:=Option.map_eq_some_iff.1 hc
  obtain ⟨X,S,p,m,⟨x0,hp0,hs0⟩,hr⟩:=h
  obtain ⟨β0,H0⟩:=hs0 β a w H
  refine Ob (λn a w=>∃ x β,m x=n∧p x∧Aa c β (S x) a w) (m x0) ⟨x0,β0,rfl,hp0,H0⟩ ?_
  rintro n a w ⟨x,βx,rfl,hpx,Hx⟩
  refine wpIn_mono (ih h1 (hr x hpx) βx a w Hx) ?_
  rintro e a' w' (⟨ex,he,β',st',hk,H'⟩|⟨ch,rfl,hpan⟩)
  rotate_left
  ·exact .inr ⟨ch,rfl,hpan⟩
  cases e<;>simp at he<;>subst he
  ·rw [nb] at hk
   obtain ⟨x1,hp1,hs1,hm1⟩:=hk
   obtain ⟨β1,H1⟩:=hs1 β' a' w' H'
   exact ⟨m x1,hm1,x1,β1,rfl,hp1,H1⟩
  all_goals
   obtain ⟨st2,hw,hk2⟩:=hk
   obtain ⟨β2,H2⟩:=hw β' a' w' H'
   exact .inl ⟨_,rfl,β2,st2,hk2,H2⟩
 |exit id =>
  intro cc st K hc h β a w H
  simp [Av] at hc;subst hc
  exact wpIn_exit (.inl ⟨_,rfl,β,st,h,H⟩)
 |ret =>
  intro cc st K hc h β a w H
  simp [Av] at hc;subst hc
  exact wpIn_ret (.inl ⟨_,rfl,β,st,h,H⟩)
 |rangeFunc g ps asg body =>
  intro cc st K hc h β a w H
  simp only [Av] at hc
  split at hc
  ·rename_i x a' b' hx h1 h2
   split at hc
   ·rename_i hps
    cases hc
    unfold B4 at h
    obtain ⟨gf,caps,env0,NF,n',T,J,args,O,O1,env1,hwk,hxv,hxs,hS,hI,hr,hK0,hK1⟩:=h
    obtain ⟨β0,H0⟩:=hwk β a w H
    have hJn:J.bind G2=none↔J=none:=by
     cases J with
     |none=>simp
     |some e =>
      cases e with
      |nrm=>exact absurd rfl hS.nrm
      |exit i=>simp [G2]
      |ret=>simp [G2]
    have hJs:(J.bind G2).isSome=J.isSome:=by
     cases J with
     |none=>rfl
     |some e =>
      cases e with
      |nrm=>exact absurd rfl hS.nrm
      |exit i=>rfl
      |ret=>rfl
    refine rfn_ok (J:=J.bind G2) (args:=args) (O:=O) (O1:=O1) (env1:=env1) hS.rd hS.cli hS.cli1 hS.fn hS.env hS.capn hS.argn (λk=>(hS.len k).trans (by simp)) (λp hp=>by simpa using List.all_eq_true.1 hps p hp) (λe=>hS.all (hJn.1 e)) (λe=>hS.stp (λh=>e (hJn.2 h))) hI ?_ ?_ ?_ ?_ H0 hx hxv hxs
    ·intro k hk cB g1 g2 g3 g4 β1 a1 w1 HB
     refine wpIn_mono (ih (c:=cB) (by rw [g1,g2];exact h1) (hr k hk cB g1 g2 g3).1 β1 a1 w1 HB) ?_
     rintro e a2 w2 (⟨ex,he,β2,st2,hk2,H2⟩|⟨ch,rfl,hpan⟩)
     rotate_left
     ·obtain ⟨_,_,_,_,_,hq,_⟩:=hpan;rw [g4] at hq;exact hq.elim
     cases e<;>simp at he<;>subst he
     ·obtain ⟨β3,H3⟩:=hk2 β2 a2 w2 H2
      exact ⟨rfl,β3,H3⟩
     all_goals exact hk2.elim
    ·intro k hk cB g1 g2 g3 g4 β1 a1 w1 HB
     refine wpIn_mono (ih (c:=cB) (by rw [g1,g2];exact h2) (hr k hk cB g1 g2 g3).2 β1 a1 w1 HB) ?_
     rintro e a2 w2 (⟨ex,he,β2,st2,hk2,H2⟩|⟨ch,rfl,hpan⟩)
     rotate_left
     ·obtain ⟨_,_,_,_,_,hq,_⟩:=hpan;rw [g4] at hq;exact hq.elim
     rw [hJs]
     cases e<;>simp at he<;>subst he
     ·obtain ⟨q1,q2⟩:=hk2
      obtain ⟨β3,H3⟩:=q2 β2 a2 w2 H2
      exact ⟨.inl ⟨rfl,q1⟩,β3,H3⟩
     ·obtain ⟨q1,rfl,q2⟩:=hk2
      obtain ⟨β3,H3⟩:=q2 β2 a2 w2 H2
      exact ⟨.inr ⟨by simp [G2],by simp [G2,Tj],q1⟩,β3,H3⟩
     ·obtain ⟨q1,rfl,q2⟩:=hk2
      obtain ⟨β3,H3⟩:=q2 β2 a2 w2 H2
      exact ⟨.inr ⟨by simp [G2],by simp [G2,Tj];omega,q1⟩,β3,H3⟩
     ·obtain ⟨q1,rfl,q2⟩:=hk2
      obtain ⟨β3,H3⟩:=q2 β2 a2 w2 H2
      exact ⟨.inr ⟨by simp [G2],by simp [G2,Tj],q1⟩,β3,H3⟩
    ·intro e β1 a1 w1 H1
     exact .inl ⟨.nrm,rfl,β1,_,hK0 (hJn.1 e),H1⟩
    ·intro cd e β1 a1 w1 H1
     cases hJ:J with
     |none=>rw [hJ] at e;cases e
     |some ex =>
      rw [hJ] at e
      have hk:=hK1 ex hJ
      cases ex with
      |nrm=>cases e
      |exit i =>
       simp only [Option.bind_some,G2] at e
       split at e
       ·rename_i hi
        cases e
        exact wpIn_exit (.inl ⟨_,rfl,β1,_,(by rw [show 2*(i / 2)=i by omega];exact hk),H1⟩)
       ·rename_i hi
        cases e
        exact wpIn_goto (.inl ⟨_,rfl,β1,_,(by rw [show 2*(i / 2)+1=i by omega];exact hk),H1⟩)
      |ret=>cases e;exact wpIn_ret (.inl ⟨_,rfl,β1,_,hk,H1⟩)
   ·cases hc
  ·cases hc
 |scope body =>
  intro cc st K hc h β a w H
  simp only [Av] at hc
  split at hc
  ·rename_i l hl
   split at hc
   ·rename_i rest hrest
    split at hc
    ·rename_i a' b' h1 h2
     cases hc
     obtain ⟨X,S,p,m,ha,hb⟩:=h
     let G:Act→World→Nat→Prop:=λac w n=>∃ x β,m x=n∧p x∧Aa c β (S x) ac w
     let μ:Act→World→Nat:=λac w=>open Classical in if hq:∃ n,G ac w n then Classical.choose (Pm hq) else 0
     have hμ:∀ ac w n,G ac w n→μ ac w≤n∧G ac w (μ ac w):=by
      intro ac w n hg
      have hq:∃ n,G ac w n:=⟨n,hg⟩
      simp only [μ,dif_pos hq]
      exact ⟨(Classical.choose_spec (Pm hq)).2 n hg,(Classical.choose_spec (Pm hq)).1⟩
     refine Nj l (λac w=>∃ n,G ac w n) μ hrest (wpIn_mono (ih h1 ha β a w H) ?_) ?_
     ·rintro e a' w' (⟨ex,he,β',st',hk,H'⟩|⟨ch,rfl,hpan⟩)
      rotate_left
      ·exact .inr ⟨ch,rfl,hpan⟩
      cases e<;>simp at he<;>subst he
      ·exact .inl ⟨_,rfl,β',st',hk,H'⟩
      ·rw [jmpK_exit,if_neg (by omega),if_neg (by omega)] at hk
       exact .inl ⟨_,rfl,β',st',hk,H'⟩
      ·rename_i l'
       rw [jmpK_exit] at hk
       by_cases e:l'=l
       ·rw [if_pos (by omega)] at hk
        obtain ⟨x,hp,hw⟩:=hk
        obtain ⟨β1,H1⟩:=hw β' a' w' H'
        exact ⟨e,m x,x,β1,rfl,hp,H1⟩
       ·rw [if_neg (by omega),if_pos (by omega)] at hk
        exact hk.elim
      ·exact .inl ⟨_,rfl,β',st',hk,H'⟩
     ·rintro a1 w1 ⟨n1,hg⟩
      obtain ⟨-,x,βx,hm,hp,Hx⟩:=hμ a1 w1 n1 hg
      refine wpIn_mono (ih h2 (hb x hp) βx a1 w1 Hx) ?_
      rintro e a' w' (⟨ex,he,β',st',hk,H'⟩|⟨ch,rfl,hpan⟩)
      rotate_left
      ·exact .inr ⟨ch,rfl,hpan⟩
      cases e<;>simp at he<;>subst he
      ·exact .inl ⟨_,rfl,β',st',hk,H'⟩
      ·rw [jmpK_exit,if_neg (by omega),if_neg (by omega)] at hk
       exact .inl ⟨_,rfl,β',st',hk,H'⟩
      ·rename_i l'
       rw [jmpK_exit] at hk
       by_cases e:l'=l
       ·rw [if_pos (by omega)] at hk
        obtain ⟨x2,hp2,hw,hlt⟩:=hk
        obtain ⟨β1,H1⟩:=hw β' a' w' H'
        have:=(hμ a' w' (m x2) ⟨x2,β1,rfl,hp2,H1⟩).1
        exact ⟨e,⟨m x2,x2,β1,rfl,hp2,H1⟩,by omega⟩
       ·rw [if_neg (by omega),if_pos (by omega)] at hk
        exact hk.elim
      ·exact .inl ⟨_,rfl,β',st',hk,H'⟩
    ·cases hc
   ·cases hc;exact h.elim
  ·cases hc;exact h.elim
 |label =>
  intro cc st K hc h β a w H
  simp [Av] at hc;subst hc
  exact wpIn_label (.inl ⟨.nrm,rfl,β,st,h,H⟩)
 |goto =>
  intro cc st K hc h β a w H
  simp [Av] at hc;subst hc
  exact wpIn_goto (.inl ⟨_,rfl,β,st,h,H⟩)
 |refuse=>intro cc st K hc h;simp [Av] at hc;subst hc;exact h.elim
theorem Ol {c:B3} {code:Code} {cc:C} {st:St} {K:Cs} (h:Dg c.P c.nt code=some cc) (hv:B4 c cc st K):∀ β a w,Aa c β st a w→code.wpIn c.F 0 c.P (Fl c K) a w:=M0 64 h hv
end Go.Bx
end
section
namespace Go.Bx
open Go.RowKit
def Ag (x y:V):Prop:=∀ β E w v,Ai β E w v x→Ai β E w v y
theorem Ag.refl (x:V):Ag x x:=λ_ _ _ _ h=>h
theorem Ag.un (x:V):Ag x .un:=λ_ _ _ _ _=>.un _
theorem Ag.trans {x y z:V} (h:Ag x y) (k:Ag y z):Ag x z:=λβ E w v hv=>k β E w v (h β E w v hv)
theorem Ag.eq {x y:V} (h:x=y):Ag x y:=h▸Ag.refl x
theorem Ag.int {k:IntKind} {a b:Int} (h:a=b):Ag (.d (.int k a)) (.d (.int k b)):=h▸Ag.refl _
theorem Ag.bool {a b:Bool} (h:a=b):Ag (.d (.bool a)) (.d (.bool b)):=h▸Ag.refl _
theorem Ag.sl {full full':Bool} {sz sz' n n':Nat} {f f':Nat→List D} (hn:n=n') (hz:0<n→sz=sz') (hb:full'=true→full=true) (hf:∀ i,i<n→f i=f' i):Ag (.d (.sl full sz n f)) (.d (.sl full' sz' n' f')):=by
 subst hn
 intro β E w v hv
 cases hv with
 |d _ _ hv =>
  refine .d _ _ ?_
  cases hv with
  |nil _ _ _ _=>exact .nil _ _ _ _
  |sl _ _ _ _ b off c g hc hfu hl hcell hrel =>
   rcases Nat.eq_zero_or_pos n with h0|h0
   ·subst h0
    exact .sl _ _ _ _ b off c g hc (λh=>hfu (hb h)) (λi hi=>by omega) (λi j hi=>by omega) (λi j hi=>by omega)
   ·have:=hz h0
    subst this
    exact .sl _ _ _ _ b off c g hc (λh=>hfu (hb h)) (λi hi=>by rw [←hf i hi];exact hl i hi) hcell (λi j hi hj x hx=>hrel i j hi hj x (by rw [hf i hi];exact hx))
theorem Ag.nil {full full':Bool} {sz sz' n:Nat} {f f':Nat→List D} (hn:n=0) (hb:full'=true→full=true):Ag (.d (.sl full sz n f)) (.d (.sl full' sz' 0 f')):=
 Ag.sl hn (λh=>by omega) hb (λi hi=>by omega)
theorem Ag.ag {xs ys:List V} (h:xs.length=ys.length) (hr:∀ (j:Nat) (x y:V),xs[j]?=some x→ys[j]?=some y→Ag x y):Ag (.ag xs) (.ag ys):=by
 intro β E w v hv
 cases hv with
 |ag arr _ h1 r1 =>
  refine .ag arr ys (h1.trans h) λj v y hv hy=>?_
  have hj:j<xs.length:=by have:=(Array.getElem?_eq_some_iff.1 hv).1;omega
  exact hr j xs[j] y (List.getElem?_eq_getElem hj) hy _ _ _ _ (r1 j v xs[j] hv (List.getElem?_eq_getElem hj))
theorem Ag.tup {xs ys:List V} (h:xs.length=ys.length) (hr:∀ (j:Nat) (x y:V),xs[j]?=some x→ys[j]?=some y→Ag x y):Ag (.tup xs) (.tup ys):=by
 intro β E w v hv
 cases hv with
 |tup arr _ h1 r1 =>
  refine .tup arr ys (h1.trans h) λj v y hv hy=>?_
  have hj:j<xs.length:=by have:=(Array.getElem?_eq_some_iff.1 hv).1;omega
  exact hr j xs[j] y (List.getElem?_eq_getElem hj) hy _ _ _ _ (r1 j v xs[j] hv (List.getElem?_eq_getElem hj))
def VsLe:List V→List V→Prop
 |[],[]=>True
 |x::xs,y::ys=>Ag x y∧VsLe xs ys
 |_,_=>False
theorem VsLe.get:∀ {xs ys:List V},VsLe xs ys→xs.length=ys.length∧∀ (j:Nat) (x y:V),xs[j]?=some x→ys[j]?=some y→Ag x y
 |[],[],_=>⟨rfl,λj x y h=>by simp at h⟩
 |x::xs,y::ys,h=>by
  obtain ⟨e,hr⟩:=VsLe.get h.2
  refine ⟨by simp [e],λj a b ha hb=>?_⟩
  cases j with
  |zero=>simp at ha hb;subst ha;subst hb;exact h.1
  |succ j=>simp at ha hb;exact hr j a b ha hb
 |[],_::_,h=>h.elim
 |_::_,[],h=>h.elim
theorem Ag.ags {xs ys:List V} (h:VsLe xs ys):Ag (.ag xs) (.ag ys):=Ag.ag (VsLe.get h).1 (VsLe.get h).2
theorem Ag.tups {xs ys:List V} (h:VsLe xs ys):Ag (.tup xs) (.tup ys):=Ag.tup (VsLe.get h).1 (VsLe.get h).2
def Bf (a b:Own):Prop:=∀ β E w k,C9 β E w k a→C9 β E w k b
theorem Bf.refl (a:Own):Bf a a:=λ_ _ _ _ h=>h
theorem Bf.eq {a b:Own} (h:a=b):Bf a b:=h▸Bf.refl a
theorem Bf.row {e sz n n':Nat} {f f':Nat→List D} (hn:n=n') (hf:∀ i,i<n→f i=f' i):Bf (.row e sz n f) (.row e sz n' f'):=by
 subst hn
 rintro β E w k ⟨v,xs,h1,h2,h3,h4⟩
 exact ⟨v,xs,h1,h2,λi hi=>by rw [←hf i hi];exact h3 i hi,λi j hi hj x hx=>h4 i j hi hj x (by rw [hf i hi];exact hx)⟩
theorem Bf.fix {xs ys:List V} (h:VsLe xs ys):Bf (.fix xs) (.fix ys):=by
 obtain ⟨hl,hr⟩:=VsLe.get h
 rintro β E w k ⟨b,arr,e,h1,h2,h3,h4⟩
 refine ⟨b,arr,e,h1,h2,h3.trans hl,λj v y hv hy=>?_⟩
 have hj:j<xs.length:=by have:=(Array.getElem?_eq_some_iff.1 hv).1;omega
 exact hr j xs[j] y (List.getElem?_eq_getElem hj) hy _ _ _ _ (h4 j v xs[j] hv (List.getElem?_eq_getElem hj))
def EnvLe (a:List (Nat×V)):List (Nat×V)→Prop
 |[]=>True
 |(s,y)::l=>Ag (get a s) y∧EnvLe a l
theorem EnvLe.get:∀ {a b:List (Nat×V)},EnvLe a b→∀ s,Ag (Go.Bx.get a s) (Go.Bx.get b s)
 |a,[],_,s=>Ag.un _
 |a,(s',y)::l,h,s=>by
  simp only [Go.Bx.get]
  split
  ·rename_i e;subst e;exact h.1
  ·exact EnvLe.get h.2 s
def OwnLe (a:List (Nat×Own)):List (Nat×Own)→Prop
 |[]=>True
 |(k,o)::l=>(∃ o',own? a k=some o'∧Bf o' o)∧OwnLe a l
theorem OwnLe.get:∀ {a b:List (Nat×Own)},OwnLe a b→∀ k o,(k,o)∈b→∃ o',own? a k=some o'∧Bf o' o
 |_,[],_,k,o,h=>by simp at h
 |a,(k',o')::l,h,k,o,hm=>by
  rcases List.mem_cons.1 hm with hm|hm
  ·simp at hm;obtain ⟨rfl,rfl⟩:=hm;exact h.1
  ·exact OwnLe.get h.2 k o hm
theorem Ai.forget {β β':A6} {E E':Nat→Prop} {w w':World} (hl:B5 E E' w w') {v:Value} {x:V} (h:Ai β E w v x) (hn:∀ k,k∈x.names→β' k=β k):Ai β' E' w' v x:=h.lasts hl hn
theorem Wk.mk0 {c:B3} {a b:St} (he:∀ s,Ag (Go.Bx.get a.env s) (Go.Bx.get b.env s)) (ho:OwnLe a.own b.own) (hnd:(keysO b.own).Nodup) (hk:∀ k,k∈keysO b.own→k∈b.nm) (hfx:∀ k,k∈c.fn→k∈b.nm)
  (hv:∀ s y,(s,y)∈b.env→∀ k,k∈y.names→k∈b.nm) (hov:∀ k o,(k,o)∈b.own→∀ j,j∈(match o with|.fix cs=>A5 cs|.lit _ _ _ cs=>A5 cs|.row _ _ _ _=>[]|.mp _ _=>[]|.lp _ _=>[])→j∈b.nm):Wk c a b:=by
 intro β f w H
 let β':A6:=λk=>if k∈b.nm then β k else none
 have hβ:∀ k,k∈b.nm→β' k=β k:=λk h=>if_pos h
 have hkeys:∀ k,k∈keysO b.own→k∈keysO a.own:=λk h=>by
  obtain ⟨o,ho'⟩:=Ba h
  obtain ⟨o',h1,_⟩:=OwnLe.get ho k o ho'
  exact Ab (Ah h1)
 have hblk:∀ k,k∈keysO b.own→β'.blk k=β.blk k:=λk h=>by simp only [A6.blk,hβ k (hk k h)]
 have hl:B5 (Eo c.E0 β a.own) (Eo c.E0 β' b.own) w w:=by
  intro x _ hx
  refine ⟨?_,rfl⟩
  rintro (h|⟨k,h1,h2⟩)
  ·exact hx (.inl h)
  ·rw [hblk k h1] at h2;exact hx (.inr ⟨k,hkeys k h1,h2⟩)
 have hgn:∀ s k,k∈(Go.Bx.get b.env s).names→k∈b.nm:=by
  intro s k
  have:∀ (l:List (Nat×V)),(∀ s y,(s,y)∈l→∀ k,k∈y.names→k∈b.nm)→k∈(Go.Bx.get l s).names→k∈b.nm:=by
   intro l
   induction l with
   |nil=>intro _ h;simp [Go.Bx.get,V.names] at h
   |cons p l ih =>
    obtain ⟨s',y⟩:=p
    intro hl h
    simp only [Go.Bx.get] at h
    split at h
    ·exact hl s' y (by simp) k h
    ·exact ih (λs y hm=>hl s y (by simp [hm])) h
  exact this b.env hv
 refine ⟨β',H.sz,H.df,λs=>?_,⟨λk o hm=>?_,hnd,?_,?_⟩,λk h x hx=>H.fr k (hkeys k h) x (by rw [←hblk k h];exact hx),hk,λk h=>if_neg h,H.kp,λk h=>⟨hfx k h,(hβ k (hfx k h)).trans (H.fx k h).2⟩⟩
 ·exact (he s _ _ _ _ (H.env s)).lasts hl (λk hk=>hβ k (hgn s k hk))
 ·obtain ⟨o',h1,h2⟩:=OwnLe.get ho k o hm
  have h3:=h2 _ _ _ _ (Bb H h1)
  have hkk:=hβ k (hk k (Ab hm))
  cases o with
  |fix cs =>
   obtain ⟨bb,arr,e,g1,g2,g3,g4⟩:=h3
   exact ⟨bb,arr,e,hkk.trans g1,g2,g3,λj v x hv' hx=>(g4 j v x hv' hx).lasts hl (λn hn=>hβ n (hov k _ hm n (Bz hx n hn)))⟩
  |row e sz n ff =>
   obtain ⟨v,xs,g1,g2,g3,g4⟩:=h3
   exact ⟨v,xs,hkk.trans g1,g2,g3,λi j hi hj x hx=>by obtain ⟨u,q1,q2⟩:=g4 i j hi hj x hx;exact ⟨u,q1,q2.lasts hl⟩⟩
  |lit e sz n cs =>
   obtain ⟨v0,xs,g1,g2,g3,g4⟩:=h3
   exact ⟨v0,xs,hkk.trans g1,g2,g3,λj v x hv' hx=>(g4 j v x hv' hx).lasts hl (λn hn=>hβ n (hov k _ hm n (Bz hx n hn)))⟩
  |mp z g =>
   obtain ⟨bb,es,cl,g1,g2,g3,g4,g5,g6⟩:=h3
   exact ⟨bb,es,cl,hkk.trans g1,g2,g3,g4,λi x n hi hx=>⟨(g5 i x n hi hx).1.lasts hl,(g5 i x n hi hx).2⟩,g6⟩
  |lp l r=>exact ⟨hkk.trans h3.1,h3.2⟩
 ·intro k k' h1 h2 hne x hx hx'
  rw [hblk k h1] at hx
  rw [hblk k' h2] at hx'
  exact H.own.apart k k' (hkeys k h1) (hkeys k' h2) hne x hx hx'
 ·intro k h1 x hx
  rw [hblk k h1] at hx
  exact H.own.lt k (hkeys k h1) x hx
theorem Wk.mk {c:B3} {a b:St} (he:EnvLe a.env b.env) (ho:OwnLe a.own b.own) (hnd:(keysO b.own).Nodup) (hk:∀ k,k∈keysO b.own→k∈b.nm) (hfx:∀ k,k∈c.fn→k∈b.nm)
  (hv:∀ s y,(s,y)∈b.env→∀ k,k∈y.names→k∈b.nm) (hov:∀ k o,(k,o)∈b.own→∀ j,j∈(match o with|.fix cs=>A5 cs|.lit _ _ _ cs=>A5 cs|.row _ _ _ _=>[]|.mp _ _=>[]|.lp _ _=>[])→j∈b.nm):Wk c a b:=Wk.mk0 (EnvLe.get he) ho hnd hk hfx hv hov
theorem Wk.refl (c:B3) (a:St):Wk c a a:=λβ _ _ H=>⟨β,H⟩
theorem Wk.trans {c:B3} {a b d:St} (h:Wk c a b) (k:Wk c b d):Wk c a d:=λβ f w H=>by
 obtain ⟨β',H'⟩:=h β f w H
 exact k β' f w H'
def Ez:List (Nat×V)→List Nat
 |[]=>[]
 |(_,v)::l=>v.names++Ez l
def Ff:List (Nat×Own)→List Nat
 |[]=>[]
 |(k,.fix cs)::l=>k::(A5 cs++Ff l)
 |(k,.lit _ _ _ cs)::l=>k::(A5 cs++Ff l)
 |(k,.row _ _ _ _)::l=>k::Ff l
 |(k,.mp _ _)::l=>k::Ff l
 |(k,.lp _ _)::l=>k::Ff l
def Hh:List Nat→Bool
 |[]=>true
 |k::l=>!l.contains k&&Hh l
theorem E1:∀ {l:List Nat},Hh l=true→l.Nodup
 |[],_=>by simp
 |k::l,h=>by
  simp only [Hh,Bool.and_eq_true,Bool.not_eq_true'] at h
  rw [List.nodup_cons]
  refine ⟨λhm=>?_,E1 h.2⟩
  have:l.contains k=true:=by simpa using hm
  rw [h.1] at this
  cases this
def V2 (fn:List Nat) (b:St):Bool:=fn.all (b.nm.contains ·)&&(Hh (keysO b.own)&&((Ez b.env).all (b.nm.contains ·)&&(Ff b.own).all (b.nm.contains ·)))
theorem Do:∀ {l:List (Nat×Own)} {k:Nat} {o:Own},(k,o)∈l→k∈Ff l∧∀ j,j∈(match o with|.fix cs=>A5 cs|.lit _ _ _ cs=>A5 cs|.row _ _ _ _=>[]|.mp _ _=>[]|.lp _ _=>[])→j∈Ff l
 |[],k,o,h=>by simp at h
 |(k',o')::l,k,o,h=>by
  rcases List.mem_cons.1 h with h|h
  ·simp at h
   obtain ⟨rfl,rfl⟩:=h
   cases o<;>simp only [Ff,List.mem_cons,List.mem_append,true_or,true_and]<;>intro j hj
   ·exact .inr (.inl hj)
   ·simp at hj
   ·exact .inr (.inl hj)
   ·simp at hj
   ·simp at hj
  ·obtain ⟨h1,h2⟩:=Do h
   cases o'<;>simp only [Ff,List.mem_cons,List.mem_append]
   ·exact ⟨.inr (.inr h1),λj hj=>.inr (.inr (h2 j hj))⟩
   ·exact ⟨.inr h1,λj hj=>.inr (h2 j hj)⟩
   ·exact ⟨.inr (.inr h1),λj hj=>.inr (.inr (h2 j hj))⟩
   ·exact ⟨.inr h1,λj hj=>.inr (h2 j hj)⟩
   ·exact ⟨.inr h1,λj hj=>.inr (h2 j hj)⟩
theorem Hg:∀ {l:List (Nat×V)} {s:Nat} {y:V},(s,y)∈l→∀ k,k∈y.names→k∈Ez l
 |[],s,y,h=>by simp at h
 |(s',y')::l,s,y,h=>λk hk=>by
  simp only [Ez,List.mem_append]
  rcases List.mem_cons.1 h with h|h
  ·simp at h;exact .inl (h.2▸hk)
  ·exact .inr (Hg h k hk)
theorem Wk.of {c:B3} {a b:St} (fn:List Nat) (hfn:c.fn=fn) (hB:V2 fn b=true) (he:EnvLe a.env b.env) (ho:OwnLe a.own b.own):Wk c a b:=by
 simp only [V2,Bool.and_eq_true,List.all_eq_true,List.contains_iff_mem] at hB
 obtain ⟨h1,h2,h3,h4⟩:=hB
 exact Wk.mk he ho (E1 h2) (λk hk=>by obtain ⟨o,ho'⟩:=Ba hk;exact h4 k (Do ho').1) (λk hk=>h1 k (hfn▸hk)) (λs y hm k hk=>h3 k (Hg hm k hk)) (λk o hm j hj=>h4 j ((Do hm).2 j hj))
theorem VLe_refl (x:V):Ag x x=True:=eq_true (Ag.refl x)
theorem OLe_refl (x:Own):Bf x x=True:=eq_true (Bf.refl x)
theorem Wk.row0 {c:B3} {a:St} {s k e sz:Nat} {full:Bool} {sz':Nat} {f:Nat→List D} {f':Nat→List D} (hs:get a.env s=.d (.sl full sz' 0 f)) (hfull:full=true) (hk:k∉a.nm) :
  Wk c a ⟨(s,.osl k)::a.env,setO a.own k (.row e sz 0 f'),k::a.nm⟩:=by
 intro β fr w H
 have hr:=H.env s
 rw [hs] at hr
 subst hfull
 generalize hu:fr.tmps.getD s undef=u at *
 have hform:∃ A,u=.slice A 0 0:=by
  cases hr with
  |d _ _ hr =>
   cases hr with
   |nil _ _ _ _=>exact ⟨_,rfl⟩
   |sl _ _ _ _ b off c g hc hf _ _ _=>have:=hf rfl;subst this;exact ⟨_,rfl⟩
 obtain ⟨A,rfl⟩:=hform
 obtain ⟨β',hβ,hb,H'⟩:=H.addOwn (w':=w) (k:=k) (val:=.slice A 0 0) (ow:=.row e sz 0 f') (Aw.refl _ w) hk (λb hb=>by cases A<;>simp [B0] at hb)
  (λβ' E' _ hb _=>⟨_,[],hb,⟨by simp,.inl ⟨⟨A,rfl⟩,rfl⟩⟩,λi hi=>by omega,λi j hi=>by omega⟩)
 refine ⟨β',H'.sz,H'.df,λs'=>?_,H'.own,H'.fr,H'.kn,H'.nm,H'.kp,H'.fx⟩
 simp only [get]
 split
 ·rename_i e';subst e';rw [hu];exact .osl _ _ hb rfl
 ·exact H'.env s'
theorem Wk.ren {c:B3} {a:St} {k k':Nat} {o:Own} {ss:List Nat} (ho:own? a.own k=some o) (hk:k'∉a.nm) (hs:∀ s,s∈ss→get a.env s=.osl k) :
  Wk c a ⟨(ss.map λs=>(s,V.osl k'))++a.env,setO (delO a.own k) k' o,k'::a.nm⟩:=by
 intro β fr w H
 have hok:=Bb H ho
 obtain ⟨v,hv⟩:=hok.key
 obtain ⟨β',hβ,hb,H'⟩:=H.replOwn (w':=w) (k0:=k) (k:=k') (val:=v) (ow:=o) (Ab (Ah ho)) hk (Aw.refl _ w) (λb hb=>.inl (by simp [A6.blk,hv,hb]))
  (λβ' E' hβ hb hl=>by
   cases o with
   |fix cs =>
    obtain ⟨bb,arr,e,g1,g2,g3,g4⟩:=hok
    rw [hv] at g1
    exact ⟨bb,arr,e,hb.trans g1,g2,g3,λj v x hv' hx=>(g4 j v x hv' hx).lasts' hl hβ⟩
   |row e sz n ff =>
    obtain ⟨v',xs,g1,g2,g3,g4⟩:=hok
    rw [hv] at g1;cases g1
    exact ⟨v,xs,hb,g2,g3,λi j hi hj x hx=>by obtain ⟨u,q1,q2⟩:=g4 i j hi hj x hx;exact ⟨u,q1,q2.lasts hl⟩⟩
   |lit e sz n cs =>
    obtain ⟨v',xs,g1,g2,g3,g4⟩:=hok
    rw [hv] at g1;cases g1
    exact ⟨v,xs,hb,g2,g3,λj v x hv' hx=>(g4 j v x hv' hx).lasts' hl hβ⟩
   |mp z g =>
    obtain ⟨bb,es,cl,g1,g2,g3,g4,g5,g6⟩:=hok
    rw [hv] at g1
    exact ⟨bb,es,cl,hb.trans g1,g2,g3,g4,λi x n hi hx=>⟨(g5 i x n hi hx).1.lasts hl,(g5 i x n hi hx).2⟩,g6⟩
   |lp l r=>exact ⟨hb.trans (hv.symm.trans hok.1),hok.2⟩)
 refine ⟨β',H'.sz,H'.df,λs'=>?_,H'.own,H'.fr,H'.kn,H'.nm,H'.kp,H'.fx⟩
 have:∀ (l:List Nat),(∀ s,s∈l→get a.env s=.osl k)→Ai β' (Eo c.E0 β' (setO (delO a.own k) k' o)) w (fr.tmps.getD s' undef) (get ((l.map λs=>(s,V.osl k'))++a.env) s'):=by
  intro l
  induction l with
  |nil=>intro _;exact H'.env s'
  |cons s l ih =>
   intro hl
   simp only [List.map_cons,List.cons_append,get]
   split
   ·rename_i e'
    subst e'
    have h1:=H.env s
    rw [hl s (by simp)] at h1
    generalize fr.tmps.getD s undef=u at *
    cases h1 with
    |osl _ _ h2 h3=>rw [hv] at h2;cases h2;exact .osl _ _ hb h3
   ·exact ih (λs hs=>hl s (by simp [hs]))
 exact this ss hs
mutual
def pubV (k:Nat) (x:D):V→V
 |.osl k'=>if k'=k then .d x else .osl k'
 |.ag cs=>.ag (pubL k x cs)
 |.tup cs=>.tup (pubL k x cs)
 |.un=>.un
 |.d y=>.d y
 |.mem cs=>.mem cs
 |.own k' off=>.own k' off
 |.osub k' sz lo n=>.osub k' sz lo n
 |.optr k' sz i off=>.optr k' sz i off
 |.fn f a b=>.fn f a b
 |.ifc t v=>.ifc t v
 |.gd c v=>.gd c v
def pubL (k:Nat) (x:D):List V→List V
 |[]=>[]
 |v::l=>pubV k x v::pubL k x l
end
def pubE (k:Nat) (x:D):List (Nat×V)→List (Nat×V)
 |[]=>[]
 |(s,v)::l=>(s,pubV k x v)::pubE k x l
def pubO (k:Nat) (x:D):List (Nat×Own)→List (Nat×Own)
 |[]=>[]
 |(k',.fix cs)::l=>(k',.fix (pubL k x cs))::pubO k x l
 |(k',.lit e sz n cs)::l=>(k',.lit e sz n (pubL k x cs))::pubO k x l
 |(k',.row e sz n f)::l=>(k',.row e sz n f)::pubO k x l
 |(k',.mp z g)::l=>(k',.mp z g)::pubO k x l
 |(k',.lp z g)::l=>(k',.lp z g)::pubO k x l
theorem Hc (k:Nat) (x:D) (l:List V):pubL k x l=l.map (pubV k x):=by
 induction l with
 |nil=>rfl
 |cons v l ih=>simp [pubL,ih]
def ya (k:Nat) (x:D):Own→Own
 |.fix cs=>.fix (pubL k x cs)
 |.lit e sz n cs=>.lit e sz n (pubL k x cs)
 |.row e sz n f=>.row e sz n f
 |.mp z g=>.mp z g
 |.lp z g=>.lp z g
theorem bm (k:Nat) (x:D) (l:List (Nat×Own)):pubO k x l=l.map λp=>(p.1,ya k x p.2):=by
 induction l with
 |nil=>rfl
 |cons p l ih =>
  obtain ⟨k',o⟩:=p
  cases o<;>simp [pubO,ya,ih]
theorem Ai.pub {β:A6} {E E':Nat→Prop} {w:World} {k:Nat} {x:D} (hl:B5 E E' w w) (hk:∀ u,β k=some u→Cg E' w u x) {v:Value} {y:V} (h:Ai β E w v y):Ai β E' w v (pubV k x y):=by
 induction h with
 |osl k' v h h1 =>
  simp only [pubV]
  split
  ·rename_i e;subst e;exact .d _ _ (hk _ h)
  ·exact .osl _ _ h h1
 |ag arr cs h1 r1 ih =>
  simp only [pubV,Hc]
  refine .ag _ _ (by simpa using h1) λj v y hv hy=>?_
  rw [List.getElem?_map] at hy
  obtain ⟨y0,hy0,rfl⟩:=Option.map_eq_some_iff.1 hy
  exact ih j v y0 hv hy0
 |tup arr cs h1 r1 ih =>
  simp only [pubV,Hc]
  refine .tup _ _ (by simpa using h1) λj v y hv hy=>?_
  rw [List.getElem?_map] at hy
  obtain ⟨y0,hy0,rfl⟩:=Option.map_eq_some_iff.1 hy
  exact ih j v y0 hv hy0
 |un v=>exact .un v
 |d v y h=>exact .d v y (h.lasts hl)
 |mem cs b off g hcell hrel=>exact (Ai.mem (β:=β) cs b off g hcell hrel).lasts' hl (A6.le.refl β)
 |own k' off b h=>exact .own k' off b h
 |osub k' sz lo n b m c a h h1 h2=>exact .osub k' sz lo n b m c a h h1 h2
 |osub0 k' sz A h=>exact .osub0 k' sz A h
 |optr k' sz i off b m c h=>exact .optr k' sz i off b m c h
 |fn f fi ca first cap h1 h2 r1 r2 _ _=>exact (Ai.fn (β:=β) f fi ca first cap h1 h2 r1 r2).lasts' hl (A6.le.refl β)
 |ifc t v y h _=>exact (Ai.ifc (β:=β) t v y h).lasts' hl (A6.le.refl β)
 |gd c v y h h' _=>exact (Ai.gd (β:=β) c v y h h').lasts' hl (A6.le.refl β)
theorem Wk.pub {c:B3} {a:St} (k:Nat) {e sz n:Nat} {f:Nat→List D} (ho:own? a.own k=some (.row e sz n f)):Wk c a ⟨pubE k (.sl false sz n f) a.env,pubO k (.sl false sz n f) (delO a.own k),a.nm⟩:=by
 intro β fr w H
 have hkk:=Ab (Ah ho)
 have hdel:=λk1=>Id (l:=a.own) (k:=k) H.own.nodup k1
 obtain ⟨v,xs,hv,hrow,hfl,hfr⟩:=Bb H ho
 have hkp:keysO (pubO k (.sl false sz n f) (delO a.own k))=keysO (delO a.own k):=by
  rw [bm];simp [keysO]
 have hEe:Eo c.E0 β (pubO k (.sl false sz n f) (delO a.own k))=Eo c.E0 β (delO a.own k):=by
  unfold Eo;rw [hkp]
 have hE:∀ x,Eo c.E0 β (delO a.own k) x→Eo c.E0 β a.own x:=by
  rintro x (h|⟨k1,h1,h2⟩)
  ·exact .inl h
  ·exact .inr ⟨k1,((hdel k1).1 h1).1,h2⟩
 have hl:B5 (Eo c.E0 β a.own) (Eo c.E0 β (delO a.own k)) w w:=λx _ hx=>⟨λh=>hx (hE x h),rfl⟩
 have hd:Cg (Eo c.E0 β (delO a.own k)) w v (.sl false sz n f):=by
  rcases hrow.2 with ⟨⟨A,rfl⟩,rfl⟩|⟨g,cap,cur,rfl,hc0,hh,hnc,hcm,hcs,htk⟩
  ·exact .nil _ _ _ _
  ·refine .sl _ _ _ _ g 0 cap (λi j=>cur.getD (i*sz+j) undef) hnc (λh=>by cases h) hfl (λi j hi hj=>⟨?_,?_⟩) (λi j hi hj x hx=>?_)
   ·rintro (h|⟨k1,h1,h2⟩)
    ·exact (H.own.lt k hkk g (by simp [A6.blk,hv,B0];omega)).2 h
    ·obtain ⟨h3,h4⟩:=(hdel k1).1 h1
     exact H.own.apart k1 k h3 hkk h4 g h2 (by simp [A6.blk,hv,B0];omega)
   ·have hlt:i*sz+j<n*sz:=by
     have:(i+1)*sz≤n*sz:=Nat.mul_le_mul_right _ hi
     rw [Nat.add_mul] at this;omega
    have hlt2:i*sz+j<cur.size:=by
     have:n*sz≤cap*sz:=Nat.mul_le_mul_right _ hnc
     omega
    rw [Nat.zero_add,cell_of_row w g _ cur e (0,0) hh]
    simp [hlt2]
   ·obtain ⟨u,q1,q2⟩:=hfr i j hi hj x hx
    have hlt:i*sz+j<n*sz:=by
     have:(i+1)*sz≤n*sz:=Nat.mul_le_mul_right _ hi
     rw [Nat.add_mul] at this;omega
    have:cur[i*sz+j]?=some u:=by
     rw [←q1,←htk,List.getElem?_take,if_pos hlt];simp
    simp only [Array.getD_eq_getD_getElem?,this,Option.getD_some]
    exact q2.lasts hl
 have hpub:∀ {u:Value} {y:V},Ai β (Eo c.E0 β a.own) w u y→Ai β (Eo c.E0 β (pubO k (.sl false sz n f) (delO a.own k))) w u (pubV k (.sl false sz n f) y):=λh=>by
  rw [hEe]
  exact h.pub hl (λu hu=>by rw [hv] at hu;cases hu;exact hd)
 refine ⟨β,H.sz,H.df,λs=>?_,⟨λk1 o1 h1=>?_,by rw [hkp];exact Eh H.own.nodup,λk1 k2 h1 h2=>H.own.apart k1 k2 ((hdel k1).1 (hkp▸h1)).1 ((hdel k2).1 (hkp▸h2)).1,λk1 h1=>H.own.lt k1 ((hdel k1).1 (hkp▸h1)).1⟩,λk1 h1=>H.fr k1 ((hdel k1).1 (hkp▸h1)).1,λk1 h1=>H.kn k1 ((hdel k1).1 (hkp▸h1)).1,H.nm,H.kp,H.fx⟩
 ·have:∀ (l:List (Nat×V)),get (pubE k (.sl false sz n f) l) s=pubV k (.sl false sz n f) (get l s):=by
   intro l
   induction l with
   |nil=>simp [pubE,get,pubV]
   |cons p l ih =>
    obtain ⟨s',y⟩:=p
    simp only [pubE,get]
    split
    ·rfl
    ·exact ih
  simp only [this]
  exact hpub (H.env s)
 ·rw [bm,List.mem_map] at h1
  obtain ⟨⟨k2,o2⟩,h2,h3⟩:=h1
  simp only [Prod.mk.injEq] at h3
  obtain ⟨rfl,rfl⟩:=h3
  have hok:=H.own.ok k2 o2 (Mn h2)
  cases o2 with
  |fix cs =>
   obtain ⟨b,arr,e',g1,g2,g3,g4⟩:=hok
   refine ⟨b,arr,e',g1,g2,by simpa [Hc] using g3,λj v x hv' hx=>?_⟩
   rw [Hc,List.getElem?_map] at hx
   obtain ⟨y,hy,rfl⟩:=Option.map_eq_some_iff.1 hx
   exact hpub (g4 j v y hv' hy)
  |row e' sz' n' ff=>rw [hEe];exact hok.lasts hl (A6.le.refl β) (λ_ _=>rfl)
  |mp z' g'=>rw [hEe];exact hok.lasts hl (A6.le.refl β) (λ_ _=>rfl)
  |lp z' g'=>rw [hEe];exact hok.lasts hl (A6.le.refl β) (λ_ _=>rfl)
  |lit e' sz' n' cs =>
   obtain ⟨v0,xs0,g1,g2,g3,g4⟩:=hok
   refine ⟨v0,xs0,g1,g2,by simpa [Hc] using g3,λj v x hv' hx=>?_⟩
   rw [Hc,List.getElem?_map] at hx
   obtain ⟨y,hy,rfl⟩:=Option.map_eq_some_iff.1 hx
   exact hpub (g4 j v y hv' hy)
theorem Aa.drop {c:B3} {β:A6} {a:St} {fr:Act} {w:World} (H:Aa c β a fr w) (k:Nat) {e sz n:Nat} {f:Nat→List D} (ho:own? a.own k=some (.row e sz n f)) :
  B5 (Eo c.E0 β a.own) (Eo c.E0 β (delO a.own k)) w w∧(∀ u,β k=some u→Cg (Eo c.E0 β (delO a.own k)) w u (.sl false sz n f))∧Aa c β ⟨a.env,delO a.own k,a.nm⟩ fr w:=by
 have hkk:=Ab (Ah ho)
 have hdel:=λk1=>Id (l:=a.own) (k:=k) H.own.nodup k1
 obtain ⟨v,xs,hv,hrow,hfl,hfr⟩:=Bb H ho
 have hE:∀ x,Eo c.E0 β (delO a.own k) x→Eo c.E0 β a.own x:=by
  rintro x (h|⟨k1,h1,h2⟩)
  ·exact .inl h
  ·exact .inr ⟨k1,((hdel k1).1 h1).1,h2⟩
 have hl:B5 (Eo c.E0 β a.own) (Eo c.E0 β (delO a.own k)) w w:=λx _ hx=>⟨λh=>hx (hE x h),rfl⟩
 have hd:Cg (Eo c.E0 β (delO a.own k)) w v (.sl false sz n f):=by
  rcases hrow.2 with ⟨⟨A,rfl⟩,rfl⟩|⟨g,cap,cur,rfl,hc0,hh,hnc,hcm,hcs,htk⟩
  ·exact .nil _ _ _ _
  ·refine .sl _ _ _ _ g 0 cap (λi j=>cur.getD (i*sz+j) undef) hnc (λh=>by cases h) hfl (λi j hi hj=>⟨?_,?_⟩) (λi j hi hj x hx=>?_)
   ·rintro (h|⟨k1,h1,h2⟩)
    ·exact (H.own.lt k hkk g (by simp [A6.blk,hv,B0];omega)).2 h
    ·obtain ⟨h3,h4⟩:=(hdel k1).1 h1
     exact H.own.apart k1 k h3 hkk h4 g h2 (by simp [A6.blk,hv,B0];omega)
   ·have hlt:i*sz+j<n*sz:=by
     have:(i+1)*sz≤n*sz:=Nat.mul_le_mul_right _ hi
     rw [Nat.add_mul] at this;omega
    have hlt2:i*sz+j<cur.size:=by
     have:n*sz≤cap*sz:=Nat.mul_le_mul_right _ hnc
     omega
    rw [Nat.zero_add,cell_of_row w g _ cur e (0,0) hh]
    simp [hlt2]
   ·obtain ⟨u,q1,q2⟩:=hfr i j hi hj x hx
    have hlt:i*sz+j<n*sz:=by
     have:(i+1)*sz≤n*sz:=Nat.mul_le_mul_right _ hi
     rw [Nat.add_mul] at this;omega
    have:cur[i*sz+j]?=some u:=by
     rw [←q1,←htk,List.getElem?_take,if_pos hlt];simp
    simp only [Array.getD_eq_getD_getElem?,this,Option.getD_some]
    exact q2.lasts hl
 refine ⟨hl,λu hu=>by rw [hv] at hu;cases hu;exact hd,H.sz,H.df,λs=>(H.env s).lasts' hl (A6.le.refl β),⟨λk1 o1 h1=>(H.own.ok k1 o1 (Mn h1)).lasts hl (A6.le.refl β) (λ_ _=>rfl),Eh H.own.nodup,λk1 k2 h1 h2=>H.own.apart k1 k2 ((hdel k1).1 h1).1 ((hdel k2).1 h2).1,λk1 h1=>H.own.lt k1 ((hdel k1).1 h1).1⟩,λk1 h1=>H.fr k1 ((hdel k1).1 h1).1,λk1 h1=>H.kn k1 ((hdel k1).1 h1).1,H.nm,H.kp,H.fx⟩
end Go.Bx
end
section
namespace Go.Bx
open Go.RowKit
inductive RV where
 |tmp (t:Nat)
 |cell (t sz:Nat) (agg:Bool)
def qe (tmps:Array Value):ResultVar→Sem Value
 |.tmp t=>Pure.pure (tmps.getD t undef)
 |.cell a t=>do loadVar t (←asAddr (tmps.getD a undef))
theorem Y5 (fn:Func) (tmps:Array Value):results fn tmps=(do
  let vs ←fn.results.mapM (qe tmps)
  Pure.pure (if h:vs.size=1 then vs[0] else .tuple vs)):=by
 unfold results
 congr 1
def yo (P:Program):ResultVar→Option RV
 |.tmp t=>some (.tmp t)
 |.cell a t =>
  match Hm P t,Hl P t with
  |some sz,some agg=>if agg=false→sz=1 then some (.cell a sz agg) else none
  |_,_=>none
def D2 (P:Program):List ResultVar→Option (List RV)
 |[]=>some []
 |r::l =>
  match yo P r,D2 P l with
  |some x,some xs=>some (x::xs)
  |_,_=>none
def resS (st:St):RV→Prop
 |.tmp _=>True
 |.cell t sz _ =>
  match get st.env t with
  |.own k off =>
   match own? st.own k with
   |some (.fix cs)=>off+sz≤cs.length
   |_=>False
  |_=>False
def resV (st:St):RV→V
 |.tmp t=>get st.env t
 |.cell t sz agg =>
  match get st.env t with
  |.own k off =>
   match own? st.own k with
   |some (.fix cs)=>cut agg cs off sz
   |_=>.un
  |_=>.un
def ressS (st:St):List RV→Prop
 |[]=>True
 |r::l=>resS st r∧ressS st l
def ressV (st:St):List RV→List V
 |[]=>[]
 |r::l=>resV st r::ressV st l
def retV (st:St) (rs:List RV):V:=
 match rs with
 |[r]=>resV st r
 |rs=>.tup (ressV st rs)
def Ci (c:B3) (rs:List RV) (res:V) (outs:List (Nat×Own)):Cs
 |.exit _,_=>False
 |.nrm,st=>∃ st1,Wk c st st1∧ressS st1 rs∧Ag (retV st1 rs) res∧OwnLe st1.own outs
 |.ret,st=>∃ st1,Wk c st st1∧ressS st1 rs∧Ag (retV st1 rs) res∧OwnLe st1.own outs
theorem Ci.mk {c:B3} {rs:List RV} {res:V} {outs:List (Nat×Own)} {st:St} (st1:St) (h:Wk c st st1) (h1:ressS st1 rs) (h2:Ag (retV st1 rs) res) (h3:OwnLe st1.own outs):Ci c rs res outs .ret st:=⟨st1,h,h1,h2,h3⟩
theorem Ci.mk' {c:B3} {rs:List RV} {res:V} {outs:List (Nat×Own)} {st:St} (st1:St) (h:Wk c st st1) (h1:ressS st1 rs) (h2:Ag (retV st1 rs) res) (h3:OwnLe st1.own outs):Ci c rs res outs .nrm st:=⟨st1,h,h1,h2,h3⟩
def initE:Nat→List V→List (Nat×V)
 |_,[]=>[]
 |n,v::l=>(n,v)::initE (n+1) l
theorem Gl:∀ (l:List V) (n s:Nat),get (initE n l) s=if n≤s then (match l[s-n]? with|some v=>v|none=>.un) else .un
 |[],n,s=>by simp [initE,get]
 |v::l,n,s=>by
  simp only [initE,get]
  by_cases h:n=s
  ·subst h;simp
  ·rw [if_neg h,Gl l (n+1) s]
   by_cases h2:n≤s
   ·rw [if_pos h2,if_pos (by omega),show s-n=(s-(n+1))+1 by omega]
    simp
   ·rw [if_neg h2,if_neg (by omega)]
section
variable {c:B3} {β:A6} {st:St} {a:Act} {w:World}
theorem zu (H:Aa c β st a w) {r:ResultVar} {x:RV} (hc:yo c.P r=some x) (hs:resS st x) :
  ∃ v,(qe a.tmps r).run c.P w=.ok v w∧Ai β (Eo c.E0 β st.own) w v (resV st x):=by
 unfold yo at hc
 split at hc
 ·rename_i t
  cases hc
  exact ⟨_,rfl,H.env t⟩
 ·rename_i ad t
  split at hc
  ·rename_i sz agg hz hag
   split at hc
   ·rename_i h1z
    cases hc
    simp only [resS] at hs
    simp only [resV,qe]
    have he:=H.env ad
    generalize a.tmps.getD ad undef=u at *
    generalize hg:get st.env ad=y at *
    cases y<;>simp only at hs
    rename_i k off
    split at hs
    ·rename_i cs ho
     simp only [ho]
     obtain ⟨b,arr,e,hb,hh,hzz,hr⟩:=Bb H ho
     cases he with
     |own _ _ b' hb' =>
      rw [hb] at hb'
      injection hb' with hb';injection hb' with hb';injection hb' with hb';injection hb' with hb'
      subst hb'
      have hcell:∀ j,j<sz→w.cell? ⟨b,off+j,none⟩=some (arr.getD (off+j) undef):=λj hj=>by
       rw [cell_of_row w b (off+j) arr e (0,0) hh]
       have:off+j<arr.size:=by omega
       simp [this]
      have hrun:=Fe (P:=c.P) hz hag h1z hcell
      refine ⟨(if agg then .agg ((List.range sz).map λj=>arr.getD (off+j) undef).toArray else arr.getD (off+0) undef),?_,?_⟩
      ·have:(Instr.loadAt t (.pointer (some ⟨b,off,none⟩)))=loadVar t ⟨b,off,none⟩:=rfl
       rw [this] at hrun
       simp only [asAddr,Sem.run_bind,Sem.run_pure,Result.andThen_ok]
       exact hrun
      ·cases agg with
       |true =>
        simp only [cut,if_true]
        rw [Gq,Gp]
        refine .ag _ _ (by simp;omega) λj v y hv hy=>?_
        rw [List.getElem?_take,List.getElem?_drop] at hy
        split at hy
        ·rename_i hj
         have hlt2:off+j<arr.size:=by omega
         simp [hj,hlt2] at hv
         exact hr (off+j) v y (by rw [Array.getElem?_eq_getElem hlt2];simp [hv]) hy
        ·cases hy
       |false =>
        simp only [cut,Bool.false_eq_true,if_false]
        have h1:=h1z rfl
        have hlt2:off<arr.size:=by omega
        have h0:cs[off]?=some cs[off]:=List.getElem?_eq_getElem (by omega)
        rw [E8 h0]
        exact hr off _ _ (by simp [Array.getElem?_eq_getElem hlt2]) h0
    ·exact hs.elim
   ·cases hc
  ·cases hc
theorem Z9 (H:Aa c β st a w):∀ {rs:List ResultVar} {xs:List RV},D2 c.P rs=some xs→ressS st xs →
    ∃ vs : List Value, (rs.mapM (qe a.tmps)).run c.P w = .ok vs w ∧
      vs.length=xs.length∧∀ (j:Nat) (v:Value) (x:V),vs[j]?=some v→(ressV st xs)[j]?=some x→Ai β (Eo c.E0 β st.own) w v x
  |[],xs,h,_=>by simp [D2] at h;subst h;exact ⟨[],by simp,rfl,λj v x hv=>by simp at hv⟩
  |r::rs,xs,h,hs=>by
    simp only [D2] at h
    split at h
    · rename_i x ys h1 h2
      simp at h;subst h
      obtain ⟨v,hv,hr⟩:=zu H h1 hs.1
      obtain ⟨vs,hvs,hl,hrs⟩:=Z9 H h2 hs.2
      refine ⟨v::vs,?_,by simp [hl],λj u y hu hy=>?_⟩
      · simp only [List.mapM_cons,Sem.run_bind,hv,Result.andThen_ok,hvs,Sem.run_pure]
      · cases j with
        |zero=>simp [ressV] at hu hy;subst hu;subst hy;exact hr
        |succ j=>simp [ressV] at hu hy;exact hrs j u y hu hy
    · cases h
theorem T3 (st:St):∀ (xs:List RV),(ressV st xs).length=xs.length
 |[]=>rfl
 |x::xs=>by simp [ressV,T3 st xs]
theorem Il (H:Aa c β st a w) {fn:Func} {xs:List RV} (hc:D2 c.P fn.results.toList=some xs) (hs:ressS st xs) :
  ∃ v,(results fn a.tmps).run c.P w=.ok v w∧Ai β (Eo c.E0 β st.own) w v (retV st xs):=by
 obtain ⟨vs,hvs,hl,hr⟩:=Z9 H hc hs
 have hm:(fn.results.mapM (qe a.tmps)).run c.P w=.ok vs.toArray w:=by
  rw [Array.mapM_eq_mapM_toList]
  simp only [Sem.run_map,hvs,Result.andThen_ok]
 have hrun:(results fn a.tmps).run c.P w=.ok (if h:vs.toArray.size=1 then vs.toArray[0] else .tuple vs.toArray) w:=by
  rw [Y5]
  simp only [Sem.run_bind,hm,Result.andThen_ok,Sem.run_pure]
 refine ⟨_,hrun,?_⟩
 match xs,vs,hl,hr with
 |[r],[v],_,hr =>
  simp only [List.size_toArray,List.length_singleton,dif_pos]
  exact hr 0 v _ rfl (by simp [ressV,retV])
 |[],[],_,_ =>
  simp only [List.size_toArray,List.length_nil,Nat.zero_ne_one,dif_neg,not_false_eq_true]
  exact .tup _ _ (by simp [ressV]) λj v x hv hx=>by simp at hv
 |r1::r2::rs,v1::v2::vs,hl,hr =>
  have h1:¬ (v1::v2::vs).toArray.size=1:=by simp
  rw [dif_neg h1]
  exact .tup _ _ (by simp [T3,ressV];simpa using hl) λj v x hv hx=>hr j v x (by simpa using hv) hx
end
def vcT (c:B3) (code:Code) (st:St) (K:Cs):Prop:=∀ β a w,Aa c β st a w→code.wpIn c.F 0 c.P (Fl c K) a w
theorem vcT.of {c:B3} {code:Code} {cc:C} {st:St} {K:Cs} (h:Dg c.P c.nt code=some cc) (hv:B4 c cc st K):vcT c code st K:=Ol h hv
theorem Wn {P:Program} {f:FuncId} {fn:Func} {code:Code} {rs:List RV} {args:List V} {ins outs:List (Nat×Own)} {res:V} {new:List Nat}
  (hf:P.funcs[f]?=some fn) (hok:In P f=true) (hb:fn.body=some code) (hrs:D2 P fn.results.toList=some rs) (hlen:args.length≤fn.ntmps)
  (hko:∀ k,k∈keysO outs→k∈keysO ins∨k∈new) (hno:∀ k,k∈new→k∈keysO outs) (hnd:(keysO outs).Nodup)
  (hnr:∀ k,k∈res.names++A4 outs→k∈A5 args++A4 ins∨k∈new)
  (h:∀ c:B3,c.P=P→c.nt=fn.ntmps→c.fn=A5 args++A4 ins→c.rd=none→vcT c code ⟨initE 0 args,ins,A5 args++A4 ins⟩ (Ci c rs res outs)):Aj P f args ins res outs new:=by
 refine ⟨hok,hko,hno,λE0 β w vals hE hsz hv hins hnn=>?_⟩
 let nm0:=A5 args++A4 ins
 let βc:A6:=λk=>if k∈nm0 then β k else none
 have hβc:∀ k,k∈nm0→βc k=β k:=λk hk=>if_pos hk
 have hkin:∀ k,k∈keysO ins→k∈nm0:=λk hk=>List.mem_append_right _ (F5 hk)
 have hblk:∀ k,k∈keysO ins→βc.blk k=β.blk k:=λk hk=>by simp only [A6.blk,hβc k (hkin k hk)]
 let c:B3:={ P:=P,E0:=E0,w0:=w,L:=Co β ins,nt:=fn.ntmps,fn:=nm0,fx:=βc,hE:=hE,rd:=none }
 have hEq:Eo E0 βc ins=Eo E0 β ins:=by
  funext b
  apply propext
  unfold Eo
  constructor
  ·rintro (h1|⟨k,h1,h2⟩)
   ·exact .inl h1
   ·exact .inr ⟨k,h1,by rw [←hblk k h1];exact h2⟩
  ·rintro (h1|⟨k,h1,h2⟩)
   ·exact .inl h1
   ·exact .inr ⟨k,h1,by rw [hblk k h1];exact h2⟩
 have hl0:B5 (Eo E0 β ins) (Eo E0 βc ins) w w:=by rw [hEq];exact B5.refl _ _
 have hsz2:(vals++Array.replicate (fn.ntmps-vals.size) undef).size=fn.ntmps:=by simp;omega
 have H:Aa c βc ⟨initE 0 args,ins,nm0⟩ { tmps:=vals++Array.replicate (fn.ntmps-vals.size) undef,defers:=[] } w:=by
  refine ⟨hsz2,Lk.nil rfl,λs=>?_,⟨λk o hk=>?_,hins.nodup,λk k' h1 h2 hne b h3 h4=>?_,λk hk b hb1=>?_⟩,λk hk b hb1=>?_,λk hk=>hkin k hk,λk hk=>if_neg hk,Aw.refl _ _,λk hk=>⟨hk,rfl⟩⟩
  ·rw [Gl,if_pos (Nat.zero_le _),Nat.sub_zero]
   cases ha:args[s]? with
   |none=>exact .un _
   |some x =>
    have hsl:s<vals.size:=by have:=(List.getElem?_eq_some_iff.1 ha).1;omega
    have hvs:vals[s]?=some vals[s]:=Array.getElem?_eq_getElem hsl
    have:(vals++Array.replicate (fn.ntmps-vals.size) undef).getD s undef=vals[s]:=by
     simp only [Array.getD_eq_getD_getElem?,Array.getElem?_append_left hsl,hvs,Option.getD_some]
    simp only
    rw [this]
    exact (hv s _ x hvs ha).lasts hl0 (λk hk=>hβc k (List.mem_append_left _ (Bz ha k hk)))
  ·exact (hins.ok k o hk).forget hl0 (hβc k (hkin k (Ab hk))) (λj hj=>hβc j (List.mem_append_right _ (D3 hk j hj))) (λ_ _=>rfl)
  ·rw [hblk k h1] at h3
   rw [hblk k' h2] at h4
   exact hins.apart k k' h1 h2 hne b h3 h4
  ·rw [hblk k hk] at hb1
   exact hins.lt k hk b hb1
  ·rw [hblk k hk] at hb1
   exact .inr ⟨k,hk,hb1⟩
 refine (callsIn_wide (n:=0)).1 (callsIn_of_wp_marks hf hb trivial (wpIn_mono (h c rfl rfl rfl rfl βc _ w H) ?_))
 rintro e a' w' (⟨ex,he,β1,st1,hk,H1⟩|⟨ch,rfl,hpan⟩)
 rotate_left
 ·obtain ⟨_,_,_,_,_,hq,_⟩:=hpan;exact hq.elim
 have fin:(∃ st2,Wk c st1 st2∧ressS st2 rs∧Ag (retV st2 rs) res∧OwnLe st2.own outs)→LeavesInM Fence.wide 0 P fn a'.tmps (λe w'=>∃ v β',e=.returned v∧β.le β'∧(∀ k,k∉new→β' k=β k)∧Ai β' (Eo E0 β' outs) w' v res∧At E0 β' w' outs∧Aw (Co β ins) w w' ∧
   (∀ k,k∈keysO outs→∀ b,β'.blk k=some b→w.heap.size≤b∨Co β ins b)) a'.defers .returning w':=by
  rintro ⟨st2,hs2,hrs2,hle2,hout⟩
  obtain ⟨β2,H2⟩:=hs2 β1 a' w' H1
  refine Gd (c:=c) rfl a'.defers rfl H2 λa' w' _ H2=>?_
  obtain ⟨v,hrun,hrel⟩:=Il H2 hrs hrs2
  obtain ⟨βo,hβo⟩:∃ b:A6,∀ k,b k=if k∈new then β2 k else β k:=⟨_,λ_=>rfl⟩
  refine ⟨v,hrun,v,βo,rfl,?_,λk hk=>(hβo k).trans (if_neg hk),?_⟩
  ·intro k u hu
   by_cases hk:k∈new
   ·rw [hnn k hk] at hu;cases hu
   ·exact ((hβo k).trans (if_neg hk)).trans hu
  have hfx:∀ k,k∈nm0→β2 k=β k:=λk hk=>by
   have:=(H2.fx k hk).2
   rw [this]
   exact hβc k hk
  have hb':∀ k,(k∈nm0∨k∈new)→βo k=β2 k:=λk hk=>by
   by_cases hn:k∈new
   ·exact (hβo k).trans (if_pos hn)
   ·exact ((hβo k).trans (if_neg hn)).trans (hfx k (hk.resolve_right hn)).symm
  have hkey:∀ k,k∈keysO outs→k∈keysO st2.own:=λk hk=>by
   obtain ⟨o,ho⟩:=Ba hk
   obtain ⟨o',h1,_⟩:=OwnLe.get hout k o ho
   exact Ab (Ah h1)
  have hko2:∀ k,k∈keysO outs→k∈nm0∨k∈new:=λk hk=>(hko k hk).imp (hkin k) id
  have hblk2:∀ k,k∈keysO outs→βo.blk k=β2.blk k:=λk hk=>by
   simp only [A6.blk]
   rw [hb' k (hko2 k hk)]
  have hlE:B5 (Eo E0 β2 st2.own) (Eo E0 βo outs) w' w':=by
   intro b _ h1
   refine ⟨?_,rfl⟩
   rintro (h2|⟨k,h2,h3⟩)
   ·exact h1 (.inl h2)
   ·rw [hblk2 k h2] at h3
    exact h1 (.inr ⟨k,hkey k h2,h3⟩)
  refine ⟨(hle2 _ _ _ _ hrel).lasts hlE (λk hk=>hb' k (hnr k (List.mem_append_left _ hk))),⟨λk o hk=>?_,hnd,λk k' h1 h2 hne b h3 h4=>?_,λk h1 b h3=>?_⟩,H2.kp,λk h1 b h3=>?_⟩
  ·obtain ⟨o',h1,h2⟩:=OwnLe.get hout k o hk
   exact (h2 _ _ _ _ (Bb H2 h1)).forget hlE (hb' k (hko2 k (Ab hk))) (λj hj=>hb' j (hnr j (List.mem_append_right _ (D3 hk j hj)))) (λ_ _=>rfl)
  ·rw [hblk2 k h1] at h3
   rw [hblk2 k' h2] at h4
   exact H2.own.apart k k' (hkey k h1) (hkey k' h2) hne b h3 h4
  ·rw [hblk2 k h1] at h3
   exact H2.own.lt k (hkey k h1) b h3
  ·rw [hblk2 k h1] at h3
   exact H2.fr k (hkey k h1) b h3
 cases e<;>simp at he<;>subst he
 ·exact fin hk
 ·exact hk.elim
 ·exact hk.elim
 ·exact fin hk
theorem K5 {P:Program} {f:FuncId} {fn:Func} {code:Code} {cc:C} {rs:List RV} {args:List V} {ins outs:List (Nat×Own)} {res:V} {new:List Nat}
  (hf:P.funcs[f]?=some fn) (hok:In P f=true) (hb:fn.body=some code) (hcc:Dg P fn.ntmps code=some cc) (hrs:D2 P fn.results.toList=some rs) (hlen:args.length≤fn.ntmps)
  (hko:∀ k,k∈keysO outs→k∈keysO ins∨k∈new) (hno:∀ k,k∈new→k∈keysO outs) (hnd:(keysO outs).Nodup)
  (hnr:∀ k,k∈res.names++A4 outs→k∈A5 args++A4 ins∨k∈new)
  (h:∀ c:B3,c.P=P→c.nt=fn.ntmps→c.fn=A5 args++A4 ins→c.rd=none→B4 c cc ⟨initE 0 args,ins,A5 args++A4 ins⟩ (Ci c rs res outs)):Aj P f args ins res outs new:=
 Wn hf hok hb hrs hlen hko hno hnd hnr λc h1 h2 h3 h4=>.of (by rw [h1,h2];exact hcc) (h c h1 h2 h3 h4)
theorem Qa {P:Program} {f:FuncId} {fn:Func} {code:Code} {cc:C} {rs:List RV} {args:List V} {ins outs:List (Nat×Own)} {res:V} {new:List Nat}
  (hf:P.funcs[f]?=some fn) (hok:In P f=true) (hb:fn.body=some code) (hcc:Dg P fn.ntmps code=some cc) (hrs:D2 P fn.results.toList=some rs) (hlen:args.length≤fn.ntmps)
  (hko:∀ k,k∈keysO outs→k∈keysO ins∨k∈new) (hno:∀ k,k∈new→k∈keysO outs) (hnd:(keysO outs).Nodup)
  (hnr:∀ k,k∈res.names++A4 outs→k∈A5 args++A4 ins∨k∈new)
  (h:∀ c:B3,c.P=P→c.nt=fn.ntmps→c.fn=A5 args++A4 ins→B4 c cc ⟨initE 0 args,ins,A5 args++A4 ins⟩ (Ci c rs res outs)):Aj P f args ins res outs new:=
 K5 hf hok hb hcc hrs hlen hko hno hnd hnr λc h1 h2 h3 _=>h c h1 h2 h3
theorem nj {P:Program} {f:FuncId} {fn:Func} {code:Code} {cc:C} {rs:List RV} {args:List V} {res:V} {nt:Nat}
  (hf:P.funcs[f]?=some fn) (hok:In P f=true) (hb:fn.body=some code) (hcc:Dg P fn.ntmps code=some cc) (hrs:D2 P fn.results.toList=some rs) (hnt:fn.ntmps=nt) (hlen:args.length≤nt)
  (hna:A5 args=[]) (hnr:res.names=[]) (h:∀ c:B3,c.P=P→c.fn=[]→B4 c cc ⟨initE 0 args,[],[]⟩ (Ci c rs res [])):Aj P f args [] res [] []:=by
 refine Qa hf hok hb hcc hrs (hnt▸hlen) (by simp [keysO]) (by simp) (by simp [keysO]) (by simp [hnr,A4]) ?_
 intro c h1 _ h2
 rw [hna] at h2 ⊢
 exact h c h1 h2
theorem ej {P:Program} {f:FuncId} {fn:Func} {code:Code} {cc:C} {rs:List RV} {args:List V} {res:V} {nt:Nat}
  (hf:P.funcs[f]?=some fn) (hok:In P f=true) (hb:fn.body=some code) (hcc:Dg P fn.ntmps code=some cc) (hrs:D2 P fn.results.toList=some rs) (hnt:fn.ntmps=nt) (hlen:args.length≤nt)
  (hna:A5 args=[]) (hnr:res.names=[]) (h:∀ c:B3,c.P=P→c.fn=[]→c.rd=none→B4 c cc ⟨initE 0 args,[],[]⟩ (Ci c rs res [])):Aj P f args [] res [] []:=by
 refine K5 hf hok hb hcc hrs (hnt▸hlen) (by simp [keysO]) (by simp) (by simp [keysO]) (by simp [hnr,A4]) ?_
 intro c h1 _ h2 h3
 rw [hna] at h2 ⊢
 exact h c h1 h2 h3
end Go.Bx
end
