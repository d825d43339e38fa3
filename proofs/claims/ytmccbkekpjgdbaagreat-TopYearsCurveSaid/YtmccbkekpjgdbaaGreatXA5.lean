import Derived.Test.YtmccbkekpjgdbaaGreatXA4
set_option linter.unusedSimpArgs false
set_option linter.unusedVariables false
section
namespace Go.Bx
open Go.RowKit
mutual
def pubFV (k:Nat) (ds:List D):V→V
 |.own k' off=>if k'=k then .mem (dropD ds off) else .own k' off
 |.ag cs=>.ag (pubFL k ds cs)
 |.tup cs=>.tup (pubFL k ds cs)
 |.un=>.un
 |.d y=>.d y
 |.mem cs=>.mem cs
 |.osl k'=>.osl k'
 |.osub k' sz lo n=>.osub k' sz lo n
 |.optr k' sz i off=>.optr k' sz i off
 |.fn f a b=>.fn f (pubFL k ds a) (pubFL k ds b)
 |.ifc t v=>.ifc t v
 |.gd c v=>.gd c v
def pubFL (k:Nat) (ds:List D):List V→List V
 |[]=>[]
 |v::l=>pubFV k ds v::pubFL k ds l
end
def pubFE (k:Nat) (ds:List D):List (Nat×V)→List (Nat×V)
 |[]=>[]
 |(s,v)::l=>(s,pubFV k ds v)::pubFE k ds l
def pubFO (k:Nat) (ds:List D):List (Nat×Own)→List (Nat×Own)
 |[]=>[]
 |(k',.fix cs)::l=>(k',.fix (pubFL k ds cs))::pubFO k ds l
 |(k',.lit e sz n cs)::l=>(k',.lit e sz n (pubFL k ds cs))::pubFO k ds l
 |(k',.row e sz n f)::l=>(k',.row e sz n f)::pubFO k ds l
 |(k',.mp z g)::l=>(k',.mp z g)::pubFO k ds l
 |(k',.lp z g)::l=>(k',.lp z g)::pubFO k ds l
theorem pubFL_eq (k:Nat) (x:List D) (l:List V):pubFL k x l=l.map (pubFV k x):=by
 induction l with
 |nil=>rfl
 |cons v l ih=>simp [pubFL,ih]
def pubFO1 (k:Nat) (x:List D):Own→Own
 |.fix cs=>.fix (pubFL k x cs)
 |.lit e sz n cs=>.lit e sz n (pubFL k x cs)
 |.row e sz n f=>.row e sz n f
 |.mp z g=>.mp z g
 |.lp z g=>.lp z g
theorem pubFO_eq (k:Nat) (x:List D) (l:List (Nat×Own)):pubFO k x l=l.map fun p=>(p.1,pubFO1 k x p.2):=by
 induction l with
 |nil=>rfl
 |cons p l ih =>
  obtain ⟨k',o⟩:=p
  cases o<;>simp [pubFO,pubFO1,ih]
theorem RelV.pubF {β:Names} {E E':Nat→Prop} {w:World} {k b:Nat} {ds:List D} (hl:Lasts E E' w w) (hb:β k=some (.pointer (some ⟨b,0,none⟩)))
  (hc:∀ j x,ds[j]?=some x→¬ E' b∧∃ v,w.cell? ⟨b,j,none⟩=some v∧RelD E' w v x) {v:Value} {y:V} (h:RelV β E w v y):RelV β E' w v (pubFV k ds y):=by
 induction h with
 |own k' off b' h =>
  simp only [pubFV]
  split
  ·rename_i e
   subst e
   rw [hb] at h
   injection h with h;injection h with h;injection h with h;injection h with h
   subst h
   rw [dropD_eq]
   refine .mem _ b off (fun j=>(w.cell? ⟨b,off+j,none⟩).getD undef) (fun j hj=>?_) (fun j x hx=>?_)
   ·rw [List.length_drop] at hj
    obtain ⟨h1,v,h2,-⟩:=hc (off+j) _ (List.getElem?_eq_getElem (by omega))
    exact ⟨h1,by rw [h2];rfl⟩
   ·rw [List.getElem?_drop] at hx
    obtain ⟨-,v,h2,h3⟩:=hc (off+j) _ hx
    rw [h2];exact h3
  ·exact .own k' off b' h
 |osl k' v h h1=>exact .osl _ _ h h1
 |ag arr cs h1 r1 ih =>
  simp only [pubFV,pubFL_eq]
  refine .ag _ _ (by simpa using h1) fun j v y hv hy=>?_
  rw [List.getElem?_map] at hy
  obtain ⟨y0,hy0,rfl⟩:=Option.map_eq_some_iff.1 hy
  exact ih j v y0 hv hy0
 |tup arr cs h1 r1 ih =>
  simp only [pubFV,pubFL_eq]
  refine .tup _ _ (by simpa using h1) fun j v y hv hy=>?_
  rw [List.getElem?_map] at hy
  obtain ⟨y0,hy0,rfl⟩:=Option.map_eq_some_iff.1 hy
  exact ih j v y0 hv hy0
 |un v=>exact .un v
 |d v y h=>exact .d v y (h.lasts hl)
 |mem cs b off g hcell hrel=>exact (RelV.mem (β:=β) cs b off g hcell hrel).lasts' hl (Names.le.refl β)
 |osub k' sz lo n b m c a h h1 h2=>exact .osub k' sz lo n b m c a h h1 h2
 |osub0 k' sz A h=>exact .osub0 k' sz A h
 |optr k' sz i off b m c h=>exact .optr k' sz i off b m c h
 |fn f fi ca first cap h1 h2 r1 r2 ih1 ih2 =>
  simp only [pubFV,pubFL_eq]
  refine .fn f fi ca _ _ (by simpa using h1) (by simpa using h2) (fun j v y hv hy=>?_) (fun j v y hv hy=>?_)
  ·rw [List.getElem?_map] at hy
   obtain ⟨y0,hy0,rfl⟩:=Option.map_eq_some_iff.1 hy
   exact ih1 j v y0 hv hy0
  ·rw [List.getElem?_map] at hy
   obtain ⟨y0,hy0,rfl⟩:=Option.map_eq_some_iff.1 hy
   exact ih2 j v y0 hv hy0
 |ifc t v y h _=>exact (RelV.ifc (β:=β) t v y h).lasts' hl (Names.le.refl β)
 |gd c v y h h' _=>exact (RelV.gd (β:=β) c v y h h').lasts' hl (Names.le.refl β)
theorem Wk.pubF {c:Ctx} {a:St} (k:Nat) {cs:List V} {ds:List D} (ho:own? a.own k=some (.fix cs)) (hd:toDs cs=some ds):Wk c a ⟨pubFE k ds a.env,pubFO k ds (delO a.own k),a.nm⟩:=by
 intro β fr w H
 have hkk:=mem_keys (own?_mem ho)
 have hdel:=fun k1=>keys_delO (l:=a.own) (k:=k) H.own.nodup k1
 obtain ⟨b,arr,e,hv,hh,hsz,hr⟩:=own_ok H ho
 have hcs:=toDs_some hd
 have hkp:keysO (pubFO k ds (delO a.own k))=keysO (delO a.own k):=by
  rw [pubFO_eq];simp [keysO]
 have hEe:Eo c.E0 β (pubFO k ds (delO a.own k))=Eo c.E0 β (delO a.own k):=by
  unfold Eo;rw [hkp]
 have hE:∀ x,Eo c.E0 β (delO a.own k) x→Eo c.E0 β a.own x:=by
  rintro x (h|⟨k1,h1,h2⟩)
  ·exact .inl h
  ·exact .inr ⟨k1,((hdel k1).1 h1).1,h2⟩
 have hl:Lasts (Eo c.E0 β a.own) (Eo c.E0 β (delO a.own k)) w w:=fun x _ hx=>⟨fun h=>hx (hE x h),rfl⟩
 have hbk:β.blk k=some b:=by simp [Names.blk,hv,blkOf]
 have hnb:¬ Eo c.E0 β (delO a.own k) b:=by
  rintro (h|⟨k1,h1,h2⟩)
  ·exact (H.own.lt k hkk b hbk).2 h
  ·obtain ⟨h3,h4⟩:=(hdel k1).1 h1
   exact H.own.apart k1 k h3 hkk h4 b h2 hbk
 have hc:∀ j x,ds[j]?=some x→¬ Eo c.E0 β (delO a.own k) b∧∃ v,w.cell? ⟨b,j,none⟩=some v∧RelD (Eo c.E0 β (delO a.own k)) w v x:=fun j x hx=>by
  have hj:j<arr.size:=by
   have:=(List.getElem?_eq_some_iff.1 hx).1
   rw [hsz,hcs];simpa using this
  refine ⟨hnb,arr[j],?_,?_⟩
  ·rw [cell_of_row w b j arr e (0,0) hh];simp [hj]
  ·exact (rel_d (hr j _ (.d x) (Array.getElem?_eq_getElem hj) (by rw [hcs];simp [hx]))).lasts hl
 have hpub:∀ {u:Value} {y:V},RelV β (Eo c.E0 β a.own) w u y→RelV β (Eo c.E0 β (pubFO k ds (delO a.own k))) w u (pubFV k ds y):=fun h=>by
  rw [hEe]
  exact h.pubF hl hv hc
 refine ⟨β,H.sz,H.df,fun s=>?_,⟨fun k1 o1 h1=>?_,by rw [hkp];exact nodup_delO H.own.nodup,fun k1 k2 h1 h2=>H.own.apart k1 k2 ((hdel k1).1 (hkp▸h1)).1 ((hdel k2).1 (hkp▸h2)).1,fun k1 h1=>H.own.lt k1 ((hdel k1).1 (hkp▸h1)).1⟩,fun k1 h1=>H.fr k1 ((hdel k1).1 (hkp▸h1)).1,fun k1 h1=>H.kn k1 ((hdel k1).1 (hkp▸h1)).1,H.nm,H.kp,H.fx⟩
 ·have:∀ (l:List (Nat×V)),get (pubFE k ds l) s=pubFV k ds (get l s):=by
   intro l
   induction l with
   |nil=>simp [pubFE,get,pubFV]
   |cons p l ih =>
    obtain ⟨s',y⟩:=p
    simp only [pubFE,get]
    split
    ·rfl
    ·exact ih
  simp only [this]
  exact hpub (H.env s)
 ·rw [pubFO_eq,List.mem_map] at h1
  obtain ⟨⟨k2,o2⟩,h2,h3⟩:=h1
  simp only [Prod.mk.injEq] at h3
  obtain ⟨rfl,rfl⟩:=h3
  have hok:=H.own.ok k2 o2 (mem_delO h2)
  cases o2 with
  |fix cs2 =>
   obtain ⟨b2,arr2,e',g1,g2,g3,g4⟩:=hok
   refine ⟨b2,arr2,e',g1,g2,by simpa [pubFL_eq] using g3,fun j v x hv' hx=>?_⟩
   rw [pubFL_eq,List.getElem?_map] at hx
   obtain ⟨y,hy,rfl⟩:=Option.map_eq_some_iff.1 hx
   exact hpub (g4 j v y hv' hy)
  |row e' sz' n' ff=>rw [hEe];exact hok.lasts hl (Names.le.refl β) (fun _ _=>rfl)
  |mp z' g'=>rw [hEe];exact hok.lasts hl (Names.le.refl β) (fun _ _=>rfl)
  |lp z' g'=>rw [hEe];exact hok.lasts hl (Names.le.refl β) (fun _ _=>rfl)
  |lit e' sz' n' cs2 =>
   obtain ⟨v0,xs0,g1,g2,g3,g4⟩:=hok
   refine ⟨v0,xs0,g1,g2,by simpa [pubFL_eq] using g3,fun j v x hv' hx=>?_⟩
   rw [pubFL_eq,List.getElem?_map] at hx
   obtain ⟨y,hy,rfl⟩:=Option.map_eq_some_iff.1 hx
   exact hpub (g4 j v y hv' hy)
theorem TR.aslO {c:Ctx} {st:St} {is:List I} {acc:List Lg} {K:List Lg→St→Prop} {d:Option Nat} {sz n k off:Nat} {x:X} {cs:List V} {ds:List D} (hx:evV st x=.own k off) (ho:own? st.own k=some (.fix cs)) (hd:toDs cs=some ds)
  (hx2:evV ⟨pubFE k ds st.env,pubFO k ds (delO st.own k),st.nm⟩ x=.mem (dropD ds off)) (hs:evS true ⟨pubFE k ds st.env,pubFO k ds (delO st.own k),st.nm⟩ x) (hl:n*sz≤(dropD ds off).length)
  (h:vcR c false is (St.stp ⟨pubFE k ds st.env,pubFO k ds (delO st.own k),st.nm⟩ d { val:=.d (.sl true sz n (litRow sz (dropD ds off))),upd:=[],rd:=[],new:=[] }) acc K):TR c false (⟨d,none,.asl sz n x⟩::is) st acc K:=
 TR.wk _ (Wk.pubF k ho hd) (TR.asl hx2 hs hl h)
theorem vcC.scope0 {c:Ctx} {st:St} {K:Kont} {l:Nat} {a b:C} (h:vcC c a st (jmpK l (fun _=>False) K)):vcC c (.scope l a b) st K:=
 ⟨Unit,fun _=>st,fun _=>False,fun _=>0,vcC_mono (fun e st h=>by
  cases e with
  |nrm=>exact h
  |exit i =>
   rw [jmpK_exit] at h ⊢
   split at h
   ·exact h.elim
   ·rename_i hi;rw [if_neg hi];exact h
  |ret=>exact h) h,fun _ hp=>hp.elim⟩
theorem vcC.scope {c:Ctx} {st:St} {K:Kont} {l:Nat} {a b:C} {X:Type} (S:X→St) (p:X→Prop) (m:X→Nat) (h:vcC c a st (jmpK l (fun st=>∃ x,p x∧Wk c st (S x)) K))
  (hb:∀ x,p x→vcC c b (S x) (jmpK l (fun st=>∃ x',p x'∧Wk c st (S x')∧m x'<m x) K)):vcC c (.scope l a b) st K:=⟨X,S,p,m,h,hb⟩
end Go.Bx
end
section
namespace Go.Bx
open Go.RowKit
section
variable {c:Ctx} {b:Bool} {is:List I} {st:St} {acc:List Lg} {K:List Lg→St→Prop}
end
def sw (a b k:Nat):Nat:=if k=a then b else if k=b then a else k
theorem sw_sw (a b k:Nat):sw a b (sw a b k)=k:=by
 unfold sw
 repeat' split
 all_goals omega
theorem sw_inj {a b k k':Nat} (h:sw a b k=sw a b k'):k=k':=by
 have:=congrArg (sw a b) h
 rwa [sw_sw,sw_sw] at this
theorem renO_ren (a b:Nat) (l:List (Nat×Own)):renO (sw a b) (renO (sw a b) l)=l:=by
 induction l with
 |nil=>rfl
 |cons p l ih =>
  obtain ⟨k,o⟩:=p
  simp only [renO,ih,sw_sw]
  congr 2
  cases o<;>simp [Own.ren,renL_ren (sw_sw a b)]
theorem blk_sw {β β':Names} {a b:Nat} (hp:∀ k,β' (sw a b k)=β k) (k:Nat):β'.blk (sw a b k)=β.blk k:=by
 simp [Names.blk,hp]
theorem Eo_sw {E0:Nat→Prop} {β β':Names} {a b:Nat} (hp:∀ k,β' (sw a b k)=β k) (l:List (Nat×Own)):Eo E0 β' (renO (sw a b) l)=Eo E0 β l:=by
 funext x
 apply propext
 unfold Eo
 rw [keys_renO]
 constructor
 ·rintro (h|⟨k,h1,h2⟩)
  ·exact .inl h
  ·obtain ⟨k0,h3,rfl⟩:=List.mem_map.1 h1
   rw [blk_sw hp] at h2
   exact .inr ⟨k0,h3,h2⟩
 ·rintro (h|⟨k,h1,h2⟩)
  ·exact .inl h
  ·exact .inr ⟨sw a b k,List.mem_map.2 ⟨k,h1,rfl⟩,by rw [blk_sw hp];exact h2⟩
theorem ownB_sw {β β':Names} {a b:Nat} (hp:∀ k,β' (sw a b k)=β k) (l:List (Nat×Own)):ownB β' (renO (sw a b) l)=ownB β l:=by
 funext x
 apply propext
 unfold ownB
 rw [keys_renO]
 constructor
 ·rintro ⟨k,h1,h2⟩
  obtain ⟨k0,h3,rfl⟩:=List.mem_map.1 h1
  rw [blk_sw hp] at h2
  exact ⟨k0,h3,h2⟩
 ·rintro ⟨k,h1,h2⟩
  exact ⟨sw a b k,List.mem_map.2 ⟨k,h1,rfl⟩,by rw [blk_sw hp];exact h2⟩
theorem nodup_map_sw {a b:Nat} {l:List Nat} (h:l.Nodup):(l.map (sw a b)).Nodup:=by
 rw [List.Nodup,List.pairwise_map]
 exact h.imp fun hne e=>hne (sw_inj e)
theorem OwnsOk.sw {E0:Nat→Prop} {β β':Names} {w:World} {a b:Nat} {l:List (Nat×Own)} (hp:∀ k,β' (sw a b k)=β k) (h:OwnsOk E0 β w l):OwnsOk E0 β' w (renO (Go.Bx.sw a b) l):=by
 refine ⟨fun k o hm=>?_,by rw [keys_renO];exact nodup_map_sw h.nodup,fun k k' h1 h2 hne x hx hx'=>?_,fun k h1 x hx=>?_⟩
 ·rw [renO_eq,List.mem_map] at hm
  obtain ⟨⟨k0,o0⟩,h1,h2⟩:=hm
  simp only [Prod.mk.injEq] at h2
  obtain ⟨rfl,rfl⟩:=h2
  rw [Eo_sw hp]
  exact (h.ok k0 o0 h1).ren (fun k v hv=>by rw [hp];exact hv)
 ·rw [keys_renO] at h1 h2
  obtain ⟨k0,h3,rfl⟩:=List.mem_map.1 h1
  obtain ⟨k1,h4,rfl⟩:=List.mem_map.1 h2
  rw [blk_sw hp] at hx hx'
  exact h.apart k0 k1 h3 h4 (fun e=>hne (by rw [e])) x hx hx'
 ·rw [keys_renO] at h1
  obtain ⟨k0,h3,rfl⟩:=List.mem_map.1 h1
  rw [blk_sw hp] at hx
  exact h.lt k0 h3 x hx
theorem Ctr.sw {P:Program} {f:FuncId} {args:List V} {ins outs:List (Nat×Own)} {res:V} {new:List Nat} (h:Ctr P f args ins res outs new) (a b:Nat) :
  Ctr P f (renL (Go.Bx.sw a b) args) (renO (Go.Bx.sw a b) ins) (res.ren (Go.Bx.sw a b)) (renO (Go.Bx.sw a b) outs) (new.map (Go.Bx.sw a b)):=by
 obtain ⟨g1,g2,g3,g4⟩:=h
 refine ⟨g1,fun k hk=>?_,fun k hk=>?_,fun E0 β w vals hE hsz hv hins hnn=>?_⟩
 ·rw [keys_renO] at hk ⊢
  obtain ⟨k0,h3,rfl⟩:=List.mem_map.1 hk
  rcases g2 k0 h3 with h4|h4
  ·exact .inl (List.mem_map.2 ⟨k0,h4,rfl⟩)
  ·exact .inr (List.mem_map.2 ⟨k0,h4,rfl⟩)
 ·rw [keys_renO]
  obtain ⟨k0,h3,rfl⟩:=List.mem_map.1 hk
  exact List.mem_map.2 ⟨k0,g3 k0 h3,rfl⟩
 let β0:Names:=fun k=>β (Go.Bx.sw a b k)
 have hp0:∀ k,β0 (Go.Bx.sw a b k)=β k:=fun k=>by simp only [β0,sw_sw]
 have hp1:∀ k,β (Go.Bx.sw a b k)=β0 k:=fun k=>rfl
 have hins0:OwnsOk E0 β0 w ins:=by
  have:=hins.sw hp0
  rwa [renO_ren] at this
 have hE0:Eo E0 β (renO (Go.Bx.sw a b) ins)=Eo E0 β0 ins:=Eo_sw hp1 ins
 have hcall:=g4 E0 β0 w vals hE (by simpa [renL_eq] using hsz) (fun j v x hvj hx=>by
  have:=hv j v (x.ren (Go.Bx.sw a b)) hvj (by rw [renL_eq,List.getElem?_map,hx];rfl)
  rw [hE0] at this
  have:=this.ren (β':=β0) (p:=Go.Bx.sw a b) (fun k v hk=>by rw [hp0];exact hk)
  rwa [V.ren_ren (sw_sw a b)] at this) hins0 (fun k hk=>hnn _ (List.mem_map.2 ⟨k,hk,rfl⟩))
 refine hcall.mono fun e w' he=>?_
 obtain ⟨v,β1,rfl,h1,h2,h3,h4,h5,h6⟩:=he
 let β':Names:=fun k=>β1 (Go.Bx.sw a b k)
 have hp2:∀ k,β' (Go.Bx.sw a b k)=β1 k:=fun k=>by simp only [β',sw_sw]
 refine ⟨v,β',rfl,fun k u hk=>?_,fun k hk=>?_,?_,h4.sw hp2,?_,?_⟩
 ·have h7:β0 (Go.Bx.sw a b k)=some u:=by rw [hp0];exact hk
  exact h1 _ _ h7
 ·have h7:=h2 (Go.Bx.sw a b k) (fun h8=>hk (List.mem_map.2 ⟨_,h8,sw_sw a b k⟩))
  rw [hp0] at h7
  exact h7
 ·rw [Eo_sw hp2]
  exact h3.ren (fun k v hk=>by rw [hp2];exact hk)
 ·rw [ownB_sw hp1];exact h5
 ·intro k hk x hx
  rw [keys_renO] at hk
  obtain ⟨k0,h7,rfl⟩:=List.mem_map.1 hk
  rw [blk_sw hp2] at hx
  rcases h6 k0 h7 x hx with h8|h8
  ·exact .inl h8
  ·exact .inr (by rw [ownB_sw hp1];exact h8)
theorem get_renE {p:Nat→Nat} (l:List (Nat×V)) (s:Nat):Go.Bx.get (renE p l) s=(Go.Bx.get l s).ren p:=by
 induction l with
 |nil=>simp [renE,Go.Bx.get,V.ren]
 |cons q l ih =>
  obtain ⟨s',v⟩:=q
  simp only [renE,Go.Bx.get]
  split
  ·rfl
  ·exact ih
theorem Wk.sw {c:Ctx} {st:St} (a b:Nat) (fn:List Nat) (hfn:c.fn=fn) (ha:a∉fn) (hb:b∉fn):Wk c st ⟨renE (Go.Bx.sw a b) st.env,renO (Go.Bx.sw a b) st.own,st.nm.map (Go.Bx.sw a b)⟩:=by
 subst hfn
 intro β fr w H
 let β':Names:=fun k=>β (Go.Bx.sw a b k)
 have hp:∀ k,β' (Go.Bx.sw a b k)=β k:=fun k=>by simp only [β',sw_sw]
 have hid:∀ k,k∈c.fn→Go.Bx.sw a b k=k:=fun k hk=>by
  have h1:k≠a:=fun e=>ha (by rw [←e];exact hk)
  have h2:k≠b:=fun e=>hb (by rw [←e];exact hk)
  unfold Go.Bx.sw
  rw [if_neg h1,if_neg h2]
 refine ⟨β',H.sz,H.df,fun s=>?_,H.own.sw hp,fun k hk x hx=>?_,fun k hk=>?_,fun k hk=>?_,H.kp,fun k hk=>?_⟩
 ·rw [Eo_sw hp,get_renE]
  exact (H.env s).ren (fun k v hv=>by rw [hp];exact hv)
 ·rw [keys_renO] at hk
  obtain ⟨k0,h3,rfl⟩:=List.mem_map.1 hk
  rw [blk_sw hp] at hx
  exact H.fr k0 h3 x hx
 ·rw [keys_renO] at hk
  obtain ⟨k0,h3,rfl⟩:=List.mem_map.1 hk
  exact List.mem_map.2 ⟨k0,H.kn k0 h3,rfl⟩
 ·exact H.nm _ (fun h=>hk (List.mem_map.2 ⟨_,h,sw_sw a b k⟩))
 ·obtain ⟨h1,h2⟩:=H.fx k hk
  refine ⟨List.mem_map.2 ⟨k,h1,hid k hk⟩,?_⟩
  have:β' k=β k:=by simp only [β',hid k hk]
  rw [this];exact h2
end Go.Bx
end
section
namespace Go.Bx
open Go.RowKit
def mapE (T:V→V):List (Nat×V)→List (Nat×V)
 |[]=>[]
 |(s,v)::l=>(s,T v)::mapE T l
def mapO (T:List V→List V):List (Nat×Own)→List (Nat×Own)
 |[]=>[]
 |(k,.fix cs)::l=>(k,.fix (T cs))::mapO T l
 |(k,.lit e sz n cs)::l=>(k,.lit e sz n (T cs))::mapO T l
 |(k,.row e sz n f)::l=>(k,.row e sz n f)::mapO T l
 |(k,.mp z g)::l=>(k,.mp z g)::mapO T l
 |(k,.lp z g)::l=>(k,.lp z g)::mapO T l
theorem keys_mapO (T:List V→List V) (l:List (Nat×Own)):keysO (mapO T l)=keysO l:=by
 induction l with
 |nil=>rfl
 |cons p l ih =>
  obtain ⟨k,o⟩:=p
  cases o<;>simp only [mapO,keysO,List.map_cons] at ih ⊢<;>rw [ih]
theorem mem_mapO {T:List V→List V} {l:List (Nat×Own)} {k:Nat} {o:Own} (h:(k,o)∈mapO T l):∃ o0,(k,o0)∈l∧(match o0 with|.fix cs=>o=.fix (T cs)|.lit e sz n cs=>o=.lit e sz n (T cs)|_=>o=o0):=by
  induction l with
  |nil=>simp [mapO] at h
  |cons p l ih =>
    obtain ⟨k0,o0⟩:=p
    cases o0<;>simp only [mapO,List.mem_cons] at h<;>rcases h with h|h
    all_goals first
      | (simp only [Prod.mk.injEq] at h
         obtain ⟨rfl,rfl⟩:=h
         exact ⟨_,List.mem_cons_self,rfl⟩)
      | (obtain ⟨o1, h1, h2⟩ := ih h
         exact ⟨o1,List.mem_cons_of_mem _ h1,h2⟩)
theorem Holds.mapV {c:Ctx} {β:Names} {st:St} {a:Act} {w:World} (H:Holds c β st a w) {T:V→V} {TL:List V→List V} (hTL:∀ l,TL l=l.map T) (hun:T .un=.un)
  (hT:∀ u x,RelV β (Eo c.E0 β st.own) w u x→RelV β (Eo c.E0 β st.own) w u (T x)):Holds c β ⟨mapE T st.env,mapO TL st.own,st.nm⟩ a w:=by
 have hk:=keys_mapO TL st.own
 have hE:Eo c.E0 β (mapO TL st.own)=Eo c.E0 β st.own:=by unfold Eo;rw [hk]
 refine ⟨H.sz,H.df,fun s=>?_,⟨fun k o hm=>?_,by rw [hk];exact H.own.nodup,fun k k' h1 h2=>H.own.apart k k' (hk▸h1) (hk▸h2),fun k h1=>H.own.lt k (hk▸h1)⟩,fun k h1=>H.fr k (hk▸h1),fun k h1=>H.kn k (hk▸h1),H.nm,H.kp,H.fx⟩
 ·rw [hE]
  have:∀ (l:List (Nat×V)),get (mapE T l) s=T (get l s):=by
   intro l
   induction l with
   |nil=>simp [mapE,get,hun]
   |cons p l ih =>
    obtain ⟨s',y⟩:=p
    simp only [mapE,get]
    split
    ·rfl
    ·exact ih
  rw [this]
  exact hT _ _ (H.env s)
 ·rw [hE]
  obtain ⟨o0,h1,h2⟩:=mem_mapO hm
  have hok:=H.own.ok k o0 h1
  cases o0 with
  |fix cs =>
   simp only at h2;subst h2
   obtain ⟨b,arr,e,g1,g2,g3,g4⟩:=hok
   refine ⟨b,arr,e,g1,g2,by simpa [hTL] using g3,fun j v x hv hx=>?_⟩
   rw [hTL,List.getElem?_map] at hx
   obtain ⟨y,hy,rfl⟩:=Option.map_eq_some_iff.1 hx
   exact hT _ _ (g4 j v y hv hy)
  |lit e sz n cs =>
   simp only at h2;subst h2
   obtain ⟨v0,xs,g1,g2,g3,g4⟩:=hok
   refine ⟨v0,xs,g1,g2,by simpa [hTL] using g3,fun j v x hv hx=>?_⟩
   rw [hTL,List.getElem?_map] at hx
   obtain ⟨y,hy,rfl⟩:=Option.map_eq_some_iff.1 hx
   exact hT _ _ (g4 j v y hv hy)
  |row e sz n f=>simp only at h2;subst h2;exact hok
  |mp z g=>simp only at h2;subst h2;exact hok
  |lp z g=>simp only at h2;subst h2;exact hok
mutual
def shrV (k sz b k':Nat):V→V
 |.osub q s lo n=>if q=k∧s=sz∧lo=0∧n=b then .osl k' else .osub q s lo n
 |.ag cs=>.ag (shrL k sz b k' cs)
 |.tup cs=>.tup (shrL k sz b k' cs)
 |.un=>.un
 |.d y=>.d y
 |.mem cs=>.mem cs
 |.own q off=>.own q off
 |.osl q=>.osl q
 |.optr q s i off=>.optr q s i off
 |.fn f x y=>.fn f x y
 |.ifc t v=>.ifc t v
 |.gd c v=>.gd c v
def shrL (k sz b k':Nat):List V→List V
 |[]=>[]
 |v::l=>shrV k sz b k' v::shrL k sz b k' l
end
theorem shrL_eq (k sz b k':Nat) (l:List V):shrL k sz b k' l=l.map (shrV k sz b k'):=by
 induction l with
 |nil=>rfl
 |cons v l ih=>simp [shrL,ih]
theorem RelV.shr {β:Names} {E:Nat→Prop} {w:World} {k sz b k':Nat} {v':Value} (hb:β k'=some v') (h1:v'.oneCell'=true) (hu:∀ u,RelV β E w u (.osub k sz 0 b)→u=v') {v:Value} {x:V} (h:RelV β E w v x):RelV β E w v (shrV k sz b k' x):=by
 induction h with
 |osub q s lo n b' m c a h hn ha =>
  simp only [shrV]
  split
  ·rename_i e
   obtain ⟨rfl,rfl,rfl,rfl⟩:=e
   have:=hu _ (.osub q s 0 n b' m c a h hn ha)
   rw [this]
   exact .osl _ _ hb h1
  ·exact .osub q s lo n b' m c a h hn ha
 |osub0 q s A h =>
  simp only [shrV]
  split
  ·rename_i e
   obtain ⟨rfl,rfl,-,rfl⟩:=e
   have:=hu _ (.osub0 q s A h)
   rw [this]
   exact .osl _ _ hb h1
  ·exact .osub0 q s A h
 |ag arr cs h1 r1 ih =>
  simp only [shrV,shrL_eq]
  refine .ag _ _ (by simpa using h1) fun j v y hv hy=>?_
  rw [List.getElem?_map] at hy
  obtain ⟨y0,hy0,rfl⟩:=Option.map_eq_some_iff.1 hy
  exact ih j v y0 hv hy0
 |tup arr cs h1 r1 ih =>
  simp only [shrV,shrL_eq]
  refine .tup _ _ (by simpa using h1) fun j v y hv hy=>?_
  rw [List.getElem?_map] at hy
  obtain ⟨y0,hy0,rfl⟩:=Option.map_eq_some_iff.1 hy
  exact ih j v y0 hv hy0
 |un v=>exact .un v
 |d v y h=>exact .d v y h
 |mem cs b off g hcell hrel=>exact .mem cs b off g hcell hrel
 |own q off b h=>exact .own q off b h
 |osl q v h h1=>exact .osl q v h h1
 |optr q s i off b m c h=>exact .optr q s i off b m c h
 |fn f fi ca first cap h1 h2 r1 r2 _ _=>exact .fn f fi ca first cap h1 h2 r1 r2
 |ifc t v y h _=>exact .ifc t v y h
 |gd c v y h h' _=>exact .gd c v y h h'
theorem Wk.shr {c:Ctx} {a:St} (k k' b:Nat) {e sz n:Nat} {f:Nat→List D} (ho:own? a.own k=some (.row e sz n f)) (hbn:b≤n) (hk:k'∉a.nm) :
  Wk c a ⟨mapE (shrV k sz b k') a.env,mapO (shrL k sz b k') (setO (delO a.own k) k' (.row e sz b f)),k'::a.nm⟩:=by
 intro β fr w H
 obtain ⟨v,xs,hv,hrow,hfl,hfr⟩:=own_ok H ho
 have hmul:b*sz≤n*sz:=Nat.mul_le_mul_right _ hbn
 obtain ⟨v',hv',hone,hrow',hblk⟩:∃ v',(∀ (β':Names) E u,β' k=some v→RelV β' E w u (.osub k sz 0 b)→u=v')∧v'.oneCell'=true∧RowOk w e sz v' b (xs.take (b*sz))∧blkOf v'=blkOf v:=by
  rcases hrow.2 with ⟨⟨A,rfl⟩,rfl⟩|⟨g,cap,cur,rfl,hc0,hh,hnc,hcm,hcs,htk⟩
  ·have:b=0:=by omega
   subst this
   refine ⟨.slice A 0 0,fun β' E u hb hu=>?_,rfl,⟨by simp,.inl ⟨⟨A,rfl⟩,rfl⟩⟩,rfl⟩
   cases hu with
   |osub _ _ _ _ b0 m c0 ad h1 h2 h3 =>
    rw [hb] at h1
    injection h1 with h1;injection h1 with h4 h5 h6
    subst h4;subst h6
    rw [h3 (.inr rfl)]
    simp
   |osub0 _ _ A' h1=>rw [hb] at h1;injection h1 with h1;injection h1 with h1;rw [h1]
  ·refine ⟨.slice (some ⟨g,0,none⟩) b cap,fun β' E u hb hu=>?_,rfl,⟨by rw [List.length_take,hrow.1];omega,.inr ⟨g,cap,cur,rfl,hc0,hh,by omega,hcm,hcs,?_⟩⟩,rfl⟩
   ·cases hu with
    |osub _ _ _ _ b0 m c0 ad h1 h2 h3 =>
     rw [hb] at h1
     injection h1 with h1;injection h1 with h4 h5 h6
     injection h4 with h4;injection h4 with h4
     subst h4;subst h6
     rw [h3 (.inr rfl)]
     simp
    |osub0 _ _ A' h1 =>
     rw [hb] at h1
     injection h1 with h1;injection h1 with h1 h2 h3
     omega
   ·rw [←htk,List.take_take,Nat.min_eq_left hmul]
 obtain ⟨β',hβ,hbd,H'⟩:=H.replOwn (w':=w) (k0:=k) (k:=k') (val:=v') (ow:=.row e sz b f) (mem_keys (own?_mem ho)) hk (Keeps.refl _ w) (fun x hx=>.inl (by simp only [Names.blk,hv,Option.bind_some];rw [←hblk];exact hx))
  (fun β' E' hβ hbd hl=>⟨v',_,hbd,hrow',fun i hi=>hfl i (by omega),fun i j hi hj x hx=>by
   obtain ⟨u,q1,q2⟩:=hfr i j (by omega) hj x hx
   refine ⟨u,?_,q2.lasts hl⟩
   have:(i+1)*sz≤b*sz:=Nat.mul_le_mul_right _ hi
   rw [Nat.add_mul] at this
   rw [List.getElem?_take,if_pos (by omega)];exact q1⟩)
 exact ⟨β',H'.mapV (shrL_eq k sz b k') rfl (fun u x hx=>hx.shr hbd hone (fun u hu=>hv' β' _ u (hβ _ _ hv) hu))⟩
theorem Wk.row0F {c:Ctx} {a:St} (k j k' e sz:Nat) (f':Nat→List D) {cs:List V} {sz':Nat} {f:Nat→List D} (ho:own? a.own k=some (.fix cs)) (hj:cs[j]?=some (.d (.sl true sz' 0 f))) (hk:k'∉a.nm) :
  Wk c a ⟨a.env,setO (setO a.own k' (.row e sz 0 f')) k (.fix (putV cs j [.osl k'])),k'::a.nm⟩:=by
 intro β fr w H
 have hkk:=mem_keys (own?_mem ho)
 obtain ⟨b,arr,e0,hb,hh,hz,hr⟩:=own_ok H ho
 have hjl:j<cs.length:=(List.getElem?_eq_some_iff.1 hj).1
 have hja:arr[j]?=some (arr[j]'(by omega)):=Array.getElem?_eq_getElem (by omega)
 generalize arr[j]'(by omega)=u at hja
 have hu:=rel_d (hr j u _ hja hj)
 have hform:∃ A,u=.slice A 0 0:=by
  cases hu with
  |nil _ _ _ _=>exact ⟨_,rfl⟩
  |sl _ _ _ _ b off c g hc hf _ _ _=>have:=hf rfl;subst this;exact ⟨_,rfl⟩
 obtain ⟨A,rfl⟩:=hform
 obtain ⟨β',hβ,hbd,H'⟩:=H.addOwn (w':=w) (k:=k') (val:=.slice A 0 0) (ow:=.row e sz 0 f') (Keeps.refl _ w) hk (fun b hb=>by cases A<;>simp [blkOf] at hb)
  (fun β' E' _ hb _=>⟨_,[],hb,⟨by simp,.inl ⟨⟨A,rfl⟩,rfl⟩⟩,fun i hi=>by omega,fun i j hi=>by omega⟩)
 have hkn:k≠k':=fun e=>hk (e▸H.kn k hkk)
 have ho':own? (setO a.own k' (.row e sz 0 f')) k=some (.fix cs):=by rw [own?_setO,if_neg hkn];exact ho
 refine ⟨β',H'.updOwn (w':=w) (k:=k) (ow:=.fix (putV cs j [.osl k'])) (mem_keys (own?_mem ho')) (Keeps.refl _ w) (fun E' hl hE=>?_)⟩
 obtain ⟨b2,arr2,e2,hb2,hh2,hz2,hr2⟩:=own_ok H' ho'
 have hbb:b2=b:=by
  have:=hβ _ _ hb
  rw [hb2] at this
  injection this with this;injection this with this;injection this with this;injection this
 subst hbb
 rw [hh] at hh2
 injection hh2 with hh2;injection hh2 with hh2 hh3
 subst hh2;subst hh3
 refine ⟨b2,arr,e0,hb2,hh,by rw [putV_len];exact hz,fun j' v x hv hx=>?_⟩
 rw [putV_get] at hx
 split at hx
 ·rename_i hc
  have:j'=j:=by simp at hc;omega
  subst this
  simp at hx
  rw [hja] at hv
  cases hv
  rw [←hx]
  exact .osl _ _ hbd rfl
 ·exact (hr2 j' v x hv hx).lasts hl (fun _ _=>rfl)
theorem OwnLe.of {a b:List (Nat×Own)} (h:∀ k o,(k,o)∈b→∃ o',own? a k=some o'∧OLe o' o):OwnLe a b:=by
 induction b with
 |nil=>trivial
 |cons p b ih =>
  obtain ⟨k,o⟩:=p
  exact ⟨h k o List.mem_cons_self,ih fun k o hm=>h k o (List.mem_cons_of_mem _ hm)⟩
theorem OLe.rowLit {e sz n:Nat} {f:Nat→List D} {cs:List V} (hc:cs=catR n f):OLe (.row e sz n f) (.lit e sz n cs):=by
 subst hc
 rintro β E w k ⟨v,vs,h1,h2,h3,h4⟩
 refine ⟨v,vs,h1,h2,catR_len h3,fun j u y hu hy=>?_⟩
 obtain ⟨i,q,h5,h6,h7,z,h8,rfl⟩:=catR_get h3 hy
 obtain ⟨u',h9,h10⟩:=h4 i q h5 h6 z h8
 rw [h7,h9] at hu
 cases hu
 exact .d _ _ h10
theorem own?_renO {a b:Nat} (l:List (Nat×Own)) (k:Nat):own? (renO (sw a b) l) k=(own? l (sw a b k)).map (Own.ren (sw a b)):=by
 induction l with
 |nil=>rfl
 |cons p l ih =>
  obtain ⟨k0,o⟩:=p
  simp only [renO,own?]
  by_cases h:k0=sw a b k
  ·have:sw a b k0=k:=by rw [h,sw_sw]
   rw [if_pos h,if_pos this];rfl
  ·have:¬ sw a b k0=k:=fun e=>h (by rw [←e,sw_sw])
   rw [if_neg h,if_neg this,ih]
theorem Wk.rn {c:Ctx} {st b:St} (x y:Nat) (fn:List Nat) (hfn:c.fn=fn) (hx:x∉fn) (hy:y∉fn) (he:EnvLe (renE (Go.Bx.sw x y) st.env) b.env) (ho:∀ k o,(k,o)∈b.own→∃ o',own? st.own (Go.Bx.sw x y k)=some o'∧OLe (o'.ren (Go.Bx.sw x y)) o)
  (hnd:(keysO b.own).Nodup) (hk:∀ k,k∈keysO b.own→k∈b.nm) (hfx:∀ k,k∈fn→k∈b.nm) (hv:∀ s y,(s,y)∈b.env→∀ k,k∈y.names→k∈b.nm) (hov:∀ k o,(k,o)∈b.own→∀ j,j∈(match o with|.fix cs=>namesL cs|.lit _ _ _ cs=>namesL cs|.row _ _ _ _=>[]|.mp _ _=>[]|.lp _ _=>[])→j∈b.nm):Wk c st b:=
 (Wk.sw x y fn hfn hx hy).trans (Wk.mk he (OwnLe.of fun k o hm=>by
  obtain ⟨o',h1,h2⟩:=ho k o hm
  exact ⟨_,by rw [own?_renO,h1];rfl,h2⟩) hnd hk (fun k h=>hfx k (hfn▸h)) hv hov)
section
variable {X:Type} (dx:X) (cells:X→List D)
def nestC (K τ sz:Nat):Nat→List (List X)→List V
 |_,[]=>[]
 |i,g::G=>(if g.length≤τ then .d (.sl true sz g.length (fun j=>cells (g.getD j dx))) else .osl (K+i))::nestC K τ sz (i+1) G
def nestO (K τ e sz:Nat):Nat→List (List X)→List (Nat×Own)
 |_,[]=>[]
 |i,g::G=>if g.length≤τ then nestO K τ e sz (i+1) G else (K+i,.row e sz g.length (fun j=>cells (g.getD j dx)))::nestO K τ e sz (i+1) G
def nestD (sz:Nat) (G:List (List X)):Nat→List D:=fun i=>[.sl false sz (G.getD i []).length (fun j=>cells ((G.getD i []).getD j dx))]
def nmN (K n:Nat):List Nat:=(List.range n).map (K+·)
theorem mem_nmN {K n k:Nat}:k∈nmN K n↔K≤k∧k<K+n:=by
 unfold nmN
 rw [List.mem_map]
 constructor
 ·rintro ⟨i,h1,rfl⟩
  have:=List.mem_range.1 h1
  omega
 ·rintro ⟨h1,h2⟩
  exact ⟨k-K,List.mem_range.2 (by omega),by omega⟩
variable {dx cells}
theorem nestC_len {K τ sz:Nat}:∀ {i:Nat} {G:List (List X)},(nestC dx cells K τ sz i G).length=G.length
 |_,[]=>rfl
 |i,g::G=>by simp [nestC,nestC_len]
theorem nestC_get {K τ sz:Nat}:∀ {i:Nat} {G:List (List X)} {j:Nat} {g:List X},G[j]?=some g →
  (nestC dx cells K τ sz i G)[j]?=some (if g.length≤τ then .d (.sl true sz g.length (fun j=>cells (g.getD j dx))) else .osl (K+(i+j)))
 |_,[],_,_,h=>by simp at h
 |i,g::G,0,g',h=>by simp at h;subst h;simp [nestC]
 |i,g::G,j+1,g',h=>by
  simp at h
  simp only [nestC,List.getElem?_cons_succ]
  rw [nestC_get h,show i+1+j=i+(j+1) by omega]
theorem nestC_nth {K τ sz:Nat} {i:Nat} {G:List (List X)} {j:Nat} {g:List X} (h:G[j]?=some g) :
  nth (nestC dx cells K τ sz i G) j=if g.length≤τ then .d (.sl true sz g.length (fun j=>cells (g.getD j dx))) else .osl (K+(i+j)):=nth_some (nestC_get h)
theorem nestC_app {K τ sz:Nat}:∀ {i:Nat} {G G':List (List X)},nestC dx cells K τ sz i (G++G')=nestC dx cells K τ sz i G++nestC dx cells K τ sz (i+G.length) G'
 |i,[],G'=>by simp [nestC]
 |i,g::G,G'=>by
  simp only [List.cons_append,nestC,List.length_cons]
  rw [nestC_app,show i+1+G.length=i+(G.length+1) by omega]
theorem nestC_names {K τ sz:Nat} {i:Nat} {G:List (List X)} {k:Nat} (h:k∈namesL (nestC dx cells K τ sz i G)):K+i≤k∧k<K+i+G.length:=by
 induction G generalizing i with
 |nil=>simp [nestC,namesL] at h
 |cons g G ih =>
  simp only [nestC,namesL,List.mem_append] at h
  rcases h with h|h
  ·split at h
   ·simp [V.names] at h
   ·simp [V.names] at h;simp;omega
  ·have:=ih h
   simp;omega
theorem nestO_mem {K τ e sz:Nat}:∀ {i:Nat} {G:List (List X)} {k:Nat} {o:Own},(k,o)∈nestO dx cells K τ e sz i G→∃ j g,G[j]?=some g∧τ<g.length∧k=K+(i+j)∧o=.row e sz g.length (fun j=>cells (g.getD j dx))
 |_,[],_,_,h=>by simp [nestO] at h
 |i,g::G,k,o,h=>by
  simp only [nestO] at h
  split at h
  ·obtain ⟨j,g',h1,h2,h3,h4⟩:=nestO_mem h
   exact ⟨j+1,g',by simpa using h1,h2,by omega,h4⟩
  ·rename_i hl
   rcases List.mem_cons.1 h with h|h
   ·simp only [Prod.mk.injEq] at h
    exact ⟨0,g,rfl,by omega,by omega,h.2⟩
   ·obtain ⟨j,g',h1,h2,h3,h4⟩:=nestO_mem h
    exact ⟨j+1,g',by simpa using h1,h2,by omega,h4⟩
theorem nestO_own {K τ e sz:Nat}:∀ {i:Nat} {G:List (List X)} {k:Nat},own? (nestO dx cells K τ e sz i G) k=if K+i≤k then (match G[k-(K+i)]? with|some g=>if τ<g.length then some (.row e sz g.length (fun j=>cells (g.getD j dx))) else none|none=>none) else none
 |i,[],k=>by simp [nestO,own?]
 |i,g::G,k=>by
  simp only [nestO]
  have ih:=@nestO_own K τ e sz (i+1) G k
  by_cases h:g.length≤τ
  ·rw [if_pos h,ih]
   by_cases h2:K+i≤k
   ·rw [if_pos h2]
    by_cases h3:k=K+i
    ·subst h3
     rw [if_neg (by omega)]
     simp;omega
    ·rw [if_pos (by omega),show k-(K+i)=k-(K+(i+1))+1 by omega]
     simp
   ·rw [if_neg h2,if_neg (by omega)]
  ·rw [if_neg h]
   simp only [own?]
   by_cases h3:K+i=k
   ·subst h3
    simp;omega
   ·rw [if_neg h3,ih]
    by_cases h2:K+i≤k
    ·rw [if_pos h2,if_pos (by omega),show k-(K+i)=k-(K+(i+1))+1 by omega]
     simp
    ·rw [if_neg h2,if_neg (by omega)]
theorem nestO_nodup {K τ e sz:Nat}:∀ {i:Nat} {G:List (List X)},(keysO (nestO dx cells K τ e sz i G)).Nodup
 |_,[]=>by simp [nestO,keysO]
 |i,g::G=>by
  simp only [nestO]
  split
  ·exact nestO_nodup
  ·simp only [keysO,List.map_cons,List.nodup_cons]
   refine ⟨fun h=>?_,nestO_nodup⟩
   obtain ⟨o,h1⟩:=keys_mem h
   obtain ⟨j,g',_,_,h2,_⟩:=nestO_mem h1
   omega
theorem nestO_key {K τ e sz:Nat} {i:Nat} {G:List (List X)} {k:Nat} (h:k∈keysO (nestO dx cells K τ e sz i G)):K+i≤k∧k<K+i+G.length:=by
 obtain ⟨o,h1⟩:=keys_mem h
 obtain ⟨j,g',h2,_,h3,_⟩:=nestO_mem h1
 have:=(List.getElem?_eq_some_iff.1 h2).1
 omega
theorem Wk.nestPub {c:Ctx} {st:St} {K' K τ e' e sz:Nat} {G:List (List X)} {own':List (Nat×Own)} (hl:own? st.own K'=some (.lit e' 1 G.length (nestC dx cells K τ sz 0 G)))
  (hi:∀ i g,G[i]?=some g→τ<g.length→own? st.own (K+i)=some (.row e sz g.length (fun j=>cells (g.getD j dx)))) (hnd:(keysO own').Nodup)
  (hsub:∀ k o,(k,o)∈own'→(k=K'∧o=.row e' 1 G.length (nestD dx cells sz G))∨(k≠K'∧own? st.own k=some o)) (hno:∀ i,i<G.length→K+i∉keysO own'):Wk c st ⟨st.env,own',st.nm⟩:=by
 intro β fr w H
 have hkeys:∀ k,k∈keysO own'→k∈keysO st.own:=fun k hk=>by
  obtain ⟨o,ho⟩:=keys_mem hk
  rcases hsub k o ho with ⟨rfl,_⟩|⟨_,h⟩
  ·exact mem_keys (own?_mem hl)
  ·exact mem_keys (own?_mem h)
 have hE:∀ x,Eo c.E0 β own' x→Eo c.E0 β st.own x:=by
  rintro x (h|⟨k1,h1,h2⟩)
  ·exact .inl h
  ·exact .inr ⟨k1,hkeys k1 h1,h2⟩
 have hlast:Lasts (Eo c.E0 β st.own) (Eo c.E0 β own') w w:=fun x _ hx=>⟨fun h=>hx (hE x h),rfl⟩
 refine ⟨β,H.sz,H.df,fun s=>(H.env s).lasts' hlast (Names.le.refl β),⟨fun k o hm=>?_,hnd,fun k k' h1 h2=>H.own.apart k k' (hkeys k h1) (hkeys k' h2),fun k h1=>H.own.lt k (hkeys k h1)⟩,fun k h1=>H.fr k (hkeys k h1),fun k h1=>H.kn k (hkeys k h1),H.nm,H.kp,H.fx⟩
 rcases hsub k o hm with ⟨rfl,rfl⟩|⟨hne,h⟩
 ·obtain ⟨v,xs,g1,g2,g3,g4⟩:=own_ok H hl
  refine ⟨v,xs,g1,g2,fun i hi'=>rfl,fun i j hi' hj x hx=>?_⟩
  have hj0:j=0:=by omega
  subst hj0
  simp only [nestD,List.getElem?_cons_zero,Option.some.injEq] at hx
  subst hx
  have hil:i<xs.length:=by rw [g2.1];omega
  refine ⟨xs[i],by rw [Nat.mul_one,Nat.add_zero];exact List.getElem?_eq_getElem hil,?_⟩
  have hg:G[i]?=some G[i]:=List.getElem?_eq_getElem hi'
  have hgd:G.getD i []=G[i]:=by simp [List.getD_eq_getElem?_getD,hg]
  rw [hgd]
  have hrel:=g4 i xs[i] _ (List.getElem?_eq_getElem hil) (nestC_get hg)
  generalize G[i]=g at *
  generalize xs[i]=u at *
  by_cases hτ:g.length≤τ
  ·rw [if_pos hτ] at hrel
   have:=(rel_d hrel).lasts hlast
   generalize g.length=gl at this ⊢
   cases this with
   |nil _ _ _ _=>exact .nil _ _ _ _
   |sl _ _ _ _ b off c gg hc hf hl' hcell hr'=>exact .sl _ _ _ _ b off c gg hc (fun h=>by cases h) hl' hcell hr'
  ·rw [if_neg hτ,Nat.zero_add] at hrel
   have hin:=hi i g hg (by omega)
   obtain ⟨v1,ys,q1,q2,q3,q4⟩:=own_ok H hin
   cases hrel with
   |osl _ _ q5 q6 =>
    rw [q1] at q5
    cases q5
    have hKi:=mem_keys (own?_mem hin)
    rcases q2.2 with ⟨⟨A,rfl⟩,h0⟩|⟨gb,cap,cur,rfl,hc0,hh,hnc,hcm,hcs,htk⟩
    ·have:g.length=0:=h0
     rw [this]
     exact .nil _ _ _ _
    ·refine .sl _ _ _ _ gb 0 cap (fun i j=>cur.getD (i*sz+j) undef) hnc (fun h=>by cases h) q3 (fun i' j' hi2 hj2=>⟨?_,?_⟩) (fun i' j' hi2 hj2 x hx=>?_)
     ·rintro (h|⟨k1,h1,h2⟩)
      ·exact (H.own.lt _ hKi gb (by simp [Names.blk,q1,blkOf];omega)).2 h
      ·exact H.own.apart k1 (K+i) (hkeys k1 h1) hKi (fun e=>hno i hi' (e▸h1)) gb h2 (by simp [Names.blk,q1,blkOf];omega)
     ·have hlt:i'*sz+j'<g.length*sz:=by
       have:(i'+1)*sz≤g.length*sz:=Nat.mul_le_mul_right _ hi2
       rw [Nat.add_mul] at this;omega
      have hlt2:i'*sz+j'<cur.size:=by
       have:g.length*sz≤cap*sz:=Nat.mul_le_mul_right _ hnc
       omega
      rw [Nat.zero_add,cell_of_row w gb _ cur e (0,0) hh]
      simp [hlt2]
     ·obtain ⟨u,p1,p2⟩:=q4 i' j' hi2 hj2 x hx
      have hlt:i'*sz+j'<g.length*sz:=by
       have:(i'+1)*sz≤g.length*sz:=Nat.mul_le_mul_right _ hi2
       rw [Nat.add_mul] at this;omega
      have:cur[i'*sz+j']?=some u:=by
       rw [←p1,←htk,List.getElem?_take,if_pos hlt];simp
      simp only [Array.getD_eq_getD_getElem?,this,Option.getD_some]
      exact p2.lasts hlast
 ·exact (H.own.ok k o (own?_mem h)).lasts hlast (Names.le.refl β) (fun _ _=>rfl)
theorem nest_ren {K τ sz a b:Nat}:∀ {i:Nat} {G:List (List X)},a<K→b<K→renL (sw a b) (nestC dx cells K τ sz i G)=nestC dx cells K τ sz i G
 |_,[],_,_=>rfl
 |i,g::G,ha,hb=>by
  simp only [nestC,renL,nest_ren ha hb]
  congr 1
  split
  ·simp [V.ren]
  ·simp only [V.ren]
   rw [show sw a b (K+i)=K+i by unfold sw;rw [if_neg (by omega),if_neg (by omega)]]
end
end Go.Bx
end
section
namespace Go.Bx
open Go.RowKit
section
variable {c:Ctx} {b:Bool} {is:List I} {st:St} {acc:List Lg} {K:List Lg→St→Prop}
theorem TR.keep {d:Option Nat} {q:O} (rd:List Nat) (res:V) (hv:Valid c ⟨d,none,q⟩ st { val:=res,upd:=[],rd:=rd,new:=[] })
  (h:vcR c b is (st.stp d { val:=res,upd:=[],rd:=rd,new:=[] }) (lgs b acc ⟨rd,[]⟩) K):TR c b (⟨d,none,q⟩::is) st acc K:=
 TR.cons { val:=res,upd:=[],rd:=rd,new:=[] } hv (fun k hk=>by simp at hk) (vcR_ok h)
theorem hin1 {own:List (Nat×Own)} {k:Nat} {o:Own} (h:own? own k=some o):∀ k' o',(k',o')∈[(k,o)]→own? own k'=some o':=fun k' o' hm=>by
 simp at hm;obtain ⟨rfl,rfl⟩:=hm;exact h
end
def OwnLeS (s:Nat→Nat) (a:List (Nat×Own)):List (Nat×Own)→Prop
 |[]=>True
 |(k,o)::l=>(∃ o',own? a (s k)=some o'∧OLe (o'.ren s) o)∧OwnLeS s a l
theorem OwnLeS.get {s:Nat→Nat} {a:List (Nat×Own)}:∀ {b:List (Nat×Own)},OwnLeS s a b→∀ k o,(k,o)∈b→∃ o',own? a (s k)=some o'∧OLe (o'.ren s) o
 |[],_,k,o,h=>by simp at h
 |(k',o')::l,h,k,o,hm=>by
  rcases List.mem_cons.1 hm with hm|hm
  ·simp at hm;obtain ⟨rfl,rfl⟩:=hm;exact h.1
  ·exact OwnLeS.get h.2 k o hm
theorem keysO_app (a b:List (Nat×Own)):keysO (a++b)=keysO a++keysO b:=by simp [keysO]
theorem Wk.nest {X:Type} {dx:X} {cells:X→List D} {c:Ctx} {st:St} (x y:Nat) (fn:List Nat) (hfn:c.fn=fn) (hx:x∉fn) (hy:y∉fn) {env:List (Nat×V)} {A:List (Nat×Own)} {N:List Nat} {K' K τ e' e sz:Nat} {G:List (List X)}
  (hB:wkB fn ⟨env,(K',.lit e' 1 0 [])::A,N⟩=true) (hN:N.all (fun k=>decide (k<K))=true) (he:EnvLe (renE (Go.Bx.sw x y) st.env) env) (hA:OwnLeS (Go.Bx.sw x y) st.own A)
  (hl:∃ o',own? st.own (Go.Bx.sw x y K')=some o'∧OLe (o'.ren (Go.Bx.sw x y)) (.lit e' 1 G.length (nestC dx cells K τ sz 0 G)))
  (hi:∀ i g,G[i]?=some g→τ<g.length→∃ o',own? st.own (Go.Bx.sw x y (K+i))=some o'∧OLe (o'.ren (Go.Bx.sw x y)) (.row e sz g.length (fun j=>cells (g.getD j dx)))) :
  Wk c st ⟨env,(K',.lit e' 1 G.length (nestC dx cells K τ sz 0 G))::(A++nestO dx cells K τ e sz 0 G),N++nmN K G.length⟩:=by
 simp only [wkB,Bool.and_eq_true,List.all_eq_true,List.contains_iff_mem] at hB
 obtain ⟨h1,h2,h3,h4⟩:=hB
 have h2:=nodupB_ok h2
 simp only [keysO,List.map_cons,List.nodup_cons] at h2
 have hlt:∀ k,k∈N→k<K:=fun k hk=>by simpa using List.all_eq_true.1 hN k hk
 have hKN:K'∈N:=h4 _ (oNames_in (List.mem_cons_self)).1
 have hAN:∀ k,k∈keysO A→k∈N:=fun k hk=>by
  obtain ⟨o,ho⟩:=keys_mem hk
  exact h4 _ (oNames_in (List.mem_cons_of_mem _ ho)).1
 have hnest:∀ k,k∈keysO (nestO dx cells K τ e sz 0 G)→K≤k∧k<K+G.length:=fun k hk=>by
  have:=nestO_key hk;omega
 refine Wk.rn x y fn hfn hx hy he (fun k o hm=>?_) ?_ (fun k hk=>?_) (fun k hk=>List.mem_append_left _ (h1 k hk)) (fun s v hm k hk=>List.mem_append_left _ (h3 k (envNames_in hm k hk))) (fun k o hm j hj=>?_)
 ·rcases List.mem_cons.1 hm with hm|hm
  ·simp only [Prod.mk.injEq] at hm
   obtain ⟨rfl,rfl⟩:=hm
   exact hl
  ·rcases List.mem_append.1 hm with hm|hm
   ·exact hA.get k o hm
   ·obtain ⟨j,g,g1,g2,rfl,rfl⟩:=nestO_mem hm
    rw [Nat.zero_add]
    exact hi j g g1 g2
 ·simp only [keysO,List.map_cons,List.map_append,List.nodup_cons,List.mem_append,not_or]
  refine ⟨⟨h2.1,fun hk=>?_⟩,List.nodup_append.2 ⟨h2.2,nestO_nodup,fun a ha b hb hab=>?_⟩⟩
  ·have:=hlt _ hKN
   have:=hnest _ hk
   omega
  ·have:=hlt _ (hAN a ha)
   have:=hnest b hb
   omega
 ·simp only [keysO,List.map_cons,List.map_append,List.mem_cons,List.mem_append] at hk
  rcases hk with rfl|hk|hk
  ·exact List.mem_append_left _ hKN
  ·exact List.mem_append_left _ (hAN k hk)
  ·exact List.mem_append_right _ (mem_nmN.2 (hnest k hk))
 ·rcases List.mem_cons.1 hm with hm|hm
  ·simp only [Prod.mk.injEq] at hm
   obtain ⟨rfl,rfl⟩:=hm
   have:=nestC_names hj
   exact List.mem_append_right _ (mem_nmN.2 (by omega))
  ·rcases List.mem_append.1 hm with hm|hm
   ·exact List.mem_append_left _ (h4 _ ((oNames_in (List.mem_cons_of_mem _ hm)).2 j hj))
   ·obtain ⟨j',g,g1,g2,rfl,rfl⟩:=nestO_mem hm
    simp at hj
theorem own?_nestD {X:Type} {dx:X} {cells:X→List D} {K τ e sz i:Nat} {G:List (List X)} (k k1:Nat):own? (delO (nestO dx cells K τ e sz i G) k) k1=if k1=k then none else own? (nestO dx cells K τ e sz i G) k1:=own?_delO nestO_nodup k k1
end Go.Bx
end
section
namespace Go.Bx
set_option maxRecDepth 10000
set_option linter.defProp false
theorem vcl :
 (∀ a,isCall (.mov a)=false) ∧
 (∀ a,makes (.mov a)=false) ∧
 (∀ a b c,isCall (.pick a b c)=false) ∧
 (∀ a b c,makes (.pick a b c)=false) ∧
 (∀ a b,isCall (.alloc a b)=false) ∧
 (∀ a b,isCall (.box a b)=false) ∧
 (∀ a b,isCall (.build a b)=false) ∧
 (∀ a b,makes (.build a b)=false) ∧
 (∀ a b c d,isCall (.bslice a b c d)=false) ∧
 (∀ a b c,isCall (.load a b c)=false) ∧
 (∀ a b c,makes (.load a b c)=false) ∧
 (∀ a b c,isCall (.store a b c)=false) ∧
 (∀ a b c,makes (.store a b c)=false) ∧
 (∀ a b c,isCall (.bin a b c)=false) ∧
 (∀ a b c,makes (.bin a b c)=false) ∧
 (∀ a b c,isCall (.beq a b c)=false) ∧
 (∀ a b c,makes (.beq a b c)=false) ∧
 (∀ a b c d e,isCall (.eqa a b c d e)=false) ∧
 (∀ a b c d e,makes (.eqa a b c d e)=false) ∧
 (∀ a b,isCall (.isnil a b)=false) ∧
 (∀ a b,makes (.isnil a b)=false) ∧
 (∀ a b c,isCall (.shf a b c)=false) ∧
 (∀ a b c,makes (.shf a b c)=false) ∧
 (∀ a b,isCall (.inv a b)=false) ∧
 (∀ a b,makes (.inv a b)=false) ∧
 (∀ a b,isCall (.conv a b)=false) ∧
 (∀ a b,makes (.conv a b)=false) ∧
 (∀ a b c d,isCall (.fld a b c d)=false) ∧
 (∀ a b c d,makes (.fld a b c d)=false) ∧
 (∀ a b,isCall (.fadr a b)=false) ∧
 (∀ a b,makes (.fadr a b)=false) ∧
 (∀ a,isCall (.nilc a)=false) ∧
 (∀ a,makes (.nilc a)=false) ∧
 (∀ a b c,isCall (.iadr a b c)=false) ∧
 (∀ a b c,makes (.iadr a b c)=false) ∧
 (∀ a b c d,isCall (.aadr a b c d)=false) ∧
 (∀ a b c d,makes (.aadr a b c d)=false) ∧
 (∀ a b c d e,isCall (.idx a b c d e)=false) ∧
 (∀ a b c d e,makes (.idx a b c d e)=false) ∧
 (∀ a b,isCall (.sidx a b)=false) ∧
 (∀ a b,makes (.sidx a b)=false) ∧
 (∀ a b,isCall (.ext a b)=false) ∧
 (∀ a b,makes (.ext a b)=false) ∧
 (∀ a,isCall (.len a)=false) ∧
 (∀ a,makes (.len a)=false) ∧
 (∀ a b c,isCall (.mkfn a b c)=false) ∧
 (∀ a b c,makes (.mkfn a b c)=false) ∧
 (∀ a b c,isCall (.mm a b c)=false) ∧
 (∀ a b c,makes (.mm a b c)=false) ∧
 (∀ a b c d e f,isCall (.mks a b c d e f)=false) ∧
 (∀ a b c d e,isCall (.slc a b c d e)=false) ∧
 (∀ a b c d e,makes (.slc a b c d e)=false) ∧
 (∀ a b c,makes (.asl a b c)=false) ∧
 (∀ a b c,isCall (.cpy a b c)=false) ∧
 (∀ a b c,makes (.cpy a b c)=false) ∧
 (∀ a b c d e,isCall (.app a b c d e)=false) ∧
 (∀ a b,isCall (.mkifc a b)=false) ∧
 (∀ a b,makes (.mkifc a b)=false) ∧
 (∀ a b c,isCall (.tas a b c)=false) ∧
 (∀ a b c,makes (.tas a b c)=false) ∧
 (∀ a,isCall (.mkmap a)=false) ∧
 (∀ a b c,isCall (.lkp a b c)=false) ∧
 (∀ a b c,makes (.lkp a b c)=false) ∧
 (∀ a b c,isCall (.mup a b c)=false) ∧
 (∀ a b c,makes (.mup a b c)=false) ∧
 (isCall .never=false) ∧
 (makes .never=false) ∧
 (∀ a,isCall (.cap a)=false) ∧
 (∀ a,makes (.cap a)=false) ∧
 (∀ a b c d e f,isCall (.apz a b c d e f)=false) ∧
 (∀ a b c,makes (.ivk a b c)=false) ∧
 (∀ a b,makes (.call a b)=false) ∧
 (∀ a b,makes (.callv a b)=false) ∧
 (∀ l,toDs (.un::l)=none) ∧
 (∀ a,isCell (.d a)=true) ∧
 (∀ a,cellsV (.d a)=some [(.d a)]) ∧
 (∀ a,isCell (.mem a)=true) ∧
 (∀ a,cellsV (.mem a)=some [(.mem a)]) ∧
 (∀ a l,toDs ((.mem a)::l)=none) ∧
 (∀ a b,isCell (.own a b)=true) ∧
 (∀ a b,cellsV (.own a b)=some [(.own a b)]) ∧
 (∀ a b l,toDs ((.own a b)::l)=none) ∧
 (∀ a,isCell (.osl a)=true) ∧
 (∀ a,cellsV (.osl a)=some [(.osl a)]) ∧
 (∀ a l,toDs ((.osl a)::l)=none) ∧
 (∀ a b c d,isCell (.osub a b c d)=true) ∧
 (∀ a b c d,cellsV (.osub a b c d)=some [(.osub a b c d)]) ∧
 (∀ a b c d l,toDs ((.osub a b c d)::l)=none) ∧
 (∀ a b c d,isCell (.optr a b c d)=true) ∧
 (∀ a b c d,cellsV (.optr a b c d)=some [(.optr a b c d)]) ∧
 (∀ a b c d l,toDs ((.optr a b c d)::l)=none) ∧
 (∀ a b c,isCell (.fn a b c)=true) ∧
 (∀ a b c,cellsV (.fn a b c)=some [(.fn a b c)]) ∧
 (∀ a b c l,toDs ((.fn a b c)::l)=none) ∧
 (∀ a b,isCell (.ifc a b)=true) ∧
 (∀ a b,cellsV (.ifc a b)=some [(.ifc a b)]) ∧
 (∀ a b l,toDs ((.ifc a b)::l)=none) ∧
 (∀ a l,toDs ((.ag a)::l)=none) ∧
 (∀ a l,toDs ((.tup a)::l)=none) ∧
 (∀ a b l,toDs ((.gd a b)::l)=none) ∧
 (∀ n,dropV [] (n+1)=[]) ∧
 (∀ n,takeV [] (n+1)=[]) ∧
 (∀ n,dropD [] (n+1)=[]) ∧
 (∀ n,takeDV [] (n+1)=[]) ∧
 (∀ v l n,putV (v::l) n []=v::l) ∧
 (∀ v l n y ys,putV (v::l) (n+1) (y::ys)=v::putV l n (y::ys)) ∧
 (∀ st p d x,opR st p d (.inv .not x)=match evV st x with|.d (.bool a)=>{ side:=evS p st x,val:=.d (.bool (!a)) }|_=>.bad) ∧
 (∀ st p d x,opR st p d (.inv .neg x)=match evV st x with|.d (.int k a)=>{ side:=evS p st x,val:=.d (.int k (k.wrap (0-a))) }|_=>.bad):=
 ⟨fun _=>rfl,fun _=>rfl,fun _ _ _=>rfl,fun _ _ _=>rfl,fun _ _=>rfl,fun _ _=>rfl,fun _ _=>rfl,fun _ _=>rfl,fun _ _ _ _=>rfl,fun _ _ _=>rfl,fun _ _ _=>rfl,fun _ _ _=>rfl,fun _ _ _=>rfl,fun _ _ _=>rfl,fun _ _ _=>rfl,fun _ _ _=>rfl,fun _ _ _=>rfl,fun _ _ _ _ _=>rfl,fun _ _ _ _ _=>rfl,fun _ _=>rfl,fun _ _=>rfl,fun _ _ _=>rfl,fun _ _ _=>rfl,fun _ _=>rfl,fun _ _=>rfl,fun _ _=>rfl,fun _ _=>rfl,fun _ _ _ _=>rfl,fun _ _ _ _=>rfl,fun _ _=>rfl,fun _ _=>rfl,fun _=>rfl,fun _=>rfl,fun _ _ _=>rfl,fun _ _ _=>rfl,fun _ _ _ _=>rfl,fun _ _ _ _=>rfl,fun _ _ _ _ _=>rfl,fun _ _ _ _ _=>rfl,fun _ _=>rfl,fun _ _=>rfl,fun _ _=>rfl,fun _ _=>rfl,fun _=>rfl,fun _=>rfl,fun _ _ _=>rfl,fun _ _ _=>rfl,fun _ _ _=>rfl,fun _ _ _=>rfl,fun _ _ _ _ _ _=>rfl,fun _ _ _ _ _=>rfl,fun _ _ _ _ _=>rfl,fun _ _ _=>rfl,fun _ _ _=>rfl,fun _ _ _=>rfl,fun _ _ _ _ _=>rfl,fun _ _=>rfl,fun _ _=>rfl,fun _ _ _=>rfl,fun _ _ _=>rfl,fun _=>rfl,fun _ _ _=>rfl,fun _ _ _=>rfl,fun _ _ _=>rfl,fun _ _ _=>rfl,rfl,rfl,fun _=>rfl,fun _=>rfl,fun _ _ _ _ _ _=>rfl,fun _ _ _=>rfl,fun _ _=>rfl,fun _ _=>rfl,fun _=>rfl,fun _=>rfl,fun _=>rfl,fun _=>rfl,fun _=>rfl,fun _ _=>rfl,fun _ _=>rfl,fun _ _=>rfl,fun _ _ _=>rfl,fun _=>rfl,fun _=>rfl,fun _ _=>rfl,fun _ _ _ _=>rfl,fun _ _ _ _=>rfl,fun _ _ _ _ _=>rfl,fun _ _ _ _=>rfl,fun _ _ _ _=>rfl,fun _ _ _ _ _=>rfl,fun _ _ _=>rfl,fun _ _ _=>rfl,fun _ _ _ _=>rfl,fun _ _=>rfl,fun _ _=>rfl,fun _ _ _=>rfl,fun _ _=>rfl,fun _ _=>rfl,fun _ _ _=>rfl,fun _=>rfl,fun _=>rfl,fun _=>rfl,fun _=>rfl,fun _ _ _=>rfl,fun _ _ _ _ _=>rfl,fun st p d x=>by cases h:evV st x with|d y=>(cases y<;>simp [opR,h])|_=>simp [opR,h],fun st p d x=>by cases h:evV st x with|d y=>(cases y<;>simp [opR,h])|_=>simp [opR,h]⟩
theorem enl :
 (VsLe [] []=True) ∧
 (∀ x xs y ys,VsLe (x::xs) (y::ys)=(VLe x y∧VsLe xs ys)) ∧
 (∀ x xs,VsLe (x::xs) []=False) ∧
 (∀ x xs,VsLe [] (x::xs)=False):=
 ⟨rfl,fun _ _ _ _=>rfl,fun _ _=>rfl,fun _ _=>rfl⟩
theorem rsl :
 (∀ st r,retV st [r]=resV st r) ∧
 (∀ st,retV st []=.tup (ressV st [])) ∧
 (∀ st r r2 l,retV st (r::r2::l)=.tup (ressV st (r::r2::l))):=
 ⟨fun _ _=>rfl,fun _=>rfl,fun _ _ _ _=>rfl⟩
def vcb:=
 And.intro vcl
 (And.intro
 (And.intro
 (And.intro
 (And.intro
 (And.intro
 (And.intro
 (And.intro
 (And.intro (@Go.Bx.vcC_seq) (@Go.Bx.vcC_reg))
 (And.intro (@Go.Bx.vcC_drw)
 (And.intro (@Go.Bx.vcC_skip) (@Go.Bx.vcC_cond))))
 (And.intro
 (And.intro (@Go.Bx.vcC_block) (@Go.Bx.vcC_exit))
 (And.intro (@Go.Bx.vcC_ret)
 (And.intro (@Go.Bx.vcC_bad) (@Go.Bx.seqK_nrm)))))
 (And.intro
 (And.intro
 (And.intro (@Go.Bx.seqK_exit) (@Go.Bx.seqK_ret))
 (And.intro (@Go.Bx.blkK_nrm)
 (And.intro (@Go.Bx.blkK_exit) (@Go.Bx.blkK_ret))))
 (And.intro
 (And.intro (@Go.Bx.lopK_exit)
 (And.intro (@Go.Bx.lopK_ret) (@Go.Bx.lopX_exit)))
 (And.intro (@Go.Bx.lopX_ret)
 (And.intro (@Go.Bx.jmpK_nrm) (@Go.Bx.jmpK_exit))))))
 (And.intro
 (And.intro
 (And.intro
 (And.intro (@Go.Bx.jmpK_ret) (@Go.Bx.nrmK_app))
 (And.intro (@Go.Bx.drwK_app)
 (And.intro (@Go.Bx.initE.eq_1) (@Go.Bx.initE.eq_2))))
 (And.intro
 (And.intro (@Go.Bx.vcR_nil)
 (And.intro (@Go.Bx.vcR_n) (@Go.Bx.vcR_s)))
 (And.intro (@Go.Bx.isCall.eq_1)
 (And.intro (@Go.Bx.isCall.eq_2) (@Go.Bx.isCall.eq_3)))))
 (And.intro
 (And.intro
 (And.intro (@Go.Bx.isCall.eq_4) (@Go.Bx.makes.eq_1))
 (And.intro (@Go.Bx.makes.eq_2)
 (And.intro (@Go.Bx.makes.eq_3) (@Go.Bx.makes.eq_4))))
 (And.intro
 (And.intro (@Go.Bx.makes.eq_5)
 (And.intro (@Go.Bx.makes.eq_6) (@Go.Bx.makes.eq_7)))
 (And.intro (@Go.Bx.hasU.eq_1)
 (And.intro (@Go.Bx.hasU.eq_2) (@Go.Bx.slK.eq_1)))))))
 (And.intro
 (And.intro
 (And.intro
 (And.intro
 (And.intro (@Go.Bx.newOf.eq_1) (@Go.Bx.opR.eq_1))
 (And.intro (@Go.Bx.opR.eq_2)
 (And.intro (@Go.Bx.opR.eq_3) (@Go.Bx.opR.eq_4))))
 (And.intro
 (And.intro (@Go.Bx.opR.eq_5) (@Go.Bx.opR.eq_6))
 (And.intro (@Go.Bx.opR.eq_7)
 (And.intro (@Go.Bx.opR.eq_8) (@Go.Bx.opR.eq_9)))))
 (And.intro
 (And.intro
 (And.intro (@Go.Bx.opR.eq_10) (@Go.Bx.opR.eq_11))
 (And.intro (@Go.Bx.opR.eq_12)
 (And.intro (@Go.Bx.opR.eq_13) (@Go.Bx.opR.eq_17))))
 (And.intro
 (And.intro (@Go.Bx.opR.eq_18)
 (And.intro (@Go.Bx.opR.eq_19) (@Go.Bx.opR.eq_20)))
 (And.intro (@Go.Bx.opR.eq_21)
 (And.intro (@Go.Bx.opR.eq_22) (@Go.Bx.opR.eq_23))))))
 (And.intro
 (And.intro
 (And.intro
 (And.intro (@Go.Bx.opR.eq_24) (@Go.Bx.opR.eq_25))
 (And.intro (@Go.Bx.opR.eq_26)
 (And.intro (@Go.Bx.opR.eq_27) (@Go.Bx.opR.eq_28))))
 (And.intro
 (And.intro (@Go.Bx.opR.eq_29)
 (And.intro (@Go.Bx.opR.eq_30) (@Go.Bx.opR.eq_31)))
 (And.intro (@Go.Bx.opR.eq_32)
 (And.intro (@Go.Bx.opR.eq_33) (@Go.Bx.opR.eq_34)))))
 (And.intro
 (And.intro
 (And.intro (@Go.Bx.opR.eq_35) (@Go.Bx.opR.eq_36))
 (And.intro (@Go.Bx.opR.eq_37)
 (And.intro (@Go.Bx.opR.eq_38) (@Go.Bx.opR.eq_39))))
 (And.intro
 (And.intro (@Go.Bx.opR.eq_40)
 (And.intro (@Go.Bx.opR.eq_41) (@Go.Bx.opR.eq_42)))
 (And.intro (@Go.Bx.opR.eq_43)
 (And.intro (And.intro (@Go.Bx.opR.eq_44) (@Go.Bx.opR.eq_45)) (@Go.Bx.binI.eq_1))))))))
 (And.intro
 (And.intro
 (And.intro
 (And.intro
 (And.intro
 (And.intro (@Go.Bx.binI.eq_2) (@Go.Bx.binI.eq_3))
 (And.intro (@Go.Bx.binI.eq_4)
 (And.intro (@Go.Bx.binI.eq_5) (@Go.Bx.binI.eq_6))))
 (And.intro
 (And.intro (@Go.Bx.binI.eq_7) (@Go.Bx.binI.eq_8))
 (And.intro (@Go.Bx.binI.eq_9)
 (And.intro (@Go.Bx.binI.eq_10) (@Go.Bx.binI.eq_11)))))
 (And.intro
 (And.intro
 (And.intro (@Go.Bx.binI.eq_12) (@Go.Bx.binI.eq_13))
 (And.intro (@Go.Bx.pickV.eq_1)
 (And.intro (@Go.Bx.pickV.eq_2) (@Go.Bx.evS.eq_1))))
 (And.intro
 (And.intro (@Go.Bx.evV.eq_1)
 (And.intro (@Go.Bx.evX.eq_1) (@Go.Bx.evX.eq_2)))
 (And.intro (@Go.Bx.evSs.eq_1)
 (And.intro (@Go.Bx.evSs.eq_2) (@Go.Bx.evVs.eq_1))))))
 (And.intro
 (And.intro
 (And.intro
 (And.intro (@Go.Bx.evVs.eq_2) (@Go.Bx.evParts.eq_1))
 (And.intro (@Go.Bx.evParts.eq_2)
 (And.intro (@Go.Bx.evPartsS.eq_1) (@Go.Bx.evPartsS.eq_2))))
 (And.intro
 (And.intro (@Go.Bx.fillV.eq_1)
 (And.intro (@Go.Bx.fillV.eq_2) (@Go.Bx.catV.eq_1)))
 (And.intro (@Go.Bx.catV.eq_2)
 (And.intro (@Go.Bx.gOf.eq_1) (@Go.Bx.get.eq_1)))))
 (And.intro
 (And.intro
 (And.intro (@Go.Bx.get.eq_2) (@Go.Bx.own?.eq_1))
 (And.intro (@Go.Bx.own?.eq_2)
 (And.intro (@Go.Bx.cellsV.eq_1) (@Go.Bx.cellsV.eq_2))))
 (And.intro
 (And.intro (@Go.Bx.cellsV.eq_3)
 (And.intro (@Go.Bx.cellsV.eq_4) (@Go.Bx.isCell.eq_1)))
 (And.intro (@Go.Bx.isCell.eq_2)
 (And.intro (@Go.Bx.isCell.eq_3) (@Go.Bx.isCell.eq_4)))))))
 (And.intro
 (And.intro
 (And.intro
 (And.intro
 (And.intro (@Go.Bx.cut.eq_1) (@Go.Bx.cutD.eq_1))
 (And.intro (@Go.Bx.nth.eq_1)
 (And.intro (@Go.Bx.nth.eq_2) (@Go.Bx.nth.eq_3))))
 (And.intro
 (And.intro (@Go.Bx.nthD.eq_1) (@Go.Bx.nthD.eq_2))
 (And.intro (@Go.Bx.nthD.eq_3)
 (And.intro (@Go.Bx.dropV.eq_1) (@Go.Bx.dropV.eq_3)))))
 (And.intro
 (And.intro
 (And.intro (@Go.Bx.takeV.eq_1) (@Go.Bx.takeV.eq_3))
 (And.intro (@Go.Bx.dropD.eq_1)
 (And.intro (@Go.Bx.dropD.eq_3) (@Go.Bx.takeDV.eq_1))))
 (And.intro
 (And.intro (@Go.Bx.takeDV.eq_3)
 (And.intro (@Go.Bx.putV.eq_1) (@Go.Bx.putV.eq_3)))
 (And.intro (@Go.Bx.toDs.eq_1)
 (And.intro (@Go.Bx.toDs.eq_2) (@Go.Bx.St.stp.eq_1))))))
 (And.intro
 (And.intro
 (And.intro
 (And.intro (@Go.Bx.Ef.stp.eq_1) (@Go.Bx.Stp.lg.eq_1))
 (And.intro (@Go.Bx.lgs.eq_1)
 (And.intro (@Go.Bx.setE.eq_1) (@Go.Bx.setE.eq_2))))
 (And.intro
 (And.intro (@Go.Bx.applyU.eq_1)
 (And.intro (@Go.Bx.applyU.eq_2) (@Go.Bx.applyU.eq_3)))
 (And.intro (@Go.Bx.setO.eq_1)
 (And.intro (@Go.Bx.setO.eq_2) (@Go.Bx.delO.eq_1)))))
 (And.intro
 (And.intro
 (And.intro (@Go.Bx.delO.eq_2) (@Go.Bx.newN.eq_1))
 (And.intro (@Go.Bx.newN.eq_2)
 (And.intro (@Go.Bx.newN.eq_3) (@Go.Bx.keysO.eq_1))))
 (And.intro
 (And.intro (@Go.Bx.callU.eq_1)
 (And.intro (@Go.Bx.Ef.bad.eq_1) (@Option.getD_some.{0})))
 (And.intro (@Option.getD_none.{0})
 (And.intro (@Option.map_some.{0,0}) (@Option.map_none.{0,0})))))))))
 (And.intro
 (And.intro
 (And.intro
 (And.intro
 (And.intro
 (And.intro
 (And.intro (@List.all_cons.{0}) (@List.all_nil.{0}))
 (And.intro (@List.map_cons.{0,0})
 (And.intro (@List.map_nil.{0,0}) (@List.append_nil.{0}))))
 (And.intro
 (And.intro (@List.nil_append.{0}) (@List.cons_append.{0}))
 (And.intro (@List.length_cons.{0})
 (And.intro (@List.length_nil.{0}) (@List.mem_cons.{0})))))
 (And.intro
 (And.intro
 (And.intro (@List.not_mem_nil.{0}) (@Bool.and_true))
 (And.intro (@Bool.true_and)
 (And.intro (@Bool.and_self) (@Bool.not_true))))
 (And.intro
 (And.intro (@Bool.not_false)
 (And.intro (@Bool.or_self) (@Bool.or_false)))
 (And.intro (@Bool.false_or)
 (And.intro (@Bool.false_eq_true) (@Bool.true_eq_false))))))
 (And.intro
 (And.intro
 (And.intro
 (And.intro (@Bool.cond_true_left) (@Bool.cond_false_right))
 (And.intro (@cond_true.{1})
 (And.intro (@cond_true.{0}) (@cond_false.{1}))))
 (And.intro
 (And.intro (@cond_false.{0})
 (And.intro (@if_true.{1}) (@if_true.{0})))
 (And.intro (@if_false.{1})
 (And.intro (@if_false.{0}) (@true_and)))))
 (And.intro
 (And.intro
 (And.intro (@and_true) (@and_self))
 (And.intro (@false_and)
 (And.intro (@and_false) (@or_false))))
 (And.intro
 (And.intro (@false_or)
 (And.intro (@not_false_eq_true) (@not_true_eq_false)))
 (And.intro (@forall_const.{1})
 (And.intro (@forall_const.{0}) (@true_implies)))))))
 (And.intro
 (And.intro
 (And.intro
 (And.intro
 (And.intro (@false_implies) (@implies_true.{1}))
 (And.intro (@implies_true.{0})
 (And.intro (@imp_self) (@eq_self.{1}))))
 (And.intro
 (And.intro (@eq_self.{0}) (@ne_eq.{1}))
 (And.intro (@ne_eq.{0})
 (And.intro (@Nat.zero_add) (@Nat.add_zero)))))
 (And.intro
 (And.intro
 (And.intro (@Nat.le_refl) (@Nat.succ_ne_self))
 (And.intro (@Nat.one_ne_zero)
 (And.intro (@Nat.zero_ne_one) (@Int.toNat_natCast))))
 (And.intro
 (And.intro (@Go.Bx.litRow.eq_1)
 (And.intro (@List.drop_succ_cons.{0}) (@List.drop_zero.{0})))
 (And.intro (@List.take_succ_cons.{0})
 (And.intro (@List.take_zero.{0}) (@Go.Bx.pubE.eq_1))))))
 (And.intro
 (And.intro
 (And.intro
 (And.intro (@Go.Bx.pubE.eq_2) (@Go.Bx.pubV.eq_1))
 (And.intro (@Go.Bx.pubV.eq_2)
 (And.intro (@Go.Bx.pubV.eq_3) (@Go.Bx.pubV.eq_4))))
 (And.intro
 (And.intro (@Go.Bx.pubV.eq_5)
 (And.intro (@Go.Bx.pubV.eq_6) (@Go.Bx.pubV.eq_7)))
 (And.intro (@Go.Bx.pubV.eq_8)
 (And.intro (@Go.Bx.pubV.eq_9) (@Go.Bx.pubV.eq_10)))))
 (And.intro
 (And.intro
 (And.intro (@Go.Bx.pubV.eq_11) (@Go.Bx.pubV.eq_12))
 (And.intro (@Go.Bx.pubL.eq_1)
 (And.intro (@Go.Bx.pubL.eq_2) (@Go.Bx.pubO.eq_1))))
 (And.intro
 (And.intro (@Go.Bx.pubO.eq_2)
 (And.intro (@Go.Bx.pubO.eq_3) (@Go.Bx.pubO.eq_4)))
 (And.intro (@Go.Bx.pubO.eq_5)
 (And.intro (@Go.Bx.pubFE.eq_1) (@Go.Bx.pubFE.eq_2))))))))
 (And.intro
 (And.intro
 (And.intro
 (And.intro
 (And.intro
 (And.intro (@Go.Bx.pubFV.eq_1) (@Go.Bx.pubFV.eq_2))
 (And.intro (@Go.Bx.pubFV.eq_3)
 (And.intro (@Go.Bx.pubFV.eq_4) (@Go.Bx.pubFV.eq_5))))
 (And.intro
 (And.intro (@Go.Bx.pubFV.eq_6) (@Go.Bx.pubFV.eq_7))
 (And.intro (@Go.Bx.pubFV.eq_8)
 (And.intro (@Go.Bx.pubFV.eq_9) (@Go.Bx.pubFV.eq_10)))))
 (And.intro
 (And.intro
 (And.intro (@Go.Bx.pubFV.eq_11) (@Go.Bx.pubFV.eq_12))
 (And.intro (@Go.Bx.pubFL.eq_1)
 (And.intro (@Go.Bx.pubFL.eq_2) (@Go.Bx.pubFO.eq_1))))
 (And.intro
 (And.intro (@Go.Bx.pubFO.eq_2)
 (And.intro (@Go.Bx.pubFO.eq_3) (@Go.Bx.pubFO.eq_4)))
 (And.intro (@Go.Bx.pubFO.eq_5)
 (And.intro (@Go.Bx.delO.eq_1) (@Go.Bx.delO.eq_2))))))
 (And.intro
 (And.intro
 (And.intro
 (And.intro (@Go.Bx.eqS.eq_1) (@Go.Bx.eqS.eq_2))
 (And.intro (@Go.Bx.eqS.eq_3)
 (And.intro (@Go.Bx.eqB.eq_1) (@Go.Bx.eqB.eq_2))))
 (And.intro
 (And.intro (@Go.Bx.eqB.eq_3)
 (And.intro (@Nat.not_lt_zero) (@Nat.sub_zero)))
 (And.intro (@decide_true)
 (And.intro (@decide_false) (@true_or)))))
 (And.intro
 (And.intro
 (And.intro (@or_true) (@Int.le_refl))
 (And.intro (@Int.cast_ofNat_Int)
 (And.intro (@beq_self_eq_true.{0}) (@Nat.mul_one))))
 (And.intro
 (And.intro (@Nat.one_mul)
 (And.intro (@Nat.zero_mul) (@Go.Bx.V.ren.eq_1)))
 (And.intro (@Go.Bx.V.ren.eq_2)
 (And.intro (@Go.Bx.V.ren.eq_3) (@Go.Bx.V.ren.eq_4)))))))
 (And.intro
 (And.intro
 (And.intro
 (And.intro
 (And.intro (@Go.Bx.V.ren.eq_5) (@Go.Bx.V.ren.eq_6))
 (And.intro (@Go.Bx.V.ren.eq_7)
 (And.intro (@Go.Bx.V.ren.eq_8) (@Go.Bx.V.ren.eq_9))))
 (And.intro
 (And.intro (@Go.Bx.V.ren.eq_10)
 (And.intro (@Go.Bx.V.ren.eq_11) (@Go.Bx.V.ren.eq_12)))
 (And.intro (@Go.Bx.renL.eq_1)
 (And.intro (@Go.Bx.renL.eq_2) (@Go.Bx.renO.eq_1)))))
 (And.intro
 (And.intro
 (And.intro (@Go.Bx.renO.eq_2) (@Go.Bx.renE.eq_1))
 (And.intro (@Go.Bx.renE.eq_2)
 (And.intro (@Go.Bx.Own.ren.eq_1) (@Go.Bx.Own.ren.eq_2))))
 (And.intro
 (And.intro (@Go.Bx.Own.ren.eq_3)
 (And.intro (@Go.Bx.Own.ren.eq_4) (@Go.Bx.sw.eq_1)))
 (And.intro (@Go.Bx.mapE.eq_1)
 (And.intro (@Go.Bx.mapE.eq_2) (@Go.Bx.mapO.eq_1))))))
 (And.intro
 (And.intro
 (And.intro
 (And.intro (@Go.Bx.mapO.eq_2) (@Go.Bx.mapO.eq_3))
 (And.intro (@Go.Bx.mapO.eq_4)
 (And.intro (@Go.Bx.mapO.eq_5) (@Go.Bx.shrV.eq_1))))
 (And.intro
 (And.intro (@Go.Bx.shrV.eq_2)
 (And.intro (@Go.Bx.shrV.eq_3) (@Go.Bx.shrV.eq_4)))
 (And.intro (@Go.Bx.shrV.eq_5)
 (And.intro (@Go.Bx.shrV.eq_6) (@Go.Bx.shrV.eq_7)))))
 (And.intro
 (And.intro
 (And.intro (@Go.Bx.shrV.eq_8) (@Go.Bx.shrV.eq_9))
 (And.intro (@Go.Bx.shrV.eq_10)
 (And.intro (@Go.Bx.shrV.eq_11) (@Go.Bx.shrV.eq_12))))
 (And.intro
 (And.intro (@Go.Bx.shrL.eq_1)
 (And.intro (@Go.Bx.shrL.eq_2) (@Go.Bx.catR.eq_1)))
 (And.intro (@Go.Bx.catR.eq_2)
 (And.intro (@Bool.false_and) (@Bool.and_false))))))))))
def enb:=
 And.intro enl
 (And.intro
 (And.intro
 (And.intro (@Go.Bx.EnvLe.eq_1)
 (And.intro (@Go.Bx.EnvLe.eq_2) (@Go.Bx.OwnLe.eq_1)))
 (And.intro
 (And.intro (@Go.Bx.OwnLe.eq_2) (@Go.Bx.OLe_refl))
 (And.intro (@Go.Bx.VLe_refl) (@Go.Bx.VLe_int))))
 (And.intro
 (And.intro
 (And.intro (@Go.Bx.VLe_bool) (@Go.Bx.VsLe.eq_1))
 (And.intro (@Go.Bx.VsLe.eq_2) (@exists_eq_left.{1})))
 (And.intro
 (And.intro (@exists_eq_left.{0}) (@exists_eq_left'.{1}))
 (And.intro (@exists_eq_left'.{0}) (@Option.some.injEq.{0})))))
def rsb:=
 And.intro rsl
 (And.intro
 (And.intro
 (And.intro (@Go.Bx.ressS.eq_1) (@Go.Bx.ressS.eq_2))
 (And.intro (@Go.Bx.resS.eq_1) (@Go.Bx.resS.eq_2)))
 (And.intro
 (And.intro (@Go.Bx.retV.eq_1) (@Go.Bx.ressV.eq_1))
 (And.intro (@Go.Bx.ressV.eq_2)
 (And.intro (@Go.Bx.resV.eq_1) (@Go.Bx.resV.eq_2)))))
end Go.Bx
end
section
namespace Go.Bx
open Go.RowKit
structure CliZ (fn:List Nat) (Z:Nat→List (Nat×Own)):Prop where
 nodup:∀ k,(keysO (Z k)).Nodup
 names:∀ k n,n∈ownNames (Z k)→n∈keysO (Z k)
 ge:∀ k n,n∈keysO (Z k)→1000000≤n
 fx:∀ k n,n∈fn→n∈keysO (Z k)
def IterK (c:Ctx) (Z:List (Nat×Own)):Kont
 |.nrm,st=>∃ st',Wk c st st'∧OwnLe st'.own Z
 |.exit _,_=>False
 |.ret,st=>∃ st',Wk c st st'∧OwnLe st'.own Z
theorem OwnsOk.sub {E0:Nat→Prop} {β:Names} {w:World} {own outs:List (Nat×Own)} (h:OwnsOk E0 β w own) (ho:OwnLe own outs) (hnd:(keysO outs).Nodup):OwnsOk E0 β w outs:=by
 have hkey:∀ k,k∈keysO outs→k∈keysO own:=fun k hk=>by
  obtain ⟨o,hm⟩:=keys_mem hk
  obtain ⟨o',h1,_⟩:=OwnLe.get ho k o hm
  exact mem_keys (own?_mem h1)
 have hl:Lasts (Eo E0 β own) (Eo E0 β outs) w w:=fun b _ h1=>⟨fun h2=>h1 (h2.imp id fun ⟨k,h3,h4⟩=>⟨k,hkey k h3,h4⟩),rfl⟩
 refine ⟨fun k o hk=>?_,hnd,fun k k' h1 h2=>h.apart k k' (hkey k h1) (hkey k' h2),fun k h1=>h.lt k (hkey k h1)⟩
 obtain ⟨o',h1,h2⟩:=OwnLe.get ho k o hk
 exact (h2 _ _ _ _ (h.ok k o' (own?_mem h1))).lasts hl (Names.le.refl β) (fun _ _=>rfl)
theorem iter_of_vc {P:Program} {gf:FuncId} {fn:Func} {code:Code} {cc:C} {caps:List V} {args:Nat→List V} {n:Nat}
  (hf:P.funcs[gf]?=some fn) (hok:okF P gf=true) (hb:fn.body=some code) (hcc:cCode P fn.ntmps code=some cc) (hrs:cRess P fn.results.toList=some []) (hlen:caps.length+1≤fn.ntmps) (hcap:namesL caps=[]) (hargs:∀ k,namesL (args k)=[])
  (h:∀ (c:Ctx) (l T:Nat) (stop:Bool) (Z:Nat→List (Nat×Own)),c.P=P→c.nt=fn.ntmps→CliZ c.fn Z→(stop=false→T=n)→(stop=true→0<T∧T≤n)→(∀ k,k<T→YR c l (args k) (Z k) (Z (k+1)) (goAt T stop k)) →
   vcC c cc ⟨initE 0 (.fn (.yield l) [] []::caps),Z 0,keysO (Z 0)⟩ (IterK c (Z T))):IterC P gf caps args n:=by
 refine ⟨hok,fun l EI LI wI βI fx T stop O vals hcli hT hT' hE hLI hown hvs hvr hY=>?_⟩
 let β0:Names:=fun m=>open Classical in if h:∃ q,q∈keysO (O 0)∧pk fx 0 q=m then βI (Classical.choose h) else none
 have hβ0:∀ q,q∈keysO (O 0)→β0 (pk fx 0 q)=βI q:=fun q hq=>by
  have hyes:∃ q',q'∈keysO (O 0)∧pk fx 0 q'=pk fx 0 q:=⟨q,hq,rfl⟩
  simp only [β0,dif_pos hyes]
  rw [(pk_eq (Classical.choose_spec hyes).2).1]
 have hβn:∀ m,m∉keysO (renO (pk fx 0) (O 0))→β0 m=none:=fun m hm=>by
  have hno:¬ ∃ q',q'∈keysO (O 0)∧pk fx 0 q'=m:=by
   rintro ⟨q,h1,rfl⟩
   exact hm (by rw [keys_renO];exact List.mem_map.2 ⟨q,h1,rfl⟩)
  simp only [β0,dif_neg hno]
 have hpk:∀ (k n m:Nat),n∈keysO (O k)→m∈keysO (O k)→pk fx k n=pk fx k m→n=m:=fun _ _ _ _ _ e=>(pk_eq e).1
 let c:Ctx:={ P:=P,E0:=EI,w0:=wI,L:=LI,nt:=fn.ntmps,fn:=fx.map (pk fx 0),fx:=β0,rd:=none,hE:=hE }
 obtain ⟨hup,hupE⟩:=hown.ren (β':=β0) (hcli.names 0) hβ0 (hpk 0)
 have hZ:CliZ c.fn (fun k=>renO (pk fx k) (O k)):=by
  refine ⟨fun k=>?_,fun k m hm=>?_,fun k m hm=>?_,fun k m hm=>?_⟩
  ·simp only [keys_renO];exact nodup_map_on (hcli.nodup k) (hpk k)
  ·simp only [ownNames_ren,keys_renO,List.mem_map] at hm ⊢
   obtain ⟨q,hq,rfl⟩:=hm
   exact ⟨q,hcli.names k q hq,rfl⟩
  ·simp only [keys_renO,List.mem_map] at hm
   obtain ⟨q,hq,rfl⟩:=hm
   exact pk_ge fx k q
  ·simp only [c,keys_renO,List.mem_map] at hm ⊢
   obtain ⟨q,hq,rfl⟩:=hm
   exact ⟨q,hcli.fx k q hq,by rw [pk_fx hq,pk_fx hq]⟩
 have hYR:∀ k,k<T→YR c l (args k) (renO (pk fx k) (O k)) (renO (pk fx (k+1)) (O (k+1))) (goAt T stop k):=fun k hk =>
  yr_ok (c:=c) (βI:=βI) (fx:=fx) (O:=O) (k:=k) (fun q hq=>⟨List.mem_map.2 ⟨q,hq,rfl⟩,hβ0 q (hcli.fx 0 q hq)⟩) hcli (hY k hk) (hargs k)
 have hsz:(#[Value.func (.yield l) #[] #[]]++vals:Array Value).size=caps.length+1:=by simp;omega
 have hv:∀ (j:Nat) (v:Value) (x:V),(#[Value.func (.yield l) #[] #[]]++vals:Array Value)[j]?=some v→(V.fn (.yield l) [] []::caps)[j]?=some x→RelV β0 (Eo EI β0 (renO (pk fx 0) (O 0))) wI v x:=fun j v x h1 h2=>by
  cases j with
  |zero =>
   rw [Array.getElem?_append_left (by simp)] at h1
   simp at h1 h2;subst h1;subst h2
   exact .fn _ _ _ _ _ rfl rfl (fun j v x hv=>by simp at hv) (fun j v x hv=>by simp at hv)
  |succ j =>
   rw [Array.getElem?_append_right (by simp)] at h1
   simp at h1 h2
   rw [hupE]
   refine (hvr j v x h1 h2).lasts (Lasts.refl _ _) fun m hm=>?_
   have:=names_mem h2 m hm;rw [hcap] at this;cases this
 have H:Holds c β0 ⟨initE 0 (.fn (.yield l) [] []::caps),renO (pk fx 0) (O 0),keysO (renO (pk fx 0) (O 0))⟩ { tmps:=(#[Value.func (.yield l) #[] #[]]++vals)++Array.replicate (fn.ntmps-(#[Value.func (.yield l) #[] #[]]++vals:Array Value).size) undef,defers:=[] } wI:=by
  refine ⟨by simp [c];omega,DfOk.nil rfl,fun s=>?_,hup,fun k hk b hb1=>.inr ?_,fun k hk=>hk,fun k hk=>hβn k hk,Keeps.refl _ _,fun k hk=>⟨hZ.fx 0 k hk,rfl⟩⟩
  ·rw [get_initE,if_pos (Nat.zero_le _),Nat.sub_zero]
   cases ha:(V.fn (.yield l) [] []::caps)[s]? with
   |none=>exact .un _
   |some x =>
    have hsl:s<(#[Value.func (.yield l) #[] #[]]++vals:Array Value).size:=by have:=(List.getElem?_eq_some_iff.1 ha).1;rw [hsz];simpa using this
    have hvs':=Array.getElem?_eq_getElem hsl
    have:((#[Value.func (.yield l) #[] #[]]++vals)++Array.replicate (fn.ntmps-(#[Value.func (.yield l) #[] #[]]++vals:Array Value).size) undef).getD s undef=(#[Value.func (.yield l) #[] #[]]++vals:Array Value)[s]:=by
     rw [Array.getD_eq_getD_getElem?,Array.getElem?_append_left hsl,hvs'];rfl
    simp only
    rw [this]
    exact hv s _ x hvs' ha
  ·rw [keys_renO] at hk
   obtain ⟨q,hq,rfl⟩:=List.mem_map.1 hk
   simp only [c,hLI]
   exact ⟨q,hq,by simp only [Names.blk,←hβ0 q hq];exact hb1⟩
 refine (callsIn_wide (n:=0)).1 (callsIn_of_wp_marks hf hb trivial (wpIn_mono (code_ok (c:=c) hcc (h c l T stop (fun k=>renO (pk fx k) (O k)) rfl rfl hZ hT hT' hYR) β0 _ wI H) ?_))
 rintro e a' w' (⟨ex,he,β1,st1,hk,H1⟩|⟨ch,rfl,hpan⟩)
 rotate_left
 ·obtain ⟨_,_,_,_,_,hq,_⟩:=hpan;exact hq.elim
 have fin:(∃ st2,Wk c st1 st2∧OwnLe st2.own (renO (pk fx T) (O T)))→LeavesInM Fence.wide 0 P fn a'.tmps (fun e w'=>∃ v β',e=.returned v∧(∀ n,n∈fx→β' n=βI n)∧OwnsOk EI β' w' (O T)∧Keeps LI wI w'∧(∀ k,k∈keysO (O T)→∀ b,β'.blk k=some b→wI.heap.size≤b∨LI b)) a'.defers .returning w':=by
  rintro ⟨st2,hs2,hout⟩
  obtain ⟨β2,H2⟩:=hs2 β1 a' w' H1
  refine leaves_marks (c:=c) rfl a'.defers rfl H2 fun a' w' _ H2=>?_
  obtain ⟨v,hrun,-⟩:=results_ok (fn:=fn) H2 hrs trivial
  have h1:=H2.own.sub hout (by rw [keys_renO];exact nodup_map_on (hcli.nodup T) (hpk T))
  obtain ⟨h2,-⟩:=h1.unren (hcli.nodup T) (hpk T)
  refine ⟨v,hrun,v,fun q=>β2 (pk fx T q),rfl,fun q hq=>?_,h2,H2.kp,fun k hk b hb=>H2.fr (pk fx T k) ?_ b hb⟩
  ·have:=(H2.fx (pk fx 0 q) (List.mem_map.2 ⟨q,hq,rfl⟩)).2
   simp only
   rw [pk_fx hq,←pk_fx hq 0,this]
   exact hβ0 q (hcli.fx 0 q hq)
  ·have hm:pk fx T k∈keysO (renO (pk fx T) (O T)):=by rw [keys_renO];exact List.mem_map.2 ⟨k,hk,rfl⟩
   obtain ⟨o,ho⟩:=keys_mem hm
   obtain ⟨o',h3,_⟩:=OwnLe.get hout _ o ho
   exact mem_keys (own?_mem h3)
 cases e<;>simp at he<;>subst he
 ·exact fin hk
 ·exact hk.elim
 ·exact hk.elim
 ·exact fin hk
section
variable {c:Ctx} {st:St}
theorem own?_Z {fn:List Nat} {Z:Nat→List (Nat×Own)} (h:CliZ fn Z) {k n:Nat} (hn:n<1000000):own? (Z k) n=none:=own?_none fun hm=>by have:=h.ge k n hm;omega
theorem Wk.ofZ0 {fn:List Nat} {Z:Nat→List (Nat×Own)} (hZ:CliZ fn Z) (hfn:c.fn=fn) (k:Nat) {env:List (Nat×V)} {own:List (Nat×Own)} {nm:List Nat} (hB:wkB [] ⟨env,own,nm⟩=true) (hnm:(nm.all fun n=>decide (n<1000000))=true)
  (he:∀ s,VLe (Go.Bx.get st.env s) (Go.Bx.get env s)) (ho:OwnLe st.own own) (hr:∀ n o,(n,o)∈Z k→own? st.own n=some o):Wk c st ⟨env,own++Z k,nm++keysO (Z k)⟩:=by
 simp only [wkB,Bool.and_eq_true,List.all_eq_true,List.contains_iff_mem] at hB
 obtain ⟨-,h2,h3,h4⟩:=hB
 have hk:∀ n,n∈keysO own→n∈nm:=fun n hk=>by obtain ⟨o,ho'⟩:=keys_mem hk;exact h4 n (oNames_in ho').1
 have hlt:∀ n,n∈nm→n<1000000:=fun n hn=>by simpa using List.all_eq_true.1 hnm n hn
 have hkZ:∀ n,n∈keysO (own++Z k)→n∈keysO own∨n∈keysO (Z k):=fun n hn=>by rw [keysO_app] at hn;exact List.mem_append.1 hn
 refine Wk.mk0 he ?_ ?_ (fun n hn=>?_) (fun n hn=>?_) (fun s y hm n hn=>List.mem_append_left _ (h3 n (envNames_in hm n hn))) (fun n o hm j hj=>?_)
 ·refine OwnLe.of fun n o hm=>?_
  rcases List.mem_append.1 hm with hm|hm
  ·exact OwnLe.get ho n o hm
  ·exact ⟨o,hr n o hm,OLe.refl o⟩
 ·rw [keysO_app,List.nodup_append]
  exact ⟨nodupB_ok h2,hZ.nodup k,fun a ha b hb e=>by have:=hlt a (hk a ha);have:=hZ.ge k b hb;omega⟩
 ·rcases hkZ n hn with h|h
  ·exact List.mem_append_left _ (hk n h)
  ·exact List.mem_append_right _ h
 ·exact List.mem_append_right _ (hZ.fx k n (hfn▸hn))
 ·rcases List.mem_append.1 hm with hm|hm
  ·exact List.mem_append_left _ (h4 j ((oNames_in hm).2 j hj))
  ·exact List.mem_append_right _ (hZ.names k j (ownNames_in hm j hj))
theorem Wk.ofZ {fn:List Nat} {Z:Nat→List (Nat×Own)} (hZ:CliZ fn Z) (hfn:c.fn=fn) (k:Nat) {env:List (Nat×V)} {own:List (Nat×Own)} {nm:List Nat} (hB:wkB [] ⟨env,own,nm⟩=true) (hnm:(nm.all fun n=>decide (n<1000000))=true)
  (he:EnvLe st.env env) (ho:OwnLe st.own own) (hr:∀ n o,(n,o)∈Z k→own? st.own n=some o):Wk c st ⟨env,own++Z k,nm++keysO (Z k)⟩:=Wk.ofZ0 hZ hfn k hB hnm (EnvLe.get he) ho hr
theorem TR.yield {fn:List Nat} {Z:Nat→List (Nat×Own)} (hZ:CliZ fn Z) (hfn:c.fn=fn) {k l:Nat} {go:Bool} {args:List V} (hY:YR c l args (Z k) (Z (k+1)) go) {env:List (Nat×V)} {own:List (Nat×Own)} {nm:List Nat} (hB:wkB [] ⟨env,own,nm⟩=true) (hnm:(nm.all fun n=>decide (n<1000000))=true)
  {d:Option Nat} {x:X} {xs:List X} {is:List I} {acc:List Lg} {K:List Lg→St→Prop} (hx:evV ⟨env,own++Z k,nm++keysO (Z k)⟩ x=.fn (.yield l) [] []) (hsx:evS true ⟨env,own++Z k,nm++keysO (Z k)⟩ x) (ha:evVs ⟨env,own++Z k,nm++keysO (Z k)⟩ xs=args) (hs:evSs true ⟨env,own++Z k,nm++keysO (Z k)⟩ xs)
  (h:vcR c false is ⟨setE env d (.d (.bool go)),own++Z (k+1),nm++keysO (Z (k+1))⟩ acc K):TR c false (⟨d,none,.callv x xs⟩::is) ⟨env,own++Z k,nm++keysO (Z k)⟩ acc K:=by
 have hB':=hB
 simp only [wkB,Bool.and_eq_true,List.all_eq_true,List.contains_iff_mem] at hB'
 obtain ⟨-,h2,h3,h4⟩:=hB'
 have hk:∀ n,n∈keysO own→n∈nm:=fun n hk=>by obtain ⟨o,ho'⟩:=keys_mem hk;exact h4 n (oNames_in ho').1
 have hlt:∀ n,n∈nm→n<1000000:=fun n hn=>by simpa using List.all_eq_true.1 hnm n hn
 have hnd:(keysO (own++Z k)).Nodup:=by
  rw [keysO_app,List.nodup_append]
  exact ⟨nodupB_ok h2,hZ.nodup k,fun a ha b hb e=>by have:=hlt a (hk a ha);have:=hZ.ge k b hb;omega⟩
 have hin:∀ n o,(n,o)∈Z k→own? (own++Z k) n=some o:=fun n o hm=>mem_own? hnd (List.mem_append_right _ hm)
 refine TR.cons _ (hY d x xs _ hx hsx ha hs hin) (fun n hn h5=>?_) ?_
 ·obtain ⟨h6,h7⟩:=List.mem_filter.1 hn
  rcases List.mem_append.1 h5 with h5|h5
  ·have:=hlt n h5;have:=hZ.ge _ n h6;omega
  ·simp only [Bool.not_eq_true',List.contains_eq_mem,decide_eq_false_iff_not] at h7
   exact h7 h5
 ·simp only [lgs,Bool.false_eq_true,if_false]
  refine TR.wk ⟨setE env d (.d (.bool go)),own++Z (k+1),nm++keysO (Z (k+1))⟩ ?_ (vcR_ok h)
  have hcall:=fun n=>own?_call (ins:=Z k) (outs:=Z (k+1)) hnd (hZ.nodup (k+1)) n
  have hwk:=Wk.ofZ0 (c:=c) (st:=St.stp ⟨env,own++Z k,nm++keysO (Z k)⟩ d { val:=.d (.bool go),upd:=callU (Z k) (Z (k+1)),rd:=keysO (Z k),new:=(keysO (Z (k+1))).filter fun n=>!(keysO (Z k)).contains n }) hZ hfn (k+1) (env:=setE env d (.d (.bool go))) (own:=own) (nm:=nm) ?_ hnm ?_ ?_ ?_
  ·exact hwk
  ·simp only [wkB,List.all_nil,Bool.true_and,Bool.and_eq_true,List.all_eq_true,List.contains_iff_mem] at hB ⊢
   refine ⟨hB.1,fun n hn=>?_,hB.2.2⟩
   cases d with
   |none=>exact hB.2.1 n hn
   |some d =>
    simp only [setE,envNames,V.names,List.nil_append] at hn
    exact hB.2.1 n hn
  ·exact fun s=>VLe.refl _
  ·refine OwnLe.of fun n o hm=>⟨o,?_,OLe.refl o⟩
   have hn:=hlt n (hk n (mem_keys hm))
   show own? (applyU (own++Z k) (callU (Z k) (Z (k+1)))) n=some o
   rw [hcall,own?_Z hZ hn]
   simp only
   rw [if_neg (fun h=>by have:=hZ.ge k n h;omega)]
   exact mem_own? hnd (List.mem_append_left _ hm)
  ·intro n o hm
   show own? (applyU (own++Z k) (callU (Z k) (Z (k+1)))) n=some o
   rw [hcall,mem_own? (hZ.nodup (k+1)) hm]
theorem vcC.rfnAll {K:Kont} {x:X} {ps:List Nat} {a b:C} {gf:FuncId} {caps:List V} {args:Nat→List V} {n:Nat} (hI:IterC c.P gf caps args n) (env0:List (Nat×V)) (NF:List Nat) (O O1:Nat→List (Nat×Own)) (env1:Nat→List (Nat×V))
  (hwk:Wk c st ⟨env0,O 0,keysO (O 0)⟩) (hx:evV ⟨env0,O 0,keysO (O 0)⟩ x=.fn (.func gf) [] caps) (hsx:evS true ⟨env0,O 0,keysO (O 0)⟩ x) (hO:RfnO c env0 NF n n none caps args O O1 ps.length)
  (hA:∀ k,k<n→∀ cB:Ctx,cB.P=c.P→cB.fn=NF→vcC cB a ⟨setPs ps (args k) env0,O k,keysO (O k)⟩ (rfnA cB (env1 k) (O1 k)))
  (hB:∀ k,k<n→∀ cB:Ctx,cB.P=c.P→cB.fn=NF→vcC cB b ⟨env1 k,O1 k,keysO (O1 k)⟩ (rfnB cB true none (O (k+1))))
  (hK:K .nrm ⟨env0,O n,keysO (O n)⟩):vcC c (.rfn x ps a b) st K:=by
 unfold vcC
 refine ⟨gf,caps,env0,NF,n,n,none,args,O,O1,env1,hwk,hx,hsx,hO,hI,fun k hk cB h1 _ h3=>⟨hA k hk cB h1 h3,?_⟩,fun _=>hK,fun e he=>by cases he⟩
 have:goAt n (none:Option Ex).isSome k=true:=by simp [goAt]
 rw [this]
 exact hB k hk cB h1 h3
theorem vcC.rfnJ {K:Kont} {x:X} {ps:List Nat} {a b:C} {gf:FuncId} {caps:List V} {args:Nat→List V} {n:Nat} (hI:IterC c.P gf caps args n) (T:Nat) (J:Option Ex) (env0:List (Nat×V)) (NF:List Nat) (O O1:Nat→List (Nat×Own)) (env1:Nat→List (Nat×V))
  (hwk:Wk c st ⟨env0,O 0,keysO (O 0)⟩) (hx:evV ⟨env0,O 0,keysO (O 0)⟩ x=.fn (.func gf) [] caps) (hsx:evS true ⟨env0,O 0,keysO (O 0)⟩ x) (hO:RfnO c env0 NF n T J caps args O O1 ps.length)
  (hA:∀ k,k<T→∀ cB:Ctx,cB.P=c.P→cB.fn=NF→vcC cB a ⟨setPs ps (args k) env0,O k,keysO (O k)⟩ (rfnA cB (env1 k) (O1 k)))
  (hB:∀ k,k<T→∀ cB:Ctx,cB.P=c.P→cB.fn=NF→vcC cB b ⟨env1 k,O1 k,keysO (O1 k)⟩ (rfnB cB (goAt T J.isSome k) J (O (k+1))))
  (hK:J=none→K .nrm ⟨env0,O T,keysO (O T)⟩) (hK':∀ e,J=some e→K e ⟨env0,O T,keysO (O T)⟩):vcC c (.rfn x ps a b) st K:=by
 unfold vcC
 exact ⟨gf,caps,env0,NF,n,T,J,args,O,O1,env1,hwk,hx,hsx,hO,hI,fun k hk cB h1 _ h3=>⟨hA k hk cB h1 h3,hB k hk cB h1 h3⟩,hK,hK'⟩
theorem rfnA_nrm {env:List (Nat×V)} {O:List (Nat×Own)} {st':St}:rfnA c env O .nrm st'=Wk c st' ⟨env,O,keysO O⟩:=propext ⟨fun h=>h,fun h=>h⟩
theorem IterK.mk {Z:List (Nat×Own)} (st1:St) (h:Wk c st st1) (h1:OwnLe st1.own Z):IterK c Z .ret st:=⟨st1,h,h1⟩
theorem IterK.mk' {Z:List (Nat×Own)} (st1:St) (h:Wk c st st1) (h1:OwnLe st1.own Z):IterK c Z .nrm st:=⟨st1,h,h1⟩
end
end Go.Bx
end
section
namespace Go.Bx
open Go.RowKit
def seqW (c:Ctx) (b:C) (K:Kont):Kont
 |.nrm,st=>∃ st1,Wk c st st1∧vcC c b st1 K
 |.exit i,st=>K (.exit i) st
 |.ret,st=>K .ret st
theorem seqW_nrm {c:Ctx} {b:C} {K:Kont} {st:St}:seqW c b K .nrm st=∃ st1,Wk c st st1∧vcC c b st1 K:=propext ⟨fun h=>h,fun h=>h⟩
theorem cCode_seq {P:Program} {nt n:Nat} {code:Code} {ca cb:C} (h:cCodeF P nt (n+1) code=some (.seq ca cb)):∃ a b,code=.seq a b∧cCodeF P nt n a=some ca∧cCodeF P nt n b=some cb:=by
 cases code with
 |seq x y =>
  simp only [cCodeF] at h
  split at h
  ·rename_i x' y' h1 h2
   cases h
   exact ⟨x,y,rfl,h1,h2⟩
  ·cases h
 |region id ops draw =>
  simp only [cCodeF] at h
  split at h
  ·split at h
   ·cases h
   ·split at h<;>cases h
  ·cases h
 |cond x a b=>simp only [cCodeF] at h;split at h<;>cases h
 |block id a=>simp only [cCodeF,Option.map_eq_some_iff] at h;obtain ⟨_,_,h⟩:=h;cases h
 |loop a=>simp only [cCodeF,Option.map_eq_some_iff] at h;obtain ⟨_,_,h⟩:=h;cases h
 |scope a =>
  simp only [cCodeF] at h
  split at h
  ·split at h
   ·split at h<;>cases h
   ·cases h
  ·cases h
 |rangeFunc g ps asg body =>
  simp only [cCodeF] at h
  split at h
  ·split at h<;>cases h
  ·cases h
 |_=>simp [cCodeF] at h
theorem seqW_ok {c:Ctx} {code:Code} {ca cb:C} {st:St} {K:Kont} (h:cCode c.P c.nt code=some (.seq ca cb)) (hv:vcC c ca st (seqW c cb K)):∀ β a w,Holds c β st a w→code.wpIn c.F 0 c.P (PostX c K) a w:=by
 intro β a w H
 obtain ⟨x,y,rfl,h1,h2⟩:=cCode_seq (n:=63) h
 refine wpIn_seq (wpIn_mono (codeF_ok 63 h1 hv β a w H) ?_)
 rintro e a' w' (⟨ex,he,β',st',hk,H'⟩|⟨ch,rfl,hpan⟩)
 rotate_left
 ·exact .inr ⟨ch,rfl,hpan⟩
 cases e<;>simp at he<;>subst he
 ·obtain ⟨st1,hw,hk⟩:=hk
  obtain ⟨β2,H2⟩:=hw β' a' w' H'
  exact codeF_ok 63 h2 hk β2 a' w' H2
 all_goals exact .inl ⟨_,rfl,β',st',hk,H'⟩
theorem spec_of_seq {P:Program} {f:FuncId} {fn:Func} {code:Code} {rs:List RV} {ca cb:C} {args:List V} {ins outs:List (Nat×Own)} {res:V} {new:List Nat}
  (hf:P.funcs[f]?=some fn) (hok:okF P f=true) (hb:fn.body=some code) (hcc:cCode P fn.ntmps code=some (.seq ca cb)) (hrs:cRess P fn.results.toList=some rs) (hlen:args.length≤fn.ntmps)
  (hko:∀ k,k∈keysO outs→k∈keysO ins∨k∈new) (hno:∀ k,k∈new→k∈keysO outs) (hnd:(keysO outs).Nodup)
  (hnr:∀ k,k∈res.names++ownNames outs→k∈namesL args++ownNames ins∨k∈new)
  (h:∀ c:Ctx,c.P=P→c.nt=fn.ntmps→c.fn=namesL args++ownNames ins→vcC c ca ⟨initE 0 args,ins,namesL args++ownNames ins⟩ (seqW c cb (RetK c rs res outs))):Ctr P f args ins res outs new:=by
 refine ⟨hok,hko,hno,fun E0 β w vals hE hsz hv hins hnn=>?_⟩
 let nm0:=namesL args++ownNames ins
 let βc:Names:=fun k=>if k∈nm0 then β k else none
 have hβc:∀ k,k∈nm0→βc k=β k:=fun k hk=>if_pos hk
 have hkin:∀ k,k∈keysO ins→k∈nm0:=fun k hk=>List.mem_append_right _ (ownNames_key hk)
 have hblk:∀ k,k∈keysO ins→βc.blk k=β.blk k:=fun k hk=>by simp only [Names.blk,hβc k (hkin k hk)]
 let c:Ctx:={ P:=P,E0:=E0,w0:=w,L:=ownB β ins,nt:=fn.ntmps,fn:=nm0,fx:=βc,hE:=hE,rd:=none }
 have hEq:Eo E0 βc ins=Eo E0 β ins:=by
  funext b
  apply propext
  unfold Eo
  constructor
  ·rintro (h1|⟨k,h1,h2⟩)
   ·exact .inl h1
   ·exact .inr ⟨k,h1,by rw [←hblk k h1];exact h2⟩
  ·rintro (h1|⟨k,h1,h2⟩)
   ·exact .inl h1
   ·exact .inr ⟨k,h1,by rw [hblk k h1];exact h2⟩
 have hl0:Lasts (Eo E0 β ins) (Eo E0 βc ins) w w:=by rw [hEq];exact Lasts.refl _ _
 have hsz2:(vals++Array.replicate (fn.ntmps-vals.size) undef).size=fn.ntmps:=by simp;omega
 have H:Holds c βc ⟨initE 0 args,ins,nm0⟩ { tmps:=vals++Array.replicate (fn.ntmps-vals.size) undef,defers:=[] } w:=by
  refine ⟨hsz2,DfOk.nil rfl,fun s=>?_,⟨fun k o hk=>?_,hins.nodup,fun k k' h1 h2 hne b h3 h4=>?_,fun k hk b hb1=>?_⟩,fun k hk b hb1=>?_,fun k hk=>hkin k hk,fun k hk=>if_neg hk,Keeps.refl _ _,fun k hk=>⟨hk,rfl⟩⟩
  ·rw [get_initE,if_pos (Nat.zero_le _),Nat.sub_zero]
   cases ha:args[s]? with
   |none=>exact .un _
   |some x =>
    have hsl:s<vals.size:=by have:=(List.getElem?_eq_some_iff.1 ha).1;omega
    have hvs:vals[s]?=some vals[s]:=Array.getElem?_eq_getElem hsl
    have:(vals++Array.replicate (fn.ntmps-vals.size) undef).getD s undef=vals[s]:=by
     simp only [Array.getD_eq_getD_getElem?,Array.getElem?_append_left hsl,hvs,Option.getD_some]
    simp only
    rw [this]
    exact (hv s _ x hvs ha).lasts hl0 (fun k hk=>hβc k (List.mem_append_left _ (names_mem ha k hk)))
  ·exact (hins.ok k o hk).forget hl0 (hβc k (hkin k (mem_keys hk))) (fun j hj=>hβc j (List.mem_append_right _ (ownNames_in hk j hj))) (fun _ _=>rfl)
  ·rw [hblk k h1] at h3
   rw [hblk k' h2] at h4
   exact hins.apart k k' h1 h2 hne b h3 h4
  ·rw [hblk k hk] at hb1
   exact hins.lt k hk b hb1
  ·rw [hblk k hk] at hb1
   exact .inr ⟨k,hk,hb1⟩
 refine (callsIn_wide (n:=0)).1 (callsIn_of_wp_marks hf hb trivial (wpIn_mono (seqW_ok (c:=c) hcc (h c rfl rfl rfl) βc _ w H) ?_))
 rintro e a' w' (⟨ex,he,β1,st1,hk,H1⟩|⟨ch,rfl,hpan⟩)
 rotate_left
 ·obtain ⟨_,_,_,_,_,hq,_⟩:=hpan;exact hq.elim
 have fin:(∃ st2,Wk c st1 st2∧ressS st2 rs∧VLe (retV st2 rs) res∧OwnLe st2.own outs)→LeavesInM Fence.wide 0 P fn a'.tmps (fun e w'=>∃ v β',e=.returned v∧β.le β'∧(∀ k,k∉new→β' k=β k)∧RelV β' (Eo E0 β' outs) w' v res∧OwnsOk E0 β' w' outs∧Keeps (ownB β ins) w w' ∧
   (∀ k,k∈keysO outs→∀ b,β'.blk k=some b→w.heap.size≤b∨ownB β ins b)) a'.defers .returning w':=by
  rintro ⟨st2,hs2,hrs2,hle2,hout⟩
  obtain ⟨β2,H2⟩:=hs2 β1 a' w' H1
  refine leaves_marks (c:=c) rfl a'.defers rfl H2 fun a' w' _ H2=>?_
  obtain ⟨v,hrun,hrel⟩:=results_ok H2 hrs hrs2
  obtain ⟨βo,hβo⟩:∃ b:Names,∀ k,b k=if k∈new then β2 k else β k:=⟨_,fun _=>rfl⟩
  refine ⟨v,hrun,v,βo,rfl,?_,fun k hk=>(hβo k).trans (if_neg hk),?_⟩
  ·intro k u hu
   by_cases hk:k∈new
   ·rw [hnn k hk] at hu;cases hu
   ·exact ((hβo k).trans (if_neg hk)).trans hu
  have hfx:∀ k,k∈nm0→β2 k=β k:=fun k hk=>by
   have:=(H2.fx k hk).2
   rw [this]
   exact hβc k hk
  have hb':∀ k,(k∈nm0∨k∈new)→βo k=β2 k:=fun k hk=>by
   by_cases hn:k∈new
   ·exact (hβo k).trans (if_pos hn)
   ·exact ((hβo k).trans (if_neg hn)).trans (hfx k (hk.resolve_right hn)).symm
  have hkey:∀ k,k∈keysO outs→k∈keysO st2.own:=fun k hk=>by
   obtain ⟨o,ho⟩:=keys_mem hk
   obtain ⟨o',h1,_⟩:=OwnLe.get hout k o ho
   exact mem_keys (own?_mem h1)
  have hko2:∀ k,k∈keysO outs→k∈nm0∨k∈new:=fun k hk=>(hko k hk).imp (hkin k) id
  have hblk2:∀ k,k∈keysO outs→βo.blk k=β2.blk k:=fun k hk=>by
   simp only [Names.blk]
   rw [hb' k (hko2 k hk)]
  have hlE:Lasts (Eo E0 β2 st2.own) (Eo E0 βo outs) w' w':=by
   intro b _ h1
   refine ⟨?_,rfl⟩
   rintro (h2|⟨k,h2,h3⟩)
   ·exact h1 (.inl h2)
   ·rw [hblk2 k h2] at h3
    exact h1 (.inr ⟨k,hkey k h2,h3⟩)
  refine ⟨(hle2 _ _ _ _ hrel).lasts hlE (fun k hk=>hb' k (hnr k (List.mem_append_left _ hk))),⟨fun k o hk=>?_,hnd,fun k k' h1 h2 hne b h3 h4=>?_,fun k h1 b h3=>?_⟩,H2.kp,fun k h1 b h3=>?_⟩
  ·obtain ⟨o',h1,h2⟩:=OwnLe.get hout k o hk
   exact (h2 _ _ _ _ (own_ok H2 h1)).forget hlE (hb' k (hko2 k (mem_keys hk))) (fun j hj=>hb' j (hnr j (List.mem_append_right _ (ownNames_in hk j hj)))) (fun _ _=>rfl)
  ·rw [hblk2 k h1] at h3
   rw [hblk2 k' h2] at h4
   exact H2.own.apart k k' (hkey k h1) (hkey k' h2) hne b h3 h4
  ·rw [hblk2 k h1] at h3
   exact H2.own.lt k (hkey k h1) b h3
  ·rw [hblk2 k h1] at h3
   exact H2.fr k (hkey k h1) b h3
 cases e<;>simp at he<;>subst he
 ·exact fin hk
 ·exact hk.elim
 ·exact hk.elim
 ·exact fin hk
theorem ctr_ownW {P:Program} {f:FuncId} {fn:Func} {code:Code} {ca cb:C} {rs:List RV} {args:List V} {ins outs:List (Nat×Own)} {res:V} {new:List Nat} {nt:Nat}
  (hf:P.funcs[f]?=some fn) (hok:okF P f=true) (hb:fn.body=some code) (hcc:cCode P fn.ntmps code=some (.seq ca cb)) (hrs:cRess P fn.results.toList=some rs) (hnt:fn.ntmps=nt) (hlen:args.length≤nt)
  (hB:ctrB args ins res outs new=true) (h:∀ c:Ctx,c.P=P→c.fn=namesL args++ownNames ins→vcC c ca ⟨initE 0 args,ins,namesL args++ownNames ins⟩ (seqW c cb (RetK c rs res outs))):Ctr P f args ins res outs new:=by
 simp only [ctrB,Bool.and_eq_true,List.all_eq_true,Bool.or_eq_true,List.contains_iff_mem] at hB
 obtain ⟨h1,h2,h3,h4⟩:=hB
 exact spec_of_seq hf hok hb hcc hrs (hnt▸hlen) h1 h2 (nodupB_ok h3) h4 (fun c e1 _ e2=>h c e1 e2)
end Go.Bx
end
section
namespace Go.Bx
open Go.RowKit
def vcS (c:Ctx) (cc:C) (st:St) (K:Kont):Prop:=∀ (n:Nat) (code:Code),cCodeF c.P c.nt n code=some cc→∀ β a w,Holds c β st a w→code.wpIn c.F 0 c.P (PostX c K) a w
theorem vcS.of {c:Ctx} {cc:C} {st:St} {K:Kont} (h:vcC c cc st K):vcS c cc st K:=fun n _ hc=>codeF_ok n hc h
theorem vcS.seq {c:Ctx} {ca cb:C} {st:St} {K K1:Kont} (h:vcS c ca st K1) (hn:∀ st',K1 .nrm st'→∃ st1,Wk c st' st1∧vcS c cb st1 K) (he:∀ i st',K1 (.exit i) st'→K (.exit i) st') (hr:∀ st',K1 .ret st'→K .ret st'):vcS c (.seq ca cb) st K:=by
 intro n code hc β a w H
 cases n with
 |zero=>simp [cCodeF] at hc
 |succ n =>
 obtain ⟨x,y,rfl,h1,h2⟩:=cCode_seq hc
 refine wpIn_seq (wpIn_mono (h n x h1 β a w H) ?_)
 rintro e a' w' (⟨ex,hx,β',st',hk,H'⟩|⟨ch,rfl,hpan⟩)
 rotate_left
 ·exact .inr ⟨ch,rfl,hpan⟩
 cases e<;>simp at hx<;>subst hx
 ·obtain ⟨st1,hw,hk⟩:=hn _ hk
  obtain ⟨β2,H2⟩:=hw β' a' w' H'
  exact hk n y h2 β2 a' w' H2
 ·exact .inl ⟨_,rfl,β',st',he _ _ hk,H'⟩
 ·exact .inl ⟨_,rfl,β',st',he _ _ hk,H'⟩
 ·exact .inl ⟨_,rfl,β',st',hr _ hk,H'⟩
def ValidQ (c:Ctx) (Q:Exit→Act→World→Prop) (IS:List I) (s0:St) (i:I) (st:St) (s:Stp):Prop:=
  ∀ (st1 : St), (∀ k, k ∈ i.slots → get st1.env k = get st.env k) → (∀ k, k ∈ s.rd → own? st1.own k = own? st.own k) → (∀ k, k ∈ s.new → k ∉ st1.nm) → (∀ k, (∀ ii, ii ∈ IS → ii.dst ≠ some k) → get st1.env k = get s0.env k) →
    ∀ (ops:Array Oper) (o:Oper),Cmp c ops o i→∀ (β:Names) (a:Act) (w:World),Holds c β st1 a w→∀ (K:Act→World→Prop),
      (∀ β' a' w',Holds c β' (st1.stp i.dst s) a' w'→K a' w') →
      if Region.wanted o (yielded ops a.tmps) then o.wpIn c.F 0 c.P a w K Q else K (a.put o.dst undef) w
theorem Valid.q {c:Ctx} {Q:Exit→Act→World→Prop} {IS:List I} {s0:St} {i:I} {st:St} {s:Stp} (h:Valid c i st s):ValidQ c Q IS s0 i st s:=fun st1 h1 h2 h3 _ ops o hc β a w H K hK=>h st1 h1 h2 h3 ops o hc β a w H Q K hK
inductive TraceQ (c:Ctx) (Q:Exit→Act→World→Prop) (IS:List I) (s0:St):St→List I→List Stp→St→Prop where
 |nil (st:St):TraceQ c Q IS s0 st [] [] st
 |cons (st:St) (i:I) (s:Stp) (is:List I) (ss:List Stp) (st':St) (hv:ValidQ c Q IS s0 i st s) (hn:∀ k,k∈s.new→k∉st.nm) (h:TraceQ c Q IS s0 (st.stp i.dst s) is ss st'):TraceQ c Q IS s0 st (i::is) (s::ss) st'
theorem runS_allQ:∀ {c:Ctx} {Q:Exit→Act→World→Prop} {IS:List I} {s0 st:St} {is:List I} {ss:List Stp} {st':St},TraceQ c Q IS s0 st is ss st'→∀ (L:Nat→Bool) (j:Nat),(∀ i,i<is.length→L (j+i)=true)→runS L j ((is.map (·.dst)).zip ss) st=st':=by
 intro c Q IS s0 st is ss st' h
 induction h with
 |nil st=>intro L j _;rfl
 |cons st i s is ss st' hv hn _ ih =>
  intro L j hL
  simp only [List.map_cons,List.zip_cons_cons,runS]
  have h0:=hL 0 (by simp)
  simp only [Nat.add_zero] at h0
  rw [if_pos h0]
  exact ih L (j+1) (fun i hi=>by have:=hL (i+1) (by simp;omega);rwa [show j+(i+1)=j+1+i by omega] at this)
theorem trace_lenQ {c:Ctx} {Q:Exit→Act→World→Prop} {IS:List I} {s0 st:St} {is:List I} {ss:List Stp} {st':St} (h:TraceQ c Q IS s0 st is ss st'):ss.length=is.length:=by
 induction h with
 |nil=>rfl
 |cons _ _ _ _ _ _ _ _ _ ih=>simp [ih]
theorem trace_atQ {c:Ctx} {Q:Exit→Act→World→Prop} {IS:List I} {s0 st:St} {is:List I} {ss:List Stp} {st':St} (h:TraceQ c Q IS s0 st is ss st'):∀ (j:Nat) (i:I) (s:Stp) (j0:Nat) (L:Nat→Bool),is[j]?=some i→ss[j]?=some s→(∀ x,x<j→L (j0+x)=true)→(∀ x,j≤x→L (j0+x)=false) →
  ValidQ c Q IS s0 i (runS L j0 ((is.map (·.dst)).zip ss) st) s∧∀ k,k∈s.new→k∉(runS L j0 ((is.map (·.dst)).zip ss) st).nm:=by
 induction h with
 |nil st=>intro j i s j0 L hi;simp at hi
 |cons st i0 s0 is ss st' hv hn _ ih =>
  intro j i s j0 L hi hs h1 h2
  simp only [List.map_cons,List.zip_cons_cons,runS]
  cases j with
  |zero =>
   simp at hi hs
   subst hi;subst hs
   have h0:=h2 0 (by omega)
   simp only [Nat.add_zero] at h0
   rw [if_neg (by rw [h0];simp)]
   have hrest:∀ (l:List (Option Nat×Stp)) (j':Nat),j0≤j'→runS L j' l st=st:=by
    intro l
    induction l with
    |nil=>intro _ _;rfl
    |cons p l ih2 =>
     intro j' hj
     obtain ⟨d,s⟩:=p
     simp only [runS]
     have:=h2 (j'-j0) (by omega)
     rw [show j0+(j'-j0)=j' by omega] at this
     rw [if_neg (by rw [this];simp)]
     exact ih2 (j'+1) (by omega)
   rw [hrest _ (j0+1) (by omega)]
   exact ⟨hv,hn⟩
  |succ j =>
   simp at hi hs
   have h0:=h1 0 (by omega)
   simp only [Nat.add_zero] at h0
   rw [if_pos h0]
   exact ih j i s (j0+1) L hi hs (fun x hx=>by have:=h1 (x+1) (by omega);rwa [show j0+(x+1)=j0+1+x by omega] at this) (fun x hx=>by have:=h2 (x+1) (by omega);rwa [show j0+(x+1)=j0+1+x by omega] at this)
theorem wp_anyQ {c:Ctx} {Q:Exit→Act→World→Prop} {ops:Array Oper} {is:List I} {ss:List Stp} {st st':St} {anc:List Nat} (hT:TraceQ c Q is st st is ss st') (hl:ops.size=is.length) (hc:∀ (j:Nat) (o:Oper) (i:I),ops[j]?=some o→is[j]?=some i→Cmp c ops o i)
    (ha:ancOk ops anc=true) (hsl:slotsOk is anc=true) (hol:ownOk (ss.map Stp.lg) anc=true) (hQ:∀ β a w,Holds c β st' a w→Q .normal a w) (hn:(keysO st.own).Nodup) :
    ∀ (fuel : Nat) (listed : Array Bool) (β : Names) (a : Act) (w : World), listed.size = ops.size → (fuel + (List.range ops.size).countP (fun j => listed.getD j false) = ops.size) → Shut ops (fun j => listed.getD j false) →
      Holds c β (runS (fun j=>listed.getD j false) 0 ((is.map (·.dst)).zip ss) st) a w→wpAnyIn c.F 0 c.P .any ops Q fuel listed a w:=by
  have hsl2:=trace_lenQ hT
  have hdone:∀ (listed:Array Bool) (β:Names) (a:Act) (w:World),listed.size=ops.size→Region.ready .any ops listed=[]→Holds c β (runS (fun j=>listed.getD j false) 0 ((is.map (·.dst)).zip ss) st) a w→Q .normal a w:=by
    intro listed β a w hsz hr H
    have hall:=ready_nil ha hsz hr
    rw [runS_allQ hT (fun j=>listed.getD j false) 0 (fun i hi=>by simpa using hall i (by omega))] at H
    exact hQ β a w H
  intro fuel
  induction fuel with
  |zero =>
    intro listed β a w hsz hf hsh H
    have hall:∀ j,j<ops.size→listed.getD j false=true:=by
      intro j hj
      have:(List.range ops.size).countP (fun j=>listed.getD j false)=(List.range ops.size).length:=by rw [List.length_range];omega
      exact List.countP_eq_length.1 this j (List.mem_range.2 hj)
    have hr:Region.ready .any ops listed=[]:=by
      cases h:Region.ready .any ops listed with
      |nil=>rfl
      |cons x l =>
        obtain ⟨h1,h2,_⟩:=ready_mem (by rw [h];exact List.mem_cons_self)
        have:=hall x h1
        have hx:x<listed.size:=by omega
        simp [hx] at h2 this
        rw [h2] at this
        cases this
    exact ⟨hr,hdone listed β a w hsz hr H⟩
  |succ fuel ih =>
    intro listed β a w hsz hf hsh H
    refine ⟨fun hr=>hdone listed β a w hsz hr H,fun J hJ=>?_⟩
    obtain ⟨h1,h2,o,ho,h3⟩:=ready_mem hJ
    have hJl:J<listed.size:=by omega
    have hLJ:listed.getD J false=false:=by
      simp [hJl] at h2 ⊢
      exact h2
    have hJi:is[J]?=some (is[J]'(by omega)):=List.getElem?_eq_getElem (by omega)
    have hJs:ss[J]?=some (ss[J]'(by omega)):=List.getElem?_eq_getElem (by omega)
    generalize hiJ:is[J]'(by omega)=iJ at hJi
    generalize hsJ:ss[J]'(by omega)=sJ at hJs
    have hsteps:∀ (i:Nat) (d:Option Nat) (s:Stp),((is.map (·.dst)).zip ss)[i]?=some (d,s)→∃ ii,is[i]?=some ii∧ss[i]?=some s∧ii.dst=d:=by
      intro i d s h
      rw [List.getElem?_zip_eq_some] at h
      obtain ⟨q1,q2⟩:=h
      rw [List.getElem?_map,Option.map_eq_some_iff] at q1
      obtain ⟨ii,q3,q4⟩:=q1
      exact ⟨ii,q3,q2,q4⟩
    have hahead:∀ i,inAnc anc J i=true→listed.getD i false=true:=anc_listed ha hsh J o ho h3
    have hbehind:∀ i,inAnc anc i J=true→i<ops.size→listed.getD i false=false:=by
      intro i hi hlt
      cases h:listed.getD i false with
      |false=>rfl
      |true =>
        have hoi:=Array.getElem?_eq_getElem hlt
        have:=anc_listed ha hsh i _ hoi (fun e he hb=>hsh i _ hoi h e he hb) J hi
        rw [hLJ] at this
        cases this
    have hmeet:∀ i ii si,is[i]?=some ii→ss[i]?=some si→(meetS ii iJ=true∨meetL si.lg sJ.lg=true)→i≠J→listed.getD i false=decide (i<J):=by
      intro i ii si hi hs hm hne
      have hlt:i<ops.size:=by have:=(List.getElem?_eq_some_iff.1 hi).1;omega
      have hlgi:(ss.map Stp.lg)[i]?=some si.lg:=by simp [hs]
      have hlgJ:(ss.map Stp.lg)[J]?=some sJ.lg:=by simp [hJs]
      have hsym:∀ x y,meetS x y=meetS y x:=fun x y=>by simp [meetS,Bool.or_comm]
      have hsymL:∀ x y,meetL x y=meetL y x:=fun x y=>by simp [meetL,Bool.or_comm]
      by_cases hij:i<J
      · have:inAnc anc J i=true:=by
          rcases hm with hm|hm
          · exact slotsOk_at hsl hij hi hJi hm
          · exact ownOk_at hol hij hlgi hlgJ hm
        rw [hahead i this]
        simp [hij]
      · have:inAnc anc i J=true:=by
          rcases hm with hm|hm
          · exact slotsOk_at hsl (by omega) hJi hi (by rw [hsym];exact hm)
          · exact ownOk_at hol (by omega) hlgJ hlgi (by rw [hsymL];exact hm)
        rw [hbehind i this hlt]
        simp;omega
    obtain ⟨hv,hnew⟩:=trace_atQ hT J iJ sJ 0 (fun x=>decide (x<J)) hJi hJs (fun x hx=>by simp;exact hx) (fun x hx=>by simp;exact hx)
    refine wpOpIn_step ho fun K' hK'=>?_
    refine hv _ (fun k hk=>?_) (fun k hk=>?_) (fun k hk=>?_) (fun k hk=>?_) ops o (hc J o iJ ho hJi) β a w H K' fun β' a' w' H'=>hK' a' w' ?_
    · 
      refine runS_get _ 0 _ _ rfl (fun i d s hi hd=>?_)
      obtain ⟨ii,q1,q2,q3⟩:=hsteps i d s hi
      simp only [Nat.zero_add]
      by_cases hne:i=J
      · subst hne;rw [hLJ];simp
      · exact hmeet i ii s q1 q2 (.inl (by simp [meetS,hitS,q3,hd,hk])) hne
    · refine runS_own _ 0 _ _ hn hn rfl (fun i d s hi hd=>?_)
      obtain ⟨ii,q1,q2,q3⟩:=hsteps i d s hi
      simp only [Nat.zero_add]
      by_cases hne:i=J
      · subst hne;rw [hLJ];simp
      · refine hmeet i ii s q1 q2 (.inr ?_) hne
        unfold meetL hitL
        rw [Bool.or_eq_true]
        left
        refine List.any_eq_true.2 ⟨k,by simp only [Stp.lg];exact List.mem_append_left _ hd,?_⟩
        simp [Stp.lg,hk]
    · 
      intro hin
      rw [runS_nm] at hin
      have h0:=hnew k hk
      rw [runS_nm] at h0
      rcases hin with hin|⟨i,d,s,ow,q0,qL,q5⟩
      · exact h0 (.inl hin)
      · obtain ⟨ii,q1,q2,q3⟩:=hsteps i d s q0
        simp only [Nat.zero_add] at qL
        by_cases hne:i=J
        · subst hne;rw [hLJ] at qL;cases qL
        · have:=hmeet i ii s q1 q2 (.inr (by
            unfold meetL hitL
            rw [Bool.or_eq_true]
            left
            refine List.any_eq_true.2 ⟨k,by simp only [Stp.lg];exact List.mem_append_left _ (List.mem_map.2 ⟨(k,some ow),q5,rfl⟩),?_⟩
            simp [Stp.lg,hk])) hne
          rw [this] at qL
          exact h0 (.inr ⟨i,d,s,ow,q0,by simpa using qL,q5⟩)
    · 
      have h1:runS (fun _=>false) 0 ((is.map (·.dst)).zip ss) st=st:=by
        have:∀ (l:List (Option Nat×Stp)) (j:Nat),runS (fun _=>false) j l st=st:=by
          intro l
          induction l with
          |nil=>intro _;rfl
          |cons p l ih=>intro j;obtain ⟨d,s⟩:=p;simp only [runS];exact ih (j+1)
        exact this _ 0
      conv=>rhs;rw [←h1]
      refine runS_get _ 0 _ _ rfl (fun i d s hi hd=>?_)
      obtain ⟨ii,q1,q2,q3⟩:=hsteps i d s hi
      exact absurd (q3.trans hd) (hk ii (List.mem_of_getElem? q1))
    · 
      have hL':∀ j,(listed.setIfInBounds J true).getD j false=(listed.getD j false || j == J):=fun j=>by
        simp only [Array.getD_eq_getD_getElem?,Array.getElem?_setIfInBounds]
        by_cases e:J=j
        · subst e;simp [hJl]
        · have:(j == J)=false:=by simp;exact fun x=>e x.symm
          simp [e,this]
      have hfun:(fun j=>(listed.setIfInBounds J true).getD j false)=(fun j=>listed.getD j false || j == J):=funext hL'
      refine ih (listed.setIfInBounds J true) β' a' w' (by simp [hsz]) ?_ ?_ ?_
      · rw [hfun]
        have hcount:(List.range ops.size).countP (fun j=>listed.getD j false || j == J)=(List.range ops.size).countP (fun j=>listed.getD j false)+1:=by
          have:∀ n,J<n→(List.range n).countP (fun j=>listed.getD j false || j == J)=(List.range n).countP (fun j=>listed.getD j false)+1:=by
            intro n
            induction n with
            |zero=>intro h;omega
            |succ n ihn =>
              intro h
              rw [List.range_succ,List.countP_append,List.countP_append]
              by_cases e:n=J
              · subst e
                have:(List.range n).countP (fun j=>listed.getD j false || j == n)=(List.range n).countP (fun j=>listed.getD j false):=by
                  apply List.countP_congr
                  intro x hx
                  have:=List.mem_range.1 hx
                  have h5:(x == n)=false:=by simp;omega
                  simp [h5]
                rw [this,List.countP_singleton,List.countP_singleton,hLJ]
                simp
              · rw [ihn (by omega)]
                have h5:(n == J)=false:=by simp;exact e
                simp [h5]
                omega
          exact this ops.size h1
        rw [hcount]
        omega
      · intro j oj hoj hj e he hb
        simp only [hL'] at hj ⊢
        rcases Bool.or_eq_true _ _▸hj with h|h
        · have:=hsh j oj hoj h e he hb
          simp only at this
          rw [this];rfl
        · simp at h
          subst h
          rw [ho] at hoj
          cases hoj
          rw [h3 e he hb];rfl
      · rw [hfun]
        have hz:((is.map (·.dst)).zip ss)[J-0]?=some (iJ.dst,sJ):=by
          rw [List.getElem?_zip_eq_some]
          exact ⟨by simp [hJi],by simpa using hJs⟩
        have hmore:=runS_more (fun j=>listed.getD j false) hLJ ((is.map (·.dst)).zip ss) 0 st iJ.dst sJ hn (Nat.zero_le _) hz (fun i d' s' hi hg hLi=>by
          obtain ⟨ii,q1,q2,q3⟩:=hsteps i d' s' (by simpa using hg)
          have hnm:¬ (meetS ii iJ=true∨meetL s'.lg sJ.lg=true):=fun hm=>by
            have:=hmeet i ii s' q1 q2 hm (by omega)
            rw [this] at hLi
            simp at hLi
            omega
          refine ⟨fun x hx hd=>hnm (.inl ?_),fun k hk hk2=>hnm (.inr ?_)⟩
          · simp [meetS,hitS,q3,hd,hx]
          · unfold meetL hitL
            rw [Bool.or_eq_true]
            left
            refine List.any_eq_true.2 ⟨k,by simp only [Stp.lg];exact List.mem_append_left _ hk2,?_⟩
            simp only [Stp.lg,Bool.or_eq_true]
            left
            simp only [List.contains_iff_mem]
            exact List.mem_append_left _ hk)
        exact H'.ext hmore (runS_nodup _ _ _ _ hn)
def TRQ (c:Ctx) (Q:Exit→Act→World→Prop) (IS:List I) (s0:St) (is:List I) (st:St) (acc:List Lg) (K:List Lg→St→Prop):Prop:=∃ ss st',TraceQ c Q IS s0 st is ss st'∧K (acc++ss.map Stp.lg) st'
theorem TRQ.app {c:Ctx} {Q:Exit→Act→World→Prop} {IS:List I} {s0:St} {rest:List I} {K:List Lg→St→Prop}:∀ {pre:List I} {st:St} {acc:List Lg},TR c true pre st acc (fun lg st'=>TRQ c Q IS s0 rest st' lg K)→TRQ c Q IS s0 (pre++rest) st acc K:=by
 intro pre st acc h
 obtain ⟨ss,st',hT,ss2,st2,hT2,hK⟩:=h
 refine ⟨ss++ss2,st2,?_,by simpa using hK⟩
 clear hK
 induction hT with
 |nil=>exact hT2
 |cons st i s is ss st' hv hn _ ih=>exact .cons _ _ _ _ _ _ hv.q hn (ih hT2)
theorem TRQ.of {c:Ctx} {Q:Exit→Act→World→Prop} {IS:List I} {s0:St} {is:List I} {K:List Lg→St→Prop} {st:St} {acc:List Lg} (h:TR c true is st acc K):TRQ c Q IS s0 is st acc K:=by
 have:=TRQ.app (c:=c) (Q:=Q) (IS:=IS) (s0:=s0) (rest:=[]) (K:=K) (pre:=is) (st:=st) (acc:=acc) (TR.mono (fun lg st' hk=>⟨[],st',.nil _,by simpa using hk⟩) h)
 simpa using this
theorem TRQ.cons {c:Ctx} {Q:Exit→Act→World→Prop} {IS:List I} {s0:St} {i:I} {is:List I} {K:List Lg→St→Prop} {st:St} {acc:List Lg} (s:Stp) (hv:ValidQ c Q IS s0 i st s) (hn:∀ k,k∈s.new→k∉st.nm) (h:TRQ c Q IS s0 is (st.stp i.dst s) (acc++[s.lg]) K):TRQ c Q IS s0 (i::is) st acc K:=by
 obtain ⟨ss,st',h1,h2⟩:=h
 exact ⟨s::ss,st',.cons _ _ _ _ _ _ hv hn h1,by simpa using h2⟩
def vNo:V:=.d (.sl false 1 1 (fun _=>[]))
theorem vNo_no {β:Names} {E:Nat→Prop} {w:World} {v:Value} (h:RelV β E w v vNo):False:=by
 cases h with
 |d _ _ h=>cases h with
  |sl _ _ _ _ _ _ _ _ _ _ hl _ _=>have:=hl 0 (by decide);simp at this
theorem vcS.drw {c:Ctx} {anc:List Nat} {is:List I} {st:St} {K:Kont} (h:TRQ c (PostX c K) is st is st [] (fun lg st'=>ownOk lg anc=true∧∀ β a w,Holds c β st' a w→K .nrm st')):vcS c (.drw anc is) st K:=by
 intro n code hc β a w H
 cases n with
 |zero=>simp [cCodeF] at hc
 |succ n =>
 cases code with
 |region id ops draw =>
  simp only [cCodeF] at hc
  split at hc
  ·rename_i is' his
   obtain ⟨hl,hcmp⟩:=cRegion_ok his
   split at hc
   ·cases hc
   ·rename_i hd
    have hd:draw=true:=by simpa using hd
    subst hd
    split at hc
    ·rename_i hh
     cases hc
     obtain ⟨ss,st',hT,hk⟩:=h
     simp only [List.nil_append] at hk
     refine wpIn_region_any hh.1 ?_
     have hr0:runS (fun j=>(Array.replicate ops.size false).getD j false) 0 ((is.map (·.dst)).zip ss) st=st:=by
      have:∀ (l:List (Option Nat×Stp)) (j:Nat),runS (fun j=>(Array.replicate ops.size false).getD j false) j l st=st:=by
       intro l
       induction l with
       |nil=>intro _;rfl
       |cons p l ih =>
        intro j
        obtain ⟨d,s⟩:=p
        simp only [runS]
        have:(Array.replicate ops.size false).getD j false=false:=by
         simp only [Array.getD_eq_getD_getElem?,Array.getElem?_replicate]
         split<;>rfl
        rw [if_neg (by rw [this];simp)]
        exact ih (j+1)
      exact this _ 0
     refine wp_anyQ (c:=c) hT (by simpa using hl) (fun j o i ho hi=>hcmp j o i (by simpa using ho) hi) hh.2.1 hh.2.2 hk.1 (fun β a w H'=>.inl ⟨.nrm,rfl,β,st',hk.2 β a w H',H'⟩) H.own.nodup ops.size _ β a _ (by simp) ?_ ?_ (by rw [hr0];exact H.drew _)
     ·have:(List.range ops.size).countP (fun j=>(Array.replicate ops.size false).getD j false)=0:=by
       rw [List.countP_eq_zero]
       intro j hj
       have:=List.mem_range.1 hj
       simp [this]
      omega
     ·intro j o ho hj
      have hjl:=(Array.getElem?_eq_some_iff.1 ho).1
      simp [hjl] at hj
    ·cases hc
  ·cases hc
 |seq x y=>simp only [cCodeF] at hc;split at hc<;>cases hc
 |cond x a b=>simp only [cCodeF] at hc;split at hc<;>cases hc
 |block id a=>simp only [cCodeF,Option.map_eq_some_iff] at hc;obtain ⟨_,_,h⟩:=hc;cases h
 |loop a=>simp only [cCodeF,Option.map_eq_some_iff] at hc;obtain ⟨_,_,h⟩:=hc;cases h
 |scope a =>
  simp only [cCodeF] at hc
  split at hc
  ·split at hc
   ·split at hc<;>cases hc
   ·cases hc
  ·cases hc
 |rangeFunc g ps asg body =>
  simp only [cCodeF] at hc
  split at hc
  ·split at hc<;>cases hc
  ·cases hc
 |_=>simp [cCodeF] at hc
end Go.Bx
end
