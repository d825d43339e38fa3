import Derived.Test.YtmccbkekpjgdbaaGreatXA1
import Derived.Lib.AppendZerosOnto
set_option linter.unusedSimpArgs false
set_option linter.unusedVariables false
section
namespace Go.Bx
open Go.RowKit
theorem keeps_drew_alloc (L:Nat→Prop) (w:World) (ob:Obj):Keeps L w (w.drew.alloc ob):=
 ⟨rfl,rfl,rfl,by simp,fun _ hb _=>heap_alloc_old w.drew ob hb⟩
theorem keeps_setRow (w:World) (g:Nat) (cs:Array Value) (L:Nat→Prop) (hL:L g):Keeps L w (w.setRow g cs):=
 ⟨rfl,rfl,rfl,by simp,fun k _ hl=>setRow_other w g k cs (fun e=>hl (e▸hL))⟩
theorem row_grown {w:World} {e:TypeId} {sz:Nat} {z:Value} (hzs:z.cells.size=sz) {n m old:Nat} {xs news:List Value} (hx:xs.length=n*sz) (hl:news.length=m*sz) (hpos:0<n+m) (h63:n+m≤maxLen) :
  RowOk (w.drew.alloc (.cells (xs.toArray++news.toArray++Builtin.zeroCells z.cells (grownCap w (n+m) old e-(n+m))) e)) e sz
   (.slice (some ⟨w.heap.size,0,none⟩) (n+m) (grownCap w (n+m) old e)) (n+m) (xs++news):=by
 have hge:=grownCap_ge w (n+m) old e
 have hcm:grownCap w (n+m) old e≤maxLen:=grownCap_le_maxLen w (n+m) old e h63
 have hlen:(xs++news).length=(n+m)*sz:=by rw [List.length_append,hx,hl,Nat.add_mul]
 refine ⟨hlen,.inr ⟨w.heap.size,_,_,rfl,by omega,heap_alloc_new w.drew _,hge,hcm,?_,?_⟩⟩
 ·simp only [Array.size_append,List.size_toArray,size_zeroCells,hzs,hx,hl,←Nat.add_mul]
  congr 1
  omega
 ·simp only [Array.toList_append,List.append_assoc]
  rw [←List.append_assoc,←hlen]
  exact List.take_left
section
variable {P:Program} {w:World} {t ty e:TypeId} {i:TypeInfo} {z:Value} {sz bytes:Nat}
theorem run_app0 (ht:P.underlying t=some (.slice e)) (hi:P.info? e=some i) {A B:Option Addr} {n cap cp:Nat} (hnc:n≤cap) :
  (Builtin.append_ #[t,t] ty #[.slice A n cap,.slice B 0 cp]).run P w=.ok (.slice A n cap) w:=by
 cases A<;>cases B<;>simp [Builtin.append_,run_underlying ht,sizeOf,typeInfo,hi,Builtin.lenOf,Builtin.firstCells,hnc,loadCells,loadCellsFrom,storeCells]
theorem run_app (ht:P.underlying t=some (.slice e)) (hi:P.info? e=some i) (hz:i.zero=some z) (hsize:i.size=sz) (hby:i.bytes=bytes) (hzs:z.cells.size=sz)
    {v:Value} {n:Nat} {xs:List Value} (hrow:RowOk w e sz v n xs) {A:Option Addr} {m cp:Nat} {news:List Value} (hl:news.length=m*sz)
    (hnews:0<m→∃ ad,A=some ad∧∀ j u,news[j]?=some u→w.cell? (ad.add j)=some u) (h1:∀ u∈news,u.oneCell'=true) (h63:n+m≤maxLen) (hbytes:(n+m)*bytes≤140737488355328) :
    ∃ v' w', (Builtin.append_ #[t, t] ty #[v, .slice A m cp]).run P w = .ok v' w' ∧ RowOk w' e sz v' (n + m) (xs ++ news) ∧ Keeps (fun b => blkOf v = some b) w w' ∧
      (∀ b,blkOf v'=some b→blkOf v=some b∨(w.heap.size≤b∧b<w'.heap.size))∧v'.oneCell'=true:=by
  have hsmall:n+m≤9223372036854775807:=by simp only [maxLen] at h63;omega
  rcases Nat.eq_zero_or_pos m with rfl|hm
  · have hn0:news=[]:=List.eq_nil_of_length_eq_zero (by simpa using hl)
    subst hn0
    have hv:∃ B cap,v=.slice B n cap∧n≤cap:=by
      rcases hrow.2 with ⟨⟨B,rfl⟩,rfl⟩|⟨g,cap,cur,rfl,_,_,hnc,_⟩
      · exact ⟨B,0,rfl,Nat.le_refl _⟩
      · exact ⟨_,cap,rfl,hnc⟩
    obtain ⟨B,cap,rfl,hnc⟩:=hv
    exact ⟨_,w,run_app0 ht hi hnc,by simpa using hrow,Keeps.refl _ _,fun b hb=>.inl hb,rfl⟩
  · obtain ⟨ad,rfl,hcell⟩:=hnews hm
    rcases hrow.2 with ⟨⟨B,rfl⟩,rfl⟩|⟨g,cap,cur,rfl,hc0,hg,hnc,hcm,hcs,htake⟩
    · have hx:xs=[]:=List.eq_nil_of_length_eq_zero (by simpa using hrow.1)
      subst hx
      have hgr:=row_grown (w:=w) (e:=e) (old:=0) hzs hrow.1 hl (by omega) h63
      simp only [Nat.zero_add,List.nil_append,Array.empty_append] at hgr
      refine ⟨.slice (some ⟨w.heap.size,0,none⟩) m (grownCap w m 0 e),_,?_,by simpa using hgr,keeps_drew_alloc _ _ _,fun b hb=>?_,rfl⟩
      · cases B with
        |none=>exact run_append_nil (P:=P) w t ty e i z ht hi hz ad m cp news (hsize▸hl) hcell hm (by omega) (by rw [hby];rw [Nat.zero_add] at hbytes;omega)
        |some b0 =>
          have hr:=run_append_grow (P:=P) w t ty e i z ht hi hz b0 0 0 [] (by simp) (by simp) ad m cp news (hsize▸hl) hcell (by omega) (by omega) (growslice_fits (by omega) (by rw [hby];exact hbytes))
          simpa using hr
      · simp only [blkOf] at hb
        split at hb
        · cases hb
        · simp at hb;subst hb;exact .inr ⟨Nat.le_refl _,by simp⟩
    · by_cases hroom:n+m≤cap
      · have hfit:n*i.size+news.length≤cur.size:=by rw [hl,hcs,hsize,←Nat.add_mul];exact Nat.mul_le_mul_right _ hroom
        have hr:=run_append_room (P:=P) w t ty e i ht hi g n cap cur hg ad m cp news (hsize▸hl) hcell h1 hroom hfit
        have hlen:(xs++news).length=(n+m)*sz:=by rw [List.length_append,hrow.1,hl,Nat.add_mul]
        refine ⟨_,_,hr,⟨hlen,.inr ⟨g,cap,_,rfl,hc0,setRow_heap w g cur _ e _ hg,hroom,hcm,?_,?_⟩⟩,keeps_setRow _ _ _ _ (by simp [blkOf];omega),fun b hb=>.inl hb,rfl⟩
        · rw [hsize] at hfit ⊢
          simp only [List.size_toArray,List.length_append,List.length_take,List.length_drop,Array.length_toList]
          omega
        · rw [hsize,htake,←hlen]
          exact List.take_left
      · have holds:∀ j u,xs[j]?=some u→w.cell? ((⟨g,0,none⟩:Addr).add j)=some u:=fun j u hu=>by
          rw [addr_add,Nat.zero_add,cell_of_row w g j cur e (0,0) hg]
          rw [←htake,List.getElem?_take] at hu
          split at hu
          · simpa using hu
          · cases hu
        have hr:=run_append_grow (P:=P) w t ty e i z ht hi hz ⟨g,0,none⟩ n cap xs (hsize▸hrow.1) holds ad m cp news (hsize▸hl) hcell (by omega) (by omega) (growslice_fits (by omega) (by rw [hby];exact hbytes))
        refine ⟨_,_,hr,row_grown (w:=w) (e:=e) (old:=cap) hzs hrow.1 hl (by omega) h63,keeps_drew_alloc _ _ _,fun b hb=>?_,rfl⟩
        simp only [blkOf] at hb
        split at hb
        · cases hb
        · simp at hb;subst hb;exact .inr ⟨Nat.le_refl _,by simp⟩
theorem run_app_full (ht:P.underlying t=some (.slice e)) (hi:P.info? e=some i) (hz:i.zero=some z) (hsize:i.size=sz) (hby:i.bytes=bytes) (hzs:z.cells.size=sz)
    {b0:Addr} {n:Nat} {xs:List Value} (hxl:xs.length=n*sz) (hxc:∀ j u,xs[j]?=some u→w.cell? (b0.add j)=some u) {ad:Addr} {m cp:Nat} {news:List Value} (hl:news.length=m*sz) (hm:0<m)
    (hcell:∀ j u,news[j]?=some u→w.cell? (ad.add j)=some u) (h63:n+m≤maxLen) (hbytes:(n+m)*bytes≤140737488355328) :
    ∃ v' w', (Builtin.append_ #[t, t] ty #[.slice (some b0) n n, .slice (some ad) m cp]).run P w = .ok v' w' ∧ RowOk w' e sz v' (n + m) (xs ++ news) ∧ Keeps (fun _ => False) w w' ∧
      (∀ b,blkOf v'=some b→(w.heap.size≤b∧b<w'.heap.size))∧v'.oneCell'=true:=by
  have hsmall:n+m≤9223372036854775807:=by simp only [maxLen] at h63;omega
  have hr:=run_append_grow (P:=P) w t ty e i z ht hi hz b0 n n xs (hsize▸hxl) hxc ad m cp news (hsize▸hl) hcell (by omega) (by omega) (growslice_fits (by omega) (by rw [hby];exact hbytes))
  refine ⟨_,_,hr,row_grown (w:=w) (e:=e) (old:=n) hzs hxl hl (by omega) h63,keeps_drew_alloc _ _ _,fun b hb=>?_,rfl⟩
  simp only [blkOf] at hb
  split at hb
  · cases hb
  · simp at hb;subst hb;exact ⟨Nat.le_refl _,by simp⟩
end
theorem cells_of_sl {E:Nat→Prop} {w:World} {v:Value} {full:Bool} {sz0 sz n:Nat} {f:Nat→List D} (h:RelD E w v (.sl full sz0 n f)) (hsz:0<n→sz0=sz) :
    ∃ (A : Option Addr) (cp : Nat) (xs : List Value), v = .slice A n cp ∧ (full = true → cp = n) ∧ n ≤ cp ∧ xs.length = n * sz ∧ (0 < n → ∃ ad, A = some ad ∧ ∀ j u, xs[j]? = some u → w.cell? (ad.add j) = some u) ∧ (∀ u ∈ xs, u.oneCell' = true) ∧
      (∀ i,i<n→(f i).length=sz)∧∀ i j,i<n→j<sz→∀ (x:D),(f i)[j]?=some x→∃ u,xs[i*sz+j]?=some u∧RelD E w u x:=by
  cases h with
  |nil _ _ _ _=>exact ⟨_,0,[],rfl,fun _=>rfl,Nat.le_refl _,by simp,fun h=>by omega,by simp,fun i hi=>by omega,fun i j hi=>by omega⟩
  |sl _ _ _ _ b off c g hc hf hl hcell hrel =>
    rcases Nat.eq_zero_or_pos n with rfl|hn
    · exact ⟨_,c,[],rfl,hf,hc,by simp,fun h=>by omega,by simp,fun i hi=>by omega,fun i j hi=>by omega⟩
    · have e:=hsz hn
      subst e
      have hdm:∀ x,x<n*sz0→x / sz0<n∧x % sz0<sz0:=fun x hx=>by
        have hs:0<sz0:=by
          rcases Nat.eq_zero_or_pos sz0 with h|h
          · subst h;simp at hx
          · exact h
        exact ⟨Nat.div_lt_of_lt_mul (by rw [Nat.mul_comm];exact hx),Nat.mod_lt _ hs⟩
      have hel:∀ i j,i<n→j<sz0→((List.range (n*sz0)).map fun x=>g (x / sz0) (x % sz0))[i*sz0+j]?=some (g i j):=fun i j hi hj=>by
        have hlt:i*sz0+j<n*sz0:=by
          have:(i+1)*sz0≤n*sz0:=Nat.mul_le_mul_right _ hi
          rw [Nat.add_mul] at this;omega
        have h1:(i*sz0+j) / sz0=i:=by rw [Nat.mul_comm,Nat.mul_add_div (by omega),Nat.div_eq_of_lt hj];omega
        have h2:(i*sz0+j) % sz0=j:=by rw [Nat.mul_comm,Nat.mul_add_mod,Nat.mod_eq_of_lt hj]
        simp [hlt,h1,h2]
      refine ⟨_,c,(List.range (n*sz0)).map fun x=>g (x / sz0) (x % sz0),rfl,hf,hc,by simp,fun _=>⟨_,rfl,fun j u hu=>?_⟩,fun u hu=>?_,hl,fun i j hi hj x hx=>⟨g i j,hel i j hi hj,hrel i j hi hj x hx⟩⟩
      · have hj:j<n*sz0:=by simpa using (List.getElem?_eq_some_iff.1 hu).1
        obtain ⟨h1,h2⟩:=hdm j hj
        have:=(hcell _ _ h1 h2).2
        rw [addr_add]
        have e:j / sz0*sz0+j % sz0=j:=by rw [Nat.mul_comm];exact Nat.div_add_mod j sz0
        rw [e] at this
        rw [this]
        simp [hj] at hu
        simp [hu]
      · obtain ⟨x,hx,rfl⟩:=List.mem_map.1 hu
        obtain ⟨h1,h2⟩:=hdm x (List.mem_range.1 hx)
        have h3:=hl _ h1
        have h4:(f (x / sz0))[x % sz0]?=some (f (x / sz0))[x % sz0]:=List.getElem?_eq_getElem (by omega)
        exact (hrel _ _ h1 h2 _ h4).one
theorem toDs_some:∀ {cs:List V} {ds:List D},toDs cs=some ds→cs=ds.map .d
 |[],ds,h=>by simp [toDs] at h;subst h;rfl
 |c::cs,ds,h=>by
  cases c<;>simp [toDs] at h
  rename_i x
  obtain ⟨ds',h1,rfl⟩:=h
  simp [toDs_some h1]
theorem lit_get (ds:List D) (sz i j:Nat) (hj:j<sz):((ds.drop (i*sz)).take sz)[j]?=ds[i*sz+j]?:=by
 rw [List.getElem?_take,if_pos hj,List.getElem?_drop]
section
variable {c:Ctx} {β:Names} {st:St} {a:Act} {w:World} {o:Oper} {d:Nat}
theorem cells_of_lit (H:Holds c β st a w) {k e sz n:Nat} {cs:List V} {ds:List D} (h:own? st.own k=some (.lit e sz n cs)) (hd:toDs cs=some ds) :
    ∃ (A : Option Addr) (cp : Nat) (xs : List Value), β k = some (.slice A n cp) ∧ xs.length = n * sz ∧ (0 < n → ∃ ad, A = some ad ∧ ∀ j u, xs[j]? = some u → w.cell? (ad.add j) = some u) ∧ (∀ u ∈ xs, u.oneCell' = true) ∧
      (∀ i,i<n→((ds.drop (i*sz)).take sz).length=sz)∧∀ i j,i<n→j<sz→∀ (x:D),((ds.drop (i*sz)).take sz)[j]?=some x→∃ u,xs[i*sz+j]?=some u∧RelD (Eo c.E0 β st.own) w u x:=by
  obtain ⟨v,xs,hb,hrow,hcl,hr⟩:=own_ok H h
  have hcs:=toDs_some hd
  have hdl:ds.length=n*sz:=by rw [←hcl,hcs];simp
  have hrd:∀ (j:Nat) (u:Value) (x:D),xs[j]?=some u→ds[j]?=some x→RelD (Eo c.E0 β st.own) w u x:=fun j u x hu hx=>by
    have:=hr j u (.d x) hu (by rw [hcs];simp [hx])
    cases this with|d _ _ h=>exact h
  have hA:∃ (A:Option Addr) (cp:Nat),v=.slice A n cp∧(0<n→∃ ad,A=some ad∧∀ j u,xs[j]?=some u→w.cell? (ad.add j)=some u):=by
    rcases hrow.2 with ⟨⟨A,rfl⟩,rfl⟩|⟨g,cap,cur,rfl,hc0,hh,hnc,hcm,hcs2,htk⟩
    · exact ⟨A,0,rfl,fun h=>by omega⟩
    · refine ⟨some ⟨g,0,none⟩,cap,rfl,fun _=>⟨_,rfl,fun j u hu=>?_⟩⟩
      rw [addr_add,Nat.zero_add,cell_of_row w g j cur e (0,0) hh]
      rw [←htk,List.getElem?_take] at hu
      split at hu
      · simpa using hu
      · cases hu
  obtain ⟨A,cp,rfl,hcell⟩:=hA
  refine ⟨A,cp,xs,hb,hrow.1,hcell,fun u hu=>?_,fun i hi=>?_,fun i j hi hj x hx=>?_⟩
  · obtain ⟨j,hj⟩:=List.mem_iff_getElem?.1 hu
    have hj':j<xs.length:=(List.getElem?_eq_some_iff.1 hj).1
    have hjd:j<ds.length:=by rw [hdl,←hrow.1];exact hj'
    exact (hrd j u ds[j] hj (List.getElem?_eq_getElem hjd)).one
  · have:(i+1)*sz≤n*sz:=Nat.mul_le_mul_right _ hi
    rw [Nat.add_mul] at this
    simp;omega
  · rw [lit_get ds sz i j hj] at hx
    have hlt:i*sz+j<xs.length:=by
      have:=(List.getElem?_eq_some_iff.1 hx).1
      rw [hrow.1,←hdl];exact this
    exact ⟨xs[i*sz+j],List.getElem?_eq_getElem hlt,hrd _ _ x (List.getElem?_eq_getElem hlt) hx⟩
theorem cells_of_own (H:Holds c β st a w) {k e sz n:Nat} {f:Nat→List D} (h:own? st.own k=some (.row e sz n f)) :
    ∃ (A : Option Addr) (cp : Nat) (xs : List Value), β k = some (.slice A n cp) ∧ xs.length = n * sz ∧ (0 < n → ∃ ad, A = some ad ∧ ∀ j u, xs[j]? = some u → w.cell? (ad.add j) = some u) ∧ (∀ u ∈ xs, u.oneCell' = true) ∧
      (∀ i,i<n→(f i).length=sz)∧∀ i j,i<n→j<sz→∀ (x:D),(f i)[j]?=some x→∃ u,xs[i*sz+j]?=some u∧RelD (Eo c.E0 β st.own) w u x:=by
  obtain ⟨v,xs,hb,hrow,hfl,hr⟩:=own_ok H h
  have hA:∃ (A:Option Addr) (cp:Nat),v=.slice A n cp∧(0<n→∃ ad,A=some ad∧∀ j u,xs[j]?=some u→w.cell? (ad.add j)=some u):=by
    rcases hrow.2 with ⟨⟨A,rfl⟩,rfl⟩|⟨g,cap,cur,rfl,hc0,hh,hnc,hcm,hcs2,htk⟩
    · exact ⟨A,0,rfl,fun h=>by omega⟩
    · refine ⟨some ⟨g,0,none⟩,cap,rfl,fun _=>⟨_,rfl,fun j u hu=>?_⟩⟩
      rw [addr_add,Nat.zero_add,cell_of_row w g j cur e (0,0) hh]
      rw [←htk,List.getElem?_take] at hu
      split at hu
      · simpa using hu
      · cases hu
  obtain ⟨A,cp,rfl,hcell⟩:=hA
  refine ⟨A,cp,xs,hb,hrow.1,hcell,fun u hu=>?_,hfl,hr⟩
  obtain ⟨j,hj⟩:=List.mem_iff_getElem?.1 hu
  have hj':j<n*sz:=by rw [←hrow.1];exact (List.getElem?_eq_some_iff.1 hj).1
  have hs:0<sz:=by
    rcases Nat.eq_zero_or_pos sz with h|h
    · subst h;simp at hj'
    · exact h
  have h1:j / sz<n:=Nat.div_lt_of_lt_mul (by rw [Nat.mul_comm];exact hj')
  have h2:j % sz<sz:=Nat.mod_lt _ hs
  have h3:=hfl _ h1
  obtain ⟨u',h4,h5⟩:=hr _ _ h1 h2 _ (List.getElem?_eq_getElem (by omega))
  have e:j / sz*sz+j % sz=j:=by rw [Nat.mul_comm];exact Nat.div_add_mod j sz
  rw [e,hj] at h4
  cases h4
  exact h5.one
theorem row_cat {β':Names} {E E':Nat→Prop} {w w':World} {e sz n m d:Nat} {f g:Nat→List D} {v':Value} {xs news:List Value} (hl:Lasts E E' w w') (hk:β' d=some v') (hrow:RowOk w' e sz v' (n+m) (xs++news)) (hxl:xs.length=n*sz)
  (hf:∀ i,i<n→(f i).length=sz) (hfr:∀ i j,i<n→j<sz→∀ (x:D),(f i)[j]?=some x→∃ u,xs[i*sz+j]?=some u∧RelD E w u x)
  (hg:∀ i,i<m→(g i).length=sz) (hgr:∀ i j,i<m→j<sz→∀ (x:D),(g i)[j]?=some x→∃ u,news[i*sz+j]?=some u∧RelD E w u x) :
  OwnOk β' E' w' d (.row e sz (n+m) (fun i=>if i<n then f i else g (i-n))):=by
 refine ⟨v',_,hk,hrow,fun i hi=>?_,fun i j hi hj x hx=>?_⟩
 ·dsimp only
  split
  ·exact hf i ‹_›
  ·exact hg _ (by omega)
 ·dsimp only at hx
  split at hx
  ·rename_i hin
   obtain ⟨u,h1,h2⟩:=hfr i j hin hj x hx
   have hlt:=(List.getElem?_eq_some_iff.1 h1).1
   exact ⟨u,by rw [List.getElem?_append_left hlt];exact h1,h2.lasts hl⟩
  ·rename_i hin
   obtain ⟨u,h1,h2⟩:=hgr (i-n) j (by omega) hj x hx
   have hge:xs.length≤i*sz+j:=by
    rw [hxl]
    have:n*sz≤i*sz:=Nat.mul_le_mul_right _ (by omega)
    omega
   refine ⟨u,?_,h2.lasts hl⟩
   rw [List.getElem?_append_right hge,hxl]
   have:i*sz+j-n*sz=(i-n)*sz+j:=by
    rw [Nat.sub_mul]
    have:n*sz≤i*sz:=Nat.mul_le_mul_right _ (by omega)
    omega
   rw [this];exact h1
theorem catR_len {sz:Nat}:∀ {m:Nat} {g:Nat→List D},(∀ i,i<m→(g i).length=sz)→(catR m g).length=m*sz
 |0,_,_=>by simp [catR]
 |m+1,g,h=>by
  rw [catR,List.length_append,List.length_map,h 0 (by omega),catR_len (fun i hi=>h (i+1) (by omega)),Nat.add_mul]
  omega
theorem catR_get {sz:Nat}:∀ {m:Nat} {g:Nat→List D} {j:Nat} {x:V},(∀ i,i<m→(g i).length=sz)→(catR m g)[j]?=some x→∃ i q,i<m∧q<sz∧j=i*sz+q∧∃ y,(g i)[q]?=some y∧V.d y=x
 |0,_,j,x,_,h=>by simp [catR] at h
 |m+1,g,j,x,hg,h=>by
  rw [catR] at h
  by_cases hj:j<sz
  ·rw [List.getElem?_append_left (by rw [List.length_map,hg 0 (by omega)];exact hj),List.getElem?_map] at h
   obtain ⟨y,h1,h2⟩:=Option.map_eq_some_iff.1 h
   exact ⟨0,j,by omega,hj,by omega,y,h1,h2⟩
  ·rw [List.getElem?_append_right (by rw [List.length_map,hg 0 (by omega)];omega),List.length_map,hg 0 (by omega)] at h
   obtain ⟨i,q,h1,h2,h3,h4⟩:=catR_get (fun i hi=>hg (i+1) (by omega)) h
   exact ⟨i+1,q,by omega,h2,by rw [Nat.add_mul];omega,h4⟩
theorem cells_one {β:Names} {E:Nat→Prop} {w:World}:∀ {cs:List V} {xs:List Value},cellsAll cs→xs.length=cs.length→(∀ (j:Nat) (u:Value) (x:V),xs[j]?=some u→cs[j]?=some x→RelV β E w u x)→∀ u∈xs,u.oneCell'=true
 |[],[],_,_,_=>fun u hu=>by simp at hu
 |[],_::_,_,h,_=>by simp at h
 |_::_,[],_,h,_=>by simp at h
 |c::cs,x::xs,hc,hl,hr=>fun u hu=>by
  rcases List.mem_cons.1 hu with rfl|hu
  ·exact (hr 0 _ c rfl rfl).one hc.1
  ·exact cells_one hc.2 (by simpa using hl) (fun j u x h1 h2=>hr (j+1) u x (by simpa using h1) (by simpa using h2)) u hu
theorem cells_of_litV (H:Holds c β st a w) {k e sz n:Nat} {cs:List V} (h:own? st.own k=some (.lit e sz n cs)) (hc:cellsAll cs) :
    ∃ (A : Option Addr) (cp : Nat) (xs : List Value), β k = some (.slice A n cp) ∧ xs.length = n * sz ∧ (0 < n → ∃ ad, A = some ad ∧ ∀ j u, xs[j]? = some u → w.cell? (ad.add j) = some u) ∧ (∀ u ∈ xs, u.oneCell' = true) ∧
      cs.length=n*sz∧∀ (j:Nat) (u:Value) (x:V),xs[j]?=some u→cs[j]?=some x→RelV β (Eo c.E0 β st.own) w u x:=by
  obtain ⟨v,xs,hb,hrow,hcl,hr⟩:=own_ok H h
  have hA:∃ (A:Option Addr) (cp:Nat),v=.slice A n cp∧(0<n→∃ ad,A=some ad∧∀ j u,xs[j]?=some u→w.cell? (ad.add j)=some u):=by
    rcases hrow.2 with ⟨⟨A,rfl⟩,rfl⟩|⟨g,cap,cur,rfl,hc0,hh,hnc,hcm,hcs2,htk⟩
    · exact ⟨A,0,rfl,fun h=>by omega⟩
    · refine ⟨some ⟨g,0,none⟩,cap,rfl,fun _=>⟨_,rfl,fun j u hu=>?_⟩⟩
      rw [addr_add,Nat.zero_add,cell_of_row w g j cur e (0,0) hh]
      rw [←htk,List.getElem?_take] at hu
      split at hu
      · simpa using hu
      · cases hu
  obtain ⟨A,cp,rfl,hcell⟩:=hA
  exact ⟨A,cp,xs,hb,hrow.1,hcell,cells_one hc (by rw [hrow.1,hcl]) hr,hcl,hr⟩
theorem s_app (H:Holds c β st a w) (hdst:o.dst=some d) (hd:d<c.nt) {t e:TypeId} {sz bytes:Nat} {ox oy:Operand} {x y:X} (ho:o.op=.call { callee:=.builtin .append,args:=#[ox,oy],argTypes:=#[t,t] }) (ht:c.P.underlying t=some (.slice e))
  {i:TypeInfo} {z:Value} (hi:c.P.info? e=some i) (hz:i.zero=some z) (hsize:i.size=sz) (hby:i.bytes=bytes) (hzs:z.cells.size=sz) (hx:cX ox=some x) (hy:cX oy=some y)
  (hs:(opR st true d (.app e sz bytes x y)).side):Runs c β (st.app o.dst (opR st true d (.app e sz bytes x y))) a o w:=by
 have hrun:∀ v A m cp v' w',a.eval ox=v→a.eval oy=.slice A m cp→(Builtin.append_ #[t,t] o.type #[v,.slice A m cp]).run c.P w=.ok v' w'→(execOp a.eval o).run c.P w=.ok (.value v') w':=fun v A m cp v' w' h1 h2 h3=>by
  simp [execOp,ho,resolve,invoke,builtin,h1,h2,h3]
 have own:∀ (k n:Nat) (f:Nat→List D) (A:Option Addr) (m cp:Nat) (news:List Value) (g:Nat→List D) (sd:Prop) (rd:List Nat),evV st x=.osl k→evS true st x→own? st.own k=some (.row e sz n f)→a.eval oy=.slice A m cp→d∉st.nm→(n+m)*bytes≤140737488355328→n+m≤maxLen →
   news.length=m*sz→(0<m→∃ ad,A=some ad∧∀ j u,news[j]?=some u→w.cell? (ad.add j)=some u)→(∀ u∈news,u.oneCell'=true)→(∀ i,i<m→(g i).length=sz) →
   (∀ i j,i<m→j<sz→∀ (x:D),(g i)[j]?=some x→∃ u,news[i*sz+j]?=some u∧RelD (Eo c.E0 β st.own) w u x) →
   Runs c β (st.app o.dst { side:=sd,val:=.osl d,upd:=[(k,none),(d,some (.row e sz (n+m) (fun i=>if i<n then f i else g (i-n))))],rd:=rd }) a o w:=by
  intro k n f A m cp news g sd rd h1 hsx h2 hey hn hb h63 hnl hnc hn1 hgl hgr
  have e1:=evV_ok H hx hsx
  rw [h1] at e1
  obtain ⟨v,xs,hbk,hrow,hfl,hfr⟩:=own_ok H h2
  have hv:a.eval ox=v:=by
   generalize a.eval ox=u at *
   cases e1 with
   |osl _ _ hb' _=>rw [hbk] at hb';injection hb' with hb';exact hb'.symm
  obtain ⟨v',w',hr,hrow',hk,hblk,hone⟩:=run_app (ty:=o.type) (cp:=cp) ht hi hz hsize hby hzs hrow hnl hnc hn1 h63 hb
  have hbe:β.blk k=blkOf v:=by simp [Names.blk,hbk]
  obtain ⟨β',hβ,hbd,H'⟩:=H.replOwn (w':=w') (k0:=k) (k:=d) (val:=v') (ow:=.row e sz (n+m) (fun i=>if i<n then f i else g (i-n))) (mem_keys (own?_mem h2)) hn (by rw [hbe];exact hk) (fun b hb1=>by rw [hbe];exact hblk b hb1)
   (fun β' E' _ hbd hl=>row_cat hl hbd hrow' hrow.1 hfl hfr hgl hgr)
  refine ⟨v',w',β',.inl (hrun v A m cp v' w' hv hey hr),hβ,?_⟩
  rw [hdst]
  have:=H'.setV hd (.osl d v' hbd hone)
  simpa [St.app,setE,applyU,newN,hn] using this
 have full:∀ (full:Bool) (sz1 n:Nat) (f:Nat→List D) (A:Option Addr) (m cp:Nat) (news:List Value) (g:Nat→List D) (sd:Prop) (rd:List Nat),evV st x=.d (.sl full sz1 n f)→evS true st x→full=true→(0<n→sz1=sz)→a.eval oy=.slice A m cp→d∉st.nm→(n=0∨0<m)→(n+m)*bytes≤140737488355328→n+m≤maxLen →
   news.length=m*sz→(0<m→∃ ad,A=some ad∧∀ j u,news[j]?=some u→w.cell? (ad.add j)=some u)→(∀ u∈news,u.oneCell'=true)→(∀ i,i<m→(g i).length=sz) →
   (∀ i j,i<m→j<sz→∀ (x:D),(g i)[j]?=some x→∃ u,news[i*sz+j]?=some u∧RelD (Eo c.E0 β st.own) w u x) →
   Runs c β (st.app o.dst { side:=sd,val:=.osl d,upd:=[(d,some (.row e sz (n+m) (fun i=>if i<n then f i else g (i-n))))],rd:=rd }) a o w:=by
  intro full sz1 n f A m cp news g sd rd h1 hsx hfull hsz1 hey hn hnm hb h63 hnl hnc hn1 hgl hgr
  have e1:=evV_ok H hx hsx
  rw [h1] at e1
  generalize a.eval ox=v at *
  cases e1 with
  |d _ _ e1 =>
  obtain ⟨B,c1,xs,rfl,hcf,hnc1,hxl,hxc,hx1,hfl,hfr⟩:=cells_of_sl e1 hsz1
  have:=hcf hfull
  subst this
  have key:∃ v' w',(Builtin.append_ #[t,t] o.type #[.slice B c1 c1,.slice A m cp]).run c.P w=.ok v' w'∧RowOk w' e sz v' (c1+m) (xs++news)∧Keeps (fun _=>False) w w' ∧
   (∀ b,blkOf v'=some b→(w.heap.size≤b∧b<w'.heap.size))∧v'.oneCell'=true:=by
   rcases Nat.eq_zero_or_pos c1 with h0|hpos
   ·subst h0
    have hx0:xs=[]:=List.eq_nil_of_length_eq_zero (by simpa using hxl)
    subst hx0
    obtain ⟨v',w',hr,hrow',hk,hblk,hone⟩:=run_app (ty:=o.type) (cp:=cp) (v:=.slice B 0 0) (n:=0) (xs:=[]) ht hi hz hsize hby hzs ⟨by simp,.inl ⟨⟨B,rfl⟩,rfl⟩⟩ hnl hnc hn1 h63 hb
    have hbn:blkOf (.slice B 0 0)=none:=by cases B<;>simp [blkOf]
    rw [hbn] at hk hblk
    exact ⟨v',w',hr,hrow',hk.mono (fun b hb=>by cases hb),fun b hb=>(hblk b hb).resolve_left (by simp),hone⟩
   ·have hm:0<m:=hnm.resolve_left (by omega)
    obtain ⟨b0,rfl,hb0⟩:=hxc hpos
    obtain ⟨ad,rfl,had⟩:=hnc hm
    exact run_app_full (ty:=o.type) ht hi hz hsize hby hzs hxl hb0 hnl hm had h63 hb
  obtain ⟨v',w',hr,hrow',hk,hblk,hone⟩:=key
  exact Runs.mk H hdst hd hn (hrun _ A m cp v' w' rfl hey hr) hk (fun b hb1=>hblk b hb1) (fun β' E' _ hbd hl=>row_cat hl hbd hrow' hxl hfl hfr hgl hgr) (fun β' E' hbd=>.osl d v' hbd hone)
 simp only [opR] at hs ⊢
 split at hs
 ·rename_i k fl sz2 m g h1 h2
  split at hs
  ·rename_i e' sz1 n f h3
   obtain ⟨hsx,hsy,rfl,rfl,hm2,hb,h63,hn⟩:=hs
   have e2:=evV_ok H hy hsy
   rw [h2] at e2
   generalize a.eval oy=u at *
   cases e2 with
   |d _ _ e2 =>
    obtain ⟨A,cp,news,rfl,_,_,hnl,hnc,hn1,hgl,hgr⟩:=cells_of_sl e2 hm2
    exact own k n f A m cp news g _ _ h1 hsx h3 rfl hn hb h63 hnl hnc hn1 hgl hgr
  ·rename_i e' sz1 n cs h3
   obtain ⟨hsx,hsy,rfl,rfl,hm2,hb,h63,hn⟩:=hs
   have e2:=evV_ok H hy hsy
   rw [h2] at e2
   generalize a.eval oy=u at *
   cases e2 with
   |d _ _ e2 =>
    obtain ⟨A,cp,news,rfl,_,_,hnl,hnc,hn1,hgl,hgr⟩:=cells_of_sl e2 hm2
    have e1:=evV_ok H hx hsx
    rw [h1] at e1
    obtain ⟨v,xs,hbk,hrow,hcl,hcr⟩:=own_ok H h3
    have hv:a.eval ox=v:=by
     generalize a.eval ox=u at *
     cases e1 with
     |osl _ _ hb' _=>rw [hbk] at hb';injection hb' with hb';exact hb'.symm
    obtain ⟨v',w',hr,hrow',hk,hblk,hone⟩:=run_app (ty:=o.type) (cp:=cp) ht hi hz hsize hby hzs hrow hnl hnc hn1 h63 hb
    have hbe:β.blk k=blkOf v:=by simp [Names.blk,hbk]
    obtain ⟨β',hβ,hbd,H'⟩:=H.replOwn (w':=w') (k0:=k) (k:=d) (val:=v') (ow:=.lit e' sz1 (n+m) (cs++catR m g)) (mem_keys (own?_mem h3)) hn (by rw [hbe];exact hk) (fun b hb1=>by rw [hbe];exact hblk b hb1)
     (fun β' E' hβ hbd hl=>⟨v',_,hbd,hrow',by rw [List.length_append,hcl,catR_len hgl,Nat.add_mul],fun j u x hu hx=>by
      by_cases hj:j<n*sz1
      ·rw [List.getElem?_append_left (by rw [hrow.1];exact hj)] at hu
       rw [List.getElem?_append_left (by rw [hcl];exact hj)] at hx
       exact (hcr j u x hu hx).lasts' hl hβ
      ·rw [List.getElem?_append_right (by rw [hrow.1];omega),hrow.1] at hu
       rw [List.getElem?_append_right (by rw [hcl];omega),hcl] at hx
       obtain ⟨i,q,h5,h6,h7,h8⟩:=catR_get hgl hx
       obtain ⟨y,h9,rfl⟩:=h8
       obtain ⟨u',h10,h11⟩:=hgr i q h5 h6 y h9
       rw [h7,h10] at hu
       cases hu
       exact .d _ _ (h11.lasts hl)⟩)
    refine ⟨v',w',β',.inl (hrun v A m cp v' w' hv rfl hr),hβ,?_⟩
    rw [hdst]
    have:=H'.setV hd (.osl d v' hbd hone)
    simpa [St.app,setE,applyU,newN,hn] using this
  ·exact hs.elim
 ·rename_i fl sz1 n f fl2 sz2 m g h1 h2
  obtain ⟨hsx,hsy,hfull,hsz1,hm2,hb,h63,hn⟩:=hs
  have e2:=evV_ok H hy hsy
  rw [h2] at e2
  generalize a.eval oy=u at *
  cases e2 with
  |d _ _ e2 =>
   obtain ⟨A,cp,news,rfl,_,_,hnl,hnc,hn1,hgl,hgr⟩:=cells_of_sl e2 hm2
   by_cases hc:m=0∧0<n
   ·simp only [if_pos hc]
    obtain ⟨rfl,hpos⟩:=hc
    have e1:=evV_ok H hx hsx
    rw [h1] at e1
    generalize hv:a.eval ox=v at *
    cases e1 with
    |d _ _ e1 =>
     obtain ⟨B,c1,xs,rfl,_,hnc1,_,_,_,_,_⟩:=cells_of_sl e1 hsz1
     exact Runs.val H (fun d' hd'=>by rw [hdst] at hd';cases hd';exact hd) (hrun _ A 0 cp _ _ rfl rfl (run_app0 ht hi hnc1)) (.d _ _ e1)
   ·simp only [if_neg hc]
    exact full fl sz1 n f A m cp news g _ _ h1 hsx hfull hsz1 rfl hn (by omega) hb h63 hnl hnc hn1 hgl hgr
 ·rename_i k k2 h1 h2
  split at hs
  ·rename_i e' sz1 n f e2' sz2 m cs h3 h4
   split at hs
   ·rename_i ds h5
    obtain ⟨hsx,hsy,hkk,rfl,rfl,rfl,hb,h63,hn⟩:=hs
    have e2:=evV_ok H hy hsy
    rw [h2] at e2
    obtain ⟨A,cp,news,hbk,hnl,hnc,hn1,hgl,hgr⟩:=cells_of_lit H h4 h5
    have hv:a.eval oy=.slice A m cp:=by
     generalize a.eval oy=u at *
     cases e2 with
     |osl _ _ hb' _=>rw [hbk] at hb';injection hb' with hb';exact hb'.symm
    exact own k n f A m cp news (fun i=>(ds.drop (i*sz2)).take sz2) _ _ h1 hsx h3 hv hn hb h63 hnl hnc hn1 hgl hgr
   ·exact hs.elim
  ·rename_i e' sz1 n cs e2' sz2 m cs2 h3 h4
   obtain ⟨hsx,hsy,hkk,rfl,rfl,rfl,hca,hb,h63,hn⟩:=hs
   have e2:=evV_ok H hy hsy
   rw [h2] at e2
   obtain ⟨A,cp,news,hbk2,hnl,hnc,hn1,hnc2,hnr⟩:=cells_of_litV H h4 hca
   have hv2:a.eval oy=.slice A m cp:=by
    generalize a.eval oy=u at *
    cases e2 with
    |osl _ _ hb' _=>rw [hbk2] at hb';injection hb' with hb';exact hb'.symm
   have e1:=evV_ok H hx hsx
   rw [h1] at e1
   obtain ⟨v,xs,hbk,hrow,hcl,hcr⟩:=own_ok H h3
   have hv:a.eval ox=v:=by
    generalize a.eval ox=u at *
    cases e1 with
    |osl _ _ hb' _=>rw [hbk] at hb';injection hb' with hb';exact hb'.symm
   obtain ⟨v',w',hr,hrow',hk,hblk,hone⟩:=run_app (ty:=o.type) (cp:=cp) ht hi hz hsize hby hzs hrow hnl hnc hn1 h63 hb
   have hbe:β.blk k=blkOf v:=by simp [Names.blk,hbk]
   obtain ⟨β',hβ,hbd,H'⟩:=H.replOwn (w':=w') (k0:=k) (k:=d) (val:=v') (ow:=.lit e' sz2 (n+m) (cs++cs2)) (mem_keys (own?_mem h3)) hn (by rw [hbe];exact hk) (fun b hb1=>by rw [hbe];exact hblk b hb1)
    (fun β' E' hβ hbd hl=>⟨v',_,hbd,hrow',by rw [List.length_append,hcl,hnc2,Nat.add_mul],fun j u x hu hx=>by
     by_cases hj:j<n*sz2
     ·rw [List.getElem?_append_left (by rw [hrow.1];exact hj)] at hu
      rw [List.getElem?_append_left (by rw [hcl];exact hj)] at hx
      exact (hcr j u x hu hx).lasts' hl hβ
     ·rw [List.getElem?_append_right (by rw [hrow.1];omega),hrow.1] at hu
      rw [List.getElem?_append_right (by rw [hcl];omega),hcl] at hx
      exact (hnr _ u x hu hx).lasts' hl hβ⟩)
   refine ⟨v',w',β',.inl (hrun v A m cp v' w' hv hv2 hr),hβ,?_⟩
   rw [hdst]
   have:=H'.setV hd (.osl d v' hbd hone)
   simpa [St.app,setE,applyU,newN,hn] using this
  ·exact hs.elim
 ·rename_i fl sz1 n f k2 h1 h2
  split at hs
  ·rename_i e2' sz2 m cs h4
   split at hs
   ·rename_i ds h5
    obtain ⟨hsx,hsy,hfull,hsz1,rfl,hm,hb,h63,hn⟩:=hs
    have e2:=evV_ok H hy hsy
    rw [h2] at e2
    obtain ⟨A,cp,news,hbk,hnl,hnc,hn1,hgl,hgr⟩:=cells_of_lit H h4 h5
    have hv:a.eval oy=.slice A m cp:=by
     generalize a.eval oy=u at *
     cases e2 with
     |osl _ _ hb' _=>rw [hbk] at hb';injection hb' with hb';exact hb'.symm
    exact full fl sz1 n f A m cp news (fun i=>(ds.drop (i*sz2)).take sz2) _ _ h1 hsx hfull hsz1 hv hn (.inr hm) hb h63 hnl hnc hn1 hgl hgr
   ·exact hs.elim
  ·rename_i e2' sz2 m g h4
   obtain ⟨hsx,hsy,hfull,hsz1,rfl,hm,hb,h63,hn⟩:=hs
   have e2:=evV_ok H hy hsy
   rw [h2] at e2
   obtain ⟨A,cp,news,hbk,hnl,hnc,hn1,hgl,hgr⟩:=cells_of_own H h4
   have hv:a.eval oy=.slice A m cp:=by
    generalize a.eval oy=u at *
    cases e2 with
    |osl _ _ hb' _=>rw [hbk] at hb';injection hb' with hb';exact hb'.symm
   exact full fl sz1 n f A m cp news g _ _ h1 hsx hfull hsz1 hv hn hm hb h63 hnl hnc hn1 hgl hgr
  ·exact hs.elim
 ·exact hs.elim
end
end Go.Bx
end
section
namespace Go.Bx
open Go.RowKit
theorem rel_d {β:Names} {E:Nat→Prop} {w:World} {v:Value} {x:D} (h:RelV β E w v (.d x)):RelD E w v x:=by
 cases h with|d _ _ h=>exact h
theorem putV_len:∀ (l:List V) (n:Nat) (ys:List V),(putV l n ys).length=l.length
 |[],n,ys=>by cases n<;>cases ys<;>simp [putV]
 |v::l,0,[]=>by simp [putV]
 |v::l,n+1,[]=>by simp [putV]
 |v::l,0,y::ys=>by simp [putV,putV_len l 0 ys]
 |v::l,n+1,y::ys=>by simp [putV,putV_len l n (y::ys)]
theorem putV_get:∀ (l:List V) (n:Nat) (ys:List V) (j:Nat),(putV l n ys)[j]?=if n≤j∧j<n+ys.length∧j<l.length then ys[j-n]? else l[j]?
 |[],n,ys,j=>by cases n<;>cases ys<;>simp [putV]
 |v::l,0,[],j=>by simp [putV]
 |v::l,n+1,[],j=>by
  simp only [putV,List.length_nil,Nat.add_zero]
  rw [if_neg (by omega)]
 |v::l,0,y::ys,j=>by
  cases j with
  |zero=>simp [putV]
  |succ j =>
   simp only [putV,List.getElem?_cons_succ,putV_get l 0 ys j,List.length_cons]
   by_cases h:j<ys.length∧j<l.length
   ·rw [if_pos (by omega),if_pos (by omega)];simp
   ·rw [if_neg (by omega),if_neg (by omega)]
 |v::l,n+1,y::ys,j=>by
  cases j with
  |zero=>simp [putV]
  |succ j =>
   simp only [putV,List.getElem?_cons_succ,putV_get l n (y::ys) j,List.length_cons]
   by_cases h:n≤j∧j<n+(ys.length+1)∧j<l.length
   ·rw [if_pos h,if_pos (by omega)];congr 1;omega
   ·rw [if_neg h,if_neg (by omega)]
theorem putD_len:∀ (l:List D) (n:Nat) (ys:List D),(putD l n ys).length=l.length
 |[],n,ys=>by cases n<;>cases ys<;>simp [putD]
 |v::l,0,[]=>by simp [putD]
 |v::l,n+1,[]=>by simp [putD]
 |v::l,0,y::ys=>by simp [putD,putD_len l 0 ys]
 |v::l,n+1,y::ys=>by simp [putD,putD_len l n (y::ys)]
theorem putD_get:∀ (l:List D) (n:Nat) (ys:List D) (j:Nat),(putD l n ys)[j]?=if n≤j∧j<n+ys.length∧j<l.length then ys[j-n]? else l[j]?
 |[],n,ys,j=>by cases n<;>cases ys<;>simp [putD]
 |v::l,0,[],j=>by simp [putD]
 |v::l,n+1,[],j=>by
  simp only [putD,List.length_nil,Nat.add_zero]
  rw [if_neg (by omega)]
 |v::l,0,y::ys,j=>by
  cases j with
  |zero=>simp [putD]
  |succ j =>
   simp only [putD,List.getElem?_cons_succ,putD_get l 0 ys j,List.length_cons]
   by_cases h:j<ys.length∧j<l.length
   ·rw [if_pos (by omega),if_pos (by omega)];simp
   ·rw [if_neg (by omega),if_neg (by omega)]
 |v::l,n+1,y::ys,j=>by
  cases j with
  |zero=>simp [putD]
  |succ j =>
   simp only [putD,List.getElem?_cons_succ,putD_get l n (y::ys) j,List.length_cons]
   by_cases h:n≤j∧j<n+(ys.length+1)∧j<l.length
   ·rw [if_pos h,if_pos (by omega)];congr 1;omega
   ·rw [if_neg h,if_neg (by omega)]
def spliced (cur:Array Value) (o:Nat) (vs:List Value):Array Value:=(cur.toList.take o++vs++cur.toList.drop (o+vs.length)).toArray
theorem spliced_size {cur:Array Value} {o:Nat} {vs:List Value} (h:o+vs.length≤cur.size):(spliced cur o vs).size=cur.size:=by
 simp [spliced];omega
theorem spliced_get {cur:Array Value} {o:Nat} {vs:List Value} (h:o+vs.length≤cur.size) (j:Nat) :
  (spliced cur o vs)[j]?=if o≤j∧j<o+vs.length then vs[j-o]? else cur[j]?:=by
 simp only [spliced,List.getElem?_toArray]
 by_cases h1:j<o
 ·rw [if_neg (by omega),List.append_assoc,List.getElem?_append_left (by simp;omega),List.getElem?_take,if_pos h1];simp
 ·by_cases h2:j<o+vs.length
  ·rw [if_pos (by omega),List.getElem?_append_left (by simp;omega),List.getElem?_append_right (by simp;omega)]
   congr 1;simp;omega
  ·rw [if_neg (by omega),List.getElem?_append_right (by simp;omega),List.getElem?_drop]
   simp only [List.length_append,List.length_take,Array.length_toList]
   rw [show o+vs.length+(j-(min o cur.size+vs.length))=j by omega]
   simp
section
variable {c:Ctx} {β:Names} {st:St} {a:Act} {w:World} {o:Oper} {d:Nat}
theorem run_storeAt {P:Program} {w:World} {t e:TypeId} {sz b off:Nat} (hz:szB P t=some sz) {v:Value} (hv:v.cells.size=sz) {cur:Array Value} (hh:w.heap[b]?=some (.cells cur e (0,0))) (hlt:off+sz≤cur.size) (h1:∀ u,u∈v.cells.toList→u.oneCell'=true) :
  (Instr.storeAt t (.pointer (some ⟨b,off,none⟩)) v).run P w=.ok () (w.setRow b (spliced cur off v.cells.toList)):=by
 obtain ⟨i,hi,hi2⟩:=Option.map_eq_some_iff.1 hz
 have hst:=run_storeCells_at P b off e v.cells.toList 0 cur w hh (by simp;omega) h1
 simp only [Nat.add_zero] at hst
 simp [Instr.storeAt,Instr.sureAddr,storeVar,sizeOf,typeInfo,hi,hi2,hv,hst,spliced]
theorem Runs.upd (H:Holds c β st a w) (hdst:o.dst=none) {k b:Nat} {ow:Own} {sd:Prop} {rd:List Nat} {w':World} (hkk:k∈keysO st.own) (hb:β.blk k=some b)
  (hr:(execOp a.eval o).run c.P w=.ok .skip w') (hk:Keeps (fun x=>x=b) w w') (ho:∀ E',Lasts (Eo c.E0 β st.own) E' w w'→E'=Eo c.E0 β st.own→OwnOk β E' w' k ow) :
  Runs c β (st.app o.dst { side:=sd,val:=.un,upd:=[(k,some ow)],rd:=rd }) a o w:=by
 refine ⟨undef,w',β,.inr ⟨hr,rfl⟩,Names.le.refl β,?_⟩
 have:=H.updOwn hkk (hk.mono (fun x e=>by rw [e,hb])) ho
 rw [hdst]
 simpa [St.app,setE,applyU,newN,H.kn k hkk,Act.put] using this
theorem s_store (H:Holds c β st a w) (hdst:o.dst=none) {sz:Nat} {t:TypeId} {ox oy:Operand} {x y:X} (ho:o.op=.store t ox oy) (hz:szB c.P t=some sz) (hx:cX ox=some x) (hy:cX oy=some y)
  (hs:(opR st true d (.store sz x y)).side):Runs c β (st.app o.dst (opR st true d (.store sz x y))) a o w:=by
 simp only [opR] at hs ⊢
 have hexec:∀ w',(Instr.storeAt t (a.eval ox) (a.eval oy)).run c.P w=.ok () w'→(execOp a.eval o).run c.P w=.ok .skip w':=fun w' h=>by simp [execOp,ho,h]
 split at hs
 ·rename_i k off ys h1 h2
  split at hs
  ·rename_i cs h3
   obtain ⟨hsx,hsy,rfl,hlt⟩:=hs
   have e1:=evV_ok H hx hsx
   have e2:=evV_ok H hy hsy
   rw [h1] at e1
   obtain ⟨g1,g2,g3⟩:=e2.cells h2
   obtain ⟨b,arr,e,hb,hh,hsz,hr⟩:=own_ok H h3
   generalize a.eval ox=u at *
   cases e1 with
   |own _ _ b' hb' =>
    rw [hb] at hb'
    injection hb' with hb';injection hb' with hb';injection hb' with hb';injection hb' with hb'
    subst hb'
    have hle:off+(a.eval oy).cells.toList.length≤arr.size:=by simp [g1,hsz];omega
    have hrun:=run_storeAt (P:=c.P) (t:=t) (off:=off) hz g1 hh (by omega) g3
    refine Runs.upd H hdst (b:=b) (mem_keys (own?_mem h3)) (by simp [Names.blk,hb,blkOf]) (hexec _ hrun) (keeps_setRow _ _ _ _ rfl) (fun E' hl hE=>?_)
    refine ⟨b,_,e,hb,setRow_heap w b arr _ e _ hh,by rw [spliced_size hle,putV_len,hsz],fun j v x hv hx=>?_⟩
    rw [spliced_get hle] at hv
    rw [putV_get] at hx
    simp only [Array.length_toList,g1] at hv
    by_cases hj:off≤j∧j<off+ys.length
    ·rw [if_pos hj] at hv
     rw [if_pos (by omega)] at hx
     exact (g2 _ v x (by simpa using hv) hx).lasts' hl (Names.le.refl β)
    ·rw [if_neg hj] at hv
     rw [if_neg (by omega)] at hx
     exact (hr j v x hv hx).lasts' hl (Names.le.refl β)
  ·exact hs.elim
 ·rename_i k sz' i off ys h1 h2
  split at hs
  ·rename_i e0 sz2 n f ds h3 h4
   obtain ⟨hsx,hsy,rfl,rfl,hin,hlt⟩:=hs
   have e1:=evV_ok H hx hsx
   have e2:=evV_ok H hy hsy
   rw [h1] at e1
   obtain ⟨g1,g2,g3⟩:=e2.cells h2
   obtain ⟨v0,xs,hb,hrow,hfl,hfr⟩:=own_ok H h3
   have hds:=toDs_some h4
   have hdl:ds.length=ys.length:=by rw [hds];simp
   generalize a.eval ox=u at *
   cases e1 with
   |optr _ _ _ _ b m cp hb' =>
    rw [hb] at hb'
    injection hb' with hb'
    subst hb'
    obtain ⟨hxl,hrow⟩:=hrow
    rcases hrow with ⟨_,hn0⟩|⟨g,cap,cur,hv,hc0,hh,hnc,hcm,hcs,htk⟩
    ·omega
    ·injection hv with hv1 hv2 hv3
     injection hv1 with hv1;injection hv1 with hv1
     subst hv1;subst hv2;subst hv3
     have hin':i*sz'+off+ys.length≤m*sz':=by
      have:(i+1)*sz'≤m*sz':=Nat.mul_le_mul_right _ hin
      rw [Nat.add_mul] at this;omega
     have hcap:m*sz'≤cp*sz':=Nat.mul_le_mul_right _ hnc
     have hle:i*sz'+off+(a.eval oy).cells.toList.length≤cur.size:=by simp [g1,hcs];omega
     have hrun:=run_storeAt (P:=c.P) (t:=t) (off:=i*sz'+off) hz g1 hh (by omega) g3
     refine Runs.upd H hdst (b:=b) (mem_keys (own?_mem h3)) (by simp [Names.blk,hb,blkOf];omega) (hexec _ hrun) (keeps_setRow _ _ _ _ rfl) (fun E' hl hE=>?_)
     refine ⟨_,(spliced cur (i*sz'+off) (a.eval oy).cells.toList).toList.take (m*sz'),hb,⟨by rw [List.length_take,Array.length_toList,spliced_size hle,hcs];omega,.inr ⟨b,cp,_,rfl,hc0,setRow_heap w b cur _ _ _ hh,hnc,hcm,by rw [spliced_size hle,hcs],rfl⟩⟩,fun i' hi'=>?_,fun i' j hi' hj x hx=>?_⟩
     ·dsimp only
      split
      ·rename_i e;subst e;rw [putD_len];exact hfl _ hi'
      ·exact hfl _ hi'
     ·have hidx:i'*sz'+j<m*sz':=by
       have:(i'+1)*sz'≤m*sz':=Nat.mul_le_mul_right _ hi'
       rw [Nat.add_mul] at this;omega
      rw [List.getElem?_take,if_pos hidx]
      have hget:=spliced_get hle (i'*sz'+j)
      simp only [Array.length_toList,g1] at hget
      rw [Array.getElem?_toList,hget]
      have hxs:cur[i'*sz'+j]?=xs[i'*sz'+j]?:=by rw [←htk,List.getElem?_take,if_pos hidx];simp
      dsimp only at hx
      split at hx
      ·rename_i e
       subst e
       rw [putD_get] at hx
       by_cases hj2:off≤j∧j<off+ys.length
       ·rw [if_pos (by omega)]
        rw [if_pos (by rw [hdl,hfl _ hi'];omega)] at hx
        have hlt3:j-off<(a.eval oy).cells.size:=by omega
        have hu:(a.eval oy).cells[j-off]?=some (a.eval oy).cells[j-off]:=Array.getElem?_eq_getElem hlt3
        have:=g2 (j-off) _ (.d x) hu (by rw [hds];simp [hx])
        refine ⟨(a.eval oy).cells[j-off],?_,(rel_d this).lasts hl⟩
        rw [show i'*sz'+j-(i'*sz'+off)=j-off by omega,Array.getElem?_toList];exact hu
       ·rw [if_neg (by omega),hxs]
        rw [if_neg (by omega)] at hx
        obtain ⟨u,q1,q2⟩:=hfr i' j hi' hj x hx
        exact ⟨u,q1,q2.lasts hl⟩
      ·rename_i e
       have:¬ (i*sz'+off≤i'*sz'+j∧i'*sz'+j<i*sz'+off+ys.length):=by
        intro ⟨q1,q2⟩
        rcases Nat.lt_or_gt_of_ne e with q|q
        ·have:(i'+1)*sz'≤i*sz':=Nat.mul_le_mul_right _ q
         rw [Nat.add_mul] at this;omega
        ·have:(i+1)*sz'≤i'*sz':=Nat.mul_le_mul_right _ q
         rw [Nat.add_mul] at this;omega
       rw [if_neg this,hxs]
       obtain ⟨u,q1,q2⟩:=hfr i' j hi' hj x hx
       exact ⟨u,q1,q2.lasts hl⟩
  ·rename_i e0 sz2 n cs h3
   obtain ⟨hsx,hsy,rfl,rfl,hin,hlt⟩:=hs
   have e1:=evV_ok H hx hsx
   have e2:=evV_ok H hy hsy
   rw [h1] at e1
   obtain ⟨g1,g2,g3⟩:=e2.cells h2
   obtain ⟨v0,xs,hb,hrow,hcl,hr⟩:=own_ok H h3
   generalize a.eval ox=u at *
   cases e1 with
   |optr _ _ _ _ b m cp hb' =>
    rw [hb] at hb'
    injection hb' with hb'
    subst hb'
    obtain ⟨hxl,hrow⟩:=hrow
    rcases hrow with ⟨_,hn0⟩|⟨g,cap,cur,hv,hc0,hh,hnc,hcm,hcs,htk⟩
    ·omega
    injection hv with hv1 hv2 hv3
    injection hv1 with hv1;injection hv1 with hv1
    subst hv1;subst hv2;subst hv3
    have hin':i*sz'+off+ys.length≤m*sz':=by
     have:(i+1)*sz'≤m*sz':=Nat.mul_le_mul_right _ hin
     rw [Nat.add_mul] at this;omega
    have hcap:m*sz'≤cp*sz':=Nat.mul_le_mul_right _ hnc
    have hle:i*sz'+off+(a.eval oy).cells.toList.length≤cur.size:=by simp [g1,hcs];omega
    have hrun:=run_storeAt (P:=c.P) (t:=t) (off:=i*sz'+off) hz g1 hh (by omega) g3
    refine Runs.upd H hdst (b:=b) (mem_keys (own?_mem h3)) (by simp [Names.blk,hb,blkOf];omega) (hexec _ hrun) (keeps_setRow _ _ _ _ rfl) (fun E' hl hE=>?_)
    refine ⟨_,(spliced cur (i*sz'+off) (a.eval oy).cells.toList).toList.take (m*sz'),hb,⟨by rw [List.length_take,Array.length_toList,spliced_size hle,hcs];omega,.inr ⟨b,cp,_,rfl,hc0,setRow_heap w b cur _ _ _ hh,hnc,hcm,by rw [spliced_size hle,hcs],rfl⟩⟩,by rw [putV_len,hcl],fun j v x hv hx=>?_⟩
    rw [List.getElem?_take] at hv
    split at hv
    ·rename_i hjm
     rw [Array.getElem?_toList,spliced_get hle] at hv
     rw [putV_get] at hx
     simp only [Array.length_toList,g1] at hv
     by_cases hj:i*sz'+off≤j∧j<i*sz'+off+ys.length
     ·rw [if_pos hj] at hv
      rw [if_pos (by omega)] at hx
      exact (g2 _ v x (by simpa using hv) hx).lasts' hl (Names.le.refl β)
     ·rw [if_neg hj] at hv
      rw [if_neg (by omega)] at hx
      refine (hr j v x ?_ hx).lasts' hl (Names.le.refl β)
      rw [←htk,List.getElem?_take,if_pos hjm];simpa using hv
    ·cases hv
  ·exact hs.elim
 ·exact hs.elim
theorem s_mks (H:Holds c β st a w) (hdst:o.dst=some d) (hd:d<c.nt) {t e:TypeId} {sz bytes:Nat} {zd:List D} {ol oc:Operand} {l cc:X} (ho:o.op=.makeSlice t ol oc) (ht:c.P.underlying t=some (.slice e))
  {i:TypeInfo} {z:Value} (hi:c.P.info? e=some i) (hz:i.zero=some z) (hsize:i.size=sz) (hby:i.bytes=bytes) (hzs:z.cells.size=sz) (hzd:cVs z.cells.toList=some (zd.map .d)) (hl:cX ol=some l) (hc:cX oc=some cc)
  (hs:(opR st true d (.mks e sz bytes zd l cc)).side):Runs c β (st.app o.dst (opR st true d (.mks e sz bytes zd l cc))) a o w:=by
 simp only [opR] at hs ⊢
 split at hs
 ·rename_i kl m kc n h1 h2
  obtain ⟨hsl,hsc,h0,hmn,hb,h63,hn⟩:=hs
  have e1:=evV_ok H hl hsl
  have e2:=evV_ok H hc hsc
  rw [h1] at e1
  rw [h2] at e2
  have e1:=rel_int e1
  have e2:=rel_int e2
  have hbb:(i.bytes:Int)*n≤281474976710656:=by
   rw [hby]
   have:((n.toNat*bytes:Nat):Int)≤281474976710656:=by omega
   rw [Int.natCast_mul,Int.toNat_of_nonneg (by omega),Int.mul_comm] at this
   exact this
  have hr:=run_make (P:=c.P) w t e i z ht hi hz kl kc m n h0 hmn hbb h63
  refine Runs.mk H hdst hd hn (v:=.slice (some ⟨w.heap.size,0,none⟩) m.toNat n.toNat) (w':=w.alloc (.cells (madeCells z.cells (n.toNat*i.size)) e)) (exec_val (s:=Instr.makeSlice t (a.eval ol) (a.eval oc)) (by simp only [execOp,ho]) (by rw [e1,e2];exact hr)) (keeps_alloc _ _) (fun b hb=>?_) (fun β' E' hβ hk hl=>?_) (fun β' E' hk=>.osl _ _ hk rfl)
  ·simp only [blkOf] at hb
   split at hb
   ·cases hb
   ·simp at hb;subst hb;exact ⟨Nat.le_refl _,by simp⟩
  ·obtain ⟨q1,q2⟩:=cVs_cells (β:=β') (E:=E') (w:=w.alloc (.cells (madeCells z.cells (n.toNat*i.size)) e)) (arr:=z.cells) hzd
   have hzl:zd.length=sz:=by rw [←hzs,q1];simp
   have hcur:∀ i' j,i'<n.toNat→j<sz→(madeCells z.cells (n.toNat*i.size))[i'*sz+j]?=z.cells[j]?:=fun i' j hi' hj=>by
    have hlt:i'*sz+j<n.toNat*sz:=by
     have:(i'+1)*sz≤n.toNat*sz:=Nat.mul_le_mul_right _ hi'
     rw [Nat.add_mul] at this;omega
    have hm:(i'*sz+j) % sz=j:=by rw [Nat.mul_comm,Nat.mul_add_mod,Nat.mod_eq_of_lt hj]
    have hjz:j<z.cells.size:=by omega
    rw [Array.getElem?_eq_getElem hjz]
    simp [madeCells,hsize,hlt,hzs,hm,getElem!_pos z.cells j hjz]
   by_cases hn0:n.toNat=0
   ·have hm0:m.toNat=0:=by omega
    rw [hn0,hm0] at hk
    refine ⟨_,[],hk,⟨by simp [hm0],.inl ⟨⟨_,rfl⟩,hm0⟩⟩,fun i' hi'=>by omega,fun i' j hi'=>by omega⟩
   ·refine ⟨_,(madeCells z.cells (n.toNat*i.size)).toList.take (m.toNat*sz),hk,⟨?_,.inr ⟨w.heap.size,n.toNat,_,rfl,by omega,heap_alloc_new w _,by omega,by unfold maxLen;omega,by rw [size_madeCells,hsize],rfl⟩⟩,fun i' hi'=>hzl,fun i' j hi' hj x hx=>?_⟩
    ·have:m.toNat*sz≤n.toNat*sz:=Nat.mul_le_mul_right _ (by omega)
     rw [List.length_take,Array.length_toList,size_madeCells,hsize];omega
    ·have hlt:i'*sz+j<m.toNat*sz:=by
      have:(i'+1)*sz≤m.toNat*sz:=Nat.mul_le_mul_right _ hi'
      rw [Nat.add_mul] at this;omega
     have hjz:j<z.cells.size:=by omega
     refine ⟨z.cells[j],?_,?_⟩
     ·rw [List.getElem?_take,if_pos hlt,Array.getElem?_toList,hcur i' j (by omega) hj]
      exact Array.getElem?_eq_getElem hjz
     ·exact rel_d (q2 j z.cells[j] (.d x) (Array.getElem?_eq_getElem hjz) (by simp [hx]))
 ·exact hs.elim
theorem s_slc (H:Holds c β st a w) (hd:∀ d,o.dst=some d→d<c.nt) {t e:TypeId} {sz:Nat} {ox:Operand} {x:X} {lo hi mx:Option Operand} {xlo xhi xmx:Option X} (ho:o.op=.slice t ox lo hi mx) (ht:c.P.underlying t=some (.slice e)) (hz:szB c.P e=some sz) (hx:cX ox=some x)
  (hlo:cX? lo=some xlo) (hhi:cX? hi=some xhi) (hmx:cX? mx=some xmx)
  (hs:(opR st true d (.slc sz x xlo xhi xmx)).side):Runs c β (st.app o.dst (opR st true d (.slc sz x xlo xhi xmx))) a o w:=by
 have hopt:∀ (q:Option Operand) (y:X),cX? q=some (some y)→∃ r,q=some r∧cX r=some y:=fun q y h=>by
  cases q with
  |none=>simp [cX?] at h
  |some r=>simp [cX?] at h;exact ⟨r,rfl,h⟩
 have hnone:∀ (q:Option Operand),cX? q=some none→q=none:=fun q h=>by
  cases q with
  |none=>rfl
  |some r=>simp [cX?] at h
 obtain ⟨ii,hii,hii2⟩:=Option.map_eq_some_iff.1 hz
 have hszr:(sizeOf e).run c.P w=.ok sz w:=by simp [sizeOf,typeInfo,hii,hii2]
 have hexec:∀ v,(Instr.slice t (a.eval ox) (lo.map a.eval) (hi.map a.eval) (mx.map a.eval)).run c.P w=.ok v w→(execOp a.eval o).run c.P w=.ok (.value v) w:=fun v h=>by
  simp [execOp,ho,Instr.sliceAt,run_underlying ht,h]
 simp only [opR] at hs ⊢
 split at hs
 ·rename_i fl sz' n f kb bb h1 h2 h3 h4
  cases xlo with
  |some _=>simp at h2
  |none =>
  cases xmx with
  |some _=>simp at h4
  |none =>
  obtain ⟨yh,rfl,h3'⟩:=Option.map_eq_some_iff.1 h3
  obtain ⟨hsx,hb0,hbn,hszz,hsh⟩:=hs
  obtain ⟨rh,rfl,hrh⟩:=hopt hi yh hhi
  have:=hnone lo hlo
  subst this
  have:=hnone mx hmx
  subst this
  have e1:=evV_ok H hx hsx
  rw [h1] at e1
  have e2:=evV_ok H hrh (hsh yh rfl)
  rw [h3'] at e2
  have e2:=rel_int e2
  cases hu:a.eval ox<;>rw [hu] at e1<;>(try (cases e1 with|d _ _ e1=>cases e1;done))
  rename_i A nn cp
  cases e1 with
  |d _ _ e1 =>
   have hcp:nn=n∧n≤cp:=by cases e1<;>simp_all
   obtain ⟨rfl,hcp⟩:=hcp
   refine Runs.val H hd (v:=.slice (if cp=0 then A else A.map (·.add (0*sz))) (bb.toNat-0) (cp-0)) (hexec _ ?_) ?_
   ·have:bb≤(cp:Int):=by omega
    simp [hu,Instr.slice,run_underlying ht,Instr.sliceBounds,Instr.sliceBound,asIntOf,e2,hb0,this,hszr]
   ·have hA:(if cp=0 then A else A.map (·.add (0*sz)))=A:=by
     split
     ·rfl
     ·cases A<;>simp [Addr.add]
    rw [hA,Nat.sub_zero,Nat.sub_zero]
    refine .d _ _ ?_
    cases e1 with
    |nil _ _ _ _ =>
     have:bb.toNat=0:=by omega
     rw [this]
     exact .nil _ _ _ _
    |sl _ _ _ _ b off _ g hc hf hl hcell hrel =>
     rcases Nat.eq_zero_or_pos nn with h0|h0
     ·have hb:bb.toNat=0:=by omega
      rw [hb]
      refine .sl _ _ _ _ b off cp g (by omega) (fun h=>?_) (fun i hi=>by omega) (fun i j hi=>by omega) (fun i j hi=>by omega)
      simp only [Bool.and_eq_true] at h
      have:=hf h.1;omega
     ·have:=hszz h0
      subst this
      refine .sl _ _ _ _ b off cp g (by omega) (fun h=>?_) (fun i hi=>hl i (by omega)) (fun i j hi hj=>hcell i j (by omega) hj) (fun i j hi hj=>hrel i j (by omega) hj)
      simp only [Bool.and_eq_true,decide_eq_true_eq] at h
      have:=hf h.1;omega
 ·rename_i fl sz' n f kb bb km m h1 h2 h3 h4
  cases xlo with
  |some _=>simp at h2
  |none =>
  obtain ⟨yh,rfl,h3'⟩:=Option.map_eq_some_iff.1 h3
  obtain ⟨ym,rfl,h4'⟩:=Option.map_eq_some_iff.1 h4
  obtain ⟨hsx,hb0,rfl,hbn,rfl,hsh,hsm⟩:=hs
  obtain ⟨rh,rfl,hrh⟩:=hopt hi yh hhi
  obtain ⟨rm,rfl,hrm⟩:=hopt mx ym hmx
  have:=hnone lo hlo
  subst this
  have e1:=evV_ok H hx hsx
  rw [h1] at e1
  have e2:=evV_ok H hrh (hsh yh rfl)
  rw [h3'] at e2
  have e2:=rel_int e2
  have e3:=evV_ok H hrm (hsm ym rfl)
  rw [h4'] at e3
  have e3:=rel_int e3
  cases hu:a.eval ox<;>rw [hu] at e1<;>(try (cases e1 with|d _ _ e1=>cases e1;done))
  rename_i A nn cp
  cases e1 with
  |d _ _ e1 =>
   have hcp:nn=n∧n≤cp:=by cases e1<;>simp_all
   obtain ⟨rfl,hcp⟩:=hcp
   refine Runs.val H hd (v:=.slice (if bb.toNat=0 then A else A.map (·.add (0*sz))) (bb.toNat-0) (bb.toNat-0)) (hexec _ ?_) ?_
   ·have h5:bb≤(cp:Int):=by omega
    have h6:((bb.toNat:Nat):Int)=bb:=by omega
    simp [hu,Instr.slice,run_underlying ht,Instr.sliceBounds,Instr.sliceBound,asIntOf,e2,e3,hb0,h5,h6,hszr]
   ·have hA:(if bb.toNat=0 then A else A.map (·.add (0*sz)))=A:=by
     split
     ·rfl
     ·cases A<;>simp [Addr.add]
    rw [hA,Nat.sub_zero]
    refine .d _ _ ?_
    cases e1 with
    |nil _ _ _ _ =>
     have:bb.toNat=0:=by omega
     rw [this]
     exact .nil _ _ _ _
    |sl _ _ _ _ b off _ g hc hf hl hcell hrel =>
     exact .sl _ _ _ _ b off _ g (Nat.le_refl _) (fun _=>rfl) (fun i hi=>hl i (by omega)) (fun i j hi hj=>hcell i j (by omega) hj) (fun i j hi hj=>hrel i j (by omega) hj)
 ·rename_i fl sz' n f ka aa h1 h2 h3 h4
  cases xhi with
  |some _=>simp at h3
  |none =>
  cases xmx with
  |some _=>simp at h4
  |none =>
  obtain ⟨yl,rfl,h2'⟩:=Option.map_eq_some_iff.1 h2
  obtain ⟨hsx,ha0,han,rfl,hsl⟩:=hs
  obtain ⟨rl,rfl,hrl⟩:=hopt lo yl hlo
  have:=hnone hi hhi
  subst this
  have:=hnone mx hmx
  subst this
  have e1:=evV_ok H hx hsx
  rw [h1] at e1
  have e2:=evV_ok H hrl (hsl yl rfl)
  rw [h2'] at e2
  have e2:=rel_int e2
  cases hu:a.eval ox<;>rw [hu] at e1<;>(try (cases e1 with|d _ _ e1=>cases e1;done))
  rename_i A nn cp
  cases e1 with
  |d _ _ e1 =>
   have hcp:nn=n∧n≤cp:=by cases e1<;>simp_all
   obtain ⟨rfl,hcp⟩:=hcp
   refine Runs.val H hd (v:=.slice (if cp=aa.toNat then A else A.map (·.add (aa.toNat*sz))) (nn-aa.toNat) (cp-aa.toNat)) (hexec _ ?_) ?_
   ·simp [hu,Instr.slice,run_underlying ht,Instr.sliceBounds,Instr.sliceBound,asIntOf,e2,ha0,han,hszr]
   ·refine .d _ _ ?_
    cases e1 with
    |nil _ _ _ _ =>
     have:aa.toNat=0:=by omega
     rw [this]
     exact .nil _ _ _ _
    |sl _ _ _ _ b off _ g hc hf hl hcell hrel =>
     have hidx:∀ i j,(aa.toNat+i)*sz+j=aa.toNat*sz+(i*sz+j):=fun i j=>by rw [Nat.add_mul];omega
     by_cases hca:cp=aa.toNat
     ·rw [if_pos hca]
      have hn0:nn-aa.toNat=0:=by omega
      rw [hn0]
      exact .sl _ _ _ _ b off _ (fun i j=>g i j) (by omega) (fun _=>by omega) (fun i hi=>by omega) (fun i j hi hj=>by omega) (fun i j hi hj=>by omega)
     ·rw [if_neg hca]
      simp only [Option.map_some,addr_add]
      refine .sl _ _ _ _ b (off+aa.toNat*sz) _ (fun i j=>g (aa.toNat+i) j) (by omega) (fun h=>by rw [hf h]) (fun i hi=>hl _ (by omega)) (fun i j hi hj=>?_) (fun i j hi hj=>hrel _ j (by omega) hj)
      have:=hcell (aa.toNat+i) j (by omega) hj
      rw [hidx,←Nat.add_assoc] at this
      exact this
 ·rename_i k ka aa h1 h2 h3 h4
  cases xhi with
  |some _=>simp at h3
  |none =>
  cases xmx with
  |some _=>simp at h4
  |none =>
  obtain ⟨yl,rfl,h2'⟩:=Option.map_eq_some_iff.1 h2
  split at hs
  ·rename_i e0 sz' n f h5
   obtain ⟨hsx,ha0,han,rfl,hsl⟩:=hs
   obtain ⟨rl,rfl,hrl⟩:=hopt lo yl hlo
   have:=hnone hi hhi
   subst this
   have:=hnone mx hmx
   subst this
   have e1:=evV_ok H hx hsx
   rw [h1] at e1
   have e2:=evV_ok H hrl (hsl yl rfl)
   rw [h2'] at e2
   have e2:=rel_int e2
   obtain ⟨v,xs,hb,hrow,_,_⟩:=own_ok H h5
   have hu:a.eval ox=v:=by
    generalize a.eval ox=u at *
    cases e1 with
    |osl _ _ hb' _=>rw [hb] at hb';injection hb' with hb';exact hb'.symm
   rcases hrow.2 with ⟨⟨A,rfl⟩,rfl⟩|⟨g,cap,cur,rfl,hc0,hh,hnc,_⟩
   ·have ha:aa=0:=by omega
    subst ha
    refine Runs.val H hd (v:=.slice A 0 0) (hexec _ ?_) (.osub0 k sz A hb)
    simp [hu,Instr.slice,run_underlying ht,Instr.sliceBounds,Instr.sliceBound,asIntOf,e2,hszr]
   ·refine Runs.val H hd (v:=.slice (some (if cap=aa.toNat then ⟨g,0,none⟩ else ⟨g,aa.toNat*sz,none⟩)) (n-aa.toNat) (cap-aa.toNat)) (hexec _ ?_) (.osub k sz aa.toNat (n-aa.toNat) g n cap _ hb (by omega) (fun hp=>by rw [if_neg (by omega)]))
    by_cases hca:cap=aa.toNat
    ·simp [hu,Instr.slice,run_underlying ht,Instr.sliceBounds,Instr.sliceBound,asIntOf,e2,ha0,han,hszr,hca]
    ·simp [hu,Instr.slice,run_underlying ht,Instr.sliceBounds,Instr.sliceBound,asIntOf,e2,ha0,han,hszr,hca,addr_add]
  ·exact hs.elim
 ·rename_i k kb bb h1 h2 h3 h4
  cases xlo with
  |some _=>simp at h2
  |none =>
  cases xmx with
  |some _=>simp at h4
  |none =>
  obtain ⟨yh,rfl,h3'⟩:=Option.map_eq_some_iff.1 h3
  split at hs
  ·rename_i e0 sz' n f h5
   obtain ⟨hsx,hb0,hbn,rfl,hsh⟩:=hs
   obtain ⟨rh,rfl,hrh⟩:=hopt hi yh hhi
   have:=hnone lo hlo
   subst this
   have:=hnone mx hmx
   subst this
   have e1:=evV_ok H hx hsx
   rw [h1] at e1
   have e2:=evV_ok H hrh (hsh yh rfl)
   rw [h3'] at e2
   have e2:=rel_int e2
   obtain ⟨v,xs,hb,hrow,_,_⟩:=own_ok H h5
   have hu:a.eval ox=v:=by
    generalize a.eval ox=u at *
    cases e1 with
    |osl _ _ hb' _=>rw [hb] at hb';injection hb' with hb';exact hb'.symm
   rcases hrow.2 with ⟨⟨A,rfl⟩,rfl⟩|⟨g,cap,cur,rfl,hc0,hh,hnc,_⟩
   ·have hb':bb=0:=by omega
    subst hb'
    refine Runs.val H hd (v:=.slice A 0 0) (hexec _ ?_) (.osub0 k sz A hb)
    simp [hu,Instr.slice,run_underlying ht,Instr.sliceBounds,Instr.sliceBound,asIntOf,e2,hszr]
   ·refine Runs.val H hd (v:=.slice (some ⟨g,0,none⟩) bb.toNat (cap-0)) (hexec _ ?_) (.osub k sz 0 bb.toNat g n cap _ hb (by omega) (fun hp=>by simp))
    have:bb≤(cap:Int):=by omega
    by_cases hca:cap=0
    ·omega
    ·simp [hu,Instr.slice,run_underlying ht,Instr.sliceBounds,Instr.sliceBound,asIntOf,e2,hb0,this,hszr,hca,addr_add]
  ·exact hs.elim
 ·exact hs.elim
theorem s_asl (H:Holds c β st a w) (hd:∀ d,o.dst=some d→d<c.nt) {t e:TypeId} {sz n:Nat} {ox:Operand} {x:X} (ho:o.op=.slice t ox none none none) (ht:c.P.underlying t=some (.array n e)) (hz:szB c.P e=some sz) (hx:cX ox=some x)
  (hs:(opR st true d (.asl sz n x)).side):Runs c β (st.app o.dst (opR st true d (.asl sz n x))) a o w:=by
 obtain ⟨ii,hii,hii2⟩:=Option.map_eq_some_iff.1 hz
 have hszr:(sizeOf e).run c.P w=.ok sz w:=by simp [sizeOf,typeInfo,hii,hii2]
 simp only [opR] at hs ⊢
 split at hs
 ·rename_i cs h1
  obtain ⟨hsx,hl⟩:=hs
  have e1:=evV_ok H hx hsx
  rw [h1] at e1
  generalize hu:a.eval ox=u at *
  cases e1 with
  |mem _ b off g hcell hrel =>
   refine Runs.val H hd (v:=.slice (some ⟨b,off,none⟩) n n) ?_ (.d _ _ (.sl true sz n _ b off n (fun i j=>g (i*sz+j)) (Nat.le_refl _) (fun _=>rfl) (fun i hi=>?_) (fun i j hi hj=>hcell _ ?_) (fun i j hi hj x hx=>?_)))
   ·by_cases hn:n=0
    ·subst hn
     simp [execOp,ho,hu,Instr.sliceAt,run_underlying ht,Instr.sureAddr,Instr.sliceBounds,hszr]
    ·simp [execOp,ho,hu,Instr.sliceAt,run_underlying ht,Instr.sureAddr,Instr.sliceBounds,hszr,addr_add]
   ·have:(i+1)*sz≤n*sz:=Nat.mul_le_mul_right _ hi
    rw [Nat.add_mul] at this
    simp [litRow];omega
   ·have:(i+1)*sz≤n*sz:=Nat.mul_le_mul_right _ hi
    rw [Nat.add_mul] at this
    omega
   ·simp only [litRow] at hx
    rw [lit_get _ _ _ _ hj] at hx
    exact hrel _ _ hx
 ·exact hs.elim
theorem run_copy_rowz {P:Program} (w:World) (dT sT ty elem:TypeId) (sz g o dLen dCap:Nat) (a:Addr) (sLen sCap:Nat) (cur:Array Value) (t:TypeId) (cs:List Value)
  (hu:P.underlying dT=some (.slice elem)) (hs:szB P elem=some sz)
  (hg:w.heap[g]?=some (.cells cur t (0,0))) (hn:cs.length=sz*Nat.min sLen dLen)
  (hsrc:∀ j v,cs[j]?=some v→w.cell? (a.add j)=some v) (hfit:o+cs.length≤cur.size) (h1:∀ v∈cs,v.oneCell'=true) :
  (Builtin.copy_ #[dT,sT] ty #[.slice (some ⟨g,o,none⟩) dLen dCap,.slice (some a) sLen sCap]).run P w =
   .ok (goInt (Nat.min sLen dLen)) (w.setRow g (cur.toList.take o++cs++cur.toList.drop (o+cs.length)).toArray):=by
 have hl:=run_loadCells_list (P:=P) w a cs hsrc
 have hst:=run_storeCells_at P g o t cs 0 cur w hg (by simpa using hfit) h1
 obtain ⟨i,hq,hi⟩:=Option.map_eq_some_iff.1 hs
 rw [hn,Nat.mul_comm] at hl
 simp [Builtin.copy_,run_underlying hu,Builtin.lenOf,Builtin.firstCells,sizeOf,typeInfo,hq,hi,hl,hst]
theorem Runs.updv (H:Holds c β st a w) (hd:∀ d,o.dst=some d→d<c.nt) {k b:Nat} {ow:Own} {sd:Prop} {rd:List Nat} {w':World} {kd:IntKind} {n:Int} (hkk:k∈keysO st.own) (hb:β.blk k=some b)
  (hr:(execOp a.eval o).run c.P w=.ok (.value (.int kd n)) w') (hk:Keeps (fun x=>x=b) w w') (ho:∀ E',Lasts (Eo c.E0 β st.own) E' w w'→E'=Eo c.E0 β st.own→OwnOk β E' w' k ow) :
  Runs c β (st.app o.dst { side:=sd,val:=.d (.int kd n),upd:=[(k,some ow)],rd:=rd }) a o w:=by
 refine ⟨.int kd n,w',β,.inl hr,Names.le.refl β,?_⟩
 have h1:=H.updOwn hkk (hk.mono (fun x e=>by rw [e,hb])) ho
 cases hdst:o.dst with
 |none=>simpa [St.app,setE,applyU,newN,H.kn k hkk,Act.put,hdst] using h1
 |some d =>
  have h2:=h1.setV (hd d hdst) (mk_int kd n)
  simpa [St.app,setE,applyU,newN,H.kn k hkk,Act.put,hdst] using h2
theorem row_put {E E':Nat→Prop} {w:World} {k e sz N lo q gb cap:Nat} {f g:Nat→List D} {cur:Array Value} {news xs:List Value}
  (hl:Lasts E E' w (w.setRow gb (spliced cur (lo*sz) news))) (hb:β k=some (.slice (some ⟨gb,0,none⟩) N cap)) (hc0:0<cap) (hh:w.heap[gb]?=some (.cells cur e (0,0))) (hnc:N≤cap) (hcm:cap≤maxLen) (hcs:cur.size=cap*sz)
  (htk:cur.toList.take (N*sz)=xs) (hfl:∀ i,i<N→(f i).length=sz) (hfr:∀ i j,i<N→j<sz→∀ (x:D),(f i)[j]?=some x→∃ u,xs[i*sz+j]?=some u∧RelD E w u x)
  (hq:lo+q≤N) (hnl:news.length=q*sz) (hg:∀ i,i<q→(g i).length=sz) (hgr:∀ i j,i<q→j<sz→∀ (x:D),(g i)[j]?=some x→∃ u,news[i*sz+j]?=some u∧RelD E w u x) :
  OwnOk β E' (w.setRow gb (spliced cur (lo*sz) news)) k (.row e sz N (fun i=>if lo≤i∧i<lo+q then g (i-lo) else f i)):=by
 have hqm:lo*sz+q*sz≤N*sz:=by rw [←Nat.add_mul];exact Nat.mul_le_mul_right _ hq
 have hcap:N*sz≤cap*sz:=Nat.mul_le_mul_right _ hnc
 have hle:lo*sz+news.length≤cur.size:=by omega
 refine ⟨_,(spliced cur (lo*sz) news).toList.take (N*sz),hb,⟨by rw [List.length_take,Array.length_toList,spliced_size hle,hcs];omega,.inr ⟨gb,cap,_,rfl,hc0,setRow_heap w gb cur _ _ _ hh,hnc,hcm,by rw [spliced_size hle,hcs],rfl⟩⟩,fun i hi=>?_,fun i j hi hj x hx=>?_⟩
 ·dsimp only
  split
  ·exact hg _ (by omega)
  ·exact hfl _ hi
 ·have hidx:i*sz+j<N*sz:=by
   have:(i+1)*sz≤N*sz:=Nat.mul_le_mul_right _ hi
   rw [Nat.add_mul] at this;omega
  rw [List.getElem?_take,if_pos hidx,Array.getElem?_toList,spliced_get hle,hnl]
  dsimp only at hx
  split at hx
  ·rename_i h
   obtain ⟨u,q1,q2⟩:=hgr (i-lo) j (by omega) hj x hx
   have h1:lo*sz≤i*sz:=Nat.mul_le_mul_right _ h.1
   have h2:(i+1)*sz≤(lo+q)*sz:=Nat.mul_le_mul_right _ h.2
   rw [Nat.add_mul,Nat.add_mul] at h2
   rw [if_pos (by omega)]
   refine ⟨u,?_,q2.lasts hl⟩
   rw [←q1,Nat.sub_mul]
   congr 1
   omega
  ·rename_i h
   obtain ⟨u,q1,q2⟩:=hfr i j hi hj x hx
   have:¬ (lo*sz≤i*sz+j∧i*sz+j<lo*sz+q*sz):=by
    intro ⟨p1,p2⟩
    by_cases hlo:lo≤i
    ·have hhi:lo+q≤i:=by omega
     have:(lo+q)*sz≤i*sz:=Nat.mul_le_mul_right _ hhi
     rw [Nat.add_mul] at this;omega
    ·have:(i+1)*sz≤lo*sz:=Nat.mul_le_mul_right _ (by omega)
     rw [Nat.add_mul] at this;omega
   rw [if_neg this]
   refine ⟨u,?_,q2.lasts hl⟩
   rw [←q1,←htk,List.getElem?_take,if_pos hidx];simp
theorem take_sub {l:List Value} {n j:Nat} {u:Value} (h:(l.take n)[j]?=some u):l[j]?=some u:=by
 rw [List.getElem?_take] at h
 split at h
 ·exact h
 ·cases h
theorem run_copy_zero {P:Program} (w:World) (dT sT ty elem:TypeId) (A B:Option Addr) (dLen dCap sLen sCap:Nat) (hu:P.underlying dT=some (.slice elem)) (hs:∃ sz,szB P elem=some sz) (h0:Nat.min sLen dLen=0) :
  (Builtin.copy_ #[dT,sT] ty #[.slice A dLen dCap,.slice B sLen sCap]).run P w=.ok (goInt 0) w:=by
 obtain ⟨sz,hs⟩:=hs
 obtain ⟨i,hq,hi⟩:=Option.map_eq_some_iff.1 hs
 cases A<;>cases B<;>simp [Builtin.copy_,run_underlying hu,Builtin.lenOf,Builtin.firstCells,sizeOf,typeInfo,hq,storeCells,loadCells,loadCellsFrom,h0]
theorem s_cpy (H:Holds c β st a w) (hd:∀ d,o.dst=some d→d<c.nt) {t t' e:TypeId} {sz:Nat} {ox oy:Operand} {x y:X} (ho:o.op=.call { callee:=.builtin .copy,args:=#[ox,oy],argTypes:=#[t,t'] }) (ht:c.P.underlying t=some (.slice e)) (hz:szB c.P e=some sz) (hx:cX ox=some x) (hy:cX oy=some y)
  (hs:(opR st true d (.cpy sz x y)).side):Runs c β (st.app o.dst (opR st true d (.cpy sz x y))) a o w:=by
 have hexec:∀ n w',(∀ ty,(Builtin.copy_ #[t,t'] ty #[a.eval ox,a.eval oy]).run c.P w=.ok (goInt n) w')→(execOp a.eval o).run c.P w=.ok (.value (.int .i64 n)) w':=fun n w' h=>by
  simp [execOp,ho,resolve,invoke,builtin,h,goInt]
 simp only [opR] at hs ⊢
 split at hs
 ·rename_i k fl sz2 m g h1 h2
  split at hs
  ·rename_i e0 sz1 n f h3
   obtain ⟨hsx,hsy,rfl,hz2⟩:=hs
   have e1:=evV_ok H hx hsx
   have e2:=evV_ok H hy hsy
   rw [h1] at e1
   rw [h2] at e2
   obtain ⟨v,xs,hb,hrow,hfl,hfr⟩:=own_ok H h3
   have hu:a.eval ox=v:=by
    generalize a.eval ox=u at *
    cases e1 with
    |osl _ _ hb' _=>rw [hb] at hb';injection hb' with hb';exact hb'.symm
   obtain ⟨B,cp,ys,hv2,-,hmc,hyl,hyc,hy1,hgl,hgr⟩:=cells_of_sl (rel_d e2) hz2
   have hkk:=mem_keys (own?_mem h3)
   by_cases hq:min m n=0
   ·have hw:(execOp a.eval o).run c.P w=.ok (.value (.int .i64 ((min m n:Nat):Int))) w:=by
     obtain ⟨A,cap,rfl⟩:∃ A cap,v=.slice A n cap:=by
      rcases hrow.2 with ⟨⟨A,rfl⟩,rfl⟩|⟨g,cap,cur,rfl,_⟩
      ·exact ⟨A,0,rfl⟩
      ·exact ⟨_,cap,rfl⟩
     refine hexec _ _ fun ty=>?_
     rw [hu,hv2,hq]
     exact run_copy_zero w t t' ty e A B n cap m cp ht ⟨_,hz⟩ hq
    have hef:(fun i=>if i<min m n then g i else f i)=f:=by funext i;rw [if_neg (by omega)]
    rw [hef]
    have hset:Holds c β ⟨st.env,setO st.own k (.row e0 sz1 n f),st.nm⟩ a w:=H.updOwn hkk (Keeps.refl _ _) (fun E' hl hE=>hE▸⟨v,xs,hb,hrow,hfl,hfr⟩)
    refine ⟨.int .i64 ((min m n:Nat):Int),w,β,.inl hw,Names.le.refl β,?_⟩
    cases hdst:o.dst with
    |none=>simpa [St.app,setE,applyU,newN,H.kn k hkk,Act.put,hdst] using hset
    |some d =>
     have h2:=hset.setV (hd d hdst) (mk_int .i64 ((min m n:Nat):Int))
     simpa [St.app,setE,applyU,newN,H.kn k hkk,Act.put,hdst] using h2
   ·rcases hrow.2 with ⟨⟨A,rfl⟩,rfl⟩|⟨gb,cap,cur,rfl,hc0,hh,hnc,hcm,hcs,htk⟩
    ·omega
    ·obtain ⟨ad,rfl,had⟩:=hyc (by omega)
     have hq0:min m n*sz1≤m*sz1:=Nat.mul_le_mul_right _ (Nat.min_le_left _ _)
     have hq1:min m n*sz1≤n*sz1:=Nat.mul_le_mul_right _ (Nat.min_le_right _ _)
     have hq2:n*sz1≤cap*sz1:=Nat.mul_le_mul_right _ hnc
     have hnl:(ys.take (min m n*sz1)).length=min m n*sz1:=by rw [List.length_take];omega
     have hrun:=fun ty=>run_copy_rowz (P:=c.P) w t t' ty e sz1 gb 0 n cap ad m cp cur e0 (ys.take (min m n*sz1)) ht hz hh (by rw [hnl,Nat.mul_comm]) (fun j u hj=>had j u (take_sub hj)) (by omega) (fun u hu=>hy1 u (List.mem_of_mem_take hu))
     have e3:(cur.toList.take 0++ys.take (min m n*sz1)++cur.toList.drop (0+(ys.take (min m n*sz1)).length)).toArray=spliced cur (0*sz1) (ys.take (min m n*sz1)):=by rw [Nat.zero_mul];rfl
     rw [e3] at hrun
     refine Runs.updv H hd (b:=gb) hkk (by simp [Names.blk,hb,blkOf];omega) (hexec _ _ fun ty=>by rw [hu,hv2];exact hrun ty) (keeps_setRow _ _ _ _ rfl) (fun E' hl hE=>?_)
     have:=row_put (lo:=0) (q:=min m n) (g:=g) hl hb hc0 hh hnc hcm hcs htk hfl hfr (by omega) hnl (fun i hi=>hgl i (by omega)) (fun i j hi hj x hx=>by
      obtain ⟨u,q1,q2⟩:=hgr i j (by omega) hj x hx
      refine ⟨u,?_,q2⟩
      have:(i+1)*sz1≤min m n*sz1:=Nat.mul_le_mul_right _ hi
      rw [Nat.add_mul] at this
      rw [List.getElem?_take,if_pos (by omega)];exact q1)
     simpa using this
  ·exact hs.elim
 ·rename_i k sz1 lo n k2 sz2 lo2 m h1 h2
  split at hs
  ·rename_i e0 sz3 N f h3
   obtain ⟨hsx,hsy,rfl,rfl,rfl,rfl⟩:=hs
   have e1:=evV_ok H hx hsx
   have e2:=evV_ok H hy hsy
   rw [h1] at e1
   rw [h2] at e2
   obtain ⟨v,xs,hb,hrow,hfl,hfr⟩:=own_ok H h3
   have hkk:=mem_keys (own?_mem h3)
   have form:∀ {u:Value} {lo n:Nat},RelV β (Eo c.E0 β st.own) w u (.osub k sz3 lo n)→∃ A cp,u=.slice A n cp∧(0<n→∃ b m c,β k=some (.slice (some ⟨b,0,none⟩) m c)∧lo+n≤m∧A=some ⟨b,lo*sz3,none⟩):=fun h=>by
    cases h with
    |osub _ _ _ _ b m c aa hb hn ha=>exact ⟨_,_,rfl,fun hp=>⟨b,m,c,hb,hn,by rw [ha (.inl hp)]⟩⟩
    |osub0 _ _ A hb=>exact ⟨A,0,rfl,fun h=>by omega⟩
   obtain ⟨A,cp1,hu1,f1⟩:=form e1
   obtain ⟨B,cp2,hu2,f2⟩:=form e2
   by_cases hq:min m n=0
   ·have hw:(execOp a.eval o).run c.P w=.ok (.value (.int .i64 ((min m n:Nat):Int))) w:=by
     refine hexec _ _ fun ty=>?_
     rw [hu1,hu2,hq]
     exact run_copy_zero w t t' ty e A B n cp1 m cp2 ht ⟨_,hz⟩ hq
    have hef:(fun i=>if lo≤i∧i<lo+min m n then f (lo2+(i-lo)) else f i)=f:=by funext i;rw [if_neg (by omega)]
    rw [hef]
    have hset:Holds c β ⟨st.env,setO st.own k (.row e0 sz3 N f),st.nm⟩ a w:=H.updOwn hkk (Keeps.refl _ _) (fun E' hl hE=>hE▸⟨v,xs,hb,hrow,hfl,hfr⟩)
    refine ⟨.int .i64 ((min m n:Nat):Int),w,β,.inl hw,Names.le.refl β,?_⟩
    cases hdst:o.dst with
    |none=>simpa [St.app,setE,applyU,newN,H.kn k hkk,Act.put,hdst] using hset
    |some d =>
     have h2:=hset.setV (hd d hdst) (mk_int .i64 ((min m n:Nat):Int))
     simpa [St.app,setE,applyU,newN,H.kn k hkk,Act.put,hdst] using h2
   ·obtain ⟨b1,m1,c1,hb1,hn1,rfl⟩:=f1 (by omega)
    obtain ⟨b2,m2,c2,hb2,hn2,rfl⟩:=f2 (by omega)
    rcases hrow.2 with ⟨⟨A,rfl⟩,rfl⟩|⟨gb,cap,cur,rfl,hc0,hh,hnc,hcm,hcs,htk⟩
    ·rw [hb1] at hb
     injection hb with hb
     injection hb with _ q2 _
     exact absurd (show n=0 from Nat.le_zero.1 (Nat.le_trans (Nat.le_add_left n lo) (q2▸hn1))) (fun h=>hq (by rw [h];exact Nat.min_zero m))
    ·rw [hb] at hb1 hb2
     injection hb1 with p1
     injection p1 with p1 p2 p3
     injection p1 with p1
     injection p1 with p1
     subst p1;subst p2;subst p3
     injection hb2 with p1
     injection p1 with p1 p2 p3
     injection p1 with p1
     injection p1 with p1
     subst p1;subst p2;subst p3
     have hq2:N*sz3≤cap*sz3:=Nat.mul_le_mul_right _ hnc
     have hN1:lo*sz3+min m n*sz3≤N*sz3:=by rw [←Nat.add_mul];exact Nat.mul_le_mul_right _ (by omega)
     have hN2:lo2*sz3+min m n*sz3≤N*sz3:=by rw [←Nat.add_mul];exact Nat.mul_le_mul_right _ (by omega)
     have hxl:xs.length=N*sz3:=hrow.1
     have hnl:((xs.drop (lo2*sz3)).take (min m n*sz3)).length=min m n*sz3:=by rw [List.length_take,List.length_drop];omega
     have hxc:∀ j u,xs[j]?=some u→w.cell? ⟨gb,j,none⟩=some u:=fun j u hj=>by
      rw [cell_of_row w gb j cur e0 (0,0) hh]
      rw [←htk,List.getElem?_take] at hj
      split at hj
      ·simpa using hj
      ·cases hj
     have hx1:∀ u,u∈xs→u.oneCell'=true:=fun u hu=>by
      obtain ⟨p,hp,rfl⟩:=List.getElem_of_mem hu
      have hs0:0<sz3:=by
       rcases Nat.eq_zero_or_pos sz3 with h|h
       ·subst h;omega
       ·exact h
      have hp':p<N*sz3:=by omega
      have hi:p / sz3<N:=Nat.div_lt_of_lt_mul (by rw [Nat.mul_comm];exact hp')
      have hj:p % sz3<sz3:=Nat.mod_lt _ hs0
      have hlen:=hfl _ hi
      obtain ⟨u,q1,q2⟩:=hfr _ _ hi hj _ (List.getElem?_eq_getElem (by omega))
      have e:p / sz3*sz3+p % sz3=p:=by rw [Nat.mul_comm];exact Nat.div_add_mod p sz3
      rw [e,List.getElem?_eq_getElem hp] at q1
      injection q1 with q1
      rw [q1];exact q2.one
     have hrun:=fun ty=>run_copy_rowz (P:=c.P) w t t' ty e sz3 gb (lo*sz3) n cp1 ⟨gb,lo2*sz3,none⟩ m cp2 cur e0 ((xs.drop (lo2*sz3)).take (min m n*sz3)) ht hz hh (by rw [hnl,Nat.mul_comm]) (fun j u hj=>by
      rw [List.getElem?_take] at hj
      split at hj
      ·rw [List.getElem?_drop] at hj
       rw [addr_add]
       exact hxc _ u hj
      ·cases hj) (by omega) (fun u hu=>hx1 u (List.mem_of_mem_drop (List.mem_of_mem_take hu)))
     refine Runs.updv H hd (b:=gb) hkk (by simp [Names.blk,hb,blkOf];omega) (hexec _ _ fun ty=>by rw [hu1,hu2];exact hrun ty) (keeps_setRow _ _ _ _ rfl) (fun E' hl hE=>?_)
     exact row_put (lo:=lo) (q:=min m n) (g:=fun i=>f (lo2+i)) hl hb hc0 hh hnc hcm hcs htk hfl hfr (by omega) hnl (fun i hi=>hfl _ (by omega)) (fun i j hi hj x hx=>by
      obtain ⟨u,q1,q2⟩:=hfr (lo2+i) j (by omega) hj x hx
      refine ⟨u,?_,q2⟩
      have:(i+1)*sz3≤min m n*sz3:=Nat.mul_le_mul_right _ hi
      rw [Nat.add_mul] at this
      rw [List.getElem?_take,if_pos (by omega),List.getElem?_drop,←q1,Nat.add_mul]
      congr 1
      omega)
  ·exact hs.elim
 ·exact hs.elim
theorem s_mkifc (H:Holds c β st a w) (hd:∀ d,o.dst=some d→d<c.nt) {t:TypeId} {ox:Operand} {x:X} (ho:o.op=.makeInterface t ox) (hx:cX ox=some x)
  (hr:∀ v,(Instr.makeInterface t v).run c.P w=.ok (.iface t v) w)
  (hs:(opR st true d (.mkifc t x)).side):Runs c β (st.app o.dst (opR st true d (.mkifc t x))) a o w:=by
 simp only [opR] at hs ⊢
 have hex:(execOp a.eval o).run c.P w=.ok (.value (.iface t (a.eval ox))) w:=by simp [execOp,ho,hr]
 by_cases hc:isCell (evV st x)=true
 ·rw [if_pos hc] at hs ⊢
  exact Runs.val H hd hex (.ifc _ _ _ (evV_ok H hx hs))
 ·rw [if_neg hc] at hs ⊢
  split at hs
  ·rename_i cs h1
   have e1:=evV_ok H hx hs
   rw [h1] at e1
   exact Runs.val H hd hex (.ifc _ _ _ e1)
  ·exact hs.elim
def aggZ1 (P:Program) (t:TypeId):Bool:=
 match P.info? t with
 |some i=>match i.zero with
  |some z=>!z.oneCell'
  |none=>false
 |none=>false
def concB (P:Program) (t:TypeId):Bool:=
 match P.underlying t with
 |some (.interface _)=>false
 |some _=>true
 |none=>false
theorem run_mkifc {P:Program} {t:TypeId} (h:concB P t=true) (v:Value) (w:World):(Instr.makeInterface t v).run P w=.ok (.iface t v) w:=by
 unfold concB at h
 split at h
 ·cases h
 ·rename_i d hne hd
  simp only [Instr.makeInterface,Sem.run_bind,run_underlying hd,Result.andThen_ok]
  cases d<;>first|rfl|exact absurd rfl (hne _)
 ·cases h
theorem s_tas (H:Holds c β st a w) (hd:∀ d,o.dst=some d→d<c.nt) {t xt:TypeId} {ok:Bool} {ox:Operand} {x:X} (ho:o.op=.typeAssert ox xt t ok) (hx:cX ox=some x)
  (hr:concB c.P t=true) (hs:(opR st true d (.tas t ok x)).side):Runs c β (st.app o.dst (opR st true d (.tas t ok x))) a o w:=by
 simp only [opR] at hs ⊢
 split at hs
 ·rename_i t' y h1
  obtain ⟨hs,rfl⟩:=hs
  have e1:=evV_ok H hx hs
  rw [h1] at e1
  generalize hu:a.eval ox=u at *
  cases e1 with
  |ifc _ v _ hv =>
   have hrun:(Instr.typeAssert (.iface t' v) xt t' ok).run c.P w=.ok (if ok then .tuple #[v,.bool true] else v) w:=by
    unfold concB at hr
    split at hr
    ·cases hr
    ·rename_i dd hne hdd
     simp only [Instr.typeAssert,Sem.run_bind,run_underlying hdd,Result.andThen_ok]
     split<;>first
      |(rename_i hm;exact absurd (hm▸hdd) (hne _))
      |(cases ok<;>simp_all)
      |simp_all
    ·cases hr
   refine Runs.val H hd (v:=if ok then .tuple #[v,.bool true] else v) (by simp [execOp,ho,hu,hrun]) ?_
   cases ok with
   |true =>
    refine .tup _ _ rfl fun j u y' hu' hy=>?_
    match j with
    |0=>simp at hu' hy;subst hu';subst hy;exact hv
    |1=>simp at hu' hy;subst hu';subst hy;exact mk_bool _
    |j+2=>simp at hy
   |false=>exact hv
 ·exact hs.elim
def mapB (P:Program) (t:TypeId):Option D:=
 match P.underlying t with
 |some (.map k e) =>
  match P.underlying k,zeroB P e with
  |some (.int .i64),some [.d z]=>some z
  |_,_=>none
 |_=>none
theorem mapB_ok {P:Program} {t:TypeId} {z:D} (h:mapB P t=some z):∃ k e,P.underlying t=some (.map k e)∧P.underlying k=some (.int .i64)∧∃ i v,P.info? e=some i∧i.zero=some v∧v.cells.size=1∧(∀ w:World,∀ E,∀ u,v.cells[0]?=some u→RelD E w u z):=by
 unfold mapB at h
 split at h
 ·rename_i k e ht
  split at h
  ·rename_i z' hk hz
   cases h
   unfold zeroB at hz
   cases hi:P.info? e with
   |none=>simp [hi] at hz
   |some i =>
    simp only [hi,Option.bind_some] at hz
    cases hzz:i.zero with
    |none=>simp [hzz] at hz
    |some v =>
     simp only [hzz] at hz
     obtain ⟨g1,_⟩:=cVs_cells (β:=fun _=>none) (E:=fun _=>False) (w:=default) hz
     exact ⟨k,e,ht,hk,i,v,hi,hzz,g1,fun w E u hu=>rel_d ((cVs_cells (β:=fun _=>none) (E:=E) (w:=w) hz).2 0 u _ hu rfl)⟩
  ·cases h
 ·cases h
theorem s_mkmap (H:Holds c β st a w) (hdst:o.dst=some d) (hd:d<c.nt) {t:TypeId} {z:D} (ho:o.op=.makeMap t none) (_hz:mapB c.P t=some z)
  (hf:(opR st true d (.mkmap z)).side):Runs c β (st.app o.dst (opR st true d (.mkmap z))) a o w:=by
 simp only [opR] at hf ⊢
 refine Runs.mk H hdst hd hf (v:=.map (some w.heap.size)) (w':=w.alloc (.map #[] 0)) ?_ (keeps_alloc _ _) (fun b hb=>?_) (fun β' E' hβ hk hl=>?_) (fun β' E' hk=>.osl _ _ hk rfl)
 ·simp [execOp,ho,Instr.makeMap]
 ·simp [blkOf] at hb;subst hb;simp
 ·exact ⟨w.heap.size,#[],0,hk,heap_alloc_new w _,fun x hx=>by simp at hx,fun i j x y hi=>by simp at hi,fun i x n hi=>by simp at hi,fun _ _=>rfl,fun x hx=>by simp at hx,by simp⟩
theorem rawV_rel {β:Names} {E:Nat→Prop} {w:World} {v:Value} {x:D} (h:RelD E w v x):RelV β E w v (rawV x):=by
 unfold rawV
 split
 ·rename_i f fi ca
  split
  ·rename_i hsz
   cases h with
   |raw _ _ =>
    exact .fn f fi ca [] [] (by simp [hsz.1]) (by simp [hsz.2]) (fun j v x _ h=>by simp at h) (fun j v x _ h=>by simp at h)
  ·exact .d _ _ h
 ·exact .d _ _ h
theorem okV_same (z:D):okV z z=.d (.bool false)∨okV z z=.un:=by
 cases z with
 |raw v=>cases v<;>first|exact .inl rfl|exact .inr rfl
 |_=>exact .inr rfl
theorem toD1_rel {β:Names} {E:Nat→Prop} {w:World} {v:Value} {x:V} {y:D} (hy:toD1 x=some y) (h:RelV β E w v x):RelD E w v y:=by
 unfold toD1 at hy
 split at hy
 ·cases hy;exact rel_d h
 ·cases hy
  cases h with
  |fn f fi ca _ _ h1 h2 _ _ =>
   have e1:fi=#[]:=Array.eq_empty_of_size_eq_zero h1
   have e2:ca=#[]:=Array.eq_empty_of_size_eq_zero h2
   subst e1;subst e2
   exact .raw _ rfl
 ·cases hy
theorem s_lkp (H:Holds c β st a w) (hd:∀ d,o.dst=some d→d<c.nt) {t:TypeId} {z:D} {ox oi:Operand} {x i:X} (ho:o.op=.lookup t ox oi false) (hz:mapB c.P t=some z) (hag:∀ k e,c.P.underlying t=some (.map k e)→aggZ1 c.P e=false) (hx:cX ox=some x) (hi:cX oi=some i)
  (hs:(opR st true d (.lkp z x i)).side):Runs c β (st.app o.dst (opR st true d (.lkp z x i))) a o w:=by
 simp only [opR] at hs ⊢
 split at hs
 ·rename_i k kk n h1 h2
  split at hs
  ·rename_i z' g h3
   obtain ⟨hsx,hsi,rfl,rfl⟩:=hs
   have e1:=evV_ok H hx hsx
   have e2:=evV_ok H hi hsi
   rw [h1] at e1
   rw [h2] at e2
   have e2:=rel_int e2
   obtain ⟨b,es,cl,hb,hh,hk,hdj,hr,hno⟩:=own_ok H h3
   obtain ⟨kt,et,ht,hkt,inf,zv,hinf,hzv,hz1,hzr⟩:=mapB_ok hz
   generalize hox:a.eval ox=u at *
   cases e1 with
   |osl _ _ hu _ =>
    rw [hb] at hu;cases hu
    have hkey:MapKept.IsKey (.int .i64) (.int .i64 n):=rfl
    rcases MapKept.findNow_spec hkey es.toList 0 hk with ⟨q1,q2⟩|⟨j,e0,q1,q2,q3⟩
    ·have hone:zv.oneCell'=true:=by
      have:=hag kt et ht
      simp only [aggZ1,hinf,hzv] at this
      simpa using this
     refine Runs.val H hd (v:=zv) ?_ (.d _ _ ?_)
     ·simp [execOp,ho,hox,e2,Instr.lookup,run_underlying ht,MapKept.run_getObj_map hh,MapKept.run_checkKey hkt hkey,MapKept.run_findKey hkt q1,zeroValue,typeInfo,hinf,hzv,Result.andThen]
     ·rw [hno.1 n q2]
      have:=hzr w (Eo c.E0 β st.own) zv (by rw [cells_of_one hone];rfl)
      exact this
    ·have hj:es[j]?=some e0:=by simpa using q2
     refine Runs.val H hd (v:=e0.val) ?_ (.d _ _ (hr j e0 n hj q3).1)
     simp [execOp,ho,hox,e2,Instr.lookup,run_underlying ht,MapKept.run_getObj_map hh,MapKept.run_checkKey hkt hkey,MapKept.run_findKey hkt q1,Result.andThen]
  ·exact hs.elim
 ·exact hs.elim
theorem s_lkq (H:Holds c β st a w) (hd:∀ d,o.dst=some d→d<c.nt) {t:TypeId} {z:D} {ox oi:Operand} {x i:X} (ho:o.op=.lookup t ox oi true) (hz:mapB c.P t=some z) (hag:∀ k e,c.P.underlying t=some (.map k e)→aggZ1 c.P e=false) (hx:cX ox=some x) (hi:cX oi=some i)
  (hs:(opR st true d (.lkq z x i)).side):Runs c β (st.app o.dst (opR st true d (.lkq z x i))) a o w:=by
 simp only [opR] at hs ⊢
 split at hs
 ·rename_i k kk n h1 h2
  split at hs
  ·rename_i z' g h3
   obtain ⟨hsx,hsi,rfl,rfl⟩:=hs
   have e1:=evV_ok H hx hsx
   have e2:=evV_ok H hi hsi
   rw [h1] at e1
   rw [h2] at e2
   have e2:=rel_int e2
   obtain ⟨b,es,cl,hb,hh,hk,hdj,hr,hno⟩:=own_ok H h3
   obtain ⟨kt,et,ht,hkt,inf,zv,hinf,hzv,hz1,hzr⟩:=mapB_ok hz
   generalize hox:a.eval ox=u at *
   cases e1 with
   |osl _ _ hu _ =>
    rw [hb] at hu;cases hu
    have hkey:MapKept.IsKey (.int .i64) (.int .i64 n):=rfl
    rcases MapKept.findNow_spec hkey es.toList 0 hk with ⟨q1,q2⟩|⟨j,e0,q1,q2,q3⟩
    ·have hone:zv.oneCell'=true:=by
      have:=hag kt et ht
      simp only [aggZ1,hinf,hzv] at this
      simpa using this
     refine Runs.val H hd (v:=.tuple #[zv,.bool false]) ?_ (.tup _ _ rfl fun q u' y' hu' hy'=>?_)
     ·simp [execOp,ho,hox,e2,Instr.lookup,run_underlying ht,MapKept.run_getObj_map hh,MapKept.run_checkKey hkt hkey,MapKept.run_findKey hkt q1,zeroValue,typeInfo,hinf,hzv,Result.andThen]
     ·have hz0:RelD (Eo c.E0 β st.own) w zv z':=by
       have:=hzr w (Eo c.E0 β st.own) zv (by rw [cells_of_one hone];rfl)
       exact this
      match q with
      |0=>simp at hu' hy';subst hu';subst hy';rw [hno.1 n q2];exact rawV_rel hz0
      |1 =>
       simp at hu' hy';subst hu';subst hy';rw [hno.1 n q2]
       rcases okV_same z' with e|e
       ·rw [e];exact mk_bool _
       ·rw [e];exact .un _
      |q+2=>simp at hy'
    ·have hj:es[j]?=some e0:=by simpa using q2
     refine Runs.val H hd (v:=.tuple #[e0.val,.bool true]) ?_ (.tup _ _ rfl fun q u' y' hu' hy'=>?_)
     ·simp [execOp,ho,hox,e2,Instr.lookup,run_underlying ht,MapKept.run_getObj_map hh,MapKept.run_checkKey hkt hkey,MapKept.run_findKey hkt q1,Result.andThen]
     ·obtain ⟨r1,r2⟩:=hr j e0 n hj q3
      match q with
      |0=>simp at hu' hy';subst hu';subst hy';exact rawV_rel r1
      |1 =>
       simp at hu' hy';subst hu';subst hy'
       unfold okV
       split
       ·rename_i e1 e2;exact absurd e2 (r2.1 rfl)
       ·exact mk_bool _
       ·exact .un _
      |q+2=>simp at hy'
  ·exact hs.elim
 ·exact hs.elim
theorem modify_born {f:MapEntry→MapEntry} (hf:∀ e,(f e).born=e.born):∀ (l:List MapEntry) (j:Nat),(l.modify j f).map (·.born)=l.map (·.born)
 |[],j=>by cases j<;>simp
 |x::l,0=>by simp [hf]
 |x::l,j+1=>by simp [modify_born hf l j]
theorem s_mup (H:Holds c β st a w) (hdst:o.dst=none) {t:TypeId} {z0:D} {ox oi ov:Operand} {x i v:X} (ho:o.op=.mapUpdate t ox oi ov∨o.op=.insert t ox oi ov) (hz:mapB c.P t=some z0) (hx:cX ox=some x) (hi:cX oi=some i) (hv:cX ov=some v)
  (hs:(opR st true d (.mup x i v)).side):Runs c β (st.app o.dst (opR st true d (.mup x i v))) a o w:=by
 simp only [opR] at hs ⊢
 split at hs
 ·rename_i k kk n y h1 h2 h4
  split at hs
  ·rename_i z g h3
   obtain ⟨hsx,hsi,hsv,rfl,hnz⟩:=hs
   have e1:=evV_ok H hx hsx
   have e2:=evV_ok H hi hsi
   have e4:=evV_ok H hv hsv
   rw [h1] at e1
   rw [h2] at e2
   have e2:=rel_int e2
   have e4:=toD1_rel h4 e4
   obtain ⟨b,es,cl,hb,hh,hk,hdj,hr,hno⟩:=own_ok H h3
   obtain ⟨kt,et,ht,hkt,inf,zv,hinf,hzv,hz1,hzr⟩:=mapB_ok hz
   have hexec:∀ w',(Instr.mapUpdate t (a.eval ox) (a.eval oi) (a.eval ov)).run c.P w=.ok () w'→(execOp a.eval o).run c.P w=.ok .skip w':=fun w' h=>by
    rcases ho with ho|ho<;>simp [execOp,ho,h]
   generalize hox:a.eval ox=u at *
   cases e1 with
   |osl _ _ hu _ =>
    rw [hb] at hu;cases hu
    have hkey:MapKept.IsKey (.int .i64) (.int .i64 n):=rfl
    have hkeep:∀ ob,Keeps (fun x=>x=b) w { w with heap:=w.heap.setIfInBounds b ob }:=fun ob=>⟨rfl,rfl,rfl,by simp,fun i _ hi=>(MapKept.heap_set hh).2 i hi⟩
    rcases MapKept.findNow_spec hkey es.toList 0 hk with ⟨q1,q2⟩|⟨j,e0,q1,q2,q3⟩
    ·refine Runs.upd H hdst (b:=b) (w':={ w with heap:=w.heap.setIfInBounds b (.map (es.push { key:=.int .i64 n,val:=a.eval ov,born:=cl }) (cl+1)) }) (mem_keys (own?_mem h3)) (by simp [Names.blk,hb,blkOf])
      (hexec _ (by simp [e2,Instr.mapUpdate,run_underlying ht,MapKept.run_getObj_map hh,MapKept.run_checkKey hkt hkey,MapKept.run_findKey hkt q1,MapKept.run_setObj_map _ hh,Result.andThen])) (hkeep _) (fun E' hl hE=>?_)
     refine ⟨b,_,_,hb,(MapKept.heap_set hh).1,fun x hx=>?_,fun i j x y hi hj hxy=>?_,fun i x m hi hx=>?_,fun m hm=>?_,fun x hx=>?_,?_⟩
     ·simp only [Array.toList_push,List.mem_append,List.mem_singleton] at hx
      rcases hx with hx|rfl
      ·exact hk x hx
      ·exact hkey
     ·rw [Array.getElem?_push] at hi hj
      split at hi
      ·cases hi
       split at hj
       ·omega
       ·exact absurd hxy.symm (q2 y (by rw [←Array.getElem?_toList] at hj;exact List.mem_of_getElem? hj))
      ·split at hj
       ·cases hj
        exact absurd hxy (q2 x (by rw [←Array.getElem?_toList] at hi;exact List.mem_of_getElem? hi))
       ·exact hdj i j x y hi hj hxy
     ·rw [Array.getElem?_push] at hi
      split at hi
      ·cases hi
       injection hx with _ hx
       subst hx
       dsimp only
       rw [if_pos rfl]
       exact ⟨e4.lasts hl,hnz⟩
      ·dsimp only
       rw [if_neg (fun e=>by subst e;exact q2 x (by rw [←Array.getElem?_toList] at hi;exact List.mem_of_getElem? hi) hx)]
       exact ⟨(hr i x m hi hx).1.lasts hl,(hr i x m hi hx).2⟩
     ·have h5:m≠n:=fun e=>by subst e;exact hm { key:=.int .i64 m,val:=a.eval ov,born:=cl } (by simp) rfl
      dsimp only
      rw [if_neg h5]
      exact hno.1 m fun x hx=>hm x (by simp [hx])
     ·simp only [Array.toList_push,List.mem_append,List.mem_singleton] at hx
      rcases hx with hx|rfl
      ·exact Nat.lt_succ_of_lt (hno.2.1 x hx)
      ·exact Nat.lt_succ_self _
     ·rw [Array.toList_push,List.map_append,List.nodup_append]
      refine ⟨hno.2.2,by simp,fun p hp q hq e=>?_⟩
      simp only [List.map_cons,List.map_nil,List.mem_singleton] at hq
      obtain ⟨x,hx,rfl⟩:=List.mem_map.1 hp
      have:=hno.2.1 x hx
      omega
    ·have hj:es[j]?=some e0:=by simpa using q2
     refine Runs.upd H hdst (b:=b) (w':={ w with heap:=w.heap.setIfInBounds b (.map (es.modify j fun e=>{ e with key:=.int .i64 n,val:=a.eval ov }) cl) }) (mem_keys (own?_mem h3)) (by simp [Names.blk,hb,blkOf])
      (hexec _ (by simp [e2,Instr.mapUpdate,run_underlying ht,MapKept.run_getObj_map hh,MapKept.run_checkKey hkt hkey,MapKept.run_findKey hkt q1,hj,q3,MapKept.run_keyThatStays hkey,MapKept.run_setObj_map _ hh,Result.andThen])) (hkeep _) (fun E' hl hE=>?_)
     have hget:∀ (i:Nat) (x:MapEntry),(es.modify j fun e=>{ e with key:=.int .i64 n,val:=a.eval ov })[i]?=some x→∃ x0,es[i]?=some x0∧x.key=x0.key∧(i=j→x.val=a.eval ov)∧(i≠j→x=x0):=fun i x hi=>by
      rw [Array.getElem?_modify] at hi
      split at hi
      ·rename_i e;subst e
       rw [hj] at hi;simp at hi;subst hi
       exact ⟨e0,hj,q3.symm,fun _=>rfl,fun h=>absurd rfl h⟩
      ·rename_i e
       exact ⟨x,hi,rfl,fun h=>absurd h.symm e,fun _=>rfl⟩
     refine ⟨b,_,_,hb,(MapKept.heap_set hh).1,fun x hx=>?_,fun i i' x y hi hi' hxy=>?_,fun i x m hi hx=>?_,fun m hm=>?_,fun x hx=>?_,?_⟩
     ·obtain ⟨i,hi⟩:=List.mem_iff_getElem?.1 hx
      obtain ⟨x0,g1,g2,_,_⟩:=hget i x (by rw [←Array.getElem?_toList];exact hi)
      rw [g2]
      exact hk x0 (List.mem_of_getElem? (by rw [Array.getElem?_toList];exact g1))
     ·obtain ⟨x0,g1,g2,_,_⟩:=hget i x hi
      obtain ⟨y0,g3,g4,_,_⟩:=hget i' y hi'
      exact hdj i i' x0 y0 g1 g3 (by rw [←g2,←g4];exact hxy)
     ·obtain ⟨x0,g1,g2,g3,g4⟩:=hget i x hi
      by_cases e:i=j
      ·subst e
       rw [hj] at g1;cases g1
       rw [g2,q3] at hx
       injection hx with _ hx
       dsimp only
       rw [if_pos hx.symm,g3 rfl]
       exact ⟨e4.lasts hl,hnz⟩
      ·dsimp only
       rw [if_neg (fun e'=>e (hdj i j x0 e0 g1 hj (by rw [←g2,hx,q3,e'])))]
       rw [g4 e]
       exact ⟨(hr i x0 m g1 (by rw [←g2];exact hx)).1.lasts hl,(hr i x0 m g1 (by rw [←g2];exact hx)).2⟩
     ·have hms:∀ x0,x0∈es.toList→x0.key≠.int .i64 m:=fun x0 hx0 hk0=>by
       obtain ⟨i,hi⟩:=List.mem_iff_getElem?.1 hx0
       have hi:es[i]?=some x0:=by simpa using hi
       by_cases e:i=j
       ·subst e
        rw [hj] at hi;cases hi
        refine hm { e0 with key:=.int .i64 n,val:=a.eval ov } ?_ (by rw [q3] at hk0;exact hk0)
        refine List.mem_of_getElem? (i:=i) ?_
        rw [Array.getElem?_toList,Array.getElem?_modify,if_pos rfl,hj];rfl
       ·refine hm x0 ?_ hk0
        refine List.mem_of_getElem? (i:=i) ?_
        rw [Array.getElem?_toList,Array.getElem?_modify,if_neg (fun h=>e h.symm)];exact hi
      have h5:m≠n:=fun e=>by subst e;exact hms e0 (List.mem_of_getElem? q2) q3
      dsimp only
      rw [if_neg h5]
      exact hno.1 m hms
     ·rw [Array.toList_modify] at hx
      have hb2:x.born∈(es.toList.map (·.born)):=by
       rw [←modify_born (f:=fun e=>{ e with key:=.int .i64 n,val:=a.eval ov }) (fun e=>rfl) es.toList j]
       exact List.mem_map.2 ⟨x,hx,rfl⟩
      obtain ⟨y,hy,e⟩:=List.mem_map.1 hb2
      rw [←e];exact hno.2.1 y hy
     ·rw [Array.toList_modify,modify_born (f:=fun e=>{ e with key:=.int .i64 n,val:=a.eval ov }) (fun e=>rfl)]
      exact hno.2.2
  ·exact hs.elim
 ·exact hs.elim
end
end Go.Bx
end
section
namespace Go.Bx
open Go.RowKit
section
variable {c:Ctx} {β:Names} {st:St} {a:Act} {w:World} {o:Oper} {d:Nat}
theorem fill_rel {E:Nat→Prop} {place:Nat→Option (Nat×Nat)}:∀ (ps:List (Nat×Value)) (vs:List (Nat×Nat×V)) (arr:Array Value) (cs cs':List V),
  ps.length=vs.length→(∀ (j:Nat) (p:Nat×Value) (q:Nat×Nat×V),ps[j]?=some p→vs[j]?=some q→place p.1=some (q.1,q.2.1)∧RelV β E w p.2 q.2.2) →
  arr.size=cs.length→(∀ (j:Nat) (v:Value) (x:V),arr[j]?=some v→cs[j]?=some x→RelV β E w v x)→fillV cs vs=some cs' →
  ∃ arr',Instr.fill place arr ps=some arr'∧arr'.size=cs'.length∧∀ (j:Nat) (v:Value) (x:V),arr'[j]?=some v→cs'[j]?=some x→RelV β E w v x
 |[],vs,arr,cs,cs',hl,_,hz,hr,hf=>by
  have:vs=[]:=List.eq_nil_of_length_eq_zero (by simpa using hl.symm)
  subst this
  simp [fillV] at hf
  subst hf
  exact ⟨arr,by simp [Instr.fill],hz,hr⟩
 |p::ps,vs,arr,cs,cs',hl,hp,hz,hr,hf=>by
  cases vs with
  |nil=>simp at hl
  |cons q vs =>
   obtain ⟨off,sz,v⟩:=q
   obtain ⟨i,u⟩:=p
   obtain ⟨h1,h2⟩:=hp 0 _ _ rfl rfl
   simp only at h1 h2
   simp only [fillV] at hf
   split at hf
   ·rename_i ys hys
    split at hf
    ·rename_i hc
     simp at hc
     obtain ⟨g1,g2,_⟩:=h2.cells hys
     have hsz:(u.cells.toList.zipIdx.foldl (fun cs (p:Value×Nat)=>cs.setIfInBounds (off+p.2) p.1) arr).size=arr.size:=zipIdx_fold_size off _ _
     obtain ⟨arr',k1,k2,k3⟩:=fill_rel ps vs (u.cells.toList.zipIdx.foldl (fun cs (p:Value×Nat)=>cs.setIfInBounds (off+p.2) p.1) arr) (putV cs off ys) cs' (by simpa using hl)
      (fun j p q hj hq=>hp (j+1) p q (by simpa using hj) (by simpa using hq)) (by rw [hsz,putV_len,hz]) (fun j v x hv hx=>by
       have:=zipIdx_fold off u.cells.toList 0 arr j
       rw [this] at hv
       rw [putV_get] at hx
       simp only [Nat.add_zero,Array.length_toList,g1] at hv
       by_cases hj:off≤j∧j<off+ys.length
       ·rw [if_pos (by omega)] at hv
        rw [if_pos (by omega)] at hx
        exact g2 _ v x (by simpa using hv) hx
       ·rw [if_neg (by omega)] at hv
        rw [if_neg (by omega)] at hx
        exact hr j v x hv hx) hf
     refine ⟨arr',?_,k2,k3⟩
     simp only [Instr.fill,h1]
     rw [if_neg (by simp [g1];omega),←Array.foldl_toList]
     simp only [Array.toList_zipIdx]
     exact k1
    ·cases hf
   ·cases hf
def placesB (P:Program) (fs:List Field):Option (List (Nat×Nat)):=
 match fs with
 |[]=>some []
 |f::l =>
  match szB P f.type,placesB P l with
  |some s,some r=>some ((f.offset,s)::r)
  |_,_=>none
theorem placesB_run {P:Program} {w:World}:∀ {fs:List Field} {ps:List (Nat×Nat)},placesB P fs=some ps →
  (fs.mapM fun (f:Field)=>do pure (f.offset,←sizeOf f.type):Sem (List (Nat×Nat))).run P w=.ok ps w
 |[],ps,h=>by simp [placesB] at h;subst h;simp
 |f::l,ps,h=>by
  simp only [placesB] at h
  split at h
  ·rename_i s r h1 h2
   simp at h;subst h
   obtain ⟨i,hi,hi2⟩:=Option.map_eq_some_iff.1 h1
   have:=placesB_run (w:=w) h2
   simp [List.mapM_cons,sizeOf,typeInfo,hi,hi2] at this ⊢
   rw [this]
   simp
  ·cases h
theorem evParts_len:∀ (l:List (Nat×Nat×X)),(evParts st l).length=l.length
 |[]=>rfl
 |(_,_,_)::l=>by simp [evParts,evParts_len l]
theorem evParts_get:∀ {l:List (Nat×Nat×X)} {j:Nat} {q:Nat×Nat×X},l[j]?=some q→(evParts st l)[j]?=some (q.1,q.2.1,evV st q.2.2)
 |[],j,q,h=>by simp at h
 |(x,y,z)::l,0,q,h=>by simp at h;subst h;simp [evParts]
 |(x,y,z)::l,j+1,q,h=>by simp at h;simp [evParts,evParts_get h]
theorem evPartsS_get {p:Bool}:∀ {l:List (Nat×Nat×X)} {j:Nat} {q:Nat×Nat×X},evPartsS p st l→l[j]?=some q→evS p st q.2.2
 |[],j,q,_,h=>by simp at h
 |(x,y,z)::l,0,q,hs,h=>by simp at h;subst h;exact hs.1
 |(x,y,z)::l,j+1,q,hs,h=>by simp at h;exact evPartsS_get hs.2 h
def cParts (place:Nat→Option (Nat×Nat)):List (Nat×Operand)→Option (List (Nat×Nat×X))
 |[]=>some []
 |(i,o)::l =>
  match place i,cX o,cParts place l with
  |some (off,sz),some x,some r=>some ((off,sz,x)::r)
  |_,_,_=>none
theorem cParts_ok {place:Nat→Option (Nat×Nat)}:∀ {l:List (Nat×Operand)} {ps:List (Nat×Nat×X)},cParts place l=some ps →
  l.length=ps.length∧∀ (j:Nat) (p:Nat×Operand) (q:Nat×Nat×X),l[j]?=some p→ps[j]?=some q→place p.1=some (q.1,q.2.1)∧cX p.2=some q.2.2
 |[],ps,h=>by simp [cParts] at h;subst h;simp
 |(i,o)::l,ps,h=>by
  simp only [cParts] at h
  split at h
  ·rename_i off sz x r h1 h2 h3
   simp at h;subst h
   obtain ⟨e,hr⟩:=cParts_ok h3
   refine ⟨by simp [e],fun j p q hp hq=>?_⟩
   cases j with
   |zero=>simp at hp hq;subst hp;subst hq;exact ⟨h1,h2⟩
   |succ j=>simp at hp hq;exact hr j p q hp hq
  ·cases h
theorem s_build (H:Holds c β st a w) (hd:∀ d,o.dst=some d→d<c.nt) {t:TypeId} {ps:Array (Nat×Operand)} {z:List V} {parts:List (Nat×Nat×X)} {place:Nat→Option (Nat×Nat)} (ho:o.op=.build t ps) (hz:zeroB c.P t=some z) (hp:cParts place ps.toList=some parts)
  (hrun:∀ (zc:Array Value) (vs:Array (Nat×Value)) (out:Array Value),(zeroValue t).run c.P w=.ok (.agg zc) w→Instr.fill place zc vs.toList=some out→(Instr.build t vs).run c.P w=.ok (.agg out) w)
  (hagz:∀ i zv,c.P.info? t=some i→i.zero=some zv→∃ zc,zv=.agg zc)
  (hs:(opR st true d (.build z parts)).side):Runs c β (st.app o.dst (opR st true d (.build z parts))) a o w:=by
 simp only [opR] at hs ⊢
 split at hs
 ·rename_i cs h1
  obtain ⟨i,hi,zv,hzz,hcs⟩:∃ i,c.P.info? t=some i∧∃ zv,i.zero=some zv∧cVs zv.cells.toList=some z:=by
   unfold zeroB at hz
   cases hi:c.P.info? t with
   |none=>simp [hi] at hz
   |some i =>
    simp only [hi,Option.bind_some] at hz
    cases hzz:i.zero with
    |none=>simp [hzz] at hz
    |some zv=>simp only [hzz] at hz;exact ⟨i,rfl,zv,hzz,hz⟩
  obtain ⟨zc,rfl⟩:=hagz i zv hi hzz
  obtain ⟨e1,hr⟩:=cVs_cells (β:=β) (E:=Eo c.E0 β st.own) (w:=w) (arr:=zc) hcs
  obtain ⟨e2,hpr⟩:=cParts_ok hp
  obtain ⟨out,k1,k2,k3⟩:=fill_rel (β:=β) (w:=w) (E:=Eo c.E0 β st.own) (place:=place) (ps.toList.map fun (p:Nat×Operand)=>(p.1,a.eval p.2)) (evParts st parts) zc z cs (by simp [evParts_len,←e2])
   (fun j p q hj hq=>by
    rw [List.getElem?_map] at hj
    obtain ⟨p0,hp0,rfl⟩:=Option.map_eq_some_iff.1 hj
    have hjl:j<parts.length:=by
     have:=(List.getElem?_eq_some_iff.1 hp0).1
     omega
    have hq0:parts[j]?=some parts[j]:=List.getElem?_eq_getElem hjl
    rw [evParts_get hq0] at hq
    simp at hq
    subst hq
    obtain ⟨g1,g2⟩:=hpr j p0 _ hp0 hq0
    exact ⟨g1,evV_ok H g2 (evPartsS_get hs hq0)⟩) e1 hr h1
  refine Runs.val H hd (v:=.agg out) ?_ (.ag _ _ k2 k3)
  have hzr:(zeroValue t).run c.P w=.ok (.agg zc) w:=by simp [zeroValue,typeInfo,hi,hzz]
  have:=hrun zc (ps.map fun (p:Nat×Operand)=>(p.1,a.eval p.2)) out hzr (by simpa using k1)
  exact exec_val (s:=Instr.build t (ps.map fun (p:Nat×Operand)=>(p.1,a.eval p.2))) (by simp [execOp,ho]) this
 ·exact hs.elim
theorem build_struct {t:TypeId} {fs:Array Field} {pl:List (Nat×Nat)} (ht:c.P.underlying t=some (.struct fs)) (hp:placesB c.P fs.toList=some pl) :
  ∀ (zc:Array Value) (vs:Array (Nat×Value)) (out:Array Value),(zeroValue t).run c.P w=.ok (.agg zc) w→Instr.fill (fun (i:Nat)=>pl[i]?) zc vs.toList=some out→(Instr.build t vs).run c.P w=.ok (.agg out) w:=by
 intro zc vs out h1 h2
 have h3:=placesB_run (w:=w) hp
 have h4:(fs.mapM fun (f:Field)=>do pure (f.offset,←sizeOf f.type):Sem (Array (Nat×Nat))).run c.P w=.ok pl.toArray w:=by
  rw [Array.mapM_eq_mapM_toList]
  simp only [Sem.run_map,h3,Result.andThen_ok]
 simp only [Instr.build,Sem.run_bind,h1,Result.andThen_ok,run_underlying ht,h4,Value.cells]
 have h5:(fun (x:Nat)=>pl.toArray[x]?)=fun (i:Nat)=>pl[i]?:=by funext i;simp
 rw [h5,h2]
 rfl
theorem build_array {t e:TypeId} {n sz:Nat} (ht:c.P.underlying t=some (.array n e)) (hz:szB c.P e=some sz) :
  ∀ (zc:Array Value) (vs:Array (Nat×Value)) (out:Array Value),(zeroValue t).run c.P w=.ok (.agg zc) w→Instr.fill (fun i=>some (i*sz,sz)) zc vs.toList=some out→(Instr.build t vs).run c.P w=.ok (.agg out) w:=by
 intro zc vs out h1 h2
 obtain ⟨i,hi,hi2⟩:=Option.map_eq_some_iff.1 hz
 have hszr:(sizeOf e).run c.P w=.ok sz w:=by simp [sizeOf,typeInfo,hi,hi2]
 simp only [Instr.build,Sem.run_bind,h1,Result.andThen_ok,run_underlying ht,hszr,Value.cells,h2]
 rfl
end
end Go.Bx
end
section
namespace Go.Bx
open Go.RowKit
section
variable {c:Ctx} {β:Names} {st:St} {a:Act} {w:World} {o:Oper} {d:Nat}
theorem s_isnil (H:Holds c β st a w) (hd:∀ d,o.dst=some d→d<c.nt) {neg:Bool} {t t' e:TypeId} {ox:Operand} {x:X} (ho:o.op=.binOp (if neg then .neq else .eql) t ox (.const (.slice none 0 0)) t') (ht:c.P.underlying t=some (.slice e)) (hx:cX ox=some x)
  (hs:(opR st true d (.isnil neg x)).side):Runs c β (st.app o.dst (opR st true d (.isnil neg x))) a o w:=by
 simp only [opR] at hs ⊢
 split at hs
 ·rename_i full sz n f h1
  have e1:=evV_ok H hx hs
  rw [h1] at e1
  generalize hu:a.eval ox=u at *
  have hq:∀ (A:Option Addr) (m cc:Nat),(Op.equal t (.slice A m cc) (.slice none 0 0)).run c.P w=.ok A.isNone w:=fun A m cc=>by
   have h:∀ d:Nat,(Op.equalIn (d+1) t (.slice A m cc) (.slice none 0 0)).run c.P w=.ok A.isNone w:=fun d=>by cases A<;>simp [Op.equalIn,run_underlying ht]
   simp [Op.equal,Op.maxDepth,h 9999]
  have key:∃ A m cc,u=.slice A m cc∧(A.isNone=true→n=0):=by
   cases e1 with
   |d _ _ e1 =>
    cases e1 with
    |nil A _ _ _=>exact ⟨A,0,0,rfl,fun _=>rfl⟩
    |sl=>exact ⟨_,_,_,rfl,fun h=>by cases h⟩
  obtain ⟨A,m,cc,rfl,hn⟩:=key
  have hk:a.eval (.const (.slice none 0 0))=.slice none 0 0:=rfl
  cases neg
  ·refine Runs.val H hd (v:=.bool A.isNone) ?_ (.d _ _ (.qb _ _ _ hn (fun _=>trivial)))
   simp [execOp,ho,hu,hk,eqGuard,binOp,hq]
  ·refine Runs.val H hd (v:=.bool (!A.isNone)) ?_ (.d _ _ (.qb _ _ _ (fun _=>trivial) (fun h=>hn (by simpa using h))))
   simp [execOp,ho,hu,hk,eqGuard,binOp,hq]
 ·rename_i k h1
  split at hs
  ·rename_i e0 sz n f h2
   have e1:=evV_ok H hx hs
   rw [h1] at e1
   obtain ⟨v,xs,hb,hrow,_,_⟩:=own_ok H h2
   generalize hu:a.eval ox=u at *
   have hq:∀ (A:Option Addr) (m cc:Nat),(Op.equal t (.slice A m cc) (.slice none 0 0)).run c.P w=.ok A.isNone w:=fun A m cc=>by
    have h:∀ d:Nat,(Op.equalIn (d+1) t (.slice A m cc) (.slice none 0 0)).run c.P w=.ok A.isNone w:=fun d=>by cases A<;>simp [Op.equalIn,run_underlying ht]
    simp [Op.equal,Op.maxDepth,h 9999]
   have key:∃ A m cc,u=.slice A m cc∧(A.isNone=true→n=0):=by
    cases e1 with
    |osl _ _ hb' _ =>
     rw [hb] at hb'
     injection hb' with hb'
     subst hb'
     rcases hrow.2 with ⟨⟨A,rfl⟩,rfl⟩|⟨g,cap,cur,rfl,_⟩
     ·exact ⟨A,0,0,rfl,fun _=>rfl⟩
     ·exact ⟨_,_,_,rfl,fun h=>by cases h⟩
   obtain ⟨A,m,cc,rfl,hn⟩:=key
   have hk:a.eval (.const (.slice none 0 0))=.slice none 0 0:=rfl
   cases neg
   ·refine Runs.val H hd (v:=.bool A.isNone) ?_ (.d _ _ (.qb _ _ _ hn (fun _=>trivial)))
    simp [execOp,ho,hu,hk,eqGuard,binOp,hq]
   ·refine Runs.val H hd (v:=.bool (!A.isNone)) ?_ (.d _ _ (.qb _ _ _ (fun _=>trivial) (fun h=>hn (by simpa using h))))
    simp [execOp,ho,hu,hk,eqGuard,binOp,hq]
  ·exact hs.elim
 ·exact hs.elim
theorem s_cap (H:Holds c β st a w) (hd:∀ d,o.dst=some d→d<c.nt) {t e:TypeId} {ox:Operand} {x:X} (ho:o.op=.call { callee:=.builtin .cap,args:=#[ox],argTypes:=#[t] }) (ht:c.P.underlying t=some (.slice e)) (hx:cX ox=some x)
  (hs:(opR st true d (.cap x)).side):Runs c β (st.app o.dst (opR st true d (.cap x))) a o w:=by
 simp only [opR] at hs ⊢
 have hrun:∀ A (n:Nat) cp,a.eval ox=.slice A n cp→(execOp a.eval o).run c.P w=.ok (.value (.int .i64 cp)) w:=fun A n cp he=>by
  simp [execOp,ho,resolve,invoke,builtin,Builtin.cap_,run_underlying ht,he,goInt]
 split at hs
 ·rename_i sz n f h1
  have e1:=evV_ok H hx hs
  rw [h1] at e1
  generalize hu:a.eval ox=u at *
  cases e1 with
  |d _ _ e1 =>
   cases e1 with
   |nil _ _ _ _=>exact Runs.val H hd (hrun _ _ _ rfl) (mk_int _ _)
   |sl _ _ _ _ b off cp g hc hf hl hcell hrel =>
    have:=hf rfl
    subst this
    exact Runs.val H hd (hrun _ _ _ rfl) (mk_int _ _)
 ·exact hs.elim
theorem s_apz (H:Holds c β st a w) (hdst:o.dst=some d) (hd:d<c.nt) {t t' e:TypeId} {kn:IntKind} {sz bytes:Nat} {zd:List D} {ox oy:Operand} {x y:X} (ho:o.op=.call { callee:=.builtin .append,args:=#[ox,oy],argTypes:=#[t,t'] }) (ht:c.P.underlying t=some (.slice e)) (ht':c.P.underlying t'=some (.int kn))
  {i:TypeInfo} {z:Value} (hi:c.P.info? e=some i) (hz:i.zero=some z) (hsize:i.size=sz) (hby:i.bytes=bytes) (hzs:z.cells.size=sz) (hzd:cVs z.cells.toList=some (zd.map .d)) (hpos:0<sz) (hx:cX ox=some x) (hy:cX oy=some y)
  (hs:(opR st true d (.apz e sz bytes zd x y)).side):Runs c β (st.app o.dst (opR st true d (.apz e sz bytes zd x y))) a o w:=by
 simp only [opR] at hs ⊢
 split at hs
 ·rename_i sz1 f kq m h1 h2
  obtain ⟨hsx,hsy,h0,hb,h63,hn⟩:=hs
  have e1:=evV_ok H hx hsx
  have e2:=evV_ok H hy hsy
  rw [h1] at e1
  rw [h2] at e2
  have e2:=rel_int e2
  generalize hu:a.eval ox=u at *
  have hA:∃ A,u=.slice A 0 0:=by
   cases e1 with
   |d _ _ e1 =>
    cases e1 with
    |nil A _ _ _=>exact ⟨A,rfl⟩
    |sl _ _ _ _ b off cp g hc hf hl hcell hrel=>have:=hf rfl;subst this;exact ⟨_,rfl⟩
  obtain ⟨A,rfl⟩:=hA
  obtain ⟨n,rfl⟩:∃ n:Nat,m=(n:Int):=⟨m.toNat,by omega⟩
  rw [Int.toNat_natCast] at hb h63 ⊢
  have hn0:0<n:=by omega
  have hsmall:n≤9223372036854775807:=by simp only [maxLen] at h63;omega
  have hr:=Lib.run_append_grow_zeros (P:=c.P) w t t' o.type e i z kq kn ht ht' hi hz A 0 0 [] (by cases A<;>simp [Builtin.firstCells,loadCells,loadCellsFrom]) n hn0 (by omega) (by omega) (by omega) (by rw [hby];omega) (by
   have:=growslice_fits (need:=0+n) (old:=0) (bytes:=i.bytes) (by omega) (by rw [hby,Nat.zero_add];exact hb)
   exact this)
  simp only [Nat.zero_add] at hr
  have hnews:(Builtin.zeroCells z.cells n).size=n*sz:=by rw [size_zeroCells,hzs]
  have hrow:=row_grown (w:=w) (e:=e) (z:=z) (sz:=sz) (n:=0) (m:=n) (old:=0) (xs:=[]) (news:=(Builtin.zeroCells z.cells n).toList) hzs (by simp) (by simpa using hnews) (by omega) (by omega)
  simp only [Nat.zero_add,List.nil_append,Array.toArray_toList] at hrow
  obtain ⟨q1,q2⟩:=cVs_cells (β:=fun _=>none) (E:=fun _=>False) (w:=w) (arr:=z.cells) hzd
  have hzl:zd.length=sz:=by rw [←hzs,q1];simp
  refine Runs.mk H hdst hd hn (v:=.slice (some ⟨w.heap.size,0,none⟩) n (grownCap w n 0 e)) (w':=w.drew.alloc (.cells (#[]++Builtin.zeroCells z.cells n++Builtin.zeroCells z.cells (grownCap w n 0 e-n)) e)) ?_ (keeps_drew_alloc _ _ _) (fun b hb=>?_) (fun β' E' hβ hk hl=>?_) (fun β' E' hk=>.osl _ _ hk rfl)
  ·simp only [execOp,ho,resolve,invoke,builtin,Sem.run_bind,Sem.run_pure,Result.andThen_ok,List.map_toArray,List.map_cons,List.map_nil,hu,e2,hr]
  ·simp only [blkOf] at hb
   split at hb
   ·cases hb
   ·simp at hb;subst hb;exact ⟨Nat.le_refl _,by simp⟩
  ·obtain ⟨q1,q2⟩:=cVs_cells (β:=β') (E:=E') (w:=w.drew.alloc (.cells (#[]++Builtin.zeroCells z.cells n++Builtin.zeroCells z.cells (grownCap w n 0 e-n)) e)) (arr:=z.cells) hzd
   refine ⟨_,(Builtin.zeroCells z.cells n).toList,hk,hrow,fun i' hi'=>hzl,fun i' j hi' hj x hx=>?_⟩
   have hlt:i'*sz+j<n*sz:=by
    have:(i'+1)*sz≤n*sz:=Nat.mul_le_mul_right _ hi'
    rw [Nat.add_mul] at this;omega
   have hm:(i'*sz+j) % sz=j:=by rw [Nat.mul_comm,Nat.mul_add_mod,Nat.mod_eq_of_lt hj]
   have hjz:j<z.cells.size:=by omega
   refine ⟨z.cells[j],?_,rel_d (q2 j z.cells[j] (.d x) (Array.getElem?_eq_getElem hjz) (by simp [hx]))⟩
   simp [Builtin.zeroCells,hlt,hzs,hm,getElem!_pos z.cells j hjz]
 ·exact hs.elim
theorem Runs.updu (H:Holds c β st a w) (hd:∀ d,o.dst=some d→d<c.nt) {k b:Nat} {ow:Own} {sd:Prop} {rd:List Nat} {w':World} {v:Value} (hkk:k∈keysO st.own) (hb:β.blk k=some b)
  (hr:(execOp a.eval o).run c.P w=.ok (.value v) w') (hk:Keeps (fun x=>x=b) w w') (ho:∀ E',Lasts (Eo c.E0 β st.own) E' w w'→E'=Eo c.E0 β st.own→OwnOk β E' w' k ow) :
  Runs c β (st.app o.dst { side:=sd,val:=.un,upd:=[(k,some ow)],rd:=rd }) a o w:=by
 refine ⟨v,w',β,.inl hr,Names.le.refl β,?_⟩
 have h1:=H.updOwn hkk (hk.mono (fun x e=>by rw [e,hb])) ho
 cases hdst:o.dst with
 |none=>simpa [St.app,setE,applyU,newN,H.kn k hkk,Act.put,hdst] using h1
 |some d =>
  have h2:=h1.setV (hd d hdst) (.un v)
  simpa [St.app,setE,applyU,newN,H.kn k hkk,Act.put,hdst] using h2
theorem s_clr (H:Holds c β st a w) (hd:∀ d,o.dst=some d→d<c.nt) {t e:TypeId} {sz:Nat} {zd:List D} {ox:Operand} {x:X} (ho:o.op=.call { callee:=.builtin .clear,args:=#[ox],argTypes:=#[t] }) (ht:c.P.underlying t=some (.slice e))
  {i:TypeInfo} {z:Value} (hi:c.P.info? e=some i) (hz:i.zero=some z) (hzs:z.cells.size=sz) (hzd:cVs z.cells.toList=some (zd.map .d)) (hx:cX ox=some x)
  (hs:(opR st true d (.clr sz zd x)).side):Runs c β (st.app o.dst (opR st true d (.clr sz zd x))) a o w:=by
 simp only [opR] at hs ⊢
 split at hs
 ·rename_i k sz1 lo n h1
  split at hs
  ·rename_i e0 sz2 N f h3
   obtain ⟨hsx,rfl,rfl⟩:=hs
   have e1:=evV_ok H hx hsx
   rw [h1] at e1
   generalize hu:a.eval ox=u at *
   obtain ⟨v,xs,hb,hrow,hfl,hfr⟩:=own_ok H h3
   have hkk:=mem_keys (own?_mem h3)
   have hzero:(zeroValue e).run c.P w=.ok z w:=by simp [zeroValue,typeInfo,hi,hz]
   have hexec:∀ w',(∀ ty,(Builtin.clear_ #[t] ty #[u]).run c.P w=.ok (.tuple #[]) w')→(execOp a.eval o).run c.P w=.ok (.value (.tuple #[])) w':=fun w' h=>by
    simp [execOp,ho,resolve,invoke,builtin,hu,h]
   by_cases hn:n=0
   ·subst hn
    have hw:(execOp a.eval o).run c.P w=.ok (.value (.tuple #[])) w:=by
     refine hexec _ fun ty=>?_
     cases e1 with
     |osub _ _ _ _ b m c aa hb hn ha=>simp [Builtin.clear_,run_underlying ht]
     |osub0 _ _ A hb=>cases A<;>simp [Builtin.clear_,run_underlying ht]
    have hef:(fun i=>if lo≤i∧i<lo+0 then zd else f i)=f:=by funext i;rw [if_neg (by omega)]
    rw [hef]
    have hset:Holds c β ⟨st.env,setO st.own k (.row e0 sz2 N f),st.nm⟩ a w:=H.updOwn hkk (Keeps.refl _ _) (fun E' hl hE=>hE▸⟨v,xs,hb,hrow,hfl,hfr⟩)
    refine ⟨.tuple #[],w,β,.inl hw,Names.le.refl β,?_⟩
    cases hdst:o.dst with
    |none=>simpa [St.app,setE,applyU,newN,H.kn k hkk,Act.put,hdst] using hset
    |some d =>
     have h2:=hset.setV (hd d hdst) (.un (.tuple #[]))
     simpa [St.app,setE,applyU,newN,H.kn k hkk,Act.put,hdst] using h2
   ·obtain ⟨b,m,c',hbk,hle,hue⟩:∃ b m c',β k=some (.slice (some ⟨b,0,none⟩) m c')∧lo+n≤m∧u=.slice (some ⟨b,lo*sz2,none⟩) n (c'-lo):=by
     cases e1 with
     |osub _ _ _ _ b m c aa hb hn' ha=>exact ⟨b,m,c,hb,hn',by rw [ha (.inl (by omega))]⟩
     |osub0 _ _ A hb=>exact absurd rfl hn
    rw [hb] at hbk
    injection hbk with hbk
    rcases hrow.2 with ⟨⟨A,rfl⟩,rfl⟩|⟨gb,cap,cur,rfl,hc0,hh,hnc,hcm,hcs,htk⟩
    ·cases hbk;omega
    ·injection hbk with q1 q2 q3
     injection q1 with q1
     injection q1 with q1
     subst q1;subst q2;subst q3
     obtain ⟨z1,z2⟩:=cVs_cells (β:=fun _=>none) (E:=fun _=>False) (w:=w) (arr:=z.cells) hzd
     have hzl:zd.length=sz2:=by rw [←hzs,z1];simp
     have hnl:(Builtin.zeroCells z.cells n).toList.length=n*sz2:=by rw [Array.length_toList,size_zeroCells,hzs]
     have hle2:(lo+n)*sz2≤N*sz2:=Nat.mul_le_mul_right _ hle
     have hle3:N*sz2≤cap*sz2:=Nat.mul_le_mul_right _ hnc
     rw [Nat.add_mul] at hle2
     have hget:∀ (E:Nat→Prop) i j,i<n→j<sz2→∀ y,zd[j]?=some y→∃ u,(Builtin.zeroCells z.cells n).toList[i*sz2+j]?=some u∧RelD E w u y:=fun E i j hi hj y hy=>by
      obtain ⟨z1,z2⟩:=cVs_cells (β:=fun _=>none) (E:=E) (w:=w) (arr:=z.cells) hzd
      have hlt:i*sz2+j<n*sz2:=by
       have:(i+1)*sz2≤n*sz2:=Nat.mul_le_mul_right _ hi
       rw [Nat.add_mul] at this;omega
      have hm:(i*sz2+j) % sz2=j:=by rw [Nat.mul_comm,Nat.mul_add_mod,Nat.mod_eq_of_lt hj]
      have hjz:j<z.cells.size:=by omega
      refine ⟨z.cells[j],?_,rel_d (z2 j z.cells[j] (.d y) (Array.getElem?_eq_getElem hjz) (by simp [hy]))⟩
      simp [Builtin.zeroCells,hlt,hzs,hm,getElem!_pos z.cells j hjz]
     have h1c:∀ u,u∈(Builtin.zeroCells z.cells n).toList→u.oneCell'=true:=fun u hu=>by
      obtain ⟨p,hp1,hp2⟩:=List.getElem_of_mem hu
      rw [hnl] at hp1
      have hs0:0<sz2:=Nat.pos_of_ne_zero fun e=>by rw [e] at hp1;omega
      have hq1:p / sz2<n:=(Nat.div_lt_iff_lt_mul hs0).2 hp1
      have hq2:p % sz2<sz2:=Nat.mod_lt _ hs0
      obtain ⟨y,hy⟩:∃ y,zd[p % sz2]?=some y:=⟨zd[p % sz2]'(by omega),List.getElem?_eq_getElem _⟩
      obtain ⟨u',g1,g2⟩:=hget (fun _=>False) (p / sz2) (p % sz2) hq1 hq2 y hy
      rw [Nat.mul_comm,Nat.div_add_mod,List.getElem?_eq_getElem (by rw [hnl];exact hp1),hp2] at g1
      injection g1 with g1
      rw [g1];exact g2.one
     have hst:=run_storeCells_at c.P gb (lo*sz2) e0 (Builtin.zeroCells z.cells n).toList 0 cur w hh (by simp only [Nat.add_zero];rw [hnl];omega) h1c
     have hrun:∀ ty,(Builtin.clear_ #[t] ty #[u]).run c.P w=.ok (.tuple #[]) (w.setRow gb (spliced cur (lo*sz2) (Builtin.zeroCells z.cells n).toList)):=fun ty=>by
      obtain ⟨n',rfl⟩:∃ n',n=n'+1:=⟨n-1,by omega⟩
      rw [hue]
      simp only [Nat.add_zero] at hst
      simp [Builtin.clear_,run_underlying ht,hzero,hst,spliced]
     refine Runs.updu H hd (b:=gb) hkk (by simp [Names.blk,hb,blkOf];omega) (hexec _ hrun) (keeps_setRow _ _ _ _ rfl) (fun E' hl hE=>?_)
     exact row_put (lo:=lo) (q:=n) (g:=fun _=>zd) hl hb hc0 hh hnc hcm hcs htk hfl hfr hle hnl (fun i hi=>hzl) (fun i j hi hj y hy=>hget _ i j hi hj y hy)
  ·exact hs.elim
 ·exact hs.elim
end
end Go.Bx
end
section
namespace Go.Bx
open Go.RowKit
def isAggV:Value→Bool
 |.agg _=>true
 |_=>false
def aggZ (P:Program) (t:TypeId):Bool:=
 match P.info? t with
 |some i=>match i.zero with
  |some z=>isAggV z
  |none=>false
 |none=>false
def toDsO (P:Program) (e:TypeId):Option (List D):=(zeroB P e).bind toDs
def cBuiltin (P:Program) (b:Builtin) (args:List Operand) (ts:List TypeId):Option O:=
 match b with
 |.len =>
  match args,ts with
  |[x],[t] =>
   match P.underlying t,cX x with
   |some (.slice _),some x=>some (.len x)
   |some (.array n _),some _=>some (.mov (.k (.d (.int .i64 n))))
   |_,_=>none
  |_,_=>none
 |.max =>
  match args with
  |[x,y] =>
   match cX x,cX y with
   |some x,some y=>some (.mm true x y)
   |_,_=>none
  |_=>none
 |.min =>
  match args with
  |[x,y] =>
   match cX x,cX y with
   |some x,some y=>some (.mm false x y)
   |_,_=>none
  |_=>none
 |.append =>
  match args,ts with
  |[x,y],[t,t'] =>
   match P.underlying t,cX x,cX y with
   |some (.slice e),some x,some y =>
    match P.info? e,zeroB P e with
    |some i,some z=>if t=t'∧z.length=i.size then some (.app e i.size i.bytes x y) else
      match P.underlying t',toDsO P e with
      |some (.int _),some zd=>if zd.length=i.size∧0<i.size then some (.apz e i.size i.bytes zd x y) else none
      |_,_=>none
    |_,_=>none
   |_,_,_=>none
  |_,_=>none
 |.cap =>
  match args,ts with
  |[x],[t] =>
   match P.underlying t,cX x with
   |some (.slice _),some x=>some (.cap x)
   |_,_=>none
  |_,_=>none
 |.copy =>
  match args,ts with
  |[x,y],[t,_] =>
   match P.underlying t,cX x,cX y with
   |some (.slice e),some x,some y=>(szB P e).map fun sz=>.cpy sz x y
   |_,_,_=>none
  |_,_=>none
 |.clear =>
  match args,ts with
  |[x],[t] =>
   match P.underlying t,cX x with
   |some (.slice e),some x =>
    match P.info? e,zeroB P e,toDsO P e with
    |some i,some _,some zd=>if zd.length=i.size then some (.clr i.size zd x) else none
    |_,_,_=>none
   |_,_=>none
  |_,_=>none
 |_=>none
def cCall (P:Program) (cl:Call):Option O:=
 match cl.callee with
 |.builtin b=>cBuiltin P b cl.args.toList cl.argTypes.toList
 |.value (.func f)=>(cXs cl.args.toList).map (.call f)
 |.value x =>
  match cX x,cXs cl.args.toList with
  |some x,some xs=>some (.callv x xs)
  |_,_=>none
 |.invoke x m =>
  match cX x,cXs cl.args.toList with
  |some x,some xs=>some (.ivk m x xs)
  |_,_=>none
def cOp0 (P:Program) (o:Oper):Option O:=
 match o.op with
 |.move x=>(cX x).map .mov
 |.assign x=>(cX x).map .mov
 |.pick x y z =>
  match cX x,cX y,cX z with
  |some x,some y,some z=>some (.pick x y z)
  |_,_,_=>none
 |.alloc e=>(zeroB P e).map (.alloc e)
 |.box e x=>(cX x).map (.box e)
 |.build t ps =>
  match P.underlying t,zeroB P t with
  |some (.struct fs),some z =>
   match placesB P fs.toList with
   |some pl=>if aggZ P t then (cParts (fun (i:Nat)=>pl[i]?) ps.toList).map (.build z) else none
   |none=>none
  |some (.array _ e),some z =>
   match szB P e with
   |some sz=>if aggZ P t then (cParts (fun i=>some (i*sz,sz)) ps.toList).map (.build z) else none
   |none=>none
  |_,_=>none
 |.buildSlice t len ps =>
  match P.underlying t with
  |some (.slice e) =>
   match szB P e,zeroB P e,cXs (ps.toList.map (·.2)) with
   |some sz,some _,some xs=>if 0<sz∧ps.size=len∧ps.toList.map (·.1)=List.range len∧len*sz≤16777216 then some (.bslice e sz len xs) else none
   |_,_,_=>none
  |_=>none
 |.load t x =>
  match szB P t,aggB P t,cX x with
  |some sz,some agg,some x=>if agg=false→sz=1 then some (.load sz agg x) else none
  |_,_,_=>none
 |.store t x y =>
  match szB P t,cX x,cX y with
  |some sz,some x,some y=>some (.store sz x y)
  |_,_,_=>none
 |.binOp op t x y0 _ =>
  match P.underlying t,cX x,cX y0 with
  |some (.int _),some x,some y =>
   match op with
   |.shl=>some (.shf true x y)
   |.shr=>some (.shf false x y)
   |op=>some (.bin op x y)
  |some .bool,some x,some y =>
   match op with
   |.eql=>some (.beq false x y)
   |.neq=>some (.beq true x y)
   |_=>none
  |some (.slice _),some x,some _ =>
   match y0,op with
   |.const (.slice none 0 0),.eql=>some (.isnil false x)
   |.const (.slice none 0 0),.neq=>some (.isnil true x)
   |_,_=>none
  |some _,some x,some y =>
   match aggB P t,leaves P 100 t 0 with
   |some true,some lv=>if P.eqGuardType P.depth t=false then
     match op with
     |.eql=>some (.eqa false (P.cellsOf t) lv x y)
     |.neq=>some (.eqa true (P.cellsOf t) lv x y)
     |_=>none
    else none
   |_,_=>none
  |_,_,_=>none
 |.unOp op _ x=>(cX x).map (.inv op)
 |.convert s t x =>
  match P.underlying s,P.underlying t,cX x with
  |some (.int _),some (.int k),some x=>some (.conv k x)
  |_,_,_=>none
 |.nilCheck x=>(cX x).map .nilc
 |.fieldAddr t x f =>
  match P.underlying t,cX x with
  |some (.struct fs),some x =>
   match fs[f]? with
   |some fd =>
    match szB P fd.type with
    |some sz=>if sz≠0 then some (.fadr fd.offset x) else none
    |none=>none
   |none=>none
  |_,_=>none
 |.field t x f =>
  match P.underlying t,cX x with
  |some (.struct fs),some x =>
   match fs[f]? with
   |some fd =>
    match szB P fd.type,aggB P fd.type with
    |some sz,some agg=>if agg=false→sz=1 then some (.fld fd.offset sz agg x) else none
    |_,_=>none
   |none=>none
  |_,_=>none
 |.indexAddr t x i =>
  match P.underlying t,cX x,cX i with
  |some (.slice e),some x,some i=>(szB P e).map fun sz=>.iadr sz x i
  |some (.array n e),some x,some i=>(szB P e).map fun sz=>.aadr sz n x i
  |_,_,_=>none
 |.index t x0 i =>
  match P.underlying t,cX x0,cX i with
  |some (.array n e),some x,some i =>
   match szB P e,aggB P e with
   |some sz,some agg=>if agg=false→sz=1 then some (.idx sz n agg x i) else none
   |_,_=>none
  |some .string,none,some i =>
   match x0 with
   |.const (.string s)=>some (.sidx s i)
   |_=>none
  |_,_,_=>none
 |.extract x i=>(cX x).map (.ext i)
 |.makeFunc f fi ca =>
  match cXs fi.toList,cXs ca.toList with
  |some xs,some ys=>some (.mkfn f xs ys)
  |_,_=>none
 |.makeSlice t l k =>
  match P.underlying t,cX l,cX k with
  |some (.slice e),some l,some k =>
   match P.info? e,toDsO P e with
   |some i,some zd=>if zd.length=i.size then some (.mks e i.size i.bytes zd l k) else none
   |_,_=>none
  |_,_,_=>none
 |.slice t x lo hi mx =>
  match P.underlying t,cX x with
  |some (.slice e),some x =>
   match szB P e,cX? lo,cX? hi,cX? mx with
   |some sz,some lo,some hi,some mx=>some (.slc sz x lo hi mx)
   |_,_,_,_=>none
  |some (.array n e),some x =>
   match szB P e,lo,hi,mx with
   |some sz,none,none,none=>some (.asl sz n x)
   |_,_,_,_=>none
  |_,_=>none
 |.call cl=>cCall P cl
 |.makeInterface t x =>
  match cX x with
  |some x=>if concB P t then some (.mkifc t x) else none
  |none=>none
 |.typeAssert x _ t ok =>
  match cX x with
  |some x=>if concB P t then some (.tas t ok x) else none
  |none=>none
 |.makeMap t r =>
  match r with
  |none=>(mapB P t).map .mkmap
  |some _=>none
 |.lookup t x i ok =>
  match mapB P t,cX x,cX i with
  |some z,some x,some i =>
   match P.underlying t with
   |some (.map _ e)=>if ok=false∧aggZ1 P e=false then some (.lkp z x i) else if ok=true∧aggZ1 P e=false then some (.lkq z x i) else none
   |_=>none
  |_,_,_=>none
 |.mapUpdate t x i v =>
  match mapB P t,cX x,cX i,cX v with
  |some _,some x,some i,some v=>some (.mup x i v)
  |_,_,_,_=>none
 |.insert t x i v =>
  match mapB P t,cX x,cX i,cX v with
  |some _,some x,some i,some v=>some (.mup x i v)
  |_,_,_,_=>none
 |.panic x=>(cX x).map .pnc
 |_=>none
def cOp (P:Program) (o:Oper):Option O:=
 match cOp0 P o with
 |some q=>some q
 |none=>some .never
theorem cOp_0 {P:Program} {o:Oper} {q:O} (h:cOp P o=some q) (hq:q≠.never):cOp0 P o=some q:=by
 unfold cOp at h
 split at h
 ·rename_i q' hq';cases h;exact hq'
 ·cases h;exact absurd rfl hq
def makes:O→Bool
 |.alloc _ _=>true
 |.box _ _=>true
 |.bslice _ _ _ _=>true
 |.mks _ _ _ _ _ _=>true
 |.app _ _ _ _ _=>true
 |.mkmap _=>true
 |.apz _ _ _ _ _ _=>true
 |_=>false
def isStore:O→Bool
 |.store _ _ _=>true
 |.mup _ _ _=>true
 |_=>false
def isCall:O→Bool
 |.call _ _=>true
 |.callv _ _=>true
 |.ivk _ _ _=>true
 |.asl _ _ _=>true
 |.pnc _=>true
 |_=>false
theorem zero_of {P:Program} {e:TypeId} {i:TypeInfo} {cs:List V} (hi:P.info? e=some i) (h:zeroB P e=some cs):∃ z,i.zero=some z∧cVs z.cells.toList=some cs:=by
 unfold zeroB at h
 simp only [hi,Option.bind_some] at h
 cases hz:i.zero with
 |none=>simp [hz] at h
 |some z=>simp only [hz] at h;exact ⟨z,rfl,h⟩
theorem aggZ_ok {P:Program} {t:TypeId} (h:aggZ P t=true):∀ i zv,P.info? t=some i→i.zero=some zv→∃ zc,zv=.agg zc:=by
 intro i zv hi hz
 simp only [aggZ,hi,hz] at h
 cases zv<;>simp [isAggV] at h
 exact ⟨_,rfl⟩
section
variable {c:Ctx} {β:Names} {st:St} {a:Act} {w:World} {o:Oper}
theorem op_ok {q:O} (hc:cOp c.P o=some q) (H:Holds c β st a w) (hd:∀ d,o.dst=some d→d<c.nt) (hmk:makes q=true→o.dst.isSome=true) (hst:isStore q=true→o.dst=none) (hcall:isCall q=false)
  (hs:(opR st true (o.dst.getD 0) q).side):Runs c β (st.app o.dst (opR st true (o.dst.getD 0) q)) a o w:=by
 have hdm:makes q=true→o.dst=some (o.dst.getD 0):=fun h=>by
  have:=hmk h
  cases ho:o.dst with
  |none=>simp [ho] at this
  |some d=>rfl
 unfold cOp at hc
 split at hc
 case h_2=>cases hc;simp only [opR,Ef.bad] at hs
 rename_i q' hq'
 cases hc
 have hc:=hq'
 clear hq'
 unfold cOp0 at hc
 split at hc
 ·rename_i x ho
  obtain ⟨y,hx,rfl⟩:=Option.map_eq_some_iff.1 hc
  exact s_mov H hd (.inl ho) hx hs
 ·rename_i x ho
  obtain ⟨y,hx,rfl⟩:=Option.map_eq_some_iff.1 hc
  exact s_mov H hd (.inr ho) hx hs
 ·rename_i x y z ho
  split at hc
  ·rename_i hx hy hz
   cases hc
   exact s_pick H hd ho hx hy hz hs
  ·cases hc
 ·rename_i e ho
  obtain ⟨z,hz,rfl⟩:=Option.map_eq_some_iff.1 hc
  have h1:=hdm rfl
  exact s_alloc H h1 (hd _ h1) ho hz hs
 ·rename_i e x ho
  obtain ⟨y,hx,rfl⟩:=Option.map_eq_some_iff.1 hc
  have h1:=hdm rfl
  exact s_box H h1 (hd _ h1) ho hx hs
 ·rename_i t ps ho
  split at hc
  ·rename_i fs z ht hz
   split at hc
   ·rename_i pl hpl
    split at hc
    ·rename_i hag
     obtain ⟨parts,hp,rfl⟩:=Option.map_eq_some_iff.1 hc
     exact s_build H hd ho hz hp (build_struct ht hpl) (aggZ_ok hag) hs
    ·cases hc
   ·cases hc
  ·rename_i n e z ht hz
   split at hc
   ·rename_i sz hsz
    split at hc
    ·rename_i hag
     obtain ⟨parts,hp,rfl⟩:=Option.map_eq_some_iff.1 hc
     exact s_build H hd ho hz hp (build_array ht hsz) (aggZ_ok hag) hs
    ·cases hc
   ·cases hc
  ·cases hc
 ·rename_i t len ps ho
  split at hc
  ·rename_i e ht
   split at hc
   ·rename_i sz zc xs hz hzero hx
    split at hc
    ·rename_i hh
     cases hc
     have h1:=hdm rfl
     exact s_bslice H h1 (hd _ h1) ho ht hz hzero hh.2.1 hh.2.2.1 hx hh.2.2.2 hh.1 hs
    ·cases hc
   ·cases hc
  ·cases hc
 ·rename_i t x ho
  split at hc
  ·rename_i sz agg x hz hag hx
   split at hc
   ·rename_i h1
    cases hc
    exact s_load H hd ho hz hag h1 hx hs
   ·cases hc
  ·cases hc
 ·rename_i t x y ho
  split at hc
  ·rename_i sz x y hz hx hy
   cases hc
   exact s_store H (hst rfl) ho hz hx hy hs
  ·cases hc
 ·rename_i op t x y t' ho
  split at hc
  ·rename_i k x y ht hx hy
   split at hc
   ·cases hc
    exact s_shf (left:=true) H hd ho hx hy hs
   ·cases hc
    exact s_shf (left:=false) H hd ho hx hy hs
   ·cases hc
    exact s_bin H hd ho hx hy hs
  ·rename_i x y ht hx hy
   split at hc
   ·cases hc
    exact s_beq (neg:=false) H hd ho ht hx hy hs
   ·cases hc
    exact s_beq (neg:=true) H hd ho ht hx hy hs
   ·cases hc
  ·rename_i e x y1 ht hx hy
   split at hc
   ·cases hc
    exact s_isnil (neg:=false) H hd ho ht hx hs
   ·cases hc
    exact s_isnil (neg:=true) H hd ho ht hx hs
   ·cases hc
  ·rename_i dd x y _ _ _ ht hx hy
   split at hc
   ·rename_i lv hag hlv
    split at hc
    ·rename_i hg
     split at hc
     ·cases hc
      exact s_eqa (neg:=false) H hd ho hag hg hlv hx hy hs
     ·cases hc
      exact s_eqa (neg:=true) H hd ho hag hg hlv hx hy hs
     ·cases hc
    ·cases hc
   ·cases hc
  ·cases hc
 ·rename_i op t x ho
  obtain ⟨y,hx,rfl⟩:=Option.map_eq_some_iff.1 hc
  exact s_inv H hd ho hx hs
 ·rename_i s t x ho
  split at hc
  ·rename_i k k' x h1 h2 hx
   cases hc
   exact s_conv H hd ho h2 h1 hx hs
  ·cases hc
 ·rename_i x ho
  obtain ⟨y,hx,rfl⟩:=Option.map_eq_some_iff.1 hc
  exact s_nilc H hd ho hx hs
 ·rename_i t x f ho
  split at hc
  ·rename_i fs x ht hx
   split at hc
   ·rename_i fd hf
    split at hc
    ·rename_i sz hz
     split at hc
     ·rename_i h0
      cases hc
      exact s_fadr H hd ho ht hf rfl hz h0 hx hs
     ·cases hc
    ·cases hc
   ·cases hc
  ·cases hc
 ·rename_i t x f ho
  split at hc
  ·rename_i fs x ht hx
   split at hc
   ·rename_i fd hf
    split at hc
    ·rename_i sz agg hz hag
     split at hc
     ·rename_i h1
      cases hc
      exact s_fld H hd ho ht hf rfl hz hag h1 hx hs
     ·cases hc
    ·cases hc
   ·cases hc
  ·cases hc
 ·rename_i t x i ho
  split at hc
  ·rename_i e x i ht hx hi
   obtain ⟨sz,hz,rfl⟩:=Option.map_eq_some_iff.1 hc
   exact s_iadr H hd ho ht hz hx hi hs
  ·rename_i n e x i ht hx hi
   obtain ⟨sz,hz,rfl⟩:=Option.map_eq_some_iff.1 hc
   exact s_aadr H hd ho ht hz hx hi hs
  ·cases hc
 ·rename_i t x i ho
  split at hc
  ·rename_i n e x i ht hx hi
   split at hc
   ·rename_i sz agg hz hag
    split at hc
    ·rename_i h1
     cases hc
     exact s_idx H hd ho ht hz hag h1 hx hi hs
    ·cases hc
   ·cases hc
  ·rename_i i ht hx hi
   split at hc
   ·rename_i s
    cases hc
    exact s_sidx H hd ho ht hi hs
   ·cases hc
  ·cases hc
 ·rename_i x i ho
  obtain ⟨y,hx,rfl⟩:=Option.map_eq_some_iff.1 hc
  exact s_ext H hd ho hx hs
 ·rename_i f fi ca ho
  split at hc
  ·rename_i xs ys h1 h2
   cases hc
   exact s_mkfn H hd ho h1 h2 hs
  ·cases hc
 ·rename_i t l k ho
  split at hc
  ·rename_i e l k ht hl hk
   split at hc
   ·rename_i i zd hi hzd
    split at hc
    ·rename_i hlen
     cases hc
     have h1:=hdm rfl
     obtain ⟨cs,hzb,hds⟩:=Option.bind_eq_some_iff.1 hzd
     obtain ⟨z,hz,hcs⟩:=zero_of hi hzb
     have hds':=toDs_some hds
     obtain ⟨q1,_⟩:=cVs_cells (β:=β) (E:=Eo c.E0 β st.own) (w:=w) (arr:=z.cells) hcs
     exact s_mks H h1 (hd _ h1) ho ht hi hz rfl rfl (by rw [q1,hds'];simpa using hlen) (by rw [hcs,hds']) hl hk hs
    ·cases hc
   ·cases hc
  ·cases hc
 ·rename_i t x lo hi mx ho
  split at hc
  ·rename_i e x ht hx
   split at hc
   ·rename_i sz lo hi mx hz h1 h2 h3
    cases hc
    exact s_slc H hd ho ht hz hx h1 h2 h3 hs
   ·cases hc
  ·rename_i n e x ht hx
   split at hc
   ·rename_i sz hz
    cases hc
    simp [isCall] at hcall
   ·cases hc
  ·cases hc
 ·rename_i cl ho
  obtain ⟨callee,args,ts⟩:=cl
  unfold cCall at hc
  split at hc
  ·rename_i b hb
   simp only at hb hc
   subst hb
   unfold cBuiltin at hc
   split at hc
   ·split at hc
    ·rename_i x t ha hts
     have ha:args=#[x]:=Array.ext' ha
     have hts:ts=#[t]:=Array.ext' hts
     subst ha;subst hts
     split at hc
     ·rename_i e x ht hx
      cases hc
      exact s_len H hd ho ht hx hs
     ·rename_i n e x ht hx
      cases hc
      simp only [opR] at hs ⊢
      refine Runs.val H hd (v:=.int .i64 n) (by simp [execOp,ho,resolve,invoke,builtin,Builtin.len_,run_underlying ht,goInt]) (mk_int _ _)
     ·cases hc
    ·cases hc
   ·split at hc
    ·rename_i x y ha
     have ha:args=#[x,y]:=Array.ext' ha
     subst ha
     split at hc
     ·rename_i x y hx hy
      cases hc
      exact s_mm (mx:=true) H hd ho hx hy hs
     ·cases hc
    ·cases hc
   ·split at hc
    ·rename_i x y ha
     have ha:args=#[x,y]:=Array.ext' ha
     subst ha
     split at hc
     ·rename_i x y hx hy
      cases hc
      exact s_mm (mx:=false) H hd ho hx hy hs
     ·cases hc
    ·cases hc
   ·split at hc
    ·rename_i x y t t' ha hts
     have ha:args=#[x,y]:=Array.ext' ha
     have hts:ts=#[t,t']:=Array.ext' hts
     subst ha;subst hts
     split at hc
     ·rename_i e x y ht hx hy
      split at hc
      ·rename_i i zc hi hzb
       split at hc
       ·rename_i hh
        cases hc
        obtain ⟨rfl,hlen⟩:=hh
        have h1:=hdm rfl
        obtain ⟨z,hz,hcs⟩:=zero_of hi hzb
        obtain ⟨q1,_⟩:=cVs_cells (β:=β) (E:=Eo c.E0 β st.own) (w:=w) (arr:=z.cells) hcs
        exact s_app H h1 (hd _ h1) ho ht hi hz rfl rfl (by rw [q1];exact hlen) hx hy hs
       ·split at hc
        ·rename_i kn zd ht' hzd
         split at hc
         ·rename_i hh
          cases hc
          have h1:=hdm rfl
          obtain ⟨z,hz,hcs⟩:=zero_of hi hzb
          obtain ⟨q1,_⟩:=cVs_cells (β:=β) (E:=Eo c.E0 β st.own) (w:=w) (arr:=z.cells) hcs
          unfold toDsO at hzd
          rw [hzb,Option.bind_some] at hzd
          have hds:=toDs_some hzd
          exact s_apz H h1 (hd _ h1) ho ht ht' hi hz rfl rfl (by rw [q1,hds,List.length_map];exact hh.1) (by rw [←hds];exact hcs) hh.2 hx hy hs
         ·cases hc
        ·cases hc
      ·cases hc
     ·cases hc
    ·cases hc
   ·split at hc
    ·rename_i x t ha hts
     have ha:args=#[x]:=Array.ext' ha
     have hts:ts=#[t]:=Array.ext' hts
     subst ha;subst hts
     split at hc
     ·rename_i e x ht hx
      cases hc
      exact s_cap H hd ho ht hx hs
     ·cases hc
    ·cases hc
   ·split at hc
    ·rename_i x y t t' ha hts
     have ha:args=#[x,y]:=Array.ext' ha
     have hts:ts=#[t,t']:=Array.ext' hts
     subst ha;subst hts
     split at hc
     ·rename_i e x y ht hx hy
      obtain ⟨sz,hz,rfl⟩:=Option.map_eq_some_iff.1 hc
      exact s_cpy H hd ho ht hz hx hy hs
     ·cases hc
    ·cases hc
   ·split at hc
    ·rename_i x t ha hts
     have ha:args=#[x]:=Array.ext' ha
     have hts:ts=#[t]:=Array.ext' hts
     subst ha;subst hts
     split at hc
     ·rename_i e x ht hx
      split at hc
      ·rename_i i zc zd hi hzb hzd
       split at hc
       ·rename_i hh
        cases hc
        obtain ⟨z,hz,hcs⟩:=zero_of hi hzb
        obtain ⟨q1,_⟩:=cVs_cells (β:=β) (E:=Eo c.E0 β st.own) (w:=w) (arr:=z.cells) hcs
        unfold toDsO at hzd
        rw [hzb,Option.bind_some] at hzd
        have hds:=toDs_some hzd
        exact s_clr H hd ho ht hi hz (by rw [q1,hds,List.length_map];exact hh) (by rw [←hds];exact hcs) hx hs
       ·cases hc
      ·cases hc
     ·cases hc
    ·cases hc
   ·cases hc
  ·obtain ⟨xs,hx,rfl⟩:=Option.map_eq_some_iff.1 hc
   simp [isCall] at hcall
  ·split at hc
   ·cases hc
    simp [isCall] at hcall
   ·cases hc
  ·split at hc
   ·cases hc
    simp [isCall] at hcall
   ·cases hc
 ·rename_i t x ho
  split at hc
  ·rename_i x hx
   split at hc
   ·rename_i hb
    cases hc
    exact s_mkifc H hd ho hx (fun v=>run_mkifc hb v w) hs
   ·cases hc
  ·cases hc
 ·rename_i x xt t ok ho
  split at hc
  ·rename_i x hx
   split at hc
   ·rename_i hb
    cases hc
    exact s_tas H hd ho hx hb hs
   ·cases hc
  ·cases hc
 ·rename_i t r ho
  split at hc
  ·obtain ⟨z,hz,rfl⟩:=Option.map_eq_some_iff.1 hc
   have h1:=hdm rfl
   exact s_mkmap H h1 (hd _ h1) ho hz hs
  ·cases hc
 ·rename_i t x i ok ho
  split at hc
  ·rename_i z x i hz hx hi
   split at hc
   ·rename_i k e ht
    split at hc
    ·rename_i hh
     cases hc
     obtain ⟨rfl,hag⟩:=hh
     exact s_lkp H hd ho hz (fun k' e' ht'=>by rw [ht] at ht';cases ht';exact hag) hx hi hs
    ·split at hc
     ·rename_i hh
      cases hc
      obtain ⟨rfl,hag⟩:=hh
      exact s_lkq H hd ho hz (fun k' e' ht'=>by rw [ht] at ht';cases ht';exact hag) hx hi hs
     ·cases hc
   ·cases hc
  ·cases hc
 ·rename_i t x i v ho
  split at hc
  ·rename_i z x i v hz hx hi hv
   cases hc
   exact s_mup H (hst rfl) (.inl ho) hz hx hi hv hs
  ·cases hc
 ·rename_i t x i v ho
  split at hc
  ·rename_i z x i v hz hx hi hv
   cases hc
   exact s_mup H (hst rfl) (.inr ho) hz hx hi hv hs
  ·cases hc
 ·obtain ⟨x,hx,rfl⟩:=Option.map_eq_some_iff.1 hc
  simp [isCall] at hcall
 ·cases hc
end
end Go.Bx
end
