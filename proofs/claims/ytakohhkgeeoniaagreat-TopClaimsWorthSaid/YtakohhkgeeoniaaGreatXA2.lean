import Derived.Test.YtakohhkgeeoniaaGreatXA1
import Derived.Lib.AppendZerosOnto
set_option linter.unusedSimpArgs false
set_option linter.unusedVariables false
set_option maxHeartbeats 8000000
section
namespace Go.Bx
open Go.RowKit
theorem D7 (L:Nat→Prop) (w:World) (ob:Obj):Aw L w (w.drew.alloc ob):=
 ⟨rfl,rfl,rfl,by simp,λ_ hb _=>heap_alloc_old w.drew ob hb⟩
theorem Cu (w:World) (g:Nat) (cs:Array Value) (L:Nat→Prop) (hL:L g):Aw L w (w.setRow g cs):=
 ⟨rfl,rfl,rfl,by simp,λk _ hl=>setRow_other w g k cs (λe=>hl (e▸hL))⟩
theorem Ki {w:World} {e:TypeId} {sz:Nat} {z:Value} (hzs:z.cells.size=sz) {n m old:Nat} {xs news:List Value} (hx:xs.length=n*sz) (hl:news.length=m*sz) (hpos:0<n+m) (h63:n+m≤maxLen) :
  J2 (w.drew.alloc (.cells (xs.toArray++news.toArray++Builtin.zeroCells z.cells (grownCap w (n+m) old e-(n+m))) e)) e sz
   (.slice (some ⟨w.heap.size,0,none⟩) (n+m) (grownCap w (n+m) old e)) (n+m) (xs++news):=by
 have hge:=grownCap_ge w (n+m) old e
 have hcm:grownCap w (n+m) old e≤maxLen:=grownCap_le_maxLen w (n+m) old e h63
 have hlen:(xs++news).length=(n+m)*sz:=by rw [List.length_append,hx,hl,Nat.add_mul]
 refine ⟨hlen,.inr ⟨w.heap.size,_,_,rfl,by omega,heap_alloc_new w.drew _,hge,hcm,?_,?_⟩⟩
 ·simp only [Array.size_append,List.size_toArray,size_zeroCells,hzs,hx,hl,←Nat.add_mul]
  congr 1
  omega
 ·simp only [Array.toList_append,List.append_assoc]
  rw [←List.append_assoc,←hlen]
  exact List.take_left
section
variable {P:Program} {w:World} {t ty e:TypeId} {i:TypeInfo} {z:Value} {sz bytes:Nat}
theorem Vj (ht:P.underlying t=some (.slice e)) (hi:P.info? e=some i) {A B:Option Addr} {n cap cp:Nat} (hnc:n≤cap) :
  (Builtin.append_ #[t,t] ty #[.slice A n cap,.slice B 0 cp]).run P w=.ok (.slice A n cap) w:=by
 cases A<;>cases B<;>simp [Builtin.append_,run_underlying ht,sizeOf,typeInfo,hi,Builtin.lenOf,Builtin.firstCells,hnc,loadCells,loadCellsFrom,storeCells]
theorem Ox (ht:P.underlying t=some (.slice e)) (hi:P.info? e=some i) (hz:i.zero=some z) (hsize:i.size=sz) (hby:i.bytes=bytes) (hzs:z.cells.size=sz)
    {v:Value} {n:Nat} {xs:List Value} (hrow:J2 w e sz v n xs) {A:Option Addr} {m cp:Nat} {news:List Value} (hl:news.length=m*sz)
    (hnews:0<m→∃ ad,A=some ad∧∀ j u,news[j]?=some u→w.cell? (ad.add j)=some u) (h1:∀ u∈news,u.oneCell'=true) (h63:n+m≤maxLen) (hbytes:(n+m)*bytes≤140737488355328) :
    ∃ v' w', (Builtin.append_ #[t, t] ty #[v, .slice A m cp]).run P w = .ok v' w' ∧ J2 w' e sz v' (n + m) (xs ++ news) ∧ Aw (λb => B0 v = some b) w w' ∧
      (∀ b,B0 v'=some b→B0 v=some b∨(w.heap.size≤b∧b<w'.heap.size))∧v'.oneCell'=true:=by
  have hsmall:n+m≤9223372036854775807:=by simp only [maxLen] at h63;omega
  rcases Nat.eq_zero_or_pos m with rfl|hm
  · have hn0:news=[]:=List.eq_nil_of_length_eq_zero (by simpa using hl)
    subst hn0
    have hv:∃ B cap,v=.slice B n cap∧n≤cap:=by
      rcases hrow.2 with ⟨⟨B,rfl⟩,rfl⟩|⟨g,cap,cur,rfl,_,_,hnc,_⟩
      · exact ⟨B,0,rfl,Nat.le_refl _⟩
      · exact ⟨_,cap,rfl,hnc⟩
    obtain ⟨B,cap,rfl,hnc⟩:=hv
    exact ⟨_,w,Vj ht hi hnc,by simpa using hrow,Aw.refl _ _,λb hb=>.inl hb,rfl⟩
  · obtain ⟨ad,rfl,hcell⟩:=hnews hm
    rcases hrow.2 with ⟨⟨B,rfl⟩,rfl⟩|⟨g,cap,cur,rfl,hc0,hg,hnc,hcm,hcs,htake⟩
    · have hx:xs=[]:=List.eq_nil_of_length_eq_zero (by simpa using hrow.1)
      subst hx
      have hgr:=Ki (w:=w) (e:=e) (old:=0) hzs hrow.1 hl (by omega) h63
      simp only [Nat.zero_add,List.nil_append,Array.empty_append] at hgr
      refine ⟨.slice (some ⟨w.heap.size,0,none⟩) m (grownCap w m 0 e),_,?_,by simpa using hgr,D7 _ _ _,λb hb=>?_,rfl⟩
      · cases B with
        |none=>exact run_append_nil (P:=P) w t ty e i z ht hi hz ad m cp news (hsize▸hl) hcell hm (by omega) (by rw [hby];rw [Nat.zero_add] at hbytes;omega)
        |some b0 =>
          have hr:=run_append_grow (P:=P) w t ty e i z ht hi hz b0 0 0 [] (by simp) (by simp) ad m cp news (hsize▸hl) hcell (by omega) (by omega) (growslice_fits (by omega) (by rw [hby];exact hbytes))
          simpa using hr
      · simp only [B0] at hb
        split at hb
        · cases hb
        · simp at hb;subst hb;exact .inr ⟨Nat.le_refl _,by simp⟩
    · by_cases hroom:n+m≤cap
      · have hfit:n*i.size+news.length≤cur.size:=by rw [hl,hcs,hsize,←Nat.add_mul];exact Nat.mul_le_mul_right _ hroom
        have hr:=run_append_room (P:=P) w t ty e i ht hi g n cap cur hg ad m cp news (hsize▸hl) hcell h1 hroom hfit
        have hlen:(xs++news).length=(n+m)*sz:=by rw [List.length_append,hrow.1,hl,Nat.add_mul]
        refine ⟨_,_,hr,⟨hlen,.inr ⟨g,cap,_,rfl,hc0,setRow_heap w g cur _ e _ hg,hroom,hcm,?_,?_⟩⟩,Cu _ _ _ _ (by simp [B0];omega),λb hb=>.inl hb,rfl⟩
        · rw [hsize] at hfit ⊢
          simp only [List.size_toArray,List.length_append,List.length_take,List.length_drop,Array.length_toList]
          omega
        · rw [hsize,htake,←hlen]
          exact List.take_left
      · have holds:∀ j u,xs[j]?=some u→w.cell? ((⟨g,0,none⟩:Addr).add j)=some u:=λj u hu=>by
          rw [Cy,Nat.zero_add,cell_of_row w g j cur e (0,0) hg]
          rw [←htake,List.getElem?_take] at hu
          split at hu
          · simpa using hu
          · cases hu
        have hr:=run_append_grow (P:=P) w t ty e i z ht hi hz ⟨g,0,none⟩ n cap xs (hsize▸hrow.1) holds ad m cp news (hsize▸hl) hcell (by omega) (by omega) (growslice_fits (by omega) (by rw [hby];exact hbytes))
        refine ⟨_,_,hr,Ki (w:=w) (e:=e) (old:=cap) hzs hrow.1 hl (by omega) h63,D7 _ _ _,λb hb=>?_,rfl⟩
        simp only [B0] at hb
        split at hb
        · cases hb
        · simp at hb;subst hb;exact .inr ⟨Nat.le_refl _,by simp⟩
theorem Tw (ht:P.underlying t=some (.slice e)) (hi:P.info? e=some i) (hz:i.zero=some z) (hsize:i.size=sz) (hby:i.bytes=bytes) (hzs:z.cells.size=sz)
    {b0:Addr} {n:Nat} {xs:List Value} (hxl:xs.length=n*sz) (hxc:∀ j u,xs[j]?=some u→w.cell? (b0.add j)=some u) {ad:Addr} {m cp:Nat} {news:List Value} (hl:news.length=m*sz) (hm:0<m)
    (hcell:∀ j u,news[j]?=some u→w.cell? (ad.add j)=some u) (h63:n+m≤maxLen) (hbytes:(n+m)*bytes≤140737488355328) :
    ∃ v' w', (Builtin.append_ #[t, t] ty #[.slice (some b0) n n, .slice (some ad) m cp]).run P w = .ok v' w' ∧ J2 w' e sz v' (n + m) (xs ++ news) ∧ Aw (λ_ => False) w w' ∧
      (∀ b,B0 v'=some b→(w.heap.size≤b∧b<w'.heap.size))∧v'.oneCell'=true:=by
  have hsmall:n+m≤9223372036854775807:=by simp only [maxLen] at h63;omega
  have hr:=run_append_grow (P:=P) w t ty e i z ht hi hz b0 n n xs (hsize▸hxl) hxc ad m cp news (hsize▸hl) hcell (by omega) (by omega) (growslice_fits (by omega) (by rw [hby];exact hbytes))
  refine ⟨_,_,hr,Ki (w:=w) (e:=e) (old:=n) hzs hxl hl (by omega) h63,D7 _ _ _,λb hb=>?_,rfl⟩
  simp only [B0] at hb
  split at hb
  · cases hb
  · simp at hb;subst hb;exact ⟨Nat.le_refl _,by simp⟩
end
theorem En {E:Nat→Prop} {w:World} {v:Value} {full:Bool} {sz0 sz n:Nat} {f:Nat→List D} (h:Cg E w v (.sl full sz0 n f)) (hsz:0<n→sz0=sz) :
    ∃ (A : Option Addr) (cp : Nat) (xs : List Value), v = .slice A n cp ∧ (full = true → cp = n) ∧ n ≤ cp ∧ xs.length = n * sz ∧ (0 < n → ∃ ad, A = some ad ∧ ∀ j u, xs[j]? = some u → w.cell? (ad.add j) = some u) ∧ (∀ u ∈ xs, u.oneCell' = true) ∧
      (∀ i,i<n→(f i).length=sz)∧∀ i j,i<n→j<sz→∀ (x:D),(f i)[j]?=some x→∃ u,xs[i*sz+j]?=some u∧Cg E w u x:=by
  cases h with
  |nil _ _ _ _=>exact ⟨_,0,[],rfl,λ_=>rfl,Nat.le_refl _,by simp,λh=>by omega,by simp,λi hi=>by omega,λi j hi=>by omega⟩
  |sl _ _ _ _ b off c g hc hf hl hcell hrel =>
    rcases Nat.eq_zero_or_pos n with rfl|hn
    · exact ⟨_,c,[],rfl,hf,hc,by simp,λh=>by omega,by simp,λi hi=>by omega,λi j hi=>by omega⟩
    · have e:=hsz hn
      subst e
      have hdm:∀ x,x<n*sz0→x / sz0<n∧x % sz0<sz0:=λx hx=>by
        have hs:0<sz0:=by
          rcases Nat.eq_zero_or_pos sz0 with h|h
          · subst h;simp at hx
          · exact h
        exact ⟨Nat.div_lt_of_lt_mul (by rw [Nat.mul_comm];exact hx),Nat.mod_lt _ hs⟩
      have hel:∀ i j,i<n→j<sz0→((List.range (n*sz0)).map λx=>g (x / sz0) (x % sz0))[i*sz0+j]?=some (g i j):=λi j hi hj=>by
        have hlt:i*sz0+j<n*sz0:=by
          have:(i+1)*sz0≤n*sz0:=Nat.mul_le_mul_right _ hi
          rw [Nat.add_mul] at this;omega
        have h1:(i*sz0+j) / sz0=i:=by rw [Nat.mul_comm,Nat.mul_add_div (by omega),Nat.div_eq_of_lt hj];omega
        have h2:(i*sz0+j) % sz0=j:=by rw [Nat.mul_comm,Nat.mul_add_mod,Nat.mod_eq_of_lt hj]
        simp [hlt,h1,h2]
      refine ⟨_,c,(List.range (n*sz0)).map λx=>g (x / sz0) (x % sz0),rfl,hf,hc,by simp,λ_=>⟨_,rfl,λj u hu=>?_⟩,λu hu=>?_,hl,λi j hi hj x hx=>⟨g i j,hel i j hi hj,hrel i j hi hj x hx⟩⟩
      · have hj:j<n*sz0:=by simpa using (List.getElem?_eq_some_iff.1 hu).1
        obtain ⟨h1,h2⟩:=hdm j hj
        have:=(hcell _ _ h1 h2).2
        rw [Cy]
        have e:j / sz0*sz0+j % sz0=j:=by rw [Nat.mul_comm];exact Nat.div_add_mod j sz0
        rw [e] at this
        rw [this]
        simp [hj] at hu
        simp [hu]
      · obtain ⟨x,hx,rfl⟩:=List.mem_map.1 hu
        obtain ⟨h1,h2⟩:=hdm x (List.mem_range.1 hx)
        have h3:=hl _ h1
        have h4:(f (x / sz0))[x % sz0]?=some (f (x / sz0))[x % sz0]:=List.getElem?_eq_getElem (by omega)
        exact (hrel _ _ h1 h2 _ h4).one
theorem Fg:∀ {cs:List V} {ds:List D},toDs cs=some ds→cs=ds.map .d
 |[],ds,h=>by simp [toDs] at h;subst h;rfl
 |c::cs,ds,h=>by
  cases c<;>simp [toDs] at h
  rename_i x
  obtain ⟨ds',h1,rfl⟩:=h
  simp [Fg h1]
theorem Zh (ds:List D) (sz i j:Nat) (hj:j<sz):((ds.drop (i*sz)).take sz)[j]?=ds[i*sz+j]?:=by
 rw [List.getElem?_take,if_pos hj,List.getElem?_drop]
section
variable {c:B3} {β:A6} {st:St} {a:Act} {w:World} {o:Oper} {d:Nat}
theorem Mm (H:Aa c β st a w) {k e sz n:Nat} {cs:List V} {ds:List D} (h:own? st.own k=some (.lit e sz n cs)) (hd:toDs cs=some ds) :
    ∃ (A : Option Addr) (cp : Nat) (xs : List Value), β k = some (.slice A n cp) ∧ xs.length = n * sz ∧ (0 < n → ∃ ad, A = some ad ∧ ∀ j u, xs[j]? = some u → w.cell? (ad.add j) = some u) ∧ (∀ u ∈ xs, u.oneCell' = true) ∧
      (∀ i,i<n→((ds.drop (i*sz)).take sz).length=sz)∧∀ i j,i<n→j<sz→∀ (x:D),((ds.drop (i*sz)).take sz)[j]?=some x→∃ u,xs[i*sz+j]?=some u∧Cg (Eo c.E0 β st.own) w u x:=by
  obtain ⟨v,xs,hb,hrow,hcl,hr⟩:=Bb H h
  have hcs:=Fg hd
  have hdl:ds.length=n*sz:=by rw [←hcl,hcs];simp
  have hrd:∀ (j:Nat) (u:Value) (x:D),xs[j]?=some u→ds[j]?=some x→Cg (Eo c.E0 β st.own) w u x:=λj u x hu hx=>by
    have:=hr j u (.d x) hu (by rw [hcs];simp [hx])
    cases this with|d _ _ h=>exact h
  have hA:∃ (A:Option Addr) (cp:Nat),v=.slice A n cp∧(0<n→∃ ad,A=some ad∧∀ j u,xs[j]?=some u→w.cell? (ad.add j)=some u):=by
    rcases hrow.2 with ⟨⟨A,rfl⟩,rfl⟩|⟨g,cap,cur,rfl,hc0,hh,hnc,hcm,hcs2,htk⟩
    · exact ⟨A,0,rfl,λh=>by omega⟩
    · refine ⟨some ⟨g,0,none⟩,cap,rfl,λ_=>⟨_,rfl,λj u hu=>?_⟩⟩
      rw [Cy,Nat.zero_add,cell_of_row w g j cur e (0,0) hh]
      rw [←htk,List.getElem?_take] at hu
      split at hu
      · simpa using hu
      · cases hu
  obtain ⟨A,cp,rfl,hcell⟩:=hA
  refine ⟨A,cp,xs,hb,hrow.1,hcell,λu hu=>?_,λi hi=>?_,λi j hi hj x hx=>?_⟩
  · obtain ⟨j,hj⟩:=List.mem_iff_getElem?.1 hu
    have hj':j<xs.length:=(List.getElem?_eq_some_iff.1 hj).1
    have hjd:j<ds.length:=by rw [hdl,←hrow.1];exact hj'
    exact (hrd j u ds[j] hj (List.getElem?_eq_getElem hjd)).one
  · have:(i+1)*sz≤n*sz:=Nat.mul_le_mul_right _ hi
    rw [Nat.add_mul] at this
    simp;omega
  · rw [Zh ds sz i j hj] at hx
    have hlt:i*sz+j<xs.length:=by
      have:=(List.getElem?_eq_some_iff.1 hx).1
      rw [hrow.1,←hdl];exact this
    exact ⟨xs[i*sz+j],List.getElem?_eq_getElem hlt,hrd _ _ x (List.getElem?_eq_getElem hlt) hx⟩
theorem Uf (H:Aa c β st a w) {k e sz n:Nat} {f:Nat→List D} (h:own? st.own k=some (.row e sz n f)) :
    ∃ (A : Option Addr) (cp : Nat) (xs : List Value), β k = some (.slice A n cp) ∧ xs.length = n * sz ∧ (0 < n → ∃ ad, A = some ad ∧ ∀ j u, xs[j]? = some u → w.cell? (ad.add j) = some u) ∧ (∀ u ∈ xs, u.oneCell' = true) ∧
      (∀ i,i<n→(f i).length=sz)∧∀ i j,i<n→j<sz→∀ (x:D),(f i)[j]?=some x→∃ u,xs[i*sz+j]?=some u∧Cg (Eo c.E0 β st.own) w u x:=by
  obtain ⟨v,xs,hb,hrow,hfl,hr⟩:=Bb H h
  have hA:∃ (A:Option Addr) (cp:Nat),v=.slice A n cp∧(0<n→∃ ad,A=some ad∧∀ j u,xs[j]?=some u→w.cell? (ad.add j)=some u):=by
    rcases hrow.2 with ⟨⟨A,rfl⟩,rfl⟩|⟨g,cap,cur,rfl,hc0,hh,hnc,hcm,hcs2,htk⟩
    · exact ⟨A,0,rfl,λh=>by omega⟩
    · refine ⟨some ⟨g,0,none⟩,cap,rfl,λ_=>⟨_,rfl,λj u hu=>?_⟩⟩
      rw [Cy,Nat.zero_add,cell_of_row w g j cur e (0,0) hh]
      rw [←htk,List.getElem?_take] at hu
      split at hu
      · simpa using hu
      · cases hu
  obtain ⟨A,cp,rfl,hcell⟩:=hA
  refine ⟨A,cp,xs,hb,hrow.1,hcell,λu hu=>?_,hfl,hr⟩
  obtain ⟨j,hj⟩:=List.mem_iff_getElem?.1 hu
  have hj':j<n*sz:=by rw [←hrow.1];exact (List.getElem?_eq_some_iff.1 hj).1
  have hs:0<sz:=by
    rcases Nat.eq_zero_or_pos sz with h|h
    · subst h;simp at hj'
    · exact h
  have h1:j / sz<n:=Nat.div_lt_of_lt_mul (by rw [Nat.mul_comm];exact hj')
  have h2:j % sz<sz:=Nat.mod_lt _ hs
  have h3:=hfl _ h1
  obtain ⟨u',h4,h5⟩:=hr _ _ h1 h2 _ (List.getElem?_eq_getElem (by omega))
  have e:j / sz*sz+j % sz=j:=by rw [Nat.mul_comm];exact Nat.div_add_mod j sz
  rw [e,hj] at h4
  cases h4
  exact h5.one
theorem Z1 {β':A6} {E E':Nat→Prop} {w w':World} {e sz n m d:Nat} {f g:Nat→List D} {v':Value} {xs news:List Value} (hl:B5 E E' w w') (hk:β' d=some v') (hrow:J2 w' e sz v' (n+m) (xs++news)) (hxl:xs.length=n*sz)
  (hf:∀ i,i<n→(f i).length=sz) (hfr:∀ i j,i<n→j<sz→∀ (x:D),(f i)[j]?=some x→∃ u,xs[i*sz+j]?=some u∧Cg E w u x)
  (hg:∀ i,i<m→(g i).length=sz) (hgr:∀ i j,i<m→j<sz→∀ (x:D),(g i)[j]?=some x→∃ u,news[i*sz+j]?=some u∧Cg E w u x) :
  C9 β' E' w' d (.row e sz (n+m) (λi=>if i<n then f i else g (i-n))):=by
 refine ⟨v',_,hk,hrow,λi hi=>?_,λi j hi hj x hx=>?_⟩
 ·dsimp only
  split
  ·exact hf i ‹_›
  ·exact hg _ (by omega)
 ·dsimp only at hx
  split at hx
  ·rename_i hin
   obtain ⟨u,h1,h2⟩:=hfr i j hin hj x hx
   have hlt:=(List.getElem?_eq_some_iff.1 h1).1
   exact ⟨u,by rw [List.getElem?_append_left hlt];exact h1,h2.lasts hl⟩
  ·rename_i hin
   obtain ⟨u,h1,h2⟩:=hgr (i-n) j (by omega) hj x hx
   have hge:xs.length≤i*sz+j:=by
    rw [hxl]
    have:n*sz≤i*sz:=Nat.mul_le_mul_right _ (by omega)
    omega
   refine ⟨u,?_,h2.lasts hl⟩
   rw [List.getElem?_append_right hge,hxl]
   have:i*sz+j-n*sz=(i-n)*sz+j:=by
    rw [Nat.sub_mul]
    have:n*sz≤i*sz:=Nat.mul_le_mul_right _ (by omega)
    omega
   rw [this];exact h1
theorem R4 {sz:Nat}:∀ {m:Nat} {g:Nat→List D},(∀ i,i<m→(g i).length=sz)→(catR m g).length=m*sz
 |0,_,_=>by simp [catR]
 |m+1,g,h=>by
  rw [catR,List.length_append,List.length_map,h 0 (by omega),R4 (λi hi=>h (i+1) (by omega)),Nat.add_mul]
  omega
theorem R6 {sz:Nat}:∀ {m:Nat} {g:Nat→List D} {j:Nat} {x:V},(∀ i,i<m→(g i).length=sz)→(catR m g)[j]?=some x→∃ i q,i<m∧q<sz∧j=i*sz+q∧∃ y,(g i)[q]?=some y∧V.d y=x
 |0,_,j,x,_,h=>by simp [catR] at h
 |m+1,g,j,x,hg,h=>by
  rw [catR] at h
  by_cases hj:j<sz
  ·rw [List.getElem?_append_left (by rw [List.length_map,hg 0 (by omega)];exact hj),List.getElem?_map] at h
   obtain ⟨y,h1,h2⟩:=Option.map_eq_some_iff.1 h
   exact ⟨0,j,by omega,hj,by omega,y,h1,h2⟩
  ·rw [List.getElem?_append_right (by rw [List.length_map,hg 0 (by omega)];omega),List.length_map,hg 0 (by omega)] at h
   obtain ⟨i,q,h1,h2,h3,h4⟩:=R6 (λi hi=>hg (i+1) (by omega)) h
   exact ⟨i+1,q,by omega,h2,by rw [Nat.add_mul];omega,h4⟩
theorem T0 {β:A6} {E:Nat→Prop} {w:World}:∀ {cs:List V} {xs:List Value},M9 cs→xs.length=cs.length→(∀ (j:Nat) (u:Value) (x:V),xs[j]?=some u→cs[j]?=some x→Ai β E w u x)→∀ u∈xs,u.oneCell'=true
 |[],[],_,_,_=>λu hu=>by simp at hu
 |[],_::_,_,h,_=>by simp at h
 |_::_,[],_,h,_=>by simp at h
 |c::cs,x::xs,hc,hl,hr=>λu hu=>by
  rcases List.mem_cons.1 hu with rfl|hu
  ·exact (hr 0 _ c rfl rfl).one hc.1
  ·exact T0 hc.2 (by simpa using hl) (λj u x h1 h2=>hr (j+1) u x (by simpa using h1) (by simpa using h2)) u hu
theorem Rq (H:Aa c β st a w) {k e sz n:Nat} {cs:List V} (h:own? st.own k=some (.lit e sz n cs)) (hc:M9 cs) :
    ∃ (A : Option Addr) (cp : Nat) (xs : List Value), β k = some (.slice A n cp) ∧ xs.length = n * sz ∧ (0 < n → ∃ ad, A = some ad ∧ ∀ j u, xs[j]? = some u → w.cell? (ad.add j) = some u) ∧ (∀ u ∈ xs, u.oneCell' = true) ∧
      cs.length=n*sz∧∀ (j:Nat) (u:Value) (x:V),xs[j]?=some u→cs[j]?=some x→Ai β (Eo c.E0 β st.own) w u x:=by
  obtain ⟨v,xs,hb,hrow,hcl,hr⟩:=Bb H h
  have hA:∃ (A:Option Addr) (cp:Nat),v=.slice A n cp∧(0<n→∃ ad,A=some ad∧∀ j u,xs[j]?=some u→w.cell? (ad.add j)=some u):=by
    rcases hrow.2 with ⟨⟨A,rfl⟩,rfl⟩|⟨g,cap,cur,rfl,hc0,hh,hnc,hcm,hcs2,htk⟩
    · exact ⟨A,0,rfl,λh=>by omega⟩
    · refine ⟨some ⟨g,0,none⟩,cap,rfl,λ_=>⟨_,rfl,λj u hu=>?_⟩⟩
      rw [Cy,Nat.zero_add,cell_of_row w g j cur e (0,0) hh]
      rw [←htk,List.getElem?_take] at hu
      split at hu
      · simpa using hu
      · cases hu
  obtain ⟨A,cp,rfl,hcell⟩:=hA
  exact ⟨A,cp,xs,hb,hrow.1,hcell,T0 hc (by rw [hrow.1,hcl]) hr,hcl,hr⟩
theorem s_app (H:Aa c β st a w) (hdst:o.dst=some d) (hd:d<c.nt) {t e:TypeId} {sz bytes:Nat} {ox oy:Operand} {x y:X} (ho:o.op=.call { callee:=.builtin .append,args:=#[ox,oy],argTypes:=#[t,t] }) (ht:c.P.underlying t=some (.slice e))
  {i:TypeInfo} {z:Value} (hi:c.P.info? e=some i) (hz:i.zero=some z) (hsize:i.size=sz) (hby:i.bytes=bytes) (hzs:z.cells.size=sz) (hx:cX ox=some x) (hy:cX oy=some y)
  (hs:(opR st true d (.app e sz bytes x y)).side):As c β (st.app o.dst (opR st true d (.app e sz bytes x y))) a o w:=by
 have hrun:∀ v A m cp v' w',a.eval ox=v→a.eval oy=.slice A m cp→(Builtin.append_ #[t,t] o.type #[v,.slice A m cp]).run c.P w=.ok v' w'→(execOp a.eval o).run c.P w=.ok (.value v') w':=λv A m cp v' w' h1 h2 h3=>by
  simp [execOp,ho,resolve,invoke,builtin,h1,h2,h3]
 have own:∀ (k n:Nat) (f:Nat→List D) (A:Option Addr) (m cp:Nat) (news:List Value) (g:Nat→List D) (sd:Prop) (rd:List Nat),evV st x=.osl k→evS true st x→own? st.own k=some (.row e sz n f)→a.eval oy=.slice A m cp→d∉st.nm→(n+m)*bytes≤140737488355328→n+m≤maxLen →
   news.length=m*sz→(0<m→∃ ad,A=some ad∧∀ j u,news[j]?=some u→w.cell? (ad.add j)=some u)→(∀ u∈news,u.oneCell'=true)→(∀ i,i<m→(g i).length=sz) →
   (∀ i j,i<m→j<sz→∀ (x:D),(g i)[j]?=some x→∃ u,news[i*sz+j]?=some u∧Cg (Eo c.E0 β st.own) w u x) →
   As c β (st.app o.dst { side:=sd,val:=.osl d,upd:=[(k,none),(d,some (.row e sz (n+m) (λi=>if i<n then f i else g (i-n))))],rd:=rd }) a o w:=by
  intro k n f A m cp news g sd rd h1 hsx h2 hey hn hb h63 hnl hnc hn1 hgl hgr
  have e1:=Ad H hx hsx
  rw [h1] at e1
  obtain ⟨v,xs,hbk,hrow,hfl,hfr⟩:=Bb H h2
  have hv:a.eval ox=v:=by
   generalize a.eval ox=u at *
   cases e1 with
   |osl _ _ hb' _=>rw [hbk] at hb';injection hb' with hb';exact hb'.symm
  obtain ⟨v',w',hr,hrow',hk,hblk,hone⟩:=Ox (ty:=o.type) (cp:=cp) ht hi hz hsize hby hzs hrow hnl hnc hn1 h63 hb
  have hbe:β.blk k=B0 v:=by simp [A6.blk,hbk]
  obtain ⟨β',hβ,hbd,H'⟩:=H.replOwn (w':=w') (k0:=k) (k:=d) (val:=v') (ow:=.row e sz (n+m) (λi=>if i<n then f i else g (i-n))) (Ab (Ah h2)) hn (by rw [hbe];exact hk) (λb hb1=>by rw [hbe];exact hblk b hb1)
   (λβ' E' _ hbd hl=>Z1 hl hbd hrow' hrow.1 hfl hfr hgl hgr)
  refine ⟨v',w',β',.inl (hrun v A m cp v' w' hv hey hr),hβ,?_⟩
  rw [hdst]
  have:=H'.setV hd (.osl d v' hbd hone)
  simpa [St.app,setE,applyU,newN,hn] using this
 have full:∀ (full:Bool) (sz1 n:Nat) (f:Nat→List D) (A:Option Addr) (m cp:Nat) (news:List Value) (g:Nat→List D) (sd:Prop) (rd:List Nat),evV st x=.d (.sl full sz1 n f)→evS true st x→full=true→(0<n→sz1=sz)→a.eval oy=.slice A m cp→d∉st.nm→(n=0∨0<m)→(n+m)*bytes≤140737488355328→n+m≤maxLen →
   news.length=m*sz→(0<m→∃ ad,A=some ad∧∀ j u,news[j]?=some u→w.cell? (ad.add j)=some u)→(∀ u∈news,u.oneCell'=true)→(∀ i,i<m→(g i).length=sz) →
   (∀ i j,i<m→j<sz→∀ (x:D),(g i)[j]?=some x→∃ u,news[i*sz+j]?=some u∧Cg (Eo c.E0 β st.own) w u x) →
   As c β (st.app o.dst { side:=sd,val:=.osl d,upd:=[(d,some (.row e sz (n+m) (λi=>if i<n then f i else g (i-n))))],rd:=rd }) a o w:=by
  intro full sz1 n f A m cp news g sd rd h1 hsx hfull hsz1 hey hn hnm hb h63 hnl hnc hn1 hgl hgr
  have e1:=Ad H hx hsx
  rw [h1] at e1
  generalize a.eval ox=v at *
  cases e1 with
  |d _ _ e1 =>
  obtain ⟨B,c1,xs,rfl,hcf,hnc1,hxl,hxc,hx1,hfl,hfr⟩:=En e1 hsz1
  have:=hcf hfull
  subst this
  have key:∃ v' w',(Builtin.append_ #[t,t] o.type #[.slice B c1 c1,.slice A m cp]).run c.P w=.ok v' w'∧J2 w' e sz v' (c1+m) (xs++news)∧Aw (λ_=>False) w w' ∧
   (∀ b,B0 v'=some b→(w.heap.size≤b∧b<w'.heap.size))∧v'.oneCell'=true:=by
   rcases Nat.eq_zero_or_pos c1 with h0|hpos
   ·subst h0
    have hx0:xs=[]:=List.eq_nil_of_length_eq_zero (by simpa using hxl)
    subst hx0
    obtain ⟨v',w',hr,hrow',hk,hblk,hone⟩:=Ox (ty:=o.type) (cp:=cp) (v:=.slice B 0 0) (n:=0) (xs:=[]) ht hi hz hsize hby hzs ⟨by simp,.inl ⟨⟨B,rfl⟩,rfl⟩⟩ hnl hnc hn1 h63 hb
    have hbn:B0 (.slice B 0 0)=none:=by cases B<;>simp [B0]
    rw [hbn] at hk hblk
    exact ⟨v',w',hr,hrow',hk.mono (λb hb=>by cases hb),λb hb=>(hblk b hb).resolve_left (by simp),hone⟩
   ·have hm:0<m:=hnm.resolve_left (by omega)
    obtain ⟨b0,rfl,hb0⟩:=hxc hpos
    obtain ⟨ad,rfl,had⟩:=hnc hm
    exact Tw (ty:=o.type) ht hi hz hsize hby hzs hxl hb0 hnl hm had h63 hb
  obtain ⟨v',w',hr,hrow',hk,hblk,hone⟩:=key
  exact As.mk H hdst hd hn (hrun _ A m cp v' w' rfl hey hr) hk (λb hb1=>hblk b hb1) (λβ' E' _ hbd hl=>Z1 hl hbd hrow' hxl hfl hfr hgl hgr) (λβ' E' hbd=>.osl d v' hbd hone)
 simp only [opR] at hs ⊢
 split at hs
 ·rename_i k fl sz2 m g h1 h2
  split at hs
  ·rename_i e' sz1 n f h3
   obtain ⟨hsx,hsy,rfl,rfl,hm2,hb,h63,hn⟩:=hs
   have e2:=Ad H hy hsy
   rw [h2] at e2
   generalize a.eval oy=u at *
   cases e2 with
   |d _ _ e2 =>
    obtain ⟨A,cp,news,rfl,_,_,hnl,hnc,hn1,hgl,hgr⟩:=En e2 hm2
    exact own k n f A m cp news g _ _ h1 hsx h3 rfl hn hb h63 hnl hnc hn1 hgl hgr
  ·rename_i e' sz1 n cs h3
   obtain ⟨hsx,hsy,rfl,rfl,hm2,hb,h63,hn⟩:=hs
   have e2:=Ad H hy hsy
   rw [h2] at e2
   generalize a.eval oy=u at *
   cases e2 with
   |d _ _ e2 =>
    obtain ⟨A,cp,news,rfl,_,_,hnl,hnc,hn1,hgl,hgr⟩:=En e2 hm2
    have e1:=Ad H hx hsx
    rw [h1] at e1
    obtain ⟨v,xs,hbk,hrow,hcl,hcr⟩:=Bb H h3
    have hv:a.eval ox=v:=by
     generalize a.eval ox=u at *
     cases e1 with
     |osl _ _ hb' _=>rw [hbk] at hb';injection hb' with hb';exact hb'.symm
    obtain ⟨v',w',hr,hrow',hk,hblk,hone⟩:=Ox (ty:=o.type) (cp:=cp) ht hi hz hsize hby hzs hrow hnl hnc hn1 h63 hb
    have hbe:β.blk k=B0 v:=by simp [A6.blk,hbk]
    obtain ⟨β',hβ,hbd,H'⟩:=H.replOwn (w':=w') (k0:=k) (k:=d) (val:=v') (ow:=.lit e' sz1 (n+m) (cs++catR m g)) (Ab (Ah h3)) hn (by rw [hbe];exact hk) (λb hb1=>by rw [hbe];exact hblk b hb1)
     (λβ' E' hβ hbd hl=>⟨v',_,hbd,hrow',by rw [List.length_append,hcl,R4 hgl,Nat.add_mul],λj u x hu hx=>by
      by_cases hj:j<n*sz1
      ·rw [List.getElem?_append_left (by rw [hrow.1];exact hj)] at hu
       rw [List.getElem?_append_left (by rw [hcl];exact hj)] at hx
       exact (hcr j u x hu hx).lasts' hl hβ
      ·rw [List.getElem?_append_right (by rw [hrow.1];omega),hrow.1] at hu
       rw [List.getElem?_append_right (by rw [hcl];omega),hcl] at hx
       obtain ⟨i,q,h5,h6,h7,h8⟩:=R6 hgl hx
       obtain ⟨y,h9,rfl⟩:=h8
       obtain ⟨u',h10,h11⟩:=hgr i q h5 h6 y h9
       rw [h7,h10] at hu
       cases hu
       exact .d _ _ (h11.lasts hl)⟩)
    refine ⟨v',w',β',.inl (hrun v A m cp v' w' hv rfl hr),hβ,?_⟩
    rw [hdst]
    have:=H'.setV hd (.osl d v' hbd hone)
    simpa [St.app,setE,applyU,newN,hn] using this
  ·exact hs.elim
 ·rename_i fl sz1 n f fl2 sz2 m g h1 h2
  obtain ⟨hsx,hsy,hfull,hsz1,hm2,hb,h63,hn⟩:=hs
  have e2:=Ad H hy hsy
  rw [h2] at e2
  generalize a.eval oy=u at *
  cases e2 with
  |d _ _ e2 =>
   obtain ⟨A,cp,news,rfl,_,_,hnl,hnc,hn1,hgl,hgr⟩:=En e2 hm2
   by_cases hc:m=0∧0<n
   ·simp only [if_pos hc]
    obtain ⟨rfl,hpos⟩:=hc
    have e1:=Ad H hx hsx
    rw [h1] at e1
    generalize hv:a.eval ox=v at *
    cases e1 with
    |d _ _ e1 =>
     obtain ⟨B,c1,xs,rfl,_,hnc1,_,_,_,_,_⟩:=En e1 hsz1
     exact As.val H (λd' hd'=>by rw [hdst] at hd';cases hd';exact hd) (hrun _ A 0 cp _ _ rfl rfl (Vj ht hi hnc1)) (.d _ _ e1)
   ·simp only [if_neg hc]
    exact full fl sz1 n f A m cp news g _ _ h1 hsx hfull hsz1 rfl hn (by omega) hb h63 hnl hnc hn1 hgl hgr
 ·rename_i k k2 h1 h2
  split at hs
  ·rename_i e' sz1 n f e2' sz2 m cs h3 h4
   split at hs
   ·rename_i ds h5
    obtain ⟨hsx,hsy,hkk,rfl,rfl,rfl,hb,h63,hn⟩:=hs
    have e2:=Ad H hy hsy
    rw [h2] at e2
    obtain ⟨A,cp,news,hbk,hnl,hnc,hn1,hgl,hgr⟩:=Mm H h4 h5
    have hv:a.eval oy=.slice A m cp:=by
     generalize a.eval oy=u at *
     cases e2 with
     |osl _ _ hb' _=>rw [hbk] at hb';injection hb' with hb';exact hb'.symm
    exact own k n f A m cp news (λi=>(ds.drop (i*sz2)).take sz2) _ _ h1 hsx h3 hv hn hb h63 hnl hnc hn1 hgl hgr
   ·exact hs.elim
  ·rename_i e' sz1 n cs e2' sz2 m cs2 h3 h4
   obtain ⟨hsx,hsy,hkk,rfl,rfl,rfl,hca,hb,h63,hn⟩:=hs
   have e2:=Ad H hy hsy
   rw [h2] at e2
   obtain ⟨A,cp,news,hbk2,hnl,hnc,hn1,hnc2,hnr⟩:=Rq H h4 hca
   have hv2:a.eval oy=.slice A m cp:=by
    generalize a.eval oy=u at *
    cases e2 with
    |osl _ _ hb' _=>rw [hbk2] at hb';injection hb' with hb';exact hb'.symm
   have e1:=Ad H hx hsx
   rw [h1] at e1
   obtain ⟨v,xs,hbk,hrow,hcl,hcr⟩:=Bb H h3
   have hv:a.eval ox=v:=by
    generalize a.eval ox=u at *
    cases e1 with
    |osl _ _ hb' _=>rw [hbk] at hb';injection hb' with hb';exact hb'.symm
   obtain ⟨v',w',hr,hrow',hk,hblk,hone⟩:=Ox (ty:=o.type) (cp:=cp) ht hi hz hsize hby hzs hrow hnl hnc hn1 h63 hb
   have hbe:β.blk k=B0 v:=by simp [A6.blk,hbk]
   obtain ⟨β',hβ,hbd,H'⟩:=H.replOwn (w':=w') (k0:=k) (k:=d) (val:=v') (ow:=.lit e' sz2 (n+m) (cs++cs2)) (Ab (Ah h3)) hn (by rw [hbe];exact hk) (λb hb1=>by rw [hbe];exact hblk b hb1)
    (λβ' E' hβ hbd hl=>⟨v',_,hbd,hrow',by rw [List.length_append,hcl,hnc2,Nat.add_mul],λj u x hu hx=>by
     by_cases hj:j<n*sz2
     ·rw [List.getElem?_append_left (by rw [hrow.1];exact hj)] at hu
      rw [List.getElem?_append_left (by rw [hcl];exact hj)] at hx
      exact (hcr j u x hu hx).lasts' hl hβ
     ·rw [List.getElem?_append_right (by rw [hrow.1];omega),hrow.1] at hu
      rw [List.getElem?_append_right (by rw [hcl];omega),hcl] at hx
      exact (hnr _ u x hu hx).lasts' hl hβ⟩)
   refine ⟨v',w',β',.inl (hrun v A m cp v' w' hv hv2 hr),hβ,?_⟩
   rw [hdst]
   have:=H'.setV hd (.osl d v' hbd hone)
   simpa [St.app,setE,applyU,newN,hn] using this
  ·exact hs.elim
 ·rename_i fl sz1 n f k2 h1 h2
  split at hs
  ·rename_i e2' sz2 m cs h4
   split at hs
   ·rename_i ds h5
    obtain ⟨hsx,hsy,hfull,hsz1,rfl,hm,hb,h63,hn⟩:=hs
    have e2:=Ad H hy hsy
    rw [h2] at e2
    obtain ⟨A,cp,news,hbk,hnl,hnc,hn1,hgl,hgr⟩:=Mm H h4 h5
    have hv:a.eval oy=.slice A m cp:=by
     generalize a.eval oy=u at *
     cases e2 with
     |osl _ _ hb' _=>rw [hbk] at hb';injection hb' with hb';exact hb'.symm
    exact full fl sz1 n f A m cp news (λi=>(ds.drop (i*sz2)).take sz2) _ _ h1 hsx hfull hsz1 hv hn (.inr hm) hb h63 hnl hnc hn1 hgl hgr
   ·exact hs.elim
  ·rename_i e2' sz2 m g h4
   obtain ⟨hsx,hsy,hfull,hsz1,rfl,hm,hb,h63,hn⟩:=hs
   have e2:=Ad H hy hsy
   rw [h2] at e2
   obtain ⟨A,cp,news,hbk,hnl,hnc,hn1,hgl,hgr⟩:=Uf H h4
   have hv:a.eval oy=.slice A m cp:=by
    generalize a.eval oy=u at *
    cases e2 with
    |osl _ _ hb' _=>rw [hbk] at hb';injection hb' with hb';exact hb'.symm
   exact full fl sz1 n f A m cp news g _ _ h1 hsx hfull hsz1 hv hn hm hb h63 hnl hnc hn1 hgl hgr
  ·exact hs.elim
 ·exact hs.elim
end
end Go.Bx
end
section
namespace Go.Bx
open Go.RowKit
theorem J3 {β:A6} {E:Nat→Prop} {w:World} {v:Value} {x:D} (h:Ai β E w v (.d x)):Cg E w v x:=by
 cases h with|d _ _ h=>exact h
theorem I7:∀ (l:List V) (n:Nat) (ys:List V),(putV l n ys).length=l.length
 |[],n,ys=>by cases n<;>cases ys<;>simp [putV]
 |v::l,0,[]=>by simp [putV]
 |v::l,n+1,[]=>by simp [putV]
 |v::l,0,y::ys=>by simp [putV,I7 l 0 ys]
 |v::l,n+1,y::ys=>by simp [putV,I7 l n (y::ys)]
theorem Fm:∀ (l:List V) (n:Nat) (ys:List V) (j:Nat),(putV l n ys)[j]?=if n≤j∧j<n+ys.length∧j<l.length then ys[j-n]? else l[j]?
 |[],n,ys,j=>by cases n<;>cases ys<;>simp [putV]
 |v::l,0,[],j=>by simp [putV]
 |v::l,n+1,[],j=>by
  simp only [putV,List.length_nil,Nat.add_zero]
  rw [if_neg (by omega)]
 |v::l,0,y::ys,j=>by
  cases j with
  |zero=>simp [putV]
  |succ j =>
   simp only [putV,List.getElem?_cons_succ,Fm l 0 ys j,List.length_cons]
   by_cases h:j<ys.length∧j<l.length
   ·rw [if_pos (by omega),if_pos (by omega)];simp
   ·rw [if_neg (by omega),if_neg (by omega)]
 |v::l,n+1,y::ys,j=>by
  cases j with
  |zero=>simp [putV]
  |succ j =>
   simp only [putV,List.getElem?_cons_succ,Fm l n (y::ys) j,List.length_cons]
   by_cases h:n≤j∧j<n+(ys.length+1)∧j<l.length
   ·rw [if_pos h,if_pos (by omega)];congr 1;omega
   ·rw [if_neg h,if_neg (by omega)]
theorem Ps:∀ (l:List D) (n:Nat) (ys:List D),(Db l n ys).length=l.length
 |[],n,ys=>by cases n<;>cases ys<;>simp [Db]
 |v::l,0,[]=>by simp [Db]
 |v::l,n+1,[]=>by simp [Db]
 |v::l,0,y::ys=>by simp [Db,Ps l 0 ys]
 |v::l,n+1,y::ys=>by simp [Db,Ps l n (y::ys)]
theorem Pc:∀ (l:List D) (n:Nat) (ys:List D) (j:Nat),(Db l n ys)[j]?=if n≤j∧j<n+ys.length∧j<l.length then ys[j-n]? else l[j]?
 |[],n,ys,j=>by cases n<;>cases ys<;>simp [Db]
 |v::l,0,[],j=>by simp [Db]
 |v::l,n+1,[],j=>by
  simp only [Db,List.length_nil,Nat.add_zero]
  rw [if_neg (by omega)]
 |v::l,0,y::ys,j=>by
  cases j with
  |zero=>simp [Db]
  |succ j =>
   simp only [Db,List.getElem?_cons_succ,Pc l 0 ys j,List.length_cons]
   by_cases h:j<ys.length∧j<l.length
   ·rw [if_pos (by omega),if_pos (by omega)];simp
   ·rw [if_neg (by omega),if_neg (by omega)]
 |v::l,n+1,y::ys,j=>by
  cases j with
  |zero=>simp [Db]
  |succ j =>
   simp only [Db,List.getElem?_cons_succ,Pc l n (y::ys) j,List.length_cons]
   by_cases h:n≤j∧j<n+(ys.length+1)∧j<l.length
   ·rw [if_pos h,if_pos (by omega)];congr 1;omega
   ·rw [if_neg h,if_neg (by omega)]
def Ds (cur:Array Value) (o:Nat) (vs:List Value):Array Value:=(cur.toList.take o++vs++cur.toList.drop (o+vs.length)).toArray
theorem Di {cur:Array Value} {o:Nat} {vs:List Value} (h:o+vs.length≤cur.size):(Ds cur o vs).size=cur.size:=by
 simp [Ds];omega
theorem Hb {cur:Array Value} {o:Nat} {vs:List Value} (h:o+vs.length≤cur.size) (j:Nat) :
  (Ds cur o vs)[j]?=if o≤j∧j<o+vs.length then vs[j-o]? else cur[j]?:=by
 simp only [Ds,List.getElem?_toArray]
 by_cases h1:j<o
 ·rw [if_neg (by omega),List.append_assoc,List.getElem?_append_left (by simp;omega),List.getElem?_take,if_pos h1];simp
 ·by_cases h2:j<o+vs.length
  ·rw [if_pos (by omega),List.getElem?_append_left (by simp;omega),List.getElem?_append_right (by simp;omega)]
   congr 1;simp;omega
  ·rw [if_neg (by omega),List.getElem?_append_right (by simp;omega),List.getElem?_drop]
   simp only [List.length_append,List.length_take,Array.length_toList]
   rw [show o+vs.length+(j-(min o cur.size+vs.length))=j by omega]
   simp
section
variable {c:B3} {β:A6} {st:St} {a:Act} {w:World} {o:Oper} {d:Nat}
theorem Ju {P:Program} {w:World} {t e:TypeId} {sz b off:Nat} (hz:Hm P t=some sz) {v:Value} (hv:v.cells.size=sz) {cur:Array Value} (hh:w.heap[b]?=some (.cells cur e (0,0))) (hlt:off+sz≤cur.size) (h1:∀ u,u∈v.cells.toList→u.oneCell'=true) :
  (Instr.storeAt t (.pointer (some ⟨b,off,none⟩)) v).run P w=.ok () (w.setRow b (Ds cur off v.cells.toList)):=by
 obtain ⟨i,hi,hi2⟩:=Option.map_eq_some_iff.1 hz
 have hst:=run_storeCells_at P b off e v.cells.toList 0 cur w hh (by simp;omega) h1
 simp only [Nat.add_zero] at hst
 simp [Instr.storeAt,Instr.sureAddr,storeVar,sizeOf,typeInfo,hi,hi2,hv,hst,Ds]
theorem As.upd (H:Aa c β st a w) (hdst:o.dst=none) {k b:Nat} {ow:Own} {sd:Prop} {rd:List Nat} {w':World} (hkk:k∈keysO st.own) (hb:β.blk k=some b)
  (hr:(execOp a.eval o).run c.P w=.ok .skip w') (hk:Aw (λx=>x=b) w w') (ho:∀ E',B5 (Eo c.E0 β st.own) E' w w'→E'=Eo c.E0 β st.own→C9 β E' w' k ow) :
  As c β (st.app o.dst { side:=sd,val:=.un,upd:=[(k,some ow)],rd:=rd }) a o w:=by
 refine ⟨undef,w',β,.inr ⟨hr,rfl⟩,A6.le.refl β,?_⟩
 have:=H.updOwn hkk (hk.mono (λx e=>by rw [e,hb])) ho
 rw [hdst]
 simpa [St.app,setE,applyU,newN,H.kn k hkk,Act.put] using this
theorem ta (H:Aa c β st a w) (hdst:o.dst=none) {sz:Nat} {t:TypeId} {ox oy:Operand} {x y:X} (ho:o.op=.store t ox oy) (hz:Hm c.P t=some sz) (hx:cX ox=some x) (hy:cX oy=some y)
  (hs:(opR st true d (.store sz x y)).side):As c β (st.app o.dst (opR st true d (.store sz x y))) a o w:=by
 simp only [opR] at hs ⊢
 have hexec:∀ w',(Instr.storeAt t (a.eval ox) (a.eval oy)).run c.P w=.ok () w'→(execOp a.eval o).run c.P w=.ok .skip w':=λw' h=>by simp [execOp,ho,h]
 split at hs
 ·rename_i k off ys h1 h2
  split at hs
  ·rename_i cs h3
   obtain ⟨hsx,hsy,rfl,hlt⟩:=hs
   have e1:=Ad H hx hsx
   have e2:=Ad H hy hsy
   rw [h1] at e1
   obtain ⟨g1,g2,g3⟩:=e2.cells h2
   obtain ⟨b,arr,e,hb,hh,hsz,hr⟩:=Bb H h3
   generalize a.eval ox=u at *
   cases e1 with
   |own _ _ b' hb' =>
    rw [hb] at hb'
    injection hb' with hb';injection hb' with hb';injection hb' with hb';injection hb' with hb'
    subst hb'
    have hle:off+(a.eval oy).cells.toList.length≤arr.size:=by simp [g1,hsz];omega
    have hrun:=Ju (P:=c.P) (t:=t) (off:=off) hz g1 hh (by omega) g3
    refine As.upd H hdst (b:=b) (Ab (Ah h3)) (by simp [A6.blk,hb,B0]) (hexec _ hrun) (Cu _ _ _ _ rfl) (λE' hl hE=>?_)
    refine ⟨b,_,e,hb,setRow_heap w b arr _ e _ hh,by rw [Di hle,I7,hsz],λj v x hv hx=>?_⟩
    rw [Hb hle] at hv
    rw [Fm] at hx
    simp only [Array.length_toList,g1] at hv
    by_cases hj:off≤j∧j<off+ys.length
    ·rw [if_pos hj] at hv
     rw [if_pos (by omega)] at hx
     exact (g2 _ v x (by simpa using hv) hx).lasts' hl (A6.le.refl β)
    ·rw [if_neg hj] at hv
     rw [if_neg (by omega)] at hx
     exact (hr j v x hv hx).lasts' hl (A6.le.refl β)
  ·exact hs.elim
 ·rename_i k sz' i off ys h1 h2
  split at hs
  ·rename_i e0 sz2 n f ds h3 h4
   obtain ⟨hsx,hsy,rfl,rfl,hin,hlt⟩:=hs
   have e1:=Ad H hx hsx
   have e2:=Ad H hy hsy
   rw [h1] at e1
   obtain ⟨g1,g2,g3⟩:=e2.cells h2
   obtain ⟨v0,xs,hb,hrow,hfl,hfr⟩:=Bb H h3
   have hds:=Fg h4
   have hdl:ds.length=ys.length:=by rw [hds];simp
   generalize a.eval ox=u at *
   cases e1 with
   |optr _ _ _ _ b m cp hb' =>
    rw [hb] at hb'
    injection hb' with hb'
    subst hb'
    obtain ⟨hxl,hrow⟩:=hrow
    rcases hrow with ⟨_,hn0⟩|⟨g,cap,cur,hv,hc0,hh,hnc,hcm,hcs,htk⟩
    ·omega
    ·injection hv with hv1 hv2 hv3
     injection hv1 with hv1;injection hv1 with hv1
     subst hv1;subst hv2;subst hv3
     have hin':i*sz'+off+ys.length≤m*sz':=by
      have:(i+1)*sz'≤m*sz':=Nat.mul_le_mul_right _ hin
      rw [Nat.add_mul] at this;omega
     have hcap:m*sz'≤cp*sz':=Nat.mul_le_mul_right _ hnc
     have hle:i*sz'+off+(a.eval oy).cells.toList.length≤cur.size:=by simp [g1,hcs];omega
     have hrun:=Ju (P:=c.P) (t:=t) (off:=i*sz'+off) hz g1 hh (by omega) g3
     refine As.upd H hdst (b:=b) (Ab (Ah h3)) (by simp [A6.blk,hb,B0];omega) (hexec _ hrun) (Cu _ _ _ _ rfl) (λE' hl hE=>?_)
     refine ⟨_,(Ds cur (i*sz'+off) (a.eval oy).cells.toList).toList.take (m*sz'),hb,⟨by rw [List.length_take,Array.length_toList,Di hle,hcs];omega,.inr ⟨b,cp,_,rfl,hc0,setRow_heap w b cur _ _ _ hh,hnc,hcm,by rw [Di hle,hcs],rfl⟩⟩,λi' hi'=>?_,λi' j hi' hj x hx=>?_⟩
     ·dsimp only
      split
      ·rename_i e;subst e;rw [Ps];exact hfl _ hi'
      ·exact hfl _ hi'
     ·have hidx:i'*sz'+j<m*sz':=by
       have:(i'+1)*sz'≤m*sz':=Nat.mul_le_mul_right _ hi'
       rw [Nat.add_mul] at this;omega
      rw [List.getElem?_take,if_pos hidx]
      have hget:=Hb hle (i'*sz'+j)
      simp only [Array.length_toList,g1] at hget
      rw [Array.getElem?_toList,hget]
      have hxs:cur[i'*sz'+j]?=xs[i'*sz'+j]?:=by rw [←htk,List.getElem?_take,if_pos hidx];simp
      dsimp only at hx
      split at hx
      ·rename_i e
       subst e
       rw [Pc] at hx
       by_cases hj2:off≤j∧j<off+ys.length
       ·rw [if_pos (by omega)]
        rw [if_pos (by rw [hdl,hfl _ hi'];omega)] at hx
        have hlt3:j-off<(a.eval oy).cells.size:=by omega
        have hu:(a.eval oy).cells[j-off]?=some (a.eval oy).cells[j-off]:=Array.getElem?_eq_getElem hlt3
        have:=g2 (j-off) _ (.d x) hu (by rw [hds];simp [hx])
        refine ⟨(a.eval oy).cells[j-off],?_,(J3 this).lasts hl⟩
        rw [show i'*sz'+j-(i'*sz'+off)=j-off by omega,Array.getElem?_toList];exact hu
       ·rw [if_neg (by omega),hxs]
        rw [if_neg (by omega)] at hx
        obtain ⟨u,q1,q2⟩:=hfr i' j hi' hj x hx
        exact ⟨u,q1,q2.lasts hl⟩
      ·rename_i e
       have:¬ (i*sz'+off≤i'*sz'+j∧i'*sz'+j<i*sz'+off+ys.length):=by
        intro ⟨q1,q2⟩
        rcases Nat.lt_or_gt_of_ne e with q|q
        ·have:(i'+1)*sz'≤i*sz':=Nat.mul_le_mul_right _ q
         rw [Nat.add_mul] at this;omega
        ·have:(i+1)*sz'≤i'*sz':=Nat.mul_le_mul_right _ q
         rw [Nat.add_mul] at this;omega
       rw [if_neg this,hxs]
       obtain ⟨u,q1,q2⟩:=hfr i' j hi' hj x hx
       exact ⟨u,q1,q2.lasts hl⟩
  ·rename_i e0 sz2 n cs h3
   obtain ⟨hsx,hsy,rfl,rfl,hin,hlt⟩:=hs
   have e1:=Ad H hx hsx
   have e2:=Ad H hy hsy
   rw [h1] at e1
   obtain ⟨g1,g2,g3⟩:=e2.cells h2
   obtain ⟨v0,xs,hb,hrow,hcl,hr⟩:=Bb H h3
   generalize a.eval ox=u at *
   cases e1 with
   |optr _ _ _ _ b m cp hb' =>
    rw [hb] at hb'
    injection hb' with hb'
    subst hb'
    obtain ⟨hxl,hrow⟩:=hrow
    rcases hrow with ⟨_,hn0⟩|⟨g,cap,cur,hv,hc0,hh,hnc,hcm,hcs,htk⟩
    ·omega
    injection hv with hv1 hv2 hv3
    injection hv1 with hv1;injection hv1 with hv1
    subst hv1;subst hv2;subst hv3
    have hin':i*sz'+off+ys.length≤m*sz':=by
     have:(i+1)*sz'≤m*sz':=Nat.mul_le_mul_right _ hin
     rw [Nat.add_mul] at this;omega
    have hcap:m*sz'≤cp*sz':=Nat.mul_le_mul_right _ hnc
    have hle:i*sz'+off+(a.eval oy).cells.toList.length≤cur.size:=by simp [g1,hcs];omega
    have hrun:=Ju (P:=c.P) (t:=t) (off:=i*sz'+off) hz g1 hh (by omega) g3
    refine As.upd H hdst (b:=b) (Ab (Ah h3)) (by simp [A6.blk,hb,B0];omega) (hexec _ hrun) (Cu _ _ _ _ rfl) (λE' hl hE=>?_)
    refine ⟨_,(Ds cur (i*sz'+off) (a.eval oy).cells.toList).toList.take (m*sz'),hb,⟨by rw [List.length_take,Array.length_toList,Di hle,hcs];omega,.inr ⟨b,cp,_,rfl,hc0,setRow_heap w b cur _ _ _ hh,hnc,hcm,by rw [Di hle,hcs],rfl⟩⟩,by rw [I7,hcl],λj v x hv hx=>?_⟩
    rw [List.getElem?_take] at hv
    split at hv
    ·rename_i hjm
     rw [Array.getElem?_toList,Hb hle] at hv
     rw [Fm] at hx
     simp only [Array.length_toList,g1] at hv
     by_cases hj:i*sz'+off≤j∧j<i*sz'+off+ys.length
     ·rw [if_pos hj] at hv
      rw [if_pos (by omega)] at hx
      exact (g2 _ v x (by simpa using hv) hx).lasts' hl (A6.le.refl β)
     ·rw [if_neg hj] at hv
      rw [if_neg (by omega)] at hx
      refine (hr j v x ?_ hx).lasts' hl (A6.le.refl β)
      rw [←htk,List.getElem?_take,if_pos hjm];simpa using hv
    ·cases hv
  ·exact hs.elim
 ·exact hs.elim
theorem s_mks (H:Aa c β st a w) (hdst:o.dst=some d) (hd:d<c.nt) {t e:TypeId} {sz bytes:Nat} {zd:List D} {ol oc:Operand} {l cc:X} (ho:o.op=.makeSlice t ol oc) (ht:c.P.underlying t=some (.slice e))
  {i:TypeInfo} {z:Value} (hi:c.P.info? e=some i) (hz:i.zero=some z) (hsize:i.size=sz) (hby:i.bytes=bytes) (hzs:z.cells.size=sz) (hzd:gk z.cells.toList=some (zd.map .d)) (hl:cX ol=some l) (hc:cX oc=some cc)
  (hs:(opR st true d (.mks e sz bytes zd l cc)).side):As c β (st.app o.dst (opR st true d (.mks e sz bytes zd l cc))) a o w:=by
 simp only [opR] at hs ⊢
 split at hs
 ·rename_i kl m kc n h1 h2
  obtain ⟨hsl,hsc,h0,hmn,hb,h63,hn⟩:=hs
  have e1:=Ad H hl hsl
  have e2:=Ad H hc hsc
  rw [h1] at e1
  rw [h2] at e2
  have e1:=Be e1
  have e2:=Be e2
  have hbb:(i.bytes:Int)*n≤281474976710656:=by
   rw [hby]
   have:((n.toNat*bytes:Nat):Int)≤281474976710656:=by omega
   rw [Int.natCast_mul,Int.toNat_of_nonneg (by omega),Int.mul_comm] at this
   exact this
  have hr:=run_make (P:=c.P) w t e i z ht hi hz kl kc m n h0 hmn hbb h63
  refine As.mk H hdst hd hn (v:=.slice (some ⟨w.heap.size,0,none⟩) m.toNat n.toNat) (w':=w.alloc (.cells (madeCells z.cells (n.toNat*i.size)) e)) (E7 (s:=Instr.makeSlice t (a.eval ol) (a.eval oc)) (by simp only [execOp,ho]) (by rw [e1,e2];exact hr)) (Df _ _) (λb hb=>?_) (λβ' E' hβ hk hl=>?_) (λβ' E' hk=>.osl _ _ hk rfl)
  ·simp only [B0] at hb
   split at hb
   ·cases hb
   ·simp at hb;subst hb;exact ⟨Nat.le_refl _,by simp⟩
  ·obtain ⟨q1,q2⟩:=Cw (β:=β') (E:=E') (w:=w.alloc (.cells (madeCells z.cells (n.toNat*i.size)) e)) (arr:=z.cells) hzd
   have hzl:zd.length=sz:=by rw [←hzs,q1];simp
   have hcur:∀ i' j,i'<n.toNat→j<sz→(madeCells z.cells (n.toNat*i.size))[i'*sz+j]?=z.cells[j]?:=λi' j hi' hj=>by
    have hlt:i'*sz+j<n.toNat*sz:=by
     have:(i'+1)*sz≤n.toNat*sz:=Nat.mul_le_mul_right _ hi'
     rw [Nat.add_mul] at this;omega
    have hm:(i'*sz+j) % sz=j:=by rw [Nat.mul_comm,Nat.mul_add_mod,Nat.mod_eq_of_lt hj]
    have hjz:j<z.cells.size:=by omega
    rw [Array.getElem?_eq_getElem hjz]
    simp [madeCells,hsize,hlt,hzs,hm,getElem!_pos z.cells j hjz]
   by_cases hn0:n.toNat=0
   ·have hm0:m.toNat=0:=by omega
    rw [hn0,hm0] at hk
    refine ⟨_,[],hk,⟨by simp [hm0],.inl ⟨⟨_,rfl⟩,hm0⟩⟩,λi' hi'=>by omega,λi' j hi'=>by omega⟩
   ·refine ⟨_,(madeCells z.cells (n.toNat*i.size)).toList.take (m.toNat*sz),hk,⟨?_,.inr ⟨w.heap.size,n.toNat,_,rfl,by omega,heap_alloc_new w _,by omega,by unfold maxLen;omega,by rw [size_madeCells,hsize],rfl⟩⟩,λi' hi'=>hzl,λi' j hi' hj x hx=>?_⟩
    ·have:m.toNat*sz≤n.toNat*sz:=Nat.mul_le_mul_right _ (by omega)
     rw [List.length_take,Array.length_toList,size_madeCells,hsize];omega
    ·have hlt:i'*sz+j<m.toNat*sz:=by
      have:(i'+1)*sz≤m.toNat*sz:=Nat.mul_le_mul_right _ hi'
      rw [Nat.add_mul] at this;omega
     have hjz:j<z.cells.size:=by omega
     refine ⟨z.cells[j],?_,?_⟩
     ·rw [List.getElem?_take,if_pos hlt,Array.getElem?_toList,hcur i' j (by omega) hj]
      exact Array.getElem?_eq_getElem hjz
     ·exact J3 (q2 j z.cells[j] (.d x) (Array.getElem?_eq_getElem hjz) (by simp [hx]))
 ·exact hs.elim
theorem s_slc (H:Aa c β st a w) (hd:∀ d,o.dst=some d→d<c.nt) {t e:TypeId} {sz:Nat} {ox:Operand} {x:X} {lo hi mx:Option Operand} {xlo xhi xmx:Option X} (ho:o.op=.slice t ox lo hi mx) (ht:c.P.underlying t=some (.slice e)) (hz:Hm c.P e=some sz) (hx:cX ox=some x)
  (hlo:ln lo=some xlo) (hhi:ln hi=some xhi) (hmx:ln mx=some xmx)
  (hs:(opR st true d (.slc sz x xlo xhi xmx)).side):As c β (st.app o.dst (opR st true d (.slc sz x xlo xhi xmx))) a o w:=by
 have hopt:∀ (q:Option Operand) (y:X),ln q=some (some y)→∃ r,q=some r∧cX r=some y:=λq y h=>by
  cases q with
  |none=>simp [ln] at h
  |some r=>simp [ln] at h;exact ⟨r,rfl,h⟩
 have hnone:∀ (q:Option Operand),ln q=some none→q=none:=λq h=>by
  cases q with
  |none=>rfl
  |some r=>simp [ln] at h
 obtain ⟨ii,hii,hii2⟩:=Option.map_eq_some_iff.1 hz
 have hszr:(sizeOf e).run c.P w=.ok sz w:=by simp [sizeOf,typeInfo,hii,hii2]
 have hexec:∀ v,(Instr.slice t (a.eval ox) (lo.map a.eval) (hi.map a.eval) (mx.map a.eval)).run c.P w=.ok v w→(execOp a.eval o).run c.P w=.ok (.value v) w:=λv h=>by
  simp [execOp,ho,Instr.sliceAt,run_underlying ht,h]
 simp only [opR] at hs ⊢
 split at hs
 ·rename_i fl sz' n f kb bb h1 h2 h3 h4
  cases xlo with
  |some _=>simp at h2
  |none =>
  cases xmx with
  |some _=>simp at h4
  |none =>
  obtain ⟨yh,rfl,h3'⟩:=Option.map_eq_some_iff.1 h3
  obtain ⟨hsx,hb0,hbn,hszz,hsh⟩:=hs
  obtain ⟨rh,rfl,hrh⟩:=hopt hi yh hhi
  have:=hnone lo hlo
  subst this
  have:=hnone mx hmx
  subst this
  have e1:=Ad H hx hsx
  rw [h1] at e1
  have e2:=Ad H hrh (hsh yh rfl)
  rw [h3'] at e2
  have e2:=Be e2
  cases hu:a.eval ox<;>rw [hu] at e1<;>(try (cases e1 with|d _ _ e1=>cases e1;done))
  rename_i A nn cp
  cases e1 with
  |d _ _ e1 =>
   have hcp:nn=n∧n≤cp:=by cases e1<;>simp_all
   obtain ⟨rfl,hcp⟩:=hcp
   refine As.val H hd (v:=.slice (if cp=0 then A else A.map (·.add (0*sz))) (bb.toNat-0) (cp-0)) (hexec _ ?_) ?_
   ·have:bb≤(cp:Int):=by omega
    simp [hu,Instr.slice,run_underlying ht,Instr.sliceBounds,Instr.sliceBound,asIntOf,e2,hb0,this,hszr]
   ·have hA:(if cp=0 then A else A.map (·.add (0*sz)))=A:=by
     split
     ·rfl
     ·cases A<;>simp [Addr.add]
    rw [hA,Nat.sub_zero,Nat.sub_zero]
    refine .d _ _ ?_
    cases e1 with
    |nil _ _ _ _ =>
     have:bb.toNat=0:=by omega
     rw [this]
     exact .nil _ _ _ _
    |sl _ _ _ _ b off _ g hc hf hl hcell hrel =>
     rcases Nat.eq_zero_or_pos nn with h0|h0
     ·have hb:bb.toNat=0:=by omega
      rw [hb]
      refine .sl _ _ _ _ b off cp g (by omega) (λh=>?_) (λi hi=>by omega) (λi j hi=>by omega) (λi j hi=>by omega)
      simp only [Bool.and_eq_true] at h
      have:=hf h.1;omega
     ·have:=hszz h0
      subst this
      refine .sl _ _ _ _ b off cp g (by omega) (λh=>?_) (λi hi=>hl i (by omega)) (λi j hi hj=>hcell i j (by omega) hj) (λi j hi hj=>hrel i j (by omega) hj)
      simp only [Bool.and_eq_true,decide_eq_true_eq] at h
      have:=hf h.1;omega
 ·rename_i fl sz' n f kb bb km m h1 h2 h3 h4
  cases xlo with
  |some _=>simp at h2
  |none =>
  obtain ⟨yh,rfl,h3'⟩:=Option.map_eq_some_iff.1 h3
  obtain ⟨ym,rfl,h4'⟩:=Option.map_eq_some_iff.1 h4
  obtain ⟨hsx,hb0,rfl,hbn,rfl,hsh,hsm⟩:=hs
  obtain ⟨rh,rfl,hrh⟩:=hopt hi yh hhi
  obtain ⟨rm,rfl,hrm⟩:=hopt mx ym hmx
  have:=hnone lo hlo
  subst this
  have e1:=Ad H hx hsx
  rw [h1] at e1
  have e2:=Ad H hrh (hsh yh rfl)
  rw [h3'] at e2
  have e2:=Be e2
  have e3:=Ad H hrm (hsm ym rfl)
  rw [h4'] at e3
  have e3:=Be e3
  cases hu:a.eval ox<;>rw [hu] at e1<;>(try (cases e1 with|d _ _ e1=>cases e1;done))
  rename_i A nn cp
  cases e1 with
  |d _ _ e1 =>
   have hcp:nn=n∧n≤cp:=by cases e1<;>simp_all
   obtain ⟨rfl,hcp⟩:=hcp
   refine As.val H hd (v:=.slice (if bb.toNat=0 then A else A.map (·.add (0*sz))) (bb.toNat-0) (bb.toNat-0)) (hexec _ ?_) ?_
   ·have h5:bb≤(cp:Int):=by omega
    have h6:((bb.toNat:Nat):Int)=bb:=by omega
    simp [hu,Instr.slice,run_underlying ht,Instr.sliceBounds,Instr.sliceBound,asIntOf,e2,e3,hb0,h5,h6,hszr]
   ·have hA:(if bb.toNat=0 then A else A.map (·.add (0*sz)))=A:=by
     split
     ·rfl
     ·cases A<;>simp [Addr.add]
    rw [hA,Nat.sub_zero]
    refine .d _ _ ?_
    cases e1 with
    |nil _ _ _ _ =>
     have:bb.toNat=0:=by omega
     rw [this]
     exact .nil _ _ _ _
    |sl _ _ _ _ b off _ g hc hf hl hcell hrel =>
     exact .sl _ _ _ _ b off _ g (Nat.le_refl _) (λ_=>rfl) (λi hi=>hl i (by omega)) (λi j hi hj=>hcell i j (by omega) hj) (λi j hi hj=>hrel i j (by omega) hj)
 ·rename_i fl sz' n f ka aa h1 h2 h3 h4
  cases xhi with
  |some _=>simp at h3
  |none =>
  cases xmx with
  |some _=>simp at h4
  |none =>
  obtain ⟨yl,rfl,h2'⟩:=Option.map_eq_some_iff.1 h2
  obtain ⟨hsx,ha0,han,rfl,hsl⟩:=hs
  obtain ⟨rl,rfl,hrl⟩:=hopt lo yl hlo
  have:=hnone hi hhi
  subst this
  have:=hnone mx hmx
  subst this
  have e1:=Ad H hx hsx
  rw [h1] at e1
  have e2:=Ad H hrl (hsl yl rfl)
  rw [h2'] at e2
  have e2:=Be e2
  cases hu:a.eval ox<;>rw [hu] at e1<;>(try (cases e1 with|d _ _ e1=>cases e1;done))
  rename_i A nn cp
  cases e1 with
  |d _ _ e1 =>
   have hcp:nn=n∧n≤cp:=by cases e1<;>simp_all
   obtain ⟨rfl,hcp⟩:=hcp
   refine As.val H hd (v:=.slice (if cp=aa.toNat then A else A.map (·.add (aa.toNat*sz))) (nn-aa.toNat) (cp-aa.toNat)) (hexec _ ?_) ?_
   ·simp [hu,Instr.slice,run_underlying ht,Instr.sliceBounds,Instr.sliceBound,asIntOf,e2,ha0,han,hszr]
   ·refine .d _ _ ?_
    cases e1 with
    |nil _ _ _ _ =>
     have:aa.toNat=0:=by omega
     rw [this]
     exact .nil _ _ _ _
    |sl _ _ _ _ b off _ g hc hf hl hcell hrel =>
     have hidx:∀ i j,(aa.toNat+i)*sz+j=aa.toNat*sz+(i*sz+j):=λi j=>by rw [Nat.add_mul];omega
     by_cases hca:cp=aa.toNat
     ·rw [if_pos hca]
      have hn0:nn-aa.toNat=0:=by omega
      rw [hn0]
      exact .sl _ _ _ _ b off _ (λi j=>g i j) (by omega) (λ_=>by omega) (λi hi=>by omega) (λi j hi hj=>by omega) (λi j hi hj=>by omega)
     ·rw [if_neg hca]
      simp only [Option.map_some,Cy]
      refine .sl _ _ _ _ b (off+aa.toNat*sz) _ (λi j=>g (aa.toNat+i) j) (by omega) (λh=>by rw [hf h]) (λi hi=>hl _ (by omega)) (λi j hi hj=>?_) (λi j hi hj=>hrel _ j (by omega) hj)
      have:=hcell (aa.toNat+i) j (by omega) hj
      rw [hidx,←Nat.add_assoc] at this
      exact this
 ·rename_i k ka aa h1 h2 h3 h4
  cases xhi with
  |some _=>simp at h3
  |none =>
  cases xmx with
  |some _=>simp at h4
  |none =>
  obtain ⟨yl,rfl,h2'⟩:=Option.map_eq_some_iff.1 h2
  split at hs
  ·rename_i e0 sz' n f h5
   obtain ⟨hsx,ha0,han,rfl,hsl⟩:=hs
   obtain ⟨rl,rfl,hrl⟩:=hopt lo yl hlo
   have:=hnone hi hhi
   subst this
   have:=hnone mx hmx
   subst this
   have e1:=Ad H hx hsx
   rw [h1] at e1
   have e2:=Ad H hrl (hsl yl rfl)
   rw [h2'] at e2
   have e2:=Be e2
   obtain ⟨v,xs,hb,hrow,_,_⟩:=Bb H h5
   have hu:a.eval ox=v:=by
    generalize a.eval ox=u at *
    cases e1 with
    |osl _ _ hb' _=>rw [hb] at hb';injection hb' with hb';exact hb'.symm
   rcases hrow.2 with ⟨⟨A,rfl⟩,rfl⟩|⟨g,cap,cur,rfl,hc0,hh,hnc,_⟩
   ·have ha:aa=0:=by omega
    subst ha
    refine As.val H hd (v:=.slice A 0 0) (hexec _ ?_) (.osub0 k sz A hb)
    simp [hu,Instr.slice,run_underlying ht,Instr.sliceBounds,Instr.sliceBound,asIntOf,e2,hszr]
   ·refine As.val H hd (v:=.slice (some (if cap=aa.toNat then ⟨g,0,none⟩ else ⟨g,aa.toNat*sz,none⟩)) (n-aa.toNat) (cap-aa.toNat)) (hexec _ ?_) (.osub k sz aa.toNat (n-aa.toNat) g n cap _ hb (by omega) (λhp=>by rw [if_neg (by omega)]))
    by_cases hca:cap=aa.toNat
    ·simp [hu,Instr.slice,run_underlying ht,Instr.sliceBounds,Instr.sliceBound,asIntOf,e2,ha0,han,hszr,hca]
    ·simp [hu,Instr.slice,run_underlying ht,Instr.sliceBounds,Instr.sliceBound,asIntOf,e2,ha0,han,hszr,hca,Cy]
  ·exact hs.elim
 ·rename_i k kb bb h1 h2 h3 h4
  cases xlo with
  |some _=>simp at h2
  |none =>
  cases xmx with
  |some _=>simp at h4
  |none =>
  obtain ⟨yh,rfl,h3'⟩:=Option.map_eq_some_iff.1 h3
  split at hs
  ·rename_i e0 sz' n f h5
   obtain ⟨hsx,hb0,hbn,rfl,hsh⟩:=hs
   obtain ⟨rh,rfl,hrh⟩:=hopt hi yh hhi
   have:=hnone lo hlo
   subst this
   have:=hnone mx hmx
   subst this
   have e1:=Ad H hx hsx
   rw [h1] at e1
   have e2:=Ad H hrh (hsh yh rfl)
   rw [h3'] at e2
   have e2:=Be e2
   obtain ⟨v,xs,hb,hrow,_,_⟩:=Bb H h5
   have hu:a.eval ox=v:=by
    generalize a.eval ox=u at *
    cases e1 with
    |osl _ _ hb' _=>rw [hb] at hb';injection hb' with hb';exact hb'.symm
   rcases hrow.2 with ⟨⟨A,rfl⟩,rfl⟩|⟨g,cap,cur,rfl,hc0,hh,hnc,_⟩
   ·have hb':bb=0:=by omega
    subst hb'
    refine As.val H hd (v:=.slice A 0 0) (hexec _ ?_) (.osub0 k sz A hb)
    simp [hu,Instr.slice,run_underlying ht,Instr.sliceBounds,Instr.sliceBound,asIntOf,e2,hszr]
   ·refine As.val H hd (v:=.slice (some ⟨g,0,none⟩) bb.toNat (cap-0)) (hexec _ ?_) (.osub k sz 0 bb.toNat g n cap _ hb (by omega) (λhp=>by simp))
    have:bb≤(cap:Int):=by omega
    by_cases hca:cap=0
    ·omega
    ·simp [hu,Instr.slice,run_underlying ht,Instr.sliceBounds,Instr.sliceBound,asIntOf,e2,hb0,this,hszr,hca,Cy]
  ·exact hs.elim
 ·exact hs.elim
theorem s_asl (H:Aa c β st a w) (hd:∀ d,o.dst=some d→d<c.nt) {t e:TypeId} {sz n:Nat} {ox:Operand} {x:X} (ho:o.op=.slice t ox none none none) (ht:c.P.underlying t=some (.array n e)) (hz:Hm c.P e=some sz) (hx:cX ox=some x)
  (hs:(opR st true d (.asl sz n x)).side):As c β (st.app o.dst (opR st true d (.asl sz n x))) a o w:=by
 obtain ⟨ii,hii,hii2⟩:=Option.map_eq_some_iff.1 hz
 have hszr:(sizeOf e).run c.P w=.ok sz w:=by simp [sizeOf,typeInfo,hii,hii2]
 simp only [opR] at hs ⊢
 split at hs
 ·rename_i cs h1
  obtain ⟨hsx,hl⟩:=hs
  have e1:=Ad H hx hsx
  rw [h1] at e1
  generalize hu:a.eval ox=u at *
  cases e1 with
  |mem _ b off g hcell hrel =>
   refine As.val H hd (v:=.slice (some ⟨b,off,none⟩) n n) ?_ (.d _ _ (.sl true sz n _ b off n (λi j=>g (i*sz+j)) (Nat.le_refl _) (λ_=>rfl) (λi hi=>?_) (λi j hi hj=>hcell _ ?_) (λi j hi hj x hx=>?_)))
   ·by_cases hn:n=0
    ·subst hn
     simp [execOp,ho,hu,Instr.sliceAt,run_underlying ht,Instr.sureAddr,Instr.sliceBounds,hszr]
    ·simp [execOp,ho,hu,Instr.sliceAt,run_underlying ht,Instr.sureAddr,Instr.sliceBounds,hszr,Cy]
   ·have:(i+1)*sz≤n*sz:=Nat.mul_le_mul_right _ hi
    rw [Nat.add_mul] at this
    simp [litRow];omega
   ·have:(i+1)*sz≤n*sz:=Nat.mul_le_mul_right _ hi
    rw [Nat.add_mul] at this
    omega
   ·simp only [litRow] at hx
    rw [Zh _ _ _ _ hj] at hx
    exact hrel _ _ hx
 ·exact hs.elim
theorem Dn {P:Program} (w:World) (dT sT ty elem:TypeId) (sz g o dLen dCap:Nat) (a:Addr) (sLen sCap:Nat) (cur:Array Value) (t:TypeId) (cs:List Value)
  (hu:P.underlying dT=some (.slice elem)) (hs:Hm P elem=some sz)
  (hg:w.heap[g]?=some (.cells cur t (0,0))) (hn:cs.length=sz*Nat.min sLen dLen)
  (hsrc:∀ j v,cs[j]?=some v→w.cell? (a.add j)=some v) (hfit:o+cs.length≤cur.size) (h1:∀ v∈cs,v.oneCell'=true) :
  (Builtin.copy_ #[dT,sT] ty #[.slice (some ⟨g,o,none⟩) dLen dCap,.slice (some a) sLen sCap]).run P w =
   .ok (goInt (Nat.min sLen dLen)) (w.setRow g (cur.toList.take o++cs++cur.toList.drop (o+cs.length)).toArray):=by
 have hl:=run_loadCells_list (P:=P) w a cs hsrc
 have hst:=run_storeCells_at P g o t cs 0 cur w hg (by simpa using hfit) h1
 obtain ⟨i,hq,hi⟩:=Option.map_eq_some_iff.1 hs
 rw [hn,Nat.mul_comm] at hl
 simp [Builtin.copy_,run_underlying hu,Builtin.lenOf,Builtin.firstCells,sizeOf,typeInfo,hq,hi,hl,hst]
theorem As.updv (H:Aa c β st a w) (hd:∀ d,o.dst=some d→d<c.nt) {k b:Nat} {ow:Own} {sd:Prop} {rd:List Nat} {w':World} {kd:IntKind} {n:Int} (hkk:k∈keysO st.own) (hb:β.blk k=some b)
  (hr:(execOp a.eval o).run c.P w=.ok (.value (.int kd n)) w') (hk:Aw (λx=>x=b) w w') (ho:∀ E',B5 (Eo c.E0 β st.own) E' w w'→E'=Eo c.E0 β st.own→C9 β E' w' k ow) :
  As c β (st.app o.dst { side:=sd,val:=.d (.int kd n),upd:=[(k,some ow)],rd:=rd }) a o w:=by
 refine ⟨.int kd n,w',β,.inl hr,A6.le.refl β,?_⟩
 have h1:=H.updOwn hkk (hk.mono (λx e=>by rw [e,hb])) ho
 cases hdst:o.dst with
 |none=>simpa [St.app,setE,applyU,newN,H.kn k hkk,Act.put,hdst] using h1
 |some d =>
  have h2:=h1.setV (hd d hdst) (Cx kd n)
  simpa [St.app,setE,applyU,newN,H.kn k hkk,Act.put,hdst] using h2
theorem Ti {E E':Nat→Prop} {w:World} {k e sz N lo q gb cap:Nat} {f g:Nat→List D} {cur:Array Value} {news xs:List Value}
  (hl:B5 E E' w (w.setRow gb (Ds cur (lo*sz) news))) (hb:β k=some (.slice (some ⟨gb,0,none⟩) N cap)) (hc0:0<cap) (hh:w.heap[gb]?=some (.cells cur e (0,0))) (hnc:N≤cap) (hcm:cap≤maxLen) (hcs:cur.size=cap*sz)
  (htk:cur.toList.take (N*sz)=xs) (hfl:∀ i,i<N→(f i).length=sz) (hfr:∀ i j,i<N→j<sz→∀ (x:D),(f i)[j]?=some x→∃ u,xs[i*sz+j]?=some u∧Cg E w u x)
  (hq:lo+q≤N) (hnl:news.length=q*sz) (hg:∀ i,i<q→(g i).length=sz) (hgr:∀ i j,i<q→j<sz→∀ (x:D),(g i)[j]?=some x→∃ u,news[i*sz+j]?=some u∧Cg E w u x) :
  C9 β E' (w.setRow gb (Ds cur (lo*sz) news)) k (.row e sz N (λi=>if lo≤i∧i<lo+q then g (i-lo) else f i)):=by
 have hqm:lo*sz+q*sz≤N*sz:=by rw [←Nat.add_mul];exact Nat.mul_le_mul_right _ hq
 have hcap:N*sz≤cap*sz:=Nat.mul_le_mul_right _ hnc
 have hle:lo*sz+news.length≤cur.size:=by omega
 refine ⟨_,(Ds cur (lo*sz) news).toList.take (N*sz),hb,⟨by rw [List.length_take,Array.length_toList,Di hle,hcs];omega,.inr ⟨gb,cap,_,rfl,hc0,setRow_heap w gb cur _ _ _ hh,hnc,hcm,by rw [Di hle,hcs],rfl⟩⟩,λi hi=>?_,λi j hi hj x hx=>?_⟩
 ·dsimp only
  split
  ·exact hg _ (by omega)
  ·exact hfl _ hi
 ·have hidx:i*sz+j<N*sz:=by
   have:(i+1)*sz≤N*sz:=Nat.mul_le_mul_right _ hi
   rw [Nat.add_mul] at this;omega
  rw [List.getElem?_take,if_pos hidx,Array.getElem?_toList,Hb hle,hnl]
  dsimp only at hx
  split at hx
  ·rename_i h
   obtain ⟨u,q1,q2⟩:=hgr (i-lo) j (by omega) hj x hx
   have h1:lo*sz≤i*sz:=Nat.mul_le_mul_right _ h.1
   have h2:(i+1)*sz≤(lo+q)*sz:=Nat.mul_le_mul_right _ h.2
   rw [Nat.add_mul,Nat.add_mul] at h2
   rw [if_pos (by omega)]
   refine ⟨u,?_,q2.lasts hl⟩
   rw [←q1,Nat.sub_mul]
   congr 1
   omega
  ·rename_i h
   obtain ⟨u,q1,q2⟩:=hfr i j hi hj x hx
   have:¬ (lo*sz≤i*sz+j∧i*sz+j<lo*sz+q*sz):=by
    intro ⟨p1,p2⟩
    by_cases hlo:lo≤i
    ·have hhi:lo+q≤i:=by omega
     have:(lo+q)*sz≤i*sz:=Nat.mul_le_mul_right _ hhi
     rw [Nat.add_mul] at this;omega
    ·have:(i+1)*sz≤lo*sz:=Nat.mul_le_mul_right _ (by omega)
     rw [Nat.add_mul] at this;omega
   rw [if_neg this]
   refine ⟨u,?_,q2.lasts hl⟩
   rw [←q1,←htk,List.getElem?_take,if_pos hidx];simp
theorem im {l:List Value} {n j:Nat} {u:Value} (h:(l.take n)[j]?=some u):l[j]?=some u:=by
 rw [List.getElem?_take] at h
 split at h
 ·exact h
 ·cases h
theorem L5 {P:Program} (w:World) (dT sT ty elem:TypeId) (A B:Option Addr) (dLen dCap sLen sCap:Nat) (hu:P.underlying dT=some (.slice elem)) (hs:∃ sz,Hm P elem=some sz) (h0:Nat.min sLen dLen=0) :
  (Builtin.copy_ #[dT,sT] ty #[.slice A dLen dCap,.slice B sLen sCap]).run P w=.ok (goInt 0) w:=by
 obtain ⟨sz,hs⟩:=hs
 obtain ⟨i,hq,hi⟩:=Option.map_eq_some_iff.1 hs
 cases A<;>cases B<;>simp [Builtin.copy_,run_underlying hu,Builtin.lenOf,Builtin.firstCells,sizeOf,typeInfo,hq,storeCells,loadCells,loadCellsFrom,h0]
theorem s_cpy (H:Aa c β st a w) (hd:∀ d,o.dst=some d→d<c.nt) {t t' e:TypeId} {sz:Nat} {ox oy:Operand} {x y:X} (ho:o.op=.call { callee:=.builtin .copy,args:=#[ox,oy],argTypes:=#[t,t'] }) (ht:c.P.underlying t=some (.slice e)) (hz:Hm c.P e=some sz) (hx:cX ox=some x) (hy:cX oy=some y)
  (hs:(opR st true d (.cpy sz x y)).side):As c β (st.app o.dst (opR st true d (.cpy sz x y))) a o w:=by
 have hexec:∀ n w',(∀ ty,(Builtin.copy_ #[t,t'] ty #[a.eval ox,a.eval oy]).run c.P w=.ok (goInt n) w')→(execOp a.eval o).run c.P w=.ok (.value (.int .i64 n)) w':=λn w' h=>by
  simp [execOp,ho,resolve,invoke,builtin,h,goInt]
 simp only [opR] at hs ⊢
 split at hs
 ·rename_i k fl sz2 m g h1 h2
  split at hs
  ·rename_i e0 sz1 n f h3
   obtain ⟨hsx,hsy,rfl,hz2⟩:=hs
   have e1:=Ad H hx hsx
   have e2:=Ad H hy hsy
   rw [h1] at e1
   rw [h2] at e2
   obtain ⟨v,xs,hb,hrow,hfl,hfr⟩:=Bb H h3
   have hu:a.eval ox=v:=by
    generalize a.eval ox=u at *
    cases e1 with
    |osl _ _ hb' _=>rw [hb] at hb';injection hb' with hb';exact hb'.symm
   obtain ⟨B,cp,ys,hv2,-,hmc,hyl,hyc,hy1,hgl,hgr⟩:=En (J3 e2) hz2
   have hkk:=Ab (Ah h3)
   by_cases hq:min m n=0
   ·have hw:(execOp a.eval o).run c.P w=.ok (.value (.int .i64 ((min m n:Nat):Int))) w:=by
     obtain ⟨A,cap,rfl⟩:∃ A cap,v=.slice A n cap:=by
      rcases hrow.2 with ⟨⟨A,rfl⟩,rfl⟩|⟨g,cap,cur,rfl,_⟩
      ·exact ⟨A,0,rfl⟩
      ·exact ⟨_,cap,rfl⟩
     refine hexec _ _ λty=>?_
     rw [hu,hv2,hq]
     exact L5 w t t' ty e A B n cap m cp ht ⟨_,hz⟩ hq
    have hef:(λi=>if i<min m n then g i else f i)=f:=by funext i;rw [if_neg (by omega)]
    rw [hef]
    have hset:Aa c β ⟨st.env,setO st.own k (.row e0 sz1 n f),st.nm⟩ a w:=H.updOwn hkk (Aw.refl _ _) (λE' hl hE=>hE▸⟨v,xs,hb,hrow,hfl,hfr⟩)
    refine ⟨.int .i64 ((min m n:Nat):Int),w,β,.inl hw,A6.le.refl β,?_⟩
    cases hdst:o.dst with
    |none=>simpa [St.app,setE,applyU,newN,H.kn k hkk,Act.put,hdst] using hset
    |some d =>
     have h2:=hset.setV (hd d hdst) (Cx .i64 ((min m n:Nat):Int))
     simpa [St.app,setE,applyU,newN,H.kn k hkk,Act.put,hdst] using h2
   ·rcases hrow.2 with ⟨⟨A,rfl⟩,rfl⟩|⟨gb,cap,cur,rfl,hc0,hh,hnc,hcm,hcs,htk⟩
    ·omega
    ·obtain ⟨ad,rfl,had⟩:=hyc (by omega)
     have hq0:min m n*sz1≤m*sz1:=Nat.mul_le_mul_right _ (Nat.min_le_left _ _)
     have hq1:min m n*sz1≤n*sz1:=Nat.mul_le_mul_right _ (Nat.min_le_right _ _)
     have hq2:n*sz1≤cap*sz1:=Nat.mul_le_mul_right _ hnc
     have hnl:(ys.take (min m n*sz1)).length=min m n*sz1:=by rw [List.length_take];omega
     have hrun:=λty=>Dn (P:=c.P) w t t' ty e sz1 gb 0 n cap ad m cp cur e0 (ys.take (min m n*sz1)) ht hz hh (by rw [hnl,Nat.mul_comm]) (λj u hj=>had j u (im hj)) (by omega) (λu hu=>hy1 u (List.mem_of_mem_take hu))
     have e3:(cur.toList.take 0++ys.take (min m n*sz1)++cur.toList.drop (0+(ys.take (min m n*sz1)).length)).toArray=Ds cur (0*sz1) (ys.take (min m n*sz1)):=by rw [Nat.zero_mul];rfl
     rw [e3] at hrun
     refine As.updv H hd (b:=gb) hkk (by simp [A6.blk,hb,B0];omega) (hexec _ _ λty=>by rw [hu,hv2];exact hrun ty) (Cu _ _ _ _ rfl) (λE' hl hE=>?_)
     have:=Ti (lo:=0) (q:=min m n) (g:=g) hl hb hc0 hh hnc hcm hcs htk hfl hfr (by omega) hnl (λi hi=>hgl i (by omega)) (λi j hi hj x hx=>by
      obtain ⟨u,q1,q2⟩:=hgr i j (by omega) hj x hx
      refine ⟨u,?_,q2⟩
      have:(i+1)*sz1≤min m n*sz1:=Nat.mul_le_mul_right _ hi
      rw [Nat.add_mul] at this
      rw [List.getElem?_take,if_pos (by omega)];exact q1)
     simpa using this
  ·exact hs.elim
 ·rename_i k sz1 lo n k2 sz2 lo2 m h1 h2
  split at hs
  ·rename_i e0 sz3 N f h3
   obtain ⟨hsx,hsy,rfl,rfl,rfl,rfl⟩:=hs
   have e1:=Ad H hx hsx
   have e2:=Ad H hy hsy
   rw [h1] at e1
   rw [h2] at e2
   obtain ⟨v,xs,hb,hrow,hfl,hfr⟩:=Bb H h3
   have hkk:=Ab (Ah h3)
   have form:∀ {u:Value} {lo n:Nat},Ai β (Eo c.E0 β st.own) w u (.osub k sz3 lo n)→∃ A cp,u=.slice A n cp∧(0<n→∃ b m c,β k=some (.slice (some ⟨b,0,none⟩) m c)∧lo+n≤m∧A=some ⟨b,lo*sz3,none⟩):=λh=>by
    cases h with
    |osub _ _ _ _ b m c aa hb hn ha=>exact ⟨_,_,rfl,λhp=>⟨b,m,c,hb,hn,by rw [ha (.inl hp)]⟩⟩
    |osub0 _ _ A hb=>exact ⟨A,0,rfl,λh=>by omega⟩
   obtain ⟨A,cp1,hu1,f1⟩:=form e1
   obtain ⟨B,cp2,hu2,f2⟩:=form e2
   by_cases hq:min m n=0
   ·have hw:(execOp a.eval o).run c.P w=.ok (.value (.int .i64 ((min m n:Nat):Int))) w:=by
     refine hexec _ _ λty=>?_
     rw [hu1,hu2,hq]
     exact L5 w t t' ty e A B n cp1 m cp2 ht ⟨_,hz⟩ hq
    have hef:(λi=>if lo≤i∧i<lo+min m n then f (lo2+(i-lo)) else f i)=f:=by funext i;rw [if_neg (by omega)]
    rw [hef]
    have hset:Aa c β ⟨st.env,setO st.own k (.row e0 sz3 N f),st.nm⟩ a w:=H.updOwn hkk (Aw.refl _ _) (λE' hl hE=>hE▸⟨v,xs,hb,hrow,hfl,hfr⟩)
    refine ⟨.int .i64 ((min m n:Nat):Int),w,β,.inl hw,A6.le.refl β,?_⟩
    cases hdst:o.dst with
    |none=>simpa [St.app,setE,applyU,newN,H.kn k hkk,Act.put,hdst] using hset
    |some d =>
     have h2:=hset.setV (hd d hdst) (Cx .i64 ((min m n:Nat):Int))
     simpa [St.app,setE,applyU,newN,H.kn k hkk,Act.put,hdst] using h2
   ·obtain ⟨b1,m1,c1,hb1,hn1,rfl⟩:=f1 (by omega)
    obtain ⟨b2,m2,c2,hb2,hn2,rfl⟩:=f2 (by omega)
    rcases hrow.2 with ⟨⟨A,rfl⟩,rfl⟩|⟨gb,cap,cur,rfl,hc0,hh,hnc,hcm,hcs,htk⟩
    ·rw [hb1] at hb
     injection hb with hb
     injection hb with _ q2 _
     exact absurd (show n=0 from Nat.le_zero.1 (Nat.le_trans (Nat.le_add_left n lo) (q2▸hn1))) (λh=>hq (by rw [h];exact Nat.min_zero m))
    ·rw [hb] at hb1 hb2
     injection hb1 with p1
     injection p1 with p1 p2 p3
     injection p1 with p1
     injection p1 with p1
     subst p1;subst p2;subst p3
     injection hb2 with p1
     injection p1 with p1 p2 p3
     injection p1 with p1
     injection p1 with p1
     subst p1;subst p2;subst p3
     have hq2:N*sz3≤cap*sz3:=Nat.mul_le_mul_right _ hnc
     have hN1:lo*sz3+min m n*sz3≤N*sz3:=by rw [←Nat.add_mul];exact Nat.mul_le_mul_right _ (by omega)
     have hN2:lo2*sz3+min m n*sz3≤N*sz3:=by rw [←Nat.add_mul];exact Nat.mul_le_mul_right _ (by omega)
     have hxl:xs.length=N*sz3:=hrow.1
     have hnl:((xs.drop (lo2*sz3)).take (min m n*sz3)).length=min m n*sz3:=by rw [List.length_take,List.length_drop];omega
     have hxc:∀ j u,xs[j]?=some u→w.cell? ⟨gb,j,none⟩=some u:=λj u hj=>by
      rw [cell_of_row w gb j cur e0 (0,0) hh]
      rw [←htk,List.getElem?_take] at hj
      split at hj
      ·simpa using hj
      ·cases hj
     have hx1:∀ u,u∈xs→u.oneCell'=true:=λu hu=>by
      obtain ⟨p,hp,rfl⟩:=List.getElem_of_mem hu
      have hs0:0<sz3:=by
       rcases Nat.eq_zero_or_pos sz3 with h|h
       ·subst h;omega
       ·exact h
      have hp':p<N*sz3:=by omega
      have hi:p / sz3<N:=Nat.div_lt_of_lt_mul (by rw [Nat.mul_comm];exact hp')
      have hj:p % sz3<sz3:=Nat.mod_lt _ hs0
      have hlen:=hfl _ hi
      obtain ⟨u,q1,q2⟩:=hfr _ _ hi hj _ (List.getElem?_eq_getElem (by omega))
      have e:p / sz3*sz3+p % sz3=p:=by rw [Nat.mul_comm];exact Nat.div_add_mod p sz3
      rw [e,List.getElem?_eq_getElem hp] at q1
      injection q1 with q1
      rw [q1];exact q2.one
     have hrun:=λty=>Dn (P:=c.P) w t t' ty e sz3 gb (lo*sz3) n cp1 ⟨gb,lo2*sz3,none⟩ m cp2 cur e0 ((xs.drop (lo2*sz3)).take (min m n*sz3)) ht hz hh (by rw [hnl,Nat.mul_comm]) (λj u hj=>by
      rw [List.getElem?_take] at hj
      split at hj
      ·rw [List.getElem?_drop] at hj
       rw [Cy]
       exact hxc _ u hj
      ·cases hj) (by omega) (λu hu=>hx1 u (List.mem_of_mem_drop (List.mem_of_mem_take hu)))
     refine As.updv H hd (b:=gb) hkk (by simp [A6.blk,hb,B0];omega) (hexec _ _ λty=>by rw [hu1,hu2];exact hrun ty) (Cu _ _ _ _ rfl) (λE' hl hE=>?_)
     exact Ti (lo:=lo) (q:=min m n) (g:=λi=>f (lo2+i)) hl hb hc0 hh hnc hcm hcs htk hfl hfr (by omega) hnl (λi hi=>hfl _ (by omega)) (λi j hi hj x hx=>by
      obtain ⟨u,q1,q2⟩:=hfr (lo2+i) j (by omega) hj x hx
      refine ⟨u,?_,q2⟩
      have:(i+1)*sz3≤min m n*sz3:=Nat.mul_le_mul_right _ hi
      rw [Nat.add_mul] at this
      rw [List.getElem?_take,if_pos (by omega),List.getElem?_drop,←q1,Nat.add_mul]
      congr 1
      omega)
  ·exact hs.elim
 ·exact hs.elim
theorem sm (H:Aa c β st a w) (hd:∀ d,o.dst=some d→d<c.nt) {t:TypeId} {ox:Operand} {x:X} (ho:o.op=.makeInterface t ox) (hx:cX ox=some x)
  (hr:∀ v,(Instr.makeInterface t v).run c.P w=.ok (.iface t v) w)
  (hs:(opR st true d (.mkifc t x)).side):As c β (st.app o.dst (opR st true d (.mkifc t x))) a o w:=by
 simp only [opR] at hs ⊢
 have hex:(execOp a.eval o).run c.P w=.ok (.value (.iface t (a.eval ox))) w:=by simp [execOp,ho,hr]
 by_cases hc:isCell (evV st x)=true
 ·rw [if_pos hc] at hs ⊢
  exact As.val H hd hex (.ifc _ _ _ (Ad H hx hs))
 ·rw [if_neg hc] at hs ⊢
  split at hs
  ·rename_i cs h1
   have e1:=Ad H hx hs
   rw [h1] at e1
   exact As.val H hd hex (.ifc _ _ _ e1)
  ·exact hs.elim
def Tc (P:Program) (t:TypeId):Bool:=
 match P.info? t with
 |some i=>match i.zero with
  |some z=>!z.oneCell'
  |none=>false
 |none=>false
def Mg (P:Program) (t:TypeId):Bool:=
 match P.underlying t with
 |some (.interface _)=>false
 |some _=>true
 |none=>false
theorem bv {P:Program} {t:TypeId} (h:Mg P t=true) (v:Value) (w:World):(Instr.makeInterface t v).run P w=.ok (.iface t v) w:=by
 unfold Mg at h
 split at h
 ·cases h
 ·rename_i d hne hd
  simp only [Instr.makeInterface,Sem.run_bind,run_underlying hd,Result.andThen_ok]
  cases d<;>first|rfl|exact absurd rfl (hne _)
 ·cases h
def me (P:Program) (t:TypeId):Bool:=
 match P.info? t with
 |some i=>i.zero.isSome
 |none=>false
theorem s_tas (H:Aa c β st a w) (hd:∀ d,o.dst=some d→d<c.nt) {t xt:TypeId} {ok:Bool} {ox:Operand} {x:X} (ho:o.op=.typeAssert ox xt t ok) (hx:cX ox=some x)
  (hr:Mg c.P t=true) (hz:ok=true→me c.P t=true) (hs:(opR st true d (.tas t ok x)).side):As c β (st.app o.dst (opR st true d (.tas t ok x))) a o w:=by
 simp only [opR] at hs ⊢
 split at hs
 ·rename_i t' y h1
  obtain ⟨hs,ht⟩:=hs
  have e1:=Ad H hx hs
  rw [h1] at e1
  generalize hu:a.eval ox=u at *
  cases e1 with
  |ifc _ v _ hv =>
   by_cases htt:t'=t
   ·subst htt
    have hrun:(Instr.typeAssert (.iface t' v) xt t' ok).run c.P w=.ok (if ok then .tuple #[v,.bool true] else v) w:=by
     unfold Mg at hr
     split at hr
     ·cases hr
     ·rename_i dd hne hdd
      simp only [Instr.typeAssert,Sem.run_bind,run_underlying hdd,Result.andThen_ok]
      split<;>first
       |(rename_i hm;exact absurd (hm▸hdd) (hne _))
       |(cases ok<;>simp_all)
       |simp_all
     ·cases hr
    simp only [if_true]
    refine As.val H hd (v:=if ok then .tuple #[v,.bool true] else v) (by simp [execOp,ho,hu,hrun]) ?_
    cases ok with
    |true =>
     refine .tup _ _ rfl λj u y' hu' hy=>?_
     match j with
     |0=>simp at hu' hy;subst hu';subst hy;exact hv
     |1=>simp at hu' hy;subst hu';subst hy;exact Fj _
     |j+2=>simp at hy
    |false=>exact hv
   ·rw [if_neg htt] at ht
    subst ht
    obtain ⟨i,z,hi,hzz⟩:∃ i z,c.P.info? t=some i∧i.zero=some z:=by
     have hz:=hz rfl
     unfold me at hz
     split at hz
     ·rename_i i hi
      obtain ⟨z,hz⟩:=Option.isSome_iff_exists.1 hz
      exact ⟨i,z,hi,hz⟩
     ·cases hz
    have hzr:(zeroValue t).run c.P w=.ok z w:=by simp [zeroValue,typeInfo,hi,hzz]
    have hrun:(Instr.typeAssert (.iface t' v) xt t true).run c.P w=.ok (.tuple #[z,.bool false]) w:=by
     unfold Mg at hr
     split at hr
     ·cases hr
     ·rename_i dd hne hdd
      simp only [Instr.typeAssert,Sem.run_bind,run_underlying hdd,Result.andThen_ok]
      split<;>first
       |(rename_i hm;exact absurd (hm▸hdd) (hne _))
       |simp_all [Result.andThen]
     ·cases hr
    simp only [if_neg htt]
    refine As.val H hd (v:=.tuple #[z,.bool false]) (by simp [execOp,ho,hu,hrun]) ?_
    refine .tup _ _ rfl λj u y' hu' hy=>?_
    match j with
    |0=>simp at hy;subst hy;exact .un _
    |1=>simp at hu' hy;subst hu';subst hy;exact Fj _
    |j+2=>simp at hy
 ·exact hs.elim
def Rd (P:Program) (t:TypeId):Option D:=
 match P.underlying t with
 |some (.map k e) =>
  match P.underlying k,Fr P e with
  |some (.int .i64),some [.d z]=>some z
  |_,_=>none
 |_=>none
theorem Tp {P:Program} {t:TypeId} {z:D} (h:Rd P t=some z):∃ k e,P.underlying t=some (.map k e)∧P.underlying k=some (.int .i64)∧∃ i v,P.info? e=some i∧i.zero=some v∧v.cells.size=1∧(∀ w:World,∀ E,∀ u,v.cells[0]?=some u→Cg E w u z):=by
 unfold Rd at h
 split at h
 ·rename_i k e ht
  split at h
  ·rename_i z' hk hz
   cases h
   unfold Fr at hz
   cases hi:P.info? e with
   |none=>simp [hi] at hz
   |some i =>
    simp only [hi,Option.bind_some] at hz
    cases hzz:i.zero with
    |none=>simp [hzz] at hz
    |some v =>
     simp only [hzz] at hz
     obtain ⟨g1,_⟩:=Cw (β:=λ_=>none) (E:=λ_=>False) (w:=default) hz
     exact ⟨k,e,ht,hk,i,v,hi,hzz,g1,λw E u hu=>J3 ((Cw (β:=λ_=>none) (E:=E) (w:=w) hz).2 0 u _ hu rfl)⟩
  ·cases h
 ·cases h
theorem ud (H:Aa c β st a w) (hdst:o.dst=some d) (hd:d<c.nt) {t:TypeId} {z:D} (ho:o.op=.makeMap t none) (_hz:Rd c.P t=some z)
  (hf:(opR st true d (.mkmap z)).side):As c β (st.app o.dst (opR st true d (.mkmap z))) a o w:=by
 simp only [opR] at hf ⊢
 refine As.mk H hdst hd hf (v:=.map (some w.heap.size)) (w':=w.alloc (.map #[] 0)) ?_ (Df _ _) (λb hb=>?_) (λβ' E' hβ hk hl=>?_) (λβ' E' hk=>.osl _ _ hk rfl)
 ·simp [execOp,ho,Instr.makeMap]
 ·simp [B0] at hb;subst hb;simp
 ·exact ⟨w.heap.size,#[],0,hk,heap_alloc_new w _,λx hx=>by simp at hx,λi j x y hi=>by simp at hi,λi x n hi=>by simp at hi,λ_ _=>rfl,λx hx=>by simp at hx,by simp⟩
theorem W5 {β:A6} {E:Nat→Prop} {w:World} {v:Value} {x:D} (h:Cg E w v x):Ai β E w v (nh x):=by
 unfold nh
 split
 ·rename_i f fi ca
  split
  ·rename_i hsz
   cases h with
   |raw _ _ =>
    exact .fn f fi ca [] [] (by simp [hsz.1]) (by simp [hsz.2]) (λj v x _ h=>by simp at h) (λj v x _ h=>by simp at h)
  ·exact .d _ _ h
 ·exact .d _ _ h
theorem pt (z:D):X1 z z=.d (.bool false)∨X1 z z=.un:=by
 cases z with
 |raw v=>cases v<;>first|exact .inl rfl|exact .inr rfl
 |_=>exact .inr rfl
theorem pn {β:A6} {E:Nat→Prop} {w:World} {v:Value} {x:V} {y:D} (hy:eu x=some y) (h:Ai β E w v x):Cg E w v y:=by
 unfold eu at hy
 split at hy
 ·cases hy;exact J3 h
 ·cases hy
  cases h with
  |fn f fi ca _ _ h1 h2 _ _ =>
   have e1:fi=#[]:=Array.eq_empty_of_size_eq_zero h1
   have e2:ca=#[]:=Array.eq_empty_of_size_eq_zero h2
   subst e1;subst e2
   exact .raw _ rfl
 ·cases hy
theorem s_lkp (H:Aa c β st a w) (hd:∀ d,o.dst=some d→d<c.nt) {t:TypeId} {z:D} {ox oi:Operand} {x i:X} (ho:o.op=.lookup t ox oi false) (hz:Rd c.P t=some z) (hag:∀ k e,c.P.underlying t=some (.map k e)→Tc c.P e=false) (hx:cX ox=some x) (hi:cX oi=some i)
  (hs:(opR st true d (.lkp z x i)).side):As c β (st.app o.dst (opR st true d (.lkp z x i))) a o w:=by
 simp only [opR] at hs ⊢
 split at hs
 ·rename_i k kk n h1 h2
  split at hs
  ·rename_i z' g h3
   obtain ⟨hsx,hsi,rfl,rfl⟩:=hs
   have e1:=Ad H hx hsx
   have e2:=Ad H hi hsi
   rw [h1] at e1
   rw [h2] at e2
   have e2:=Be e2
   obtain ⟨b,es,cl,hb,hh,hk,hdj,hr,hno⟩:=Bb H h3
   obtain ⟨kt,et,ht,hkt,inf,zv,hinf,hzv,hz1,hzr⟩:=Tp hz
   generalize hox:a.eval ox=u at *
   cases e1 with
   |osl _ _ hu _ =>
    rw [hb] at hu;cases hu
    have hkey:MapKept.IsKey (.int .i64) (.int .i64 n):=rfl
    rcases MapKept.findNow_spec hkey es.toList 0 hk with ⟨q1,q2⟩|⟨j,e0,q1,q2,q3⟩
    ·have hone:zv.oneCell'=true:=by
      have:=hag kt et ht
      simp only [Tc,hinf,hzv] at this
      simpa using this
     refine As.val H hd (v:=zv) ?_ (.d _ _ ?_)
     ·simp [execOp,ho,hox,e2,Instr.lookup,run_underlying ht,MapKept.run_getObj_map hh,MapKept.run_checkKey hkt hkey,MapKept.run_findKey hkt q1,zeroValue,typeInfo,hinf,hzv,Result.andThen]
     ·rw [hno.1 n q2]
      have:=hzr w (Eo c.E0 β st.own) zv (by rw [Iz hone];rfl)
      exact this
    ·have hj:es[j]?=some e0:=by simpa using q2
     refine As.val H hd (v:=e0.val) ?_ (.d _ _ (hr j e0 n hj q3).1)
     simp [execOp,ho,hox,e2,Instr.lookup,run_underlying ht,MapKept.run_getObj_map hh,MapKept.run_checkKey hkt hkey,MapKept.run_findKey hkt q1,Result.andThen]
  ·exact hs.elim
 ·exact hs.elim
theorem s_lkq (H:Aa c β st a w) (hd:∀ d,o.dst=some d→d<c.nt) {t:TypeId} {z:D} {ox oi:Operand} {x i:X} (ho:o.op=.lookup t ox oi true) (hz:Rd c.P t=some z) (hag:∀ k e,c.P.underlying t=some (.map k e)→Tc c.P e=false) (hx:cX ox=some x) (hi:cX oi=some i)
  (hs:(opR st true d (.lkq z x i)).side):As c β (st.app o.dst (opR st true d (.lkq z x i))) a o w:=by
 simp only [opR] at hs ⊢
 split at hs
 ·rename_i k kk n h1 h2
  split at hs
  ·rename_i z' g h3
   obtain ⟨hsx,hsi,rfl,rfl⟩:=hs
   have e1:=Ad H hx hsx
   have e2:=Ad H hi hsi
   rw [h1] at e1
   rw [h2] at e2
   have e2:=Be e2
   obtain ⟨b,es,cl,hb,hh,hk,hdj,hr,hno⟩:=Bb H h3
   obtain ⟨kt,et,ht,hkt,inf,zv,hinf,hzv,hz1,hzr⟩:=Tp hz
   generalize hox:a.eval ox=u at *
   cases e1 with
   |osl _ _ hu _ =>
    rw [hb] at hu;cases hu
    have hkey:MapKept.IsKey (.int .i64) (.int .i64 n):=rfl
    rcases MapKept.findNow_spec hkey es.toList 0 hk with ⟨q1,q2⟩|⟨j,e0,q1,q2,q3⟩
    ·have hone:zv.oneCell'=true:=by
      have:=hag kt et ht
      simp only [Tc,hinf,hzv] at this
      simpa using this
     refine As.val H hd (v:=.tuple #[zv,.bool false]) ?_ (.tup _ _ rfl λq u' y' hu' hy'=>?_)
     ·simp [execOp,ho,hox,e2,Instr.lookup,run_underlying ht,MapKept.run_getObj_map hh,MapKept.run_checkKey hkt hkey,MapKept.run_findKey hkt q1,zeroValue,typeInfo,hinf,hzv,Result.andThen]
     ·have hz0:Cg (Eo c.E0 β st.own) w zv z':=by
       have:=hzr w (Eo c.E0 β st.own) zv (by rw [Iz hone];rfl)
       exact this
      match q with
      |0=>simp at hu' hy';subst hu';subst hy';rw [hno.1 n q2];exact W5 hz0
      |1 =>
       simp at hu' hy';subst hu';subst hy';rw [hno.1 n q2]
       rcases pt z' with e|e
       ·rw [e];exact Fj _
       ·rw [e];exact .un _
      |q+2=>simp at hy'
    ·have hj:es[j]?=some e0:=by simpa using q2
     refine As.val H hd (v:=.tuple #[e0.val,.bool true]) ?_ (.tup _ _ rfl λq u' y' hu' hy'=>?_)
     ·simp [execOp,ho,hox,e2,Instr.lookup,run_underlying ht,MapKept.run_getObj_map hh,MapKept.run_checkKey hkt hkey,MapKept.run_findKey hkt q1,Result.andThen]
     ·obtain ⟨r1,r2⟩:=hr j e0 n hj q3
      match q with
      |0=>simp at hu' hy';subst hu';subst hy';exact W5 r1
      |1 =>
       simp at hu' hy';subst hu';subst hy'
       unfold X1
       split
       ·rename_i e1 e2;exact absurd e2 (r2.1 rfl)
       ·exact Fj _
       ·exact .un _
      |q+2=>simp at hy'
  ·exact hs.elim
 ·exact hs.elim
theorem K6 {f:MapEntry→MapEntry} (hf:∀ e,(f e).born=e.born):∀ (l:List MapEntry) (j:Nat),(l.modify j f).map (·.born)=l.map (·.born)
 |[],j=>by cases j<;>simp
 |x::l,0=>by simp [hf]
 |x::l,j+1=>by simp [K6 hf l j]
theorem wl (H:Aa c β st a w) (hdst:o.dst=none) {t:TypeId} {z0:D} {ox oi ov:Operand} {x i v:X} (ho:o.op=.mapUpdate t ox oi ov∨o.op=.insert t ox oi ov) (hz:Rd c.P t=some z0) (hx:cX ox=some x) (hi:cX oi=some i) (hv:cX ov=some v)
  (hs:(opR st true d (.mup x i v)).side):As c β (st.app o.dst (opR st true d (.mup x i v))) a o w:=by
 simp only [opR] at hs ⊢
 split at hs
 ·rename_i k kk n y h1 h2 h4
  split at hs
  ·rename_i z g h3
   obtain ⟨hsx,hsi,hsv,rfl,hnz⟩:=hs
   have e1:=Ad H hx hsx
   have e2:=Ad H hi hsi
   have e4:=Ad H hv hsv
   rw [h1] at e1
   rw [h2] at e2
   have e2:=Be e2
   have e4:=pn h4 e4
   obtain ⟨b,es,cl,hb,hh,hk,hdj,hr,hno⟩:=Bb H h3
   obtain ⟨kt,et,ht,hkt,inf,zv,hinf,hzv,hz1,hzr⟩:=Tp hz
   have hexec:∀ w',(Instr.mapUpdate t (a.eval ox) (a.eval oi) (a.eval ov)).run c.P w=.ok () w'→(execOp a.eval o).run c.P w=.ok .skip w':=λw' h=>by
    rcases ho with ho|ho<;>simp [execOp,ho,h]
   generalize hox:a.eval ox=u at *
   cases e1 with
   |osl _ _ hu _ =>
    rw [hb] at hu;cases hu
    have hkey:MapKept.IsKey (.int .i64) (.int .i64 n):=rfl
    have hkeep:∀ ob,Aw (λx=>x=b) w { w with heap:=w.heap.setIfInBounds b ob }:=λob=>⟨rfl,rfl,rfl,by simp,λi _ hi=>(MapKept.heap_set hh).2 i hi⟩
    rcases MapKept.findNow_spec hkey es.toList 0 hk with ⟨q1,q2⟩|⟨j,e0,q1,q2,q3⟩
    ·refine As.upd H hdst (b:=b) (w':={ w with heap:=w.heap.setIfInBounds b (.map (es.push { key:=.int .i64 n,val:=a.eval ov,born:=cl }) (cl+1)) }) (Ab (Ah h3)) (by simp [A6.blk,hb,B0])
      (hexec _ (by simp [e2,Instr.mapUpdate,run_underlying ht,MapKept.run_getObj_map hh,MapKept.run_checkKey hkt hkey,MapKept.run_findKey hkt q1,MapKept.run_setObj_map _ hh,Result.andThen])) (hkeep _) (λE' hl hE=>?_)
     refine ⟨b,_,_,hb,(MapKept.heap_set hh).1,λx hx=>?_,λi j x y hi hj hxy=>?_,λi x m hi hx=>?_,λm hm=>?_,λx hx=>?_,?_⟩
     ·simp only [Array.toList_push,List.mem_append,List.mem_singleton] at hx
      rcases hx with hx|rfl
      ·exact hk x hx
      ·exact hkey
     ·rw [Array.getElem?_push] at hi hj
      split at hi
      ·cases hi
       split at hj
       ·omega
       ·exact absurd hxy.symm (q2 y (by rw [←Array.getElem?_toList] at hj;exact List.mem_of_getElem? hj))
      ·split at hj
       ·cases hj
        exact absurd hxy (q2 x (by rw [←Array.getElem?_toList] at hi;exact List.mem_of_getElem? hi))
       ·exact hdj i j x y hi hj hxy
     ·rw [Array.getElem?_push] at hi
      split at hi
      ·cases hi
       injection hx with _ hx
       subst hx
       dsimp only
       rw [if_pos rfl]
       exact ⟨e4.lasts hl,hnz⟩
      ·dsimp only
       rw [if_neg (λe=>by subst e;exact q2 x (by rw [←Array.getElem?_toList] at hi;exact List.mem_of_getElem? hi) hx)]
       exact ⟨(hr i x m hi hx).1.lasts hl,(hr i x m hi hx).2⟩
     ·have h5:m≠n:=λe=>by subst e;exact hm { key:=.int .i64 m,val:=a.eval ov,born:=cl } (by simp) rfl
      dsimp only
      rw [if_neg h5]
      exact hno.1 m λx hx=>hm x (by simp [hx])
     ·simp only [Array.toList_push,List.mem_append,List.mem_singleton] at hx
      rcases hx with hx|rfl
      ·exact Nat.lt_succ_of_lt (hno.2.1 x hx)
      ·exact Nat.lt_succ_self _
     ·rw [Array.toList_push,List.map_append,List.nodup_append]
      refine ⟨hno.2.2,by simp,λp hp q hq e=>?_⟩
      simp only [List.map_cons,List.map_nil,List.mem_singleton] at hq
      obtain ⟨x,hx,rfl⟩:=List.mem_map.1 hp
      have:=hno.2.1 x hx
      omega
    ·have hj:es[j]?=some e0:=by simpa using q2
     refine As.upd H hdst (b:=b) (w':={ w with heap:=w.heap.setIfInBounds b (.map (es.modify j λe=>{ e with key:=.int .i64 n,val:=a.eval ov }) cl) }) (Ab (Ah h3)) (by simp [A6.blk,hb,B0])
      (hexec _ (by simp [e2,Instr.mapUpdate,run_underlying ht,MapKept.run_getObj_map hh,MapKept.run_checkKey hkt hkey,MapKept.run_findKey hkt q1,hj,q3,MapKept.run_keyThatStays hkey,MapKept.run_setObj_map _ hh,Result.andThen])) (hkeep _) (λE' hl hE=>?_)
     have hget:∀ (i:Nat) (x:MapEntry),(es.modify j λe=>{ e with key:=.int .i64 n,val:=a.eval ov })[i]?=some x→∃ x0,es[i]?=some x0∧x.key=x0.key∧(i=j→x.val=a.eval ov)∧(i≠j→x=x0):=λi x hi=>by
      rw [Array.getElem?_modify] at hi
      split at hi
      ·rename_i e;subst e
       rw [hj] at hi;simp at hi;subst hi
       exact ⟨e0,hj,q3.symm,λ_=>rfl,λh=>absurd rfl h⟩
      ·rename_i e
       exact ⟨x,hi,rfl,λh=>absurd h.symm e,λ_=>rfl⟩
     refine ⟨b,_,_,hb,(MapKept.heap_set hh).1,λx hx=>?_,λi i' x y hi hi' hxy=>?_,λi x m hi hx=>?_,λm hm=>?_,λx hx=>?_,?_⟩
     ·obtain ⟨i,hi⟩:=List.mem_iff_getElem?.1 hx
      obtain ⟨x0,g1,g2,_,_⟩:=hget i x (by rw [←Array.getElem?_toList];exact hi)
      rw [g2]
      exact hk x0 (List.mem_of_getElem? (by rw [Array.getElem?_toList];exact g1))
     ·obtain ⟨x0,g1,g2,_,_⟩:=hget i x hi
      obtain ⟨y0,g3,g4,_,_⟩:=hget i' y hi'
      exact hdj i i' x0 y0 g1 g3 (by rw [←g2,←g4];exact hxy)
     ·obtain ⟨x0,g1,g2,g3,g4⟩:=hget i x hi
      by_cases e:i=j
      ·subst e
       rw [hj] at g1;cases g1
       rw [g2,q3] at hx
       injection hx with _ hx
       dsimp only
       rw [if_pos hx.symm,g3 rfl]
       exact ⟨e4.lasts hl,hnz⟩
      ·dsimp only
       rw [if_neg (λe'=>e (hdj i j x0 e0 g1 hj (by rw [←g2,hx,q3,e'])))]
       rw [g4 e]
       exact ⟨(hr i x0 m g1 (by rw [←g2];exact hx)).1.lasts hl,(hr i x0 m g1 (by rw [←g2];exact hx)).2⟩
     ·have hms:∀ x0,x0∈es.toList→x0.key≠.int .i64 m:=λx0 hx0 hk0=>by
       obtain ⟨i,hi⟩:=List.mem_iff_getElem?.1 hx0
       have hi:es[i]?=some x0:=by simpa using hi
       by_cases e:i=j
       ·subst e
        rw [hj] at hi;cases hi
        refine hm { e0 with key:=.int .i64 n,val:=a.eval ov } ?_ (by rw [q3] at hk0;exact hk0)
        refine List.mem_of_getElem? (i:=i) ?_
        rw [Array.getElem?_toList,Array.getElem?_modify,if_pos rfl,hj];rfl
       ·refine hm x0 ?_ hk0
        refine List.mem_of_getElem? (i:=i) ?_
        rw [Array.getElem?_toList,Array.getElem?_modify,if_neg (λh=>e h.symm)];exact hi
      have h5:m≠n:=λe=>by subst e;exact hms e0 (List.mem_of_getElem? q2) q3
      dsimp only
      rw [if_neg h5]
      exact hno.1 m hms
     ·rw [Array.toList_modify] at hx
      have hb2:x.born∈(es.toList.map (·.born)):=by
       rw [←K6 (f:=λe=>{ e with key:=.int .i64 n,val:=a.eval ov }) (λe=>rfl) es.toList j]
       exact List.mem_map.2 ⟨x,hx,rfl⟩
      obtain ⟨y,hy,e⟩:=List.mem_map.1 hb2
      rw [←e];exact hno.2.1 y hy
     ·rw [Array.toList_modify,K6 (f:=λe=>{ e with key:=.int .i64 n,val:=a.eval ov }) (λe=>rfl)]
      exact hno.2.2
  ·exact hs.elim
 ·exact hs.elim
end
end Go.Bx
end
section
namespace Go.Bx
open Go.RowKit
section
variable {c:B3} {β:A6} {st:St} {a:Act} {w:World} {o:Oper} {d:Nat}
theorem W0 {E:Nat→Prop} {place:Nat→Option (Nat×Nat)}:∀ (ps:List (Nat×Value)) (vs:List (Nat×Nat×V)) (arr:Array Value) (cs cs':List V),
  ps.length=vs.length→(∀ (j:Nat) (p:Nat×Value) (q:Nat×Nat×V),ps[j]?=some p→vs[j]?=some q→place p.1=some (q.1,q.2.1)∧Ai β E w p.2 q.2.2) →
  arr.size=cs.length→(∀ (j:Nat) (v:Value) (x:V),arr[j]?=some v→cs[j]?=some x→Ai β E w v x)→fillV cs vs=some cs' →
  ∃ arr',Instr.fill place arr ps=some arr'∧arr'.size=cs'.length∧∀ (j:Nat) (v:Value) (x:V),arr'[j]?=some v→cs'[j]?=some x→Ai β E w v x
 |[],vs,arr,cs,cs',hl,_,hz,hr,hf=>by
  have:vs=[]:=List.eq_nil_of_length_eq_zero (by simpa using hl.symm)
  subst this
  simp [fillV] at hf
  subst hf
  exact ⟨arr,by simp [Instr.fill],hz,hr⟩
 |p::ps,vs,arr,cs,cs',hl,hp,hz,hr,hf=>by
  cases vs with
  |nil=>simp at hl
  |cons q vs =>
   obtain ⟨off,sz,v⟩:=q
   obtain ⟨i,u⟩:=p
   obtain ⟨h1,h2⟩:=hp 0 _ _ rfl rfl
   simp only at h1 h2
   simp only [fillV] at hf
   split at hf
   ·rename_i ys hys
    split at hf
    ·rename_i hc
     simp at hc
     obtain ⟨g1,g2,_⟩:=h2.cells hys
     have hsz:(u.cells.toList.zipIdx.foldl (λcs (p:Value×Nat)=>cs.setIfInBounds (off+p.2) p.1) arr).size=arr.size:=Dx off _ _
     obtain ⟨arr',k1,k2,k3⟩:=W0 ps vs (u.cells.toList.zipIdx.foldl (λcs (p:Value×Nat)=>cs.setIfInBounds (off+p.2) p.1) arr) (putV cs off ys) cs' (by simpa using hl)
      (λj p q hj hq=>hp (j+1) p q (by simpa using hj) (by simpa using hq)) (by rw [hsz,I7,hz]) (λj v x hv hx=>by
       have:=Jg off u.cells.toList 0 arr j
       rw [this] at hv
       rw [Fm] at hx
       simp only [Nat.add_zero,Array.length_toList,g1] at hv
       by_cases hj:off≤j∧j<off+ys.length
       ·rw [if_pos (by omega)] at hv
        rw [if_pos (by omega)] at hx
        exact g2 _ v x (by simpa using hv) hx
       ·rw [if_neg (by omega)] at hv
        rw [if_neg (by omega)] at hx
        exact hr j v x hv hx) hf
     refine ⟨arr',?_,k2,k3⟩
     simp only [Instr.fill,h1]
     rw [if_neg (by simp [g1];omega),←Array.foldl_toList]
     simp only [Array.toList_zipIdx]
     exact k1
    ·cases hf
   ·cases hf
def Kp (P:Program) (fs:List Field):Option (List (Nat×Nat)):=
 match fs with
 |[]=>some []
 |f::l =>
  match Hm P f.type,Kp P l with
  |some s,some r=>some ((f.offset,s)::r)
  |_,_=>none
theorem Nv {P:Program} {w:World}:∀ {fs:List Field} {ps:List (Nat×Nat)},Kp P fs=some ps →
  (fs.mapM λ(f:Field)=>do pure (f.offset,←sizeOf f.type):Sem (List (Nat×Nat))).run P w=.ok ps w
 |[],ps,h=>by simp [Kp] at h;subst h;simp
 |f::l,ps,h=>by
  simp only [Kp] at h
  split at h
  ·rename_i s r h1 h2
   simp at h;subst h
   obtain ⟨i,hi,hi2⟩:=Option.map_eq_some_iff.1 h1
   have:=Nv (w:=w) h2
   simp [List.mapM_cons,sizeOf,typeInfo,hi,hi2] at this ⊢
   rw [this]
   simp
  ·cases h
theorem Nq:∀ (l:List (Nat×Nat×X)),(evParts st l).length=l.length
 |[]=>rfl
 |(_,_,_)::l=>by simp [evParts,Nq l]
theorem O3:∀ {l:List (Nat×Nat×X)} {j:Nat} {q:Nat×Nat×X},l[j]?=some q→(evParts st l)[j]?=some (q.1,q.2.1,evV st q.2.2)
 |[],j,q,h=>by simp at h
 |(x,y,z)::l,0,q,h=>by simp at h;subst h;simp [evParts]
 |(x,y,z)::l,j+1,q,h=>by simp at h;simp [evParts,O3 h]
theorem M5 {p:Bool}:∀ {l:List (Nat×Nat×X)} {j:Nat} {q:Nat×Nat×X},evPartsS p st l→l[j]?=some q→evS p st q.2.2
 |[],j,q,_,h=>by simp at h
 |(x,y,z)::l,0,q,hs,h=>by simp at h;subst h;exact hs.1
 |(x,y,z)::l,j+1,q,hs,h=>by simp at h;exact M5 hs.2 h
def Lb (place:Nat→Option (Nat×Nat)):List (Nat×Operand)→Option (List (Nat×Nat×X))
 |[]=>some []
 |(i,o)::l =>
  match place i,cX o,Lb place l with
  |some (off,sz),some x,some r=>some ((off,sz,x)::r)
  |_,_,_=>none
theorem Sh {place:Nat→Option (Nat×Nat)}:∀ {l:List (Nat×Operand)} {ps:List (Nat×Nat×X)},Lb place l=some ps →
  l.length=ps.length∧∀ (j:Nat) (p:Nat×Operand) (q:Nat×Nat×X),l[j]?=some p→ps[j]?=some q→place p.1=some (q.1,q.2.1)∧cX p.2=some q.2.2
 |[],ps,h=>by simp [Lb] at h;subst h;simp
 |(i,o)::l,ps,h=>by
  simp only [Lb] at h
  split at h
  ·rename_i off sz x r h1 h2 h3
   simp at h;subst h
   obtain ⟨e,hr⟩:=Sh h3
   refine ⟨by simp [e],λj p q hp hq=>?_⟩
   cases j with
   |zero=>simp at hp hq;subst hp;subst hq;exact ⟨h1,h2⟩
   |succ j=>simp at hp hq;exact hr j p q hp hq
  ·cases h
theorem Zx (H:Aa c β st a w) (hd:∀ d,o.dst=some d→d<c.nt) {t:TypeId} {ps:Array (Nat×Operand)} {z:List V} {parts:List (Nat×Nat×X)} {place:Nat→Option (Nat×Nat)} (ho:o.op=.build t ps) (hz:Fr c.P t=some z) (hp:Lb place ps.toList=some parts)
  (hrun:∀ (zc:Array Value) (vs:Array (Nat×Value)) (out:Array Value),(zeroValue t).run c.P w=.ok (.agg zc) w→Instr.fill place zc vs.toList=some out→(Instr.build t vs).run c.P w=.ok (.agg out) w)
  (hagz:∀ i zv,c.P.info? t=some i→i.zero=some zv→∃ zc,zv=.agg zc)
  (hs:(opR st true d (.build z parts)).side):As c β (st.app o.dst (opR st true d (.build z parts))) a o w:=by
 simp only [opR] at hs ⊢
 split at hs
 ·rename_i cs h1
  obtain ⟨i,hi,zv,hzz,hcs⟩:∃ i,c.P.info? t=some i∧∃ zv,i.zero=some zv∧gk zv.cells.toList=some z:=by
   unfold Fr at hz
   cases hi:c.P.info? t with
   |none=>simp [hi] at hz
   |some i =>
    simp only [hi,Option.bind_some] at hz
    cases hzz:i.zero with
    |none=>simp [hzz] at hz
    |some zv=>simp only [hzz] at hz;exact ⟨i,rfl,zv,hzz,hz⟩
  obtain ⟨zc,rfl⟩:=hagz i zv hi hzz
  obtain ⟨e1,hr⟩:=Cw (β:=β) (E:=Eo c.E0 β st.own) (w:=w) (arr:=zc) hcs
  obtain ⟨e2,hpr⟩:=Sh hp
  obtain ⟨out,k1,k2,k3⟩:=W0 (β:=β) (w:=w) (E:=Eo c.E0 β st.own) (place:=place) (ps.toList.map λ(p:Nat×Operand)=>(p.1,a.eval p.2)) (evParts st parts) zc z cs (by simp [Nq,←e2])
   (λj p q hj hq=>by
    rw [List.getElem?_map] at hj
    obtain ⟨p0,hp0,rfl⟩:=Option.map_eq_some_iff.1 hj
    have hjl:j<parts.length:=by
     have:=(List.getElem?_eq_some_iff.1 hp0).1
     omega
    have hq0:parts[j]?=some parts[j]:=List.getElem?_eq_getElem hjl
    rw [O3 hq0] at hq
    simp at hq
    subst hq
    obtain ⟨g1,g2⟩:=hpr j p0 _ hp0 hq0
    exact ⟨g1,Ad H g2 (M5 hs hq0)⟩) e1 hr h1
  refine As.val H hd (v:=.agg out) ?_ (.ag _ _ k2 k3)
  have hzr:(zeroValue t).run c.P w=.ok (.agg zc) w:=by simp [zeroValue,typeInfo,hi,hzz]
  have:=hrun zc (ps.map λ(p:Nat×Operand)=>(p.1,a.eval p.2)) out hzr (by simpa using k1)
  exact E7 (s:=Instr.build t (ps.map λ(p:Nat×Operand)=>(p.1,a.eval p.2))) (by simp [execOp,ho]) this
 ·exact hs.elim
theorem Tx {t:TypeId} {fs:Array Field} {pl:List (Nat×Nat)} (ht:c.P.underlying t=some (.struct fs)) (hp:Kp c.P fs.toList=some pl) :
  ∀ (zc:Array Value) (vs:Array (Nat×Value)) (out:Array Value),(zeroValue t).run c.P w=.ok (.agg zc) w→Instr.fill (λ(i:Nat)=>pl[i]?) zc vs.toList=some out→(Instr.build t vs).run c.P w=.ok (.agg out) w:=by
 intro zc vs out h1 h2
 have h3:=Nv (w:=w) hp
 have h4:(fs.mapM λ(f:Field)=>do pure (f.offset,←sizeOf f.type):Sem (Array (Nat×Nat))).run c.P w=.ok pl.toArray w:=by
  rw [Array.mapM_eq_mapM_toList]
  simp only [Sem.run_map,h3,Result.andThen_ok]
 simp only [Instr.build,Sem.run_bind,h1,Result.andThen_ok,run_underlying ht,h4,Value.cells]
 have h5:(λ(x:Nat)=>pl.toArray[x]?)=λ(i:Nat)=>pl[i]?:=by funext i;simp
 rw [h5,h2]
 rfl
theorem V8 {t e:TypeId} {n sz:Nat} (ht:c.P.underlying t=some (.array n e)) (hz:Hm c.P e=some sz) :
  ∀ (zc:Array Value) (vs:Array (Nat×Value)) (out:Array Value),(zeroValue t).run c.P w=.ok (.agg zc) w→Instr.fill (λi=>some (i*sz,sz)) zc vs.toList=some out→(Instr.build t vs).run c.P w=.ok (.agg out) w:=by
 intro zc vs out h1 h2
 obtain ⟨i,hi,hi2⟩:=Option.map_eq_some_iff.1 hz
 have hszr:(sizeOf e).run c.P w=.ok sz w:=by simp [sizeOf,typeInfo,hi,hi2]
 simp only [Instr.build,Sem.run_bind,h1,Result.andThen_ok,run_underlying ht,hszr,Value.cells,h2]
 rfl
end
end Go.Bx
end
section
namespace Go.Bx
open Go.RowKit
section
variable {c:B3} {β:A6} {st:St} {a:Act} {w:World} {o:Oper} {d:Nat}
theorem av (H:Aa c β st a w) (hd:∀ d,o.dst=some d→d<c.nt) {neg:Bool} {t t' e:TypeId} {ox:Operand} {x:X} (ho:o.op=.binOp (if neg then .neq else .eql) t ox (.const (.slice none 0 0)) t') (ht:c.P.underlying t=some (.slice e)) (hx:cX ox=some x)
  (hs:(opR st true d (.isnil neg x)).side):As c β (st.app o.dst (opR st true d (.isnil neg x))) a o w:=by
 simp only [opR] at hs ⊢
 split at hs
 ·rename_i full sz n f h1
  have e1:=Ad H hx hs
  rw [h1] at e1
  generalize hu:a.eval ox=u at *
  have hq:∀ (A:Option Addr) (m cc:Nat),(Op.equal t (.slice A m cc) (.slice none 0 0)).run c.P w=.ok A.isNone w:=λA m cc=>by
   have h:∀ d:Nat,(Op.equalIn (d+1) t (.slice A m cc) (.slice none 0 0)).run c.P w=.ok A.isNone w:=λd=>by cases A<;>simp [Op.equalIn,run_underlying ht]
   simp [Op.equal,Op.maxDepth,h 9999]
  have key:∃ A m cc,u=.slice A m cc∧(A.isNone=true→n=0):=by
   cases e1 with
   |d _ _ e1 =>
    cases e1 with
    |nil A _ _ _=>exact ⟨A,0,0,rfl,λ_=>rfl⟩
    |sl=>exact ⟨_,_,_,rfl,λh=>by cases h⟩
  obtain ⟨A,m,cc,rfl,hn⟩:=key
  have hk:a.eval (.const (.slice none 0 0))=.slice none 0 0:=rfl
  cases neg
  ·refine As.val H hd (v:=.bool A.isNone) ?_ (.d _ _ (.qb _ _ _ hn (λ_=>trivial)))
   simp [execOp,ho,hu,hk,eqGuard,binOp,hq]
  ·refine As.val H hd (v:=.bool (!A.isNone)) ?_ (.d _ _ (.qb _ _ _ (λ_=>trivial) (λh=>hn (by simpa using h))))
   simp [execOp,ho,hu,hk,eqGuard,binOp,hq]
 ·rename_i k h1
  split at hs
  ·rename_i e0 sz n f h2
   have e1:=Ad H hx hs
   rw [h1] at e1
   obtain ⟨v,xs,hb,hrow,_,_⟩:=Bb H h2
   generalize hu:a.eval ox=u at *
   have hq:∀ (A:Option Addr) (m cc:Nat),(Op.equal t (.slice A m cc) (.slice none 0 0)).run c.P w=.ok A.isNone w:=λA m cc=>by
    have h:∀ d:Nat,(Op.equalIn (d+1) t (.slice A m cc) (.slice none 0 0)).run c.P w=.ok A.isNone w:=λd=>by cases A<;>simp [Op.equalIn,run_underlying ht]
    simp [Op.equal,Op.maxDepth,h 9999]
   have key:∃ A m cc,u=.slice A m cc∧(A.isNone=true→n=0):=by
    cases e1 with
    |osl _ _ hb' _ =>
     rw [hb] at hb'
     injection hb' with hb'
     subst hb'
     rcases hrow.2 with ⟨⟨A,rfl⟩,rfl⟩|⟨g,cap,cur,rfl,_⟩
     ·exact ⟨A,0,0,rfl,λ_=>rfl⟩
     ·exact ⟨_,_,_,rfl,λh=>by cases h⟩
   obtain ⟨A,m,cc,rfl,hn⟩:=key
   have hk:a.eval (.const (.slice none 0 0))=.slice none 0 0:=rfl
   cases neg
   ·refine As.val H hd (v:=.bool A.isNone) ?_ (.d _ _ (.qb _ _ _ hn (λ_=>trivial)))
    simp [execOp,ho,hu,hk,eqGuard,binOp,hq]
   ·refine As.val H hd (v:=.bool (!A.isNone)) ?_ (.d _ _ (.qb _ _ _ (λ_=>trivial) (λh=>hn (by simpa using h))))
    simp [execOp,ho,hu,hk,eqGuard,binOp,hq]
  ·exact hs.elim
 ·exact hs.elim
theorem iy (H:Aa c β st a w) (hd:∀ d,o.dst=some d→d<c.nt) {neg:Bool} {t t':TypeId} {e:Array _} {ox:Operand} {x:X} (ho:o.op=.binOp (if neg then .neq else .eql) t ox (.const .nilIface) t') (ht:c.P.underlying t=some (.interface e)) (hx:cX ox=some x)
  (hs:(opR st true d (.nili neg x)).side):As c β (st.app o.dst (opR st true d (.nili neg x))) a o w:=by
 simp only [opR] at hs ⊢
 have hk:a.eval (.const .nilIface)=.nilIface:=rfl
 split at hs
 ·rename_i τ xv h1
  have e1:=Ad H hx hs
  rw [h1] at e1
  generalize hu:a.eval ox=u at *
  obtain ⟨v,rfl⟩:∃ v,u=.iface τ v:=by cases e1;exact ⟨_,rfl⟩
  have hq:(Op.equal t (.iface τ v) .nilIface).run c.P w=.ok false w:=by
   have h:∀ d:Nat,(Op.equalIn (d+1) t (.iface τ v) .nilIface).run c.P w=.ok false w:=λd=>by simp [Op.equalIn,run_underlying ht]
   simp [Op.equal,Op.maxDepth,h 9999]
  cases neg
  ·refine As.val H hd (v:=.bool false) ?_ (.d _ _ (.bool _))
   simp [execOp,ho,hu,hk,eqGuard,binOp,hq]
  ·refine As.val H hd (v:=.bool true) ?_ (.d _ _ (.bool _))
   simp [execOp,ho,hu,hk,eqGuard,binOp,hq]
 ·rename_i h1
  have e1:=Ad H hx hs
  rw [h1] at e1
  generalize hu:a.eval ox=u at *
  obtain rfl:u=.nilIface:=by
   cases e1 with
   |d _ _ e1=>cases e1;rfl
  have hq:(Op.equal t .nilIface .nilIface).run c.P w=.ok true w:=by
   have h:∀ d:Nat,(Op.equalIn (d+1) t .nilIface .nilIface).run c.P w=.ok true w:=λd=>by simp [Op.equalIn,run_underlying ht]
   simp [Op.equal,Op.maxDepth,h 9999]
  cases neg
  ·refine As.val H hd (v:=.bool true) ?_ (.d _ _ (.bool _))
   simp [execOp,ho,hu,hk,eqGuard,binOp,hq]
  ·refine As.val H hd (v:=.bool false) ?_ (.d _ _ (.bool _))
   simp [execOp,ho,hu,hk,eqGuard,binOp,hq]
 ·exact hs.elim
theorem s_cap (H:Aa c β st a w) (hd:∀ d,o.dst=some d→d<c.nt) {t e:TypeId} {ox:Operand} {x:X} (ho:o.op=.call { callee:=.builtin .cap,args:=#[ox],argTypes:=#[t] }) (ht:c.P.underlying t=some (.slice e)) (hx:cX ox=some x)
  (hs:(opR st true d (.cap x)).side):As c β (st.app o.dst (opR st true d (.cap x))) a o w:=by
 simp only [opR] at hs ⊢
 have hrun:∀ A (n:Nat) cp,a.eval ox=.slice A n cp→(execOp a.eval o).run c.P w=.ok (.value (.int .i64 cp)) w:=λA n cp he=>by
  simp [execOp,ho,resolve,invoke,builtin,Builtin.cap_,run_underlying ht,he,goInt]
 split at hs
 ·rename_i sz n f h1
  have e1:=Ad H hx hs
  rw [h1] at e1
  generalize hu:a.eval ox=u at *
  cases e1 with
  |d _ _ e1 =>
   cases e1 with
   |nil _ _ _ _=>exact As.val H hd (hrun _ _ _ rfl) (Cx _ _)
   |sl _ _ _ _ b off cp g hc hf hl hcell hrel =>
    have:=hf rfl
    subst this
    exact As.val H hd (hrun _ _ _ rfl) (Cx _ _)
 ·exact hs.elim
theorem s_apz (H:Aa c β st a w) (hdst:o.dst=some d) (hd:d<c.nt) {t t' e:TypeId} {kn:IntKind} {sz bytes:Nat} {zd:List D} {ox oy:Operand} {x y:X} (ho:o.op=.call { callee:=.builtin .append,args:=#[ox,oy],argTypes:=#[t,t'] }) (ht:c.P.underlying t=some (.slice e)) (ht':c.P.underlying t'=some (.int kn))
  {i:TypeInfo} {z:Value} (hi:c.P.info? e=some i) (hz:i.zero=some z) (hsize:i.size=sz) (hby:i.bytes=bytes) (hzs:z.cells.size=sz) (hzd:gk z.cells.toList=some (zd.map .d)) (hpos:0<sz) (hx:cX ox=some x) (hy:cX oy=some y)
  (hs:(opR st true d (.apz e sz bytes zd x y)).side):As c β (st.app o.dst (opR st true d (.apz e sz bytes zd x y))) a o w:=by
 simp only [opR] at hs ⊢
 split at hs
 ·rename_i sz1 f kq m h1 h2
  obtain ⟨hsx,hsy,h0,hb,h63,hn⟩:=hs
  have e1:=Ad H hx hsx
  have e2:=Ad H hy hsy
  rw [h1] at e1
  rw [h2] at e2
  have e2:=Be e2
  generalize hu:a.eval ox=u at *
  have hA:∃ A,u=.slice A 0 0:=by
   cases e1 with
   |d _ _ e1 =>
    cases e1 with
    |nil A _ _ _=>exact ⟨A,rfl⟩
    |sl _ _ _ _ b off cp g hc hf hl hcell hrel=>have:=hf rfl;subst this;exact ⟨_,rfl⟩
  obtain ⟨A,rfl⟩:=hA
  obtain ⟨n,rfl⟩:∃ n:Nat,m=(n:Int):=⟨m.toNat,by omega⟩
  rw [Int.toNat_natCast] at hb h63 ⊢
  have hn0:0<n:=by omega
  have hsmall:n≤9223372036854775807:=by simp only [maxLen] at h63;omega
  have hr:=Lib.run_append_grow_zeros (P:=c.P) w t t' o.type e i z kq kn ht ht' hi hz A 0 0 [] (by cases A<;>simp [Builtin.firstCells,loadCells,loadCellsFrom]) n hn0 (by omega) (by omega) (by omega) (by rw [hby];omega) (by
   have:=growslice_fits (need:=0+n) (old:=0) (bytes:=i.bytes) (by omega) (by rw [hby,Nat.zero_add];exact hb)
   exact this)
  simp only [Nat.zero_add] at hr
  have hnews:(Builtin.zeroCells z.cells n).size=n*sz:=by rw [size_zeroCells,hzs]
  have hrow:=Ki (w:=w) (e:=e) (z:=z) (sz:=sz) (n:=0) (m:=n) (old:=0) (xs:=[]) (news:=(Builtin.zeroCells z.cells n).toList) hzs (by simp) (by simpa using hnews) (by omega) (by omega)
  simp only [Nat.zero_add,List.nil_append,Array.toArray_toList] at hrow
  obtain ⟨q1,q2⟩:=Cw (β:=λ_=>none) (E:=λ_=>False) (w:=w) (arr:=z.cells) hzd
  have hzl:zd.length=sz:=by rw [←hzs,q1];simp
  refine As.mk H hdst hd hn (v:=.slice (some ⟨w.heap.size,0,none⟩) n (grownCap w n 0 e)) (w':=w.drew.alloc (.cells (#[]++Builtin.zeroCells z.cells n++Builtin.zeroCells z.cells (grownCap w n 0 e-n)) e)) ?_ (D7 _ _ _) (λb hb=>?_) (λβ' E' hβ hk hl=>?_) (λβ' E' hk=>.osl _ _ hk rfl)
  ·simp only [execOp,ho,resolve,invoke,builtin,Sem.run_bind,Sem.run_pure,Result.andThen_ok,List.map_toArray,List.map_cons,List.map_nil,hu,e2,hr]
  ·simp only [B0] at hb
   split at hb
   ·cases hb
   ·simp at hb;subst hb;exact ⟨Nat.le_refl _,by simp⟩
  ·obtain ⟨q1,q2⟩:=Cw (β:=β') (E:=E') (w:=w.drew.alloc (.cells (#[]++Builtin.zeroCells z.cells n++Builtin.zeroCells z.cells (grownCap w n 0 e-n)) e)) (arr:=z.cells) hzd
   refine ⟨_,(Builtin.zeroCells z.cells n).toList,hk,hrow,λi' hi'=>hzl,λi' j hi' hj x hx=>?_⟩
   have hlt:i'*sz+j<n*sz:=by
    have:(i'+1)*sz≤n*sz:=Nat.mul_le_mul_right _ hi'
    rw [Nat.add_mul] at this;omega
   have hm:(i'*sz+j) % sz=j:=by rw [Nat.mul_comm,Nat.mul_add_mod,Nat.mod_eq_of_lt hj]
   have hjz:j<z.cells.size:=by omega
   refine ⟨z.cells[j],?_,J3 (q2 j z.cells[j] (.d x) (Array.getElem?_eq_getElem hjz) (by simp [hx]))⟩
   simp [Builtin.zeroCells,hlt,hzs,hm,getElem!_pos z.cells j hjz]
 ·exact hs.elim
theorem As.updu (H:Aa c β st a w) (hd:∀ d,o.dst=some d→d<c.nt) {k b:Nat} {ow:Own} {sd:Prop} {rd:List Nat} {w':World} {v:Value} (hkk:k∈keysO st.own) (hb:β.blk k=some b)
  (hr:(execOp a.eval o).run c.P w=.ok (.value v) w') (hk:Aw (λx=>x=b) w w') (ho:∀ E',B5 (Eo c.E0 β st.own) E' w w'→E'=Eo c.E0 β st.own→C9 β E' w' k ow) :
  As c β (st.app o.dst { side:=sd,val:=.un,upd:=[(k,some ow)],rd:=rd }) a o w:=by
 refine ⟨v,w',β,.inl hr,A6.le.refl β,?_⟩
 have h1:=H.updOwn hkk (hk.mono (λx e=>by rw [e,hb])) ho
 cases hdst:o.dst with
 |none=>simpa [St.app,setE,applyU,newN,H.kn k hkk,Act.put,hdst] using h1
 |some d =>
  have h2:=h1.setV (hd d hdst) (.un v)
  simpa [St.app,setE,applyU,newN,H.kn k hkk,Act.put,hdst] using h2
theorem s_clr (H:Aa c β st a w) (hd:∀ d,o.dst=some d→d<c.nt) {t e:TypeId} {sz:Nat} {zd:List D} {ox:Operand} {x:X} (ho:o.op=.call { callee:=.builtin .clear,args:=#[ox],argTypes:=#[t] }) (ht:c.P.underlying t=some (.slice e))
  {i:TypeInfo} {z:Value} (hi:c.P.info? e=some i) (hz:i.zero=some z) (hzs:z.cells.size=sz) (hzd:gk z.cells.toList=some (zd.map .d)) (hx:cX ox=some x)
  (hs:(opR st true d (.clr sz zd x)).side):As c β (st.app o.dst (opR st true d (.clr sz zd x))) a o w:=by
 simp only [opR] at hs ⊢
 split at hs
 ·rename_i k sz1 lo n h1
  split at hs
  ·rename_i e0 sz2 N f h3
   obtain ⟨hsx,rfl,rfl⟩:=hs
   have e1:=Ad H hx hsx
   rw [h1] at e1
   generalize hu:a.eval ox=u at *
   obtain ⟨v,xs,hb,hrow,hfl,hfr⟩:=Bb H h3
   have hkk:=Ab (Ah h3)
   have hzero:(zeroValue e).run c.P w=.ok z w:=by simp [zeroValue,typeInfo,hi,hz]
   have hexec:∀ w',(∀ ty,(Builtin.clear_ #[t] ty #[u]).run c.P w=.ok (.tuple #[]) w')→(execOp a.eval o).run c.P w=.ok (.value (.tuple #[])) w':=λw' h=>by
    simp [execOp,ho,resolve,invoke,builtin,hu,h]
   by_cases hn:n=0
   ·subst hn
    have hw:(execOp a.eval o).run c.P w=.ok (.value (.tuple #[])) w:=by
     refine hexec _ λty=>?_
     cases e1 with
     |osub _ _ _ _ b m c aa hb hn ha=>simp [Builtin.clear_,run_underlying ht]
     |osub0 _ _ A hb=>cases A<;>simp [Builtin.clear_,run_underlying ht]
    have hef:(λi=>if lo≤i∧i<lo+0 then zd else f i)=f:=by funext i;rw [if_neg (by omega)]
    rw [hef]
    have hset:Aa c β ⟨st.env,setO st.own k (.row e0 sz2 N f),st.nm⟩ a w:=H.updOwn hkk (Aw.refl _ _) (λE' hl hE=>hE▸⟨v,xs,hb,hrow,hfl,hfr⟩)
    refine ⟨.tuple #[],w,β,.inl hw,A6.le.refl β,?_⟩
    cases hdst:o.dst with
    |none=>simpa [St.app,setE,applyU,newN,H.kn k hkk,Act.put,hdst] using hset
    |some d =>
     have h2:=hset.setV (hd d hdst) (.un (.tuple #[]))
     simpa [St.app,setE,applyU,newN,H.kn k hkk,Act.put,hdst] using h2
   ·obtain ⟨b,m,c',hbk,hle,hue⟩:∃ b m c',β k=some (.slice (some ⟨b,0,none⟩) m c')∧lo+n≤m∧u=.slice (some ⟨b,lo*sz2,none⟩) n (c'-lo):=by
     cases e1 with
     |osub _ _ _ _ b m c aa hb hn' ha=>exact ⟨b,m,c,hb,hn',by rw [ha (.inl (by omega))]⟩
     |osub0 _ _ A hb=>exact absurd rfl hn
    rw [hb] at hbk
    injection hbk with hbk
    rcases hrow.2 with ⟨⟨A,rfl⟩,rfl⟩|⟨gb,cap,cur,rfl,hc0,hh,hnc,hcm,hcs,htk⟩
    ·cases hbk;omega
    ·injection hbk with q1 q2 q3
     injection q1 with q1
     injection q1 with q1
     subst q1;subst q2;subst q3
     obtain ⟨z1,z2⟩:=Cw (β:=λ_=>none) (E:=λ_=>False) (w:=w) (arr:=z.cells) hzd
     have hzl:zd.length=sz2:=by rw [←hzs,z1];simp
     have hnl:(Builtin.zeroCells z.cells n).toList.length=n*sz2:=by rw [Array.length_toList,size_zeroCells,hzs]
     have hle2:(lo+n)*sz2≤N*sz2:=Nat.mul_le_mul_right _ hle
     have hle3:N*sz2≤cap*sz2:=Nat.mul_le_mul_right _ hnc
     rw [Nat.add_mul] at hle2
     have hget:∀ (E:Nat→Prop) i j,i<n→j<sz2→∀ y,zd[j]?=some y→∃ u,(Builtin.zeroCells z.cells n).toList[i*sz2+j]?=some u∧Cg E w u y:=λE i j hi hj y hy=>by
      obtain ⟨z1,z2⟩:=Cw (β:=λ_=>none) (E:=E) (w:=w) (arr:=z.cells) hzd
      have hlt:i*sz2+j<n*sz2:=by
       have:(i+1)*sz2≤n*sz2:=Nat.mul_le_mul_right _ hi
       rw [Nat.add_mul] at this;omega
      have hm:(i*sz2+j) % sz2=j:=by rw [Nat.mul_comm,Nat.mul_add_mod,Nat.mod_eq_of_lt hj]
      have hjz:j<z.cells.size:=by omega
      refine ⟨z.cells[j],?_,J3 (z2 j z.cells[j] (.d y) (Array.getElem?_eq_getElem hjz) (by simp [hy]))⟩
      simp [Builtin.zeroCells,hlt,hzs,hm,getElem!_pos z.cells j hjz]
     have h1c:∀ u,u∈(Builtin.zeroCells z.cells n).toList→u.oneCell'=true:=λu hu=>by
      obtain ⟨p,hp1,hp2⟩:=List.getElem_of_mem hu
      rw [hnl] at hp1
      have hs0:0<sz2:=Nat.pos_of_ne_zero λe=>by rw [e] at hp1;omega
      have hq1:p / sz2<n:=(Nat.div_lt_iff_lt_mul hs0).2 hp1
      have hq2:p % sz2<sz2:=Nat.mod_lt _ hs0
      obtain ⟨y,hy⟩:∃ y,zd[p % sz2]?=some y:=⟨zd[p % sz2]'(by omega),List.getElem?_eq_getElem _⟩
      obtain ⟨u',g1,g2⟩:=hget (λ_=>False) (p / sz2) (p % sz2) hq1 hq2 y hy
      rw [Nat.mul_comm,Nat.div_add_mod,List.getElem?_eq_getElem (by rw [hnl];exact hp1),hp2] at g1
      injection g1 with g1
      rw [g1];exact g2.one
     have hst:=run_storeCells_at c.P gb (lo*sz2) e0 (Builtin.zeroCells z.cells n).toList 0 cur w hh (by simp only [Nat.add_zero];rw [hnl];omega) h1c
     have hrun:∀ ty,(Builtin.clear_ #[t] ty #[u]).run c.P w=.ok (.tuple #[]) (w.setRow gb (Ds cur (lo*sz2) (Builtin.zeroCells z.cells n).toList)):=λty=>by
      obtain ⟨n',rfl⟩:∃ n',n=n'+1:=⟨n-1,by omega⟩
      rw [hue]
      simp only [Nat.add_zero] at hst
      simp [Builtin.clear_,run_underlying ht,hzero,hst,Ds]
     refine As.updu H hd (b:=gb) hkk (by simp [A6.blk,hb,B0];omega) (hexec _ hrun) (Cu _ _ _ _ rfl) (λE' hl hE=>?_)
     exact Ti (lo:=lo) (q:=n) (g:=λ_=>zd) hl hb hc0 hh hnc hcm hcs htk hfl hfr hle hnl (λi hi=>hzl) (λi j hi hj y hy=>hget _ i j hi hj y hy)
  ·exact hs.elim
 ·exact hs.elim
end
end Go.Bx
end
