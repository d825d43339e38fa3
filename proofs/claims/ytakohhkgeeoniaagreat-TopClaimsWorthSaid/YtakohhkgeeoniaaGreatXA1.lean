import Derived.WalkKit
import Derived.Deep.Draws
import Derived.MapKept
import Derived.CallsIn
import Derived.Laws.StructEq
import Derived.ChangeKeysEq
set_option linter.unusedSimpArgs false
set_option linter.unusedVariables false
set_option maxHeartbeats 8000000
section
namespace Go.Bx
inductive D where
 |int (k:IntKind) (n:Int)
 |bool (b:Bool)
 |raw (v:Value)
 |sl (full:Bool) (sz n:Nat) (f:Nat→List D)
 |qb (p q:Prop)
inductive Cg (E:Nat→Prop) (w:World):Value→D→Prop where
 |int (k:IntKind) (n:Int):Cg E w (.int k n) (.int k n)
 |bool (b:Bool):Cg E w (.bool b) (.bool b)
 |raw (v:Value) (h:v.oneCell'=true):Cg E w v (.raw v)
 |qb (b:Bool) (p q:Prop) (h1:b=true→p) (h2:b=false→q):Cg E w (.bool b) (.qb p q)
 |nil (A:Option Addr) (full:Bool) (sz:Nat) (f:Nat→List D):Cg E w (.slice A 0 0) (.sl full sz 0 f)
 |sl (full:Bool) (sz n:Nat) (f:Nat→List D) (b off c:Nat) (g:Nat→Nat→Value) (hc:n≤c) (hf:full=true→c=n)
   (hl:∀ i,i<n→(f i).length=sz)
   (hcell:∀ i j,i<n→j<sz→¬ E b∧w.cell? ⟨b,off+(i*sz+j),none⟩=some (g i j))
   (hrel:∀ i j,i<n→j<sz→∀ x,(f i)[j]?=some x→Cg E w (g i j) x) :
   Cg E w (.slice (some ⟨b,off,none⟩) n c) (.sl full sz n f)
theorem ai {w:World} {a:Addr} {v:Value} (h:w.cell? a=some v):a.block<w.heap.size:=World.block_lt_of_cell? w a h
def B5 (E E':Nat→Prop) (w w':World):Prop:=∀ b,b<w.heap.size→¬ E b→¬ E' b∧w'.heap[b]?=w.heap[b]?
theorem B5.refl (E:Nat→Prop) (w:World):B5 E E w w:=λ_ _ h=>⟨h,rfl⟩
theorem B5.cell {E E':Nat→Prop} {w w':World} (h:B5 E E' w w') {a:Addr} {v:Value} (hE:¬ E a.block) (hc:w.cell? a=some v) :
  ¬ E' a.block∧w'.cell? a=some v:=by
 obtain ⟨h1,h2⟩:=h a.block (ai hc) hE
 exact ⟨h1,(World.cell?_of_block h2).trans hc⟩
def Le (E E':Nat→Prop) (w w':World):Prop:=∀ (a:Addr) (v:Value),¬ E a.block→w.cell? a=some v→¬ E' a.block∧w'.cell? a=some v
theorem B5.c {E E':Nat→Prop} {w w':World} (h:B5 E E' w w'):Le E E' w w':=λ_ _ hE hc=>h.cell hE hc
theorem Cg.lastsC {E E':Nat→Prop} {w w':World} (hg:Le E E' w w') {v:Value} {d:D} (h:Cg E w v d):Cg E' w' v d:=by
 induction h with
 |int k n=>exact .int k n
 |bool b=>exact .bool b
 |raw v h=>exact .raw v h
 |qb b p q h1 h2=>exact .qb b p q h1 h2
 |nil A full sz f=>exact .nil A full sz f
 |sl full sz n f b off c g hc hf hl hcell _ ih =>
  exact .sl full sz n f b off c g hc hf hl (λi j hi hj=>hg ⟨b,off+(i*sz+j),none⟩ _ (hcell i j hi hj).1 (hcell i j hi hj).2) ih
theorem Cg.lasts {E E':Nat→Prop} {w w':World} (hg:B5 E E' w w') {v:Value} {d:D} (h:Cg E w v d):Cg E' w' v d:=h.lastsC hg.c
inductive V where
 |un
 |d (x:D)
 |mem (cs:List D)
 |own (k off:Nat)
 |osl (k:Nat)
 |osub (k sz lo n:Nat)
 |optr (k sz i off:Nat)
 |fn (f:Fn) (first cap:List V)
 |ifc (t:TypeId) (v:V)
 |ag (cs:List V)
 |tup (vs:List V)
 |gd (c:Bool) (v:V)
instance:Inhabited V:=⟨.un⟩
abbrev A6:=Nat→Option Value
inductive Ai (β:A6) (E:Nat→Prop) (w:World):Value→V→Prop where
 |un (v:Value):Ai β E w v .un
 |d (v:Value) (x:D) (h:Cg E w v x):Ai β E w v (.d x)
 |mem (cs:List D) (b off:Nat) (g:Nat→Value) (hcell:∀ j,j<cs.length→¬ E b∧w.cell? ⟨b,off+j,none⟩=some (g j))
   (hrel:∀ j x,cs[j]?=some x→Cg E w (g j) x):Ai β E w (.pointer (some ⟨b,off,none⟩)) (.mem cs)
 |own (k off b:Nat) (h:β k=some (.pointer (some ⟨b,0,none⟩))):Ai β E w (.pointer (some ⟨b,off,none⟩)) (.own k off)
 |osl (k:Nat) (v:Value) (h:β k=some v) (h1:v.oneCell'=true):Ai β E w v (.osl k)
 |osub (k sz lo n b m c:Nat) (a:Addr) (h:β k=some (.slice (some ⟨b,0,none⟩) m c)) (hn:lo+n≤m) (ha:0<n∨lo=0→a=⟨b,lo*sz,none⟩) :
   Ai β E w (.slice (some a) n (c-lo)) (.osub k sz lo n)
 |osub0 (k sz:Nat) (A:Option Addr) (h:β k=some (.slice A 0 0)):Ai β E w (.slice A 0 0) (.osub k sz 0 0)
 |optr (k sz i off b m c:Nat) (h:β k=some (.slice (some ⟨b,0,none⟩) m c)):Ai β E w (.pointer (some ⟨b,i*sz+off,none⟩)) (.optr k sz i off)
 |fn (f:Fn) (fi ca:Array Value) (first cap:List V) (h1:fi.size=first.length) (h2:ca.size=cap.length)
   (r1:∀ (j:Nat) (v:Value) (x:V),fi[j]?=some v→first[j]?=some x→Ai β E w v x) (r2:∀ (j:Nat) (v:Value) (x:V),ca[j]?=some v→cap[j]?=some x→Ai β E w v x) :
   Ai β E w (.func f fi ca) (.fn f first cap)
 |ifc (t:TypeId) (v:Value) (x:V) (h:Ai β E w v x):Ai β E w (.iface t v) (.ifc t x)
 |ag (arr:Array Value) (cs:List V) (h1:arr.size=cs.length) (r1:∀ (j:Nat) (v:Value) (x:V),arr[j]?=some v→cs[j]?=some x→Ai β E w v x):Ai β E w (.agg arr) (.ag cs)
 |tup (arr:Array Value) (cs:List V) (h1:arr.size=cs.length) (r1:∀ (j:Nat) (v:Value) (x:V),arr[j]?=some v→cs[j]?=some x→Ai β E w v x):Ai β E w (.tuple arr) (.tup cs)
 |gd (c:Bool) (v:Value) (x:V) (h:c=true→Ai β E w v x) (h':c=false→v=undef):Ai β E w v (.gd c x)
mutual
def V.names:V→List Nat
 |.own k _=>[k]
 |.osl k=>[k]
 |.osub k _ _ _=>[k]
 |.optr k _ _ _=>[k]
 |.fn _ a b=>A5 a++A5 b
 |.ifc _ v=>v.names
 |.ag cs=>A5 cs
 |.tup cs=>A5 cs
 |.gd _ v=>v.names
 |.un=>[]
 |.d _=>[]
 |.mem _=>[]
def A5:List V→List Nat
 |[]=>[]
 |v::l=>v.names++A5 l
end
theorem Bz {l:List V} {j:Nat} {x:V} (h:l[j]?=some x):∀ k,k∈x.names→k∈A5 l:=by
 induction l generalizing j with
 |nil=>simp at h
 |cons v l ih =>
  intro k hk
  cases j with
  |zero=>simp at h;subst h;simp [A5,hk]
  |succ j=>simp at h;simp [A5,ih h k hk]
theorem Ai.lastsC {β β':A6} {E E':Nat→Prop} {w w':World} (hg:Le E E' w w') {v:Value} {x:V} (h:Ai β E w v x) :
  (∀ k,k∈x.names→β' k=β k)→Ai β' E' w' v x:=by
 induction h with
 |un v=>exact λ_=>.un v
 |d v x h=>exact λ_=>.d v x (h.lastsC hg)
 |mem cs b off g hcell hrel =>
  exact λ_=>.mem cs b off g (λj hj=>hg ⟨b,off+j,none⟩ _ (hcell j hj).1 (hcell j hj).2) (λj x hx=>(hrel j x hx).lastsC hg)
 |own k off b h=>exact λhn=>.own k off b ((hn k (by simp [V.names])).trans h)
 |osl k v h h1=>exact λhn=>.osl k v ((hn k (by simp [V.names])).trans h) h1
 |osub k sz lo n b m c a h hn' ha=>exact λhn=>.osub k sz lo n b m c a ((hn k (by simp [V.names])).trans h) hn' ha
 |osub0 k sz A h=>exact λhn=>.osub0 k sz A ((hn k (by simp [V.names])).trans h)
 |optr k sz i off b m c h=>exact λhn=>.optr k sz i off b m c ((hn k (by simp [V.names])).trans h)
 |fn f fi ca first cap h1 h2 _ _ ih1 ih2 =>
  exact λhn=>.fn f fi ca first cap h1 h2 (λj v x hv hx=>ih1 j v x hv hx λk hk=>hn k (by simp [V.names,Bz hx k hk]))
   (λj v x hv hx=>ih2 j v x hv hx λk hk=>hn k (by simp [V.names,Bz hx k hk]))
 |ifc t v x _ ih=>exact λhn=>.ifc t v x (ih λk hk=>hn k (by simpa [V.names] using hk))
 |ag arr cs h1 _ ih=>exact λhn=>.ag arr cs h1 λj v x hv hx=>ih j v x hv hx λk hk=>hn k (by simp [V.names,Bz hx k hk])
 |tup arr cs h1 _ ih=>exact λhn=>.tup arr cs h1 λj v x hv hx=>ih j v x hv hx λk hk=>hn k (by simp [V.names,Bz hx k hk])
 |gd c v x _ h' ih=>exact λhn=>.gd c v x (λhc=>ih hc λk hk=>hn k (by simpa [V.names] using hk)) h'
theorem Ai.lasts {β β':A6} {E E':Nat→Prop} {w w':World} (hg:B5 E E' w w') {v:Value} {x:V} (h:Ai β E w v x) (hn:∀ k,k∈x.names→β' k=β k):Ai β' E' w' v x:=h.lastsC hg.c hn
def A6.le (β β':A6):Prop:=∀ k v,β k=some v→β' k=some v
theorem A6.le.refl (β:A6):β.le β:=λ_ _ h=>h
theorem A6.le.trans {a b c:A6} (h:a.le b) (k:b.le c):a.le c:=λn v hv=>k n v (h n v hv)
theorem Ai.lastsC' {β β':A6} {E E':Nat→Prop} {w w':World} (hg:Le E E' w w') (hb:β.le β') {v:Value} {x:V} (h:Ai β E w v x):Ai β' E' w' v x:=by
 induction h with
 |un v=>exact .un v
 |d v x h=>exact .d v x (h.lastsC hg)
 |mem cs b off g hcell hrel =>
  exact .mem cs b off g (λj hj=>hg ⟨b,off+j,none⟩ _ (hcell j hj).1 (hcell j hj).2) (λj x hx=>(hrel j x hx).lastsC hg)
 |own k off b h=>exact .own k off b (hb _ _ h)
 |osl k v h h1=>exact .osl k v (hb _ _ h) h1
 |osub k sz lo n b m c a h hn' ha=>exact .osub k sz lo n b m c a (hb _ _ h) hn' ha
 |osub0 k sz A h=>exact .osub0 k sz A (hb _ _ h)
 |optr k sz i off b m c h=>exact .optr k sz i off b m c (hb _ _ h)
 |fn f fi ca first cap h1 h2 _ _ ih1 ih2=>exact .fn f fi ca first cap h1 h2 ih1 ih2
 |ifc t v x _ ih=>exact .ifc t v x ih
 |ag arr cs h1 _ ih=>exact .ag arr cs h1 ih
 |tup arr cs h1 _ ih=>exact .tup arr cs h1 ih
 |gd c v x _ h' ih=>exact .gd c v x ih h'
theorem Ai.lasts' {β β':A6} {E E':Nat→Prop} {w w':World} (hg:B5 E E' w w') (hb:β.le β') {v:Value} {x:V} (h:Ai β E w v x):Ai β' E' w' v x:=h.lastsC' hg.c hb
theorem Cg.one {E:Nat→Prop} {w:World} {v:Value} {x:D} (h:Cg E w v x):v.oneCell'=true:=by
 cases h<;>first|rfl|assumption
def isCell:V→Bool
 |.un=>false
 |.ag _=>false
 |.tup _=>false
 |.gd _ _=>false
 |_=>true
theorem Ai.one {β:A6} {E:Nat→Prop} {w:World} {v:Value} {x:V} (h:Ai β E w v x) (hx:isCell x=true):v.oneCell'=true:=by
 cases h<;>first|rfl|assumption|(simp [isCell] at hx;done)|(rename_i h;exact h.one)
def cellsV:V→Option (List V)
 |.ag cs=>if cs.all isCell then some cs else none
 |.un=>none
 |.tup _=>none
 |.gd _ _=>none
 |x=>some [x]
theorem Iz {v:Value} (h:v.oneCell'=true):v.cells=#[v]:=by
 cases v<;>first|rfl|simp [Value.oneCell'] at h
theorem Ai.cells {β:A6} {E:Nat→Prop} {w:World} {v:Value} {x:V} {cs:List V} (h:Ai β E w v x) (hx:cellsV x=some cs) :
  v.cells.size=cs.length∧(∀ (j:Nat) (u:Value) (y:V),v.cells[j]?=some u→cs[j]?=some y→Ai β E w u y)∧(∀ u,u∈v.cells.toList→u.oneCell'=true):=by
 by_cases hc:isCell x=true
 ·have h1:=h.one hc
  have e:cs=[x]:=by cases x<;>simp [isCell] at hc<;>simp [cellsV] at hx<;>exact hx.symm
  subst e
  rw [Iz h1]
  refine ⟨rfl,λj u y hu hy=>?_,λu hu=>?_⟩
  ·cases j with
   |zero=>simp at hu hy;subst hu;subst hy;exact h
   |succ j=>simp at hy
  ·simp at hu;subst hu;exact h1
 ·cases h with
  |ag arr cs' h1 r1 =>
   simp only [cellsV] at hx
   split at hx
   ·rename_i hall
    simp at hx;subst hx
    refine ⟨h1,r1,λu hu=>?_⟩
    obtain ⟨j,hj,e⟩:=List.getElem_of_mem hu
    have hj':j<arr.size:=by simpa [Value.cells] using hj
    have hjc:j<cs'.length:=h1▸hj'
    have hr:=r1 j u cs'[j] (by rw [Array.getElem?_eq_getElem hj'];simp [Value.cells] at e;simp [e]) (List.getElem?_eq_getElem hjc)
    exact hr.one (List.all_eq_true.1 hall _ (List.getElem_mem hjc))
   ·cases hx
  |_=>simp [isCell] at hc<;>simp [cellsV] at hx
end Go.Bx
end
section
namespace Go.Bx
open Go.RowKit
inductive gz where
 |loop (r:Loop)
 |it (m:Option Nat) (a:Nat) (s:Array Nat) (b:Nat)
 |map (es:Array MapEntry) (clock:Nat)
def gz.obj:gz→Obj
 |.loop r=>.loop r
 |.it m a s b=>.mapIter m a s b
 |.map es c=>.map es c
def gz.ref (l:Nat):gz→Value
 |.map _ _=>.map (some l)
 |_=>.pointer (some ⟨l,0,none⟩)
inductive Own where
 |fix (cs:List V)
 |row (e sz n:Nat) (f:Nat→List D)
 |lit (e sz n:Nat) (cs:List V)
 |mp (z:D) (g:Int→D)
 |lp (l:Nat) (r:gz)
def B0:Value→Option Nat
 |.pointer (some a)=>some a.block
 |.slice (some a) _ c=>if c=0 then none else some a.block
 |.map (some r)=>some r
 |_=>none
theorem gz.blk (l:Nat) (r:gz):B0 (r.ref l)=some l:=by cases r<;>rfl
def A6.blk (β:A6) (k:Nat):Option Nat:=(β k).bind B0
def J2 (w:World) (e sz:Nat) (v:Value) (n:Nat) (xs:List Value):Prop:=
  xs.length=n*sz ∧
  (((∃ a, v = .slice a 0 0) ∧ n = 0) ∨
   ∃ g cap cur,v=.slice (some ⟨g,0,none⟩) n cap∧0<cap∧w.heap[g]?=some (.cells cur e (0,0))∧n≤cap∧cap≤maxLen∧cur.size=cap*sz∧cur.toList.take (n*sz)=xs)
def C9 (β:A6) (E:Nat→Prop) (w:World) (k:Nat):Own→Prop
 |.fix cs=>∃ b arr e,β k=some (.pointer (some ⟨b,0,none⟩))∧w.heap[b]?=some (.cells arr e (0,0))∧arr.size=cs.length ∧
   ∀ (j:Nat) (v:Value) (x:V),arr[j]?=some v→cs[j]?=some x→Ai β E w v x
 |.row e sz n f=>∃ v xs,β k=some v∧J2 w e sz v n xs∧(∀ i,i<n→(f i).length=sz) ∧
   ∀ i j,i<n→j<sz→∀ (x:D),(f i)[j]?=some x→∃ u,xs[i*sz+j]?=some u∧Cg E w u x
 |.lit e sz n cs=>∃ v xs,β k=some v∧J2 w e sz v n xs∧cs.length=n*sz ∧
   ∀ (j:Nat) (u:Value) (x:V),xs[j]?=some u→cs[j]?=some x→Ai β E w u x
 |.mp z g=>∃ b es clock,β k=some (.map (some b))∧w.heap[b]?=some (.map es clock)∧(∀ x,x∈es.toList→MapKept.IsKey (.int .i64) x.key) ∧
   (∀ (i j:Nat) (x y:MapEntry),es[i]?=some x→es[j]?=some y→x.key=y.key→i=j)∧(∀ (i:Nat) (x:MapEntry) (n:Int),es[i]?=some x→x.key=.int .i64 n→Cg E w x.val (g n)∧((z=.raw .nilFunc→g n≠.raw .nilFunc)∧(z=.bool false→g n≠.bool false))) ∧
   (∀ n:Int,(∀ x,x∈es.toList→x.key≠.int .i64 n)→g n=z)∧(∀ x,x∈es.toList→x.born<clock)∧(es.toList.map (·.born)).Nodup
 |.lp l r=>β k=some (r.ref l)∧w.heap[l]?=some r.obj
def keysO (own:List (Nat×Own)):List Nat:=own.map (·.1)
def Eo (E0:Nat→Prop) (β:A6) (own:List (Nat×Own)):Nat→Prop:=λb=>E0 b∨∃ k,k∈keysO own∧β.blk k=some b
structure At (E0:Nat→Prop) (β:A6) (w:World) (own:List (Nat×Own)):Prop where
 ok:∀ k o,(k,o)∈own→C9 β (Eo E0 β own) w k o
 nodup:(keysO own).Nodup
 apart:∀ k k',k∈keysO own→k'∈keysO own→k≠k'→∀ b,β.blk k=some b→β.blk k'≠some b
 lt:∀ k,k∈keysO own→∀ b,β.blk k=some b→b<w.heap.size∧¬ E0 b
structure Aw (L:Nat→Prop) (w w':World):Prop where
 os:w'.os=w.os
 tape:w'.tape=w.tape
 output:w'.output=w.output
 size:w.heap.size≤w'.heap.size
 block:∀ b,b<w.heap.size→¬ L b→w'.heap[b]?=w.heap[b]?
theorem Aw.refl (L:Nat→Prop) (w:World):Aw L w w:=⟨rfl,rfl,rfl,Nat.le_refl _,λ_ _ _=>rfl⟩
theorem Aw.trans {L:Nat→Prop} {a b c:World} (h:Aw L a b) (k:Aw L b c):Aw L a c:=
 ⟨k.os.trans h.os,k.tape.trans h.tape,k.output.trans h.output,Nat.le_trans h.size k.size,λi hi hl=>(k.block i (Nat.lt_of_lt_of_le hi h.size) hl).trans (h.block i hi hl)⟩
theorem Aw.trans' {L L':Nat→Prop} {a b c:World} (h:Aw L a b) (k:Aw L' b c) (hL:∀ i,i<a.heap.size→L' i→L i):Aw L a c:=
 ⟨k.os.trans h.os,k.tape.trans h.tape,k.output.trans h.output,Nat.le_trans h.size k.size,λi hi hl=>(k.block i (Nat.lt_of_lt_of_le hi h.size) (λx=>hl (hL i hi x))).trans (h.block i hi hl)⟩
theorem Aw.mono {L L':Nat→Prop} {a b:World} (h:Aw L a b) (hL:∀ i,L i→L' i):Aw L' a b:=
 ⟨h.os,h.tape,h.output,h.size,λi hi hl=>h.block i hi (λx=>hl (hL i x))⟩
structure St where
 env:List (Nat×V)
 own:List (Nat×Own)
 nm:List Nat
def get:List (Nat×V)→Nat→V
 |[],_=>.un
 |(k,v)::l,s=>if k=s then v else get l s
def own?:List (Nat×Own)→Nat→Option Own
 |[],_=>none
 |(k,o)::l,s=>if k=s then some o else own? l s
structure B3 where
 P:Program
 E0:Nat→Prop
 w0:World
 L:Nat→Prop
 nt:Nat
 fn:List Nat
 fx:A6
 hE:∀ b,E0 b→b<w0.heap.size
 rd:Option Nat
 pk:V→St→Prop:=λ_ _=>False
 db:List Deferred:=[]
def B3.F (c:B3):Fence:={ Fence.wide with round:=c.rd }
structure Ey (rd:Option Nat) (w0 w:World) (l:List Deferred):Prop where
 ok:∀ d,d∈l→∃ b,d={ target:=.collected b,args:=#[] }∧w0.heap.size≤b∧w.heap[b]?=some (Obj.deferred (some []))
 nodup:(l.map Deferred.target).Nodup
 rd0:rd≠none→l=[]
theorem Ey.nil (rd:Option Nat) (w0 w:World):Ey rd w0 w []:=⟨λd h=>by simp at h,by simp,λ_=>rfl⟩
theorem Ey.keep {rd:Option Nat} {w0 w w':World} {l:List Deferred} (h:Ey rd w0 w l) (hk:∀ b:Nat,w.heap[b]?=some (Obj.deferred (some []))→w'.heap[b]?=w.heap[b]?):Ey rd w0 w' l:=
 ⟨λd hd=>by obtain ⟨b,h1,h2,h3⟩:=h.ok d hd;exact ⟨b,h1,h2,(hk b h3).trans h3⟩,h.nodup,h.rd0⟩
def Lk (c:B3) (w:World) (l:List Deferred):Prop:=∃ m m2,l=m++(c.db++m2)∧Ey c.rd c.w0 w (m++m2)∧(c.db=[]→m2=[])
theorem Lk.nil {c:B3} {w:World} (h:c.db=[]):Lk c w []:=⟨[],[],by rw [h];rfl,Ey.nil _ _ _,λ_=>rfl⟩
theorem Lk.keep {c:B3} {w w':World} {l:List Deferred} (h:Lk c w l) (hk:∀ b:Nat,w.heap[b]?=some (Obj.deferred (some []))→w'.heap[b]?=w.heap[b]?):Lk c w' l:=
 let ⟨m,m2,h1,h2,h3⟩:=h;⟨m,m2,h1,h2.keep hk,h3⟩
structure Aa (c:B3) (β:A6) (st:St) (a:Act) (w:World):Prop where
 sz:a.tmps.size=c.nt
 df:Lk c w a.defers
 env:∀ s,Ai β (Eo c.E0 β st.own) w (a.tmps.getD s undef) (get st.env s)
 own:At c.E0 β w st.own
 fr:∀ k,k∈keysO st.own→∀ b,β.blk k=some b→c.w0.heap.size≤b∨c.L b
 kn:∀ k,k∈keysO st.own→k∈st.nm
 nm:∀ k,k∉st.nm→β k=none
 kp:Aw c.L c.w0 w
 fx:∀ k,k∈c.fn→k∈st.nm∧β k=c.fx k
theorem Ah {l:List (Nat×Own)} {k:Nat} {o:Own} (h:own? l k=some o):(k,o)∈l:=by
 induction l with
 |nil=>simp [own?] at h
 |cons p l ih =>
  obtain ⟨k',o'⟩:=p
  simp only [own?] at h
  split at h
  ·rename_i e;simp at h;subst e;subst h;simp
  ·exact List.mem_cons_of_mem _ (ih h)
theorem Ab {l:List (Nat×Own)} {k:Nat} {o:Own} (h:(k,o)∈l):k∈keysO l:=List.mem_map.2 ⟨(k,o),h,rfl⟩
theorem Ba {l:List (Nat×Own)} {k:Nat} (h:k∈keysO l):∃ o,(k,o)∈l:=by
 obtain ⟨⟨k',o⟩,h1,h2⟩:=List.mem_map.1 h
 simp only at h2;subst h2
 exact ⟨o,h1⟩
def setO:List (Nat×Own)→Nat→Own→List (Nat×Own)
 |[],k,o=>[(k,o)]
 |(k',o')::l,k,o=>if k'=k then (k',o)::l else (k',o')::setO l k o
def delO:List (Nat×Own)→Nat→List (Nat×Own)
 |[],_=>[]
 |(k',o')::l,k=>if k'=k then l else (k',o')::delO l k
theorem Nf (l:List (Nat×Own)) (k:Nat) (o:Own):keysO (setO l k o)=if k∈keysO l then keysO l else keysO l++[k]:=by
 induction l with
 |nil=>simp [setO,keysO]
 |cons p l ih =>
  obtain ⟨k',o'⟩:=p
  simp only [setO]
  by_cases h:k'=k
  ·subst h;simp [keysO]
  ·have h':¬ k=k':=λe=>h e.symm
   simp only [h,if_false]
   simp only [keysO,List.map_cons,List.mem_cons,h',false_or] at ih ⊢
   rw [ih];split<;>rename_i hh<;>simp [hh]
theorem nx {l:List (Nat×Own)} {k:Nat} {o:Own} (hn:(keysO l).Nodup) {k1:Nat} {o1:Own} (h:(k1,o1)∈setO l k o):(k1=k∧o1=o)∨(k1≠k∧(k1,o1)∈l):=by
 induction l with
 |nil=>simp [setO] at h;exact .inl h
 |cons p l ih =>
  obtain ⟨k',o'⟩:=p
  simp only [keysO,List.map_cons,List.nodup_cons] at hn
  simp only [setO] at h
  split at h
  ·rename_i e
   subst e
   rcases List.mem_cons.1 h with h|h
   ·simp at h;exact .inl h
   ·refine .inr ⟨λe=>hn.1 (e▸Ab h),List.mem_cons_of_mem _ h⟩
  ·rename_i e
   rcases List.mem_cons.1 h with h|h
   ·simp at h
    refine .inr ⟨λe'=>e (h.1▸e'),by simp [h]⟩
   ·rcases ih hn.2 h with h|h
    ·exact .inl h
    ·exact .inr ⟨h.1,List.mem_cons_of_mem _ h.2⟩
theorem Id {l:List (Nat×Own)} {k:Nat} (hn:(keysO l).Nodup) (k1:Nat):k1∈keysO (delO l k)↔k1∈keysO l∧k1≠k:=by
 induction l with
 |nil=>simp [delO,keysO]
 |cons p l ih =>
  obtain ⟨k',o'⟩:=p
  simp only [keysO,List.map_cons,List.nodup_cons] at hn
  have ih:=ih hn.2
  simp only [delO]
  split
  ·rename_i e;subst e
   simp only [keysO,List.map_cons,List.mem_cons]
   constructor
   ·intro h;exact ⟨.inr h,λe=>hn.1 (e▸h)⟩
   ·rintro ⟨h|h,hne⟩
    ·exact absurd h hne
    ·exact h
  ·rename_i e
   simp only [keysO,List.map_cons,List.mem_cons] at ih ⊢
   rw [ih]
   constructor
   ·rintro (h|h)
    ·exact ⟨.inl h,λe'=>e (h▸e')⟩
    ·exact ⟨.inr h.1,h.2⟩
   ·rintro ⟨h|h,hne⟩
    ·exact .inl h
    ·exact .inr ⟨h,hne⟩
theorem Eh {l:List (Nat×Own)} {k:Nat} (hn:(keysO l).Nodup):(keysO (delO l k)).Nodup:=by
 induction l with
 |nil=>simp [delO,keysO]
 |cons p l ih =>
  obtain ⟨k',o'⟩:=p
  simp only [keysO,List.map_cons,List.nodup_cons] at hn
  simp only [delO]
  split
  ·exact hn.2
  ·simp only [keysO,List.map_cons,List.nodup_cons]
   refine ⟨λh=>hn.1 ?_,ih hn.2⟩
   exact ((Id hn.2 k').1 h).1
theorem Mn {l:List (Nat×Own)} {k:Nat} {p:Nat×Own} (h:p∈delO l k):p∈l:=by
 induction l with
 |nil=>simp [delO] at h
 |cons q l ih =>
  obtain ⟨k',o'⟩:=q
  simp only [delO] at h
  split at h
  ·exact List.mem_cons_of_mem _ h
  ·rcases List.mem_cons.1 h with h|h
   ·exact h▸List.mem_cons_self
   ·exact List.mem_cons_of_mem _ (ih h)
theorem Gv {l:List (Nat×Own)} {k:Nat} {o:Own} (hn:(keysO l).Nodup):(keysO (setO l k o)).Nodup:=by
 rw [Nf]
 split
 ·exact hn
 ·rename_i h
  rw [List.nodup_append]
  exact ⟨hn,by simp,by intro a ha b hb;simp at hb;subst hb;exact λe=>h (e▸ha)⟩
theorem Bs {l:List (Nat×Own)} {k k1:Nat} {o:Own}:k1∈keysO (setO l k o)↔k1=k∨k1∈keysO l:=by
 rw [Nf]
 split
 ·rename_i h
  exact ⟨.inr,λh'=>h'.elim (λe=>e▸h) id⟩
 ·simp [or_comm]
theorem Ay {l:List (Nat×Own)} (hn:(keysO l).Nodup) {k:Nat} {o:Own} (h:(k,o)∈l):own? l k=some o:=by
 induction l with
 |nil=>simp at h
 |cons p l ih =>
  obtain ⟨k1,o1⟩:=p
  simp only [keysO,List.map_cons,List.nodup_cons] at hn
  simp only [own?]
  rcases List.mem_cons.1 h with h|h
  ·simp at h;simp [h.1,h.2]
  ·have hne:k1≠k:=λe=>hn.1 (e▸Ab h)
   simp [hne,ih hn.2 h]
theorem C9.key {β:A6} {E:Nat→Prop} {w:World} {k:Nat} {o:Own} (h:C9 β E w k o):∃ v,β k=some v:=by
 cases o with
 |fix cs=>obtain ⟨b,arr,e,h1,_⟩:=h;exact ⟨_,h1⟩
 |row e sz n f=>obtain ⟨v,xs,h1,_⟩:=h;exact ⟨_,h1⟩
 |lit e sz n cs=>obtain ⟨v,xs,h1,_⟩:=h;exact ⟨_,h1⟩
 |mp z g=>obtain ⟨b,es,cl,h1,_⟩:=h;exact ⟨_,h1⟩
 |lp l r=>exact ⟨_,h.1⟩
theorem J2.lasts {w w':World} {e sz n:Nat} {v:Value} {xs:List Value} (h:J2 w e sz v n xs) (hb:∀ b,B0 v=some b→w'.heap[b]?=w.heap[b]?):J2 w' e sz v n xs:=by
 refine ⟨h.1,?_⟩
 rcases h.2 with h|⟨g,cap,cur,rfl,hc,hh,rest⟩
 ·exact .inl h
 ·exact .inr ⟨g,cap,cur,rfl,hc,(hb g (by simp [B0];omega)).trans hh,rest⟩
theorem C9.lastsC {β β':A6} {E E':Nat→Prop} {w w':World} {k:Nat} {o:Own} (h:C9 β E w k o) (hl:Le E E' w w') (hβ:β.le β')
  (hb:∀ b,β.blk k=some b→w'.heap[b]?=w.heap[b]?):C9 β' E' w' k o:=by
 cases o with
 |fix cs =>
  obtain ⟨b,arr,e,h1,h2,h3,h4⟩:=h
  exact ⟨b,arr,e,hβ _ _ h1,(hb b (by simp [A6.blk,h1,B0])).trans h2,h3,λj v x hv hx=>(h4 j v x hv hx).lastsC' hl hβ⟩
 |row e sz n f =>
  obtain ⟨v,xs,h1,h2,h3,h4⟩:=h
  refine ⟨v,xs,hβ _ _ h1,h2.lasts (λb hv=>hb b (by simp [A6.blk,h1,hv])),h3,λi j hi hj x hx=>?_⟩
  obtain ⟨u,hu,hr⟩:=h4 i j hi hj x hx
  exact ⟨u,hu,hr.lastsC hl⟩
 |lit e sz n cs =>
  obtain ⟨v,xs,h1,h2,h3,h4⟩:=h
  exact ⟨v,xs,hβ _ _ h1,h2.lasts (λb hv=>hb b (by simp [A6.blk,h1,hv])),h3,λj u x hu hx=>(h4 j u x hu hx).lastsC' hl hβ⟩
 |mp z g =>
  obtain ⟨b,es,cl,h1,h2,h3,h4,h5,h6⟩:=h
  exact ⟨b,es,cl,hβ _ _ h1,(hb b (by simp [A6.blk,h1,B0])).trans h2,h3,h4,λi x n hi hx=>⟨(h5 i x n hi hx).1.lastsC hl,(h5 i x n hi hx).2⟩,h6⟩
 |lp l r=>exact ⟨hβ _ _ h.1,(hb l (by simp [A6.blk,h.1,gz.blk])).trans h.2⟩
theorem C9.lasts {β β':A6} {E E':Nat→Prop} {w w':World} {k:Nat} {o:Own} (h:C9 β E w k o) (hl:B5 E E' w w') (hβ:β.le β')
  (hb:∀ b,β.blk k=some b→w'.heap[b]?=w.heap[b]?):C9 β' E' w' k o:=h.lastsC hl.c hβ hb
theorem C9.obj {β:A6} {E:Nat→Prop} {w:World} {k:Nat} {o:Own} (h:C9 β E w k o) {b:Nat} (hb:β.blk k=some b) {ds:Option (List Deferred)}:w.heap[b]?≠some (Obj.deferred ds):=by
 cases o with
 |fix cs =>
  obtain ⟨b',arr,e,h1,h2,_⟩:=h
  simp [A6.blk,h1,B0] at hb;subst hb
  rw [h2];simp
 |row e sz n f =>
  obtain ⟨v,xs,h1,h2,_⟩:=h
  rcases h2.2 with ⟨⟨a,rfl⟩,-⟩|⟨g,cap,cur,rfl,hc,hh,-⟩
  ·cases a<;>simp [A6.blk,h1,B0] at hb
  ·have:cap≠0:=by omega
   simp [A6.blk,h1,B0,this] at hb;subst hb
   rw [hh];simp
 |lit e sz n cs =>
  obtain ⟨v,xs,h1,h2,_⟩:=h
  rcases h2.2 with ⟨⟨a,rfl⟩,-⟩|⟨g,cap,cur,rfl,hc,hh,-⟩
  ·cases a<;>simp [A6.blk,h1,B0] at hb
  ·have:cap≠0:=by omega
   simp [A6.blk,h1,B0,this] at hb;subst hb
   rw [hh];simp
 |mp z g =>
  obtain ⟨b',es,cl,h1,h2,_⟩:=h
  simp [A6.blk,h1,B0] at hb;subst hb
  rw [h2];simp
 |lp l r =>
  have h1:=h.1
  simp [A6.blk,h1,gz.blk] at hb;subst hb
  rw [h.2];cases r<;>simp [gz.obj]
theorem A6.le.blk {β β':A6} (h:β.le β') {k:Nat} {v:Value} (hk:β k=some v):β'.blk k=β.blk k:=by
 simp [A6.blk,hk,h k v hk]
def Co (β:A6) (own:List (Nat×Own)):Nat→Prop:=λb=>∃ k,k∈keysO own∧β.blk k=some b
theorem Aa.change {c:B3} {β β':A6} {st:St} {a:Act} {w w':World} {own':List (Nat×Own)} {nm':List Nat} (h:Aa c β st a w) (hβ:β.le β')
  (hk:Aw (Co β st.own) w w') (hown:At c.E0 β' w' own')
  (hb:∀ k,k∈keysO own'→∀ b,β'.blk k=some b→w.heap.size≤b∨Co β st.own b)
  (hkn:∀ k,k∈keysO own'→k∈nm') (hnm:∀ k,k∉nm'→β' k=none) (hnn:∀ k,k∈st.nm→k∈nm'∧β' k=β k):Aa c β' ⟨st.env,own',nm'⟩ a w':=by
 have hl:B5 (Eo c.E0 β st.own) (Eo c.E0 β' own') w w':=by
  intro b hb1 hb2
  refine ⟨λhE=>?_,hk.block b hb1 (λ⟨k,hk1,hk2⟩=>hb2 (.inr ⟨k,hk1,hk2⟩))⟩
  rcases hE with hE|⟨k,hk1,hk2⟩
  ·exact hb2 (.inl hE)
  ·rcases hb k hk1 b hk2 with h1|h1
   ·omega
   ·exact hb2 (.inr h1)
 have hown0:∀ i,Co β st.own i→i<c.w0.heap.size→c.L i:=by
  rintro i ⟨k,hk1,hk2⟩ hi
  rcases h.fr k hk1 i hk2 with h1|h1
  ·omega
  ·exact h1
 have hdf:Lk c w' a.defers:=h.df.keep λb hd=>by
  refine hk.block b (Array.getElem?_eq_some_iff.1 hd).1 ?_
  rintro ⟨k,h1,h2⟩
  obtain ⟨o,ho⟩:=Ba h1
  exact (h.own.ok k o ho).obj h2 hd
 refine ⟨h.sz,hdf,λs=>(h.env s).lasts' hl hβ,hown,λk hk1 b hb1=>?_,hkn,hnm,h.kp.trans' hk (λi hi ho=>hown0 i ho hi),λk hk=>⟨(hnn k (h.fx k hk).1).1,(hnn k (h.fx k hk).1).2.trans (h.fx k hk).2⟩⟩
 rcases hb k hk1 b hb1 with h1|⟨k0,h1,h2⟩
 ·exact .inl (Nat.le_trans h.kp.size h1)
 ·exact h.fr k0 h1 b h2
theorem Act.getD_put (a:Act) (d s:Nat) (v:Value) (hd:d<a.tmps.size):(a.put (some d) v).tmps.getD s undef=if d=s then v else a.tmps.getD s undef:=by
 simp only [Act.put,Array.getD_eq_getD_getElem?,Array.getElem?_setIfInBounds]
 split
 ·rename_i h;subst h;simp
 ·rfl
theorem Aa.setV {c:B3} {β:A6} {st:St} {a:Act} {w:World} (h:Aa c β st a w) {d:Nat} (hd:d<c.nt) {v:Value} {x:V}
  (hv:Ai β (Eo c.E0 β st.own) w v x):Aa c β ⟨(d,x)::st.env,st.own,st.nm⟩ (a.put (some d) v) w:=by
 refine ⟨by simp [Act.put,h.sz],h.df,λs=>?_,h.own,h.fr,h.kn,h.nm,h.kp,h.fx⟩
 rw [Act.getD_put a d s v (h.sz▸hd)]
 simp only [get]
 split
 ·exact hv
 ·exact h.env s
theorem At.set {E0:Nat→Prop} {β β':A6} {w w':World} {own:List (Nat×Own)} (h:At E0 β w own) {k:Nat} {o:Own} (hβ:β.le β')
  (own1:List (Nat×Own)) (hn1:(keysO own1).Nodup) (hsub:∀ p,p∈own1→p∈own)
  (hw:∀ k1,k1∈keysO own1→k1≠k→∀ b,β.blk k1=some b→w'.heap[b]?=w.heap[b]?∧β'.blk k≠some b)
  (hl:B5 (Eo E0 β own) (Eo E0 β' (setO own1 k o)) w w') (hsz:w.heap.size≤w'.heap.size)
  (hb:∀ b,β'.blk k=some b→b<w'.heap.size∧¬ E0 b)
  (ho:C9 β' (Eo E0 β' (setO own1 k o)) w' k o):At E0 β' w' (setO own1 k o):=by
 have hkey:∀ k1,k1∈keysO own1→β'.blk k1=β.blk k1:=by
  intro k1 hk1
  obtain ⟨o1,ho1⟩:=Ba hk1
  obtain ⟨v,hv⟩:=(h.ok k1 o1 (hsub _ ho1)).key
  exact hβ.blk hv
 have hk1:∀ k1,k1∈keysO own1→k1∈keysO own:=λk1 hk1=>by
  obtain ⟨o1,ho1⟩:=Ba hk1
  exact Ab (hsub _ ho1)
 refine ⟨λk1 o1 h1=>?_,Gv hn1,λk1 k2 h1 h2 hne b hb1 hb2=>?_,λk1 h1 b hb1=>?_⟩
 ·rcases nx hn1 h1 with ⟨rfl,rfl⟩|⟨hne,h1⟩
  ·exact ho
  ·exact (h.ok k1 o1 (hsub _ h1)).lasts hl hβ (λb hb1=>(hw k1 (Ab h1) hne b hb1).1)
 ·rcases Bs.1 h1 with e1|h1'<;>rcases Bs.1 h2 with e2|h2'
  ·exact hne (e1.trans e2.symm)
  ·by_cases e2:k2=k
   ·exact hne (e1.trans e2.symm)
   ·subst e1
    rw [hkey k2 h2'] at hb2
    exact (hw k2 h2' e2 b hb2).2 hb1
  ·by_cases e1:k1=k
   ·exact hne (e1.trans e2.symm)
   ·subst e2
    rw [hkey k1 h1'] at hb1
    exact (hw k1 h1' e1 b hb1).2 hb2
  ·rw [hkey k1 h1'] at hb1
   rw [hkey k2 h2'] at hb2
   exact h.apart k1 k2 (hk1 k1 h1') (hk1 k2 h2') hne b hb1 hb2
 ·by_cases e:k1=k
  ·subst e;exact hb b hb1
  ·rcases Bs.1 h1 with e1|h1'
   ·exact absurd e1 e
   ·rw [hkey k1 h1'] at hb1
    obtain ⟨x,y⟩:=h.lt k1 (hk1 k1 h1') b hb1
    exact ⟨by omega,y⟩
inductive X where
 |t (s:Nat)
 |k (v:V)
inductive O where
 |mov (x:X)
 |pick (c a b:X)
 |alloc (e:Nat) (cs:List V)
 |box (e:Nat) (x:X)
 |build (z:List V) (parts:List (Nat×Nat×X))
 |bslice (e sz len:Nat) (parts:List X)
 |load (sz:Nat) (agg:Bool) (x:X)
 |store (sz:Nat) (x y:X)
 |bin (op:BinOp) (x y:X)
 |beq (neg:Bool) (x y:X)
 |eqa (neg:Bool) (sz:Nat) (lv:List (Nat×Option IntKind)) (x y:X)
 |isnil (neg:Bool) (x:X)
 |shf (left:Bool) (x y:X)
 |inv (op:UnOp) (x:X)
 |conv (k:IntKind) (x:X)
 |fld (off sz:Nat) (agg:Bool) (x:X)
 |fadr (off:Nat) (x:X)
 |nilc (x:X)
 |iadr (sz:Nat) (x i:X)
 |aadr (sz len:Nat) (x i:X)
 |idx (sz len:Nat) (agg:Bool) (x i:X)
 |sidx (s:ByteArray) (i:X)
 |ext (i:Nat) (x:X)
 |len (x:X)
 |mkfn (f:Fn) (first cap:List X)
 |mm (mx:Bool) (x y:X)
 |mks (e sz bytes:Nat) (z:List D) (l c:X)
 |slc (sz:Nat) (x:X) (lo hi mx:Option X)
 |asl (sz len:Nat) (x:X)
 |cpy (sz:Nat) (x y:X)
 |app (e sz bytes:Nat) (x y:X)
 |mkifc (t:Nat) (x:X)
 |tas (t:Nat) (ok:Bool) (x:X)
 |mkmap (z:D)
 |lkp (z:D) (x i:X)
 |mup (x i v:X)
 |never
 |pnc (x:X)
 |lkq (z:D) (x i:X)
 |cap (x:X)
 |apz (e sz bytes:Nat) (z:List D) (x y:X)
 |clr (sz:Nat) (z:List D) (x:X)
 |ivk (name:String) (x:X) (args:List X)
 |call (f:Nat) (args:List X)
 |callv (x:X) (args:List X)
 |nili (neg:Bool) (x:X)
def evX (st:St):X→V
 |.t s=>get st.env s
 |.k v=>v
def evV (st:St) (x:X):V:=
 match evX st x with
 |.gd _ v=>v
 |v=>v
def evS (p:Bool) (st:St) (x:X):Prop:=
 match evX st x with
 |.gd c _=>p=true→c=true
 |_=>True
def evSs (p:Bool) (st:St):List X→Prop
 |[]=>True
 |x::l=>evS p st x∧evSs p st l
def evVs (st:St):List X→List V
 |[]=>[]
 |x::l=>evV st x::evVs st l
structure Ef where
 side:Prop
 val:V
 upd:List (Nat×Option Own):=[]
 rd:List Nat:=[]
def Ef.bad:Ef:={ side:=False,val:=.un }
def nth:List V→Nat→V
 |[],_=>.un
 |v::_,0=>v
 |_::l,n+1=>nth l n
def nthD:List D→Nat→V
 |[],_=>.un
 |v::_,0=>.d v
 |_::l,n+1=>nthD l n
def dropV:List V→Nat→List V
 |l,0=>l
 |[],_=>[]
 |_::l,n+1=>dropV l n
def takeV:List V→Nat→List V
 |_,0=>[]
 |[],_=>[]
 |v::l,n+1=>v::takeV l n
def dropD:List D→Nat→List D
 |l,0=>l
 |[],_=>[]
 |_::l,n+1=>dropD l n
def takeDV:List D→Nat→List V
 |_,0=>[]
 |[],_=>[]
 |v::l,n+1=>.d v::takeDV l n
def putV:List V→Nat→List V→List V
 |[],_,_=>[]
 |l,_,[]=>l
 |_::l,0,y::ys=>y::putV l 0 ys
 |v::l,n+1,ys=>v::putV l n ys
def Db:List D→Nat→List D→List D
 |[],_,_=>[]
 |l,_,[]=>l
 |_::l,0,y::ys=>y::Db l 0 ys
 |v::l,n+1,ys=>v::Db l n ys
def toDs:List V→Option (List D)
 |[]=>some []
 |.d x::l=>(toDs l).map (x::·)
 |_=>none
def cut (agg:Bool) (cs:List V) (off sz:Nat):V:=if agg then .ag (takeV (dropV cs off) sz) else nth cs off
def cutD (agg:Bool) (cs:List D) (off sz:Nat):V:=if agg then .ag (takeDV (dropD cs off) sz) else nthD cs off
def binI (op:BinOp) (k:IntKind) (a b:Int):Ef:=
 match op with
 |.add=>{ side:=True,val:=.d (.int k (k.wrap (a+b))) }
 |.sub=>{ side:=True,val:=.d (.int k (k.wrap (a-b))) }
 |.mul=>{ side:=True,val:=.d (.int k (k.wrap (a*b))) }
 |.quo=>{ side:=b≠0,val:=.d (.int k (k.wrap (a.tdiv b))) }
 |.rem=>{ side:=b≠0,val:=.d (.int k (a.tmod b)) }
 |.and=>{ side:=True,val:=.d (.int k (k.wrap ((BitVec.ofInt k.bits a &&& BitVec.ofInt k.bits b).toNat:Int))) }
 |.or=>{ side:=True,val:=.d (.int k (k.wrap ((BitVec.ofInt k.bits a ||| BitVec.ofInt k.bits b).toNat:Int))) }
 |.eql=>{ side:=True,val:=.d (.bool (a == b)) }
 |.neq=>{ side:=True,val:=.d (.bool (a != b)) }
 |.lss=>{ side:=True,val:=.d (.bool (decide (a<b))) }
 |.leq=>{ side:=True,val:=.d (.bool (decide (a≤b))) }
 |.gtr=>{ side:=True,val:=.d (.bool (decide (a>b))) }
 |.geq=>{ side:=True,val:=.d (.bool (decide (a≥b))) }
 |_=>.bad
def pickV (c:Bool):V→V→V
 |.d (.bool x),.d (.bool y)=>.d (.bool (bif c then x else y))
 |.d (.int k x),.d (.int k' y)=>if k=k' then .d (.int k (bif c then x else y)) else .un
 |_,_=>.un
def fillV:List V→List (Nat×Nat×V)→Option (List V)
 |cs,[]=>some cs
 |cs,(off,sz,v)::rest =>
  match cellsV v with
  |some ys=>if ys.length=sz&&decide (off+sz≤cs.length) then fillV (putV cs off ys) rest else none
  |none=>none
def evParts (st:St):List (Nat×Nat×X)→List (Nat×Nat×V)
 |[]=>[]
 |(o,s,x)::l=>(o,s,evV st x)::evParts st l
def evPartsS (p:Bool) (st:St):List (Nat×Nat×X)→Prop
 |[]=>True
 |(_,_,x)::l=>evS p st x∧evPartsS p st l
def catV (sz:Nat):List V→Option (List V)
 |[]=>some []
 |v::l =>
  match cellsV v,catV sz l with
  |some ys,some zs=>if ys.length=sz then some (ys++zs) else none
  |_,_=>none
def eqS:List (Nat×Option IntKind)→List V→List V→Prop
 |[],_,_=>True
 |(o,some k)::l,xs,ys =>
  match nth xs o,nth ys o with
  |.d (.int k1 _),.d (.int k2 _)=>k1=k∧k2=k∧eqS l xs ys
  |_,_=>False
 |(o,none)::l,xs,ys =>
  match nth xs o,nth ys o with
  |.d (.bool _),.d (.bool _)=>eqS l xs ys
  |_,_=>False
def eqB:List (Nat×Option IntKind)→List V→List V→Bool
 |[],_,_=>true
 |(o,some _)::l,xs,ys =>
  match nth xs o,nth ys o with
  |.d (.int _ a),.d (.int _ b)=>(a == b)&&eqB l xs ys
  |_,_=>false
 |(o,none)::l,xs,ys =>
  match nth xs o,nth ys o with
  |.d (.bool a),.d (.bool b)=>(a == b)&&eqB l xs ys
  |_,_=>false
def litRow (sz:Nat) (ds:List D) (i:Nat):List D:=(ds.drop (i*sz)).take sz
def catR:Nat→(Nat→List D)→List V
 |0,_=>[]
 |m+1,g=>(g 0).map .d++catR m (λi=>g (i+1))
def fh (s:ByteArray) (m:Nat):Int:=
 match s[m]? with
 |some b=>(b.toNat:Int)
 |none=>0
def M9:List V→Prop
 |[]=>True
 |v::l=>isCell v=true∧M9 l
def eu:V→Option D
 |.d y=>some y
 |.fn f [] []=>some (.raw (.func f #[] #[]))
 |_=>none
def nh:D→V
 |.raw (.func f fi ca)=>if fi.size=0∧ca.size=0 then .fn f [] [] else .d (.raw (.func f fi ca))
 |d=>.d d
def X1:D→D→V
 |.raw .nilFunc,.raw .nilFunc=>.d (.bool false)
 |.raw .nilFunc,.raw (.func _ _ _)=>.d (.bool true)
 |_,_=>.un
def opR (st:St) (p:Bool) (d:Nat):O→Ef
 |.mov x=>{ side:=evS p st x,val:=evV st x }
 |.pick c a b =>
  match evV st c with
  |.d (.bool bc)=>{ side:=evS p st c∧evS (p&&bc) st a∧evS (p&&!bc) st b,val:=pickV bc (evV st a) (evV st b) }
  |_=>.bad
 |.alloc _ cs=>{ side:=d∉st.nm,val:=.own d 0,upd:=[(d,some (.fix cs))] }
 |.box _ x =>
  match cellsV (evV st x) with
  |some cs=>{ side:=evS p st x∧d∉st.nm,val:=.own d 0,upd:=[(d,some (.fix cs))] }
  |none=>.bad
 |.build z parts =>
  match fillV z (evParts st parts) with
  |some cs=>{ side:=evPartsS p st parts,val:=.ag cs }
  |none=>.bad
 |.bslice e sz len parts =>
  match catV sz (evVs st parts) with
  |some cs =>
   match toDs cs with
   |some ds=>{ side:=evSs p st parts∧d∉st.nm,val:=.d (.sl true sz len (litRow sz ds)) }
   |none=>{ side:=evSs p st parts∧0<len∧d∉st.nm,val:=.osl d,upd:=[(d,some (.lit e sz len cs))] }
  |none=>.bad
 |.load sz agg x =>
  match evV st x with
  |.mem cs=>{ side:=evS p st x∧sz≤cs.length,val:=cutD agg cs 0 sz }
  |.own k off =>
   match own? st.own k with
   |some (.fix cs)=>{ side:=evS p st x∧off+sz≤cs.length,val:=cut agg cs off sz,rd:=[k] }
   |_=>.bad
  |.optr k sz' i off =>
   match own? st.own k with
   |some (.row _ sz2 n f)=>{ side:=evS p st x∧sz'=sz2∧i<n∧off+sz≤sz2,val:=cutD agg (f i) off sz,rd:=[k] }
   |some (.lit _ sz2 n cs)=>{ side:=evS p st x∧sz'=sz2∧i<n∧off+sz≤sz2,val:=cut agg cs (i*sz2+off) sz,rd:=[k] }
   |_=>.bad
  |_=>.bad
 |.store sz x y =>
  match evV st x,cellsV (evV st y) with
  |.own k off,some ys =>
   match own? st.own k with
   |some (.fix cs)=>{ side:=evS p st x∧evS p st y∧ys.length=sz∧off+sz≤cs.length,val:=.un,upd:=[(k,some (.fix (putV cs off ys)))],rd:=[k] }
   |_=>.bad
  |.optr k sz' i off,some ys =>
   match own? st.own k,toDs ys with
   |some (.row e sz2 n f),some ds=>{ side:=evS p st x∧evS p st y∧ys.length=sz∧sz'=sz2∧i<n∧off+sz≤sz2,val:=.un,upd:=[(k,some (.row e sz2 n (λi'=>if i'=i then Db (f i) off ds else f i')))],rd:=[k] }
   |some (.lit e sz2 n cs),_=>{ side:=evS p st x∧evS p st y∧ys.length=sz∧sz'=sz2∧i<n∧off+sz≤sz2,val:=.un,upd:=[(k,some (.lit e sz2 n (putV cs (i*sz2+off) ys)))],rd:=[k] }
   |_,_=>.bad
  |_,_=>.bad
 |.bin op x y =>
  match evV st x,evV st y with
  |.d (.int k a),.d (.int k' b)=>{ side:=evS p st x∧evS p st y∧k=k'∧(binI op k a b).side,val:=(binI op k a b).val }
  |_,_=>.bad
 |.beq neg x y =>
  match evV st x,evV st y with
  |.d (.bool a),.d (.bool b)=>{ side:=evS p st x∧evS p st y,val:=.d (.bool (if neg then a != b else a == b)) }
  |_,_=>.bad
 |.eqa neg sz lv x y =>
  match evV st x,evV st y with
  |.ag xs,.ag ys=>{ side:=evS p st x∧evS p st y∧xs.length=sz∧ys.length=sz∧eqS lv xs ys,val:=.d (.bool (if neg then !(eqB lv xs ys) else eqB lv xs ys)) }
  |_,_=>.bad
 |.isnil neg x =>
  match evV st x with
  |.d (.sl _ _ n _)=>{ side:=evS p st x,val:=.d (if neg then .qb True (n=0) else .qb (n=0) True) }
  |.osl k =>
   match own? st.own k with
   |some (.row _ _ n _)=>{ side:=evS p st x,val:=.d (if neg then .qb True (n=0) else .qb (n=0) True),rd:=[k] }
   |_=>.bad
  |_=>.bad
 |.shf left x y =>
  match evV st x,evV st y with
  |.d (.int k a),.d (.int _ b)=>{ side:=evS p st x∧evS p st y∧0≤b,val:=.d (.int k (if left then k.wrap (a*2 ^ (min b.toNat k.bits)) else a.fdiv (2 ^ (min b.toNat k.bits)))) }
  |_,_=>.bad
 |.inv op x =>
  match op,evV st x with
  |.not,.d (.bool a)=>{ side:=evS p st x,val:=.d (.bool (!a)) }
  |.neg,.d (.int k a)=>{ side:=evS p st x,val:=.d (.int k (k.wrap (0-a))) }
  |_,_=>.bad
 |.conv k x =>
  match evV st x with
  |.d (.int _ a)=>{ side:=evS p st x,val:=.d (.int k (k.wrap a)) }
  |_=>.bad
 |.fld off sz agg x =>
  match evV st x with
  |.ag cs=>{ side:=evS p st x∧off+sz≤cs.length,val:=cut agg cs off sz }
  |_=>.bad
 |.nilc x =>
  match evV st x with
  |.mem cs=>{ side:=evS p st x,val:=.mem cs }
  |.own k o=>{ side:=evS p st x,val:=.own k o }
  |.optr k sz i o=>{ side:=evS p st x,val:=.optr k sz i o }
  |.fn (.func f) a b=>{ side:=evS p st x,val:=.fn (.func f) a b }
  |.ifc t v=>{ side:=evS p st x,val:=.ifc t v }
  |_=>.bad
 |.fadr off x =>
  match evV st x with
  |.mem cs=>{ side:=evS p st x∧off≤cs.length,val:=.mem (dropD cs off) }
  |.own k o=>{ side:=evS p st x,val:=.own k (o+off) }
  |.optr k sz i o=>{ side:=evS p st x,val:=.optr k sz i (o+off) }
  |_=>.bad
 |.iadr sz x i =>
  match evV st x,evV st i with
  |.d (.sl _ sz' n f),.d (.int _ m)=>{ side:=evS p st x∧evS p st i∧0≤m∧m<(n:Int)∧sz=sz',val:=.mem (f m.toNat) }
  |.osl k,.d (.int _ m) =>
   match own? st.own k with
   |some (.row _ sz' n _)=>{ side:=evS p st x∧evS p st i∧0≤m∧m<(n:Int)∧sz=sz',val:=.optr k sz m.toNat 0,rd:=[k] }
   |some (.lit _ sz' n _)=>{ side:=evS p st x∧evS p st i∧0≤m∧m<(n:Int)∧sz=sz',val:=.optr k sz m.toNat 0,rd:=[k] }
   |_=>.bad
  |.osub k sz' lo n,.d (.int _ m)=>{ side:=evS p st x∧evS p st i∧0≤m∧m<(n:Int)∧sz=sz',val:=.optr k sz (lo+m.toNat) 0 }
  |_,_=>.bad
 |.aadr sz len x i =>
  match evV st x,evV st i with
  |.mem cs,.d (.int _ m)=>{ side:=evS p st x∧evS p st i∧0≤m∧m<(len:Int)∧cs.length=sz*len,val:=.mem (dropD cs (m.toNat*sz)) }
  |.own k off,.d (.int _ m)=>{ side:=evS p st x∧evS p st i∧0≤m∧m<(len:Int),val:=.own k (off+m.toNat*sz) }
  |.optr k s j off,.d (.int _ m)=>{ side:=evS p st x∧evS p st i∧0≤m∧m<(len:Int),val:=.optr k s j (off+m.toNat*sz) }
  |_,_=>.bad
 |.idx sz len agg x i =>
  match evV st x,evV st i with
  |.ag cs,.d (.int _ m)=>{ side:=evS p st x∧evS p st i∧0≤m∧m<(len:Int)∧cs.length=sz*len,val:=cut agg cs (m.toNat*sz) sz }
  |_,_=>.bad
 |.sidx s i =>
  match evV st i with
  |.d (.int _ m)=>{ side:=evS p st i∧0≤m∧m<(s.size:Int),val:=.d (.int .u8 (fh s m.toNat)) }
  |_=>.bad
 |.ext i x =>
  match evV st x with
  |.tup vs=>{ side:=evS p st x∧i<vs.length,val:=nth vs i }
  |_=>.bad
 |.len x =>
  match evV st x with
  |.d (.sl _ _ n _)=>{ side:=evS p st x,val:=.d (.int .i64 n) }
  |.osl k =>
   match own? st.own k with
   |some (.row _ _ n _)=>{ side:=evS p st x,val:=.d (.int .i64 n),rd:=[k] }
   |some (.lit _ _ n _)=>{ side:=evS p st x,val:=.d (.int .i64 n),rd:=[k] }
   |_=>.bad
  |.osub _ _ _ n=>{ side:=evS p st x,val:=.d (.int .i64 n) }
  |_=>.bad
 |.mkfn f first cap=>{ side:=evSs p st first∧evSs p st cap,val:=.fn f (evVs st first) (evVs st cap) }
 |.mm mx x y =>
  match evV st x,evV st y with
  |.d (.int k a),.d (.int k' b)=>{ side:=evS p st x∧evS p st y∧k=k',val:=.d (.int k (if mx then max a b else min a b)) }
  |_,_=>.bad
 |.mks e sz bytes z l c =>
  match evV st l,evV st c with
  |.d (.int _ a),.d (.int _ b)=>{ side:=evS p st l∧evS p st c∧0≤a∧a≤b∧(b.toNat*bytes≤281474976710656)∧b≤9223372036854775807∧d∉st.nm,val:=.osl d,upd:=[(d,some (.row e sz a.toNat (λ_=>z)))] }
  |_,_=>.bad
 |.slc sz x lo hi mx =>
  match evV st x,lo.map (evV st),hi.map (evV st),mx.map (evV st) with
  |.d (.sl full sz' n f),none,some (.d (.int _ b)),none=>{ side:=evS p st x∧0≤b∧b≤(n:Int)∧(0<n→sz=sz')∧(∀ h,hi=some h→evS p st h),val:=.d (.sl (full&&decide (b=(n:Int))) sz b.toNat f) }
  |.d (.sl _ sz' n f),none,some (.d (.int _ b)),some (.d (.int _ m))=>{ side:=evS p st x∧0≤b∧b=m∧m≤(n:Int)∧sz=sz'∧(∀ h,hi=some h→evS p st h)∧(∀ h,mx=some h→evS p st h),val:=.d (.sl true sz b.toNat f) }
  |.d (.sl full sz' n f),some (.d (.int _ a)),none,none=>{ side:=evS p st x∧0≤a∧a≤(n:Int)∧sz=sz'∧(∀ h,lo=some h→evS p st h),val:=.d (.sl full sz (n-a.toNat) (λi=>f (a.toNat+i))) }
  |.osl k,some (.d (.int _ a)),none,none =>
   match own? st.own k with
   |some (.row _ sz' n _)=>{ side:=evS p st x∧0≤a∧a≤(n:Int)∧sz=sz'∧(∀ h,lo=some h→evS p st h),val:=.osub k sz a.toNat (n-a.toNat),rd:=[k] }
   |_=>.bad
  |.osl k,none,some (.d (.int _ b)),none =>
   match own? st.own k with
   |some (.row _ sz' n _)=>{ side:=evS p st x∧0≤b∧b≤(n:Int)∧sz=sz'∧(∀ h,hi=some h→evS p st h),val:=.osub k sz 0 b.toNat,rd:=[k] }
   |_=>.bad
  |_,_,_,_=>.bad
 |.asl sz len x =>
  match evV st x with
  |.mem cs=>{ side:=evS p st x∧len*sz≤cs.length,val:=.d (.sl true sz len (litRow sz cs)) }
  |_=>.bad
 |.cpy sz x y =>
  match evV st x,evV st y with
  |.osl k,.d (.sl _ sz2 m g) =>
   match own? st.own k with
   |some (.row e sz1 n f)=>{ side:=evS p st x∧evS p st y∧sz1=sz∧(0<m→sz2=sz),val:=.d (.int .i64 (min m n:Nat)),upd:=[(k,some (.row e sz n (λi=>if i<min m n then g i else f i)))],rd:=[k] }
   |_=>.bad
  |.osub k sz1 lo n,.osub k2 sz2 lo2 m =>
   match own? st.own k with
   |some (.row e sz3 N f)=>{ side:=evS p st x∧evS p st y∧k=k2∧sz1=sz∧sz2=sz∧sz3=sz,val:=.d (.int .i64 (min m n:Nat)),upd:=[(k,some (.row e sz N (λi=>if lo≤i∧i<lo+min m n then f (lo2+(i-lo)) else f i)))],rd:=[k] }
   |_=>.bad
  |_,_=>.bad
 |.app e sz bytes x y =>
  match evV st x,evV st y with
  |.osl k,.d (.sl _ sz2 m g) =>
   match own? st.own k with
   |some (.row e' sz1 n f)=>{ side:=evS p st x∧evS p st y∧e'=e∧sz1=sz∧(0<m→sz2=sz)∧(n+m)*bytes≤140737488355328∧n+m≤maxLen∧d∉st.nm,val:=.osl d,upd:=[(k,none),(d,some (.row e sz (n+m) (λi=>if i<n then f i else g (i-n))))],rd:=[k] }
   |some (.lit e' sz1 n cs)=>{ side:=evS p st x∧evS p st y∧e'=e∧sz1=sz∧(0<m→sz2=sz)∧(n+m)*bytes≤140737488355328∧n+m≤maxLen∧d∉st.nm,val:=.osl d,upd:=[(k,none),(d,some (.lit e sz (n+m) (cs++catR m g)))],rd:=[k] }
   |_=>.bad
  |.d (.sl full sz1 n f),.d (.sl _ sz2 m g)=>{ side:=evS p st x∧evS p st y∧full=true∧(0<n→sz1=sz)∧(0<m→sz2=sz)∧(n+m)*bytes≤140737488355328∧n+m≤maxLen∧d∉st.nm,val:=if m=0∧0<n then .d (.sl full sz1 n f) else .osl d,upd:=if m=0∧0<n then [] else [(d,some (.row e sz (n+m) (λi=>if i<n then f i else g (i-n))))] }
  |.osl k,.osl k2 =>
   match own? st.own k,own? st.own k2 with
   |some (.row e' sz1 n f),some (.lit _ sz2 m cs) =>
    match toDs cs with
    |some ds=>{ side:=evS p st x∧evS p st y∧k≠k2∧e'=e∧sz1=sz∧sz2=sz∧(n+m)*bytes≤140737488355328∧n+m≤maxLen∧d∉st.nm,val:=.osl d,upd:=[(k,none),(d,some (.row e sz (n+m) (λi=>if i<n then f i else (ds.drop ((i-n)*sz)).take sz)))],rd:=[k,k2] }
    |none=>.bad
   |some (.lit e' sz1 n cs1),some (.lit _ sz2 m cs2)=>{ side:=evS p st x∧evS p st y∧k≠k2∧e'=e∧sz1=sz∧sz2=sz∧M9 cs2∧(n+m)*bytes≤140737488355328∧n+m≤maxLen∧d∉st.nm,val:=.osl d,upd:=[(k,none),(d,some (.lit e sz (n+m) (cs1++cs2)))],rd:=[k,k2] }
   |_,_=>.bad
  |.d (.sl full sz1 n f),.osl k2 =>
   match own? st.own k2 with
   |some (.lit _ sz2 m cs) =>
    match toDs cs with
    |some ds=>{ side:=evS p st x∧evS p st y∧full=true∧(0<n→sz1=sz)∧sz2=sz∧0<m∧(n+m)*bytes≤140737488355328∧n+m≤maxLen∧d∉st.nm,val:=.osl d,upd:=[(d,some (.row e sz (n+m) (λi=>if i<n then f i else (ds.drop ((i-n)*sz)).take sz)))],rd:=[k2] }
    |none=>.bad
   |some (.row _ sz2 m g)=>{ side:=evS p st x∧evS p st y∧full=true∧(0<n→sz1=sz)∧sz2=sz∧(n=0∨0<m)∧(n+m)*bytes≤140737488355328∧n+m≤maxLen∧d∉st.nm,val:=.osl d,upd:=[(d,some (.row e sz (n+m) (λi=>if i<n then f i else g (i-n))))],rd:=[k2] }
   |_=>.bad
  |_,_=>.bad
 |.never=>.bad
 |.pnc _=>.bad
 |.lkq z x i =>
  match evV st x,evV st i with
  |.osl k,.d (.int kk n) =>
   match own? st.own k with
   |some (.mp z' g)=>{ side:=evS p st x∧evS p st i∧kk=.i64∧z'=z,val:=.tup [nh (g n),X1 z (g n)],rd:=[k] }
   |_=>.bad
  |_,_=>.bad
 |.cap x =>
  match evV st x with
  |.d (.sl true _ n _)=>{ side:=evS p st x,val:=.d (.int .i64 n) }
  |_=>.bad
 |.apz e sz bytes z x y =>
  match evV st x,evV st y with
  |.d (.sl true _ 0 _),.d (.int _ m)=>{ side:=evS p st x∧evS p st y∧0<m∧m.toNat*bytes≤140737488355328∧m.toNat≤maxLen∧d∉st.nm,val:=.osl d,upd:=[(d,some (.row e sz m.toNat (λ_=>z)))] }
  |_,_=>.bad
 |.clr sz z x =>
  match evV st x with
  |.osub k sz1 lo n =>
   match own? st.own k with
   |some (.row e sz2 N f)=>{ side:=evS p st x∧sz1=sz∧sz2=sz,val:=.un,upd:=[(k,some (.row e sz N (λi=>if lo≤i∧i<lo+n then z else f i)))],rd:=[k] }
   |_=>.bad
  |_=>.bad
 |.mkifc t x=>if isCell (evV st x) then { side:=evS p st x,val:=.ifc t (evV st x) } else
   match evV st x with
   |.ag cs=>{ side:=evS p st x,val:=.ifc t (.ag cs) }
   |_=>.bad
 |.tas t ok x =>
  match evV st x with
  |.ifc t' v=>{ side:=evS p st x∧(if t'=t then True else ok=true),val:=if t'=t then (if ok then .tup [v,.d (.bool true)] else v) else .tup [.un,.d (.bool false)] }
  |_=>.bad
 |.mkmap z=>{ side:=d∉st.nm,val:=.osl d,upd:=[(d,some (.mp z (λ_=>z)))] }
 |.lkp z x i =>
  match evV st x,evV st i with
  |.osl k,.d (.int kk n) =>
   match own? st.own k with
   |some (.mp z' g)=>{ side:=evS p st x∧evS p st i∧kk=.i64∧z'=z,val:=.d (g n),rd:=[k] }
   |_=>.bad
  |_,_=>.bad
 |.mup x i v =>
  match evV st x,evV st i,eu (evV st v) with
  |.osl k,.d (.int kk n),some y =>
   match own? st.own k with
   |some (.mp z g)=>{ side:=evS p st x∧evS p st i∧evS p st v∧kk=.i64∧((z=.raw .nilFunc→y≠.raw .nilFunc)∧(z=.bool false→y≠.bool false)),val:=.un,upd:=[(k,some (.mp z (λm=>if m=n then y else g m)))],rd:=[k] }
   |_=>.bad
  |_,_,_=>.bad
 |.call _ _=>.bad
 |.callv _ _=>.bad
 |.ivk _ _ _=>.bad
 |.nili neg x =>
  match evV st x with
  |.ifc _ _=>{ side:=evS p st x,val:=.d (.bool neg) }
  |.d (.raw .nilIface)=>{ side:=evS p st x,val:=.d (.bool !neg) }
  |_=>.bad
def applyU (own:List (Nat×Own)):List (Nat×Option Own)→List (Nat×Own)
 |[]=>own
 |(k,some o)::l=>applyU (setO own k o) l
 |(k,none)::l=>applyU (delO own k) l
def newN (nm:List Nat):List (Nat×Option Own)→List Nat
 |[]=>nm
 |(k,some _)::l=>newN (if k∈nm then nm else k::nm) l
 |(_,none)::l=>newN nm l
def setE (env:List (Nat×V)) (dst:Option Nat) (v:V):List (Nat×V):=
 match dst with
 |some d=>(d,v)::env
 |none=>env
def St.app (st:St) (dst:Option Nat) (e:Ef):St:={ env:=setE st.env dst e.val,own:=applyU st.own e.upd,nm:=newN st.nm e.upd }
def cV1:Value→Option V
 |.int k n=>some (.d (.int k n))
 |.bool b=>some (.d (.bool b))
 |.slice none 0 0=>some (.d (.sl true 0 0 λ_=>[]))
 |.pointer none=>some (.d (.raw (.pointer none)))
 |.nilFunc=>some (.d (.raw .nilFunc))
 |.nilIface=>some (.d (.raw .nilIface))
 |.map none=>some (.d (.raw (.map none)))
 |_=>none
def gk:List Value→Option (List V)
 |[]=>some []
 |v::l =>
  match cV1 v,gk l with
  |some x,some xs=>some (x::xs)
  |_,_=>none
def cV:Value→Option V
 |.agg cs=>(gk cs.toList).map .ag
 |v=>cV1 v
def cX:Operand→Option X
 |.tmp t=>some (.t t)
 |.const v=>(cV v).map .k
 |.func f=>some (.k (.fn (.func f) [] []))
 |.global _=>none
def V5:List Operand→Option (List X)
 |[]=>some []
 |v::l =>
  match cX v,V5 l with
  |some x,some xs=>some (x::xs)
  |_,_=>none
def Hl (P:Program) (t:TypeId):Option Bool:=
 match P.underlying t with
 |some (.struct _)=>some true
 |some (.array _ _)=>some true
 |some _=>some false
 |none=>none
def Hm (P:Program) (t:TypeId):Option Nat:=(P.info? t).map (·.size)
def Fr (P:Program) (t:TypeId):Option (List V):=
 match (P.info? t).bind (·.zero) with
 |some z=>gk z.cells.toList
 |none=>none
def ln:Option Operand→Option (Option X)
 |none=>some none
 |some o=>(cX o).map some
end Go.Bx
end
section
namespace Go.Bx
open Go.RowKit
theorem nr {β:A6} {E:Nat→Prop} {w:World} {v:Value} {x:V} (h:cV1 v=some x):Ai β E w v x∧isCell x=true:=by
 unfold cV1 at h
 split at h<;>(try cases h)<;>refine ⟨?_,rfl⟩
 ·exact .d _ _ (.int _ _)
 ·exact .d _ _ (.bool _)
 ·exact .d _ _ (.nil _ _ _ _)
 all_goals exact .d _ _ (.raw _ rfl)
theorem Y7 {β:A6} {E:Nat→Prop} {w:World}:∀ {l:List Value} {xs:List V},gk l=some xs →
  l.length=xs.length∧∀ (j:Nat) (v:Value) (x:V),l[j]?=some v→xs[j]?=some x→Ai β E w v x∧isCell x=true
 |[],xs,h=>by simp [gk] at h;subst h;simp
 |v::l,xs,h=>by
  simp only [gk] at h
  split at h
  ·rename_i x ys h1 h2
   simp at h;subst h
   obtain ⟨e,hr⟩:=Y7 (β:=β) (E:=E) (w:=w) h2
   refine ⟨by simp [e],λj u y hu hy=>?_⟩
   cases j with
   |zero=>simp at hu hy;subst hu;subst hy;exact nr h1
   |succ j=>simp at hu hy;exact hr j u y hu hy
  ·cases h
theorem cV_ok {β:A6} {E:Nat→Prop} {w:World} {v:Value} {x:V} (h:cV v=some x):Ai β E w v x:=by
 unfold cV at h
 split at h
 ·rename_i cs
  obtain ⟨xs,h1,rfl⟩:=Option.map_eq_some_iff.1 h
  obtain ⟨e,hr⟩:=Y7 (β:=β) (E:=E) (w:=w) h1
  exact .ag cs xs (by simpa using e) λj u y hu hy=>(hr j u y (by simpa using hu) hy).1
 ·exact (nr h).1
section
variable {c:B3} {β:A6} {st:St} {a:Act} {w:World}
theorem evX_ok (H:Aa c β st a w) {o:Operand} {x:X} (h:cX o=some x):Ai β (Eo c.E0 β st.own) w (a.eval o) (evX st x):=by
 unfold cX at h
 split at h
 ·cases h;exact H.env _
 ·obtain ⟨y,h1,rfl⟩:=Option.map_eq_some_iff.1 h
  exact cV_ok h1
 ·cases h
  exact .fn _ _ _ _ _ rfl rfl (λj v x hv=>by simp at hv) (λj v x hv=>by simp at hv)
 ·cases h
theorem Ad (H:Aa c β st a w) {o:Operand} {x:X} (h:cX o=some x) (hs:evS true st x):Ai β (Eo c.E0 β st.own) w (a.eval o) (evV st x):=by
 have hr:=evX_ok H h
 unfold evV
 unfold evS at hs
 generalize evX st x=y at *
 generalize a.eval o=u at *
 cases y with
 |gd cc v=>cases hr with|gd _ _ _ h1 _=>exact h1 (hs rfl)
 |_=>exact hr
theorem Ee (H:Aa c β st a w):∀ {os:List Operand} {xs:List X},V5 os=some xs→evSs true st xs →
  (os.map a.eval).length=(evVs st xs).length∧∀ (j:Nat) (v:Value) (x:V),(os.map a.eval)[j]?=some v→(evVs st xs)[j]?=some x→Ai β (Eo c.E0 β st.own) w v x
 |[],xs,h,_=>by simp [V5] at h;subst h;simp [evVs]
 |o::os,xs,h,hs=>by
  simp only [V5] at h
  split at h
  ·rename_i x ys h1 h2
   simp at h;subst h
   obtain ⟨e,hr⟩:=Ee H h2 hs.2
   refine ⟨by simp [evVs] at e ⊢;exact e,λj u y hu hy=>?_⟩
   cases j with
   |zero=>simp [evVs] at hu hy;subst hu;subst hy;exact Ad H h1 hs.1
   |succ j=>simp only [evVs,List.map_cons,List.getElem?_cons_succ] at hu hy;exact hr j u y hu hy
  ·cases h
def As (c:B3) (β:A6) (st':St) (a:Act) (o:Oper) (w:World):Prop:=
 ∃ v w' β',((execOp a.eval o).run c.P w=.ok (.value v) w'∨((execOp a.eval o).run c.P w=.ok .skip w'∧v=undef))∧β.le β'∧Aa c β' st' (a.put o.dst v) w'
theorem As.val (H:Aa c β st a w) {o:Oper} {v:Value} {x:V} {rd:List Nat} {sd:Prop} (hd:∀ d,o.dst=some d→d<c.nt) (hr:(execOp a.eval o).run c.P w=.ok (.value v) w)
  (hv:Ai β (Eo c.E0 β st.own) w v x):As c β (st.app o.dst { side:=sd,val:=x,upd:=[],rd:=rd }) a o w:=by
 refine ⟨v,w,β,.inl hr,A6.le.refl β,?_⟩
 cases h:o.dst with
 |none=>exact H
 |some d=>exact H.setV (hd d h) hv
theorem Be {E:Nat→Prop} {v:Value} {k:IntKind} {n:Int} (h:Ai β E w v (.d (.int k n))):v=.int k n:=by
 cases h with|d _ _ h=>cases h;rfl
theorem Du {E:Nat→Prop} {v:Value} {b:Bool} (h:Ai β E w v (.d (.bool b))):v=.bool b:=by
 cases h with|d _ _ h=>cases h;rfl
theorem Cx {E:Nat→Prop} (k:IntKind) (n:Int):Ai β E w (.int k n) (.d (.int k n)):=.d _ _ (.int k n)
theorem Fj {E:Nat→Prop} (b:Bool):Ai β E w (.bool b) (.d (.bool b)):=.d _ _ (.bool b)
theorem E8 {l:List V} {j:Nat} {x:V} (h:l[j]?=some x):nth l j=x:=by
 induction l generalizing j with
 |nil=>simp at h
 |cons v l ih=>cases j with
  |zero=>simp at h;exact h
  |succ j=>simp at h;exact ih h
theorem S9 {l:List D} {j:Nat} {x:D} (h:l[j]?=some x):nthD l j=.d x:=by
 induction l generalizing j with
 |nil=>simp at h
 |cons v l ih=>cases j with
  |zero=>simp at h;simp [nthD,h]
  |succ j=>simp at h;exact ih h
theorem Gp (l:List V) (n:Nat):dropV l n=l.drop n:=by
 induction l generalizing n with
 |nil=>cases n<;>simp [dropV]
 |cons v l ih=>cases n<;>simp [dropV,ih]
theorem Jo (l:List D) (n:Nat):dropD l n=l.drop n:=by
 induction l generalizing n with
 |nil=>cases n<;>simp [dropD]
 |cons v l ih=>cases n<;>simp [dropD,ih]
theorem Gq (l:List V) (n:Nat):takeV l n=l.take n:=by
 induction l generalizing n with
 |nil=>cases n<;>simp [takeV]
 |cons v l ih=>cases n<;>simp [takeV,ih]
theorem S1 (l:List D) (n:Nat):takeDV l n=(l.take n).map .d:=by
 induction l generalizing n with
 |nil=>cases n<;>simp [takeDV]
 |cons v l ih=>cases n<;>simp [takeDV,ih]
theorem qu (H:Aa c β st a w) {x y z:X} {ox oy oz:Operand} (hx:cX ox=some x) (hy:cX oy=some y) (hz:cX oz=some z) {bc:Bool} (hc:evV st x=.d (.bool bc))
  (h1:evS true st x) (h2:evS (true&&bc) st y) (h3:evS (true&&!bc) st z) :
  a.eval ox=.bool bc∧Ai β (Eo c.E0 β st.own) w (if bc then a.eval oy else a.eval oz) (pickV bc (evV st y) (evV st z)):=by
 have hb:=Ad H hx h1
 rw [hc] at hb
 refine ⟨Du hb,?_⟩
 cases bc with
 |true =>
  simp only [if_true]
  have hr:=Ad H hy (by simpa using h2)
  generalize evV st y=u at *
  generalize evV st z=t at *
  unfold pickV
  split
  ·exact hr
  ·split
   ·exact hr
   ·exact .un _
  ·exact .un _
 |false =>
  simp only [Bool.false_eq_true,if_false]
  have hr:=Ad H hz (by simpa using h3)
  generalize evV st y=u at *
  generalize evV st z=t at *
  unfold pickV
  split
  ·exact hr
  ·split
   ·rename_i e
    subst e
    exact hr
   ·exact .un _
  ·exact .un _
end
end Go.Bx
end
section
namespace Go.Bx
open Go.RowKit
theorem Hz {P:Program} {t:TypeId} {agg:Bool} (h:Hl P t=some agg) (w:World):(isAgg t).run P w=.ok agg w:=by
 unfold Hl at h
 cases hd:P.underlying t with
 |none=>simp [hd] at h
 |some dd =>
  simp only [hd] at h
  simp only [isAgg,Sem.run_bind,run_underlying hd,Result.andThen_ok]
  cases dd<;>simp at h<;>subst h<;>rfl
section
variable {c:B3} {β:A6} {st:St} {a:Act} {w:World} {o:Oper} {d:Nat}
theorem E7 {s:Sem Value} {v:Value} {w':World} (he:execOp a.eval o=(do pure (.value (←s)))) (h:s.run c.P w=.ok v w'):(execOp a.eval o).run c.P w=.ok (.value v) w':=by
 rw [he];simp [h]
theorem vw (H:Aa c β st a w) (hd:∀ d,o.dst=some d→d<c.nt) {ox:Operand} {x:X} (ho:o.op=.move ox∨o.op=.assign ox) (hx:cX ox=some x)
  (hs:(opR st true d (.mov x)).side):As c β (st.app o.dst (opR st true d (.mov x))) a o w:=by
 refine As.val H hd (v:=a.eval ox) ?_ (Ad H hx hs)
 rcases ho with ho|ho<;>simp [execOp,ho]
theorem s_nilc (H:Aa c β st a w) (hd:∀ d,o.dst=some d→d<c.nt) {ox:Operand} {x:X} (ho:o.op=.nilCheck ox) (hx:cX ox=some x)
  (hs:(opR st true d (.nilc x)).side):As c β (st.app o.dst (opR st true d (.nilc x))) a o w:=by
 simp only [opR] at hs ⊢
 split at hs
 ·rename_i h1
  have e1:=Ad H hx hs
  rw [h1] at e1
  refine As.val H hd (v:=a.eval ox) ?_ e1
  generalize hu:a.eval ox=u at *
  cases e1
  simp [execOp, *]
 ·rename_i h1
  have e1:=Ad H hx hs
  rw [h1] at e1
  refine As.val H hd (v:=a.eval ox) ?_ e1
  generalize hu:a.eval ox=u at *
  cases e1
  simp [execOp, *]
 ·rename_i h1
  have e1:=Ad H hx hs
  rw [h1] at e1
  refine As.val H hd (v:=a.eval ox) ?_ e1
  generalize hu:a.eval ox=u at *
  cases e1
  simp [execOp, *]
 ·rename_i h1
  have e1:=Ad H hx hs
  rw [h1] at e1
  refine As.val H hd (v:=a.eval ox) ?_ e1
  generalize hu:a.eval ox=u at *
  cases e1
  simp [execOp, *]
 ·rename_i h1
  have e1:=Ad H hx hs
  rw [h1] at e1
  refine As.val H hd (v:=a.eval ox) ?_ e1
  generalize hu:a.eval ox=u at *
  cases e1
  simp [execOp, *]
 ·exact hs.elim
theorem zj (H:Aa c β st a w) (hd:∀ d,o.dst=some d→d<c.nt) {ox oy oz:Operand} {x y z:X} (ho:o.op=.pick ox oy oz) (hx:cX ox=some x) (hy:cX oy=some y) (hz:cX oz=some z)
  (hs:(opR st true d (.pick x y z)).side):As c β (st.app o.dst (opR st true d (.pick x y z))) a o w:=by
 simp only [opR] at hs ⊢
 split at hs
 ·rename_i bc h1
  obtain ⟨h2,h3,h4⟩:=hs
  obtain ⟨e,hr⟩:=qu H hx hy hz h1 h2 h3 h4
  refine As.val H hd ?_ hr
  simp only [execOp,ho,e]
  cases bc<;>simp [asBool]
 ·exact hs.elim
theorem s_bin (H:Aa c β st a w) (hd:∀ d,o.dst=some d→d<c.nt) {op:BinOp} {t t':TypeId} {ox oy:Operand} {x y:X} (ho:o.op=.binOp op t ox oy t') (hx:cX ox=some x) (hy:cX oy=some y)
  (hs:(opR st true d (.bin op x y)).side):As c β (st.app o.dst (opR st true d (.bin op x y))) a o w:=by
 simp only [opR] at hs ⊢
 split at hs
 ·rename_i k m k' n h1 h2
  obtain ⟨hsx,hsy,rfl,hs⟩:=hs
  have e1:=Ad H hx hsx
  have e2:=Ad H hy hsy
  rw [h1] at e1
  rw [h2] at e2
  have e1:=Be e1
  have e2:=Be e2
  have hg:(eqGuard op t ox oy (.int k m) (.int k n)).run c.P w=.ok () w:=by
   unfold eqGuard;split<;>rfl
  have key:∃ v,(binOp op t (.int k m) (.int k n)).run c.P w=.ok v w∧Ai β (Eo c.E0 β st.own) w v (binI op k m n).val:=by
   cases op<;>simp only [binI,Ef.bad] at hs ⊢<;>first
    |exact hs.elim
    |(refine ⟨_,?_,Cx _ _⟩;simp [binOp,Op.intArith,Op.intBits];done)
    |(refine ⟨_,?_,Fj _⟩;simp [binOp,Op.intCmp];done)
    |(refine ⟨_,?_,Cx _ _⟩;simp [binOp,Op.intDiv,hs];done)
  obtain ⟨v,hv,hr⟩:=key
  refine As.val H hd (v:=v) ?_ hr
  simp [execOp,ho,e1,e2,hg,hv]
 ·exact hs.elim
theorem xj (H:Aa c β st a w) (hd:∀ d,o.dst=some d→d<c.nt) {left:Bool} {t t':TypeId} {ox oy:Operand} {x y:X} (ho:o.op=.binOp (if left then .shl else .shr) t ox oy t') (hx:cX ox=some x) (hy:cX oy=some y)
  (hs:(opR st true d (.shf left x y)).side):As c β (st.app o.dst (opR st true d (.shf left x y))) a o w:=by
 simp only [opR] at hs ⊢
 split at hs
 ·rename_i k m k' n h1 h2
  obtain ⟨hsx,hsy,hs⟩:=hs
  have e1:=Ad H hx hsx
  have e2:=Ad H hy hsy
  rw [h1] at e1
  rw [h2] at e2
  have e1:=Be e1
  have e2:=Be e2
  have hlt:¬ n<0:=by omega
  refine As.val H hd ?_ (Cx _ _)
  cases left<;>simp [execOp,ho,e1,e2,eqGuard,binOp,Op.shift,hlt]
 ·exact hs.elim
theorem wh (H:Aa c β st a w) (hd:∀ d,o.dst=some d→d<c.nt) {neg:Bool} {t t':TypeId} {ox oy:Operand} {x y:X} (ho:o.op=.binOp (if neg then .neq else .eql) t ox oy t') (ht:c.P.underlying t=some .bool) (hx:cX ox=some x) (hy:cX oy=some y)
  (hs:(opR st true d (.beq neg x y)).side):As c β (st.app o.dst (opR st true d (.beq neg x y))) a o w:=by
 simp only [opR] at hs ⊢
 split at hs
 ·rename_i m n h1 h2
  obtain ⟨hsx,hsy⟩:=hs
  have e1:=Ad H hx hsx
  have e2:=Ad H hy hsy
  rw [h1] at e1
  rw [h2] at e2
  have e1:=Du e1
  have e2:=Du e2
  have hq:(Op.equal t (.bool m) (.bool n)).run c.P w=.ok (m == n) w:=by
   have h:∀ d:Nat,(Op.equalIn (d+1) t (.bool m) (.bool n)).run c.P w=.ok (m == n) w:=λd=>by simp [Op.equalIn,run_underlying ht]
   simp [Op.equal,Op.maxDepth,h 9999]
  refine As.val H hd ?_ (Fj _)
  cases neg<;>simp [execOp,ho,e1,e2,eqGuard,binOp,hq,bne]
 ·exact hs.elim
theorem s_inv (H:Aa c β st a w) (hd:∀ d,o.dst=some d→d<c.nt) {op:UnOp} {t:TypeId} {ox:Operand} {x:X} (ho:o.op=.unOp op t ox) (hx:cX ox=some x)
  (hs:(opR st true d (.inv op x)).side):As c β (st.app o.dst (opR st true d (.inv op x))) a o w:=by
 simp only [opR] at hs ⊢
 split at hs
 ·rename_i m h1
  have e1:=Ad H hx hs
  rw [h1] at e1
  have e1:=Du e1
  exact As.val H hd (by simp [execOp,ho,e1,Op.unary]) (Fj _)
 ·rename_i k m h1
  have e1:=Ad H hx hs
  rw [h1] at e1
  have e1:=Be e1
  exact As.val H hd (by simp [execOp,ho,e1,Op.unary,Op.intArith]) (Cx _ _)
 ·exact hs.elim
theorem s_conv (H:Aa c β st a w) (hd:∀ d,o.dst=some d→d<c.nt) {k:IntKind} {s t:TypeId} {ox:Operand} {x:X} (ho:o.op=.convert s t ox) (ht:c.P.underlying t=some (.int k)) {k0:IntKind} (hs0:c.P.underlying s=some (.int k0)) (hx:cX ox=some x)
  (hs:(opR st true d (.conv k x)).side):As c β (st.app o.dst (opR st true d (.conv k x))) a o w:=by
 simp only [opR] at hs ⊢
 split at hs
 ·rename_i k m h1
  have e1:=Ad H hx hs
  rw [h1] at e1
  have e1:=Be e1
  exact As.val H hd (by simp [execOp,ho,e1,convert,run_underlying ht,run_underlying hs0,Conv.intToInt]) (Cx _ _)
 ·exact hs.elim
theorem s_ext (H:Aa c β st a w) (hd:∀ d,o.dst=some d→d<c.nt) {i:Nat} {ox:Operand} {x:X} (ho:o.op=.extract ox i) (hx:cX ox=some x)
  (hs:(opR st true d (.ext i x)).side):As c β (st.app o.dst (opR st true d (.ext i x))) a o w:=by
 simp only [opR] at hs ⊢
 split at hs
 ·rename_i vs h1
  obtain ⟨hs,hi⟩:=hs
  have e1:=Ad H hx hs
  rw [h1] at e1
  generalize hu:a.eval ox=u at *
  cases e1 with
  |tup arr _ hz hr =>
   have hia:i<arr.size:=by omega
   have hg:arr[i]?=some arr[i]:=Array.getElem?_eq_getElem hia
   refine As.val H hd (v:=arr[i]) (by simp [execOp,ho,hu,Instr.extract,hg]) ?_
   rw [E8 (List.getElem?_eq_getElem hi)]
   exact hr i _ _ hg (List.getElem?_eq_getElem hi)
 ·exact hs.elim
theorem Ze {E:Nat→Prop} {arr:Array Value} {cs:List V} (hz:arr.size=cs.length) (hr:∀ (j:Nat) (v:Value) (x:V),arr[j]?=some v→cs[j]?=some x→Ai β E w v x)
  {off sz:Nat} (hlt:off+sz≤cs.length):Ai β E w (.agg (arr.extract off (off+sz))) (.ag (takeV (dropV cs off) sz)):=by
 rw [Gq,Gp]
 refine .ag _ _ (by simp [List.length_take,List.length_drop];omega) λj v x hv hx=>?_
 rw [Array.getElem?_extract] at hv
 rw [List.getElem?_take,List.getElem?_drop] at hx
 split at hv
 ·split at hx
  ·exact hr _ v x hv hx
  ·cases hx
 ·cases hv
theorem s_fld (H:Aa c β st a w) (hd:∀ d,o.dst=some d→d<c.nt) {off sz f:Nat} {agg:Bool} {t:TypeId} {fs:Array Field} {fd:Field} {ox:Operand} {x:X} (ho:o.op=.field t ox f) (ht:c.P.underlying t=some (.struct fs)) (hf:fs[f]?=some fd) (hoff:fd.offset=off)
  (hsz:Hm c.P fd.type=some sz) (hag:Hl c.P fd.type=some agg) (h1z:agg=false→sz=1) (hx:cX ox=some x)
  (hs:(opR st true d (.fld off sz agg x)).side):As c β (st.app o.dst (opR st true d (.fld off sz agg x))) a o w:=by
 simp only [opR] at hs ⊢
 split at hs
 ·rename_i cs h1
  obtain ⟨hs,hlt⟩:=hs
  have e1:=Ad H hx hs
  rw [h1] at e1
  generalize hu:a.eval ox=u at *
  cases e1 with
  |ag arr _ hz hr =>
   subst hoff
   obtain ⟨i,hi,hi2⟩:=Option.map_eq_some_iff.1 hsz
   cases agg with
   |true =>
    refine As.val H hd (v:=.agg (arr.extract fd.offset (fd.offset+sz))) ?_ (Ze hz hr hlt)
    have:=Hz hag w
    simp [execOp,ho,hu,Instr.field,run_underlying ht,hf,part,this,asAgg,sizeOf,typeInfo,hi,hi2]
   |false =>
    have h1:=h1z rfl
    subst h1
    have hlt':fd.offset<arr.size:=by omega
    have hlc:fd.offset<cs.length:=by omega
    have hg:arr[fd.offset]?=some arr[fd.offset]:=Array.getElem?_eq_getElem hlt'
    refine As.val H hd (v:=arr[fd.offset]) ?_ (by simp only [cut,Bool.false_eq_true,if_false];rw [E8 (List.getElem?_eq_getElem hlc)];exact hr _ _ _ hg (List.getElem?_eq_getElem hlc))
    have:=Hz hag w
    simp [execOp,ho,hu,Instr.field,run_underlying ht,hf,part,this,asAgg,hg]
 ·exact hs.elim
end
end Go.Bx
end
section
namespace Go.Bx
open Go.RowKit
def Q7:List (Option (List (Nat×Option IntKind)))→Option (List (Nat×Option IntKind))
 |[]=>some []
 |none::_=>none
 |some a::l =>
  match Q7 l with
  |some b=>some (a++b)
  |none=>none
def G0 (P:Program):Nat→TypeId→Nat→Option (List (Nat×Option IntKind))
 |0,_,_=>none
 |d+1,t,off =>
  match P.underlying t with
  |some (.int k)=>if P.cellsOf t=1 then some [(off,some k)] else none
  |some .bool=>if P.cellsOf t=1 then some [(off,none)] else none
  |some (.struct fs) =>
   if P.stoodInHeld t=false∧(fs.toList.all λf=>f.name != "_"&&decide (f.offset+P.cellsOf f.type≤P.cellsOf t))=true then Q7 (fs.toList.map λf=>G0 P d f.type (off+f.offset)) else none
  |some (.array n e)=>if n*P.cellsOf e≤P.cellsOf t∧(P.info? e).isSome=true then Q7 ((List.range n).map λi=>G0 P d e (off+i*P.cellsOf e)) else none
  |_=>none
def V7:Value→Value→Bool
 |.int _ a,.int _ b=>a == b
 |.bool a,.bool b=>a == b
 |_,_=>false
def Vq (lv:List (Nat×Option IntKind)) (A B:Array Value):Bool:=lv.all λp=>V7 (A.getD p.1 undef) (B.getD p.1 undef)
def bz (lv:List (Nat×Option IntKind)) (A:Array Value):Prop:=∀ p,p∈lv→match p.2 with
 |some k=>∃ n,A[p.1]?=some (.int k n)
 |none=>∃ b,A[p.1]?=some (.bool b)
def Nl (P:Program) (A:Array Value) (off:Nat) (t:TypeId) (a:Value):Prop:=
 match P.underlying t with
 |some (.struct _)=>a=.agg (A.extract off (off+P.cellsOf t))
 |some (.array _ _)=>a=.agg (A.extract off (off+P.cellsOf t))
 |_=>A[off]?=some a
theorem Oi {P:Program} (w:World) {d:Nat} {e:TypeId} {o off n:Nat} {lv:List (Nat×Option IntKind)} {A:Array Value} (h:G0 P d e (off+o)=some lv) (hf:bz lv A) (h1:o+P.cellsOf e≤n) (h2:off+n≤A.size) :
  ∃ a,(part e (A.extract off (off+n)) o).run P w=.ok a w∧Nl P A (off+o) e a:=by
 cases d with
 |zero=>simp [G0] at h
 |succ d =>
  simp only [G0] at h
  have hex:(A.extract off (off+n)).extract o (o+P.cellsOf e)=A.extract (off+o) (off+o+P.cellsOf e):=by
   rw [Array.extract_extract]
   congr 1
   omega
  have hone:∀ v:Value,A[off+o]?=some v→P.cellsOf e=1→(A.extract off (off+n))[o]?=some v:=λv hv h3=>by
   rw [Array.getElem?_extract,if_pos (by omega)]
   exact hv
  split at h
  ·rename_i k hu
   split at h
   ·rename_i h3
    cases h
    obtain ⟨m,hm⟩:=hf _ (List.mem_singleton.2 rfl)
    exact ⟨.int k m,by simp [part,isAgg,run_underlying hu,hone _ hm h3],by simp only [Nl,hu];exact hm⟩
   ·cases h
  ·rename_i hu
   split at h
   ·rename_i h3
    cases h
    obtain ⟨m,hm⟩:=hf _ (List.mem_singleton.2 rfl)
    exact ⟨.bool m,by simp [part,isAgg,run_underlying hu,hone _ hm h3],by simp only [Nl,hu];exact hm⟩
   ·cases h
  ·rename_i fs hu
   obtain ⟨i,hi⟩:=info_of_underlying hu
   exact ⟨.agg (A.extract (off+o) (off+o+P.cellsOf e)),by simp only [part,isAgg,Sem.run_bind,run_underlying hu,Result.andThen_ok,run_sizeOf w hi,Sem.run_pure,if_true,hex],by simp only [Nl,hu]⟩
  ·rename_i n' e' hu
   obtain ⟨i,hi⟩:=info_of_underlying hu
   exact ⟨.agg (A.extract (off+o) (off+o+P.cellsOf e)),by simp only [part,isAgg,Sem.run_bind,run_underlying hu,Result.andThen_ok,run_sizeOf w hi,Sem.run_pure,if_true,hex],by simp only [Nl,hu]⟩
  ·cases h
theorem ay (l1 l2:List (Nat×Option IntKind)) (A B:Array Value):Vq (l1++l2) A B=(Vq l1 A B&&Vq l2 A B):=by simp [Vq]
theorem S0 {a:Option (List (Nat×Option IntKind))} {l:List (Option (List (Nat×Option IntKind)))} {r:List (Nat×Option IntKind)} (h:Q7 (a::l)=some r):∃ x y,a=some x∧Q7 l=some y∧r=x++y:=by
 cases a with
 |none=>simp [Q7] at h
 |some x =>
  simp only [Q7] at h
  split at h
  ·rename_i y hy
   exact ⟨x,y,rfl,hy,(Option.some.inj h).symm⟩
  ·cases h
def ot (P:Program) (d:Nat):Prop:=∀ (D:Nat),d≤D→∀ (w:World) (t:TypeId) (off:Nat) (lv:List (Nat×Option IntKind)) (A B:Array Value) (a b:Value),
 G0 P d t off=some lv→bz lv A→bz lv B→off+P.cellsOf t≤A.size→off+P.cellsOf t≤B.size→Nl P A off t a→Nl P B off t b→(Op.equalIn D t a b).run P w=.ok (Vq lv A B) w
theorem T7 {P:Program} (w:World) {d D:Nat} (IH:ot P d) (hD:d≤D) {off n:Nat} {A B:Array Value} (hA:off+n≤A.size) (hB:off+n≤B.size):∀ (fs:List Field) (lv:List (Nat×Option IntKind)),
  (fs.all λf=>f.name != "_"&&decide (f.offset+P.cellsOf f.type≤n))=true→Q7 (fs.map λf=>G0 P d f.type (off+f.offset))=some lv→bz lv A→bz lv B →
  (Op.eqFields D (A.extract off (off+n)) (B.extract off (off+n)) fs).run P w=.ok (Vq lv A B) w
 |[],lv,_,h,_,_=>by
  simp [Q7] at h;subst h
  simp [Op.eqFields,Vq]
 |f::fs,lv,hall,h,fa,fb=>by
  rw [List.map_cons] at h
  obtain ⟨x,y,h1,h2,rfl⟩:=S0 h
  simp only [List.all_cons,Bool.and_eq_true,bne_iff_ne,ne_eq,decide_eq_true_eq] at hall
  have fa1:bz x A:=λp hp=>fa p (List.mem_append_left _ hp)
  have fb1:bz x B:=λp hp=>fb p (List.mem_append_left _ hp)
  obtain ⟨a,ha,va⟩:=Oi w h1 fa1 hall.1.2 hA
  obtain ⟨b,hb,vb⟩:=Oi w h1 fb1 hall.1.2 hB
  have hr:=IH D hD w f.type _ x A B a b h1 fa1 fb1 (by omega) (by omega) va vb
  have ih:=T7 w IH hD hA hB fs y hall.2 h2 (λp hp=>fa p (List.mem_append_right _ hp)) (λp hp=>fb p (List.mem_append_right _ hp))
  simp only [Op.eqFields,hall.1.1,ne_eq,not_false_eq_true,if_true,Sem.run_bind,ha,hb,hr,Result.andThen_ok,ay]
  cases Vq x A B
  ·simp
  ·simpa using ih
theorem Wx {P:Program} (w:World) {d D:Nat} (IH:ot P d) (hD:d≤D) {e:TypeId} {off n:Nat} {A B:Array Value} (hA:off+n≤A.size) (hB:off+n≤B.size):∀ (is:List Nat) (lv:List (Nat×Option IntKind)),
  (∀ i,i∈is→i*P.cellsOf e+P.cellsOf e≤n)→Q7 (is.map λi=>G0 P d e (off+i*P.cellsOf e))=some lv→bz lv A→bz lv B →
  (Op.eqItems D e (P.cellsOf e) (A.extract off (off+n)) (B.extract off (off+n)) is).run P w=.ok (Vq lv A B) w
 |[],lv,_,h,_,_=>by
  simp [Q7] at h;subst h
  simp [Op.eqItems,Vq]
 |i::is,lv,hall,h,fa,fb=>by
  rw [List.map_cons] at h
  obtain ⟨x,y,h1,h2,rfl⟩:=S0 h
  have hi:=hall i (by simp)
  have fa1:bz x A:=λp hp=>fa p (List.mem_append_left _ hp)
  have fb1:bz x B:=λp hp=>fb p (List.mem_append_left _ hp)
  obtain ⟨a,ha,va⟩:=Oi w h1 fa1 hi hA
  obtain ⟨b,hb,vb⟩:=Oi w h1 fb1 hi hB
  have hr:=IH D hD w e _ x A B a b h1 fa1 fb1 (by omega) (by omega) va vb
  have ih:=Wx w IH hD hA hB is y (λj hj=>hall j (by simp [hj])) h2 (λp hp=>fa p (List.mem_append_right _ hp)) (λp hp=>fb p (List.mem_append_right _ hp))
  simp only [Op.eqItems,Sem.run_bind,ha,hb,hr,Result.andThen_ok,ay]
  cases Vq x A B
  ·simp
  ·simpa using ih
theorem Py {P:Program}:∀ (d:Nat),ot P d
 |0=>λD _ w t off lv A B a b h=>by simp [G0] at h
 |d+1=>λD hD w t off lv A B a b h fa fb hA hB va vb=>by
  obtain ⟨D,rfl⟩:∃ D',D=D'+1:=⟨D-1,by omega⟩
  simp only [G0] at h
  split at h
  ·rename_i k hu
   split at h
   ·cases h
    obtain ⟨m,hm⟩:=fa _ (List.mem_singleton.2 rfl)
    obtain ⟨n,hn⟩:=fb _ (List.mem_singleton.2 rfl)
    simp only [Nl,hu] at va vb
    simp only at hm hn
    rw [hm] at va;rw [hn] at vb
    cases va;cases vb
    rw [run_equalIn_int w D t k k m n hu]
    simp [Vq,hm,hn,V7]
   ·cases h
  ·rename_i hu
   split at h
   ·cases h
    obtain ⟨m,hm⟩:=fa _ (List.mem_singleton.2 rfl)
    obtain ⟨n,hn⟩:=fb _ (List.mem_singleton.2 rfl)
    simp only [Nl,hu] at va vb
    simp only at hm hn
    rw [hm] at va;rw [hn] at vb
    cases va;cases vb
    rw [run_equalIn_bool w D t m n hu]
    simp [Vq,hm,hn,V7]
   ·cases h
  ·rename_i fs hu
   split at h
   ·rename_i hh
    simp only [Nl,hu] at va vb
    subst va;subst vb
    have hfs:P.fieldsOf t=fs:=by simp [Program.fieldsOf,hu]
    rw [run_equalIn_struct w D t _ _ (by rw [hfs];exact hu) hh.1,hfs]
    exact T7 w (Py d) (by omega) hA hB fs.toList lv hh.2 h fa fb
   ·cases h
  ·rename_i n e hu
   split at h
   ·rename_i hh
    simp only [Nl,hu] at va vb
    subst va;subst vb
    have hall:∀ i,i∈List.range n→i*P.cellsOf e+P.cellsOf e≤P.cellsOf t:=λi hi=>by
     have hi:=List.mem_range.1 hi
     have:(i+1)*P.cellsOf e≤n*P.cellsOf e:=Nat.mul_le_mul_right _ hi
     rw [Nat.add_mul,Nat.one_mul] at this
     exact Nat.le_trans this hh.1
    obtain ⟨i,hi⟩:=Option.isSome_iff_exists.1 hh.2
    rw [run_equalIn_array w D _ _ hu hi]
    exact Wx w (Py d) (by omega) hA hB (List.range n) lv hall h fa fb
   ·cases h
  ·cases h
theorem Uo {l:List V} {j:Nat} {x:V} (h:nth l j=x) (hx:x≠.un):l[j]?=some x:=by
 induction l generalizing j with
 |nil=>simp [nth] at h;exact absurd h.symm hx
 |cons v l ih=>cases j with
  |zero=>simp [nth] at h;simp [h]
  |succ j=>simp [nth] at h;simpa using ih h
section
variable {c:B3} {β:A6} {st:St} {a:Act} {w:World} {o:Oper} {d:Nat}
theorem Qz {E:Nat→Prop} {A B:Array Value} {xs ys:List V} (ha:A.size=xs.length) (hb:B.size=ys.length) (ra:∀ (j:Nat) (v:Value) (x:V),A[j]?=some v→xs[j]?=some x→Ai β E w v x) (rb:∀ (j:Nat) (v:Value) (x:V),B[j]?=some v→ys[j]?=some x→Ai β E w v x) :
  ∀ (lv:List (Nat×Option IntKind)),eqS lv xs ys→bz lv A∧bz lv B∧Vq lv A B=eqB lv xs ys
 |[],_=>⟨λp hp=>by simp at hp,λp hp=>by simp at hp,by simp [Vq,eqB]⟩
 |(o,some k)::l,h=>by
  simp only [eqS] at h
  split at h
  ·rename_i k1 m k2 n hx hy
   obtain ⟨e1,e2,h⟩:=h
   cases e1
   cases e2
   obtain ⟨f1,f2,f3⟩:=Qz ha hb ra rb l h
   have hx':=Uo hx (by simp)
   have hy':=Uo hy (by simp)
   have l1:o<A.size:=by have:=(List.getElem?_eq_some_iff.1 hx').1;omega
   have l2:o<B.size:=by have:=(List.getElem?_eq_some_iff.1 hy').1;omega
   have g1:=Be (ra o _ _ (Array.getElem?_eq_getElem l1) hx')
   have g2:=Be (rb o _ _ (Array.getElem?_eq_getElem l2) hy')
   refine ⟨λp hp=>?_,λp hp=>?_,?_⟩
   ·rcases List.mem_cons.1 hp with rfl|hp
    ·exact ⟨m,by simp only;rw [Array.getElem?_eq_getElem l1,g1]⟩
    ·exact f1 p hp
   ·rcases List.mem_cons.1 hp with rfl|hp
    ·exact ⟨n,by simp only;rw [Array.getElem?_eq_getElem l2,g2]⟩
    ·exact f2 p hp
   ·simp only [eqB,hx,hy,←f3,Vq,List.all_cons,Array.getD_eq_getD_getElem?,Array.getElem?_eq_getElem l1,Array.getElem?_eq_getElem l2,g1,g2,Option.getD_some,V7]
  ·exact h.elim
 |(o,none)::l,h=>by
  simp only [eqS] at h
  split at h
  ·rename_i m n hx hy
   obtain ⟨f1,f2,f3⟩:=Qz ha hb ra rb l h
   have hx':=Uo hx (by simp)
   have hy':=Uo hy (by simp)
   have l1:o<A.size:=by have:=(List.getElem?_eq_some_iff.1 hx').1;omega
   have l2:o<B.size:=by have:=(List.getElem?_eq_some_iff.1 hy').1;omega
   have g1:=Du (ra o _ _ (Array.getElem?_eq_getElem l1) hx')
   have g2:=Du (rb o _ _ (Array.getElem?_eq_getElem l2) hy')
   refine ⟨λp hp=>?_,λp hp=>?_,?_⟩
   ·rcases List.mem_cons.1 hp with rfl|hp
    ·exact ⟨m,by simp only;rw [Array.getElem?_eq_getElem l1,g1]⟩
    ·exact f1 p hp
   ·rcases List.mem_cons.1 hp with rfl|hp
    ·exact ⟨n,by simp only;rw [Array.getElem?_eq_getElem l2,g2]⟩
    ·exact f2 p hp
   ·simp only [eqB,hx,hy,←f3,Vq,List.all_cons,Array.getD_eq_getD_getElem?,Array.getElem?_eq_getElem l1,Array.getElem?_eq_getElem l2,g1,g2,Option.getD_some,V7]
  ·exact h.elim
theorem xq (H:Aa c β st a w) (hd:∀ d,o.dst=some d→d<c.nt) {neg:Bool} {t t':TypeId} {ox oy:Operand} {x y:X} {lv:List (Nat×Option IntKind)} (ho:o.op=.binOp (if neg then .neq else .eql) t ox oy t') (hag:Hl c.P t=some true) (hg:c.P.eqGuardType c.P.depth t=false)
  (hlv:G0 c.P 100 t 0=some lv) (hx:cX ox=some x) (hy:cX oy=some y)
  (hs:(opR st true d (.eqa neg (c.P.cellsOf t) lv x y)).side):As c β (st.app o.dst (opR st true d (.eqa neg (c.P.cellsOf t) lv x y))) a o w:=by
 simp only [opR] at hs ⊢
 split at hs
 ·rename_i xs ys h1 h2
  obtain ⟨hsx,hsy,hl1,hl2,hs⟩:=hs
  have e1:=Ad H hx hsx
  have e2:=Ad H hy hsy
  rw [h1] at e1
  rw [h2] at e2
  generalize hu:a.eval ox=u at *
  generalize hv:a.eval oy=v at *
  cases e1 with
  |ag A _ hA rA =>
   cases e2 with
   |ag B _ hB rB =>
    obtain ⟨f1,f2,f3⟩:=Qz hA hB rA rB lv hs
    have view:∀ (A:Array Value),A.size=c.P.cellsOf t→Nl c.P A 0 t (.agg A):=λA h=>by
     unfold Hl at hag
     have:A.extract 0 (0+c.P.cellsOf t)=A:=by rw [←h];simp
     cases hq:c.P.underlying t with
     |none=>simp [hq] at hag
     |some q=>cases q<;>simp [hq] at hag<;>simp only [Nl,hq,this]
    have hq:=Py 100 10000 (by omega) w t 0 lv A B _ _ hlv f1 f2 (by omega) (by omega) (view A (by omega)) (view B (by omega))
    rw [f3] at hq
    refine As.val H hd ?_ (Fj _)
    cases neg
    ·simp only [Bool.false_eq_true,if_false] at ho ⊢
     simp only [execOp,ho,hu,hv,Sem.run_bind,run_eqGuard_agg w .eql t ox oy A B hg,Result.andThen_ok,run_eql_struct,hq,Sem.run_pure]
    ·simp only [if_true] at ho ⊢
     simp only [execOp,ho,hu,hv,Sem.run_bind,run_eqGuard_agg w .neq t ox oy A B hg,Result.andThen_ok,run_neq_struct,hq,Sem.run_pure]
 ·exact hs.elim
end
end Go.Bx
end
section
namespace Go.Bx
open Go.RowKit
theorem Cy (b off n:Nat):(⟨b,off,none⟩:Addr).add n=⟨b,off+n,none⟩:=by
 unfold Addr.add;split
 ·rename_i h;subst h;rfl
 ·rfl
theorem Fe {P:Program} {w:World} {t:TypeId} {sz:Nat} {agg:Bool} (hsz:Hm P t=some sz) (hag:Hl P t=some agg) (h1z:agg=false→sz=1) {b off:Nat} {g:Nat→Value}
  (hc:∀ j,j<sz→w.cell? ⟨b,off+j,none⟩=some (g j)) :
  (Instr.loadAt t (.pointer (some ⟨b,off,none⟩))).run P w=.ok (if agg then .agg ((List.range sz).map g).toArray else g 0) w:=by
 obtain ⟨i,hi,hi2⟩:=Option.map_eq_some_iff.1 hsz
 cases agg with
 |true =>
  have hl:=run_loadCells (P:=P) w ⟨b,off,none⟩ sz g (λj hj=>by rw [Cy];exact hc j hj)
  simp [Instr.loadAt,Instr.sureAddr,loadVar,Hz hag w,sizeOf,typeInfo,hi,hi2,hl]
 |false =>
  have h1:=h1z rfl
  subst h1
  have h0:=hc 0 (by omega)
  simp only [Nat.add_zero] at h0
  simp [Instr.loadAt,Instr.sureAddr,loadVar,Hz hag w,h0]
section
variable {c:B3} {β:A6} {st:St} {a:Act} {w:World} {o:Oper} {d:Nat}
theorem Bb (H:Aa c β st a w) {k:Nat} {ow:Own} (h:own? st.own k=some ow):C9 β (Eo c.E0 β st.own) w k ow:=H.own.ok k ow (Ah h)
theorem s_load (H:Aa c β st a w) (hd:∀ d,o.dst=some d→d<c.nt) {sz:Nat} {agg:Bool} {t:TypeId} {ox:Operand} {x:X} (ho:o.op=.load t ox)
  (hsz:Hm c.P t=some sz) (hag:Hl c.P t=some agg) (h1z:agg=false→sz=1) (hx:cX ox=some x)
  (hs:(opR st true d (.load sz agg x)).side):As c β (st.app o.dst (opR st true d (.load sz agg x))) a o w:=by
 simp only [opR] at hs ⊢
 split at hs
 ·
  rename_i cs h1
  obtain ⟨hs,hlt⟩:=hs
  have e1:=Ad H hx hs
  rw [h1] at e1
  generalize hu:a.eval ox=u at *
  cases e1 with
  |mem _ b off g hcell hrel =>
   refine As.val H hd (E7 (s:=Instr.loadAt t (a.eval ox)) (by simp [execOp,ho]) (by rw [hu];exact Fe hsz hag h1z (λj hj=>(hcell j (by omega)).2))) ?_
   cases agg with
   |true =>
    simp only [cutD,if_true]
    rw [S1,Jo]
    refine .ag _ _ (by simp;omega) λj v y hv hy=>?_
    simp only [List.drop_zero,List.getElem?_map,Option.map_eq_some_iff,List.getElem?_take] at hy
    obtain ⟨z,hz,rfl⟩:=hy
    split at hz
    ·rename_i hj
     simp [hj] at hv
     subst hv
     exact .d _ _ (hrel j z hz)
    ·cases hz
   |false =>
    simp only [cutD,Bool.false_eq_true,if_false]
    have h1:=h1z rfl
    have h0:cs[0]?=some cs[0]:=List.getElem?_eq_getElem (by omega)
    rw [S9 h0]
    exact .d _ _ (hrel 0 _ h0)
 ·rename_i k off h1
  split at hs
  ·rename_i cs h2
   obtain ⟨hs,hlt⟩:=hs
   have e1:=Ad H hx hs
   rw [h1] at e1
   obtain ⟨b,arr,e,hb,hh,hz,hr⟩:=Bb H h2
   generalize hu:a.eval ox=u at *
   cases e1 with
   |own _ _ b' hb' =>
    rw [hb] at hb'
    injection hb' with hb';injection hb' with hb';injection hb' with hb';injection hb' with hb'
    subst hb'
    have hcell:∀ j,j<sz→w.cell? ⟨b,off+j,none⟩=some (arr.getD (off+j) undef):=λj hj=>by
     rw [cell_of_row w b (off+j) arr e (0,0) hh]
     have:off+j<arr.size:=by omega
     simp [this]
    refine As.val H hd (E7 (s:=Instr.loadAt t (a.eval ox)) (by simp [execOp,ho]) (by rw [hu];exact Fe hsz hag h1z hcell)) ?_
    cases agg with
    |true =>
     simp only [cut,if_true]
     rw [Gq,Gp]
     refine .ag _ _ (by simp;omega) λj v y hv hy=>?_
     rw [List.getElem?_take,List.getElem?_drop] at hy
     split at hy
     ·rename_i hj
      have hlt2:off+j<arr.size:=by omega
      simp [hj,hlt2] at hv
      exact hr (off+j) v y (by rw [Array.getElem?_eq_getElem hlt2];simp [hv]) hy
     ·cases hy
    |false =>
     simp only [cut,Bool.false_eq_true,if_false]
     have h1:=h1z rfl
     have hlt2:off<arr.size:=by omega
     have h0:cs[off]?=some cs[off]:=List.getElem?_eq_getElem (by omega)
     rw [E8 h0]
     exact hr off _ _ (by simp [Array.getElem?_eq_getElem hlt2]) h0
  ·exact hs.elim
 ·rename_i k sz' i off h1
  split at hs
  ·rename_i e0 sz2 n f h2
   obtain ⟨hs,rfl,hin,hlt⟩:=hs
   have e1:=Ad H hx hs
   rw [h1] at e1
   obtain ⟨v,xs,hb,hrow,hl,hr⟩:=Bb H h2
   generalize hu:a.eval ox=u at *
   cases e1 with
   |optr _ _ _ _ b m cp hb' =>
    rw [hb] at hb'
    injection hb' with hb'
    subst hb'
    obtain ⟨hxl,hrow⟩:=hrow
    rcases hrow with ⟨_,hn0⟩|⟨g,cap,cur,hv,_,hh,hnc,_,hcs,htk⟩
    ·omega
    ·injection hv with hv1 hv2 hv3
     injection hv1 with hv1;injection hv1 with hv1
     subst hv1
     have hxs:∀ j,j<n*sz'→cur[j]?=xs[j]?:=λj hj=>by
      rw [←htk,List.getElem?_take];simp [hj]
     have hidx:∀ j,j<sz→i*sz'+off+j<n*sz':=λj hj=>by
      have:(i+1)*sz'≤n*sz':=Nat.mul_le_mul_right _ hin
      rw [Nat.add_mul] at this;omega
     have hfl:=hl i hin
     have hget:∀ j (z:D),(f i)[off+j]?=some z→j<sz→∃ uu,cur[i*sz'+off+j]?=some uu∧Cg (Eo c.E0 β st.own) w uu z:=λj z hz hj=>by
      obtain ⟨uu,h3,h4⟩:=hr i (off+j) hin (by omega) z hz
      exact ⟨uu,by rw [hxs _ (hidx j hj),Nat.add_assoc];exact h3,h4⟩
     have hcell:∀ j,j<sz→w.cell? ⟨b,i*sz'+off+j,none⟩=some (cur.getD (i*sz'+off+j) undef):=λj hj=>by
      rw [cell_of_row w b _ cur _ (0,0) hh]
      have:i*sz'+off+j<cur.size:=by
       have:=hidx j hj
       have h5:n*sz'≤cap*sz':=Nat.mul_le_mul_right _ hnc
       omega
      simp [this]
     refine As.val H hd (E7 (s:=Instr.loadAt t (a.eval ox)) (by simp [execOp,ho]) (by rw [hu];exact Fe hsz hag h1z hcell)) ?_
     cases agg with
     |true =>
      simp only [cutD,if_true]
      rw [S1,Jo]
      refine .ag _ _ (by simp [hfl];omega) λj v y hv hy=>?_
      simp only [List.getElem?_map,Option.map_eq_some_iff,List.getElem?_take,List.getElem?_drop] at hy
      obtain ⟨z,hz,rfl⟩:=hy
      split at hz
      ·rename_i hj
       obtain ⟨uu,h3,h4⟩:=hget j z hz hj
       simp [hj] at hv
       rw [h3] at hv
       simp at hv
       subst hv
       exact .d _ _ h4
      ·cases hz
     |false =>
      simp only [cutD,Bool.false_eq_true,if_false]
      have h1:=h1z rfl
      subst h1
      have h0:(f i)[off]?=some (f i)[off]:=List.getElem?_eq_getElem (by omega)
      rw [S9 h0]
      obtain ⟨uu,h3,h4⟩:=hget 0 _ h0 (by omega)
      simp only [Nat.add_zero] at h3 ⊢
      simp only [Array.getD_eq_getD_getElem?,h3,Option.getD_some]
      exact .d _ _ h4
  ·rename_i e0 sz2 n cs h2
   obtain ⟨hs,rfl,hin,hlt⟩:=hs
   have e1:=Ad H hx hs
   rw [h1] at e1
   obtain ⟨v,xs,hb,hrow,hcl,hr⟩:=Bb H h2
   generalize hu:a.eval ox=u at *
   cases e1 with
   |optr _ _ _ _ b m cp hb' =>
    rw [hb] at hb'
    injection hb' with hb'
    subst hb'
    obtain ⟨hxl,hrow⟩:=hrow
    rcases hrow with ⟨_,hn0⟩|⟨g,cap,arr,hv,_,hh,hnc,_,hcs,htk⟩
    ·omega
    injection hv with hv1 hv2 hv3
    injection hv1 with hv1;injection hv1 with hv1
    subst hv1
    have hxs:∀ j,j<n*sz'→arr[j]?=xs[j]?:=λj hj=>by
     rw [←htk,List.getElem?_take];simp [hj]
    have hz:n*sz'≤arr.size:=by rw [hcs];exact Nat.mul_le_mul_right _ hnc
    have hidx:∀ j,j<sz→i*sz'+off+j<n*sz':=λj hj=>by
     have:(i+1)*sz'≤n*sz':=Nat.mul_le_mul_right _ hin
     rw [Nat.add_mul] at this;omega
    have hcell:∀ j,j<sz→w.cell? ⟨b,i*sz'+off+j,none⟩=some (arr.getD (i*sz'+off+j) undef):=λj hj=>by
     rw [cell_of_row w b _ arr _ (0,0) hh]
     have:=hidx j hj
     have:i*sz'+off+j<arr.size:=by omega
     simp [this]
    refine As.val H hd (E7 (s:=Instr.loadAt t (a.eval ox)) (by simp [execOp,ho]) (by rw [hu];exact Fe hsz hag h1z hcell)) ?_
    cases agg with
    |true =>
     simp only [cut,if_true]
     rw [Gq,Gp]
     refine .ag _ _ (by
      simp
      rcases Nat.eq_zero_or_pos sz with h|h
      ·omega
      ·have:=hidx (sz-1) (by omega);omega) λj v y hv hy=>?_
     rw [List.getElem?_take,List.getElem?_drop] at hy
     split at hy
     ·rename_i hj
      have:=hidx j hj
      have hlt2:i*sz'+off+j<arr.size:=by omega
      simp [hj,hlt2] at hv
      exact hr (i*sz'+off+j) v y (by rw [←hxs _ this,Array.getElem?_eq_getElem hlt2];simp [hv]) hy
     ·cases hy
    |false =>
     simp only [cut,Bool.false_eq_true,if_false]
     have h1:=h1z rfl
     have:=hidx 0 (by omega)
     have hlt2:i*sz'+off<arr.size:=by omega
     have h0:cs[i*sz'+off]?=some cs[i*sz'+off]:=List.getElem?_eq_getElem (by omega)
     rw [E8 h0]
     exact hr (i*sz'+off) _ _ (by rw [←hxs _ (by omega)];simp [Array.getElem?_eq_getElem hlt2]) h0
  ·exact hs.elim
 ·exact hs.elim
end
end Go.Bx
end
section
namespace Go.Bx
open Go.RowKit
section
variable {c:B3} {β:A6} {st:St} {a:Act} {w:World} {o:Oper} {d:Nat}
theorem Uk {P:Program} {w:World} {t:TypeId} {fs:Array Field} {f:Nat} {fd:Field} {b off:Nat} (ht:P.underlying t=some (.struct fs)) (hf:fs[f]?=some fd) {fz:Nat} (hz:Hm P fd.type=some fz) (hz0:fz≠0) :
  (Instr.fieldAt t (.pointer (some ⟨b,off,none⟩)) f).run P w=.ok (.pointer (some ⟨b,off+fd.offset,none⟩)) w:=by
 obtain ⟨i,hi,hi2⟩:=Option.map_eq_some_iff.1 hz
 have:i.size≠0:=by omega
 simp [Instr.fieldAt,run_underlying ht,hf,Instr.sureAddr,fieldPlace,sizeOf,typeInfo,hi,this,Cy]
theorem s_fadr (H:Aa c β st a w) (hd:∀ d,o.dst=some d→d<c.nt) {off f:Nat} {t:TypeId} {fs:Array Field} {fd:Field} {ox:Operand} {x:X} (ho:o.op=.fieldAddr t ox f) (ht:c.P.underlying t=some (.struct fs)) (hf:fs[f]?=some fd) (hoff:fd.offset=off)
  {fz:Nat} (hz:Hm c.P fd.type=some fz) (hz0:fz≠0) (hx:cX ox=some x)
  (hs:(opR st true d (.fadr off x)).side):As c β (st.app o.dst (opR st true d (.fadr off x))) a o w:=by
 subst hoff
 simp only [opR] at hs ⊢
 have hrun:∀ b off,a.eval ox=.pointer (some ⟨b,off,none⟩)→(execOp a.eval o).run c.P w=.ok (.value (.pointer (some ⟨b,off+fd.offset,none⟩))) w:=λb off he =>
  E7 (s:=Instr.fieldAt t (a.eval ox) f) (by simp [execOp,ho]) (by rw [he];exact Uk ht hf hz hz0)
 split at hs
 ·rename_i cs h1
  obtain ⟨hs,hlt⟩:=hs
  have e1:=Ad H hx hs
  rw [h1] at e1
  generalize hu:a.eval ox=u at *
  cases e1 with
  |mem _ b off g hcell hrel =>
   refine As.val H hd (hrun b off rfl) ?_
   rw [Jo]
   refine .mem _ _ _ (λj=>g (fd.offset+j)) (λj hj=>?_) (λj y hy=>?_)
   ·simp at hj
    have:=hcell (fd.offset+j) (by omega)
    rwa [←Nat.add_assoc] at this
   ·rw [List.getElem?_drop] at hy
    exact hrel _ y hy
 ·rename_i k o' h1
  have e1:=Ad H hx hs
  rw [h1] at e1
  generalize hu:a.eval ox=u at *
  cases e1 with
  |own _ _ b hb=>exact As.val H hd (hrun b o' rfl) (.own _ _ _ hb)
 ·rename_i k sz i o' h1
  have e1:=Ad H hx hs
  rw [h1] at e1
  generalize hu:a.eval ox=u at *
  cases e1 with
  |optr _ _ _ _ b m cp hb =>
   refine As.val H hd (hrun b _ rfl) ?_
   rw [Nat.add_assoc]
   exact .optr _ _ _ _ _ _ _ hb
 ·exact hs.elim
theorem Q8 {P:Program} {w:World} {t e:TypeId} {sz:Nat} (ht:P.underlying t=some (.slice e)) (hz:Hm P e=some sz) {b off n cp:Nat} {k:IntKind} {m:Int} (h0:0≤m) (h1:m<(n:Int)) :
  (Instr.indexAt t (.slice (some ⟨b,off,none⟩) n cp) (.int k m)).run P w=.ok (.pointer (some ⟨b,off+m.toNat*sz,none⟩)) w:=by
 obtain ⟨i,hi,hi2⟩:=Option.map_eq_some_iff.1 hz
 simp [Instr.indexAt,asIntOf,run_underlying ht,h0,h1,sizeOf,typeInfo,hi,hi2,Cy]
theorem s_iadr (H:Aa c β st a w) (hd:∀ d,o.dst=some d→d<c.nt) {sz:Nat} {t e:TypeId} {ox oi:Operand} {x i:X} (ho:o.op=.indexAddr t ox oi) (ht:c.P.underlying t=some (.slice e)) (hz:Hm c.P e=some sz) (hx:cX ox=some x) (hi:cX oi=some i)
  (hs:(opR st true d (.iadr sz x i)).side):As c β (st.app o.dst (opR st true d (.iadr sz x i))) a o w:=by
 simp only [opR] at hs ⊢
 have hrun:∀ b off n cp k m,a.eval ox=.slice (some ⟨b,off,none⟩) n cp→a.eval oi=.int k m→0≤m→m<(n:Int)→(execOp a.eval o).run c.P w=.ok (.value (.pointer (some ⟨b,off+m.toNat*sz,none⟩))) w:=λb off n cp k m he hi h0 h1 =>
  E7 (s:=Instr.indexAt t (a.eval ox) (a.eval oi)) (by simp [execOp,ho]) (by rw [he,hi];exact Q8 ht hz h0 h1)
 split at hs
 ·rename_i full sz' n f kk m h1 h2
  obtain ⟨hsx,hsi,h0,hm,rfl⟩:=hs
  have e1:=Ad H hx hsx
  have e2:=Ad H hi hsi
  rw [h1] at e1
  rw [h2] at e2
  have e2:=Be e2
  generalize hu:a.eval ox=u at *
  cases e1 with
  |d _ _ e1 =>
   cases e1 with
   |nil _ _ _ _=>omega
   |sl _ _ _ _ b off cp g hc hf hl hcell hrel =>
    have hmn:m.toNat<n:=by omega
    refine As.val H hd (hrun b off n cp kk m rfl e2 h0 hm) ?_
    refine .mem _ _ _ (λj=>g m.toNat j) (λj hj=>?_) (λj y hy=>?_)
    ·rw [hl _ hmn] at hj
     have:=hcell m.toNat j hmn hj
     rwa [←Nat.add_assoc] at this
    ·have hj:j<sz:=by
      have:=(List.getElem?_eq_some_iff.1 hy).1
      rwa [hl _ hmn] at this
     exact hrel m.toNat j hmn hj y hy
 ·rename_i k kk m h1 h2
  have fin:∀ (n:Nat),evS true st x→evS true st i→0≤m→m<(n:Int)→(∃ b cp,β k=some (.slice (some ⟨b,0,none⟩) n cp))→∀ sd rd,As c β (st.app o.dst { side:=sd,val:=.optr k sz m.toNat 0,upd:=[],rd:=rd }) a o w:=by
   intro n hsx hsi h0 hm ⟨b,cp,hb⟩ sd rd
   have e1:=Ad H hx hsx
   have e2:=Ad H hi hsi
   rw [h1] at e1
   rw [h2] at e2
   have e2:=Be e2
   generalize hu:a.eval ox=u at *
   cases e1 with
   |osl _ _ hb' _ =>
    rw [hb] at hb'
    injection hb' with hb'
    subst hb'
    refine As.val H hd (hrun b 0 n cp kk m rfl e2 h0 hm) ?_
    have:=Ai.optr (β:=β) (E:=Eo c.E0 β st.own) (w:=w) k sz m.toNat 0 b n cp hb
    simpa using this
  split at hs
  ·rename_i e0 sz' n f h3
   obtain ⟨hsx,hsi,h0,hm,rfl⟩:=hs
   obtain ⟨v,xs,hb,hrow,_,_⟩:=Bb H h3
   obtain ⟨_,hrow⟩:=hrow
   rcases hrow with ⟨_,hn0⟩|⟨g,cap,cur,hv,_⟩
   ·omega
   ·exact fin n hsx hsi h0 hm ⟨g,cap,by rw [hb,hv]⟩ _ _
  ·rename_i e0 sz' n cs h3
   obtain ⟨hsx,hsi,h0,hm,rfl⟩:=hs
   obtain ⟨v,xs,hb,hrow,_,_⟩:=Bb H h3
   obtain ⟨_,hrow⟩:=hrow
   rcases hrow with ⟨_,hn0⟩|⟨g,cap,cur,hv,_⟩
   ·omega
   ·exact fin n hsx hsi h0 hm ⟨g,cap,by rw [hb,hv]⟩ _ _
  ·exact hs.elim
 ·rename_i k sz' lo n kk m h1 h2
  obtain ⟨hsx,hsi,h0,hm,rfl⟩:=hs
  have e1:=Ad H hx hsx
  have e2:=Ad H hi hsi
  rw [h1] at e1
  rw [h2] at e2
  have e2:=Be e2
  generalize hu:a.eval ox=u at *
  cases e1 with
  |osub _ _ _ _ b m0 c0 aa hb hn ha =>
   have:=ha (by omega)
   subst this
   refine As.val H hd (hrun b _ n _ kk m rfl e2 h0 hm) ?_
   have:=Ai.optr (β:=β) (E:=Eo c.E0 β st.own) (w:=w) k sz (lo+m.toNat) 0 b m0 c0 hb
   rw [Nat.add_mul] at this
   simpa using this
  |osub0 _ _ _ hb=>omega
 ·exact hs.elim
theorem R9 {P:Program} {w:World} {t e:TypeId} {sz len:Nat} (ht:P.underlying t=some (.array len e)) (hz:Hm P e=some sz) {b off:Nat} {k:IntKind} {m:Int} (h0:0≤m) (h1:m<(len:Int)) :
  (Instr.indexAt t (.pointer (some ⟨b,off,none⟩)) (.int k m)).run P w=.ok (.pointer (some ⟨b,off+m.toNat*sz,none⟩)) w:=by
 obtain ⟨i,hi,hi2⟩:=Option.map_eq_some_iff.1 hz
 simp [Instr.indexAt,asIntOf,Instr.sureAddr,run_underlying ht,h0,h1,sizeOf,typeInfo,hi,hi2,Cy]
theorem s_aadr (H:Aa c β st a w) (hd:∀ d,o.dst=some d→d<c.nt) {sz len:Nat} {t e:TypeId} {ox oi:Operand} {x i:X} (ho:o.op=.indexAddr t ox oi) (ht:c.P.underlying t=some (.array len e)) (hz:Hm c.P e=some sz) (hx:cX ox=some x) (hi:cX oi=some i)
  (hs:(opR st true d (.aadr sz len x i)).side):As c β (st.app o.dst (opR st true d (.aadr sz len x i))) a o w:=by
 simp only [opR] at hs ⊢
 have hrun:∀ b off k m,a.eval ox=.pointer (some ⟨b,off,none⟩)→a.eval oi=.int k m→0≤m→m<(len:Int)→(execOp a.eval o).run c.P w=.ok (.value (.pointer (some ⟨b,off+m.toNat*sz,none⟩))) w:=λb off k m he hi h0 h1 =>
  E7 (s:=Instr.indexAt t (a.eval ox) (a.eval oi)) (by simp [execOp,ho]) (by rw [he,hi];exact R9 ht hz h0 h1)
 split at hs
 ·rename_i cs kk m h1 h2
  obtain ⟨hsx,hsi,h0,hm,hlen⟩:=hs
  have e1:=Ad H hx hsx
  have e2:=Ad H hi hsi
  rw [h1] at e1
  rw [h2] at e2
  have e2:=Be e2
  generalize hu:a.eval ox=u at *
  cases e1 with
  |mem _ b off g hcell hrel =>
   refine As.val H hd (hrun b off kk m rfl e2 h0 hm) ?_
   rw [Jo]
   refine .mem _ _ _ (λj=>g (m.toNat*sz+j)) (λj hj=>?_) (λj y hy=>?_)
   ·simp at hj
    have:=hcell (m.toNat*sz+j) (by omega)
    rwa [←Nat.add_assoc] at this
   ·rw [List.getElem?_drop] at hy
    exact hrel _ y hy
 ·rename_i k o' kk m h1 h2
  obtain ⟨hsx,hsi,h0,hm⟩:=hs
  have e1:=Ad H hx hsx
  have e2:=Ad H hi hsi
  rw [h1] at e1
  rw [h2] at e2
  have e2:=Be e2
  generalize hu:a.eval ox=u at *
  cases e1 with
  |own _ _ b hb=>exact As.val H hd (hrun b _ kk m rfl e2 h0 hm) (.own _ _ _ hb)
 ·rename_i k s j o' kk m h1 h2
  obtain ⟨hsx,hsi,h0,hm⟩:=hs
  have e1:=Ad H hx hsx
  have e2:=Ad H hi hsi
  rw [h1] at e1
  rw [h2] at e2
  have e2:=Be e2
  generalize hu:a.eval ox=u at *
  cases e1 with
  |optr _ _ _ _ b m0 cp hb =>
   refine As.val H hd (hrun b _ kk m rfl e2 h0 hm) ?_
   rw [Nat.add_assoc]
   exact .optr _ _ _ _ _ _ _ hb
 ·exact hs.elim
theorem s_idx (H:Aa c β st a w) (hd:∀ d,o.dst=some d→d<c.nt) {sz len:Nat} {agg:Bool} {t e:TypeId} {ox oi:Operand} {x i:X} (ho:o.op=.index t ox oi) (ht:c.P.underlying t=some (.array len e)) (hz:Hm c.P e=some sz) (hag:Hl c.P e=some agg) (h1z:agg=false→sz=1) (hx:cX ox=some x) (hi:cX oi=some i)
  (hs:(opR st true d (.idx sz len agg x i)).side):As c β (st.app o.dst (opR st true d (.idx sz len agg x i))) a o w:=by
 simp only [opR] at hs ⊢
 split at hs
 ·rename_i cs kk m h1 h2
  obtain ⟨hsx,hsi,h0,hm,hlen⟩:=hs
  have e1:=Ad H hx hsx
  have e2:=Ad H hi hsi
  rw [h1] at e1
  rw [h2] at e2
  have e2:=Be e2
  generalize hu:a.eval ox=u at *
  obtain ⟨ii,hii,hii2⟩:=Option.map_eq_some_iff.1 hz
  cases e1 with
  |ag arr _ hsz hr =>
   have hlt:m.toNat*sz+sz≤cs.length:=by
    have h5:(m.toNat+1)*sz≤len*sz:=Nat.mul_le_mul_right _ (by omega)
    rw [Nat.add_mul] at h5
    rw [Nat.mul_comm sz len] at hlen
    omega
   have hag':=Hz hag w
   cases agg with
   |true=>exact As.val H hd (by simp [execOp,ho,hu,e2,Instr.index,asIntOf,run_underlying ht,h0,hm,sizeOf,typeInfo,hii,hii2,part,hag']) (Ze hsz hr hlt)
   |false =>
    have h1:=h1z rfl
    subst h1
    have hlt':m.toNat*1<arr.size:=by omega
    have hlc:m.toNat*1<cs.length:=by omega
    have hg:arr[m.toNat*1]?=some arr[m.toNat*1]:=Array.getElem?_eq_getElem hlt'
    refine As.val H hd (v:=arr[m.toNat*1]) ?_ (by simp only [cut,Bool.false_eq_true,if_false];rw [E8 (List.getElem?_eq_getElem hlc)];exact hr _ _ _ hg (List.getElem?_eq_getElem hlc))
    have hlt2:m.toNat<arr.size:=by omega
    simp [execOp,ho,hu,e2,Instr.index,asIntOf,run_underlying ht,h0,hm,sizeOf,typeInfo,hii,hii2,part,hag',hlt2]
 ·exact hs.elim
theorem s_sidx (H:Aa c β st a w) (hd:∀ d,o.dst=some d→d<c.nt) {t:TypeId} {s:ByteArray} {oi:Operand} {i:X} (ho:o.op=.index t (.const (.string s)) oi) (ht:c.P.underlying t=some .string) (hi:cX oi=some i)
  (hs:(opR st true d (.sidx s i)).side):As c β (st.app o.dst (opR st true d (.sidx s i))) a o w:=by
 simp only [opR] at hs ⊢
 split at hs
 ·rename_i kk m h2
  obtain ⟨hsi,h0,hm⟩:=hs
  have e2:=Ad H hi hsi
  rw [h2] at e2
  have e2:=Be e2
  have hlt:m.toNat<s.size:=by omega
  refine As.val H hd (v:=.int .u8 (fh s m.toNat)) ?_ (Cx _ _)
  have e3:s[m.toNat]?=some s[m.toNat]:=getElem?_pos s m.toNat hlt
  have e0:a.eval (.const (.string s))=.string s:=rfl
  simp [execOp,ho,e0,e2,Instr.index,asIntOf,run_underlying ht,h0,e3,fh]
 ·exact hs.elim
theorem s_len (H:Aa c β st a w) (hd:∀ d,o.dst=some d→d<c.nt) {t e:TypeId} {ox:Operand} {x:X} (ho:o.op=.call { callee:=.builtin .len,args:=#[ox],argTypes:=#[t] }) (ht:c.P.underlying t=some (.slice e)) (hx:cX ox=some x)
  (hs:(opR st true d (.len x)).side):As c β (st.app o.dst (opR st true d (.len x))) a o w:=by
 simp only [opR] at hs ⊢
 have hrun:∀ A (n:Nat) cp,a.eval ox=.slice A n cp→(execOp a.eval o).run c.P w=.ok (.value (.int .i64 n)) w:=λA n cp he=>by
  simp [execOp,ho,resolve,invoke,builtin,Builtin.len_,run_underlying ht,he,goInt]
 split at hs
 ·rename_i full sz n f h1
  have e1:=Ad H hx hs
  rw [h1] at e1
  generalize hu:a.eval ox=u at *
  cases e1 with
  |d _ _ e1 =>
   cases e1 with
   |nil _ _ _ _=>exact As.val H hd (hrun _ _ _ rfl) (Cx _ _)
   |sl _ _ _ _ b off cp g hc hf hl hcell hrel=>exact As.val H hd (hrun _ _ _ rfl) (Cx _ _)
 ·rename_i k h1
  split at hs
  ·rename_i e0 sz n f h2
   have e1:=Ad H hx hs
   rw [h1] at e1
   obtain ⟨v,xs,hb,hrow,_,_⟩:=Bb H h2
   generalize hu:a.eval ox=u at *
   cases e1 with
   |osl _ _ hb' _ =>
    rw [hb] at hb'
    injection hb' with hb'
    subst hb'
    rcases hrow.2 with ⟨⟨A,rfl⟩,rfl⟩|⟨g,cap,cur,rfl,_⟩
    ·exact As.val H hd (hrun _ _ _ rfl) (Cx _ _)
    ·exact As.val H hd (hrun _ _ _ rfl) (Cx _ _)
  ·rename_i e0 sz n cs h2
   have e1:=Ad H hx hs
   rw [h1] at e1
   obtain ⟨v,xs,hb,hrow,_,_⟩:=Bb H h2
   generalize hu:a.eval ox=u at *
   cases e1 with
   |osl _ _ hb' _ =>
    rw [hb] at hb'
    injection hb' with hb'
    subst hb'
    rcases hrow.2 with ⟨⟨A,rfl⟩,rfl⟩|⟨g,cap,cur,rfl,_⟩
    ·exact As.val H hd (hrun _ _ _ rfl) (Cx _ _)
    ·exact As.val H hd (hrun _ _ _ rfl) (Cx _ _)
  ·exact hs.elim
 ·rename_i k sz lo n h1
  have e1:=Ad H hx hs
  rw [h1] at e1
  generalize hu:a.eval ox=u at *
  cases e1 with
  |osub _ _ _ _ b m0 c0 aa hb hn ha=>exact As.val H hd (hrun _ _ _ rfl) (Cx _ _)
  |osub0 _ _ _ hb=>exact As.val H hd (hrun _ _ _ rfl) (Cx _ _)
 ·exact hs.elim
theorem s_mkfn (H:Aa c β st a w) (hd:∀ d,o.dst=some d→d<c.nt) {f:Fn} {of oc:Array Operand} {first cap:List X} (ho:o.op=.makeFunc f of oc) (h1:V5 of.toList=some first) (h2:V5 oc.toList=some cap)
  (hs:(opR st true d (.mkfn f first cap)).side):As c β (st.app o.dst (opR st true d (.mkfn f first cap))) a o w:=by
 simp only [opR] at hs ⊢
 obtain ⟨e1,r1⟩:=Ee H h1 hs.1
 obtain ⟨e2,r2⟩:=Ee H h2 hs.2
 refine As.val H hd (v:=.func f (of.map a.eval) (oc.map a.eval)) (by simp [execOp,ho,Instr.makeFunc]) ?_
 refine .fn _ _ _ _ _ (by simpa using e1) (by simpa using e2) (λj v x hv hx=>r1 j v x (by simpa using hv) hx) (λj v x hv hx=>r2 j v x (by simpa using hv) hx)
theorem s_mm (H:Aa c β st a w) (hd:∀ d,o.dst=some d→d<c.nt) {mx:Bool} {ts:Array TypeId} {ox oy:Operand} {x y:X} (ho:o.op=.call { callee:=.builtin (if mx then .max else .min),args:=#[ox,oy],argTypes:=ts }) (hx:cX ox=some x) (hy:cX oy=some y)
  (hs:(opR st true d (.mm mx x y)).side):As c β (st.app o.dst (opR st true d (.mm mx x y))) a o w:=by
 simp only [opR] at hs ⊢
 split at hs
 ·rename_i k m k' n h1 h2
  obtain ⟨hsx,hsy,rfl⟩:=hs
  have e1:=Ad H hx hsx
  have e2:=Ad H hy hsy
  rw [h1] at e1
  rw [h2] at e2
  have e1:=Be e1
  have e2:=Be e2
  cases mx with
  |true =>
   have h3:(max m n)=(if n>m then n else m):=by omega
   refine As.val H hd ?_ (Cx k (if true then max m n else min m n))
   simp [execOp,ho,resolve,invoke,builtin,Builtin.max_,Builtin.max2,e1,e2,h3]
  |false =>
   have h3:(min m n)=(if n<m then n else m):=by omega
   refine As.val H hd ?_ (Cx k (if false then max m n else min m n))
   simp [execOp,ho,resolve,invoke,builtin,Builtin.min_,Builtin.min2,e1,e2,h3]
 ·exact hs.elim
end
end Go.Bx
end
section
namespace Go.Bx
open Go.RowKit
def A6.bind (β:A6) (k:Nat) (v:Value):A6:=λn=>if n=k then some v else β n
theorem A6.bind_same (β:A6) (k:Nat) (v:Value):(β.bind k v) k=some v:=by simp [A6.bind]
theorem A6.bind_le {β:A6} {k:Nat} (h:β k=none) (v:Value):β.le (β.bind k v):=λn u hu=>by
 unfold A6.bind
 split
 ·rename_i e;subst e;rw [h] at hu;cases hu
 ·exact hu
theorem Mt {E0:Nat→Prop} {β:A6} {own:List (Nat×Own)} {k:Nat} {o:Own} (hk:k∈keysO own):Eo E0 β (setO own k o)=Eo E0 β own:=by
 funext b
 unfold Eo
 rw [Nf,if_pos hk]
section
variable {c:B3} {β:A6} {st:St} {a:Act} {w:World} {o:Oper} {d:Nat}
theorem Aa.addOwn (H:Aa c β st a w) {w':World} (hk:Aw (λ_=>False) w w') {k:Nat} (hn:k∉st.nm) {val:Value} {ow:Own}
  (hb:∀ b,B0 val=some b→w.heap.size≤b∧b<w'.heap.size)
  (ho:∀ β' E',β.le β'→β' k=some val→B5 (Eo c.E0 β st.own) E' w w'→C9 β' E' w' k ow) :
  ∃ β',β.le β'∧β' k=some val∧Aa c β' ⟨st.env,setO st.own k ow,k::st.nm⟩ a w':=by
 have hβ:β.le (β.bind k val):=A6.bind_le (H.nm k hn) val
 have hkn:k∉keysO st.own:=λh=>hn (H.kn k h)
 have hblk:(β.bind k val).blk k=B0 val:=by simp [A6.blk,A6.bind_same]
 have hold:∀ k1,k1∈keysO st.own→(β.bind k val).blk k1=β.blk k1:=λk1 h1=>by
  obtain ⟨o1,ho1⟩:=Ba h1
  obtain ⟨v,hv⟩:=(H.own.ok k1 o1 ho1).key
  exact hβ.blk hv
 have hl:B5 (Eo c.E0 β st.own) (Eo c.E0 (β.bind k val) (setO st.own k ow)) w w':=by
  intro b hb1 hb2
  refine ⟨λhE=>?_,hk.block b hb1 id⟩
  rcases hE with hE|⟨k1,h1,h2⟩
  ·exact hb2 (.inl hE)
  ·rcases Bs.1 h1 with rfl|h1
   ·rw [hblk] at h2
    have:=(hb b h2).1
    omega
   ·rw [hold k1 h1] at h2
    exact hb2 (.inr ⟨k1,h1,h2⟩)
 refine ⟨β.bind k val,hβ,A6.bind_same _ _ _,H.change hβ (hk.mono (λ_ h=>h.elim)) ?_ ?_ ?_ ?_ (λk1 h1=>⟨List.mem_cons_of_mem _ h1,by unfold A6.bind;rw [if_neg (λ(e:k1=k)=>hn (e▸h1))]⟩)⟩
 ·refine H.own.set hβ st.own H.own.nodup (λ_ h=>h) (λk1 h1 _ b hb1=>⟨hk.block b (H.own.lt k1 h1 b hb1).1 id,λh=>?_⟩) hl hk.size (λb h=>?_) (ho _ _ hβ (A6.bind_same _ _ _) hl)
  ·rw [hblk] at h
   have:=(hb b h).1
   have:=(H.own.lt k1 h1 b hb1).1
   omega
  ·rw [hblk] at h
   refine ⟨(hb b h).2,λh0=>?_⟩
   have h1:=c.hE b h0
   have h2:=(hb b h).1
   have h3:=H.kp.size
   omega
 ·intro k1 h1 b h2
  rcases Bs.1 h1 with rfl|h1
  ·rw [hblk] at h2;exact .inl (hb b h2).1
  ·rw [hold k1 h1] at h2;exact .inr ⟨k1,h1,h2⟩
 ·intro k1 h1
  rcases Bs.1 h1 with rfl|h1
  ·simp
  ·simp [H.kn k1 h1]
 ·intro k1 h1
  simp at h1
  simp [A6.bind,h1.1,H.nm k1 h1.2]
theorem Aa.updOwn (H:Aa c β st a w) {w':World} {k:Nat} {ow:Own} (hkk:k∈keysO st.own) (hk:Aw (λb=>β.blk k=some b) w w') 
  (ho:∀ E',B5 (Eo c.E0 β st.own) E' w w'→E'=Eo c.E0 β st.own→C9 β E' w' k ow):Aa c β ⟨st.env,setO st.own k ow,st.nm⟩ a w':=by
 have hE:Eo c.E0 β (setO st.own k ow)=Eo c.E0 β st.own:=Mt hkk
 have hl:B5 (Eo c.E0 β st.own) (Eo c.E0 β (setO st.own k ow)) w w':=by
  intro b hb1 hb2
  rw [hE]
  exact ⟨hb2,hk.block b hb1 (λh=>hb2 (.inr ⟨k,hkk,h⟩))⟩
 refine H.change (A6.le.refl β) (hk.mono (λb h=>⟨k,hkk,h⟩)) ?_ ?_ ?_ H.nm (λk1 h1=>⟨h1,rfl⟩)
 ·refine H.own.set (A6.le.refl β) st.own H.own.nodup (λ_ h=>h) (λk1 h1 hne b hb1=>⟨hk.block b (H.own.lt k1 h1 b hb1).1 (λh=>?_),λh=>?_⟩) hl hk.size (λb h=>?_) (ho _ hl hE)
  ·exact H.own.apart k1 k h1 hkk hne b hb1 h
  ·exact H.own.apart k1 k h1 hkk hne b hb1 h
  ·obtain ⟨x,y⟩:=H.own.lt k hkk b h
   have:=hk.size
   exact ⟨by omega,y⟩
 ·intro k1 h1 b h2
  have:k1∈keysO st.own:=(Bs.1 h1).elim (λe=>e▸hkk) id
  exact .inr ⟨k1,this,h2⟩
 ·intro k1 h1
  exact (Bs.1 h1).elim (λe=>e▸H.kn k hkk) (H.kn k1)
theorem Aa.replOwn (H:Aa c β st a w) {w':World} {k0 k:Nat} (hk0:k0∈keysO st.own) (hn:k∉st.nm) {val:Value} {ow:Own} (hk:Aw (λb=>β.blk k0=some b) w w')
  (hb:∀ b,B0 val=some b→β.blk k0=some b∨(w.heap.size≤b∧b<w'.heap.size))
  (ho:∀ β' E',β.le β'→β' k=some val→B5 (Eo c.E0 β st.own) E' w w'→C9 β' E' w' k ow) :
  ∃ β',β.le β'∧β' k=some val∧Aa c β' ⟨st.env,setO (delO st.own k0) k ow,k::st.nm⟩ a w':=by
 have hβ:β.le (β.bind k val):=A6.bind_le (H.nm k hn) val
 have hblk:(β.bind k val).blk k=B0 val:=by simp [A6.blk,A6.bind_same]
 have hold:∀ k1,k1∈keysO st.own→(β.bind k val).blk k1=β.blk k1:=λk1 h1=>by
  obtain ⟨o1,ho1⟩:=Ba h1
  obtain ⟨v,hv⟩:=(H.own.ok k1 o1 ho1).key
  exact hβ.blk hv
 have hdel:=λk1=>Id (l:=st.own) (k:=k0) H.own.nodup k1
 have hl:B5 (Eo c.E0 β st.own) (Eo c.E0 (β.bind k val) (setO (delO st.own k0) k ow)) w w':=by
  intro b hb1 hb2
  refine ⟨λhE=>?_,hk.block b hb1 (λh=>hb2 (.inr ⟨k0,hk0,h⟩))⟩
  rcases hE with hE|⟨k1,h1,h2⟩
  ·exact hb2 (.inl hE)
  ·rcases Bs.1 h1 with rfl|h1
   ·rw [hblk] at h2
    rcases hb b h2 with h3|h3
    ·exact hb2 (.inr ⟨k0,hk0,h3⟩)
    ·omega
   ·have h1':=((hdel k1).1 h1).1
    rw [hold k1 h1'] at h2
    exact hb2 (.inr ⟨k1,h1',h2⟩)
 refine ⟨β.bind k val,hβ,A6.bind_same _ _ _,H.change hβ (hk.mono (λb h=>⟨k0,hk0,h⟩)) ?_ ?_ ?_ ?_ (λk1 h1=>⟨List.mem_cons_of_mem _ h1,by unfold A6.bind;rw [if_neg (λ(e:k1=k)=>hn (e▸h1))]⟩)⟩
 ·refine H.own.set hβ (delO st.own k0) (Eh H.own.nodup) (λ_ h=>Mn h) (λk1 h1 _ b hb1=>?_) hl hk.size (λb h=>?_) (ho _ _ hβ (A6.bind_same _ _ _) hl)
  ·obtain ⟨h1',hne0⟩:=(hdel k1).1 h1
   refine ⟨hk.block b (H.own.lt k1 h1' b hb1).1 (λh=>H.own.apart k1 k0 h1' hk0 hne0 b hb1 h),λh=>?_⟩
   rw [hblk] at h
   rcases hb b h with h3|h3
   ·exact H.own.apart k1 k0 h1' hk0 hne0 b hb1 h3
   ·have:=(H.own.lt k1 h1' b hb1).1
    omega
  ·rw [hblk] at h
   rcases hb b h with h3|h3
   ·obtain ⟨x,y⟩:=H.own.lt k0 hk0 b h3
    have:=hk.size
    exact ⟨by omega,y⟩
   ·refine ⟨h3.2,λh0=>?_⟩
    have h1:=c.hE b h0
    have h2:=H.kp.size
    omega
 ·intro k1 h1 b h2
  rcases Bs.1 h1 with rfl|h1
  ·rw [hblk] at h2
   rcases hb b h2 with h3|h3
   ·exact .inr ⟨k0,hk0,h3⟩
   ·exact .inl h3.1
  ·have h1':=((hdel k1).1 h1).1
   rw [hold k1 h1'] at h2;exact .inr ⟨k1,h1',h2⟩
 ·intro k1 h1
  rcases Bs.1 h1 with rfl|h1
  ·simp
  ·simp [H.kn k1 ((hdel k1).1 h1).1]
 ·intro k1 h1
  simp at h1
  simp [A6.bind,h1.1,H.nm k1 h1.2]
theorem Df (w:World) (ob:Obj):Aw (λ_=>False) w (w.alloc ob):=
 ⟨rfl,rfl,rfl,by simp,λ_ hb _=>heap_alloc_old w ob hb⟩
theorem As.mk (H:Aa c β st a w) (hdst:o.dst=some d) (hd:d<c.nt) (hn:d∉st.nm) {v:Value} {w':World} (hr:(execOp a.eval o).run c.P w=.ok (.value v) w')
  (hk:Aw (λ_=>False) w w') {ow:Own} {x:V} {sd:Prop} {rd:List Nat} (hb:∀ b,B0 v=some b→w.heap.size≤b∧b<w'.heap.size)
  (ho:∀ β' E',β.le β'→β' d=some v→B5 (Eo c.E0 β st.own) E' w w'→C9 β' E' w' d ow)
  (hx:∀ β' E',β' d=some v→Ai β' E' w' v x):As c β (st.app o.dst { side:=sd,val:=x,upd:=[(d,some ow)],rd:=rd }) a o w:=by
 obtain ⟨β',h1,h2,h3⟩:=H.addOwn hk hn hb ho
 refine ⟨v,w',β',.inl hr,h1,?_⟩
 rw [hdst]
 have:=h3.setV hd (hx β' (Eo c.E0 β' (setO st.own d ow)) h2)
 simpa [St.app,setE,applyU,newN,hn] using this
theorem Cw {β:A6} {E:Nat→Prop} {w:World} {arr:Array Value} {cs:List V} (h:gk arr.toList=some cs) :
  arr.size=cs.length∧∀ (j:Nat) (v:Value) (x:V),arr[j]?=some v→cs[j]?=some x→Ai β E w v x:=by
 obtain ⟨e,hr⟩:=Y7 (β:=β) (E:=E) (w:=w) h
 exact ⟨by simpa using e,λj v x hv hx=>(hr j v x (by simpa using hv) hx).1⟩
theorem qn (H:Aa c β st a w) (hdst:o.dst=some d) (hd:d<c.nt) {e:TypeId} {cs:List V} (ho:o.op=.alloc e) (hz:Fr c.P e=some cs)
  (hf:(opR st true d (.alloc e cs)).side):As c β (st.app o.dst (opR st true d (.alloc e cs))) a o w:=by
 simp only [opR] at hf ⊢
 obtain ⟨i,hi,z,hzz,hcs⟩:∃ i,c.P.info? e=some i∧∃ z,i.zero=some z∧gk z.cells.toList=some cs:=by
  unfold Fr at hz
  cases hi:c.P.info? e with
  |none=>simp [hi] at hz
  |some i =>
   simp only [hi,Option.bind_some] at hz
   cases hzz:i.zero with
   |none=>simp [hzz] at hz
   |some z=>simp only [hzz] at hz;exact ⟨i,rfl,z,hzz,hz⟩
 ·refine As.mk H hdst hd hf (v:=.pointer (some ⟨w.heap.size,0,none⟩)) (w':=w.alloc (.cells z.cells e)) ?_ (Df _ _) (λb hb=>?_) (λβ' E' hβ hk hl=>?_) (λβ' E' hk=>.own _ _ _ hk)
  ·simp [execOp,ho,Instr.alloc,zeroValue,typeInfo,hi,hzz,newVar,newRow]
  ·simp [B0] at hb;subst hb;simp
  ·obtain ⟨e1,hr⟩:=Cw (β:=β') (E:=E') (w:=w.alloc (.cells z.cells e)) hcs
   exact ⟨w.heap.size,z.cells,e,hk,heap_alloc_new w _,e1,hr⟩
theorem s_box (H:Aa c β st a w) (hdst:o.dst=some d) (hd:d<c.nt) {e:TypeId} {ox:Operand} {x:X} (ho:o.op=.box e ox) (hx:cX ox=some x)
  (hf:(opR st true d (.box e x)).side):As c β (st.app o.dst (opR st true d (.box e x))) a o w:=by
 simp only [opR] at hf ⊢
 split at hf
 ·rename_i cs h1
  obtain ⟨hs,hn⟩:=hf
  have e1:=Ad H hx hs
  obtain ⟨h2,h3,_⟩:=e1.cells h1
  refine As.mk H hdst hd hn (v:=.pointer (some ⟨w.heap.size,0,none⟩)) (w':=w.alloc (.cells (a.eval ox).cells e)) ?_ (Df _ _) (λb hb=>?_) (λβ' E' hβ hk hl=>?_) (λβ' E' hk=>.own _ _ _ hk)
  ·simp [execOp,ho,Instr.box,newVar,newRow]
  ·simp [B0] at hb;subst hb;simp
  ·exact ⟨w.heap.size,_,e,hk,heap_alloc_new w _,h2,λj v x hv hx=>(h3 j v x hv hx).lasts' hl hβ⟩
 ·exact hf.elim
theorem Wp {sz:Nat}:∀ {l:List V} {cs:List V},catV sz l=some cs→cs.length=l.length*sz
 |[],cs,h=>by simp [catV] at h;subst h;simp
 |v::l,cs,h=>by
  simp only [catV] at h
  split at h
  ·rename_i ys zs h1 h2
   split at h
   ·rename_i e
    simp at h;subst h
    have:=Wp h2
    simp [this,e,Nat.add_mul];omega
   ·cases h
  ·cases h
theorem Dx (base:Nat):∀ (l:List (Value×Nat)) (cells:Array Value),(l.foldl (λcs (p:Value×Nat)=>cs.setIfInBounds (base+p.2) p.1) cells).size=cells.size
 |[],_=>rfl
 |p::l,cells=>by simp only [List.foldl_cons];rw [Dx base l];simp
theorem Jg (base:Nat):∀ (l:List Value) (k:Nat) (cells:Array Value) (j:Nat),
    ((l.zipIdx k).foldl (λcs (p : Value × Nat) => cs.setIfInBounds (base + p.2) p.1) cells)[j]? =
      if base+k≤j∧j<base+k+l.length∧j<cells.size then l[j-(base+k)]? else cells[j]?
  |[],k,cells,j=>by
    simp only [List.zipIdx_nil,List.foldl_nil,List.length_nil]
    split
    · omega
    · rfl
  |v::l,k,cells,j=>by
    simp only [List.zipIdx_cons,List.foldl_cons]
    rw [Jg base l (k+1)]
    simp only [Array.size_setIfInBounds,List.length_cons]
    by_cases h1:base+(k+1)≤j∧j<base+(k+1)+l.length∧j<cells.size
    · rw [if_pos h1,if_pos (by omega)]
      have:j-(base+k)=(j-(base+(k+1)))+1:=by omega
      rw [this];simp
    · rw [if_neg h1]
      rw [Array.getElem?_setIfInBounds]
      by_cases h2:base+k=j
      · subst h2
        by_cases h3:base+k<cells.size
        · rw [if_pos rfl,if_pos h3,if_pos (by omega)];simp
        · rw [if_pos rfl,if_neg h3,if_neg (by omega)]
          simp at h3
          rw [Array.getElem?_eq_none (by omega)]
      · rw [if_neg h2,if_neg (by omega)]
theorem Vk {sz:Nat}:∀ (vs:List Value) (k:Nat) (cells:Array Value),(∀ v,v∈vs→v.cells.size=sz)→(k+vs.length)*sz≤cells.size →
    ∃ out, Instr.fill (λi => some (i * sz, sz)) cells ((vs.zipIdx k).map λp => (p.2, p.1)) = some out ∧ out.size = cells.size ∧
      ∀ j,out[j]?=if k*sz≤j∧j<(k+vs.length)*sz then (vs.flatMap λv=>v.cells.toList)[j-k*sz]? else cells[j]?
  |[],k,cells,_,_=>by
    refine ⟨cells,by simp [Instr.fill],rfl,λj=>?_⟩
    rw [if_neg (by simp)]
  |v::vs,k,cells,hs,hle=>by
    have hv:=hs v (by simp)
    have hle1:(k+1+vs.length)*sz≤cells.size:=by rw [show k+1+vs.length=k+(v::vs).length by simp;omega];exact hle
    have hk1:k*sz+sz≤cells.size:=by
      have:(k+1)*sz≤(k+1+vs.length)*sz:=Nat.mul_le_mul_right _ (by omega)
      rw [Nat.add_mul k 1] at this;omega
    obtain ⟨out,h1,h2,h3⟩:=Vk vs (k+1) (v.cells.toList.zipIdx.foldl (λcs (p:Value×Nat)=>cs.setIfInBounds (k*sz+p.2) p.1) cells) (λu hu=>hs u (by simp [hu])) (by rw [Dx];exact hle1)
    refine ⟨out,?_,by rw [h2,Dx],λj=>?_⟩
    · simp only [List.zipIdx_cons,List.map_cons,Instr.fill]
      rw [if_neg (by simp [hv];omega)]
      rw [←Array.foldl_toList]
      simp only [Array.toList_zipIdx]
      exact h1
    · rw [h3]
      have e2:(k+1)*sz=k*sz+sz:=by rw [Nat.add_mul];omega
      have e3:(k+(v::vs).length)*sz=k*sz+sz+vs.length*sz:=by rw [List.length_cons,show k+(vs.length+1)=k+1+vs.length by omega,Nat.add_mul,e2]
      have e4:(k+1+vs.length)*sz=k*sz+sz+vs.length*sz:=by rw [Nat.add_mul,e2]
      have hf:=Jg (k*sz) v.cells.toList 0 cells j
      simp only [List.flatMap_cons]
      by_cases hj:k*sz+sz≤j∧j<k*sz+sz+vs.length*sz
      · rw [if_pos (by omega),if_pos (by omega),e2]
        rw [List.getElem?_append_right (by simp [hv];omega)]
        congr 1
        simp [hv];omega
      · rw [if_neg (by omega),hf]
        simp only [Nat.add_zero,Array.length_toList,hv]
        by_cases hj2:k*sz≤j∧j<k*sz+sz
        · rw [if_pos (by omega),if_pos (by omega)]
          rw [List.getElem?_append_left (by simp [hv];omega)]
        · rw [if_neg (by omega),if_neg (by omega)]
theorem Zk {E:Nat→Prop} {sz:Nat}:∀ {l:List V} {cs:List V} {vs:List Value},catV sz l=some cs→vs.length=l.length→(∀ (j:Nat) (v:Value) (x:V),vs[j]?=some v→l[j]?=some x→Ai β E w v x) →
  (∀ v,v∈vs→v.cells.size=sz)∧∀ (j:Nat) (v:Value) (x:V),(vs.flatMap λv=>v.cells.toList)[j]?=some v→cs[j]?=some x→Ai β E w v x
 |[],cs,vs,h,hl,_=>by
  have:vs=[]:=List.eq_nil_of_length_eq_zero (by simpa using hl)
  subst this
  simp
 |y::l,cs,vs,h,hl,hr=>by
  cases vs with
  |nil=>simp at hl
  |cons v vs =>
   simp only [catV] at h
   split at h
   ·rename_i ys zs h1 h2
    split at h
    ·rename_i e
     simp at h;subst h
     obtain ⟨g1,g2,_⟩:=(hr 0 v y rfl rfl).cells h1
     obtain ⟨i1,i2⟩:=Zk h2 (by simpa using hl) (λj u x hu hx=>hr (j+1) u x (by simpa using hu) (by simpa using hx))
     refine ⟨λu hu=>?_,λj u x hu hx=>?_⟩
     ·rcases List.mem_cons.1 hu with rfl|hu
      ·omega
      ·exact i1 u hu
     ·simp only [List.flatMap_cons] at hu
      by_cases hj:j<ys.length
      ·rw [List.getElem?_append_left (by simp [g1];exact hj)] at hu
       rw [List.getElem?_append_left hj] at hx
       exact g2 j u x (by simpa using hu) hx
      ·rw [List.getElem?_append_right (by simp [g1];omega)] at hu
       rw [List.getElem?_append_right (by omega)] at hx
       simp only [Array.length_toList,g1] at hu
       exact i2 _ u x hu hx
    ·cases h
   ·cases h
theorem Q0 (H:Aa c β st a w) {t e:TypeId} {sz len:Nat} {ops:Array (Nat×Operand)} {parts:List X} {cs:List V} (ho:o.op=.buildSlice t len ops) (ht:c.P.underlying t=some (.slice e)) (hz:Hm c.P e=some sz) {zc:List V} (hzero:Fr c.P e=some zc)
    (hlen:ops.size=len) (hidx:ops.toList.map (·.1)=List.range len) (hx:V5 (ops.toList.map (·.2))=some parts) (hsm:len*sz≤16777216) (h1:catV sz (evVs st parts)=some cs) (hs:evSs true st parts) :
    ∃ out : Array Value, (execOp a.eval o).run c.P w = .ok (.value (.slice (some ⟨w.heap.size, 0, none⟩) len len)) (w.alloc (.cells out e)) ∧ out.size = cs.length ∧ cs.length = len * sz ∧
      ∀ (j:Nat) (v:Value) (x:V),out[j]?=some v→cs[j]?=some x→Ai β (Eo c.E0 β st.own) w v x:=by
  obtain ⟨e1,r1⟩:=Ee H hx hs
  obtain ⟨g1,g2⟩:=Zk h1 e1 r1
  obtain ⟨i,hi,hi2⟩:=Option.map_eq_some_iff.1 hz
  obtain ⟨z,hzz⟩:∃ z,i.zero=some z:=by
    unfold Fr at hzero
    simp only [hi,Option.bind_some] at hzero
    cases hzz:i.zero with
    |none=>simp [hzz] at hzero
    |some z=>exact ⟨z,rfl⟩
  have hcl:=Wp h1
  have hll:(evVs st parts).length=len:=by rw [←e1];simp [hlen]
  obtain ⟨z0,hz0⟩:∃ z0:Array Value,z0=if len*i.size=0 then #[] else z.cells:=⟨_,rfl⟩
  let zs:Array Value:=(Array.range (len*sz)).map (z0[· % z0.size]!)
  have hzs:zs.size=len*sz:=by simp [zs]
  obtain ⟨out,f1,f2,f3⟩:=Vk (sz:=sz) ((ops.toList.map (·.2)).map a.eval) 0 zs g1 (by simp [hlen,hzs])
  have hpl:(ops.map λ(p:Nat×Operand)=>(p.1,a.eval p.2)).toList=(((ops.toList.map (·.2)).map a.eval).zipIdx 0).map λp=>(p.2,p.1):=by
    apply List.ext_getElem?
    intro j
    simp only [Array.toList_map,List.getElem?_map,List.getElem?_zipIdx,List.map_map]
    cases hj:ops.toList[j]? with
    |none=>simp
    |some p =>
      have hjr:(ops.toList.map (·.1))[j]?=some p.1:=by simp [hj]
      rw [hidx] at hjr
      have:=List.getElem?_range (n:=len) (i:=j) (by
        have:=(List.getElem?_eq_some_iff.1 hj).1
        simp at this;omega)
      rw [this] at hjr
      simp at hjr
      simp [hjr]
  refine ⟨out,?_,by rw [f2,hzs,hcl,hll],by rw [hcl,hll],λj v x hv hx=>?_⟩
  · have hle2:¬ (16777216<len*i.size):=by rw [hi2];omega
    have hfill:Instr.fill (λk=>some (k*i.size,i.size)) ((Array.range (len*i.size)).map (z0[· % z0.size]!)) (ops.toList.map λ(p:Nat×Operand)=>(p.1,a.eval p.2))=some out:=by
      rw [hi2]
      have:=f1
      rw [←hpl] at this
      simpa using this
    have hsz:(sizeOf e).run c.P w=.ok i.size w:=by simp [sizeOf,typeInfo,hi]
    have hrow:(Instr.buildSlice t len (ops.map λ(p:Nat×Operand)=>(p.1,a.eval p.2))).run c.P w=.ok (.slice (some ⟨w.heap.size,0,none⟩) len len) (w.alloc (.cells out e)):=by
      simp only [Instr.buildSlice,Sem.run_bind,run_underlying ht,Result.andThen_ok,hsz,Nat.reducePow]
      rw [if_neg (by simpa using hle2)]
      by_cases h0:len*i.size=0
      · rw [if_pos h0] at hz0 ⊢
        rw [hz0] at hfill
        simp only [Sem.run_bind,Sem.run_pure,Result.andThen_ok,Array.toList_map,hfill]
        simp [newRow]
      · rw [if_neg h0] at hz0 ⊢
        rw [hz0] at hfill
        have hzv:(zeroValue e).run c.P w=.ok z w:=by simp [zeroValue,typeInfo,hi,hzz]
        simp only [Sem.run_bind,hzv,Result.andThen_ok,Sem.run_pure,Array.toList_map,hfill]
        simp [newRow]
    have he:execOp a.eval o=(do pure (.value (←Instr.buildSlice t len (ops.map λ(p:Nat×Operand)=>(p.1,a.eval p.2))))):=by simp [execOp,ho]
    exact E7 he hrow
  · have hj:j<len*sz:=by
      have:=(List.getElem?_eq_some_iff.1 hx).1
      rw [hcl,hll] at this;exact this
    rw [f3] at hv
    rw [if_pos (by simp [hlen];exact hj)] at hv
    simp only [Nat.zero_mul,Nat.sub_zero] at hv
    exact g2 j v x hv hx
theorem Pi:∀ {cs:List V} {ds:List D},toDs cs=some ds→cs=ds.map .d
 |[],ds,h=>by simp [toDs] at h;subst h;rfl
 |c::cs,ds,h=>by
  cases c<;>simp [toDs] at h
  rename_i x
  obtain ⟨ds',h1,rfl⟩:=h
  simp [Pi h1]
theorem Aa.fresh (H:Aa c β st a w):¬ Eo c.E0 β st.own w.heap.size:=by
 rintro (h|⟨k,h1,h2⟩)
 ·have h3:=c.hE _ h
  have h4:=H.kp.size
  omega
 ·have:=(H.own.lt k h1 _ h2).1
  omega
theorem pf (H:Aa c β st a w) (hdst:o.dst=some d) (hd:d<c.nt) {t e:TypeId} {sz len:Nat} {ops:Array (Nat×Operand)} {parts:List X} (ho:o.op=.buildSlice t len ops) (ht:c.P.underlying t=some (.slice e)) (hz:Hm c.P e=some sz) {zc:List V} (hzero:Fr c.P e=some zc)
  (hlen:ops.size=len) (hidx:ops.toList.map (·.1)=List.range len) (hx:V5 (ops.toList.map (·.2))=some parts) (hsm:len*sz≤16777216) (hs0:0<sz)
  (hf:(opR st true d (.bslice e sz len parts)).side):As c β (st.app o.dst (opR st true d (.bslice e sz len parts))) a o w:=by
 simp only [opR] at hf ⊢
 split at hf
 ·rename_i cs h1
  split at hf
  ·rename_i ds hds
   obtain ⟨out,hr,g1,g2,g3⟩:=Q0 H ho ht hz hzero hlen hidx hx hsm h1 hf.1
   have hcs:=Pi hds
   have hk:=Df w (.cells out e)
   have hl:B5 (Eo c.E0 β st.own) (Eo c.E0 β st.own) w (w.alloc (.cells out e)):=λb hb h=>⟨h,hk.block b hb (λh=>h)⟩
   have H2:Aa c β ⟨st.env,st.own,st.nm⟩ a (w.alloc (.cells out e)):=
    H.change (A6.le.refl β) (hk.mono (λ_ h=>h.elim)) ⟨λk o h=>(H.own.ok k o h).lasts hl (A6.le.refl β) (λb hb=>hk.block b (H.own.lt k (Ab h) b hb).1 (λh=>h)),H.own.nodup,H.own.apart,λk h b hb=>⟨by have:=(H.own.lt k h b hb).1;simp;omega,(H.own.lt k h b hb).2⟩⟩
     (λk h b hb=>.inr ⟨k,h,hb⟩) H.kn H.nm (λk h=>⟨h,rfl⟩)
   refine ⟨_,_,β,.inl hr,A6.le.refl β,?_⟩
   rw [hdst]
   have hv:Ai β (Eo c.E0 β st.own) (w.alloc (.cells out e)) (.slice (some ⟨w.heap.size,0,none⟩) len len) (.d (.sl true sz len (litRow sz ds))):=by
    have hdl:ds.length=len*sz:=by rw [←g2,hcs];simp
    have hin:∀ i j,i<len→j<sz→i*sz+j<len*sz:=λi j hi hj=>by
     have:(i+1)*sz≤len*sz:=Nat.mul_le_mul_right _ hi
     rw [Nat.add_mul] at this;omega
    refine .d _ _ (.sl _ _ _ _ w.heap.size 0 len (λi j=>out.getD (i*sz+j) undef) (Nat.le_refl _) (λ_=>rfl) (λi hi=>?_) (λi j hi hj=>⟨H.fresh,?_⟩) (λi j hi hj x hx=>?_))
    ·simp only [litRow,List.length_take,List.length_drop]
     have:(i+1)*sz≤len*sz:=Nat.mul_le_mul_right _ hi
     rw [Nat.add_mul] at this;omega
    ·have:=hin i j hi hj
     rw [Nat.zero_add,cell_of_row (w.alloc (.cells out e)) w.heap.size (i*sz+j) out e (0,0) (heap_alloc_new w _)]
     have hlt:i*sz+j<out.size:=by omega
     simp [hlt]
    ·have:=hin i j hi hj
     have hlt:i*sz+j<out.size:=by omega
     have hx2:cs[i*sz+j]?=some (.d x):=by
      rw [litRow,List.getElem?_take,if_pos hj,List.getElem?_drop] at hx
      rw [hcs]
      simp [hx]
     have hr2:=g3 (i*sz+j) out[i*sz+j] (.d x) (Array.getElem?_eq_getElem hlt) hx2
     simp only [Array.getD_eq_getD_getElem?,Array.getElem?_eq_getElem hlt,Option.getD_some]
     generalize out[i*sz+j]=u at *
     cases hr2 with
     |d _ _ h=>exact h.lasts hl
   have:=H2.setV hd hv
   simpa [St.app,setE,applyU,newN] using this
  ·obtain ⟨hs,hl0,hn⟩:=hf
   obtain ⟨out,hr,g1,g2,g3⟩:=Q0 H ho ht hz hzero hlen hidx hx hsm h1 hs
   refine As.mk H hdst hd hn (v:=.slice (some ⟨w.heap.size,0,none⟩) len len) (w':=w.alloc (.cells out e)) hr (Df _ _) (λb hb=>?_) (λβ' E' hβ hk hl=>?_) (λβ' E' hk=>.osl _ _ hk rfl)
   ·simp [B0,Nat.ne_of_gt hl0] at hb;subst hb;simp
   ·have hos:out.size=len*sz:=g1.trans g2
    have hll:len≤len*sz:=Nat.le_mul_of_pos_right _ hs0
    exact ⟨_,out.toList,hk,⟨by simpa using hos,.inr ⟨w.heap.size,len,out,rfl,hl0,heap_alloc_new w _,Nat.le_refl _,by simp only [maxLen];omega,hos,by rw [List.take_of_length_le];simp;omega⟩⟩,g2,λj v x hv hx=>(g3 j v x (by simpa using hv) hx).lasts' hl hβ⟩
 ·exact hf.elim
end
end Go.Bx
end
