import Derived.Test.YtakohhkgeeoniaaGreatXA2
import Derived.TacticsIn
import Derived.OrdersIn
set_option linter.unusedSimpArgs false
set_option linter.unusedVariables false
set_option maxHeartbeats 8000000
section
namespace Go.Bx
open Go.RowKit
def mb:Value→Bool
 |.agg _=>true
 |_=>false
def uk (P:Program) (t:TypeId):Bool:=
 match P.info? t with
 |some i=>match i.zero with
  |some z=>mb z
  |none=>false
 |none=>false
def V9 (P:Program) (e:TypeId):Option (List D):=(Fr P e).bind toDs
def Gt (P:Program) (b:Builtin) (args:List Operand) (ts:List TypeId):Option O:=
 match b with
 |.len =>
  match args,ts with
  |[x],[t] =>
   match P.underlying t,cX x with
   |some (.slice _),some x=>some (.len x)
   |some (.array n _),some _=>some (.mov (.k (.d (.int .i64 n))))
   |_,_=>none
  |_,_=>none
 |.max =>
  match args with
  |[x,y] =>
   match cX x,cX y with
   |some x,some y=>some (.mm true x y)
   |_,_=>none
  |_=>none
 |.min =>
  match args with
  |[x,y] =>
   match cX x,cX y with
   |some x,some y=>some (.mm false x y)
   |_,_=>none
  |_=>none
 |.append =>
  match args,ts with
  |[x,y],[t,t'] =>
   match P.underlying t,cX x,cX y with
   |some (.slice e),some x,some y =>
    match P.info? e,Fr P e with
    |some i,some z=>if t=t'∧z.length=i.size then some (.app e i.size i.bytes x y) else
      match P.underlying t',V9 P e with
      |some (.int _),some zd=>if zd.length=i.size∧0<i.size then some (.apz e i.size i.bytes zd x y) else none
      |_,_=>none
    |_,_=>none
   |_,_,_=>none
  |_,_=>none
 |.cap =>
  match args,ts with
  |[x],[t] =>
   match P.underlying t,cX x with
   |some (.slice _),some x=>some (.cap x)
   |_,_=>none
  |_,_=>none
 |.copy =>
  match args,ts with
  |[x,y],[t,_] =>
   match P.underlying t,cX x,cX y with
   |some (.slice e),some x,some y=>(Hm P e).map λsz=>.cpy sz x y
   |_,_,_=>none
  |_,_=>none
 |.clear =>
  match args,ts with
  |[x],[t] =>
   match P.underlying t,cX x with
   |some (.slice e),some x =>
    match P.info? e,Fr P e,V9 P e with
    |some i,some _,some zd=>if zd.length=i.size then some (.clr i.size zd x) else none
    |_,_,_=>none
   |_,_=>none
  |_,_=>none
 |_=>none
def Jq (P:Program) (cl:Call):Option O:=
 match cl.callee with
 |.builtin b=>Gt P b cl.args.toList cl.argTypes.toList
 |.value (.func f)=>(V5 cl.args.toList).map (.call f)
 |.value x =>
  match cX x,V5 cl.args.toList with
  |some x,some xs=>some (.callv x xs)
  |_,_=>none
 |.invoke x m =>
  match cX x,V5 cl.args.toList with
  |some x,some xs=>some (.ivk m x xs)
  |_,_=>none
def Vm (P:Program) (o:Oper):Option O:=
 match o.op with
 |.move x=>(cX x).map .mov
 |.assign x=>(cX x).map .mov
 |.pick x y z =>
  match cX x,cX y,cX z with
  |some x,some y,some z=>some (.pick x y z)
  |_,_,_=>none
 |.alloc e=>(Fr P e).map (.alloc e)
 |.box e x=>(cX x).map (.box e)
 |.build t ps =>
  match P.underlying t,Fr P t with
  |some (.struct fs),some z =>
   match Kp P fs.toList with
   |some pl=>if uk P t then (Lb (λ(i:Nat)=>pl[i]?) ps.toList).map (.build z) else none
   |none=>none
  |some (.array _ e),some z =>
   match Hm P e with
   |some sz=>if uk P t then (Lb (λi=>some (i*sz,sz)) ps.toList).map (.build z) else none
   |none=>none
  |_,_=>none
 |.buildSlice t len ps =>
  match P.underlying t with
  |some (.slice e) =>
   match Hm P e,Fr P e,V5 (ps.toList.map (·.2)) with
   |some sz,some _,some xs=>if 0<sz∧ps.size=len∧ps.toList.map (·.1)=List.range len∧len*sz≤16777216 then some (.bslice e sz len xs) else none
   |_,_,_=>none
  |_=>none
 |.load t x =>
  match Hm P t,Hl P t,cX x with
  |some sz,some agg,some x=>if agg=false→sz=1 then some (.load sz agg x) else none
  |_,_,_=>none
 |.store t x y =>
  match Hm P t,cX x,cX y with
  |some sz,some x,some y=>some (.store sz x y)
  |_,_,_=>none
 |.binOp op t x y0 _ =>
  match P.underlying t,cX x,cX y0 with
  |some (.int _),some x,some y =>
   match op with
   |.shl=>some (.shf true x y)
   |.shr=>some (.shf false x y)
   |op=>some (.bin op x y)
  |some .bool,some x,some y =>
   match op with
   |.eql=>some (.beq false x y)
   |.neq=>some (.beq true x y)
   |_=>none
  |some (.slice _),some x,some _ =>
   match y0,op with
   |.const (.slice none 0 0),.eql=>some (.isnil false x)
   |.const (.slice none 0 0),.neq=>some (.isnil true x)
   |_,_=>none
  |some (.interface _),some x,some _ =>
   match y0,op with
   |.const .nilIface,.eql=>some (.nili false x)
   |.const .nilIface,.neq=>some (.nili true x)
   |_,_=>none
  |some _,some x,some y =>
   match Hl P t,G0 P 100 t 0 with
   |some true,some lv=>if P.eqGuardType P.depth t=false then
     match op with
     |.eql=>some (.eqa false (P.cellsOf t) lv x y)
     |.neq=>some (.eqa true (P.cellsOf t) lv x y)
     |_=>none
    else none
   |_,_=>none
  |_,_,_=>none
 |.unOp op _ x=>(cX x).map (.inv op)
 |.convert s t x =>
  match P.underlying s,P.underlying t,cX x with
  |some (.int _),some (.int k),some x=>some (.conv k x)
  |_,_,_=>none
 |.nilCheck x=>(cX x).map .nilc
 |.fieldAddr t x f =>
  match P.underlying t,cX x with
  |some (.struct fs),some x =>
   match fs[f]? with
   |some fd =>
    match Hm P fd.type with
    |some sz=>if sz≠0 then some (.fadr fd.offset x) else none
    |none=>none
   |none=>none
  |_,_=>none
 |.field t x f =>
  match P.underlying t,cX x with
  |some (.struct fs),some x =>
   match fs[f]? with
   |some fd =>
    match Hm P fd.type,Hl P fd.type with
    |some sz,some agg=>if agg=false→sz=1 then some (.fld fd.offset sz agg x) else none
    |_,_=>none
   |none=>none
  |_,_=>none
 |.indexAddr t x i =>
  match P.underlying t,cX x,cX i with
  |some (.slice e),some x,some i=>(Hm P e).map λsz=>.iadr sz x i
  |some (.array n e),some x,some i=>(Hm P e).map λsz=>.aadr sz n x i
  |_,_,_=>none
 |.index t x0 i =>
  match P.underlying t,cX x0,cX i with
  |some (.array n e),some x,some i =>
   match Hm P e,Hl P e with
   |some sz,some agg=>if agg=false→sz=1 then some (.idx sz n agg x i) else none
   |_,_=>none
  |some .string,none,some i =>
   match x0 with
   |.const (.string s)=>some (.sidx s i)
   |_=>none
  |_,_,_=>none
 |.extract x i=>(cX x).map (.ext i)
 |.makeFunc f fi ca =>
  match V5 fi.toList,V5 ca.toList with
  |some xs,some ys=>some (.mkfn f xs ys)
  |_,_=>none
 |.makeSlice t l k =>
  match P.underlying t,cX l,cX k with
  |some (.slice e),some l,some k =>
   match P.info? e,V9 P e with
   |some i,some zd=>if zd.length=i.size then some (.mks e i.size i.bytes zd l k) else none
   |_,_=>none
  |_,_,_=>none
 |.slice t x lo hi mx =>
  match P.underlying t,cX x with
  |some (.slice e),some x =>
   match Hm P e,ln lo,ln hi,ln mx with
   |some sz,some lo,some hi,some mx=>some (.slc sz x lo hi mx)
   |_,_,_,_=>none
  |some (.array n e),some x =>
   match Hm P e,lo,hi,mx with
   |some sz,none,none,none=>some (.asl sz n x)
   |_,_,_,_=>none
  |_,_=>none
 |.call cl=>Jq P cl
 |.makeInterface t x =>
  match cX x with
  |some x=>if Mg P t then some (.mkifc t x) else none
  |none=>none
 |.typeAssert x _ t ok =>
  match cX x with
  |some x=>if Mg P t=true∧(ok=true→me P t=true) then some (.tas t ok x) else none
  |none=>none
 |.makeMap t r =>
  match r with
  |none=>(Rd P t).map .mkmap
  |some _=>none
 |.lookup t x i ok =>
  match Rd P t,cX x,cX i with
  |some z,some x,some i =>
   match P.underlying t with
   |some (.map _ e)=>if ok=false∧Tc P e=false then some (.lkp z x i) else if ok=true∧Tc P e=false then some (.lkq z x i) else none
   |_=>none
  |_,_,_=>none
 |.mapUpdate t x i v =>
  match Rd P t,cX x,cX i,cX v with
  |some _,some x,some i,some v=>some (.mup x i v)
  |_,_,_,_=>none
 |.insert t x i v =>
  match Rd P t,cX x,cX i,cX v with
  |some _,some x,some i,some v=>some (.mup x i v)
  |_,_,_,_=>none
 |.panic x=>(cX x).map .pnc
 |_=>none
def sa (P:Program) (o:Oper):Option O:=
 match Vm P o with
 |some q=>some q
 |none=>some .never
theorem pq {P:Program} {o:Oper} {q:O} (h:sa P o=some q) (hq:q≠.never):Vm P o=some q:=by
 unfold sa at h
 split at h
 ·rename_i q' hq';cases h;exact hq'
 ·cases h;exact absurd rfl hq
def makes:O→Bool
 |.alloc _ _=>true
 |.box _ _=>true
 |.bslice _ _ _ _=>true
 |.mks _ _ _ _ _ _=>true
 |.app _ _ _ _ _=>true
 |.mkmap _=>true
 |.apz _ _ _ _ _ _=>true
 |_=>false
def U1:O→Bool
 |.store _ _ _=>true
 |.mup _ _ _=>true
 |_=>false
def isCall:O→Bool
 |.call _ _=>true
 |.callv _ _=>true
 |.ivk _ _ _=>true
 |.asl _ _ _=>true
 |.pnc _=>true
 |_=>false
theorem Ov {P:Program} {e:TypeId} {i:TypeInfo} {cs:List V} (hi:P.info? e=some i) (h:Fr P e=some cs):∃ z,i.zero=some z∧gk z.cells.toList=some cs:=by
 unfold Fr at h
 simp only [hi,Option.bind_some] at h
 cases hz:i.zero with
 |none=>simp [hz] at h
 |some z=>simp only [hz] at h;exact ⟨z,rfl,h⟩
theorem Zi {P:Program} {t:TypeId} (h:uk P t=true):∀ i zv,P.info? t=some i→i.zero=some zv→∃ zc,zv=.agg zc:=by
 intro i zv hi hz
 simp only [uk,hi,hz] at h
 cases zv<;>simp [mb] at h
 exact ⟨_,rfl⟩
section
variable {c:B3} {β:A6} {st:St} {a:Act} {w:World} {o:Oper}
theorem xk {q:O} (hc:sa c.P o=some q) (H:Aa c β st a w) (hd:∀ d,o.dst=some d→d<c.nt) (hmk:makes q=true→o.dst.isSome=true) (hst:U1 q=true→o.dst=none) (hcall:isCall q=false)
  (hs:(opR st true (o.dst.getD 0) q).side):As c β (st.app o.dst (opR st true (o.dst.getD 0) q)) a o w:=by
 have hdm:makes q=true→o.dst=some (o.dst.getD 0):=λh=>by
  have:=hmk h
  cases ho:o.dst with
  |none=>simp [ho] at this
  |some d=>rfl
 unfold sa at hc
 split at hc
 case h_2=>cases hc;simp only [opR,Ef.bad] at hs
 rename_i q' hq'
 cases hc
 have hc:=hq'
 clear hq'
 unfold Vm at hc
 split at hc
 ·rename_i x ho
  obtain ⟨y,hx,rfl⟩:=Option.map_eq_some_iff.1 hc
  exact vw H hd (.inl ho) hx hs
 ·rename_i x ho
  obtain ⟨y,hx,rfl⟩:=Option.map_eq_some_iff.1 hc
  exact vw H hd (.inr ho) hx hs
 ·rename_i x y z ho
  split at hc
  ·rename_i hx hy hz
   cases hc
   exact zj H hd ho hx hy hz hs
  ·cases hc
 ·rename_i e ho
  obtain ⟨z,hz,rfl⟩:=Option.map_eq_some_iff.1 hc
  have h1:=hdm rfl
  exact qn H h1 (hd _ h1) ho hz hs
 ·rename_i e x ho
  obtain ⟨y,hx,rfl⟩:=Option.map_eq_some_iff.1 hc
  have h1:=hdm rfl
  exact s_box H h1 (hd _ h1) ho hx hs
 ·rename_i t ps ho
  split at hc
  ·rename_i fs z ht hz
   split at hc
   ·rename_i pl hpl
    split at hc
    ·rename_i hag
     obtain ⟨parts,hp,rfl⟩:=Option.map_eq_some_iff.1 hc
     exact Zx H hd ho hz hp (Tx ht hpl) (Zi hag) hs
    ·cases hc
   ·cases hc
  ·rename_i n e z ht hz
   split at hc
   ·rename_i sz hsz
    split at hc
    ·rename_i hag
     obtain ⟨parts,hp,rfl⟩:=Option.map_eq_some_iff.1 hc
     exact Zx H hd ho hz hp (V8 ht hsz) (Zi hag) hs
    ·cases hc
   ·cases hc
  ·cases hc
 ·rename_i t len ps ho
  split at hc
  ·rename_i e ht
   split at hc
   ·rename_i sz zc xs hz hzero hx
    split at hc
    ·rename_i hh
     cases hc
     have h1:=hdm rfl
     exact pf H h1 (hd _ h1) ho ht hz hzero hh.2.1 hh.2.2.1 hx hh.2.2.2 hh.1 hs
    ·cases hc
   ·cases hc
  ·cases hc
 ·rename_i t x ho
  split at hc
  ·rename_i sz agg x hz hag hx
   split at hc
   ·rename_i h1
    cases hc
    exact s_load H hd ho hz hag h1 hx hs
   ·cases hc
  ·cases hc
 ·rename_i t x y ho
  split at hc
  ·rename_i sz x y hz hx hy
   cases hc
   exact ta H (hst rfl) ho hz hx hy hs
  ·cases hc
 ·rename_i op t x y t' ho
  split at hc
  ·rename_i k x y ht hx hy
   split at hc
   ·cases hc
    exact xj (left:=true) H hd ho hx hy hs
   ·cases hc
    exact xj (left:=false) H hd ho hx hy hs
   ·cases hc
    exact s_bin H hd ho hx hy hs
  ·rename_i x y ht hx hy
   split at hc
   ·cases hc
    exact wh (neg:=false) H hd ho ht hx hy hs
   ·cases hc
    exact wh (neg:=true) H hd ho ht hx hy hs
   ·cases hc
  ·rename_i e x y1 ht hx hy
   split at hc
   ·cases hc
    exact av (neg:=false) H hd ho ht hx hs
   ·cases hc
    exact av (neg:=true) H hd ho ht hx hs
   ·cases hc
  ·rename_i e x y1 ht hx hy
   split at hc
   ·cases hc
    exact iy (neg:=false) H hd ho ht hx hs
   ·cases hc
    exact iy (neg:=true) H hd ho ht hx hs
   ·cases hc
  ·rename_i dd x y _ _ _ _ ht hx hy
   split at hc
   ·rename_i lv hag hlv
    split at hc
    ·rename_i hg
     split at hc
     ·cases hc
      exact xq (neg:=false) H hd ho hag hg hlv hx hy hs
     ·cases hc
      exact xq (neg:=true) H hd ho hag hg hlv hx hy hs
     ·cases hc
    ·cases hc
   ·cases hc
  ·cases hc
 ·rename_i op t x ho
  obtain ⟨y,hx,rfl⟩:=Option.map_eq_some_iff.1 hc
  exact s_inv H hd ho hx hs
 ·rename_i s t x ho
  split at hc
  ·rename_i k k' x h1 h2 hx
   cases hc
   exact s_conv H hd ho h2 h1 hx hs
  ·cases hc
 ·rename_i x ho
  obtain ⟨y,hx,rfl⟩:=Option.map_eq_some_iff.1 hc
  exact s_nilc H hd ho hx hs
 ·rename_i t x f ho
  split at hc
  ·rename_i fs x ht hx
   split at hc
   ·rename_i fd hf
    split at hc
    ·rename_i sz hz
     split at hc
     ·rename_i h0
      cases hc
      exact s_fadr H hd ho ht hf rfl hz h0 hx hs
     ·cases hc
    ·cases hc
   ·cases hc
  ·cases hc
 ·rename_i t x f ho
  split at hc
  ·rename_i fs x ht hx
   split at hc
   ·rename_i fd hf
    split at hc
    ·rename_i sz agg hz hag
     split at hc
     ·rename_i h1
      cases hc
      exact s_fld H hd ho ht hf rfl hz hag h1 hx hs
     ·cases hc
    ·cases hc
   ·cases hc
  ·cases hc
 ·rename_i t x i ho
  split at hc
  ·rename_i e x i ht hx hi
   obtain ⟨sz,hz,rfl⟩:=Option.map_eq_some_iff.1 hc
   exact s_iadr H hd ho ht hz hx hi hs
  ·rename_i n e x i ht hx hi
   obtain ⟨sz,hz,rfl⟩:=Option.map_eq_some_iff.1 hc
   exact s_aadr H hd ho ht hz hx hi hs
  ·cases hc
 ·rename_i t x i ho
  split at hc
  ·rename_i n e x i ht hx hi
   split at hc
   ·rename_i sz agg hz hag
    split at hc
    ·rename_i h1
     cases hc
     exact s_idx H hd ho ht hz hag h1 hx hi hs
    ·cases hc
   ·cases hc
  ·rename_i i ht hx hi
   split at hc
   ·rename_i s
    cases hc
    exact s_sidx H hd ho ht hi hs
   ·cases hc
  ·cases hc
 ·rename_i x i ho
  obtain ⟨y,hx,rfl⟩:=Option.map_eq_some_iff.1 hc
  exact s_ext H hd ho hx hs
 ·rename_i f fi ca ho
  split at hc
  ·rename_i xs ys h1 h2
   cases hc
   exact s_mkfn H hd ho h1 h2 hs
  ·cases hc
 ·rename_i t l k ho
  split at hc
  ·rename_i e l k ht hl hk
   split at hc
   ·rename_i i zd hi hzd
    split at hc
    ·rename_i hlen
     cases hc
     have h1:=hdm rfl
     obtain ⟨cs,hzb,hds⟩:=Option.bind_eq_some_iff.1 hzd
     obtain ⟨z,hz,hcs⟩:=Ov hi hzb
     have hds':=Fg hds
     obtain ⟨q1,_⟩:=Cw (β:=β) (E:=Eo c.E0 β st.own) (w:=w) (arr:=z.cells) hcs
     exact s_mks H h1 (hd _ h1) ho ht hi hz rfl rfl (by rw [q1,hds'];simpa using hlen) (by rw [hcs,hds']) hl hk hs
    ·cases hc
   ·cases hc
  ·cases hc
 ·rename_i t x lo hi mx ho
  split at hc
  ·rename_i e x ht hx
   split at hc
   ·rename_i sz lo hi mx hz h1 h2 h3
    cases hc
    exact s_slc H hd ho ht hz hx h1 h2 h3 hs
   ·cases hc
  ·rename_i n e x ht hx
   split at hc
   ·rename_i sz hz
    cases hc
    simp [isCall] at hcall
   ·cases hc
  ·cases hc
 ·rename_i cl ho
  obtain ⟨callee,args,ts⟩:=cl
  unfold Jq at hc
  split at hc
  ·rename_i b hb
   simp only at hb hc
   subst hb
   unfold Gt at hc
   split at hc
   ·split at hc
    ·rename_i x t ha hts
     have ha:args=#[x]:=Array.ext' ha
     have hts:ts=#[t]:=Array.ext' hts
     subst ha;subst hts
     split at hc
     ·rename_i e x ht hx
      cases hc
      exact s_len H hd ho ht hx hs
     ·rename_i n e x ht hx
      cases hc
      simp only [opR] at hs ⊢
      refine As.val H hd (v:=.int .i64 n) (by simp [execOp,ho,resolve,invoke,builtin,Builtin.len_,run_underlying ht,goInt]) (Cx _ _)
     ·cases hc
    ·cases hc
   ·split at hc
    ·rename_i x y ha
     have ha:args=#[x,y]:=Array.ext' ha
     subst ha
     split at hc
     ·rename_i x y hx hy
      cases hc
      exact s_mm (mx:=true) H hd ho hx hy hs
     ·cases hc
    ·cases hc
   ·split at hc
    ·rename_i x y ha
     have ha:args=#[x,y]:=Array.ext' ha
     subst ha
     split at hc
     ·rename_i x y hx hy
      cases hc
      exact s_mm (mx:=false) H hd ho hx hy hs
     ·cases hc
    ·cases hc
   ·split at hc
    ·rename_i x y t t' ha hts
     have ha:args=#[x,y]:=Array.ext' ha
     have hts:ts=#[t,t']:=Array.ext' hts
     subst ha;subst hts
     split at hc
     ·rename_i e x y ht hx hy
      split at hc
      ·rename_i i zc hi hzb
       split at hc
       ·rename_i hh
        cases hc
        obtain ⟨rfl,hlen⟩:=hh
        have h1:=hdm rfl
        obtain ⟨z,hz,hcs⟩:=Ov hi hzb
        obtain ⟨q1,_⟩:=Cw (β:=β) (E:=Eo c.E0 β st.own) (w:=w) (arr:=z.cells) hcs
        exact s_app H h1 (hd _ h1) ho ht hi hz rfl rfl (by rw [q1];exact hlen) hx hy hs
       ·split at hc
        ·rename_i kn zd ht' hzd
         split at hc
         ·rename_i hh
          cases hc
          have h1:=hdm rfl
          obtain ⟨z,hz,hcs⟩:=Ov hi hzb
          obtain ⟨q1,_⟩:=Cw (β:=β) (E:=Eo c.E0 β st.own) (w:=w) (arr:=z.cells) hcs
          unfold V9 at hzd
          rw [hzb,Option.bind_some] at hzd
          have hds:=Fg hzd
          exact s_apz H h1 (hd _ h1) ho ht ht' hi hz rfl rfl (by rw [q1,hds,List.length_map];exact hh.1) (by rw [←hds];exact hcs) hh.2 hx hy hs
         ·cases hc
        ·cases hc
      ·cases hc
     ·cases hc
    ·cases hc
   ·split at hc
    ·rename_i x t ha hts
     have ha:args=#[x]:=Array.ext' ha
     have hts:ts=#[t]:=Array.ext' hts
     subst ha;subst hts
     split at hc
     ·rename_i e x ht hx
      cases hc
      exact s_cap H hd ho ht hx hs
     ·cases hc
    ·cases hc
   ·split at hc
    ·rename_i x y t t' ha hts
     have ha:args=#[x,y]:=Array.ext' ha
     have hts:ts=#[t,t']:=Array.ext' hts
     subst ha;subst hts
     split at hc
     ·rename_i e x y ht hx hy
      obtain ⟨sz,hz,rfl⟩:=Option.map_eq_some_iff.1 hc
      exact s_cpy H hd ho ht hz hx hy hs
     ·cases hc
    ·cases hc
   ·split at hc
    ·rename_i x t ha hts
     have ha:args=#[x]:=Array.ext' ha
     have hts:ts=#[t]:=Array.ext' hts
     subst ha;subst hts
     split at hc
     ·rename_i e x ht hx
      split at hc
      ·rename_i i zc zd hi hzb hzd
       split at hc
       ·rename_i hh
        cases hc
        obtain ⟨z,hz,hcs⟩:=Ov hi hzb
        obtain ⟨q1,_⟩:=Cw (β:=β) (E:=Eo c.E0 β st.own) (w:=w) (arr:=z.cells) hcs
        unfold V9 at hzd
        rw [hzb,Option.bind_some] at hzd
        have hds:=Fg hzd
        exact s_clr H hd ho ht hi hz (by rw [q1,hds,List.length_map];exact hh) (by rw [←hds];exact hcs) hx hs
       ·cases hc
      ·cases hc
     ·cases hc
    ·cases hc
   ·cases hc
  ·obtain ⟨xs,hx,rfl⟩:=Option.map_eq_some_iff.1 hc
   simp [isCall] at hcall
  ·split at hc
   ·cases hc
    simp [isCall] at hcall
   ·cases hc
  ·split at hc
   ·cases hc
    simp [isCall] at hcall
   ·cases hc
 ·rename_i t x ho
  split at hc
  ·rename_i x hx
   split at hc
   ·rename_i hb
    cases hc
    exact sm H hd ho hx (λv=>bv hb v w) hs
   ·cases hc
  ·cases hc
 ·rename_i x xt t ok ho
  split at hc
  ·rename_i x hx
   split at hc
   ·rename_i hb
    cases hc
    exact s_tas H hd ho hx hb.1 hb.2 hs
   ·cases hc
  ·cases hc
 ·rename_i t r ho
  split at hc
  ·obtain ⟨z,hz,rfl⟩:=Option.map_eq_some_iff.1 hc
   have h1:=hdm rfl
   exact ud H h1 (hd _ h1) ho hz hs
  ·cases hc
 ·rename_i t x i ok ho
  split at hc
  ·rename_i z x i hz hx hi
   split at hc
   ·rename_i k e ht
    split at hc
    ·rename_i hh
     cases hc
     obtain ⟨rfl,hag⟩:=hh
     exact s_lkp H hd ho hz (λk' e' ht'=>by rw [ht] at ht';cases ht';exact hag) hx hi hs
    ·split at hc
     ·rename_i hh
      cases hc
      obtain ⟨rfl,hag⟩:=hh
      exact s_lkq H hd ho hz (λk' e' ht'=>by rw [ht] at ht';cases ht';exact hag) hx hi hs
     ·cases hc
   ·cases hc
  ·cases hc
 ·rename_i t x i v ho
  split at hc
  ·rename_i z x i v hz hx hi hv
   cases hc
   exact wl H (hst rfl) (.inl ho) hz hx hi hv hs
  ·cases hc
 ·rename_i t x i v ho
  split at hc
  ·rename_i z x i v hz hx hi hv
   cases hc
   exact wl H (hst rfl) (.inr ho) hz hx hi hv hs
  ·cases hc
 ·obtain ⟨x,hx,rfl⟩:=Option.map_eq_some_iff.1 hc
  simp [isCall] at hcall
 ·cases hc
end
end Go.Bx
end
section
namespace Go.Bx
open Go.RowKit
structure I where
 dst:Option Nat
 g:Option (Nat×Bool)
 op:O
structure Lg where
 rd:List Nat
 wr:List Nat
structure Stp where
 val:V
 upd:List (Nat×Option Own)
 rd:List Nat
 new:List Nat
def Stp.lg (s:Stp):Lg:={ rd:=s.rd,wr:=s.upd.map (·.1)++s.new }
def St.stp (st:St) (dst:Option Nat) (s:Stp):St:={ env:=setE st.env dst s.val,own:=applyU st.own s.upd,nm:=newN st.nm s.upd }
def X.slots:X→List Nat
 |.t s=>[s]
 |.k _=>[]
def Bc:List X→List Nat
 |[]=>[]
 |x::l=>x.slots++Bc l
def Mb:Option X→List Nat
 |some x=>x.slots
 |none=>[]
def O.slots:O→List Nat
 |.mov x|.box _ x|.load _ _ x|.inv _ x|.conv _ x|.fld _ _ _ x|.fadr _ x|.nilc x|.sidx _ x|.ext _ x|.len x|.isnil _ x|.nili _ x|.cap x|.clr _ _ x|.mkifc _ x|.asl _ _ x|.tas _ _ x=>x.slots
 |.pick x y z=>x.slots++(y.slots++z.slots)
 |.alloc _ _=>[]
 |.build _ ps=>Bc (ps.map (·.2.2))
 |.bslice _ _ _ xs=>Bc xs
 |.store _ x y|.bin _ x y|.beq _ x y|.eqa _ _ _ x y|.shf _ x y|.iadr _ x y|.aadr _ _ x y|.idx _ _ _ x y|.mm _ x y|.mks _ _ _ _ x y|.app _ _ _ x y|.apz _ _ _ _ x y|.cpy _ x y|.lkp _ x y|.lkq _ x y=>x.slots++y.slots
 |.mkmap _=>[]
 |.never=>[]
 |.pnc x=>x.slots
 |.mup x y z=>x.slots++(y.slots++z.slots)
 |.ivk _ x xs=>x.slots++Bc xs
 |.mkfn _ xs ys=>Bc xs++Bc ys
 |.slc _ x a b d=>x.slots++(Mb a++(Mb b++Mb d))
 |.call _ xs=>Bc xs
 |.callv x xs=>x.slots++Bc xs
def I.slots (i:I):List Nat:=(match i.g with|some (s,_)=>[s]|none=>[])++i.op.slots
structure mf (c:B3) (ops:Array Oper) (o:Oper) (i:I):Prop where
 dst:o.dst=i.dst
 lt:∀ d,i.dst=some d→d<c.nt
 op:sa c.P o=some i.op
 mkk:makes i.op=true→i.dst.isSome=true
 st:U1 i.op=true→i.dst=none
 gd:match o.guard with
  |none=>i.g=none
  |some (j,want)=>∃ s,(ops[j]?).bind (·.dst)=some s∧i.g=some (s,want)
def D0 (c:B3) (i:I) (st:St) (s:Stp):Prop:=
  ∀ (st1 : St), (∀ k, k ∈ i.slots → get st1.env k = get st.env k) → (∀ k, k ∈ s.rd → own? st1.own k = own? st.own k) → (∀ k, k ∈ s.new → k ∉ st1.nm) →
    ∀ (ops:Array Oper) (o:Oper),mf c ops o i→∀ (β:A6) (a:Act) (w:World),Aa c β st1 a w→∀ (Q:Exit→Act→World→Prop) (K:Act→World→Prop),
      (∀ β' a' w',Aa c β' (st1.stp i.dst s) a' w'→K a' w') →
      if Region.wanted o (yielded ops a.tmps) then o.wpIn c.F 0 c.P a w K Q else K (a.put o.dst undef) w
inductive O5 (c:B3):St→List I→List Stp→St→Prop where
 |nil (st:St):O5 c st [] [] st
 |cons (st:St) (i:I) (s:Stp) (is:List I) (ss:List Stp) (st':St) (hv:D0 c i st s) (hn:∀ k,k∈s.new→k∉st.nm) (h:O5 c (st.stp i.dst s) is ss st'):O5 c st (i::is) (s::ss) st'
def Wk (c:B3) (a b:St):Prop:=∀ β f w,Aa c β a f w→∃ β',Aa c β' b f w
def Tt (c:B3) (i:I) (st st1:St) (x:V):Prop:=
 ∀ (ops:Array Oper) (o:Oper),mf c ops o i→∀ (β:A6) (a:Act) (w:World),Aa c β st a w→∀ (Q:Exit→Act→World→Prop) (K:Act→World→Prop),
  (∀ β' a' w' v,Aa c β' st1 a' w'→Ai β' (Eo c.E0 β' st1.own) w' v x→Q (.panic [{ v:=v,recovered:=false }]) a' w') →
  Region.wanted o (yielded ops a.tmps)=true∧o.wpIn c.F 0 c.P a w K Q
inductive Jr (c:B3) (K:St→Prop):List I→St→Prop where
 |nil (st:St) (h:K st):Jr c K [] st
 |cons (st:St) (i:I) (s:Stp) (is:List I) (hv:D0 c i st s) (hn:∀ k,k∈s.new→k∉st.nm) (h:Jr c K is (st.stp i.dst s)):Jr c K (i::is) st
 |wk (st st1:St) (is:List I) (hw:Wk c st st1) (h:Jr c K is st1):Jr c K is st
 |pan (st st1:St) (i:I) (is:List I) (x:V) (hv:Tt c i st st1 x) (hk:c.pk x st1):Jr c K (i::is) st
def TR (c:B3) (b:Bool) (is:List I) (st:St) (acc:List Lg) (K:List Lg→St→Prop):Prop:=
 match b with
 |true=>∃ ss st',O5 c st is ss st'∧K (acc++ss.map Stp.lg) st'
 |false=>Jr c (K acc) is st
theorem TR.nil {c:B3} {b:Bool} {st:St} {acc:List Lg} {K:List Lg→St→Prop} (h:K acc st):TR c b [] st acc K:=by
 cases b with
 |true=>exact ⟨[],st,.nil st,by simpa using h⟩
 |false=>exact Jr.nil st h
def lgs (b:Bool) (acc:List Lg) (x:Lg):List Lg:=if b then acc++[x] else acc
theorem TR.cons {c:B3} {b:Bool} {i:I} {is:List I} {st:St} {acc:List Lg} {K:List Lg→St→Prop} (s:Stp) (hv:D0 c i st s) (hn:∀ k,k∈s.new→k∉st.nm) (h:TR c b is (st.stp i.dst s) (lgs b acc s.lg) K):TR c b (i::is) st acc K:=by
 cases b with
 |true =>
  obtain ⟨ss,st',h1,h2⟩:=h
  exact ⟨s::ss,st',.cons _ _ _ _ _ _ hv hn h1,by simpa [lgs] using h2⟩
 |false=>exact Jr.cons _ _ _ _ hv hn h
theorem TR.wk {c:B3} {is:List I} {st:St} (st1:St) {acc:List Lg} {K:List Lg→St→Prop} (hw:Wk c st st1) (h:TR c false is st1 acc K):TR c false is st acc K:=Jr.wk _ _ _ hw h
theorem Jr.mono {c:B3} {K K':St→Prop} (hk:∀ st,K st→K' st) {is:List I} {st:St} (h:Jr c K is st):Jr c K' is st:=by
 induction h with
 |nil st h=>exact .nil st (hk st h)
 |cons st i s is hv hn _ ih=>exact .cons st i s is hv hn ih
 |wk st st1 is hw _ ih=>exact .wk st st1 is hw ih
 |pan st st1 i is x hv hk=>exact .pan st st1 i is x hv hk
theorem TR.mono {c:B3} {b:Bool} {is:List I} {st:St} {acc:List Lg} {K K':List Lg→St→Prop} (hk:∀ acc st,K acc st→K' acc st) (h:TR c b is st acc K):TR c b is st acc K':=by
 cases b with
 |true =>
  obtain ⟨ss,st',h1,h2⟩:=h
  exact ⟨ss,st',h1,hk _ _ h2⟩
 |false=>exact Jr.mono (λst h=>hk _ st h) h
theorem sk {c:B3} {ops:Array Oper} {Q:Exit→Act→World→Prop} {K:St→Prop} (hQ:∀ st',K st'→∀ β a w,Aa c β st' a w→Q .normal a w)
    (hp:∀ st' x,c.pk x st'→∀ β a w v,Aa c β st' a w→Ai β (Eo c.E0 β st'.own) w v x→Q (.panic [{ v:=v,recovered:=false }]) a w) :
    ∀ {is : List I} {st : St}, Jr c K is st → ∀ {l : List Oper}, l.length = is.length → (∀ (j : Nat) (o : Oper) (i : I), l[j]? = some o → is[j]? = some i → mf c ops o i) →
      ∀ (β:A6) (a:Act) (w:World),Aa c β st a w→wpListIn c.F 0 c.P ops Q l a w:=by
  intro is st h
  induction h with
  |nil st hk =>
    intro l hl _ β a w H
    have:l=[]:=List.eq_nil_of_length_eq_zero (by simpa using hl)
    subst this
    exact hQ st hk β a w H
  |cons st i s is hv hn _ ih =>
    intro l hl hc β a w H
    cases l with
    |nil=>simp at hl
    |cons o l =>
      have h1:=hv st (λ_ _=>rfl) (λ_ _=>rfl) hn ops o (hc 0 o i rfl rfl) β a w H Q
      refine wpListIn_step λK hK=>?_
      have h2:=h1 K λβ' a' w' H'=>hK a' w' (ih (by simpa using hl) (λj o i ho hi=>hc (j+1) o i (by simpa using ho) (by simpa using hi)) β' a' w' H')
      by_cases hw:Region.wanted o (yielded ops a.tmps)=true
      · rw [if_pos hw] at h2 ⊢;exact h2
      · rw [if_neg hw] at h2 ⊢;exact ⟨λ_ _=>trivial,h2⟩
  |wk st st1 is hw _ ih =>
    intro l hl hc β a w H
    obtain ⟨β1,H1⟩:=hw β a w H
    exact ih hl hc β1 a w H1
  |pan st st1 i is x hv hk =>
    intro l hl hc β a w H
    cases l with
    |nil=>simp at hl
    |cons o l =>
      refine wpListIn_step λK hK=>?_
      obtain ⟨h1,h2⟩:=hv ops o (hc 0 o i rfl rfl) β a w H Q K (λβ' a' w' v H' hv=>hp st1 x hk β' a' w' v H' hv)
      rw [if_pos h1];exact h2
theorem fg {P:Program} {o:Oper} {ρ:Operand→Value} {cl:Call} (h:o.op=.defer cl) {w w':World} {x:Next} (hr:(execOp ρ o).run P w=.ok x w'):∃ d,x=.defer d:=by
 simp only [execOp,h,Sem.run_bind] at hr
 cases hd:(resolve ρ cl o.type).run P w with
 |ok d w1=>rw [hd] at hr;simp [Result.andThen] at hr;exact ⟨d,hr.1.symm⟩
 |halt y w1=>rw [hd] at hr;simp [Result.andThen] at hr
theorem Oper.wpc_ok {c:B3} {o:Oper} {a:Act} {w:World} {K:Act→World→Prop} {Q:Exit→Act→World→Prop} {x:Next} {w':World} (h:(execOp a.eval o).run c.P w=.ok x w') (hx:∀ d,x≠.defer d)
  (hk:o.uponIn c.F 0 c.P a K Q (.ok x w')):o.wpIn c.F 0 c.P a w K Q:=by
 refine ⟨λ_ _=>trivial,?_⟩
 rw [Oper.semAt_eq c.F.round a.eval o (λcl e=>by obtain ⟨d,hd⟩:=fg e h;exact hx d hd),h]
 exact hk
theorem Oper.wp_ok {c:B3} {o:Oper} {a:Act} {w:World} {K:Act→World→Prop} {Q:Exit→Act→World→Prop} {v:Value} {w':World}
  (h:(execOp a.eval o).run c.P w=.ok (.value v) w'∨((execOp a.eval o).run c.P w=.ok .skip w'∧v=undef)) (hk:K (a.put o.dst v) w'):o.wpIn c.F 0 c.P a w K Q:=by
 rcases h with h|⟨h,rfl⟩
 ·exact Oper.wpc_ok h (λd=>by simp) hk
 ·exact Oper.wpc_ok h (λd=>by simp) hk
theorem Oper.wpc_enter {c:B3} {o:Oper} {a:Act} {w:World} {K:Act→World→Prop} {Q:Exit→Act→World→Prop} {f:FuncId} {args:Array Value} {w':World}
  (h:(execOp a.eval o).run c.P w=.ok (.enter f args) w') (hk:Calls c.P f args w' fun|.returned v,w''=>K (a.put o.dst v) w''|.panicked chain,w''=>Q (.panic chain) a w''|.outgrown,_=>LetsOut Q):o.wpIn c.F 0 c.P a w K Q:=
 Oper.wpc_ok h (λd=>by simp) ⟨λh=>by simp [B3.F,Fence.wide] at h,(callsIn_wide (n:=0)).2 hk⟩
section congr
variable {st st1:St}
theorem Sv {x:X} (h:∀ k,k∈x.slots→get st1.env k=get st.env k):evX st1 x=evX st x:=by
 cases x with
 |t s=>exact h s (by simp [X.slots])
 |k v=>rfl
theorem Am {x:X} (h:∀ k,k∈x.slots→get st1.env k=get st.env k):evV st1 x=evV st x:=by unfold evV;rw [Sv h]
theorem An {p:Bool} {x:X} (h:∀ k,k∈x.slots→get st1.env k=get st.env k):evS p st1 x=evS p st x:=by unfold evS;rw [Sv h]
theorem Cj:∀ {xs:List X},(∀ k,k∈Bc xs→get st1.env k=get st.env k)→evVs st1 xs=evVs st xs
 |[],_=>rfl
 |x::xs,h=>by
  simp only [evVs]
  rw [Am (λk hk=>h k (by simp [Bc,hk])),Cj (λk hk=>h k (by simp [Bc,hk]))]
theorem Cn {p:Bool}:∀ {xs:List X},(∀ k,k∈Bc xs→get st1.env k=get st.env k)→evSs p st1 xs=evSs p st xs
 |[],_=>rfl
 |x::xs,h=>by
  simp only [evSs]
  rw [An (λk hk=>h k (by simp [Bc,hk])),Cn (λk hk=>h k (by simp [Bc,hk]))]
theorem L9:∀ {ps:List (Nat×Nat×X)},(∀ k,k∈Bc (ps.map (·.2.2))→get st1.env k=get st.env k)→evParts st1 ps=evParts st ps
 |[],_=>rfl
 |(a,b,x)::ps,h=>by
  simp only [evParts]
  rw [Am (λk hk=>h k (by simp [Bc,hk])),L9 (λk hk=>h k (by simp only [List.map_cons,Bc,List.mem_append];exact .inr hk))]
theorem Jf {p:Bool}:∀ {ps:List (Nat×Nat×X)},(∀ k,k∈Bc (ps.map (·.2.2))→get st1.env k=get st.env k)→evPartsS p st1 ps=evPartsS p st ps
 |[],_=>rfl
 |(a,b,x)::ps,h=>by
  simp only [evPartsS]
  rw [An (λk hk=>h k (by simp [Bc,hk])),Jf (λk hk=>h k (by simp only [List.map_cons,Bc,List.mem_append];exact .inr hk))]
end congr
theorem T2 {st st1:St} {p:Bool} {d:Nat} {q:O} (hq:isCall q=false) (hs:(opR st p d q).side) (h:∀ k,k∈q.slots→get st1.env k=get st.env k) (hr:∀ k,k∈(opR st p d q).rd→own? st1.own k=own? st.own k)
    (hn:makes q=true→d∉st1.nm):(opR st1 p d q).side∧(opR st1 p d q).val=(opR st p d q).val∧(opR st1 p d q).upd=(opR st p d q).upd∧(opR st1 p d q).rd=(opR st p d q).rd:=by
  cases q<;>simp only [isCall] at hq<;>(try cases hq)<;>simp only [O.slots,List.mem_append] at h
  case mov x =>
    simp only [opR] at *
    rw [Am h,An h];exact ⟨hs,by simp⟩
  case pick x y z =>
    have h1:∀ k,k∈x.slots→get st1.env k=get st.env k:=λk hk=>h k (.inl hk)
    have h2:∀ k,k∈y.slots→get st1.env k=get st.env k:=λk hk=>h k (.inr (.inl hk))
    have h3:∀ k,k∈z.slots→get st1.env k=get st.env k:=λk hk=>h k (.inr (.inr hk))
    simp only [opR] at hs ⊢
    simp only [Am h1,Am h2,Am h3,An h1,An h2,An h3]
    exact ⟨hs,by simp⟩
  case alloc e cs=>simp only [opR] at *;exact ⟨hn rfl,by simp⟩
  case box e x =>
    simp only [opR] at hs ⊢
    simp only [Am h,An h]
    split at hs
    · exact ⟨⟨hs.1,hn rfl⟩,by simp⟩
    · exact hs.elim
  case build z ps =>
    simp only [opR] at hs ⊢
    simp only [L9 h,Jf h]
    exact ⟨hs,by simp⟩
  case bslice e sz len xs =>
    simp only [opR] at hs ⊢
    simp only [Cj h,Cn h]
    split at hs
    · split at hs
      · exact ⟨⟨hs.1,hn rfl⟩,by simp⟩
      · exact ⟨⟨hs.1,hs.2.1,hn rfl⟩,by simp⟩
    · exact hs.elim
  case load sz agg x =>
    simp only [opR] at hs hr ⊢
    simp only [Am h,An h]
    split at hs
    · rename_i cs h1
      simp only [h1] at hr ⊢
      exact ⟨hs,by simp⟩
    · rename_i k off h1
      simp only [h1] at hr ⊢
      split at hs
      · rename_i cs h2
        simp only [h2] at hr
        rw [hr k (by simp),h2]
        exact ⟨hs,by simp⟩
      · exact hs.elim
    · rename_i k sz' i off h1
      simp only [h1] at hr ⊢
      split at hs
      · rename_i e0 sz2 n f h2
        simp only [h2] at hr
        rw [hr k (by simp),h2]
        exact ⟨hs,by simp⟩
      · rename_i e1 sz2 n cs h2
        simp only [h2] at hr
        rw [hr k (by simp),h2]
        exact ⟨hs,by simp⟩
      · exact hs.elim
    · exact hs.elim
  case store sz x y =>
    have h1:∀ k,k∈x.slots→get st1.env k=get st.env k:=λk hk=>h k (.inl hk)
    have h2:∀ k,k∈y.slots→get st1.env k=get st.env k:=λk hk=>h k (.inr hk)
    simp only [opR] at hs hr ⊢
    simp only [Am h1,Am h2,An h1,An h2]
    split at hs
    · rename_i k off ys g1 g2
      simp only [g1,g2] at hr ⊢
      split at hs
      · rename_i cs g3
        simp only [g3] at hr
        rw [hr k (by simp),g3]
        exact ⟨hs,by simp⟩
      · exact hs.elim
    · rename_i k sz' i off ys g1 g2
      simp only [g1,g2] at hr ⊢
      split at hs
      · rename_i e0 sz2 n f ds g3 g4
        simp only [g3,g4] at hr
        rw [hr k (by simp),g3]
        simp only [g4]
        exact ⟨hs,by simp⟩
      · rename_i e1 sz2 n cs g3
        simp only [g3] at hr
        rw [hr k (by simp),g3]
        exact ⟨hs,by simp⟩
      · exact hs.elim
    · exact hs.elim
  case iadr sz x i =>
    have h1:∀ k,k∈x.slots→get st1.env k=get st.env k:=λk hk=>h k (.inl hk)
    have h2:∀ k,k∈i.slots→get st1.env k=get st.env k:=λk hk=>h k (.inr hk)
    simp only [opR] at hs hr ⊢
    simp only [Am h1,Am h2,An h1,An h2]
    split at hs
    · rename_i g1 g2
      simp only [g1,g2] at hr ⊢
      exact ⟨hs,by simp⟩
    · rename_i k kk m g1 g2
      simp only [g1,g2] at hr ⊢
      split at hs
      · rename_i g3
        simp only [g3] at hr
        rw [hr k (by simp),g3]
        exact ⟨hs,by simp⟩
      · rename_i g3
        simp only [g3] at hr
        rw [hr k (by simp),g3]
        exact ⟨hs,by simp⟩
      · exact hs.elim
    · rename_i g1 g2
      simp only [g1,g2] at hr ⊢
      exact ⟨hs,by simp⟩
    · exact hs.elim
  case len x =>
    simp only [opR] at hs hr ⊢
    simp only [Am h,An h]
    split at hs
    · rename_i g1
      simp only [g1] at hr ⊢
      exact ⟨hs,by simp⟩
    · rename_i k g1
      simp only [g1] at hr ⊢
      split at hs
      · rename_i g3
        simp only [g3] at hr
        rw [hr k (by simp),g3]
        exact ⟨hs,by simp⟩
      · rename_i g3
        simp only [g3] at hr
        rw [hr k (by simp),g3]
        exact ⟨hs,by simp⟩
      · exact hs.elim
    · rename_i g1
      simp only [g1] at hr ⊢
      exact ⟨hs,by simp⟩
    · exact hs.elim
  case app e sz bytes x y =>
    have h1:∀ k,k∈x.slots→get st1.env k=get st.env k:=λk hk=>h k (.inl hk)
    have h2:∀ k,k∈y.slots→get st1.env k=get st.env k:=λk hk=>h k (.inr hk)
    have hn:=hn rfl
    simp only [opR] at hs hr ⊢
    simp only [Am h1,Am h2,An h1,An h2]
    split at hs
    · rename_i k fl sz2 m g g1 g2
      simp only [g1,g2] at hr ⊢
      split at hs
      · rename_i g3
        simp only [g3] at hr
        rw [hr k (by simp),g3]
        obtain ⟨a1,a2,a3,a4,a5,a6,a7,_⟩:=hs
        exact ⟨⟨a1,a2,a3,a4,a5,a6,a7,hn⟩,by simp⟩
      · rename_i g3
        simp only [g3] at hr
        rw [hr k (by simp),g3]
        obtain ⟨a1,a2,a3,a4,a5,a6,a7,_⟩:=hs
        exact ⟨⟨a1,a2,a3,a4,a5,a6,a7,hn⟩,by simp⟩
      · exact hs.elim
    · rename_i g1 g2
      simp only [g1,g2] at hr ⊢
      obtain ⟨a1,a2,a3,a4,a5,a6,a7,_⟩:=hs
      exact ⟨⟨a1,a2,a3,a4,a5,a6,a7,hn⟩,by simp⟩
    · rename_i k k2 g1 g2
      simp only [g1,g2] at hr ⊢
      split at hs
      · rename_i g3 g4
        simp only [g3,g4] at hr
        split at hs
        · rename_i ds g5
          simp only [g5] at hr
          rw [hr k (by simp),hr k2 (by simp),g3,g4]
          simp only [g5]
          obtain ⟨a1,a2,a3,a4,a5,a6,a7,a8,_⟩:=hs
          exact ⟨⟨a1,a2,a3,a4,a5,a6,a7,a8,hn⟩,by simp⟩
        · exact hs.elim
      · rename_i g3 g4
        simp only [g3,g4] at hr
        rw [hr k (by simp),hr k2 (by simp),g3,g4]
        obtain ⟨a1,a2,a3,a4,a5,a6,a7,a8,a9,_⟩:=hs
        exact ⟨⟨a1,a2,a3,a4,a5,a6,a7,a8,a9,hn⟩,by simp⟩
      · exact hs.elim
    · rename_i k2 g1 g2
      simp only [g1,g2] at hr ⊢
      split at hs
      · rename_i g4
        simp only [g4] at hr
        split at hs
        · rename_i ds g5
          simp only [g5] at hr
          rw [hr k2 (by simp),g4]
          simp only [g5]
          obtain ⟨a1,a2,a3,a4,a5,a6,a7,a8,_⟩:=hs
          exact ⟨⟨a1,a2,a3,a4,a5,a6,a7,a8,hn⟩,by simp⟩
        · exact hs.elim
      · rename_i g4
        simp only [g4] at hr
        rw [hr k2 (by simp),g4]
        obtain ⟨a1,a2,a3,a4,a5,a6,a7,a8,_⟩:=hs
        exact ⟨⟨a1,a2,a3,a4,a5,a6,a7,a8,hn⟩,by simp⟩
      · exact hs.elim
    · exact hs.elim
  case mkfn f xs ys =>
    have h1:∀ k,k∈Bc xs→get st1.env k=get st.env k:=λk hk=>h k (.inl hk)
    have h2:∀ k,k∈Bc ys→get st1.env k=get st.env k:=λk hk=>h k (.inr hk)
    simp only [opR] at hs ⊢
    simp only [Cj h1,Cj h2,Cn h1,Cn h2]
    exact ⟨hs,by simp⟩
  case mks e sz bytes z x y =>
    have h1:∀ k,k∈x.slots→get st1.env k=get st.env k:=λk hk=>h k (.inl hk)
    have h2:∀ k,k∈y.slots→get st1.env k=get st.env k:=λk hk=>h k (.inr hk)
    have hn:=hn rfl
    simp only [opR] at hs ⊢
    simp only [Am h1,Am h2,An h1,An h2]
    split at hs
    · obtain ⟨a1,a2,a3,a4,a5,a6,_⟩:=hs
      exact ⟨⟨a1,a2,a3,a4,a5,a6,hn⟩,by simp⟩
    · exact hs.elim
  case slc sz x lo hi mx =>
    have h1:∀ k,k∈x.slots→get st1.env k=get st.env k:=λk hk=>h k (.inl hk)
    have ho:∀ (y:Option X),(∀ k,k∈Mb y→get st1.env k=get st.env k)→y.map (evV st1)=y.map (evV st)∧∀ z,y=some z→evS p st1 z=evS p st z:=λy hy=>by
      cases y with
      |none=>exact ⟨rfl,λz hz=>by cases hz⟩
      |some z =>
        have hz:∀ k,k∈z.slots→get st1.env k=get st.env k:=λk hk=>hy k (by simpa [Mb] using hk)
        exact ⟨by simp [Am hz],λz' e=>by cases e;exact An hz⟩
    obtain ⟨l1,l2⟩:=ho lo (λk hk=>h k (.inr (.inl hk)))
    obtain ⟨m1,m2⟩:=ho hi (λk hk=>h k (.inr (.inr (.inl hk))))
    obtain ⟨n1,n2⟩:=ho mx (λk hk=>h k (.inr (.inr (.inr hk))))
    have k1:(∀ h,lo=some h→evS p st1 h)=(∀ h,lo=some h→evS p st h):=propext ⟨λq z hz=>l2 z hz▸q z hz,λq z hz=>(l2 z hz).symm▸q z hz⟩
    have k2:(∀ h,hi=some h→evS p st1 h)=(∀ h,hi=some h→evS p st h):=propext ⟨λq z hz=>m2 z hz▸q z hz,λq z hz=>(m2 z hz).symm▸q z hz⟩
    have k3:(∀ h,mx=some h→evS p st1 h)=(∀ h,mx=some h→evS p st h):=propext ⟨λq z hz=>n2 z hz▸q z hz,λq z hz=>(n2 z hz).symm▸q z hz⟩
    simp only [opR] at hs hr ⊢
    simp only [Am h1,An h1,l1,m1,n1,k1,k2,k3]
    split at hs
    · rename_i g1 g2 g3 g4
      simp only [g1,g2,g3,g4] at hr ⊢
      exact ⟨hs,by simp⟩
    · rename_i g1 g2 g3 g4
      simp only [g1,g2,g3,g4] at hr ⊢
      exact ⟨hs,by simp⟩
    · rename_i g1 g2 g3 g4
      simp only [g1,g2,g3,g4] at hr ⊢
      exact ⟨hs,by simp⟩
    · rename_i k ka aa g1 g2 g3 g4
      simp only [g1,g2,g3,g4] at hr ⊢
      split at hs
      · rename_i g5
        simp only [g5] at hr
        rw [hr k (by simp),g5]
        exact ⟨hs,by simp⟩
      · exact hs.elim
    · rename_i k ka aa g1 g2 g3 g4
      simp only [g1,g2,g3,g4] at hr ⊢
      split at hs
      · rename_i g5
        simp only [g5] at hr
        rw [hr k (by simp),g5]
        exact ⟨hs,by simp⟩
      · exact hs.elim
    · exact hs.elim
  case cpy sz x y =>
    have h1:∀ k,k∈x.slots→get st1.env k=get st.env k:=λk hk=>h k (.inl hk)
    have h2:∀ k,k∈y.slots→get st1.env k=get st.env k:=λk hk=>h k (.inr hk)
    simp only [opR] at hs hr ⊢
    simp only [Am h1,Am h2,An h1,An h2]
    split at hs
    · rename_i k fl sz2 m g g1 g2
      simp only [g1,g2] at hr ⊢
      split at hs
      · rename_i g3
        simp only [g3] at hr
        rw [hr k (by simp),g3]
        exact ⟨hs,by simp⟩
      · exact hs.elim
    · rename_i k sz1 lo n k2 sz2 lo2 m g1 g2
      simp only [g1,g2] at hr ⊢
      split at hs
      · rename_i g3
        simp only [g3] at hr
        rw [hr k (by simp),g3]
        exact ⟨hs,by simp⟩
      · exact hs.elim
    · exact hs.elim
  case mkmap z=>simp only [opR] at *;exact ⟨hn rfl,by simp⟩
  case never=>simp only [opR,Ef.bad] at hs
  case apz e sz bytes z x y =>
    have h1:∀ k,k∈x.slots→get st1.env k=get st.env k:=λk hk=>h k (.inl hk)
    have h2:∀ k,k∈y.slots→get st1.env k=get st.env k:=λk hk=>h k (.inr hk)
    have hn:=hn rfl
    simp only [opR] at hs ⊢
    simp only [Am h1,Am h2,An h1,An h2]
    split at hs
    · obtain ⟨a1,a2,a3,a4,a5,_⟩:=hs
      exact ⟨⟨a1,a2,a3,a4,a5,hn⟩,by simp⟩
    · exact hs.elim
  case clr sz z x =>
    simp only [opR] at hs hr ⊢
    simp only [Am h,An h]
    split at hs
    · rename_i k sz1 lo n g1
      simp only [g1] at hr ⊢
      split at hs
      · rename_i g3
        simp only [g3] at hr
        rw [hr k (by simp),g3]
        exact ⟨hs,by simp⟩
      · exact hs.elim
    · exact hs.elim
  case isnil neg x =>
    simp only [opR] at hs hr ⊢
    simp only [Am h,An h]
    split at hs
    · rename_i g1
      simp only [g1] at hr ⊢
      exact ⟨hs,by simp⟩
    · rename_i k g1
      simp only [g1] at hr ⊢
      split at hs
      · rename_i g3
        simp only [g3] at hr
        rw [hr k (by simp),g3]
        exact ⟨hs,by simp⟩
      · exact hs.elim
    · exact hs.elim
  case nili neg x =>
    simp only [opR] at hs hr ⊢
    simp only [Am h,An h]
    split at hs
    · rename_i g1
      simp only [g1] at hr ⊢
      exact ⟨hs,by simp⟩
    · rename_i g1
      simp only [g1] at hr ⊢
      exact ⟨hs,by simp⟩
    · exact hs.elim
  case lkp z x y =>
    have h1:∀ k,k∈x.slots→get st1.env k=get st.env k:=λk hk=>h k (.inl hk)
    have h2:∀ k,k∈y.slots→get st1.env k=get st.env k:=λk hk=>h k (.inr hk)
    simp only [opR] at hs hr ⊢
    simp only [Am h1,Am h2,An h1,An h2]
    split at hs
    · rename_i k kk n g1 g2
      simp only [g1,g2] at hr ⊢
      split at hs
      · rename_i g3
        simp only [g3] at hr
        rw [hr k (by simp),g3]
        exact ⟨hs,by simp⟩
      · exact hs.elim
    · exact hs.elim
  case lkq z x y =>
    have h1:∀ k,k∈x.slots→get st1.env k=get st.env k:=λk hk=>h k (.inl hk)
    have h2:∀ k,k∈y.slots→get st1.env k=get st.env k:=λk hk=>h k (.inr hk)
    simp only [opR] at hs hr ⊢
    simp only [Am h1,Am h2,An h1,An h2]
    split at hs
    · rename_i k kk n g1 g2
      simp only [g1,g2] at hr ⊢
      split at hs
      · rename_i g3
        simp only [g3] at hr
        rw [hr k (by simp),g3]
        exact ⟨hs,by simp⟩
      · exact hs.elim
    · exact hs.elim
  case mup x y z =>
    have h1:∀ k,k∈x.slots→get st1.env k=get st.env k:=λk hk=>h k (.inl hk)
    have h2:∀ k,k∈y.slots→get st1.env k=get st.env k:=λk hk=>h k (.inr (.inl hk))
    have h3:∀ k,k∈z.slots→get st1.env k=get st.env k:=λk hk=>h k (.inr (.inr hk))
    simp only [opR] at hs hr ⊢
    simp only [Am h1,Am h2,Am h3,An h1,An h2,An h3]
    split at hs
    · rename_i k kk n y' g1 g2 g4
      simp only [g1,g2,g4] at hr ⊢
      split at hs
      · rename_i g3
        simp only [g3] at hr
        rw [hr k (by simp),g3]
        exact ⟨hs,by simp⟩
      · exact hs.elim
    · exact hs.elim
  case mkifc t x =>
    simp only [opR] at hs ⊢
    simp only [Am h,An h]
    exact ⟨hs,by simp⟩
  all_goals first
    | (simp only [opR] at hs ⊢
       simp only [Am h,An h]
       exact ⟨hs,by simp⟩)
    | (rename_i x y
       have h1:∀ k,k∈x.slots→get st1.env k=get st.env k:=λk hk=>h k (.inl hk)
       have h2:∀ k,k∈y.slots→get st1.env k=get st.env k:=λk hk=>h k (.inr hk)
       simp only [opR] at hs ⊢
       simp only [Am h1,Am h2,An h1,An h2]
       exact ⟨hs,by simp⟩)
end Go.Bx
end
section
namespace Go.Bx
open Go.RowKit
theorem da {st:St} {p:Bool} {d:Nat} {q:O} (hs:(opR st p d q).side) (hm:makes q=true):d∉st.nm:=by
 cases q<;>simp only [makes] at hm<;>(try cases hm)<;>simp only [opR] at hs<;>(repeat' split at hs)<;>simp_all [Ef.bad]
def Ef.stp (e:Ef) (new:List Nat):Stp:={ val:=e.val,upd:=e.upd,rd:=e.rd,new:=new }
def newOf (q:O) (d:Nat):List Nat:=if makes q then [d] else []
section
variable {c:B3}
theorem Te {d:Option Nat} {g:Option (Nat×Bool)} {q:O}:∀ k,k∈q.slots→k∈(I.slots ⟨d,g,q⟩):=λk hk=>by simp [I.slots,hk]
theorem Wf {d:Option Nat} {q:O} {st:St} (hq:isCall q=false) (hs:(opR st true (d.getD 0) q).side):D0 c ⟨d,none,q⟩ st ((opR st true (d.getD 0) q).stp (newOf q (d.getD 0))):=by
 intro st1 h1 h2 h3 ops o hc β a w H Q K hK
 have hcg:=hc.gd
 have hg:o.guard=none:=by
  cases hg:o.guard with
  |none=>rfl
  |some jw=>simp only [hg] at hcg;obtain ⟨s,_,h⟩:=hcg;cases h
 rw [if_pos (by simp [Region.wanted,hg])]
 have hn:makes q=true→d.getD 0∉st1.nm:=λhm=>h3 _ (by simp [Ef.stp,newOf,hm])
 obtain ⟨g1,g2,g3,g4⟩:=T2 hq hs (λk hk=>h1 k (Te k hk)) h2 hn
 have hdst:=hc.dst
 obtain ⟨v,w',β',hr,_,H'⟩:=xk hc.op H (λd hd=>hc.lt d (hdst▸hd)) (λhm=>hdst▸hc.mkk hm) (λhm=>hdst▸hc.st hm) hq (by rw [hdst];exact g1)
 refine Oper.wp_ok hr (hK β' _ w' ?_)
 simp only at hdst
 rw [hdst] at H' ⊢
 simpa [St.app,St.stp,Ef.stp,g2,g3] using H'
def gOf (env:List (Nat×V)) (s:Nat) (want:Bool):Option Bool:=
 match get env s with
 |.d (.bool b)=>some (if want then b else !b)
 |.gd g (.d (.bool b))=>some (g&&(if want then b else !b))
 |_=>none
theorem Gj {β:A6} {st:St} {a:Act} {w:World} (H:Aa c β st a w) {ops:Array Oper} {o:Oper} {j s:Nat} {want gc:Bool} (hg:o.guard=some (j,want)) (hj:(ops[j]?).bind (·.dst)=some s) (h:gOf st.env s want=some gc) :
  Region.wanted o (yielded ops a.tmps)=gc:=by
 have hr:=H.env s
 have hy:∀ b,a.tmps.getD s undef=.bool b→yielded ops a.tmps j=some b:=λb hb=>by
  unfold yielded
  rw [hj]
  have:a.tmps[s]?=some (.bool b):=by
   simp only [Array.getD_eq_getD_getElem?] at hb
   cases h2:a.tmps[s]? with
   |none=>simp [h2,undef] at hb
   |some v=>simp [h2] at hb;rw [hb]
  simp [this]
 have hn:a.tmps.getD s undef=undef→yielded ops a.tmps j=none:=λhb=>by
  unfold yielded
  rw [hj]
  simp only [Array.getD_eq_getD_getElem?] at hb
  cases h2:a.tmps[s]? with
  |none=>simp [h2]
  |some v=>simp [h2,undef] at hb;subst hb;simp [h2]
 unfold gOf at h
 unfold Region.wanted
 rw [hg]
 simp only
 generalize a.tmps.getD s undef=u at *
 split at h
 ·rename_i b hb
  rw [hb] at hr
  rw [hy b (Du hr)]
  simp at h
  subst h
  cases want<;>cases b<;>rfl
 ·rename_i g b hb
  rw [hb] at hr
  simp at h
  subst h
  cases hr with
  |gd _ _ _ q1 q2 =>
   cases g with
   |true =>
    rw [hy b (Du (q1 rfl))]
    cases want<;>cases b<;>rfl
   |false =>
    rw [hn (q2 rfl)]
    rfl
 ·cases h
theorem iq {d:Option Nat} {s:Nat} {want gc:Bool} {q:O} {st:St} (hq:isCall q=false) (hg:gOf st.env s want=some gc) (hs:gc=true→(opR st gc (d.getD 0) q).side) (hu:(opR st true (d.getD 0) q).upd=[]) :
  D0 c ⟨d,some (s,want),q⟩ st { val:=.gd gc (opR st true (d.getD 0) q).val,upd:=[],rd:=(opR st true (d.getD 0) q).rd,new:=newOf q (d.getD 0) }:=by
 intro st1 h1 h2 h3 ops o hc β a w H Q K hK
 have hcg:=hc.gd
 obtain ⟨j,hgo,hj⟩:∃ j,o.guard=some (j,want)∧(ops[j]?).bind (·.dst)=some s:=by
  cases hgo:o.guard with
  |none=>simp only [hgo] at hcg;cases hcg
  |some jw =>
   obtain ⟨j,w'⟩:=jw
   simp only [hgo] at hcg
   obtain ⟨s',hs',e⟩:=hcg
   injection e with e;injection e with e1 e2
   exact ⟨j,by rw [e2],by rw [hs',e1]⟩
 have hg1:gOf st1.env s want=some gc:=by
  unfold gOf at hg ⊢
  rw [h1 s (by simp [I.slots])]
  exact hg
 have hw:=Gj H hgo hj hg1
 rw [hw]
 have hdst:=hc.dst
 simp only at hdst
 cases gc with
 |true =>
  rw [if_pos rfl]
  obtain ⟨g1,g2,g3,g4⟩:=T2 (st1:=st1) hq (hs rfl) (λk hk=>h1 k (Te k hk)) h2 (λhm=>h3 _ (by simp [newOf,hm]))
  obtain ⟨v,w',β',hr,_,H'⟩:=xk hc.op H (λd hd=>hc.lt d (hdst▸hd)) (λhm=>hdst▸hc.mkk hm) (λhm=>hdst▸hc.st hm) hq (by rw [hdst];exact g1)
  refine Oper.wp_ok hr (hK β' _ w' ?_)
  rw [hdst] at H' ⊢
  simp only [St.app,g2,g3,hu,applyU,newN] at H'
  simp only [St.stp,applyU,newN]
  cases d with
  |none=>exact H'
  |some d' =>
   simp only [setE] at H' ⊢
   refine ⟨H'.sz,H'.df,λs'=>?_,H'.own,H'.fr,H'.kn,H'.nm,H'.kp,H'.fx⟩
   have h5:=H'.env s'
   simp only [get] at h5 ⊢
   split
   ·rename_i e
    rw [if_pos e] at h5
    exact .gd _ _ _ (λ_=>h5) (λh=>by cases h)
   ·rename_i e
    rw [if_neg e] at h5
    exact h5
 |false =>
  rw [if_neg (by simp)]
  refine hK β _ w ?_
  rw [hdst]
  simp only [St.stp,applyU,newN]
  cases d with
  |none=>exact H
  |some d'=>exact H.setV (hc.lt d' rfl) (.gd _ _ _ (λh=>by cases h) (λ_=>rfl))
end
end Go.Bx
end
section
namespace Go.Bx
open Go.RowKit
def In (P:Program) (f:FuncId):Bool:=
 match P.funcs[f]? with
 |some fn=>fn.name != "runtime.NumGoroutine"&&fn.body.isSome
 |none=>false
def Aj (P:Program) (f:FuncId) (args:List V) (ins:List (Nat×Own)) (res:V) (outs:List (Nat×Own)) (new:List Nat):Prop:=
  In P f=true∧(∀ k,k∈keysO outs→k∈keysO ins∨k∈new)∧(∀ k,k∈new→k∈keysO outs) ∧
  ∀ (E0 : Nat → Prop) (β : A6) (w : World) (vals : Array Value), (∀ b, E0 b → b < w.heap.size) → vals.size = args.length →
    (∀ (j:Nat) (v:Value) (x:V),vals[j]?=some v→args[j]?=some x→Ai β (Eo E0 β ins) w v x)→At E0 β w ins→(∀ k,k∈new→β k=none) →
    Calls P f vals w λe w'=>∃ v β',e=.returned v∧β.le β'∧(∀ k,k∉new→β' k=β k)∧Ai β' (Eo E0 β' outs) w' v res∧At E0 β' w' outs∧Aw (Co β ins) w w' ∧
      (∀ k,k∈keysO outs→∀ b,β'.blk k=some b→w.heap.size≤b∨Co β ins b)
theorem Af (l:List (Nat×Own)) (k:Nat) (o:Own) (k1:Nat):own? (setO l k o) k1=if k1=k then some o else own? l k1:=by
 induction l with
 |nil =>
  simp only [setO,own?]
  by_cases h:k=k1
  ·rw [if_pos h,if_pos h.symm]
  ·rw [if_neg h,if_neg (λe=>h e.symm)]
 |cons p l ih =>
  obtain ⟨k',o'⟩:=p
  simp only [setO]
  by_cases h:k'=k
  ·subst h
   rw [if_pos rfl]
   simp only [own?]
   by_cases h2:k'=k1
   ·subst h2;simp
   ·rw [if_neg h2,if_neg (λe=>h2 e.symm),if_neg h2]
  ·rw [if_neg h]
   simp only [own?,ih]
   by_cases h2:k'=k1
   ·subst h2;rw [if_pos rfl,if_neg h,if_pos rfl]
   ·rw [if_neg h2,if_neg h2]
theorem N2 {l:List (Nat×Own)} {k:Nat} (h:k∉keysO l):own? l k=none:=by
 cases he:own? l k with
 |none=>rfl
 |some o=>exact absurd (Ab (Ah he)) h
theorem Sz {l:List (Nat×Own)} (hn:(keysO l).Nodup) (k k1:Nat):own? (delO l k) k1=if k1=k then none else own? l k1:=by
 induction l with
 |nil=>simp [delO,own?]
 |cons p l ih =>
  obtain ⟨k',o'⟩:=p
  simp only [keysO,List.map_cons,List.nodup_cons] at hn
  simp only [delO]
  by_cases h:k'=k
  ·subst h
   rw [if_pos rfl]
   simp only [own?]
   by_cases h2:k'=k1
   ·subst h2;rw [if_pos rfl];exact N2 hn.1
   ·rw [if_neg h2,if_neg (λe=>h2 e.symm)]
  ·rw [if_neg h]
   simp only [own?,ih hn.2]
   by_cases h2:k'=k1
   ·subst h2;rw [if_pos rfl,if_neg h,if_pos rfl]
   ·rw [if_neg h2,if_neg h2]
theorem Dh {l:List (Nat×Own)} {k:Nat}:k∈keysO l↔∃ o,own? l k=some o:=by
 constructor
 ·intro h
  induction l with
  |nil=>simp [keysO] at h
  |cons p l ih =>
   obtain ⟨k',o'⟩:=p
   simp only [own?]
   by_cases e:k'=k
   ·exact ⟨o',by rw [if_pos e]⟩
   ·simp only [keysO,List.map_cons,List.mem_cons] at h
    obtain ⟨o,ho⟩:=ih (h.resolve_left (λx=>e x.symm))
    exact ⟨o,by rw [if_neg e];exact ho⟩
 ·rintro ⟨o,ho⟩
  exact Ab (Ah ho)
def callU (ins outs:List (Nat×Own)):List (Nat×Option Own):=ins.map (λp=>(p.1,none))++outs.map (λp=>(p.1,some p.2))
theorem Dk:∀ (u:List (Nat×Option Own)) {l:List (Nat×Own)},(keysO l).Nodup→(keysO (applyU l u)).Nodup
 |[],_,h=>h
 |(_,some _)::u,_,h=>Dk u (Gv h)
 |(_,none)::u,_,h=>Dk u (Eh h)
theorem Lc:∀ (u v:List (Nat×Option Own)) (l:List (Nat×Own)),applyU l (u++v)=applyU (applyU l u) v
 |[],_,_=>rfl
 |(_,some _)::u,v,_=>Lc u v _
 |(_,none)::u,v,_=>Lc u v _
theorem Ny:∀ (ins:List (Nat×Own)) {l:List (Nat×Own)},(keysO l).Nodup→∀ k,own? (applyU l (ins.map λp=>(p.1,none))) k=if k∈keysO ins then none else own? l k
 |[],l,_,k=>by simp [applyU,keysO]
 |(k0,o)::ins,l,h,k=>by
  simp only [List.map_cons,applyU]
  rw [Ny ins (Eh h),Sz h]
  simp only [keysO,List.map_cons,List.mem_cons]
  by_cases h1:k∈List.map (λx=>x.1) ins
  ·simp [h1]
  ·by_cases h2:k=k0
   ·subst h2;simp [h1]
   ·simp [h1,h2]
theorem Ns:∀ (outs:List (Nat×Own)) (l:List (Nat×Own)),(keysO outs).Nodup→∀ k,own? (applyU l (outs.map λp=>(p.1,some p.2))) k=match own? outs k with|some o=>some o|none=>own? l k
 |[],l,_,k=>by simp [applyU,own?]
 |(k0,o)::outs,l,h,k=>by
  simp only [keysO,List.map_cons,List.nodup_cons] at h
  simp only [List.map_cons,applyU]
  rw [Ns outs _ h.2,Af]
  simp only [own?]
  by_cases h2:k0=k
  ·subst h2
   rw [if_pos rfl,N2 h.1]
   simp
  ·rw [if_neg h2,if_neg (λe=>h2 e.symm)]
theorem Kh {l ins outs:List (Nat×Own)} (hl:(keysO l).Nodup) (ho:(keysO outs).Nodup) (k:Nat) :
  own? (applyU l (callU ins outs)) k=match own? outs k with|some o=>some o|none=>if k∈keysO ins then none else own? l k:=by
 unfold callU
 rw [Lc,Ns outs _ ho,Ny ins hl]
theorem F2 (u:List (Nat×Option Own)):∀ (nm:List Nat) (k:Nat),k∈newN nm u↔k∈nm∨∃ o,(k,some o)∈u:=by
 induction u with
 |nil=>simp [newN]
 |cons p u ih =>
  obtain ⟨k0,o⟩:=p
  intro nm k
  cases o with
  |none=>simp only [newN,ih];simp
  |some o =>
   simp only [newN,ih]
   by_cases h:k0∈nm
   ·rw [if_pos h]
    constructor
    ·rintro (h1|⟨o',h1⟩)
     ·exact .inl h1
     ·exact .inr ⟨o',by simp [h1]⟩
    ·rintro (h1|⟨o',h1⟩)
     ·exact .inl h1
     ·rcases List.mem_cons.1 h1 with h1|h1
      ·simp at h1;exact .inl (h1.1▸h)
      ·exact .inr ⟨o',h1⟩
   ·rw [if_neg h]
    constructor
    ·rintro (h1|⟨o',h1⟩)
     ·rcases List.mem_cons.1 h1 with h1|h1
      ·exact .inr ⟨o,by simp [h1]⟩
      ·exact .inl h1
     ·exact .inr ⟨o',by simp [h1]⟩
    ·rintro (h1|⟨o',h1⟩)
     ·exact .inl (by simp [h1])
     ·rcases List.mem_cons.1 h1 with h1|h1
      ·simp at h1;exact .inl (by simp [h1.1])
      ·exact .inr ⟨o',h1⟩
theorem Ct {P:Program} {f:FuncId} {w:World} (h:In P f=true) (args:Array Value):(callFunc f args).run P w=.ok (.enter f args) w:=by
 unfold In at h
 split at h
 ·rename_i fn hf
  simp at h
  have h2:fn.body≠none:=λe=>by simp [e] at h
  simp [callFunc,hf,h.1,h2]
 ·cases h
section
variable {c:B3} {β:A6} {a:Act} {w:World}
theorem Is {st1:St} (H:Aa c β st1 a w) {ins outs:List (Nat×Own)} {new:List Nat} {β':A6} {w':World} (hin:∀ k o,(k,o)∈ins→own? st1.own k=some o) (hnew:∀ k,k∈new→k∉st1.nm) (hno:∀ k,k∈new→k∈keysO outs)
  (hβ:β.le β') (hfr:∀ k,k∉new→β' k=β k) (ho:At (λb=>c.E0 b∨∃ k,k∈keysO st1.own∧k∉keysO ins∧β.blk k=some b) β' w' outs) (hk:Aw (Co β ins) w w')
  (hb:∀ k,k∈keysO outs→∀ b,β'.blk k=some b→w.heap.size≤b∨Co β ins b) :
  Aa c β' ⟨st1.env,applyU st1.own (callU ins outs),newN st1.nm (callU ins outs)⟩ a w' ∧
   (∀ b,Eo c.E0 β' (applyU st1.own (callU ins outs)) b→Eo (λb=>c.E0 b∨∃ k,k∈keysO st1.own∧k∉keysO ins∧β.blk k=some b) β' outs b):=by
 have hq:=Kh (ins:=ins) (outs:=outs) H.own.nodup ho.nodup
 have hinb:∀ b,Co β ins b→Co β st1.own b:=λb ⟨k,h1,h2⟩=>by
  obtain ⟨o,ho⟩:=Ba h1
  exact ⟨k,Ab (Ah (hin k o ho)),h2⟩
 have hold:∀ k,k∈keysO st1.own→β'.blk k=β.blk k:=λk hk=>by
  obtain ⟨o,ho⟩:=Ba hk
  obtain ⟨v,hv⟩:=(H.own.ok k o ho).key
  exact hβ.blk hv
 have hcases:∀ k o,own? (applyU st1.own (callU ins outs)) k=some o→(k,o)∈outs∨(k∉keysO outs∧k∉keysO ins∧own? st1.own k=some o):=λk o h=>by
  rw [hq] at h
  cases h1:own? outs k with
  |some o'=>simp [h1] at h;subst h;exact .inl (Ah h1)
  |none =>
   simp only [h1] at h
   split at h
   ·cases h
   ·rename_i h2
    have h5:k∉keysO outs:=λh3=>by
     obtain ⟨o',h4⟩:=Dh.1 h3
     rw [h1] at h4
     cases h4
    exact .inr ⟨h5,h2,h⟩
 have hE:∀ b,Eo c.E0 β' (applyU st1.own (callU ins outs)) b↔Eo (λb=>c.E0 b∨∃ k,k∈keysO st1.own∧k∉keysO ins∧β.blk k=some b) β' outs b:=λb=>by
  constructor
  ·rintro (h|⟨k,h1,h2⟩)
   ·exact .inl (.inl h)
   ·obtain ⟨o,h3⟩:=Dh.1 h1
    rcases hcases k o h3 with h4|⟨_,h5,h6⟩
    ·exact .inr ⟨k,Ab h4,h2⟩
    ·have h7:=Ab (Ah h6)
     rw [hold k h7] at h2
     exact .inl (.inr ⟨k,h7,h5,h2⟩)
  ·rintro ((h|⟨k,h1,h2,h3⟩)|⟨k,h1,h2⟩)
   ·exact .inl h
   ·refine .inr ⟨k,?_,by rw [hold k h1];exact h3⟩
    rw [Dh,hq]
    cases h4:own? outs k with
    |some o=>exact ⟨o,rfl⟩
    |none =>
     obtain ⟨o,ho⟩:=Dh.1 h1
     exact ⟨o,by simp [h2,ho]⟩
   ·refine .inr ⟨k,?_,h2⟩
    rw [Dh,hq]
    obtain ⟨o,ho⟩:=Dh.1 h1
    exact ⟨o,by simp [ho]⟩
 have hEe:Eo c.E0 β' (applyU st1.own (callU ins outs))=Eo (λb=>c.E0 b∨∃ k,k∈keysO st1.own∧k∉keysO ins∧β.blk k=some b) β' outs:=funext λb=>propext (hE b)
 have hl:B5 (Eo c.E0 β st1.own) (Eo c.E0 β' (applyU st1.own (callU ins outs))) w w':=by
  intro b h1 h2
  refine ⟨λh3=>?_,hk.block b h1 (λh3=>h2 (.inr (by obtain ⟨k,h4,h5⟩:=hinb b h3;exact ⟨k,h4,h5⟩)))⟩
  rcases (hE b).1 h3 with (h4|⟨k,h4,_,h5⟩)|⟨k,h4,h5⟩
  ·exact h2 (.inl h4)
  ·exact h2 (.inr ⟨k,h4,h5⟩)
  ·rcases hb k h4 b h5 with h6|h6
   ·omega
   ·obtain ⟨k',h7,h8⟩:=hinb b h6
    exact h2 (.inr ⟨k',h7,h8⟩)
 refine ⟨H.change hβ (hk.mono hinb) ⟨λk o h=>?_,Dk _ H.own.nodup,?_,?_⟩ ?_ ?_ ?_ (λk h1=>⟨(F2 _ _ _).2 (.inl h1),hfr k (λh2=>hnew k h2 h1)⟩),λb=>(hE b).1⟩
 ·rcases hcases k o (Ay (Dk _ H.own.nodup) h) with h1|⟨h1,h2,h3⟩
  ·rw [hEe];exact ho.ok k o h1
  ·refine (H.own.ok k o (Ah h3)).lasts hl hβ (λb hb1=>hk.block b (H.own.lt k (Ab (Ah h3)) b hb1).1 ?_)
   rintro ⟨k',h4,h5⟩
   obtain ⟨o',ho'⟩:=Ba h4
   have h6:=Ab (Ah (hin k' o' ho'))
   exact H.own.apart k k' (Ab (Ah h3)) h6 (λe=>h2 (e▸h4)) b hb1 h5
 ·intro k k' h1 h2 hne b hb1 hb2
  obtain ⟨o,h3⟩:=Dh.1 h1
  obtain ⟨o',h4⟩:=Dh.1 h2
  rcases hcases k o h3 with h5|⟨_,h5,h5'⟩<;>rcases hcases k' o' h4 with h6|⟨_,h6,h6'⟩
  ·exact ho.apart k k' (Ab h5) (Ab h6) hne b hb1 hb2
  ·have h7:=Ab (Ah h6')
   rw [hold k' h7] at hb2
   exact (ho.lt k (Ab h5) b hb1).2 (.inr ⟨k',h7,h6,hb2⟩)
  ·have h7:=Ab (Ah h5')
   rw [hold k h7] at hb1
   exact (ho.lt k' (Ab h6) b hb2).2 (.inr ⟨k,h7,h5,hb1⟩)
  ·have h7:=Ab (Ah h5')
   have h8:=Ab (Ah h6')
   rw [hold k h7] at hb1
   rw [hold k' h8] at hb2
   exact H.own.apart k k' h7 h8 hne b hb1 hb2
 ·intro k h1 b hb1
  obtain ⟨o,h3⟩:=Dh.1 h1
  rcases hcases k o h3 with h5|⟨_,h5,h5'⟩
  ·obtain ⟨x,y⟩:=ho.lt k (Ab h5) b hb1
   exact ⟨x,λh=>y (.inl h)⟩
  ·have h7:=Ab (Ah h5')
   rw [hold k h7] at hb1
   obtain ⟨x,y⟩:=H.own.lt k h7 b hb1
   have:=hk.size
   exact ⟨by omega,y⟩
 ·intro k h1 b hb1
  obtain ⟨o,h3⟩:=Dh.1 h1
  rcases hcases k o h3 with h5|⟨_,h5,h5'⟩
  ·exact (hb k (Ab h5) b hb1).imp id (hinb b)
  ·have h7:=Ab (Ah h5')
   rw [hold k h7] at hb1
   exact .inr ⟨k,h7,hb1⟩
 ·intro k h1
  rw [F2]
  obtain ⟨o,h3⟩:=Dh.1 h1
  rcases hcases k o h3 with h5|⟨_,h5,h5'⟩
  ·exact .inr ⟨o,by unfold callU;rw [List.mem_append];exact .inr (List.mem_map.2 ⟨(k,o),h5,rfl⟩)⟩
  ·exact .inl (H.kn k (Ab (Ah h5')))
 ·intro k h1
  rw [F2] at h1
  have h2:k∉st1.nm:=λh=>h1 (.inl h)
  by_cases h3:k∈new
  ·have h4:k∉keysO outs:=λh=>by
    obtain ⟨o,ho⟩:=Ba h
    exact h1 (.inr ⟨o,by unfold callU;rw [List.mem_append];exact .inr (List.mem_map.2 ⟨(k,o),ho,rfl⟩)⟩)
   exact absurd (hno k h3) h4
  ·rw [hfr k h3];exact H.nm k h2
theorem Ok {st1:St} {ins:List (Nat×Own)} (hin:∀ k o,(k,o)∈ins→own? st1.own k=some o) :
  Eo (λb=>c.E0 b∨∃ k,k∈keysO st1.own∧k∉keysO ins∧β.blk k=some b) β ins=Eo c.E0 β st1.own:=by
 funext b
 apply propext
 constructor
 ·rintro ((h|⟨k,h1,_,h3⟩)|⟨k,h1,h2⟩)
  ·exact .inl h
  ·exact .inr ⟨k,h1,h3⟩
  ·obtain ⟨o,ho⟩:=Ba h1
   exact .inr ⟨k,Ab (Ah (hin k o ho)),h2⟩
 ·rintro (h|⟨k,h1,h2⟩)
  ·exact .inl (.inl h)
  ·by_cases h3:k∈keysO ins
   ·exact .inr ⟨k,h3,h2⟩
   ·exact .inl (.inr ⟨k,h1,h3,h2⟩)
theorem Mk {st1:St} (H:Aa c β st1 a w) {o:Oper} {dst:Option Nat} {f:FuncId} {args:List V} {ins outs:List (Nat×Own)} {res:V} {new:List Nat} (hS:Aj c.P f args ins res outs new) (hd:o.dst=dst) (hlt:∀ d,dst=some d→d<c.nt) (hno:(keysO ins).Nodup)
  (hin:∀ k o,(k,o)∈ins→own? st1.own k=some o) (hnew:∀ k,k∈new→k∉st1.nm) {vals:Array Value} (hrun:(execOp a.eval o).run c.P w=.ok (.enter f vals) w) (hsz:vals.size=args.length)
  (hv:∀ (j:Nat) (v:Value) (x:V),vals[j]?=some v→args[j]?=some x→Ai β (Eo c.E0 β st1.own) w v x) {Q:Exit→Act→World→Prop} {K:Act→World→Prop}
  (hK:∀ β' a' w',Aa c β' (st1.stp dst { val:=res,upd:=callU ins outs,rd:=keysO ins,new:=new }) a' w'→K a' w'):o.wpIn c.F 0 c.P a w K Q:=by
 obtain ⟨_,hko,hno2,hS⟩:=hS
 have hE:=Ok (c:=c) (β:=β) hin
 have hins:At (λb=>c.E0 b∨∃ k,k∈keysO st1.own∧k∉keysO ins∧β.blk k=some b) β w ins:=by
  have hk:∀ k,k∈keysO ins→k∈keysO st1.own:=λk h=>by
   obtain ⟨o,ho⟩:=Ba h
   exact Ab (Ah (hin k o ho))
  refine ⟨λk o h=>?_,hno,λk k' h1 h2=>H.own.apart k k' (hk k h1) (hk k' h2),λk h b hb=>?_⟩
  ·rw [hE];exact H.own.ok k o (Ah (hin k o h))
  ·obtain ⟨x,y⟩:=H.own.lt k (hk k h) b hb
   refine ⟨x,?_⟩
   rintro (h1|⟨k',h1,h2,h3⟩)
   ·exact y h1
   ·exact H.own.apart k k' (hk k h) h1 (λe=>h2 (e▸h)) b hb h3
 have hcall:=hS (λb=>c.E0 b∨∃ k,k∈keysO st1.own∧k∉keysO ins∧β.blk k=some b) β w vals (by
  rintro b (h|⟨k,h1,_,h3⟩)
  ·have:=c.hE b h
   have:=H.kp.size
   omega
  ·exact (H.own.lt k h1 b h3).1) hsz (by rw [hE];exact hv) hins (λk hk=>H.nm k (hnew k hk))
 refine Oper.wpc_enter hrun (hcall.mono λe w' he=>?_)
 obtain ⟨v,β',rfl,h1,h2,h3,h4,h5,h6⟩:=he
 obtain ⟨H',hEs⟩:=Is H hin hnew hno2 h1 h2 h4 h5 h6
 refine hK β' _ w' ?_
 rw [hd]
 simp only [St.stp]
 cases dst with
 |none=>exact H'
 |some d =>
  refine H'.setV (hlt d rfl) (h3.lasts' (w:=w') (w':=w') (λb hb hE2=>⟨λh=>hE2 (hEs b h),rfl⟩) (A6.le.refl β'))
end
end Go.Bx
end
section
namespace Go.Bx
open Go.RowKit
def hasU:List (Nat×Option Own)→Bool
 |[]=>false
 |_::_=>true
theorem iz {u:List (Nat×Option Own)} (h:hasU u=false):u=[]:=by
 cases u with
 |nil=>rfl
 |cons=>cases h
def El (c:B3) (b:Bool):List I→St→List Lg→(List Lg→St→Prop)→Prop
 |[],st,acc,K=>K acc st
 |⟨d,g,q⟩::is,st,acc,K =>
  if isCall q=true then TR c b (⟨d,g,q⟩::is) st acc K
  else match g with
   |none=>(opR st true (d.getD 0) q).side∧El c b is (st.stp d ((opR st true (d.getD 0) q).stp (newOf q (d.getD 0)))) (lgs b acc (((opR st true (d.getD 0) q).stp (newOf q (d.getD 0))).lg)) K
   |some (s,want) =>
    match gOf st.env s want with
    |none=>False
    |some gc =>
     if hasU (opR st true (d.getD 0) q).upd=true then
      (gc=true→(opR st true (d.getD 0) q).side∧El c b is (st.stp d ((opR st true (d.getD 0) q).stp (newOf q (d.getD 0)))) (lgs b acc (((opR st true (d.getD 0) q).stp (newOf q (d.getD 0))).lg)) K) ∧
      (gc=false→El c b is (st.stp d { val:=.un,upd:=[],rd:=[],new:=[] }) (lgs b acc ⟨[],[]⟩) K)
     else
      (gc=true→(opR st gc (d.getD 0) q).side)∧(makes q=true→d.getD 0∉st.nm)∧El c b is (st.stp d { val:=.gd gc (opR st true (d.getD 0) q).val,upd:=[],rd:=(opR st true (d.getD 0) q).rd,new:=newOf q (d.getD 0) }) (lgs b acc ⟨(opR st true (d.getD 0) q).rd,newOf q (d.getD 0)⟩) K
section
variable {c:B3} {b:Bool} {is:List I} {st:St} {acc:List Lg} {K:List Lg→St→Prop}
theorem vcR_nil:El c b [] st acc K=K acc st:=propext ⟨λh=>h,λh=>h⟩
theorem Q9 {d:Option Nat} {g:Option (Nat×Bool)} {q:O} (h:isCall q=true):El c b (⟨d,g,q⟩::is) st acc K=TR c b (⟨d,g,q⟩::is) st acc K:=by
 simp only [El,h,if_true]
theorem Yl {d:Option Nat} {q:O} (h:isCall q=false):El c b (⟨d,none,q⟩::is) st acc K =
  ((opR st true (d.getD 0) q).side∧El c b is (st.stp d ((opR st true (d.getD 0) q).stp (newOf q (d.getD 0)))) (lgs b acc (((opR st true (d.getD 0) q).stp (newOf q (d.getD 0))).lg)) K):=by
 simp only [El,h,Bool.false_eq_true,if_false]
theorem vcR_n {d:Option Nat} {q:O}:El c b (⟨d,none,q⟩::is) st acc K=if isCall q=true then TR c b (⟨d,none,q⟩::is) st acc K else
  ((opR st true (d.getD 0) q).side∧El c b is (st.stp d ((opR st true (d.getD 0) q).stp (newOf q (d.getD 0)))) (lgs b acc (((opR st true (d.getD 0) q).stp (newOf q (d.getD 0))).lg)) K):=by
 by_cases h:isCall q=true
 ·rw [Q9 h,if_pos h]
 ·rw [Yl (by simpa using h),if_neg h]
theorem vcR_s {d:Option Nat} {q:O} {s:Nat} {want:Bool}:El c b (⟨d,some (s,want),q⟩::is) st acc K=if isCall q=true then TR c b (⟨d,some (s,want),q⟩::is) st acc K else
    (match gOf st.env s want with
     |none=>False
     |some gc=>if hasU (opR st true (d.getD 0) q).upd=true then
         (gc=true→(opR st true (d.getD 0) q).side∧El c b is (st.stp d ((opR st true (d.getD 0) q).stp (newOf q (d.getD 0)))) (lgs b acc (((opR st true (d.getD 0) q).stp (newOf q (d.getD 0))).lg)) K) ∧
            (gc=false→El c b is (st.stp d { val:=.un,upd:=[],rd:=[],new:=[] }) (lgs b acc ⟨[],[]⟩) K)
       else (gc=true→(opR st gc (d.getD 0) q).side)∧(makes q=true→d.getD 0∉st.nm)∧El c b is (st.stp d { val:=.gd gc (opR st true (d.getD 0) q).val,upd:=[],rd:=(opR st true (d.getD 0) q).rd,new:=newOf q (d.getD 0) }) (lgs b acc ⟨(opR st true (d.getD 0) q).rd,newOf q (d.getD 0)⟩) K):=by
  simp only [El]
theorem K2 {ops:Array Oper} {o:Oper} {d:Option Nat} {s:Nat} {want:Bool} {q:O} (hc:mf c ops o ⟨d,some (s,want),q⟩):∃ j,o.guard=some (j,want)∧(ops[j]?).bind (·.dst)=some s:=by
 have hcg:=hc.gd
 cases hgo:o.guard with
 |none=>simp only [hgo] at hcg;cases hcg
 |some jw =>
  obtain ⟨j,w'⟩:=jw
  simp only [hgo] at hcg
  obtain ⟨s',hs',e⟩:=hcg
  injection e with e;injection e with e1 e2
  exact ⟨j,by rw [e2],by rw [hs',e1]⟩
theorem Hp {st st1:St} {d:Option Nat} {s:Nat} {want:Bool} {q:O} (h:∀ k,k∈(I.slots ⟨d,some (s,want),q⟩)→get st1.env k=get st.env k):gOf st1.env s want=gOf st.env s want:=by
 unfold gOf
 rw [h s (by simp [I.slots])]
theorem K7 {d:Option Nat} {s:Nat} {want:Bool} {q:O} (hg:gOf st.env s want=some true) {sp:Stp} (h:D0 c ⟨d,none,q⟩ st sp):D0 c ⟨d,some (s,want),q⟩ st sp:=by
 intro st1 h1 h2 h3 ops o hc β a w H Q K hK
 obtain ⟨j,hgo,hj⟩:=K2 hc
 have hw:=Gj H hgo hj (by rw [Hp h1];exact hg)
 rw [if_pos hw]
 have:=h st1 (λk hk=>h1 k (by simp [I.slots] at hk ⊢;exact .inr hk)) h2 h3 (o:={ o with guard:=none }) ops ⟨hc.dst,hc.lt,hc.op,hc.mkk,hc.st,rfl⟩ β a w H Q K hK
 rw [if_pos (by simp [Region.wanted])] at this
 exact this
theorem S6 {d:Option Nat} {s:Nat} {want:Bool} {q:O} (hg:gOf st.env s want=some false):D0 c ⟨d,some (s,want),q⟩ st { val:=.un,upd:=[],rd:=[],new:=[] }:=by
 intro st1 h1 h2 h3 ops o hc β a w H Q K hK
 obtain ⟨j,hgo,hj⟩:=K2 hc
 have hw:=Gj H hgo hj (by rw [Hp h1];exact hg)
 rw [if_neg (by rw [hw];simp)]
 have hdst:=hc.dst
 simp only at hdst
 refine hK β _ w ?_
 rw [hdst]
 simp only [St.stp,applyU,newN]
 cases d with
 |none=>exact H
 |some d'=>exact H.setV (hc.lt d' rfl) (.un _)
theorem O6 {d:Nat} {q:O} {p:Bool} (hs:(opR st p d q).side):∀ k,k∈newOf q d→k∉st.nm:=λk hk=>by
 unfold newOf at hk
 split at hk
 ·rename_i hm
  simp at hk
  subst hk
  exact da hs hm
 ·simp at hk
theorem C1:∀ {is:List I} {st:St} {acc:List Lg},El c b is st acc K→TR c b is st acc K
 |[],st,acc,h=>TR.nil h
 |⟨d,g,q⟩::is,st,acc,h=>by
  by_cases hq:isCall q=true
  ·rw [Q9 hq] at h;exact h
  ·have hq':isCall q=false:=by simpa using hq
   cases g with
   |none =>
    rw [Yl hq'] at h
    obtain ⟨h1,h2⟩:=h
    exact TR.cons _ (Wf hq' h1) (O6 h1) (C1 h2)
   |some g =>
    obtain ⟨s,want⟩:=g
    rw [vcR_s,if_neg hq] at h
    split at h
    ·exact h.elim
    ·rename_i gc hg
     by_cases hm:hasU (opR st true (d.getD 0) q).upd=true
     ·rw [if_pos hm] at h
      cases gc with
      |true =>
       obtain ⟨h1,h2⟩:=h.1 rfl
       exact TR.cons _ (K7 hg (Wf hq' h1)) (O6 h1) (C1 h2)
      |false=>exact TR.cons _ (S6 hg) (λk hk=>by simp at hk) (C1 (h.2 rfl))
     ·rw [if_neg hm] at h
      obtain ⟨h1,h2,h3⟩:=h
      refine TR.cons _ (iq hq' hg h1 (iz (by simpa using hm))) (λk hk=>?_) (C1 h3)
      unfold newOf at hk
      split at hk
      ·rename_i hmm
       simp at hk
       subst hk
       exact h2 hmm
      ·simp at hk
theorem Ie {K':List Lg→St→Prop} (hk:∀ acc st,K acc st→K' acc st):∀ {is:List I} {st:St} {acc:List Lg},El c b is st acc K→El c b is st acc K'
 |[],st,acc,h=>hk _ _ h
 |⟨d,g,q⟩::is,st,acc,h=>by
  by_cases hq:isCall q=true
  ·rw [Q9 hq] at h ⊢;exact h.mono hk
  ·have hq':isCall q=false:=by simpa using hq
   cases g with
   |none =>
    rw [Yl hq'] at h ⊢
    exact ⟨h.1,Ie hk h.2⟩
   |some g =>
    obtain ⟨s,want⟩:=g
    rw [vcR_s,if_neg hq] at h ⊢
    split at h
    ·exact h.elim
    ·rename_i gc hg
     by_cases hm:hasU (opR st true (d.getD 0) q).upd=true
     ·rw [if_pos hm] at h
      simp only [hm,if_true]
      exact ⟨λe=>⟨(h.1 e).1,Ie hk (h.1 e).2⟩,λe=>Ie hk (h.2 e)⟩
     ·rw [if_neg hm] at h
      simp only [hm]
      exact ⟨h.1,h.2.1,Ie hk h.2.2⟩
theorem Lw {P:Program} {cl:Call} {f:FuncId} {xs:List X} (h:Jq P cl=some (.call f xs)):cl.callee=.value (.func f)∧V5 cl.args.toList=some xs:=by
 unfold Jq at h
 split at h
 ·unfold Gt at h
  (repeat' split at h)<;>first|(cases h;done)|(obtain ⟨_,_,h3⟩:=Option.map_eq_some_iff.1 h;cases h3;done)
 ·rename_i f' hf
  obtain ⟨ys,h1,h2⟩:=Option.map_eq_some_iff.1 h
  cases h2
  exact ⟨hf,h1⟩
 ·split at h<;>cases h
 ·split at h<;>cases h
theorem Sk {P:Program} {cl:Call} {x:X} {xs:List X} (h:Jq P cl=some (.callv x xs)):∃ ox,cl.callee=.value ox∧cX ox=some x∧V5 cl.args.toList=some xs:=by
 unfold Jq at h
 split at h
 ·unfold Gt at h
  (repeat' split at h)<;>first|(cases h;done)|(obtain ⟨_,_,h3⟩:=Option.map_eq_some_iff.1 h;cases h3;done)
 ·obtain ⟨ys,h1,h2⟩:=Option.map_eq_some_iff.1 h
  cases h2
 ·rename_i ox hne hcl
  split at h
  ·rename_i y ys h1 h2
   cases h
   exact ⟨_,hcl,h1,h2⟩
  ·cases h
 ·split at h<;>cases h
theorem So {P:Program} {cl:Call} {m:String} {x:X} {xs:List X} (h:Jq P cl=some (.ivk m x xs)):∃ ox,cl.callee=.invoke ox m∧cX ox=some x∧V5 cl.args.toList=some xs:=by
 unfold Jq at h
 split at h
 ·unfold Gt at h
  (repeat' split at h)<;>first|(cases h;done)|(obtain ⟨_,_,h3⟩:=Option.map_eq_some_iff.1 h;cases h3;done)
 ·obtain ⟨ys,h1,h2⟩:=Option.map_eq_some_iff.1 h
  cases h2
 ·split at h<;>cases h
 ·rename_i ox m' hcl
  split at h
  ·rename_i y ys h1 h2
   cases h
   exact ⟨_,hcl,h1,h2⟩
  ·cases h
theorem Gy {P:Program} {o:Oper} {q:O} (h:sa P o=some q) (hq:isCall q=true) (hna:∀ sz n x,q≠.asl sz n x) (hnp:∀ x,q≠.pnc x:=by simp):∃ cl,o.op=.call cl∧Jq P cl=some q:=by
 replace h:=pq h (by rintro rfl;simp [isCall] at hq)
 unfold Vm at h
 split at h
 case h_22=>rename_i cl ho;exact ⟨cl,ho,h⟩
 all_goals (try (obtain ⟨y,_,rfl⟩:=Option.map_eq_some_iff.1 h;first|(simp [isCall] at hq;done)|exact absurd rfl (hnp _)))
 all_goals ((repeat' split at h)<;>first|(cases h;simp [isCall] at hq;done)|(cases h;done)|(cases h;exact absurd rfl (hna _ _ _))|(obtain ⟨y,_,rfl⟩:=Option.map_eq_some_iff.1 h;simp [isCall] at hq;done))
theorem vp {P:Program} {o:Oper} {sz n:Nat} {x:X} (h:sa P o=some (.asl sz n x)):∃ t e ox,o.op=.slice t ox none none none∧P.underlying t=some (.array n e)∧Hm P e=some sz∧cX ox=some x:=by
 replace h:=pq h (by intro e;cases e)
 unfold Vm at h
 split at h
 case h_21 =>
  rename_i t ox lo hi mx ho
  split at h
  ·split at h<;>cases h
  ·rename_i n' e x' ht hx
   split at h
   ·rename_i sz' hz
    cases h
    exact ⟨t,e,ox,ho,ht,hz,hx⟩
   ·cases h
  ·cases h
 case h_22 =>
  rename_i cl ho
  unfold Jq at h
  split at h
  ·unfold Gt at h
   (repeat' split at h)<;>first|(cases h;done)|(obtain ⟨_,_,h3⟩:=Option.map_eq_some_iff.1 h;cases h3;done)
  ·obtain ⟨_,_,h3⟩:=Option.map_eq_some_iff.1 h;cases h3
  ·split at h<;>cases h
  ·split at h<;>cases h
 all_goals (try (obtain ⟨_,_,h3⟩:=Option.map_eq_some_iff.1 h;cases h3;done))
 all_goals ((repeat' split at h)<;>first|(cases h;done)|(obtain ⟨_,_,h3⟩:=Option.map_eq_some_iff.1 h;cases h3;done))
theorem Ha {d:Option Nat} {g:Option (Nat×Bool)} {f:Nat} {xs:List X}:∀ k,k∈Bc xs→k∈(I.slots ⟨d,g,.call f xs⟩):=λk hk=>by simp [I.slots,O.slots,hk]
theorem Ix {d:Option Nat} {f:Nat} {xs:List X} {ins outs:List (Nat×Own)} {res:V} {new:List Nat} (hS:Aj c.P f (evVs st xs) ins res outs new) (hs:evSs true st xs)
  (hin:∀ k o,(k,o)∈ins→own? st.own k=some o) (hno:(keysO ins).Nodup):D0 c ⟨d,none,.call f xs⟩ st { val:=res,upd:=callU ins outs,rd:=keysO ins,new:=new }:=by
 intro st1 h1 h2 h3 ops o hc β a w H Q K hK
 have hcg:=hc.gd
 have hg:o.guard=none:=by
  cases hg:o.guard with
  |none=>rfl
  |some jw=>simp only [hg] at hcg;obtain ⟨s,_,h⟩:=hcg;cases h
 rw [if_pos (by simp [Region.wanted,hg])]
 have hsl:∀ k,k∈Bc xs→get st1.env k=get st.env k:=λk hk=>h1 k (Ha k hk)
 have e1:=Cj hsl
 have e2:=Cn (p:=true) hsl
 obtain ⟨cl,hcl,hcc⟩:=Gy hc.op rfl (by simp)
 obtain ⟨h4,h5⟩:=Lw hcc
 obtain ⟨q1,q2⟩:=Ee H h5 (by rw [e2];exact hs)
 rw [e1] at q1 q2
 have hrun:(execOp a.eval o).run c.P w=.ok (.enter f (cl.args.map a.eval)) w:=by
  have hcf:=Ct (w:=w) hS.1 (cl.args.map a.eval)
  simp [execOp,hcl,resolve,h4,Act.eval,Deferred.ofValue,invoke,hcf]
 exact Mk H hS hc.dst hc.lt hno (λk o h=>by rw [h2 k (Ab h)];exact hin k o h) h3 hrun (by simpa using q1) (λj v x hv hx=>q2 j v x (by simpa using hv) hx) hK
theorem Fq {d:Option Nat} {x:X} {f:Nat} {first cap:List V} {xs:List X} {ins outs:List (Nat×Own)} {res:V} {new:List Nat} (hx:evV st x=.fn (.func f) first cap) (hS:Aj c.P f (first++(evVs st xs++cap)) ins res outs new) (hsx:evS true st x) (hs:evSs true st xs)
  (hin:∀ k o,(k,o)∈ins→own? st.own k=some o) (hno:(keysO ins).Nodup):D0 c ⟨d,none,.callv x xs⟩ st { val:=res,upd:=callU ins outs,rd:=keysO ins,new:=new }:=by
 intro st1 h1 h2 h3 ops o hc β a w H Q K hK
 have hcg:=hc.gd
 have hg:o.guard=none:=by
  cases hg:o.guard with
  |none=>rfl
  |some jw=>simp only [hg] at hcg;obtain ⟨s,_,h⟩:=hcg;cases h
 rw [if_pos (by simp [Region.wanted,hg])]
 have hsl:∀ k,k∈Bc xs→get st1.env k=get st.env k:=λk hk=>h1 k (by simp [I.slots,O.slots,hk])
 have hslx:∀ k,k∈x.slots→get st1.env k=get st.env k:=λk hk=>h1 k (by simp [I.slots,O.slots,hk])
 have e1:=Cj hsl
 have e2:=Cn (p:=true) hsl
 obtain ⟨cl,hcl,hcc⟩:=Gy hc.op rfl (by simp)
 obtain ⟨ox,h4,hox,h5⟩:=Sk hcc
 obtain ⟨q1,q2⟩:=Ee H h5 (by rw [e2];exact hs)
 rw [e1] at q1 q2
 have hv0:=Ad H hox (by rw [An hslx];exact hsx)
 rw [Am hslx,hx] at hv0
 generalize hu:a.eval ox=u at *
 cases hv0 with
 |fn _ fi ca _ _ g1 g2 r1 r2 =>
  have hrun:(execOp a.eval o).run c.P w=.ok (.enter f (fi++cl.args.map a.eval++ca)) w:=by
   have hcf:=Ct (w:=w) hS.1 (fi++cl.args.map a.eval++ca)
   simp only [execOp,hcl,resolve,h4,hu,Deferred.ofValue,invoke,Sem.run_bind,Sem.run_pure,Result.andThen_ok]
   exact hcf
  have hl:cl.args.size=(evVs st xs).length:=by simpa using q1
  refine Mk H hS hc.dst hc.lt hno (λk o h=>by rw [h2 k (Ab h)];exact hin k o h) h3 hrun (by simp;omega) (λj v y hv hy=>?_) hK
  have hv':(fi.toList++(cl.args.toList.map a.eval++ca.toList))[j]?=some v:=by
   rw [←Array.getElem?_toList] at hv
   simpa using hv
  by_cases hj:j<first.length
  ·rw [List.getElem?_append_left (by simp;omega)] at hv'
   rw [List.getElem?_append_left hj] at hy
   exact r1 j v y (by simpa using hv') hy
  ·rw [List.getElem?_append_right (by simp;omega)] at hv'
   rw [List.getElem?_append_right (by omega)] at hy
   simp only [Array.length_toList,g1] at hv'
   by_cases hj2:j-first.length<(evVs st xs).length
   ·rw [List.getElem?_append_left (by simp;omega)] at hv'
    rw [List.getElem?_append_left hj2] at hy
    exact q2 _ v y hv' hy
   ·rw [List.getElem?_append_right (by simp;omega)] at hv'
    rw [List.getElem?_append_right (by omega)] at hy
    simp only [List.length_map,Array.length_toList,hl] at hv'
    exact r2 _ v y (by simpa using hv') hy
theorem dh {d:Option Nat} {sz n:Nat} {x:X} {cs:List D} (hx:evV st x=.mem cs) (hs:evS true st x) (hl:n*sz≤cs.length):D0 c ⟨d,none,.asl sz n x⟩ st { val:=.d (.sl true sz n (litRow sz cs)),upd:=[],rd:=[],new:=[] }:=by
 intro st1 h1 h2 h3 ops o hc β a w H Q K hK
 have hcg:=hc.gd
 have hg:o.guard=none:=by
  cases hg:o.guard with
  |none=>rfl
  |some jw=>simp only [hg] at hcg;obtain ⟨s,_,h⟩:=hcg;cases h
 rw [if_pos (by simp [Region.wanted,hg])]
 obtain ⟨t,e,ox,ho,ht,hz,hcx⟩:=vp hc.op
 have hsl:∀ k,k∈x.slots→get st1.env k=get st.env k:=λk hk=>h1 k (by simp [I.slots,O.slots,hk])
 have hx1:evV st1 x=.mem cs:=(Am hsl).trans hx
 have hdst:=hc.dst
 simp only at hdst
 obtain ⟨v,w',β',hr,_,H'⟩:=s_asl (d:=0) H (λd hd=>hc.lt d (hdst▸hd)) ho ht hz hcx (by simp only [opR,hx1];exact ⟨by rw [An hsl];exact hs,hl⟩)
 refine Oper.wp_ok hr (hK β' _ w' ?_)
 rw [hdst] at H' ⊢
 simp only [opR,hx1] at H'
 simpa [St.app,St.stp] using H'
theorem Hk {d:Option Nat} {s:Nat} {want gc:Bool} {q:O} {res:V} (hg:gOf st.env s want=some gc) (h:gc=true→D0 c ⟨d,none,q⟩ st { val:=res,upd:=[],rd:=[],new:=[] }) :
  D0 c ⟨d,some (s,want),q⟩ st { val:=.gd gc res,upd:=[],rd:=[],new:=[] }:=by
 intro st1 h1 h2 h3 ops o hc β a w H Q K hK
 cases gc with
 |true =>
  refine K7 hg (h rfl) st1 h1 h2 h3 ops o hc β a w H Q K (λβ' a' w' H'=>hK β' a' w' ?_)
  simp only [St.stp,applyU,newN] at H' ⊢
  cases d with
  |none=>exact H'
  |some d' =>
   simp only [setE] at H' ⊢
   refine ⟨H'.sz,H'.df,λs'=>?_,H'.own,H'.fr,H'.kn,H'.nm,H'.kp,H'.fx⟩
   have h5:=H'.env s'
   simp only [get] at h5 ⊢
   split
   ·rename_i e
    rw [if_pos e] at h5
    exact .gd _ _ _ (λ_=>h5) (λh=>by cases h)
   ·rename_i e
    rw [if_neg e] at h5
    exact h5
 |false =>
  obtain ⟨j,hgo,hj⟩:=K2 hc
  have hw:=Gj H hgo hj (by rw [Hp h1];exact hg)
  rw [if_neg (by rw [hw];simp)]
  have hdst:=hc.dst
  simp only at hdst
  refine hK β _ w ?_
  rw [hdst]
  simp only [St.stp,applyU,newN]
  cases d with
  |none=>exact H
  |some d'=>exact H.setV (hc.lt d' rfl) (.gd _ _ _ (λh=>by cases h) (λ_=>rfl))
theorem TR.call {d:Option Nat} {f:Nat} {xs:List X} (ins outs:List (Nat×Own)) (res:V) (new:List Nat) (hS:Aj c.P f (evVs st xs) ins res outs new) (hs:evSs true st xs) (hin:∀ k o,(k,o)∈ins→own? st.own k=some o) (hno:(keysO ins).Nodup) (hnew:∀ k,k∈new→k∉st.nm)
  (h:El c b is (st.stp d { val:=res,upd:=callU ins outs,rd:=keysO ins,new:=new }) (lgs b acc ⟨keysO ins,(callU ins outs).map (·.1)++new⟩) K):TR c b (⟨d,none,.call f xs⟩::is) st acc K:=
 TR.cons _ (Ix hS hs hin hno) hnew (C1 h)
theorem TR.pure {d:Option Nat} {f:Nat} {xs:List X} {res:V} (hS:Aj c.P f (evVs st xs) [] res [] []) (hs:evSs true st xs)
  (h:El c b is (st.stp d { val:=res,upd:=[],rd:=[],new:=[] }) (lgs b acc ⟨[],[]⟩) K):TR c b (⟨d,none,.call f xs⟩::is) st acc K:=
 TR.cons { val:=res,upd:=[],rd:=[],new:=[] } (Ix hS hs (λk o h=>by simp at h) (by simp [keysO])) (λk hk=>by simp at hk) (C1 h)
theorem TR.callv {d:Option Nat} {x:X} {f:Nat} {first cap:List V} {xs:List X} (ins outs:List (Nat×Own)) (res:V) (new:List Nat) (hx:evV st x=.fn (.func f) first cap) (hS:Aj c.P f (first++(evVs st xs++cap)) ins res outs new) (hsx:evS true st x) (hs:evSs true st xs) (hin:∀ k o,(k,o)∈ins→own? st.own k=some o) (hno:(keysO ins).Nodup) (hnew:∀ k,k∈new→k∉st.nm)
  (h:El c b is (st.stp d { val:=res,upd:=callU ins outs,rd:=keysO ins,new:=new }) (lgs b acc ⟨keysO ins,(callU ins outs).map (·.1)++new⟩) K):TR c b (⟨d,none,.callv x xs⟩::is) st acc K:=
 TR.cons _ (Fq hx hS hsx hs hin hno) hnew (C1 h)
theorem TR.gpure {d:Option Nat} {s:Nat} {want gc:Bool} {f:Nat} {xs:List X} {res:V} (hg:gOf st.env s want=some gc) (hS:gc=true→Aj c.P f (evVs st xs) [] res [] []) (hs:gc=true→evSs true st xs)
  (h:El c b is (st.stp d { val:=.gd gc res,upd:=[],rd:=[],new:=[] }) (lgs b acc ⟨[],[]⟩) K):TR c b (⟨d,some (s,want),.call f xs⟩::is) st acc K:=
 TR.cons { val:=.gd gc res,upd:=[],rd:=[],new:=[] } (Hk hg λhgc=>Ix (hS hgc) (hs hgc) (λk o h=>by simp at h) (by simp [keysO])) (λk hk=>by simp at hk) (C1 h)
theorem TR.p {P:Program} (hP:c.P=P) {d:Option Nat} {f:Nat} {xs:List X} {res:V} (hS:Aj P f (evVs st xs) [] res [] []) (hs:evSs true st xs)
  (h:El c b is (st.stp d { val:=res,upd:=[],rd:=[],new:=[] }) (lgs b acc ⟨[],[]⟩) K):TR c b (⟨d,none,.call f xs⟩::is) st acc K:=
 TR.pure (by rw [hP];exact hS) hs h
theorem TR.gp {P:Program} (hP:c.P=P) {d:Option Nat} {s:Nat} {want gc:Bool} {f:Nat} {xs:List X} {res:V} (hg:gOf st.env s want=some gc) (hS:gc=true→Aj P f (evVs st xs) [] res [] []) (hs:gc=true→evSs true st xs)
  (h:El c b is (st.stp d { val:=.gd gc res,upd:=[],rd:=[],new:=[] }) (lgs b acc ⟨[],[]⟩) K):TR c b (⟨d,some (s,want),.call f xs⟩::is) st acc K:=
 TR.gpure hg (λe=>by rw [hP];exact hS e) hs h
theorem TR.pv {P:Program} (hP:c.P=P) {d:Option Nat} {x:X} {f:Nat} {first cap:List V} {xs:List X} {res:V} (hx:evV st x=.fn (.func f) first cap) (hS:Aj P f (first++(evVs st xs++cap)) [] res [] []) (hsx:evS true st x) (hs:evSs true st xs)
  (h:El c b is (st.stp d { val:=res,upd:=[],rd:=[],new:=[] }) (lgs b acc ⟨[],[]⟩) K):TR c b (⟨d,none,.callv x xs⟩::is) st acc K:=
 TR.cons { val:=res,upd:=[],rd:=[],new:=[] } (Fq hx (by rw [hP];exact hS) hsx hs (λk o h=>by simp at h) (by simp [keysO])) (λk hk=>by simp at hk) (C1 h)
theorem TR.c1 {P:Program} (hP:c.P=P) {d:Option Nat} {f:Nat} {xs:List X} {k:Nat} {o o':Own} {res:V} (hS:Aj P f (evVs st xs) [(k,o)] res [(k,o')] []) (hs:evSs true st xs) (hin:own? st.own k=some o)
  (h:El c b is (st.stp d { val:=res,upd:=[(k,none),(k,some o')],rd:=[k],new:=[] }) (lgs b acc ⟨[k],[k,k]⟩) K):TR c b (⟨d,none,.call f xs⟩::is) st acc K:=
 TR.call [(k,o)] [(k,o')] res [] (by rw [hP];exact hS) hs (λk' o'' h=>by simp at h;obtain ⟨rfl,rfl⟩:=h;exact hin) (by simp [keysO]) (by simp) h
theorem TR.cv1 {P:Program} (hP:c.P=P) {d:Option Nat} {x:X} {f:Nat} {first cap:List V} {xs:List X} {k:Nat} {o o':Own} {res:V} (hx:evV st x=.fn (.func f) first cap) (hS:Aj P f (first++(evVs st xs++cap)) [(k,o)] res [(k,o')] []) (hsx:evS true st x) (hs:evSs true st xs) (hin:own? st.own k=some o)
  (h:El c b is (st.stp d { val:=res,upd:=[(k,none),(k,some o')],rd:=[k],new:=[] }) (lgs b acc ⟨[k],[k,k]⟩) K):TR c b (⟨d,none,.callv x xs⟩::is) st acc K:=
 TR.callv [(k,o)] [(k,o')] res [] hx (by rw [hP];exact hS) hsx hs (λk' o'' h=>by simp at h;obtain ⟨rfl,rfl⟩:=h;exact hin) (by simp [keysO]) (by simp) h
theorem TR.asl {d:Option Nat} {sz n:Nat} {x:X} {cs:List D} (hx:evV st x=.mem cs) (hs:evS true st x) (hl:n*sz≤cs.length)
  (h:El c b is (st.stp d { val:=.d (.sl true sz n (litRow sz cs)),upd:=[],rd:=[],new:=[] }) (lgs b acc ⟨[],[]⟩) K):TR c b (⟨d,none,.asl sz n x⟩::is) st acc K:=
 TR.cons { val:=.d (.sl true sz n (litRow sz cs)),upd:=[],rd:=[],new:=[] } (dh hx hs hl) (λk hk=>by simp at hk) (C1 h)
theorem TR.split {d:Option Nat} {s:Nat} {want gc:Bool} {q:O} (sp:Stp) (hg:gOf st.env s want=some gc) (hv:gc=true→D0 c ⟨d,none,q⟩ st sp) (hn:gc=true→∀ k,k∈sp.new→k∉st.nm)
  (h1:gc=true→El c b is (st.stp d sp) (lgs b acc sp.lg) K) (h2:gc=false→El c b is (st.stp d { val:=.un,upd:=[],rd:=[],new:=[] }) (lgs b acc ⟨[],[]⟩) K):TR c b (⟨d,some (s,want),q⟩::is) st acc K:=by
 cases gc with
 |true=>exact TR.cons sp (K7 hg (hv rfl)) (hn rfl) (C1 (h1 rfl))
 |false=>exact TR.cons _ (S6 hg) (λk hk=>by simp at hk) (C1 (h2 rfl))
end
end Go.Bx
end
section
namespace Go.Bx
open Go.RowKit
structure Ud (a b:St):Prop where
 env:∀ s,get a.env s=get b.env s
 own:∀ k,own? a.own k=own? b.own k
 nm:∀ k,k∈a.nm↔k∈b.nm
theorem Ud.refl (a:St):Ud a a:=⟨λ_=>rfl,λ_=>rfl,λ_=>Iff.rfl⟩
theorem Ud.trans {a b c:St} (h:Ud a b) (k:Ud b c):Ud a c:=⟨λs=>(h.env s).trans (k.env s),λs=>(h.own s).trans (k.own s),λs=>(h.nm s).trans (k.nm s)⟩
theorem Ud.symm {a b:St} (h:Ud a b):Ud b a:=⟨λs=>(h.env s).symm,λs=>(h.own s).symm,λs=>(h.nm s).symm⟩
theorem Aa.ext {c:B3} {β:A6} {st st1:St} {a:Act} {w:World} (H:Aa c β st a w) (h:Ud st st1) (hn:(keysO st1.own).Nodup):Aa c β st1 a w:=by
 have hk:∀ k,k∈keysO st1.own↔k∈keysO st.own:=λk=>by rw [Dh,Dh,h.own k]
 have hE:Eo c.E0 β st1.own=Eo c.E0 β st.own:=by
  funext b
  apply propext
  unfold Eo
  simp only [hk]
 refine ⟨H.sz,H.df,λs=>by rw [hE,←h.env s];exact H.env s,⟨λk o ho=>?_,hn,λk k' h1 h2=>H.own.apart k k' ((hk k).1 h1) ((hk k').1 h2),λk h1=>H.own.lt k ((hk k).1 h1)⟩,λk h1=>H.fr k ((hk k).1 h1),λk h1=>(h.nm k).1 (H.kn k ((hk k).1 h1)),λk h1=>H.nm k (λh2=>h1 ((h.nm k).1 h2)),H.kp,λk hk=>⟨(h.nm k).1 (H.fx k hk).1,(H.fx k hk).2⟩⟩
 rw [hE]
 exact H.own.ok k o (Ah ((h.own k).trans (Ay hn ho)))
def Nw:List (Nat×Option Own)→Nat→Option (Option Own)
 |[],_=>none
 |(k,o)::l,n =>
  match Nw l n with
  |some r=>some r
  |none=>if k=n then some o else none
theorem Cd:∀ (u:List (Nat×Option Own)) {l:List (Nat×Own)},(keysO l).Nodup→∀ k,own? (applyU l u) k=(match Nw u k with|some r=>r|none=>own? l k)
 |[],_,_,_=>rfl
 |(k0,some o)::u,l,h,k=>by
  simp only [applyU,Nw]
  rw [Cd u (Gv h),Af]
  cases hl:Nw u k with
  |some r=>rfl
  |none =>
   by_cases e:k0=k
   ·rw [if_pos e.symm,if_pos e]
   ·rw [if_neg (λx=>e x.symm),if_neg e]
 |(k0,none)::u,l,h,k=>by
  simp only [applyU,Nw]
  rw [Cd u (Eh h),Sz h]
  cases hl:Nw u k with
  |some r=>rfl
  |none =>
   by_cases e:k0=k
   ·rw [if_pos e.symm,if_pos e]
   ·rw [if_neg (λx=>e x.symm),if_neg e]
theorem Lu {u:List (Nat×Option Own)} {k:Nat} (h:k∉u.map (·.1)):Nw u k=none:=by
 induction u with
 |nil=>rfl
 |cons p u ih =>
  obtain ⟨k0,o⟩:=p
  simp only [List.map_cons,List.mem_cons,not_or] at h
  simp only [Nw,ih h.2]
  rw [if_neg (λe=>h.1 e.symm)]
theorem Mv (env:List (Nat×V)) (d:Option Nat) (v:V) (s:Nat):get (setE env d v) s=if d=some s then v else get env s:=by
 cases d with
 |none=>simp [setE]
 |some d=>simp only [setE,get,Option.some.injEq]
abbrev Steps:=List (Option Nat×Stp)
def C6 (L:Nat→Bool):Nat→List (Option Nat×Stp)→St→St
 |_,[],st=>st
 |j,(d,s)::l,st=>C6 L (j+1) l (if L j then st.stp d s else st)
theorem D9 {st:St} {d:Option Nat} {s:Stp} (h:(keysO st.own).Nodup):(keysO (st.stp d s).own).Nodup:=Dk _ h
theorem Ln (L:Nat→Bool):∀ (l:List (Option Nat×Stp)) (j:Nat) (st:St),(keysO st.own).Nodup→(keysO (C6 L j l st).own).Nodup
 |[],_,_,h=>h
 |(d,s)::l,j,st,h=>by
  simp only [C6]
  refine Ln L l (j+1) _ ?_
  split
  ·exact D9 h
  ·exact h
theorem sy {a b:St} (h:Ud a b) (ha:(keysO a.own).Nodup) (hb:(keysO b.own).Nodup) (d:Option Nat) (s:Stp):Ud (a.stp d s) (b.stp d s):=
 ⟨λk=>by simp only [St.stp,Mv,h.env k],λk=>by simp only [St.stp,Cd _ ha,Cd _ hb,h.own k],λk=>by simp only [St.stp,F2,h.nm k]⟩
theorem P3 (L:Nat→Bool):∀ (l:List (Option Nat×Stp)) (j:Nat) {a b:St},Ud a b→(keysO a.own).Nodup→(keysO b.own).Nodup→Ud (C6 L j l a) (C6 L j l b)
 |[],_,_,_,h,_,_=>h
 |(d,s)::l,j,a,b,h,ha,hb=>by
  simp only [C6]
  split
  ·exact P3 L l (j+1) (sy h ha hb d s) (D9 ha) (D9 hb)
  ·exact P3 L l (j+1) h ha hb
theorem js {st:St} (hn:(keysO st.own).Nodup) {d1 d2:Option Nat} {s1 s2:Stp} (hd:∀ x,d1=some x→d2≠some x) (hu:∀ k,k∈s1.upd.map (·.1)→k∉s2.upd.map (·.1)) :
  Ud ((st.stp d1 s1).stp d2 s2) ((st.stp d2 s2).stp d1 s1):=by
 refine ⟨λk=>?_,λk=>?_,λk=>?_⟩
 ·simp only [St.stp,Mv]
  by_cases h1:d1=some k
  ·have:=hd k h1
   simp [h1,this]
  ·simp [h1]
 ·simp only [St.stp]
  rw [Cd _ (Dk _ hn),Cd _ hn,Cd _ (Dk _ hn),Cd _ hn]
  by_cases h1:k∈s1.upd.map (·.1)
  ·rw [Lu (hu k h1)]
  ·rw [Lu h1]
 ·simp only [St.stp,F2]
  constructor
  ·rintro ((h|h)|h)
   ·exact .inl (.inl h)
   ·exact .inr h
   ·exact .inl (.inr h)
  ·rintro ((h|h)|h)
   ·exact .inl (.inl h)
   ·exact .inr h
   ·exact .inl (.inr h)
theorem Li (L:Nat→Bool) (d:Option Nat) (s:Stp):∀ (l:List (Option Nat×Stp)) (j:Nat) (st:St),(keysO st.own).Nodup →
  (∀ i d' s',l[i]?=some (d',s')→L (j+i)=true→(∀ x,d=some x→d'≠some x)∧∀ k,k∈s.upd.map (·.1)→k∉s'.upd.map (·.1)) →
  Ud ((C6 L j l st).stp d s) (C6 L j l (st.stp d s))
 |[],_,st,_,_=>Ud.refl _
 |(d',s')::l,j,st,hn,h=>by
  have ht:∀ i d2 s2,l[i]?=some (d2,s2)→L (j+1+i)=true→(∀ x,d=some x→d2≠some x)∧∀ k,k∈s.upd.map (·.1)→k∉s2.upd.map (·.1):=λi d2 s2 hi hL=>by
   have:=h (i+1) d2 s2 (by simpa using hi) (by rw [show j+(i+1)=j+1+i by omega];exact hL)
   exact this
  simp only [C6]
  by_cases hL:L j=true
  ·simp only [hL,if_true]
   obtain ⟨h1,h2⟩:=h 0 d' s' (by simp) (by simpa using hL)
   refine (Li L d s l (j+1) _ (D9 hn) ht).trans ?_
   refine P3 L l (j+1) ?_ (D9 (D9 hn)) (D9 (D9 hn))
   refine (js hn (λx hx=>?_) (λk hk hk2=>?_))
   ·intro e;exact h1 x e hx
   ·exact h2 k hk2 hk
  ·simp only [hL]
   exact Li L d s l (j+1) st hn ht
theorem N0 (L:Nat→Bool) {J:Nat} (hJ:L J=false):∀ (l:List (Option Nat×Stp)) (j:Nat) (st:St) (d:Option Nat) (s:Stp),(keysO st.own).Nodup→j≤J→l[J-j]?=some (d,s) →
  (∀ i d' s',J<i→l[i-j]?=some (d',s')→L i=true→(∀ x,d=some x→d'≠some x)∧∀ k,k∈s.upd.map (·.1)→k∉s'.upd.map (·.1)) →
  Ud ((C6 L j l st).stp d s) (C6 (λi=>L i || i == J) j l st)
 |[],j,st,d,s,_,_,hg,_=>by simp at hg
 |(d0,s0)::l,j,st,d,s,hn,hj,hg,h=>by
  by_cases e:j=J
  ·subst e
   simp at hg
   obtain ⟨rfl,rfl⟩:=hg
   simp only [C6,hJ,Bool.false_or,beq_self_eq_true,if_true,Bool.false_eq_true,if_false]
   refine (Li L d0 s0 l (j+1) st hn (λi d' s' hi hL=>h (j+1+i) d' s' (by omega) (by rw [show j+1+i-j=i+1 by omega];simpa using hi) hL)).trans ?_
   have:∀ (l:List (Option Nat×Stp)) (j':Nat) (st:St),j<j'→C6 L j' l st=C6 (λi=>L i || i == j) j' l st:=by
    intro l
    induction l with
    |nil=>intro _ _ _;rfl
    |cons p l ih =>
     intro j' st hlt
     obtain ⟨d,s⟩:=p
     simp only [C6]
     have:(j' == j)=false:=by simp;omega
     simp only [this,Bool.or_false]
     exact ih (j'+1) _ (by omega)
   rw [this l (j+1) _ (by omega)]
   exact Ud.refl _
  ·have hlt:j<J:=by omega
   simp only [C6]
   have hne:(j == J)=false:=by simp;exact e
   simp only [hne,Bool.or_false]
   have hg':l[J-(j+1)]?=some (d,s):=by
    rw [show J-j=(J-(j+1))+1 by omega] at hg
    simpa using hg
   refine N0 L hJ l (j+1) _ d s ?_ (by omega) hg' (λi d' s' hi hl=>h i d' s' hi (by rw [show i-j=(i-(j+1))+1 by omega];simpa using hl))
   split
   ·exact D9 hn
   ·exact hn
theorem Mu {L1 L2:Nat→Bool} {k:Nat}:∀ (l:List (Option Nat×Stp)) (j:Nat) (a b:St),get a.env k=get b.env k→(∀ i d s,l[i]?=some (d,s)→d=some k→L1 (j+i)=L2 (j+i)) →
  get (C6 L1 j l a).env k=get (C6 L2 j l b).env k
 |[],_,_,_,h,_=>h
 |(d,s)::l,j,a,b,h,hL=>by
  simp only [C6]
  refine Mu l (j+1) _ _ ?_ (λi d' s' hi hk=>by have:=hL (i+1) d' s' (by simpa using hi) hk;rwa [show j+(i+1)=j+1+i by omega] at this)
  by_cases hd:d=some k
  ·have:=hL 0 d s (by simp) hd
   simp only [Nat.add_zero] at this
   rw [this]
   split
   ·simp only [St.stp,Mv,hd,if_true]
   ·exact h
  ·have:∀ (x:St),get (x.stp d s).env k=get x.env k:=λx=>by simp [St.stp,Mv,hd]
   split<;>split<;>simp only [this,h]
theorem Qd {L1 L2:Nat→Bool} {k:Nat}:∀ (l:List (Option Nat×Stp)) (j:Nat) (a b:St),(keysO a.own).Nodup→(keysO b.own).Nodup→own? a.own k=own? b.own k→(∀ i d s,l[i]?=some (d,s)→k∈s.upd.map (·.1)→L1 (j+i)=L2 (j+i)) →
  own? (C6 L1 j l a).own k=own? (C6 L2 j l b).own k
 |[],_,_,_,_,_,h,_=>h
 |(d,s)::l,j,a,b,ha,hb,h,hL=>by
  simp only [C6]
  refine Qd l (j+1) _ _ ?_ ?_ ?_ (λi d' s' hi hk=>by have:=hL (i+1) d' s' (by simpa using hi) hk;rwa [show j+(i+1)=j+1+i by omega] at this)
  ·split
   ·exact D9 ha
   ·exact ha
  ·split
   ·exact D9 hb
   ·exact hb
  by_cases hd:k∈s.upd.map (·.1)
  ·have:=hL 0 d s (by simp) hd
   simp only [Nat.add_zero] at this
   rw [this]
   split
   ·simp only [St.stp,Cd _ ha,Cd _ hb,h]
   ·exact h
  ·have:∀ (x:St),(keysO x.own).Nodup→own? (x.stp d s).own k=own? x.own k:=λx hx=>by simp only [St.stp,Cd _ hx,Lu hd]
   split<;>split<;>simp only [this _ ha,this _ hb,h]
theorem Mw {L:Nat→Bool} {k:Nat}:∀ (l:List (Option Nat×Stp)) (j:Nat) (a:St),k∈(C6 L j l a).nm↔k∈a.nm∨∃ i d s o,l[i]?=some (d,s)∧L (j+i)=true∧(k,some o)∈s.upd
 |[],_,_=>by simp [C6]
 |(d,s)::l,j,a=>by
  simp only [C6]
  rw [Mw l (j+1)]
  constructor
  ·rintro (h|⟨i,d',s',o,h1,h2,h3⟩)
   ·split at h
    ·rename_i hL
     simp only [St.stp,F2] at h
     rcases h with h|⟨o,h⟩
     ·exact .inl h
     ·exact .inr ⟨0,d,s,o,by simp,by simpa using hL,h⟩
    ·exact .inl h
   ·exact .inr ⟨i+1,d',s',o,by simpa using h1,by rwa [show j+(i+1)=j+1+i by omega],h3⟩
  ·rintro (h|⟨i,d',s',o,h1,h2,h3⟩)
   ·left
    split
    ·simp only [St.stp,F2];exact .inl h
    ·exact h
   ·cases i with
    |zero =>
     simp at h1
     obtain ⟨rfl,rfl⟩:=h1
     left
     simp only [Nat.add_zero] at h2
     rw [if_pos h2]
     simp only [St.stp,F2]
     exact .inr ⟨o,h3⟩
    |succ i=>exact .inr ⟨i,d',s',o,by simpa using h1,by rwa [show j+1+i=j+(i+1) by omega],h3⟩
theorem pz:∀ {c:B3} {st:St} {is:List I} {ss:List Stp} {st':St},O5 c st is ss st'→∀ (L:Nat→Bool) (j:Nat),(∀ i,i<is.length→L (j+i)=true)→C6 L j ((is.map (·.dst)).zip ss) st=st':=by
 intro c st is ss st' h
 induction h with
 |nil st=>intro L j _;rfl
 |cons st i s is ss st' hv hn _ ih =>
  intro L j hL
  simp only [List.map_cons,List.zip_cons_cons,C6]
  have h0:=hL 0 (by simp)
  simp only [Nat.add_zero] at h0
  rw [if_pos h0]
  exact ih L (j+1) (λi hi=>by have:=hL (i+1) (by simp;omega);rwa [show j+(i+1)=j+1+i by omega] at this)
theorem em {c:B3} {st:St} {is:List I} {ss:List Stp} {st':St} (h:O5 c st is ss st'):ss.length=is.length:=by
 induction h with
 |nil=>rfl
 |cons _ _ _ _ _ _ _ _ _ ih=>simp [ih]
theorem lj {c:B3} {st:St} {is:List I} {ss:List Stp} {st':St} (h:O5 c st is ss st'):∀ (j:Nat) (i:I) (s:Stp) (j0:Nat) (L:Nat→Bool),is[j]?=some i→ss[j]?=some s→(∀ x,x<j→L (j0+x)=true)→(∀ x,j≤x→L (j0+x)=false) →
  D0 c i (C6 L j0 ((is.map (·.dst)).zip ss) st) s∧∀ k,k∈s.new→k∉(C6 L j0 ((is.map (·.dst)).zip ss) st).nm:=by
 induction h with
 |nil st=>intro j i s j0 L hi;simp at hi
 |cons st i0 s0 is ss st' hv hn _ ih =>
  intro j i s j0 L hi hs h1 h2
  simp only [List.map_cons,List.zip_cons_cons,C6]
  cases j with
  |zero =>
   simp at hi hs
   subst hi;subst hs
   have h0:=h2 0 (by omega)
   simp only [Nat.add_zero] at h0
   rw [if_neg (by rw [h0];simp)]
   have hrest:∀ (l:List (Option Nat×Stp)) (j':Nat),j0≤j'→C6 L j' l st=st:=by
    intro l
    induction l with
    |nil=>intro _ _;rfl
    |cons p l ih2 =>
     intro j' hj
     obtain ⟨d,s⟩:=p
     simp only [C6]
     have:=h2 (j'-j0) (by omega)
     rw [show j0+(j'-j0)=j' by omega] at this
     rw [if_neg (by rw [this];simp)]
     exact ih2 (j'+1) (by omega)
   rw [hrest _ (j0+1) (by omega)]
   exact ⟨hv,hn⟩
  |succ j =>
   simp at hi hs
   have h0:=h1 0 (by omega)
   simp only [Nat.add_zero] at h0
   rw [if_pos h0]
   exact ih j i s (j0+1) L hi hs (λx hx=>by have:=h1 (x+1) (by omega);rwa [show j0+(x+1)=j0+1+x by omega] at this) (λx hx=>by have:=h2 (x+1) (by omega);rwa [show j0+(x+1)=j0+1+x by omega] at this)
end Go.Bx
end
section
namespace Go.Bx
open Go.RowKit
def bnd (e:Edge):Bool:=Region.binds .any e
def Fw (anc:List Nat) (j i:Nat):Bool:=decide (i<j)&&(anc.getD j 0).testBit i
def Vc (ops:Array Oper) (anc:List Nat):Bool:=
 (List.range ops.size).all λj =>
  match ops[j]? with
  |none=>false
  |some o=>o.after.toList.all (λe=>!bnd e || decide (e.on<j))&&(List.range j).all (λi=>!(Fw anc j i) || o.after.toList.any (λe=>bnd e&&(e.on == i || Fw anc e.on i)))
def gn (a:I) (b:I):Bool:=
 match a.dst with
 |some d=>b.slots.contains d || b.dst == some d
 |none=>false
def G8 (a b:I):Bool:=gn a b || gn b a
def Of (is:List I) (anc:List Nat):Bool:=
 (List.range is.length).all λj=>(List.range j).all λi =>
  match is[i]?,is[j]? with
  |some a,some b=>!G8 a b || Fw anc j i
  |_,_=>false
def Rv (a b:Lg):Bool:=a.wr.any λk=>b.wr.contains k || b.rd.contains k
def Ep (a b:Lg):Bool:=Rv a b || Rv b a
def Hw (lg:List Lg) (anc:List Nat):Bool:=
 (List.range lg.length).all λj=>(List.range j).all λi =>
  match lg[i]?,lg[j]? with
  |some a,some b=>!Ep a b || Fw anc j i
  |_,_=>false
theorem J1 {is:List I} {anc:List Nat} (h:Of is anc=true) {i j:Nat} (hij:i<j) {a b:I} (ha:is[i]?=some a) (hb:is[j]?=some b) (hm:G8 a b=true):Fw anc j i=true:=by
 have hj:j<is.length:=(List.getElem?_eq_some_iff.1 hb).1
 have:=List.all_eq_true.1 (List.all_eq_true.1 h j (List.mem_range.2 hj)) i (List.mem_range.2 hij)
 simp only [ha,hb,hm,Bool.not_true,Bool.false_or] at this
 exact this
theorem Md {lg:List Lg} {anc:List Nat} (h:Hw lg anc=true) {i j:Nat} (hij:i<j) {a b:Lg} (ha:lg[i]?=some a) (hb:lg[j]?=some b) (hm:Ep a b=true):Fw anc j i=true:=by
 have hj:j<lg.length:=(List.getElem?_eq_some_iff.1 hb).1
 have:=List.all_eq_true.1 (List.all_eq_true.1 h j (List.mem_range.2 hj)) i (List.mem_range.2 hij)
 simp only [ha,hb,hm,Bool.not_true,Bool.false_or] at this
 exact this
def Shut (ops:Array Oper) (L:Nat→Bool):Prop:=∀ j o,ops[j]?=some o→L j=true→∀ e,e∈o.after.toList→bnd e=true→L e.on=true
theorem J0 {ops:Array Oper} {anc:List Nat} {L:Nat→Bool} (ha:Vc ops anc=true) (hs:Shut ops L):∀ (j:Nat) (o:Oper),ops[j]?=some o→(∀ e,e∈o.after.toList→bnd e=true→L e.on=true)→∀ i,Fw anc j i=true→L i=true:=by
 intro j
 induction j using Nat.strongRecOn with
 |_ j ih =>
  intro o ho hl i hi
  have hj:j<ops.size:=(Array.getElem?_eq_some_iff.1 ho).1
  have h1:=List.all_eq_true.1 ha j (List.mem_range.2 hj)
  simp only [ho,Bool.and_eq_true] at h1
  have hij:i<j:=by simp [Fw] at hi;exact hi.1
  have h2:=List.all_eq_true.1 h1.2 i (List.mem_range.2 hij)
  simp only [hi,Bool.not_true,Bool.false_or] at h2
  obtain ⟨e,he,hb⟩:=List.any_eq_true.1 h2
  simp only [Bool.and_eq_true,Bool.or_eq_true,beq_iff_eq] at hb
  have hle:=hl e he hb.1
  rcases hb.2 with h3|h3
  ·rw [←h3];exact hle
  ·have hlt:e.on<j:=by
    have:=List.all_eq_true.1 h1.1 e he
    simp [hb.1] at this
    exact this
   have ho':∃ o',ops[e.on]?=some o':=⟨ops[e.on]'(by omega),Array.getElem?_eq_getElem (by omega)⟩
   obtain ⟨o',ho'⟩:=ho'
   exact ih e.on hlt o' ho' (λe' he' hb'=>hs e.on o' ho' hle e' he' hb') i h3
theorem Kf {ops:Array Oper} {listed:Array Bool} {i:Nat} (h:i∈Region.ready .any ops listed) :
  i<ops.size∧listed.getD i true=false∧∃ o,ops[i]?=some o∧∀ e,e∈o.after.toList→bnd e=true→listed.getD e.on false=true:=by
 unfold Region.ready at h
 obtain ⟨h1,h2⟩:=List.mem_filter.1 h
 have hi:=List.mem_range.1 h1
 simp only [Bool.and_eq_true,Bool.not_eq_true',Array.getElem?_eq_getElem hi,Option.map_some,Option.getD_some] at h2
 refine ⟨hi,h2.1,ops[i],Array.getElem?_eq_getElem hi,λe he hb=>?_⟩
 have:=Array.all_eq_true'.1 h2.2 e (Array.mem_toList_iff.1 he)
 unfold bnd at hb
 simpa [hb] using this
theorem S8 {ops:Array Oper} {anc:List Nat} {listed:Array Bool} (ha:Vc ops anc=true) (hsz:listed.size=ops.size) (h:Region.ready .any ops listed=[]):∀ j,j<ops.size→listed.getD j false=true:=by
 intro j
 induction j using Nat.strongRecOn with
 |_ j ih =>
  intro hj
  cases hl:listed.getD j false with
  |true=>rfl
  |false =>
   exfalso
   have h1:=List.all_eq_true.1 ha j (List.mem_range.2 hj)
   have hoj:=Array.getElem?_eq_getElem hj
   simp only [hoj,Bool.and_eq_true] at h1
   have hmem:j∈Region.ready .any ops listed:=by
    unfold Region.ready
    refine List.mem_filter.2 ⟨List.mem_range.2 hj,?_⟩
    have hlt:listed.getD j true=false:=by
     have hjl:j<listed.size:=by omega
     simp [hjl] at hl ⊢
     exact hl
    simp only [hlt,hoj,Bool.not_false,Bool.true_and,Option.map_some,Option.getD_some]
    refine Array.all_eq_true'.2 λe he=>?_
    cases hb:Region.binds .any e with
    |false=>simp
    |true =>
     have:=List.all_eq_true.1 h1.1 e (Array.mem_toList_iff.2 he)
     simp [bnd,hb] at this
     simp [ih e.on this (by omega)]
   rw [h] at hmem
   cases hmem
section
variable {c:B3}
theorem Nu {c:B3} {ops:Array Oper} {Q:Exit→Act→World→Prop} {i:Nat} {o:Oper} {K:Act→World→Prop} {a:Act} {w:World} (ho:ops[i]?=some o)
  (h:∀ K':Act→World→Prop,(∀ a w,K a w→K' a w)→if Region.wanted o (yielded ops a.tmps)=true then o.wpIn c.F 0 c.P a w K' Q else K' (a.put o.dst undef) w):wpOpIn c.F 0 c.P ops Q i K a w:=by
 have:=h K (λ_ _ h=>h)
 unfold wpOpIn
 rw [ho]
 show if Region.wanted o (yielded ops a.tmps)=true then _ else _
 split
 ·rename_i hw;rw [if_pos hw] at this;exact this
 ·rename_i hw;rw [if_neg hw] at this;exact ⟨λ_ _=>trivial,this⟩
theorem wp_any {ops:Array Oper} {is:List I} {ss:List Stp} {st st':St} {anc:List Nat} (hT:O5 c st is ss st') (hl:ops.size=is.length) (hc:∀ (j:Nat) (o:Oper) (i:I),ops[j]?=some o→is[j]?=some i→mf c ops o i)
    (ha:Vc ops anc=true) (hsl:Of is anc=true) (hol:Hw (ss.map Stp.lg) anc=true) {Q:Exit→Act→World→Prop} (hQ:∀ β a w,Aa c β st' a w→Q .normal a w) (hn:(keysO st.own).Nodup) :
    ∀ (fuel : Nat) (listed : Array Bool) (β : A6) (a : Act) (w : World), listed.size = ops.size → (fuel + (List.range ops.size).countP (λj => listed.getD j false) = ops.size) → Shut ops (λj => listed.getD j false) →
      Aa c β (C6 (λj=>listed.getD j false) 0 ((is.map (·.dst)).zip ss) st) a w→wpAnyIn c.F 0 c.P .any ops Q fuel listed a w:=by
  have hsl2:=em hT
  have hdone:∀ (listed:Array Bool) (β:A6) (a:Act) (w:World),listed.size=ops.size→Region.ready .any ops listed=[]→Aa c β (C6 (λj=>listed.getD j false) 0 ((is.map (·.dst)).zip ss) st) a w→Q .normal a w:=by
    intro listed β a w hsz hr H
    have hall:=S8 ha hsz hr
    rw [pz hT (λj=>listed.getD j false) 0 (λi hi=>by simpa using hall i (by omega))] at H
    exact hQ β a w H
  intro fuel
  induction fuel with
  |zero =>
    intro listed β a w hsz hf hsh H
    have hall:∀ j,j<ops.size→listed.getD j false=true:=by
      intro j hj
      have:(List.range ops.size).countP (λj=>listed.getD j false)=(List.range ops.size).length:=by rw [List.length_range];omega
      exact List.countP_eq_length.1 this j (List.mem_range.2 hj)
    have hr:Region.ready .any ops listed=[]:=by
      cases h:Region.ready .any ops listed with
      |nil=>rfl
      |cons x l =>
        obtain ⟨h1,h2,_⟩:=Kf (by rw [h];exact List.mem_cons_self)
        have:=hall x h1
        have hx:x<listed.size:=by omega
        simp [hx] at h2 this
        rw [h2] at this
        cases this
    exact ⟨hr,hdone listed β a w hsz hr H⟩
  |succ fuel ih =>
    intro listed β a w hsz hf hsh H
    refine ⟨λhr=>hdone listed β a w hsz hr H,λJ hJ=>?_⟩
    obtain ⟨h1,h2,o,ho,h3⟩:=Kf hJ
    have hJl:J<listed.size:=by omega
    have hLJ:listed.getD J false=false:=by
      simp [hJl] at h2 ⊢
      exact h2
    have hJi:is[J]?=some (is[J]'(by omega)):=List.getElem?_eq_getElem (by omega)
    have hJs:ss[J]?=some (ss[J]'(by omega)):=List.getElem?_eq_getElem (by omega)
    generalize hiJ:is[J]'(by omega)=iJ at hJi
    generalize hsJ:ss[J]'(by omega)=sJ at hJs
    have hsteps:∀ (i:Nat) (d:Option Nat) (s:Stp),((is.map (·.dst)).zip ss)[i]?=some (d,s)→∃ ii,is[i]?=some ii∧ss[i]?=some s∧ii.dst=d:=by
      intro i d s h
      rw [List.getElem?_zip_eq_some] at h
      obtain ⟨q1,q2⟩:=h
      rw [List.getElem?_map,Option.map_eq_some_iff] at q1
      obtain ⟨ii,q3,q4⟩:=q1
      exact ⟨ii,q3,q2,q4⟩
    have hahead:∀ i,Fw anc J i=true→listed.getD i false=true:=J0 ha hsh J o ho h3
    have hbehind:∀ i,Fw anc i J=true→i<ops.size→listed.getD i false=false:=by
      intro i hi hlt
      cases h:listed.getD i false with
      |false=>rfl
      |true =>
        have hoi:=Array.getElem?_eq_getElem hlt
        have:=J0 ha hsh i _ hoi (λe he hb=>hsh i _ hoi h e he hb) J hi
        rw [hLJ] at this
        cases this
    have hmeet:∀ i ii si,is[i]?=some ii→ss[i]?=some si→(G8 ii iJ=true∨Ep si.lg sJ.lg=true)→i≠J→listed.getD i false=decide (i<J):=by
      intro i ii si hi hs hm hne
      have hlt:i<ops.size:=by have:=(List.getElem?_eq_some_iff.1 hi).1;omega
      have hlgi:(ss.map Stp.lg)[i]?=some si.lg:=by simp [hs]
      have hlgJ:(ss.map Stp.lg)[J]?=some sJ.lg:=by simp [hJs]
      have hsym:∀ x y,G8 x y=G8 y x:=λx y=>by simp [G8,Bool.or_comm]
      have hsymL:∀ x y,Ep x y=Ep y x:=λx y=>by simp [Ep,Bool.or_comm]
      by_cases hij:i<J
      · have:Fw anc J i=true:=by
          rcases hm with hm|hm
          · exact J1 hsl hij hi hJi hm
          · exact Md hol hij hlgi hlgJ hm
        rw [hahead i this]
        simp [hij]
      · have:Fw anc i J=true:=by
          rcases hm with hm|hm
          · exact J1 hsl (by omega) hJi hi (by rw [hsym];exact hm)
          · exact Md hol (by omega) hlgJ hlgi (by rw [hsymL];exact hm)
        rw [hbehind i this hlt]
        simp;omega
    obtain ⟨hv,hnew⟩:=lj hT J iJ sJ 0 (λx=>decide (x<J)) hJi hJs (λx hx=>by simp;exact hx) (λx hx=>by simp;exact hx)
    refine Nu ho λK' hK'=>?_
    refine hv _ (λk hk=>?_) (λk hk=>?_) (λk hk=>?_) ops o (hc J o iJ ho hJi) β a w H Q K' λβ' a' w' H'=>hK' a' w' ?_
    · 
      refine Mu _ 0 _ _ rfl (λi d s hi hd=>?_)
      obtain ⟨ii,q1,q2,q3⟩:=hsteps i d s hi
      simp only [Nat.zero_add]
      by_cases hne:i=J
      · subst hne;rw [hLJ];simp
      · exact hmeet i ii s q1 q2 (.inl (by simp [G8,gn,q3,hd,hk])) hne
    · refine Qd _ 0 _ _ hn hn rfl (λi d s hi hd=>?_)
      obtain ⟨ii,q1,q2,q3⟩:=hsteps i d s hi
      simp only [Nat.zero_add]
      by_cases hne:i=J
      · subst hne;rw [hLJ];simp
      · refine hmeet i ii s q1 q2 (.inr ?_) hne
        unfold Ep Rv
        rw [Bool.or_eq_true]
        left
        refine List.any_eq_true.2 ⟨k,by simp only [Stp.lg];exact List.mem_append_left _ hd,?_⟩
        simp [Stp.lg,hk]
    · 
      intro hin
      rw [Mw] at hin
      have h0:=hnew k hk
      rw [Mw] at h0
      rcases hin with hin|⟨i,d,s,ow,q0,qL,q5⟩
      · exact h0 (.inl hin)
      · obtain ⟨ii,q1,q2,q3⟩:=hsteps i d s q0
        simp only [Nat.zero_add] at qL
        by_cases hne:i=J
        · subst hne;rw [hLJ] at qL;cases qL
        · have:=hmeet i ii s q1 q2 (.inr (by
            unfold Ep Rv
            rw [Bool.or_eq_true]
            left
            refine List.any_eq_true.2 ⟨k,by simp only [Stp.lg];exact List.mem_append_left _ (List.mem_map.2 ⟨(k,some ow),q5,rfl⟩),?_⟩
            simp [Stp.lg,hk])) hne
          rw [this] at qL
          exact h0 (.inr ⟨i,d,s,ow,q0,by simpa using qL,q5⟩)
    · 
      have hL':∀ j,(listed.setIfInBounds J true).getD j false=(listed.getD j false || j == J):=λj=>by
        simp only [Array.getD_eq_getD_getElem?,Array.getElem?_setIfInBounds]
        by_cases e:J=j
        · subst e;simp [hJl]
        · have:(j == J)=false:=by simp;exact λx=>e x.symm
          simp [e,this]
      have hfun:(λj=>(listed.setIfInBounds J true).getD j false)=(λj=>listed.getD j false || j == J):=funext hL'
      refine ih (listed.setIfInBounds J true) β' a' w' (by simp [hsz]) ?_ ?_ ?_
      · rw [hfun]
        have hcount:(List.range ops.size).countP (λj=>listed.getD j false || j == J)=(List.range ops.size).countP (λj=>listed.getD j false)+1:=by
          have:∀ n,J<n→(List.range n).countP (λj=>listed.getD j false || j == J)=(List.range n).countP (λj=>listed.getD j false)+1:=by
            intro n
            induction n with
            |zero=>intro h;omega
            |succ n ihn =>
              intro h
              rw [List.range_succ,List.countP_append,List.countP_append]
              by_cases e:n=J
              · subst e
                have:(List.range n).countP (λj=>listed.getD j false || j == n)=(List.range n).countP (λj=>listed.getD j false):=by
                  apply List.countP_congr
                  intro x hx
                  have:=List.mem_range.1 hx
                  have h5:(x == n)=false:=by simp;omega
                  simp [h5]
                rw [this,List.countP_singleton,List.countP_singleton,hLJ]
                simp
              · rw [ihn (by omega)]
                have h5:(n == J)=false:=by simp;exact e
                simp [h5]
                omega
          exact this ops.size h1
        rw [hcount]
        omega
      · intro j oj hoj hj e he hb
        simp only [hL'] at hj ⊢
        rcases Bool.or_eq_true _ _▸hj with h|h
        · have:=hsh j oj hoj h e he hb
          simp only at this
          rw [this];rfl
        · simp at h
          subst h
          rw [ho] at hoj
          cases hoj
          rw [h3 e he hb];rfl
      · rw [hfun]
        have hz:((is.map (·.dst)).zip ss)[J-0]?=some (iJ.dst,sJ):=by
          rw [List.getElem?_zip_eq_some]
          exact ⟨by simp [hJi],by simpa using hJs⟩
        have hmore:=N0 (λj=>listed.getD j false) hLJ ((is.map (·.dst)).zip ss) 0 st iJ.dst sJ hn (Nat.zero_le _) hz (λi d' s' hi hg hLi=>by
          obtain ⟨ii,q1,q2,q3⟩:=hsteps i d' s' (by simpa using hg)
          have hnm:¬ (G8 ii iJ=true∨Ep s'.lg sJ.lg=true):=λhm=>by
            have:=hmeet i ii s' q1 q2 hm (by omega)
            rw [this] at hLi
            simp at hLi
            omega
          refine ⟨λx hx hd=>hnm (.inl ?_),λk hk hk2=>hnm (.inr ?_)⟩
          · simp [G8,gn,q3,hd,hx]
          · unfold Ep Rv
            rw [Bool.or_eq_true]
            left
            refine List.any_eq_true.2 ⟨k,by simp only [Stp.lg];exact List.mem_append_left _ hk2,?_⟩
            simp only [Stp.lg,Bool.or_eq_true]
            left
            simp only [List.contains_iff_mem]
            exact List.mem_append_left _ hk)
        exact H'.ext hmore (Ln _ _ _ _ hn)
end
end Go.Bx
end
