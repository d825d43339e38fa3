/-
  The engine, part 4: operands, operations, and what each does to a state.
-/
import Derived.Test.YthkfedghiklmeaaEng3
namespace Go.Bx
open Go.RowKit

inductive X where
  | t (s : Nat)
  | k (v : V)

inductive O where
  | mov (x : X)
  | pick (c a b : X)
  | alloc (e : Nat) (cs : List V)
  | box (e : Nat) (x : X)
  | build (z : List V) (parts : List (Nat × Nat × X))
  | bslice (e sz len : Nat) (parts : List X)
  | load (sz : Nat) (agg : Bool) (x : X)
  | store (sz : Nat) (x y : X)
  | bin (op : BinOp) (x y : X)
  | beq (neg : Bool) (x y : X)
  | eqa (neg : Bool) (sz : Nat) (lv : List (Nat × Option IntKind)) (x y : X)
  | isnil (neg : Bool) (x : X)
  | shf (left : Bool) (x y : X)
  | inv (op : UnOp) (x : X)
  | conv (k : IntKind) (x : X)
  | fld (off sz : Nat) (agg : Bool) (x : X)
  | fadr (off : Nat) (x : X)
  | nilc (x : X)
  | iadr (sz : Nat) (x i : X)
  | aadr (sz len : Nat) (x i : X)
  | idx (sz len : Nat) (agg : Bool) (x i : X)
  | sidx (s : ByteArray) (i : X)
  | ext (i : Nat) (x : X)
  | len (x : X)
  | mkfn (f : Fn) (first cap : List X)
  | mm (mx : Bool) (x y : X)
  | mks (e sz bytes : Nat) (z : List D) (l c : X)
  | slc (sz : Nat) (x : X) (lo hi mx : Option X)
  | asl (sz len : Nat) (x : X)
  | cpy (sz : Nat) (x y : X)
  | app (e sz bytes : Nat) (x y : X)
  | mkifc (t : Nat) (x : X)
  | call (f : Nat) (args : List X)
  | callv (x : X) (args : List X)

def evX (st : St) : X → V
  | .t s => get st.env s
  | .k v => v

/-- The value of an operand, and what must hold for it to be there, under the condition p. -/
def evV (st : St) (x : X) : V :=
  match evX st x with
  | .gd _ v => v
  | v => v
def evS (p : Bool) (st : St) (x : X) : Prop :=
  match evX st x with
  | .gd c _ => p = true → c = true
  | _ => True

def evSs (p : Bool) (st : St) : List X → Prop
  | [] => True
  | x :: l => evS p st x ∧ evSs p st l
def evVs (st : St) : List X → List V
  | [] => []
  | x :: l => evV st x :: evVs st l

/-- What an operation does: what it asks, what it yields, which own blocks it sets or strikes, which it looks at. -/
structure Ef where
  side : Prop
  val : V
  upd : List (Nat × Option Own) := []
  rd : List Nat := []

def Ef.bad : Ef := { side := False, val := .un }

def nth : List V → Nat → V
  | [], _ => .un
  | v :: _, 0 => v
  | _ :: l, n + 1 => nth l n
def nthD : List D → Nat → V
  | [], _ => .un
  | v :: _, 0 => .d v
  | _ :: l, n + 1 => nthD l n
def dropV : List V → Nat → List V
  | l, 0 => l
  | [], _ => []
  | _ :: l, n + 1 => dropV l n
def takeV : List V → Nat → List V
  | _, 0 => []
  | [], _ => []
  | v :: l, n + 1 => v :: takeV l n
def dropD : List D → Nat → List D
  | l, 0 => l
  | [], _ => []
  | _ :: l, n + 1 => dropD l n
def takeDV : List D → Nat → List V
  | _, 0 => []
  | [], _ => []
  | v :: l, n + 1 => .d v :: takeDV l n
/-- Cells written over others, from a place on. -/
def putV : List V → Nat → List V → List V
  | [], _, _ => []
  | l, _, [] => l
  | _ :: l, 0, y :: ys => y :: putV l 0 ys
  | v :: l, n + 1, ys => v :: putV l n ys
def putD : List D → Nat → List D → List D
  | [], _, _ => []
  | l, _, [] => l
  | _ :: l, 0, y :: ys => y :: putD l 0 ys
  | v :: l, n + 1, ys => v :: putD l n ys
def toDs : List V → Option (List D)
  | [] => some []
  | .d x :: l => (toDs l).map (x :: ·)
  | _ => none

def cut (agg : Bool) (cs : List V) (off sz : Nat) : V := if agg then .ag (takeV (dropV cs off) sz) else nth cs off
def cutD (agg : Bool) (cs : List D) (off sz : Nat) : V := if agg then .ag (takeDV (dropD cs off) sz) else nthD cs off

def cmpB (op : BinOp) (a b : Int) : Bool :=
  match op with
  | .eql => a == b
  | .neq => a != b
  | .lss => decide (a < b)
  | .leq => decide (a ≤ b)
  | .gtr => decide (a > b)
  | _ => decide (a ≥ b)

/-- Two numbers of one kind. -/
def binI (op : BinOp) (k : IntKind) (a b : Int) : Ef :=
  match op with
  | .add => { side := True, val := .d (.int k (k.wrap (a + b))) }
  | .sub => { side := True, val := .d (.int k (k.wrap (a - b))) }
  | .mul => { side := True, val := .d (.int k (k.wrap (a * b))) }
  | .quo => { side := b ≠ 0, val := .d (.int k (k.wrap (a.tdiv b))) }
  | .rem => { side := b ≠ 0, val := .d (.int k (a.tmod b)) }
  | .and => { side := True, val := .d (.int k (k.wrap ((BitVec.ofInt k.bits a &&& BitVec.ofInt k.bits b).toNat : Int))) }
  | .or => { side := True, val := .d (.int k (k.wrap ((BitVec.ofInt k.bits a ||| BitVec.ofInt k.bits b).toNat : Int))) }
  | .eql => { side := True, val := .d (.bool (a == b)) }
  | .neq => { side := True, val := .d (.bool (a != b)) }
  | .lss => { side := True, val := .d (.bool (decide (a < b))) }
  | .leq => { side := True, val := .d (.bool (decide (a ≤ b))) }
  | .gtr => { side := True, val := .d (.bool (decide (a > b))) }
  | .geq => { side := True, val := .d (.bool (decide (a ≥ b))) }
  | _ => .bad

def pickV (c : Bool) : V → V → V
  | .d (.bool x), .d (.bool y) => .d (.bool (bif c then x else y))
  | .d (.int k x), .d (.int k' y) => if k = k' then .d (.int k (bif c then x else y)) else .un
  | _, _ => .un

/-- The datum of a row that is handed on as it stands. -/
def rowD (sz n : Nat) (f : Nat → List D) : D := .sl false sz n f

def fillV : List V → List (Nat × Nat × V) → Option (List V)
  | cs, [] => some cs
  | cs, (off, sz, v) :: rest =>
    match cellsV v with
    | some ys => if ys.length = sz && decide (off + sz ≤ cs.length) then fillV (putV cs off ys) rest else none
    | none => none

def evParts (st : St) : List (Nat × Nat × X) → List (Nat × Nat × V)
  | [] => []
  | (o, s, x) :: l => (o, s, evV st x) :: evParts st l
def evPartsS (p : Bool) (st : St) : List (Nat × Nat × X) → Prop
  | [] => True
  | (_, _, x) :: l => evS p st x ∧ evPartsS p st l

/-- The parts of a slice that is written out, in order, all of them. -/
def catV (sz : Nat) : List V → Option (List V)
  | [] => some []
  | v :: l =>
    match cellsV v, catV sz l with
    | some ys, some zs => if ys.length = sz then some (ys ++ zs) else none
    | _, _ => none

/-- The same, of what is told of the cells. -/
def eqS : List (Nat × Option IntKind) → List V → List V → Prop
  | [], _, _ => True
  | (o, some k) :: l, xs, ys =>
    match nth xs o, nth ys o with
    | .d (.int k1 _), .d (.int k2 _) => k1 = k ∧ k2 = k ∧ eqS l xs ys
    | _, _ => False
  | (o, none) :: l, xs, ys =>
    match nth xs o, nth ys o with
    | .d (.bool _), .d (.bool _) => eqS l xs ys
    | _, _ => False
def eqB : List (Nat × Option IntKind) → List V → List V → Bool
  | [], _, _ => true
  | (o, some _) :: l, xs, ys =>
    match nth xs o, nth ys o with
    | .d (.int _ a), .d (.int _ b) => (a == b) && eqB l xs ys
    | _, _ => false
  | (o, none) :: l, xs, ys =>
    match nth xs o, nth ys o with
    | .d (.bool a), .d (.bool b) => (a == b) && eqB l xs ys
    | _, _ => false

/-- A row that is known cell by cell: the i-th element's cells. -/
def litRow (sz : Nat) (ds : List D) (i : Nat) : List D := (ds.drop (i * sz)).take sz

/-- A byte of a text. -/
def sAt (s : ByteArray) (m : Nat) : Int :=
  match s[m]? with
  | some b => (b.toNat : Int)
  | none => 0

def opR (st : St) (p : Bool) (d : Nat) : O → Ef
  | .mov x => { side := evS p st x, val := evV st x }
  | .pick c a b =>
    match evV st c with
    | .d (.bool bc) => { side := evS p st c ∧ evS (p && bc) st a ∧ evS (p && !bc) st b, val := pickV bc (evV st a) (evV st b) }
    | _ => .bad
  | .alloc _ cs => { side := d ∉ st.nm, val := .own d 0, upd := [(d, some (.fix cs))] }
  | .box _ x =>
    match cellsV (evV st x) with
    | some cs => { side := evS p st x ∧ d ∉ st.nm, val := .own d 0, upd := [(d, some (.fix cs))] }
    | none => .bad
  | .build z parts =>
    match fillV z (evParts st parts) with
    | some cs => { side := evPartsS p st parts, val := .ag cs }
    | none => .bad
  | .bslice _ sz len parts =>
    match catV sz (evVs st parts) with
    | some cs =>
      match toDs cs with
      | some ds => { side := evSs p st parts ∧ d ∉ st.nm, val := .d (.sl true sz len (litRow sz ds)) }
      | none => { side := evSs p st parts ∧ 0 < len ∧ d ∉ st.nm, val := .osl d, upd := [(d, some (.lit sz len cs))] }
    | none => .bad
  | .load sz agg x =>
    match evV st x with
    | .mem cs => { side := evS p st x ∧ sz ≤ cs.length, val := cutD agg cs 0 sz }
    | .own k off =>
      match own? st.own k with
      | some (.fix cs) => { side := evS p st x ∧ off + sz ≤ cs.length, val := cut agg cs off sz, rd := [k] }
      | _ => .bad
    | .optr k sz' i off =>
      match own? st.own k with
      | some (.row _ sz2 n f) => { side := evS p st x ∧ sz' = sz2 ∧ i < n ∧ off + sz ≤ sz2, val := cutD agg (f i) off sz, rd := [k] }
      | some (.lit sz2 n cs) => { side := evS p st x ∧ sz' = sz2 ∧ i < n ∧ off + sz ≤ sz2, val := cut agg cs (i * sz2 + off) sz, rd := [k] }
      | _ => .bad
    | _ => .bad
  | .store sz x y =>
    match evV st x, cellsV (evV st y) with
    | .own k off, some ys =>
      match own? st.own k with
      | some (.fix cs) => { side := evS p st x ∧ evS p st y ∧ ys.length = sz ∧ off + sz ≤ cs.length, val := .un, upd := [(k, some (.fix (putV cs off ys)))], rd := [k] }
      | _ => .bad
    | .optr k sz' i off, some ys =>
      match own? st.own k, toDs ys with
      | some (.row e sz2 n f), some ds => { side := evS p st x ∧ evS p st y ∧ ys.length = sz ∧ sz' = sz2 ∧ i < n ∧ off + sz ≤ sz2, val := .un, upd := [(k, some (.row e sz2 n (fun i' => if i' = i then putD (f i) off ds else f i')))], rd := [k] }
      | some (.lit sz2 n cs), _ => { side := evS p st x ∧ evS p st y ∧ ys.length = sz ∧ sz' = sz2 ∧ i < n ∧ off + sz ≤ sz2, val := .un, upd := [(k, some (.lit sz2 n (putV cs (i * sz2 + off) ys)))], rd := [k] }
      | _, _ => .bad
    | _, _ => .bad
  | .bin op x y =>
    match evV st x, evV st y with
    | .d (.int k a), .d (.int k' b) => { side := evS p st x ∧ evS p st y ∧ k = k' ∧ (binI op k a b).side, val := (binI op k a b).val }
    | _, _ => .bad
  | .beq neg x y =>
    match evV st x, evV st y with
    | .d (.bool a), .d (.bool b) => { side := evS p st x ∧ evS p st y, val := .d (.bool (if neg then a != b else a == b)) }
    | _, _ => .bad
  | .eqa neg sz lv x y =>
    match evV st x, evV st y with
    | .ag xs, .ag ys => { side := evS p st x ∧ evS p st y ∧ xs.length = sz ∧ ys.length = sz ∧ eqS lv xs ys, val := .d (.bool (if neg then !(eqB lv xs ys) else eqB lv xs ys)) }
    | _, _ => .bad
  | .isnil neg x =>
    match evV st x with
    | .d (.sl _ _ n _) => { side := evS p st x, val := .d (if neg then .qb True (n = 0) else .qb (n = 0) True) }
    | _ => .bad
  | .shf left x y =>
    match evV st x, evV st y with
    | .d (.int k a), .d (.int _ b) => { side := evS p st x ∧ evS p st y ∧ 0 ≤ b, val := .d (.int k (if left then k.wrap (a * 2 ^ (min b.toNat k.bits)) else a.fdiv (2 ^ (min b.toNat k.bits)))) }
    | _, _ => .bad
  | .inv op x =>
    match op, evV st x with
    | .not, .d (.bool a) => { side := evS p st x, val := .d (.bool (!a)) }
    | .neg, .d (.int k a) => { side := evS p st x, val := .d (.int k (k.wrap (0 - a))) }
    | _, _ => .bad
  | .conv k x =>
    match evV st x with
    | .d (.int _ a) => { side := evS p st x, val := .d (.int k (k.wrap a)) }
    | _ => .bad
  | .fld off sz agg x =>
    match evV st x with
    | .ag cs => { side := evS p st x ∧ off + sz ≤ cs.length, val := cut agg cs off sz }
    | _ => .bad
  | .nilc x =>
    match evV st x with
    | .mem cs => { side := evS p st x, val := .mem cs }
    | .own k o => { side := evS p st x, val := .own k o }
    | .optr k sz i o => { side := evS p st x, val := .optr k sz i o }
    | .fn (.func f) a b => { side := evS p st x, val := .fn (.func f) a b }
    | _ => .bad
  | .fadr off x =>
    match evV st x with
    | .mem cs => { side := evS p st x ∧ off ≤ cs.length, val := .mem (dropD cs off) }
    | .own k o => { side := evS p st x, val := .own k (o + off) }
    | .optr k sz i o => { side := evS p st x, val := .optr k sz i (o + off) }
    | _ => .bad
  | .iadr sz x i =>
    match evV st x, evV st i with
    | .d (.sl _ sz' n f), .d (.int _ m) => { side := evS p st x ∧ evS p st i ∧ 0 ≤ m ∧ m < (n : Int) ∧ sz = sz', val := .mem (f m.toNat) }
    | .osl k, .d (.int _ m) =>
      match own? st.own k with
      | some (.row _ sz' n _) => { side := evS p st x ∧ evS p st i ∧ 0 ≤ m ∧ m < (n : Int) ∧ sz = sz', val := .optr k sz m.toNat 0, rd := [k] }
      | some (.lit sz' n _) => { side := evS p st x ∧ evS p st i ∧ 0 ≤ m ∧ m < (n : Int) ∧ sz = sz', val := .optr k sz m.toNat 0, rd := [k] }
      | _ => .bad
    | .osub k sz' lo n, .d (.int _ m) => { side := evS p st x ∧ evS p st i ∧ 0 ≤ m ∧ m < (n : Int) ∧ sz = sz', val := .optr k sz (lo + m.toNat) 0 }
    | _, _ => .bad
  | .aadr sz len x i =>
    match evV st x, evV st i with
    | .mem cs, .d (.int _ m) => { side := evS p st x ∧ evS p st i ∧ 0 ≤ m ∧ m < (len : Int) ∧ cs.length = sz * len, val := .mem (dropD cs (m.toNat * sz)) }
    | .own k off, .d (.int _ m) => { side := evS p st x ∧ evS p st i ∧ 0 ≤ m ∧ m < (len : Int), val := .own k (off + m.toNat * sz) }
    | .optr k s j off, .d (.int _ m) => { side := evS p st x ∧ evS p st i ∧ 0 ≤ m ∧ m < (len : Int), val := .optr k s j (off + m.toNat * sz) }
    | _, _ => .bad
  | .idx sz len agg x i =>
    match evV st x, evV st i with
    | .ag cs, .d (.int _ m) => { side := evS p st x ∧ evS p st i ∧ 0 ≤ m ∧ m < (len : Int) ∧ cs.length = sz * len, val := cut agg cs (m.toNat * sz) sz }
    | _, _ => .bad
  | .sidx s i =>
    match evV st i with
    | .d (.int _ m) => { side := evS p st i ∧ 0 ≤ m ∧ m < (s.size : Int), val := .d (.int .u8 (sAt s m.toNat)) }
    | _ => .bad
  | .ext i x =>
    match evV st x with
    | .tup vs => { side := evS p st x ∧ i < vs.length, val := nth vs i }
    | _ => .bad
  | .len x =>
    match evV st x with
    | .d (.sl _ _ n _) => { side := evS p st x, val := .d (.int .i64 n) }
    | .osl k =>
      match own? st.own k with
      | some (.row _ _ n _) => { side := evS p st x, val := .d (.int .i64 n), rd := [k] }
      | some (.lit _ n _) => { side := evS p st x, val := .d (.int .i64 n), rd := [k] }
      | _ => .bad
    | .osub _ _ _ n => { side := evS p st x, val := .d (.int .i64 n) }
    | _ => .bad
  | .mkfn f first cap => { side := evSs p st first ∧ evSs p st cap, val := .fn f (evVs st first) (evVs st cap) }
  | .mm mx x y =>
    match evV st x, evV st y with
    | .d (.int k a), .d (.int k' b) => { side := evS p st x ∧ evS p st y ∧ k = k', val := .d (.int k (if mx then max a b else min a b)) }
    | _, _ => .bad
  | .mks e sz bytes z l c =>
    match evV st l, evV st c with
    | .d (.int _ a), .d (.int _ b) => { side := evS p st l ∧ evS p st c ∧ 0 ≤ a ∧ a ≤ b ∧ (b.toNat * bytes ≤ 281474976710656) ∧ b ≤ 9223372036854775807 ∧ d ∉ st.nm, val := .osl d, upd := [(d, some (.row e sz a.toNat (fun _ => z)))] }
    | _, _ => .bad
  | .slc sz x lo hi mx =>
    match evV st x, lo.map (evV st), hi.map (evV st), mx.map (evV st) with
    | .d (.sl _ sz' n f), none, some (.d (.int _ b)), none => { side := evS p st x ∧ 0 ≤ b ∧ b ≤ (n : Int) ∧ sz = sz' ∧ (∀ h, hi = some h → evS p st h), val := .d (.sl false sz b.toNat f) }
    | .d (.sl _ sz' n f), none, some (.d (.int _ b)), some (.d (.int _ m)) => { side := evS p st x ∧ 0 ≤ b ∧ b = m ∧ m ≤ (n : Int) ∧ sz = sz' ∧ (∀ h, hi = some h → evS p st h) ∧ (∀ h, mx = some h → evS p st h), val := .d (.sl true sz b.toNat f) }
    | .d (.sl full sz' n f), some (.d (.int _ a)), none, none => { side := evS p st x ∧ 0 ≤ a ∧ a ≤ (n : Int) ∧ sz = sz' ∧ (∀ h, lo = some h → evS p st h), val := .d (.sl full sz (n - a.toNat) (fun i => f (a.toNat + i))) }
    | .osl k, some (.d (.int _ a)), none, none =>
      match own? st.own k with
      | some (.row _ sz' n _) => { side := evS p st x ∧ 0 ≤ a ∧ a ≤ (n : Int) ∧ sz = sz' ∧ (∀ h, lo = some h → evS p st h), val := .osub k sz a.toNat (n - a.toNat), rd := [k] }
      | _ => .bad
    | .osl k, none, some (.d (.int _ b)), none =>
      match own? st.own k with
      | some (.row _ sz' n _) => { side := evS p st x ∧ 0 ≤ b ∧ b ≤ (n : Int) ∧ sz = sz' ∧ (∀ h, hi = some h → evS p st h), val := .osub k sz 0 b.toNat, rd := [k] }
      | _ => .bad
    | _, _, _, _ => .bad
  | .asl sz len x =>
    match evV st x with
    | .mem cs => { side := evS p st x ∧ len * sz ≤ cs.length, val := .d (.sl true sz len (litRow sz cs)) }
    | _ => .bad
  | .cpy sz x y =>
    match evV st x, evV st y with
    | .osl k, .d (.sl _ sz2 m g) =>
      match own? st.own k with
      | some (.row e sz1 n f) => { side := evS p st x ∧ evS p st y ∧ sz1 = sz ∧ (0 < m → sz2 = sz), val := .d (.int .i64 (min m n : Nat)), upd := [(k, some (.row e sz n (fun i => if i < min m n then g i else f i)))], rd := [k] }
      | _ => .bad
    | .osub k sz1 lo n, .osub k2 sz2 lo2 m =>
      match own? st.own k with
      | some (.row e sz3 N f) => { side := evS p st x ∧ evS p st y ∧ k = k2 ∧ sz1 = sz ∧ sz2 = sz ∧ sz3 = sz, val := .d (.int .i64 (min m n : Nat)), upd := [(k, some (.row e sz N (fun i => if lo ≤ i ∧ i < lo + min m n then f (lo2 + (i - lo)) else f i)))], rd := [k] }
      | _ => .bad
    | _, _ => .bad
  | .app e sz bytes x y =>
    match evV st x, evV st y with
    | .osl k, .d (.sl _ sz2 m g) =>
      match own? st.own k with
      | some (.row e' sz1 n f) => { side := evS p st x ∧ evS p st y ∧ e' = e ∧ sz1 = sz ∧ (0 < m → sz2 = sz) ∧ (n + m) * bytes ≤ 140737488355328 ∧ n + m ≤ maxLen ∧ d ∉ st.nm, val := .osl d, upd := [(k, none), (d, some (.row e sz (n + m) (fun i => if i < n then f i else g (i - n))))], rd := [k] }
      | _ => .bad
    | .d (.sl full sz1 n f), .d (.sl _ sz2 m g) => { side := evS p st x ∧ evS p st y ∧ full = true ∧ (0 < n → sz1 = sz) ∧ (0 < m → sz2 = sz) ∧ (n = 0 ∨ 0 < m) ∧ (n + m) * bytes ≤ 140737488355328 ∧ n + m ≤ maxLen ∧ d ∉ st.nm, val := .osl d, upd := [(d, some (.row e sz (n + m) (fun i => if i < n then f i else g (i - n))))] }
    | .osl k, .osl k2 =>
      match own? st.own k, own? st.own k2 with
      | some (.row e' sz1 n f), some (.lit sz2 m cs) =>
        match toDs cs with
        | some ds => { side := evS p st x ∧ evS p st y ∧ k ≠ k2 ∧ e' = e ∧ sz1 = sz ∧ sz2 = sz ∧ (n + m) * bytes ≤ 140737488355328 ∧ n + m ≤ maxLen ∧ d ∉ st.nm, val := .osl d, upd := [(k, none), (d, some (.row e sz (n + m) (fun i => if i < n then f i else (ds.drop ((i - n) * sz)).take sz)))], rd := [k, k2] }
        | none => .bad
      | _, _ => .bad
    | .d (.sl full sz1 n f), .osl k2 =>
      match own? st.own k2 with
      | some (.lit sz2 m cs) =>
        match toDs cs with
        | some ds => { side := evS p st x ∧ evS p st y ∧ full = true ∧ (0 < n → sz1 = sz) ∧ sz2 = sz ∧ 0 < m ∧ (n + m) * bytes ≤ 140737488355328 ∧ n + m ≤ maxLen ∧ d ∉ st.nm, val := .osl d, upd := [(d, some (.row e sz (n + m) (fun i => if i < n then f i else (ds.drop ((i - n) * sz)).take sz)))], rd := [k2] }
        | none => .bad
      | _ => .bad
    | _, _ => .bad
  | .mkifc t x => if isCell (evV st x) then { side := evS p st x, val := .ifc t (evV st x) } else
      match evV st x with
      | .ag cs => { side := evS p st x, val := .ifc t (.ag cs) }
      | _ => .bad
  | .call _ _ => .bad
  | .callv _ _ => .bad

def applyU (own : List (Nat × Own)) : List (Nat × Option Own) → List (Nat × Own)
  | [] => own
  | (k, some o) :: l => applyU (setO own k o) l
  | (k, none) :: l => applyU (delO own k) l

def newN (nm : List Nat) : List (Nat × Option Own) → List Nat
  | [] => nm
  | (k, some _) :: l => newN (if k ∈ nm then nm else k :: nm) l
  | (_, none) :: l => newN nm l

def setE (env : List (Nat × V)) (dst : Option Nat) (v : V) : List (Nat × V) :=
  match dst with
  | some d => (d, v) :: env
  | none => env

def St.app (st : St) (dst : Option Nat) (e : Ef) : St := { env := setE st.env dst e.val, own := applyU st.own e.upd, nm := newN st.nm e.upd }

/-! The code, compiled to what the engine needs. -/

def cV1 : Value → Option V
  | .int k n => some (.d (.int k n))
  | .bool b => some (.d (.bool b))
  | .slice none 0 0 => some (.d (.sl true 0 0 fun _ => []))
  | .pointer none => some (.d (.raw (.pointer none)))
  | .nilFunc => some (.d (.raw .nilFunc))
  | .nilIface => some (.d (.raw .nilIface))
  | .map none => some (.d (.raw (.map none)))
  | _ => none

def cVs : List Value → Option (List V)
  | [] => some []
  | v :: l =>
    match cV1 v, cVs l with
    | some x, some xs => some (x :: xs)
    | _, _ => none

def cV : Value → Option V
  | .agg cs => (cVs cs.toList).map .ag
  | v => cV1 v

def cX : Operand → Option X
  | .tmp t => some (.t t)
  | .const v => (cV v).map .k
  | .func f => some (.k (.fn (.func f) [] []))
  | .global _ => none

def cXs : List Operand → Option (List X)
  | [] => some []
  | v :: l =>
    match cX v, cXs l with
    | some x, some xs => some (x :: xs)
    | _, _ => none

def aggB (P : Program) (t : TypeId) : Option Bool :=
  match P.underlying t with
  | some (.struct _) => some true
  | some (.array _ _) => some true
  | some _ => some false
  | none => none

def szB (P : Program) (t : TypeId) : Option Nat := (P.info? t).map (·.size)

/-- The cells of a type's zero value. -/
def zeroB (P : Program) (t : TypeId) : Option (List V) :=
  match (P.info? t).bind (·.zero) with
  | some z => cVs z.cells.toList
  | none => none

def cX? : Option Operand → Option (Option X)
  | none => some none
  | some o => (cX o).map some

end Go.Bx
