import Derived.Test.YtanppabbmffokaaGreatXC7
import Derived.Lib.Mul64
set_option linter.unusedSimpArgs false
set_option linter.unusedVariables false
section
namespace Go.Proofs.YtanppabbmffokaaGreat
open Go.Bx
set_option maxRecDepth 10000
theorem wU {a:Int} (h:0≤a∧a≤18446744073709551615):IntKind.u64.wrap a=a:=by rw [IntKind.wrap_u64];omega
def orU (a b:Int):Int:=IntKind.u64.wrap ((BitVec.ofInt IntKind.u64.bits a ||| BitVec.ofInt IntKind.u64.bits b).toNat:Int)
theorem orU_add (a i b:Nat) (h1:a*2 ^ i<18446744073709551616) (h2:b<2 ^ i) (h3:b<18446744073709551616):orU ((a*2 ^ i:Nat):Int) (b:Int)=((a*2 ^ i+b:Nat):Int):=by
 have e0:∀ x:Nat,x<18446744073709551616→(BitVec.ofInt IntKind.u64.bits (x:Int)).toNat=x:=fun x hx=>by simp [IntKind.bits];omega
 have h4:(BitVec.ofInt IntKind.u64.bits ((a*2 ^ i:Nat):Int) ||| BitVec.ofInt IntKind.u64.bits (b:Int)).toNat=a*2 ^ i+b:=by
  rw [BitVec.toNat_or,e0 _ h1,e0 _ h3,←Nat.shiftLeft_eq,Nat.shiftLeft_add_eq_or_of_lt h2]
 have h5:a*2 ^ i+b<18446744073709551616:=by
  rw [←h4];exact (BitVec.ofInt IntKind.u64.bits ((a*2 ^ i:Nat):Int) ||| BitVec.ofInt IntKind.u64.bits (b:Int)).isLt
 rw [orU,h4,wU (by omega)]
theorem fdiv_nat (a b:Nat):(a:Int).fdiv (b:Int)=((a / b:Nat):Int):=by
 cases b with
 |zero=>simp
 |succ b=>rw [Int.fdiv_eq_ediv_of_nonneg _ (by omega)];simp
theorem tdiv_nat (a b:Nat):(a:Int).tdiv (b:Int)=((a / b:Nat):Int):=by
 rw [Int.tdiv_eq_ediv_of_nonneg (by omega)];simp
theorem tmod_nat (a b:Nat):(a:Int).tmod (b:Int)=((a % b:Nat):Int):=by
 rw [Int.tmod_eq_emod_of_nonneg (by omega)];simp
def blen (x:Nat):Nat:=if x=0 then 0 else Nat.log2 x+1
theorem blen_eq {x n:Nat} (h1:2 ^ n≤x) (h2:x<2 ^ (n+1)):blen x=n+1:=by
 have hx:x≠0:=fun e=>by have:=Nat.two_pow_pos n;omega
 rw [blen,if_neg hx,(Nat.log2_eq_iff hx).2 ⟨h1,h2⟩]
theorem blen_spec {x:Nat} (h:x≠0):∃ n,blen x=n+1∧2 ^ n≤x∧x<2 ^ (n+1):=
 ⟨Nat.log2 x,by rw [blen,if_neg h],((Nat.log2_eq_iff h).1 rfl).1,((Nat.log2_eq_iff h).1 rfl).2⟩
theorem blen_shift {x k:Nat} (h:2 ^ k≤x):blen x=blen (x / 2 ^ k)+k:=by
 have h0:0<x / 2 ^ k:=Nat.div_pos h (Nat.two_pow_pos k)
 obtain ⟨n,h1,h2,h3⟩:=blen_spec (x:=x / 2 ^ k) (by omega)
 rw [h1]
 have h4:2 ^ n*2 ^ k≤x:=(Nat.le_div_iff_mul_le (Nat.two_pow_pos k)).1 h2
 have h5:x<2 ^ (n+1)*2 ^ k:=(Nat.div_lt_iff_lt_mul (Nat.two_pow_pos k)).1 h3
 rw [←Nat.pow_add] at h4 h5
 rw [blen_eq (n:=n+k) h4 (by rw [show n+k+1=n+1+k by omega];exact h5)]
 omega
theorem wUn (n:Nat):IntKind.u64.wrap (n:Int)=((n % 18446744073709551616:Nat):Int):=by rw [IntKind.wrap_u64];omega
theorem andN (x:Nat):(BitVec.ofInt IntKind.u64.bits (x:Int) &&& BitVec.ofInt IntKind.u64.bits 4294967295).toNat=x % 4294967296:=by
 rw [BitVec.toNat_and]
 have e1:(BitVec.ofInt IntKind.u64.bits (x:Int)).toNat=x % 18446744073709551616:=by
  simp [IntKind.bits]
 have e2:(BitVec.ofInt IntKind.u64.bits 4294967295).toNat=2 ^ 32-1:=by decide +kernel
 rw [e1,e2,Nat.and_two_pow_sub_one_eq_mod];omega
theorem p32:(2:Int) ^ min 32 IntKind.u64.bits=4294967296:=by decide +kernel
theorem fdivL (n:Nat):(n:Int).fdiv 4294967296=((n / 4294967296:Nat):Int):=fdiv_nat n 4294967296
theorem p16:(2:Int) ^ min 16 IntKind.u64.bits=65536:=by decide +kernel
theorem p8:(2:Int) ^ min 8 IntKind.u64.bits=256:=by decide +kernel
theorem fdivM (n:Nat):(n:Int).fdiv 65536=((n / 65536:Nat):Int):=fdiv_nat n 65536
theorem fdivS (n:Nat):(n:Int).fdiv 256=((n / 256:Nat):Int):=fdiv_nat n 256
theorem sMul64 (x y:Nat) (hx:x<18446744073709551616) (hy:y<18446744073709551616):Ctr Tryz.prog 177 [.d (.int .u64 x),.d (.int .u64 y)] [] (.tup [.d (.int .u64 ((x*y / 18446744073709551616:Nat):Int)),.d (.int .u64 ((x*y % 18446744073709551616:Nat):Int))]) [] []:=by
 refine ctr_pure Tryz.func177 ok177 rfl cc177 cr177 Tryz.ntmps177 (by simp) rfl rfl ?_;intro c hP hfn;simp only [kc177,andN,p32,fdivL,←Int.natCast_mul,←Int.natCast_add,wUn,vcd,↓vcp,seval]
 have hm:=Go.Lib.mul64_hi x y hx hy
 have ha:=Go.Lib.half_mul_le (a:=x / 4294967296) (b:=y / 4294967296) (by omega) (by omega)
 have hb:=Go.Lib.half_mul_le (a:=x / 4294967296) (b:=y % 4294967296) (by omega) (by omega)
 have hc:=Go.Lib.half_mul_le (a:=x % 4294967296) (b:=y / 4294967296) (by omega) (by omega)
 have hd:=Go.Lib.half_mul_le (a:=x % 4294967296) (b:=y % 4294967296) (by omega) (by omega)
 (refine RetK.pure (by simp only [rs177,rsb,vcd,↓vcp,seval]) (VLe.tups ?_);simp only [rs177,rsb,vcd,↓vcp,seval])
 refine ⟨VLe.int (congrArg Int.ofNat ?_),VLe.int rfl,trivial⟩
 have e1:x % 4294967296 % 18446744073709551616=x % 4294967296:=by omega
 have e2:y % 4294967296 % 18446744073709551616=y % 4294967296:=by omega
 rw [e1,e2]
 generalize (x / 4294967296)*(y / 4294967296)=a at *
 generalize (x / 4294967296)*(y % 4294967296)=b at *
 generalize (x % 4294967296)*(y / 4294967296)=c at *
 generalize (x % 4294967296)*(y % 4294967296)=d at *
 generalize x*y / 18446744073709551616=z at *
 omega
def tab:ByteArray:=⟨#[0,1,2,2,3,3,3,3,4,4,4,4,4,4,4,4,5,5,5,5,5,5,5,5,5,5,5,5,5,5,5,5,6,6,6,6,6,6,6,6,6,6,6,6,6,6,6,6,6,6,6,6,6,6,6,6,6,6,6,6,6,6,6,6,7,7,7,7,7,7,7,7,7,7,7,7,7,7,7,7,7,7,7,7,7,7,7,7,7,7,7,7,7,7,7,7,7,7,7,7,7,7,7,7,7,7,7,7,7,7,7,7,7,7,7,7,7,7,7,7,7,7,7,7,7,7,7,7,8,8,8,8,8,8,8,8,8,8,8,8,8,8,8,8,8,8,8,8,8,8,8,8,8,8,8,8,8,8,8,8,8,8,8,8,8,8,8,8,8,8,8,8,8,8,8,8,8,8,8,8,8,8,8,8,8,8,8,8,8,8,8,8,8,8,8,8,8,8,8,8,8,8,8,8,8,8,8,8,8,8,8,8,8,8,8,8,8,8,8,8,8,8,8,8,8,8,8,8,8,8,8,8,8,8,8,8,8,8,8,8,8,8,8,8,8,8,8,8,8,8,8,8,8,8,8,8]⟩
theorem tab_ok:∀ z:Nat,z<256→sAt tab z=((blen z:Nat):Int):=by
 have h:((List.range 256).all fun z=>sAt tab z == ((blen z:Nat):Int))=true:=by decide +kernel
 intro z hz
 exact eq_of_beq (List.all_eq_true.1 h z (by simpa using hz))
theorem u8n {z:Nat} (h:z<256):IntKind.u8.wrap (z:Int)=(z:Int):=by rw [IntKind.wrap_u8];omega
theorem blen_256 {z:Nat} (h:z<256):blen z≤8:=by
 by_cases h0:z=0
 ·subst h0;simp [blen]
 ·obtain ⟨n,h1,h2,h3⟩:=blen_spec h0
  rw [h1]
  have:n<8:=(Nat.pow_lt_pow_iff_right (show 1<2 by omega)).1 (show 2 ^ n<2 ^ 8 by omega)
  omega
theorem sLen64 (x:Nat) (hx:x<18446744073709551616):Ctr Tryz.prog 169 [.d (.int .u64 x)] [] (.d (.int .i64 ((blen x:Nat):Int))) [] []:=by
 refine ctr_pure Tryz.func169 ok169 rfl cc169 cr169 Tryz.ntmps169 (by simp) rfl rfl ?_;intro c hP hfn;simp only [kc169,p32,p16,p8,fdivL,fdivM,fdivS,←Int.natCast_mul,←Int.natCast_add,wUn,vcd,↓vcp,seval]
 repeat' first|refine ⟨fun h=>?_,fun h=>?_⟩|refine aO ?_|refine aT ?_|fail
 ·simp only [ge_iff_le,decide_eq_true_eq,decide_eq_false_iff_not,Int.not_le] at *
  have hz:x / 4294967296 / 65536 / 256<256:=by omega
  have q32:=blen_shift (x:=x) (k:=32) (by omega)
  rw [show (2:Nat) ^ 32=4294967296 from rfl] at q32
  have q16:=blen_shift (x:=x / 4294967296) (k:=16) (by omega)
  rw [show (2:Nat) ^ 16=65536 from rfl] at q16
  have q8:=blen_shift (x:=x / 4294967296 / 65536) (k:=8) (by omega)
  rw [show (2:Nat) ^ 8=256 from rfl] at q8
  have e:=u8n hz
  have et:=tab_ok _ hz
  have hb:=blen_256 hz
  rw [e]
  refine And.intro ⟨by omega,(show (((x / 4294967296 / 65536 / 256:Nat):Int)<256) by omega)⟩ ?_
  exact RetK.pure (by simp only [rs169,rsb,vcd,↓vcp,seval]) (by (simp only [rs169,rsb,enb,vcd,↓vcp,seval])<;>(first|(change IntKind.i64.wrap (_+IntKind.i64.wrap (sAt tab (x / 4294967296 / 65536 / 256)))=_;rw [et,wI (a:=((blen (x / 4294967296 / 65536 / 256):Nat):Int)) (by omega)];rw [q32,q16,q8];generalize blen (x / 4294967296 / 65536 / 256)=w at *;simp only [IntKind.wrap_i64];omega)))
 ·simp only [ge_iff_le,decide_eq_true_eq,decide_eq_false_iff_not,Int.not_le] at *
  have hz:x / 4294967296 / 65536<256:=by omega
  have q32:=blen_shift (x:=x) (k:=32) (by omega)
  rw [show (2:Nat) ^ 32=4294967296 from rfl] at q32
  have q16:=blen_shift (x:=x / 4294967296) (k:=16) (by omega)
  rw [show (2:Nat) ^ 16=65536 from rfl] at q16
  have e:=u8n hz
  have et:=tab_ok _ hz
  have hb:=blen_256 hz
  rw [e]
  refine And.intro ⟨by omega,(show (((x / 4294967296 / 65536:Nat):Int)<256) by omega)⟩ ?_
  exact RetK.pure (by simp only [rs169,rsb,vcd,↓vcp,seval]) (by (simp only [rs169,rsb,enb,vcd,↓vcp,seval])<;>(first|(change IntKind.i64.wrap (_+IntKind.i64.wrap (sAt tab (x / 4294967296 / 65536)))=_;rw [et,wI (a:=((blen (x / 4294967296 / 65536):Nat):Int)) (by omega)];rw [q32,q16];generalize blen (x / 4294967296 / 65536)=w at *;simp only [IntKind.wrap_i64];omega)))
 ·simp only [ge_iff_le,decide_eq_true_eq,decide_eq_false_iff_not,Int.not_le] at *
  have hz:x / 4294967296 / 256<256:=by omega
  have q32:=blen_shift (x:=x) (k:=32) (by omega)
  rw [show (2:Nat) ^ 32=4294967296 from rfl] at q32
  have q8:=blen_shift (x:=x / 4294967296) (k:=8) (by omega)
  rw [show (2:Nat) ^ 8=256 from rfl] at q8
  have e:=u8n hz
  have et:=tab_ok _ hz
  have hb:=blen_256 hz
  rw [e]
  refine And.intro ⟨by omega,(show (((x / 4294967296 / 256:Nat):Int)<256) by omega)⟩ ?_
  exact RetK.pure (by simp only [rs169,rsb,vcd,↓vcp,seval]) (by (simp only [rs169,rsb,enb,vcd,↓vcp,seval])<;>(first|(change IntKind.i64.wrap (_+IntKind.i64.wrap (sAt tab (x / 4294967296 / 256)))=_;rw [et,wI (a:=((blen (x / 4294967296 / 256):Nat):Int)) (by omega)];rw [q32,q8];generalize blen (x / 4294967296 / 256)=w at *;simp only [IntKind.wrap_i64];omega)))
 ·simp only [ge_iff_le,decide_eq_true_eq,decide_eq_false_iff_not,Int.not_le] at *
  have hz:x / 4294967296<256:=by omega
  have q32:=blen_shift (x:=x) (k:=32) (by omega)
  rw [show (2:Nat) ^ 32=4294967296 from rfl] at q32
  have e:=u8n hz
  have et:=tab_ok _ hz
  have hb:=blen_256 hz
  rw [e]
  refine And.intro ⟨by omega,(show (((x / 4294967296:Nat):Int)<256) by omega)⟩ ?_
  exact RetK.pure (by simp only [rs169,rsb,vcd,↓vcp,seval]) (by (simp only [rs169,rsb,enb,vcd,↓vcp,seval])<;>(first|(change IntKind.i64.wrap (_+IntKind.i64.wrap (sAt tab (x / 4294967296)))=_;rw [et,wI (a:=((blen (x / 4294967296):Nat):Int)) (by omega)];rw [q32];generalize blen (x / 4294967296)=w at *;simp only [IntKind.wrap_i64];omega)))
 ·simp only [ge_iff_le,decide_eq_true_eq,decide_eq_false_iff_not,Int.not_le] at *
  have hz:x / 65536 / 256<256:=by omega
  have q16:=blen_shift (x:=x) (k:=16) (by omega)
  rw [show (2:Nat) ^ 16=65536 from rfl] at q16
  have q8:=blen_shift (x:=x / 65536) (k:=8) (by omega)
  rw [show (2:Nat) ^ 8=256 from rfl] at q8
  have e:=u8n hz
  have et:=tab_ok _ hz
  have hb:=blen_256 hz
  rw [e]
  refine And.intro ⟨by omega,(show (((x / 65536 / 256:Nat):Int)<256) by omega)⟩ ?_
  exact RetK.pure (by simp only [rs169,rsb,vcd,↓vcp,seval]) (by (simp only [rs169,rsb,enb,vcd,↓vcp,seval])<;>(first|(change IntKind.i64.wrap (_+IntKind.i64.wrap (sAt tab (x / 65536 / 256)))=_;rw [et,wI (a:=((blen (x / 65536 / 256):Nat):Int)) (by omega)];rw [q16,q8];generalize blen (x / 65536 / 256)=w at *;simp only [IntKind.wrap_i64];omega)))
 ·simp only [ge_iff_le,decide_eq_true_eq,decide_eq_false_iff_not,Int.not_le] at *
  have hz:x / 65536<256:=by omega
  have q16:=blen_shift (x:=x) (k:=16) (by omega)
  rw [show (2:Nat) ^ 16=65536 from rfl] at q16
  have e:=u8n hz
  have et:=tab_ok _ hz
  have hb:=blen_256 hz
  rw [e]
  refine And.intro ⟨by omega,(show (((x / 65536:Nat):Int)<256) by omega)⟩ ?_
  exact RetK.pure (by simp only [rs169,rsb,vcd,↓vcp,seval]) (by (simp only [rs169,rsb,enb,vcd,↓vcp,seval])<;>(first|(change IntKind.i64.wrap (_+IntKind.i64.wrap (sAt tab (x / 65536)))=_;rw [et,wI (a:=((blen (x / 65536):Nat):Int)) (by omega)];rw [q16];generalize blen (x / 65536)=w at *;simp only [IntKind.wrap_i64];omega)))
 ·simp only [ge_iff_le,decide_eq_true_eq,decide_eq_false_iff_not,Int.not_le] at *
  have hz:x / 256<256:=by omega
  have q8:=blen_shift (x:=x) (k:=8) (by omega)
  rw [show (2:Nat) ^ 8=256 from rfl] at q8
  have e:=u8n hz
  have et:=tab_ok _ hz
  have hb:=blen_256 hz
  rw [e]
  refine And.intro ⟨by omega,(show (((x / 256:Nat):Int)<256) by omega)⟩ ?_
  exact RetK.pure (by simp only [rs169,rsb,vcd,↓vcp,seval]) (by (simp only [rs169,rsb,enb,vcd,↓vcp,seval])<;>(first|(change IntKind.i64.wrap (_+IntKind.i64.wrap (sAt tab (x / 256)))=_;rw [et,wI (a:=((blen (x / 256):Nat):Int)) (by omega)];rw [q8];generalize blen (x / 256)=w at *;simp only [IntKind.wrap_i64];omega)))
 ·simp only [ge_iff_le,decide_eq_true_eq,decide_eq_false_iff_not,Int.not_le] at *
  have hz:x<256:=by omega
  have e:=u8n hz
  have et:=tab_ok _ hz
  have hb:=blen_256 hz
  rw [e]
  refine And.intro ⟨by omega,(show (((x:Nat):Int)<256) by omega)⟩ ?_
  exact RetK.pure (by simp only [rs169,rsb,vcd,↓vcp,seval]) (by (simp only [rs169,rsb,enb,vcd,↓vcp,seval])<;>(first|(change IntKind.i64.wrap (_+IntKind.i64.wrap (sAt tab (x)))=_;rw [et,wI (a:=((blen (x):Nat):Int)) (by omega)];generalize blen (x)=w at *;simp only [IntKind.wrap_i64];omega)))
theorem sLZ (x:Nat) (hx:x<18446744073709551616):Ctr Tryz.prog 200 [.d (.int .u64 x)] [] (.d (.int .i64 ((64-blen x:Nat):Int))) [] []:=by
 have hb:blen x≤64:=by
  by_cases h0:x=0
  ·subst h0;simp [blen]
  ·obtain ⟨n,h1,h2,h3⟩:=blen_spec h0
   rw [h1]
   have:n<64:=(Nat.pow_lt_pow_iff_right (show 1<2 by omega)).1 (show 2 ^ n<2 ^ 64 by omega)
   omega
 refine ctr_pure Tryz.func200 ok200 rfl cc200 cr200 Tryz.ntmps200 (by simp) rfl rfl ?_;intro c hP hfn;simp only [kc200,vcd,↓vcp,seval]
 repeat' first|((first|refine tp hP (by exact sLen64 x hx) ?_|refine tg hP (fun _=>by exact sLen64 x hx) ?_|refine tv hP rfl (by exact sLen64 x hx) ?_);try simp only [vcd,↓vcp,seval])|refine ⟨fun h=>?_,fun h=>?_⟩|refine aO ?_|refine aT ?_|fail
 exact RetK.pure (by simp only [rs200,rsb,vcd,↓vcp,seval]) (by (simp only [rs200,rsb,enb,vcd,↓vcp,seval])<;>(first|(rw [wI (by omega)];omega)))
theorem kn_dec {u d v v1 v0 q r:Nat} (hv:v=v1*4294967296+v0) (hu:u<v) (hd:d<4294967296) (e:u=q*v1+r) (hc:4294967296≤q∨4294967296*r+d<q*v0):(u*4294967296+d) / v<q:=by
 rw [Nat.div_lt_iff_lt_mul (by omega)]
 rcases hc with h|h
 ·have h1:4294967296*v≤q*v:=Nat.mul_le_mul_right _ h
  omega
 ·have h1:q*v=q*v1*4294967296+q*v0:=by rw [hv,Nat.mul_add,Nat.mul_assoc]
  omega
theorem kn_le {u d v v1 v0 q r:Nat} (hv:v=v1*4294967296+v0) (h0:0<v) (e:u=q*v1+r) (h:q*v0≤4294967296*r+d):q≤(u*4294967296+d) / v:=by
 rw [Nat.le_div_iff_mul_le h0]
 have h1:q*v=q*v1*4294967296+q*v0:=by rw [hv,Nat.mul_add,Nat.mul_assoc]
 omega
theorem kn_lo {u d v v1 v0:Nat} (hv:v=v1*4294967296+v0) (h1:0<v1) (hd:d<4294967296):(u*4294967296+d) / v≤u / v1:=by
 rw [Nat.le_div_iff_mul_le h1]
 have h2:=Nat.div_mul_le_self (u*4294967296+d) v
 generalize (u*4294967296+d) / v=X at *
 have h3:X*v=X*v1*4294967296+X*v0:=by rw [hv,Nat.mul_add,Nat.mul_assoc]
 generalize X*v1=a at *
 omega
theorem kn_start {u v v1 v0:Nat} (hv:v=v1*4294967296+v0) (h1:2147483648≤v1) (h0:v0<4294967296) (hu:u<v):u / v1≤4294967297:=by
 have:u / v1<4294967298:=by
  rw [Nat.div_lt_iff_lt_mul (by omega)]
  omega
 omega
theorem kn_brk {u d v v1 v0 q r:Nat} (hv:v=v1*4294967296+v0) (h0:v0<4294967296) (hv0:0<v) (e:u=q*v1+r) (hq:q≤4294967296) (hr:4294967296≤r):q≤(u*4294967296+d) / v:=by
 refine kn_le hv hv0 e ?_
 have:q*v0≤4294967296*v0:=Nat.mul_le_mul_right _ hq
 omega
theorem kn_join {u d d0 t p q w z:Nat} (h1:u*4294967296+d=p+w) (h2:w*4294967296+d0=q+z) (ht:t=d*4294967296+d0):u*18446744073709551616+t=p*4294967296+q+z:=by
 rw [ht,show (18446744073709551616:Nat)=4294967296*4294967296 from rfl,←Nat.mul_assoc,←Nat.add_assoc,←Nat.add_mul,h1,Nat.add_mul,Nat.add_assoc,h2,Nat.add_assoc]
theorem g1 (u v1:Nat) (hu:u<18446744073709551616):IntKind.u64.wrap ((u / v1:Nat):Int)=((u / v1:Nat):Int):=by
 rw [wUn,Nat.mod_eq_of_lt (Nat.lt_of_le_of_lt (Nat.div_le_self u v1) hu)]
theorem g2 (u v1:Nat) (hu:u<18446744073709551616):IntKind.u64.wrap (((u / v1:Nat):Int)*(v1:Int))=((u / v1*v1:Nat):Int):=by
 have:=Nat.div_mul_le_self u v1
 rw [←Int.natCast_mul,wU (by omega)]
theorem g3 (u v1:Nat) (hu:u<18446744073709551616):IntKind.u64.wrap ((u:Int)-((u / v1*v1:Nat):Int))=((u % v1:Nat):Int):=by
 have h1:=Nat.div_mul_le_self u v1
 have h2:=Nat.div_add_mod' u v1
 have:u % v1≤u:=Nat.mod_le u v1
 exact (wU (by omega)).trans (by omega)
theorem g4 (u d v q w:Nat) (hw:w<18446744073709551616) (e:u*4294967296+d=q*v+w) :
  IntKind.u64.wrap (IntKind.u64.wrap (IntKind.u64.wrap ((u:Int)*4294967296)+(d:Int))-IntKind.u64.wrap ((q:Int)*(v:Int)))=(w:Int):=by
 rw [←Int.natCast_mul]
 generalize q*v=p at *
 simp only [IntKind.wrap_u64]
 omega
theorem gm (x:Nat):IntKind.u64.wrap ((x % 4294967296:Nat):Int)=((x % 4294967296:Nat):Int):=by rw [wU (by omega)]
structure KnI (u d v v1 v0 q r:Nat):Prop where
 lo:(u*4294967296+d) / v≤q
 hi:q≤4294967297
 e:u=q*v1+r
 r:r<4294967296
theorem kn_cond {d v0 q r:Nat} (hd:d<4294967296) (h0:v0<4294967296) (hr:r<4294967296) :
  ((decide ((q:Int)≥4294967296) || decide (IntKind.u64.wrap ((q:Int)*(v0:Int))>IntKind.u64.wrap (IntKind.u64.wrap (4294967296*(r:Int))+(d:Int))))=true)↔(4294967296≤q∨4294967296*r+d<q*v0):=by
 by_cases hq:4294967296≤q
 ·have:(q:Int)≥4294967296:=by omega
  simp [this,hq]
 ·have h1:q*v0≤4294967295*4294967295:=Nat.mul_le_mul (by omega) (by omega)
  have h2:¬ ((q:Int)≥4294967296):=by omega
  rw [←Int.natCast_mul,wU (a:=((q*v0:Nat):Int)) (by omega),wU (a:=4294967296*(r:Int)) (by omega),wU (by omega)]
  simp only [h2,decide_false,Bool.false_or,decide_eq_true_eq,hq,false_or]
  omega
theorem sDiv64 (hi lo y:Nat) (hh:hi<y) (hl:lo<18446744073709551616) (hy:y<18446744073709551616):Ctr Tryz.prog 179 [.d (.int .u64 hi),.d (.int .u64 lo),.d (.int .u64 y)] []
  (.tup [.d (.int .u64 (((hi*18446744073709551616+lo) / y:Nat):Int)),.d (.int .u64 (((hi*18446744073709551616+lo) % y:Nat):Int))]) [] []:=by
 obtain ⟨n,b1,b2,b3⟩:=blen_spec (x:=y) (by omega)
 have hn:n<64:=(Nat.pow_lt_pow_iff_right (show 1<2 by omega)).1 (show 2 ^ n<2 ^ 64 by omega)
 have hs:64-blen y=63-n:=by omega
 have lz:=sLZ y hy
 rw [hs] at lz
 obtain ⟨sh,hsd⟩:∃ sh,63-n=sh:=⟨_,rfl⟩
 rw [hsd] at lz
 obtain ⟨P,hP2⟩:∃ P,2 ^ sh=P:=⟨_,rfl⟩
 obtain ⟨Q,hQ2⟩:∃ Q,2 ^ (64-sh)=Q:=⟨_,rfl⟩
 have hP0:0<P:=hP2▸Nat.two_pow_pos sh
 have hQ0:0<Q:=hQ2▸Nat.two_pow_pos _
 have hPQ:Q*P=18446744073709551616:=by
  rw [←hP2,←hQ2,←Nat.pow_add,show 64-sh+sh=64 by omega]
 obtain ⟨v,hv⟩:∃ v,y*P=v:=⟨_,rfl⟩
 have v63:9223372036854775808≤v:=by
  have h1:2 ^ n*P≤y*P:=Nat.mul_le_mul_right _ b2
  rw [←hP2,←Nat.pow_add,show n+sh=63 by omega,hP2,hv] at h1
  exact h1
 have v64:v<18446744073709551616:=by
  have h1:y*P<2 ^ (n+1)*P:=Nat.mul_lt_mul_of_pos_right b3 hP0
  rw [←hP2,←Nat.pow_add,show n+1+sh=64 by omega,hP2,hv] at h1
  exact h1
 obtain ⟨g,hg⟩:∃ g,lo / Q=g:=⟨_,rfl⟩
 obtain ⟨t,ht⟩:∃ t,lo*P % 18446744073709551616=t:=⟨_,rfl⟩
 have hgP:g<P:=by
  rw [←hg,Nat.div_lt_iff_lt_mul hQ0,Nat.mul_comm,hPQ];exact hl
 have hlo:lo*P=g*18446744073709551616+t:=by
  have h1:=Nat.div_add_mod (lo*P) 18446744073709551616
  have h2:lo*P / 18446744073709551616=g:=by rw [←hPQ,Nat.mul_div_mul_right _ _ hP0,hg]
  rw [h2,ht] at h1;omega
 obtain ⟨u,hu⟩:∃ u,hi*P+g=u:=⟨_,rfl⟩
 have ht64:t<18446744073709551616:=by rw [←ht];exact Nat.mod_lt _ (by omega)
 have hN:(hi*18446744073709551616+lo)*P=u*18446744073709551616+t:=by
  rw [Nat.add_mul,hlo,←hu,Nat.mul_right_comm];omega
 have huv:u<v:=by
  have h1:(hi*18446744073709551616+lo)<y*18446744073709551616:=by omega
  have h2:(hi*18446744073709551616+lo)*P<y*18446744073709551616*P:=Nat.mul_lt_mul_of_pos_right h1 hP0
  rw [hN,Nat.mul_right_comm,hv] at h2
  omega
 have hhP:hi*P<18446744073709551616:=by omega
 have e1:IntKind.u64.wrap (sh:Int)=(sh:Int):=wU (by omega)
 have e2:(2:Int) ^ min sh IntKind.u64.bits=(P:Int):=by
  rw [show min sh IntKind.u64.bits=sh from Nat.min_eq_left (show sh≤64 by omega),←hP2];simp
 have e3:IntKind.u64.wrap ((y:Int)*(P:Int))=(v:Int):=by rw [←Int.natCast_mul,hv,wU (by omega)]
 have e4:IntKind.u64.wrap ((hi:Int)*(P:Int))=((hi*P:Nat):Int):=by rw [←Int.natCast_mul];exact wU (by omega)
 have e5:IntKind.u64.wrap (64-(sh:Int))=((64-sh:Nat):Int):=(wU (by omega)).trans (by omega)
 have e6:(2:Int) ^ min (64-sh) IntKind.u64.bits=(Q:Int):=by
  rw [show min (64-sh) IntKind.u64.bits=64-sh from Nat.min_eq_left (show 64-sh≤64 by omega),←hQ2];simp
 have e7:(lo:Int).fdiv (Q:Int)=(g:Int):=by rw [fdiv_nat,hg]
 have e8:IntKind.u64.wrap ((BitVec.ofInt IntKind.u64.bits ((hi*P:Nat):Int) ||| BitVec.ofInt IntKind.u64.bits (g:Int)).toNat:Int)=(u:Int):=by
  have:=orU_add hi sh g (by rw [hP2];omega) (by rw [hP2];omega) (by omega)
  rw [hP2,hu] at this
  exact this
 have e9:IntKind.u64.wrap ((lo:Int)*(P:Int))=(t:Int):=by rw [←Int.natCast_mul,wUn,ht]
 refine ctr_pure Tryz.func179 ok179 rfl cc179 cr179 Tryz.ntmps179 (by simp) rfl rfl ?_;intro c hP hfn;simp only [kc179,vcd,↓vcp,seval]
 refine ⟨fun h=>?_,fun h=>?_⟩
 ·exfalso;simp at h;omega
 refine ⟨fun h2=>?_,fun h2=>?_⟩
 ·exfalso;simp at h2;omega
 refine ⟨fun h3=>?_,fun h3=>?_⟩
 ·have h0:hi=0:=by simpa using h3
  subst h0
  repeat' first|refine ⟨fun h=>?_,fun h=>?_⟩|refine aO ?_|refine aT ?_|fail
  (refine RetK.pure (by simp only [rs179,rsb,vcd,↓vcp,seval]) (VLe.tups ?_);simp only [rs179,rsb,vcd,↓vcp,seval])
  refine ⟨VLe.int ?_,VLe.int ?_,trivial⟩
  ·simp only [tdiv_nat,g1 _ _ hl,Nat.zero_mul,Nat.zero_add]
  ·simp only [tmod_nat,Nat.zero_mul,Nat.zero_add]
 have hv1:v=v / 4294967296*4294967296+v % 4294967296:=by omega
 have hv1b:2147483648≤v / 4294967296:=by omega
 have hv0:v % 4294967296<4294967296:=by omega
 obtain ⟨v1,hv1d⟩:∃ v1,v / 4294967296=v1:=⟨_,rfl⟩
 obtain ⟨v0,hv0d⟩:∃ v0,v % 4294967296=v0:=⟨_,rfl⟩
 obtain ⟨d,hdd⟩:∃ d,t / 4294967296=d:=⟨_,rfl⟩
 obtain ⟨d0,hd0d⟩:∃ d0,t % 4294967296=d0:=⟨_,rfl⟩
 have hd:d<4294967296:=by omega
 have hd0:d0<4294967296:=by omega
 have f1:(v:Int).fdiv 4294967296=(v1:Int):=by rw [fdivL,hv1d]
 have f2:(t:Int).fdiv 4294967296=(d:Int):=by rw [fdivL,hdd]
 have f3:IntKind.u64.wrap ((BitVec.ofInt IntKind.u64.bits (v:Int) &&& BitVec.ofInt IntKind.u64.bits 4294967295).toNat:Int)=(v0:Int):=by rw [andN,gm,hv0d]
 have f4:IntKind.u64.wrap ((BitVec.ofInt IntKind.u64.bits (t:Int) &&& BitVec.ofInt IntKind.u64.bits 4294967295).toNat:Int)=(d0:Int):=by rw [andN,gm,hd0d]
 rw [hv1d,hv0d] at hv1
 rw [hv1d] at hv1b
 rw [hv0d] at hv0
 have hu64:u<18446744073709551616:=by omega
 have f5:IntKind.u64.wrap ((u:Int).tdiv (v1:Int))=((u / v1:Nat):Int):=by rw [tdiv_nat,g1 _ _ hu64]
 have hdiv:∀ q r,KnI u d v v1 v0 q r→(4294967296≤q∨4294967296*r+d<q*v0)→(u*4294967296+d) / v+1≤q:=fun q r h hc=>kn_dec hv1 huv hd h.e hc
 obtain ⟨q1,hq1⟩:∃ q1,(u*4294967296+d) / v=q1:=⟨_,rfl⟩
 obtain ⟨w,hw⟩:∃ w,(u*4294967296+d) % v=w:=⟨_,rfl⟩
 have hwv:w<v:=by rw [←hw];exact Nat.mod_lt _ (by omega)
 have hqw:u*4294967296+d=q1*v+w:=by
  have:=Nat.div_add_mod' (u*4294967296+d) v
  rw [hq1,hw] at this;exact this.symm
 obtain ⟨q0,hq0⟩:∃ q0,(w*4294967296+d0) / v=q0:=⟨_,rfl⟩
 obtain ⟨z,hz⟩:∃ z,(w*4294967296+d0) % v=z:=⟨_,rfl⟩
 have hzv:z<v:=by rw [←hz];exact Nat.mod_lt _ (by omega)
 have hqz:w*4294967296+d0=q0*v+z:=by
  have:=Nat.div_add_mod' (w*4294967296+d0) v
  rw [hq0,hz] at this;exact this.symm
 have hq1b:q1<4294967296:=by rw [←hq1,Nat.div_lt_iff_lt_mul (by omega)];omega
 have hq0b:q0<4294967296:=by rw [←hq0,Nat.div_lt_iff_lt_mul (by omega)];omega
 have hw64:w<18446744073709551616:=by omega
 have hz64:z<18446744073709551616:=by omega
 have f6:=g4 u d v q1 w hw64 hqw
 have f7:=g4 w d0 v q0 z hz64 hqz
 have f8:IntKind.u64.wrap ((w:Int).tdiv (v1:Int))=((w / v1:Nat):Int):=by rw [tdiv_nat,g1 _ _ hw64]
 have hfin:hi*18446744073709551616+lo=(q1*4294967296+q0)*y+z / P∧z / P<y:=by
  have h1:(hi*18446744073709551616+lo)*P=(q1*4294967296+q0)*v+z:=by
   have ht2:t=d*4294967296+d0:=by omega
   have h2:(q1*4294967296+q0)*v=q1*v*4294967296+q0*v:=by rw [Nat.add_mul,Nat.mul_right_comm]
   rw [hN,h2];exact kn_join hqw hqz ht2
  have h3:(hi*18446744073709551616+lo)*P=(q1*4294967296+q0)*y*P+z:=by rw [h1,←hv,Nat.mul_assoc]
  have h4:z=((hi*18446744073709551616+lo)-(q1*4294967296+q0)*y)*P:=by rw [Nat.sub_mul];omega
  have h5:z / P=(hi*18446744073709551616+lo)-(q1*4294967296+q0)*y:=by rw [h4,Nat.mul_div_cancel _ hP0]
  have h6:(q1*4294967296+q0)*y≤hi*18446744073709551616+lo:=Nat.le_of_mul_le_mul_right (by omega) hP0
  refine ⟨by rw [h5];exact (Nat.add_sub_cancel' h6).symm,?_⟩
  rw [Nat.div_lt_iff_lt_mul hP0,hv];exact hzv
 have hqq:(hi*18446744073709551616+lo) / y=q1*4294967296+q0:=by
  rw [hfin.1,Nat.mul_comm _ y,Nat.mul_add_div (by omega),Nat.div_eq_of_lt hfin.2,Nat.add_zero]
 have hrr:(hi*18446744073709551616+lo) % y=z / P:=by
  rw [hfin.1,Nat.mul_comm _ y,Nat.mul_add_mod,Nat.mod_eq_of_lt hfin.2]
 repeat' first|((first|refine tp hP (by exact lz) ?_|refine tg hP (fun _=>by exact lz) ?_|refine tv hP rfl (by exact lz) ?_);try simp only [p32,e1,e2,e3,e4,e5,e6,e7,e8,e9,f1,f2,f3,f4,f5,g2 u v1 hu64,g3 u v1 hu64,vcd,↓vcp,seval])|refine ⟨fun h=>?_,fun h=>?_⟩|refine aO ?_|refine aT ?_|fail
 refine vcC.loopX (X:=Nat×Nat) (Y:=Unit) (fun x=>⟨[(2,.d (.int .u64 v)),(8,.d (.int .u64 sh)),(9,.d (.int .u64 v1)),(10,.d (.int .u64 v0)),(11,.d (.int .u64 u)),(13,.d (.int .u64 d)),(14,.d (.int .u64 d0)),(15,.d (.int .u64 x.1)),(16,.d (.int .u64 x.2))],[],[]⟩)
  (fun x=>KnI u d v v1 v0 x.1 x.2) (fun x=>x.1) (u / v1,u % v1)
  (fun _=>⟨[(2,.d (.int .u64 v)),(8,.d (.int .u64 sh)),(9,.d (.int .u64 v1)),(10,.d (.int .u64 v0)),(11,.d (.int .u64 u)),(13,.d (.int .u64 d)),(14,.d (.int .u64 d0)),(15,.d (.int .u64 q1))],[],[]⟩) (fun _=>True)
  ⟨kn_lo hv1 (by omega) hd,kn_start hv1 hv1b hv0 huv,(Nat.div_add_mod' u v1).symm,by have:=Nat.mod_lt u (show 0<v1 by omega);omega⟩ (Wk.of [] hfn rfl (by simp only [enb,vcd,↓vcp,seval]) (by simp only [enb,vcd,↓vcp,seval])) ?_ ?_
 ·rintro ⟨q,r⟩ hk
  simp only at hk
  have hc:=kn_cond (q:=q) hd hv0 hk.r
  simp only [vcd,↓vcp,seval]
  refine ⟨fun h4=>?_,fun h4=>?_⟩
  ·have h5:=hdiv q r hk (hc.1 h4)
   have k1:=hk.e
   have k2:=hk.r
   have k3:=hk.hi
   have c1:IntKind.u64.wrap ((q:Int)-1)=((q-1:Nat):Int):=(wU (by omega)).trans (by omega)
   have c2:IntKind.u64.wrap ((r:Int)+(v1:Int))=((r+v1:Nat):Int):=(wU (by omega)).trans (by omega)
   have c3:u=(q-1)*v1+(r+v1):=by
    have:q*v1=(q-1)*v1+v1:=by
     rw [←Nat.succ_mul];congr 1;omega
    omega
   simp only [c1,c2]
   refine ⟨fun h6=>?_,fun h6=>?_⟩
   ·have h7:4294967296≤r+v1:=by have:=of_decide_eq_true h6;omega
    have h8:=kn_brk (d:=d) hv1 hv0 (by omega) c3 (by omega) h7
    refine ⟨(),Wk.of [] hfn rfl (by simp only [enb,vcd,↓vcp,seval];omega) (by simp only [enb,vcd,↓vcp,seval])⟩
   ·have h7:r+v1<4294967296:=by have:=of_decide_eq_false h6;omega
    exact lopX.on (q-1,r+v1) ⟨by simp only;omega,by simp only;omega,c3,h7⟩ (by simp only;omega) (Wk.of [] hfn rfl (by simp only [enb,vcd,↓vcp,seval]) (by simp only [enb,vcd,↓vcp,seval]))
  ·have h5:¬ (4294967296≤q∨4294967296*r+d<q*v0):=fun e=>by rw [hc.2 e] at h4;cases h4
   have h8:=kn_le (d:=d) hv1 (by omega) hk.e (by omega)
   have h9:=hk.lo
   exact ⟨(),Wk.of [] hfn rfl (by simp only [enb,vcd,↓vcp,seval];omega) (by simp only [enb,vcd,↓vcp,seval])⟩
 ·rintro - -
  simp only [f6,f8,g2 w v1 hw64,g3 w v1 hw64,vcd,↓vcp,seval]
  refine ⟨by omega,?_⟩
  have hdiv2:∀ q r,KnI w d0 v v1 v0 q r→(4294967296≤q∨4294967296*r+d0<q*v0)→(w*4294967296+d0) / v+1≤q:=fun q r h hc=>kn_dec hv1 hwv hd0 h.e hc
  refine vcC.loopX (X:=Nat×Nat) (Y:=Unit) (fun x=>⟨[(2,.d (.int .u64 v)),(8,.d (.int .u64 sh)),(9,.d (.int .u64 v1)),(10,.d (.int .u64 v0)),(14,.d (.int .u64 d0)),(15,.d (.int .u64 q1)),(17,.d (.int .u64 w)),(18,.d (.int .u64 x.1)),(16,.d (.int .u64 x.2))],[],[]⟩)
   (fun x=>KnI w d0 v v1 v0 x.1 x.2) (fun x=>x.1) (w / v1,w % v1)
   (fun _=>⟨[(2,.d (.int .u64 v)),(8,.d (.int .u64 sh)),(14,.d (.int .u64 d0)),(15,.d (.int .u64 q1)),(17,.d (.int .u64 w)),(18,.d (.int .u64 q0))],[],[]⟩) (fun _=>True)
   ⟨kn_lo hv1 (by omega) hd0,kn_start hv1 hv1b hv0 hwv,(Nat.div_add_mod' w v1).symm,by have:=Nat.mod_lt w (show 0<v1 by omega);omega⟩ (Wk.of [] hfn rfl (by simp only [enb,vcd,↓vcp,seval]) (by simp only [enb,vcd,↓vcp,seval])) ?_ ?_
  ·rintro ⟨q,r⟩ hk
   simp only at hk
   have hc:=kn_cond (q:=q) hd0 hv0 hk.r
   simp only [vcd,↓vcp,seval]
   refine ⟨fun h4=>?_,fun h4=>?_⟩
   ·have h5:=hdiv2 q r hk (hc.1 h4)
    have k1:=hk.e
    have k2:=hk.r
    have k3:=hk.hi
    have c1:IntKind.u64.wrap ((q:Int)-1)=((q-1:Nat):Int):=(wU (by omega)).trans (by omega)
    have c2:IntKind.u64.wrap ((r:Int)+(v1:Int))=((r+v1:Nat):Int):=(wU (by omega)).trans (by omega)
    have c3:w=(q-1)*v1+(r+v1):=by
     have:q*v1=(q-1)*v1+v1:=by
      rw [←Nat.succ_mul];congr 1;omega
     omega
    simp only [c1,c2]
    refine ⟨fun h6=>?_,fun h6=>?_⟩
    ·have h7:4294967296≤r+v1:=by have:=of_decide_eq_true h6;omega
     have h8:=kn_brk (d:=d0) hv1 hv0 (by omega) c3 (by omega) h7
     refine ⟨(),Wk.of [] hfn rfl (by simp only [enb,vcd,↓vcp,seval];omega) (by simp only [enb,vcd,↓vcp,seval])⟩
    ·have h7:r+v1<4294967296:=by have:=of_decide_eq_false h6;omega
     exact lopX.on (q-1,r+v1) ⟨by simp only;omega,by simp only;omega,c3,h7⟩ (by simp only;omega) (Wk.of [] hfn rfl (by simp only [enb,vcd,↓vcp,seval]) (by simp only [enb,vcd,↓vcp,seval]))
   ·have h5:¬ (4294967296≤q∨4294967296*r+d0<q*v0):=fun e=>by rw [hc.2 e] at h4;cases h4
    have h8:=kn_le (d:=d0) hv1 (by omega) hk.e (by omega)
    have h9:=hk.lo
    exact ⟨(),Wk.of [] hfn rfl (by simp only [enb,vcd,↓vcp,seval];omega) (by simp only [enb,vcd,↓vcp,seval])⟩
  ·rintro - -
   have f9:(z:Int).fdiv (P:Int)=((z / P:Nat):Int):=fdiv_nat z P
   have f10:IntKind.u64.wrap (IntKind.u64.wrap ((q1:Int)*4294967296)+(q0:Int))=((q1*4294967296+q0:Nat):Int):=by
    rw [wU (a:=(q1:Int)*4294967296) (by omega),wU (by omega)];omega
   simp only [f7,f9,f10,e2,vcd,↓vcp,seval]
   repeat' first|refine ⟨fun h=>?_,fun h=>?_⟩|refine aO ?_|refine aT ?_|fail
   exact RetK.pure (by simp only [rs179,rsb,vcd,↓vcp,seval]) (by (simp only [rs179,rsb,enb,vcd,↓vcp,seval])<;>(first|(rw [hqq,hrr];exact VLe.refl _)))
def upE (q r c:Nat):Bool:=decide (c<2*r) || (decide (2*r=c)&&decide (q % 2=1))
def ofR (up:Nat→Nat→Nat→Bool) (a b c:Int):Int×Int:=
 if a<0∨b<0∨c<0 then (0,1)
 else if c=0 then (0,6)
 else if 4000000000000000000<a.toNat*b.toNat / c.toNat then (0,5)
 else if 4000000000000000000<a.toNat*b.toNat / c.toNat+(if up (a.toNat*b.toNat / c.toNat) (a.toNat*b.toNat % c.toNat) c.toNat=true then 1 else 0) then (0,5)
 else (((a.toNat*b.toNat / c.toNat+(if up (a.toNat*b.toNat / c.toNat) (a.toNat*b.toNat % c.toNat) c.toNat=true then 1 else 0):Nat):Int),0)
theorem sOf (g:Nat) (up:Nat→Nat→Nat→Bool) (hg:∀ q r c:Nat,r<c→c<9223372036854775808→Ctr Tryz.prog g [.d (.int .u64 q),.d (.int .u64 r),.d (.int .u64 c)] [] (.d (.bool (up q r c))) [] [])
  (a b k:Int) (ha:a≤9223372036854775807) (hb:b≤9223372036854775807) (hc:k≤9223372036854775807) :
  Ctr Tryz.prog 140 [.ag [.fn (.func g) [] []],.d (.int .i64 a),.d (.int .i64 b),.d (.int .i64 k)] [] (.tup [.d (.int .i64 (ofR up a b k).1),.d (.int .i64 (ofR up a b k).2)]) [] []:=by
 refine ctr_pure Tryz.func140 ok140 rfl cc140 cr140 Tryz.ntmps140 (by simp) rfl rfl ?_;intro c hP hfn;simp only [kc140,vcd,↓vcp,seval]
 refine ⟨fun h1=>?_,fun h1=>?_⟩
 ·have e:ofR up a b k=(0,1):=by
   simp only [Bool.or_eq_true,decide_eq_true_eq] at h1
   rw [ofR,if_pos (by omega)]
  (refine RetK.pure (by simp only [rs140,rsb,vcd,↓vcp,seval]) (VLe.tups ?_);simp only [rs140,rsb,vcd,↓vcp,seval])
  rw [e];exact ⟨VLe.refl _,VLe.refl _,trivial⟩
 have h1:¬ (a<0∨b<0∨k<0):=by
  simp only [Bool.or_eq_false_iff,decide_eq_false_iff_not] at h1;omega
 refine ⟨fun h2=>?_,fun h2=>?_⟩
 ·have h2:k=0:=by simpa using h2
  have e:ofR up a b k=(0,6):=by rw [ofR,if_neg h1,if_pos h2]
  (refine RetK.pure (by simp only [rs140,rsb,vcd,↓vcp,seval]) (VLe.tups ?_);simp only [rs140,rsb,vcd,↓vcp,seval])
  rw [e];exact ⟨VLe.refl _,VLe.refl _,trivial⟩
 have h2:¬ k=0:=by simpa using h2
 obtain ⟨A,rfl⟩:∃ A:Nat,a=(A:Int):=⟨a.toNat,by omega⟩
 obtain ⟨B,rfl⟩:∃ B:Nat,b=(B:Int):=⟨b.toNat,by omega⟩
 obtain ⟨C,rfl⟩:∃ C:Nat,k=(C:Int):=⟨k.toNat,by omega⟩
 have e1:IntKind.u64.wrap (A:Int)=(A:Int):=wU (by omega)
 have e2:IntKind.u64.wrap (B:Int)=(B:Int):=wU (by omega)
 have e3:IntKind.u64.wrap (C:Int)=(C:Int):=wU (by omega)
 have hR:ofR up (A:Int) (B:Int) (C:Int)=(if 4000000000000000000<A*B / C then (0,5) else
   if 4000000000000000000<A*B / C+(if up (A*B / C) (A*B % C) C=true then 1 else 0) then (0,5)
   else (((A*B / C+(if up (A*B / C) (A*B % C) C=true then 1 else 0):Nat):Int),0)):=by
  rw [ofR,if_neg h1,if_neg h2];rfl
 have hm:=Nat.div_add_mod (A*B) 18446744073709551616
 have hml:A*B % 18446744073709551616<18446744073709551616:=Nat.mod_lt _ (by omega)
 have hC0:0<C:=by omega
 simp only [e1,e2,e3]
 repeat' first|((first|refine tp hP (by exact sMul64 A B (by omega) (by omega)) ?_|refine tg hP (fun _=>by exact sMul64 A B (by omega) (by omega)) ?_|refine tv hP rfl (by exact sMul64 A B (by omega) (by omega)) ?_);try simp only [e1,e2,e3,vcd,↓vcp,seval])|refine ⟨fun h=>?_,fun h=>?_⟩|refine aO ?_|refine aT ?_|fail
 ·have h3:4000000000000000000<A*B / C:=by
   have h:=of_decide_eq_true h
   have h4:C≤A*B / 18446744073709551616:=by omega
   have h5:C*18446744073709551616≤A*B:=by
    have:=(Nat.le_div_iff_mul_le (by omega)).1 h4;exact this
   have h6:18446744073709551616≤A*B / C:=(Nat.le_div_iff_mul_le hC0).2 (by omega)
   omega
  (refine RetK.pure (by simp only [rs140,rsb,vcd,↓vcp,seval]) (VLe.tups ?_);simp only [rs140,rsb,vcd,↓vcp,seval])
  rw [hR,if_pos h3];exact ⟨VLe.refl _,VLe.refl _,trivial⟩
 have hh:A*B / 18446744073709551616<C:=by have:=of_decide_eq_false h;omega
 have hd:=sDiv64 (A*B / 18446744073709551616) (A*B % 18446744073709551616) C hh hml (by omega)
 rw [show A*B / 18446744073709551616*18446744073709551616+A*B % 18446744073709551616=A*B by omega] at hd
 have hrC:A*B % C<C:=Nat.mod_lt _ hC0
 generalize A*B / C=q at *
 generalize A*B % C=r at *
 repeat' first|((first|refine tp hP (by first|exact hd|exact hg q r C hrC (by omega)) ?_|refine tg hP (fun _=>by first|exact hd|exact hg q r C hrC (by omega)) ?_|refine tv hP rfl (by first|exact hd|exact hg q r C hrC (by omega)) ?_);try simp only [e1,e2,e3,vcd,↓vcp,seval])|refine ⟨fun h=>?_,fun h=>?_⟩|refine aO ?_|refine aT ?_|fail
 ·have h4:4000000000000000000<q:=by have:=of_decide_eq_true h;omega
  (refine RetK.pure (by simp only [rs140,rsb,vcd,↓vcp,seval]) (VLe.tups ?_);simp only [rs140,rsb,vcd,↓vcp,seval])
  rw [hR,if_pos h4];exact ⟨VLe.refl _,VLe.refl _,trivial⟩
 ·rename_i h5 h6
  have h4:¬ 4000000000000000000<q:=by have:=of_decide_eq_false h5;omega
  have e4:IntKind.u64.wrap ((q:Int)+1)=((q+1:Nat):Int):=(wU (by omega)).trans (by omega)
  rw [e4] at h
  have h7:4000000000000000000<q+1:=by have:=of_decide_eq_true h;omega
  (refine RetK.pure (by simp only [rs140,rsb,vcd,↓vcp,seval]) (VLe.tups ?_);simp only [rs140,rsb,vcd,↓vcp,seval])
  rw [hR,if_neg h4,if_pos h6,if_pos h7];exact ⟨VLe.refl _,VLe.refl _,trivial⟩
 ·rename_i h5 h6
  have h4:¬ 4000000000000000000<q:=by have:=of_decide_eq_false h5;omega
  have e4:IntKind.u64.wrap ((q:Int)+1)=((q+1:Nat):Int):=(wU (by omega)).trans (by omega)
  rw [e4] at h
  have h7:¬ 4000000000000000000<q+1:=by have:=of_decide_eq_false h;omega
  (refine RetK.pure (by simp only [rs140,rsb,vcd,↓vcp,seval]) (VLe.tups ?_);simp only [rs140,rsb,vcd,↓vcp,seval])
  rw [hR,if_neg h4,if_pos h6,if_neg h7,e4,wI (a:=((q+1:Nat):Int)) (by omega)];exact ⟨VLe.refl _,VLe.refl _,trivial⟩
 ·rename_i h5 h6
  exfalso;rw [h5] at h;cases h
 ·rename_i h5 h6
  have h4:¬ 4000000000000000000<q:=by have:=of_decide_eq_false h5;omega
  have h8:¬ (up q r C=true):=by rw [h6];simp
  (refine RetK.pure (by simp only [rs140,rsb,vcd,↓vcp,seval]) (VLe.tups ?_);simp only [rs140,rsb,vcd,↓vcp,seval])
  rw [hR,if_neg h4,if_neg h8,Nat.add_zero,if_neg h4,wI (a:=(q:Int)) (by omega)];exact ⟨VLe.refl _,VLe.refl _,trivial⟩
end Go.Proofs.YtanppabbmffokaaGreat
end
section
namespace Go.Proofs.YtanppabbmffokaaGreat
open Go.Bx
set_option maxRecDepth 10000
theorem sUpE (q r c:Nat) (hr:r<c) (hc:c<9223372036854775808):Ctr Tryz.prog 178 [.d (.int .u64 q),.d (.int .u64 r),.d (.int .u64 c)] [] (.d (.bool (upE q r c))) [] []:=by
 have e1:IntKind.u64.wrap ((c:Int)-(r:Int))=((c-r:Nat):Int):=(wU (by omega)).trans (by omega)
 have e2:(q:Int).tmod 2=((q % 2:Nat):Int):=tmod_nat q 2
 refine ctr_pure Tryz.func178 ok178 rfl cc178 cr178 Tryz.ntmps178 (by simp) rfl rfl ?_;intro c hP hfn;simp only [kc178,e1,e2,vcd,↓vcp,seval]
 repeat' first|refine ⟨fun h=>?_,fun h=>?_⟩|refine aO ?_|refine aT ?_|fail
 exact RetK.pure (by simp only [rs178,rsb,vcd,↓vcp,seval]) (by (simp only [rs178,rsb,enb,vcd,↓vcp,seval])<;>(first|(rw [Bool.eq_iff_iff];simp only [upE,Bool.or_eq_true,Bool.and_eq_true,decide_eq_true_eq,beq_iff_eq];omega)))
theorem sEvenS:Ctr Tryz.prog 139 [] [] (.ag [.fn (.func 178) [] []]) [] []:=by
 refine ctr_pure Tryz.func139 ok139 rfl cc139 cr139 Tryz.ntmps139 (by simp) rfl rfl ?_;intro c hP hfn;simp only [kc139,vcd,↓vcp,seval]
 exact RetK.pure (by simp only [rs139,rsb,vcd,↓vcp,seval]) (by simp only [rs139,rsb,enb,vcd,↓vcp,seval])
theorem sEven (a b k:Int) (ha:a≤9223372036854775807) (hb:b≤9223372036854775807) (hc:k≤9223372036854775807) :
  Ctr Tryz.prog 96 [.d (.int .i64 a),.d (.int .i64 b),.d (.int .i64 k)] [] (.tup [.d (.int .i64 (ofR upE a b k).1),.d (.int .i64 (ofR upE a b k).2)]) [] []:=by
 refine ctr_pure Tryz.func96 ok96 rfl cc96 cr96 Tryz.ntmps96 (by simp) rfl rfl ?_;intro c hP hfn;simp only [kc96,vcd,↓vcp,seval]
 repeat' first|((first|refine tp hP (by first|exact sEvenS|exact sOf 178 upE sUpE a b k ha hb hc) ?_|refine tg hP (fun _=>by first|exact sEvenS|exact sOf 178 upE sUpE a b k ha hb hc) ?_|refine tv hP rfl (by first|exact sEvenS|exact sOf 178 upE sUpE a b k ha hb hc) ?_);try simp only [vcd,↓vcp,seval])|refine ⟨fun h=>?_,fun h=>?_⟩|refine aO ?_|refine aT ?_|fail
 (refine RetK.pure (by simp only [rs96,rsb,vcd,↓vcp,seval]) (VLe.tups ?_);simp only [rs96,rsb,vcd,↓vcp,seval])
 exact ⟨VLe.refl _,VLe.refl _,trivial⟩
def bpR (m bp:Int):Int×Int:=ofR upE m bp 10000
theorem sBp (a b:Int) (ha:a≤9223372036854775807) (hb:b≤9223372036854775807) :
  Ctr Tryz.prog 88 [.d (.int .i64 a),.d (.int .i64 b)] [] (.tup [.d (.int .i64 (bpR a b).1),.d (.int .i64 (bpR a b).2)]) [] []:=by
 refine ctr_pure Tryz.func88 ok88 rfl cc88 cr88 Tryz.ntmps88 (by simp) rfl rfl ?_;intro c hP hfn;simp only [kc88,vcd,↓vcp,seval]
 repeat' first|((first|refine tp hP (by exact sEven a b 10000 ha hb (by omega)) ?_|refine tg hP (fun _=>by exact sEven a b 10000 ha hb (by omega)) ?_|refine tv hP rfl (by exact sEven a b 10000 ha hb (by omega)) ?_);try simp only [vcd,↓vcp,seval])|refine ⟨fun h=>?_,fun h=>?_⟩|refine aO ?_|refine aT ?_|fail
 (refine RetK.pure (by simp only [rs88,rsb,vcd,↓vcp,seval]) (VLe.tups ?_);simp only [rs88,rsb,vcd,↓vcp,seval])
 exact ⟨VLe.refl _,VLe.refl _,trivial⟩
end Go.Proofs.YtanppabbmffokaaGreat
end
section
namespace Go.Proofs.YtanppabbmffokaaGreat
open Go.Bx
set_option maxRecDepth 10000
structure Cv where
 pe:Int
 li:Int
 ag:Int
 de:Int
 sh:Int
deriving DecidableEq
instance:Inhabited Cv:=⟨⟨0,0,0,0,0⟩⟩
def cC (c:Cv):List V:=[.d (.int .i64 c.pe),.d (.int .i64 c.li),.d (.int .i64 c.ag),.d (.int .i64 c.de),.d (.int .i64 c.sh)]
def vC (c:Cv):V:=.ag (cC c)
def sdR (l:List Int):Nat→Bool
 |0=>true
 |k+1=>!(decide (l.getD (k+1) 0<l.getD k 0))&&sdR l k
theorem sNaN (a:Int):Ctr Tryz.prog 173 [.d (.int .i64 a)] [] (.d (.bool false)) [] []:=by
 refine ctr_pure Tryz.func173 ok173 rfl cc173 cr173 Tryz.ntmps173 (by simp) rfl rfl ?_;intro c hP hfn;simp only [kc173,vcd,↓vcp,seval]
 exact RetK.pure (by simp only [rs173,rsb,vcd,↓vcp,seval]) (by (simp only [rs173,rsb,enb,vcd,↓vcp,seval])<;>(first|simp))
theorem sLess (a b:Int):Ctr Tryz.prog 165 [.d (.int .i64 a),.d (.int .i64 b)] [] (.d (.bool (decide (a<b)))) [] []:=by
 refine ctr_pure Tryz.func165 ok165 rfl cc165 cr165 Tryz.ntmps165 (by simp) rfl rfl ?_;intro c hP hfn;simp only [kc165,vcd,↓vcp,seval]
 repeat' first|((first|refine tp hP (by exact sNaN ..) ?_|refine tg hP (fun _=>by exact sNaN ..) ?_|refine tv hP rfl (by exact sNaN ..) ?_);try simp only [vcd,↓vcp,seval])|refine ⟨fun h=>?_,fun h=>?_⟩|refine aO ?_|refine aT ?_|fail
 exact RetK.pure (by simp only [rs165,rsb,vcd,↓vcp,seval]) (by (simp only [rs165,rsb,enb,vcd,↓vcp,seval])<;>(first|simp))
theorem sSorted (l:List Int) (hl:l.length≤9223372036854775807):Ctr Tryz.prog 184 [.d (slK .i64 l)] [] (.d (.bool (sdR l (l.length-1)))) [] []:=by
 refine ctr_pure Tryz.func184 ok184 rfl cc184 cr184 Tryz.ntmps184 (by simp) rfl rfl ?_;intro c hP hfn;simp only [kc184,vcd,↓vcp,seval]
 refine vcC.loop (X:=Int) (fun x=>⟨[(0,.d (slK .i64 l)),(3,.d (.int .i64 x))],[],[]⟩)
  (fun x=>-1≤x∧x<l.length∧sdR l (l.length-1)=sdR l x.toNat) (fun x=>x.toNat) ((l.length:Int)-1) ⟨by omega,by omega,by congr 1;omega⟩ (Wk.of [] hfn rfl (by simp only [enb,vcd,↓vcp,seval];exact wI (by omega)) (by simp only [enb,vcd,↓vcp,seval])) ?_
 rintro x ⟨h0,h1,he⟩
 simp only [vcd,↓vcp,seval]
 refine ⟨fun h2=>?_,fun h2=>?_⟩
 ·have h2:=of_decide_eq_true h2
  have e1:IntKind.i64.wrap (x-1)=x-1:=wI (by omega)
  have e2:x.toNat=(x-1).toNat+1:=by omega
  rw [e2,sdR,←e2] at he
  simp only [e1]
  repeat' first|((first|refine tp hP (by exact sLess ..) ?_|refine tg hP (fun _=>by exact sLess ..) ?_|refine tv hP rfl (by exact sLess ..) ?_);try simp only [e1,vcd,↓vcp,seval])|refine ⟨fun h=>?_,fun h=>?_⟩|refine aO ?_|refine aT ?_|fail
  ·exact RetK.pure (by simp only [rs184,rsb,vcd,↓vcp,seval]) (by (simp only [rs184,rsb,enb,vcd,↓vcp,seval])<;>(first|(rw [he,h];rfl)))
  ·rw [h] at he
   exact lopK.on (x-1) ⟨by omega,by omega,by rw [he];rfl⟩ (by omega) (Wk.of [] hfn rfl (by simp only [enb,vcd,↓vcp,seval]) (by simp only [enb,vcd,↓vcp,seval]))
 ·have h2:=of_decide_eq_false h2
  have e2:x.toNat=0:=by omega
  rw [e2,sdR] at he
  exact RetK.pure (by simp only [rs184,rsb,vcd,↓vcp,seval]) (by (simp only [rs184,rsb,enb,vcd,↓vcp,seval])<;>(first|rw [he]))
theorem sSorted' {full:Bool} {n:Nat} {ds:List D} {l:List Int} (h:LitI .i64 ds l) (hn:n=l.length) (hl:l.length≤9223372036854775807):Ctr Tryz.prog 184 [.d (.sl full 1 n (litRow 1 ds))] [] (.d (.bool (sdR l (l.length-1)))) [] []:=
 (sSorted l hl).arg ⟨h.vle hn,trivial⟩
def rightC (c:Cv):Bool:=decide (c.pe≥0)&&decide (c.pe<8)&&(decide (c.sh≥1)&&decide (c.sh≤10000))&&sdR [0,c.de,IntKind.i64.wrap (c.li-1),IntKind.i64.wrap (c.ag-1),999999999999999] 4&&decide (c.de<c.li)
theorem sCover (k:Cv):Ctr Tryz.prog 156 [vC k] [] (.d (.bool (rightC k))) [] []:=by
 refine ctr_pure Tryz.func156 ok156 rfl cc156 cr156 Tryz.ntmps156 (by simp) rfl rfl ?_;intro c hP hfn;simp only [kc156,vC,cC,vcd,↓vcp,seval]
 repeat' first|((first|refine tp hP (by exact sSorted' (by repeat constructor) (by rfl) (by simp)) ?_|refine tg hP (fun _=>by exact sSorted' (by repeat constructor) (by rfl) (by simp)) ?_|refine tv hP rfl (by exact sSorted' (by repeat constructor) (by rfl) (by simp)) ?_);try simp only [vcd,↓vcp,seval])|refine ⟨fun h=>?_,fun h=>?_⟩|refine aO ?_|refine aT ?_|fail
 exact RetK.pure (by simp only [rs156,rsb,vcd,↓vcp,seval]) (by (simp only [rs156,rsb,enb,vcd,↓vcp,seval])<;>(first|rfl))
structure Rk where
 kd:Int
 va:Int
 ag:Int
 zo:Int
deriving DecidableEq
instance:Inhabited Rk:=⟨⟨0,0,0,0⟩⟩
def cR (r:Rk):List V:=[.d (.int .i64 r.kd),.d (.int .i64 r.va),.d (.int .i64 r.ag),.d (.int .i64 r.zo)]
def vR (r:Rk):V:=.ag (cR r)
def rightR (r:Rk):Bool:=decide (0≤r.kd∧r.kd<4∧1≤r.va∧r.va≤1000000000000000∧0≤r.ag∧r.ag≤200∧0≤r.zo∧r.zo<100)
theorem rightR_iff {r:Rk}:rightR r=true↔0≤r.kd∧r.kd<4∧1≤r.va∧r.va≤1000000000000000∧0≤r.ag∧r.ag≤200∧0≤r.zo∧r.zo<100:=by simp only [rightR,decide_eq_true_eq]
theorem sRisk (r:Rk):Ctr Tryz.prog 130 [vR r] [] (.d (.bool (rightR r))) [] []:=by
 have hr:=@rightR_iff r
 refine ctr_pure Tryz.func130 ok130 rfl cc130 cr130 Tryz.ntmps130 (by simp) rfl rfl ?_;intro c hP hfn;simp only [kc130,vR,cR,vcd,↓vcp,seval]
 exact RetK.pure (by simp only [rs130,rsb,vcd,↓vcp,seval]) (by (simp only [rs130,rsb,enb,vcd,↓vcp,seval])<;>(first|(rw [Bool.eq_iff_iff,hr];simp only [Bool.and_eq_true,decide_eq_true_eq];omega)))
def facB (x:Int):Bool:=decide (0≤x∧x≤100000)
theorem facB_iff {x:Int}:facB x=true↔0≤x∧x≤100000:=by simp only [facB,decide_eq_true_eq]
def idxI (p:Int→Bool):Nat→List Int→Int
 |_,[]=>-1
 |k,x::r=>if p x=true then (k:Int) else idxI p (k+1) r
theorem idxI_any (p:Int→Bool):∀ (l:List Int) (k:Nat),decide (idxI p k l≥0)=l.any p
 |[],k=>by simp [idxI]
 |x::r,k=>by
  by_cases h:p x=true
  ·simp [idxI,h]
  ·simp [idxI,h];simpa using idxI_any p r (k+1)
theorem sIndexF (g:Nat) (p:Int→Bool) (hg:∀ x,Ctr Tryz.prog g [.d (.int .i64 x)] [] (.d (.bool (p x))) [] []) (l:List Int) (hl:l.length≤9223372036854775807):Ctr Tryz.prog 180 [.d (slK .i64 l),.fn (.func g) [] []] [] (.d (.int .i64 (idxI p 0 l))) [] []:=by
 refine ctr_pure Tryz.func180 ok180 rfl cc180 cr180 Tryz.ntmps180 (by simp) rfl rfl ?_;intro c hP hfn;simp only [kc180,vcd,↓vcp,seval]
 refine vcC.loop (X:=Nat) (fun k=>⟨[(0,.d (slK .i64 l)),(1,.fn (.func g) [] []),(7,.d (.int .i64 l.length)),(8,.d (.int .i64 k))],[],[]⟩)
  (fun k=>k≤l.length∧idxI p 0 l=idxI p k (l.drop k)) (fun k=>l.length-k) 0 ⟨Nat.zero_le _,rfl⟩ (Wk.of [] hfn rfl (by (simp only [enb,vcd,↓vcp,seval])<;>(first|exact wS (by omega)|(rw [List.length_append];exact wS (by omega))|assumption)) (by simp only [enb,vcd,↓vcp,seval])) ?_
 rintro k ⟨hk,he⟩
 simp only [vcd,↓vcp,seval]
 refine ⟨fun h1=>?_,fun h1=>?_⟩
 ·have hlt:k<l.length:=by simpa using h1
  obtain ⟨x,hd,hg',-,-⟩:=drop_at hlt
  simp only [hg']
  rw [hd,idxI] at he
  repeat' first|((first|refine tp hP (by exact hg x) ?_|refine tg hP (fun _=>by exact hg x) ?_|refine tv hP rfl (by exact hg x) ?_);try simp only [vcd,↓vcp,seval])|refine ⟨fun h=>?_,fun h=>?_⟩|refine aO ?_|refine aT ?_|fail
  ·exact RetK.pure (by simp only [rs180,rsb,vcd,↓vcp,seval]) (by (simp only [rs180,rsb,enb,vcd,↓vcp,seval])<;>(first|rw [he,if_pos h]))
  ·refine lopK.on (k+1) ⟨hlt,?_⟩ (by omega) (Wk.of [] hfn rfl (by (simp only [enb,vcd,↓vcp,seval])<;>(first|exact wS (by omega)|(rw [List.length_append];exact wS (by omega))|assumption)) (by simp only [enb,vcd,↓vcp,seval]))
   rw [he,h];simp
 ·have hkl:k=l.length:=by simp at h1;omega
  rw [hkl] at he
  exact RetK.pure (by simp only [rs180,rsb,vcd,↓vcp,seval]) (by (simp only [rs180,rsb,enb,vcd,↓vcp,seval])<;>(first|simp [he,idxI]))
theorem sContainsF (g:Nat) (p:Int→Bool) (hg:∀ x,Ctr Tryz.prog g [.d (.int .i64 x)] [] (.d (.bool (p x))) [] []) (l:List Int) (hl:l.length≤9223372036854775807):Ctr Tryz.prog 143 [.d (slK .i64 l),.fn (.func g) [] []] [] (.d (.bool (l.any p))) [] []:=by
 refine ctr_pure Tryz.func143 ok143 rfl cc143 cr143 Tryz.ntmps143 (by simp) rfl rfl ?_;intro c hP hfn;simp only [kc143,vcd,↓vcp,seval]
 repeat' first|((first|refine tp hP (by exact sIndexF g p hg l hl) ?_|refine tg hP (fun _=>by exact sIndexF g p hg l hl) ?_|refine tv hP rfl (by exact sIndexF g p hg l hl) ?_);try simp only [vcd,↓vcp,seval])|refine ⟨fun h=>?_,fun h=>?_⟩|refine aO ?_|refine aT ?_|fail
 exact RetK.pure (by simp only [rs143,rsb,vcd,↓vcp,seval]) (by (simp only [rs143,rsb,enb,vcd,↓vcp,seval])<;>(first|exact idxI_any p l 0))
theorem sFac1 (x:Int):Ctr Tryz.prog 144 [.d (.int .i64 x)] [] (.d (.bool (!(facB x)))) [] []:=by
 refine ctr_pure Tryz.func144 ok144 rfl cc144 cr144 Tryz.ntmps144 (by simp) rfl rfl ?_;intro c hP hfn;simp only [kc144,vcd,↓vcp,seval]
 exact RetK.pure (by simp only [rs144,rsb,vcd,↓vcp,seval]) (by (simp only [rs144,rsb,enb,vcd,↓vcp,seval])<;>(first|(rw [Bool.eq_iff_iff];simp only [facB,Bool.or_eq_true,Bool.not_eq_true',decide_eq_true_eq,decide_eq_false_iff_not];omega)))
theorem sFactors (l:List Int) (hl:l.length≤9223372036854775807):Ctr Tryz.prog 102 [.d (slK .i64 l)] [] (.d (.bool (l.all facB))) [] []:=by
 refine ctr_pure Tryz.func102 ok102 rfl cc102 cr102 Tryz.ntmps102 (by simp) rfl rfl ?_;intro c hP hfn;simp only [kc102,vcd,↓vcp,seval]
 repeat' first|((first|refine tp hP (by exact sContainsF _ _ sFac1 l hl) ?_|refine tg hP (fun _=>by exact sContainsF _ _ sFac1 l hl) ?_|refine tv hP rfl (by exact sContainsF _ _ sFac1 l hl) ?_);try simp only [vcd,↓vcp,seval])|refine ⟨fun h=>?_,fun h=>?_⟩|refine aO ?_|refine aT ?_|fail
 exact RetK.pure (by simp only [rs102,rsb,vcd,↓vcp,seval]) (by (simp only [rs102,rsb,enb,vcd,↓vcp,seval])<;>(first|simp [List.any_eq_not_all_not]))
end Go.Proofs.YtanppabbmffokaaGreat
end
section
namespace Go.Proofs.YtanppabbmffokaaGreat
open Go.Bx
set_option maxRecDepth 10000
def cmpI (a b:Int):Int:=if a<b then -1 else if b<a then 1 else 0
theorem sCmpI (a b:Int):Ctr Tryz.prog 128 [.d (.int .i64 a),.d (.int .i64 b)] [] (.d (.int .i64 (cmpI a b))) [] []:=by
 refine ctr_pure Tryz.func128 ok128 rfl cc128 cr128 Tryz.ntmps128 (by simp) rfl rfl ?_;intro c hP hfn;simp only [kc128,vcd,↓vcp,seval]
 repeat' first|((first|refine tp hP (by first|exact sNaN a|exact sNaN b) ?_|refine tg hP (fun _=>by first|exact sNaN a|exact sNaN b) ?_|refine tv hP rfl (by first|exact sNaN a|exact sNaN b) ?_);try simp only [vcd,↓vcp,seval])|refine ⟨fun h=>?_,fun h=>?_⟩|refine aO ?_|refine aT ?_|fail
 ·have h':=of_decide_eq_true h
  exact RetK.pure (by simp only [rs128,rsb,vcd,↓vcp,seval]) (by (simp only [rs128,rsb,enb,vcd,↓vcp,seval])<;>(first|simp [cmpI,h']))
 ·have h':=of_decide_eq_true h
  have h2:¬ a<b:=by omega
  exact RetK.pure (by simp only [rs128,rsb,vcd,↓vcp,seval]) (by (simp only [rs128,rsb,enb,vcd,↓vcp,seval])<;>(first|simp only [cmpI,if_neg h2,if_pos h']))
 ·rename_i h0
  have h':=of_decide_eq_false h
  have h2:=of_decide_eq_false h0
  exact RetK.pure (by simp only [rs128,rsb,vcd,↓vcp,seval]) (by (simp only [rs128,rsb,enb,vcd,↓vcp,seval])<;>(first|simp only [cmpI,if_neg h2,if_neg h']))
def rowZ (l:List Int):Go.Bx.Own:=.row 3 1 l.length (fun i=>[.int .i64 (l.getD i 0)])
def fnO (g:Nat) (ds:List D):V:=.fn (.func g) [] [.mem ds]
def ltO (cf:Int→Int→Int) (a b:Int):Bool:=decide (cf a b<0)
structure CmpO (g:Nat) (ds:List D) (cf:Int→Int→Int) (ok:Int→Prop):Prop where
 w:Swo (ltO cf)
 c:∀ a b,ok a→ok b→Ctr Tryz.prog g [.d (.int .i64 a),.d (.int .i64 b),.mem ds] [] (.d (.int .i64 (cf a b))) [] []
theorem getD_at {u:List Int} {p:Int} {w:List Int} {i:Nat} (h:i=u.length):(u++p::w).getD i 0=p:=by subst h;exact getD_mid 0 u p w
theorem TR.gpw {c:Ctx} {b:Bool} {is:List I} {st:St} {acc:List Lg} {K:List Lg→St→Prop} {P:Program} (hP:c.P=P) {d:Option Nat} {s:Nat} {want gc:Bool} {x:X} {f:Nat} {first cap:List V} {xs:List X} {res:V} (hg:gOf st.env s want=some gc)
  (hx:gc=true→evV st x=.fn (.func f) first cap) (hS:gc=true→Ctr P f (first++(evVs st xs++cap)) [] res [] []) (hsx:gc=true→evS true st x) (hs:gc=true→evSs true st xs)
  (h:vcR c b is (st.stp d { val:=.gd gc res,upd:=[],rd:=[],new:=[] }) (lgs b acc ⟨[],[]⟩) K):TR c b (⟨d,some (s,want),.callv x xs⟩::is) st acc K:=
 TR.cons { val:=.gd gc res,upd:=[],rd:=[],new:=[] } (valid_gd_pure hg fun e=>valid_callv (hx e) (by rw [hP];exact hS e) (hsx e) (hs e) (fun k o h=>by simp at h) (by simp [keysO])) (fun k hk=>by simp at hk) (vcR_ok h)
theorem OLe.swz {e:Nat} {l l':List Int} {i j:Nat} {u v:Int} (hi:i<l.length) (hj:j<l.length) (hu:l.getD i 0=u) (hv:l.getD j 0=v) (h:l'=swq 0 l i j) :
  OLe (.row e 1 l.length (fun i'=>if i'=j then putD (if j=i then putD [.int .i64 u] 0 [.int .i64 v] else [.int .i64 v]) 0 [.int .i64 u] else if i'=i then putD [.int .i64 u] 0 [.int .i64 v] else [.int .i64 (l.getD i' 0)]))
   (.row e 1 l'.length (fun i=>[.int .i64 (l'.getD i 0)])):=by
 subst h
 refine OLe.row (swq_len _ _ _ _).symm fun m hm=>?_
 rw [swq_get 0 hi hj m,hu,hv]
 by_cases e1:m=j
 ·subst e1;simp only [if_true];split<;>simp [putD]
 ·rw [if_neg e1,if_neg e1]
  by_cases e2:m=i
  ·subst e2;simp [putD]
  ·rw [if_neg e2,if_neg e2]
theorem sInsert {g:Nat} {ds:List D} {cf:Int→Int→Int} {ok:Int→Prop} (hc:CmpO g ds cf ok) (P M S:List Int) (hok:∀ x,x∈M→ok x) (hl:P.length+(M.length+S.length)≤4611686018427387904) :
  Ctr Tryz.prog 201 [.osl 900,.d (.int .i64 P.length),.d (.int .i64 ((P.length+M.length:Nat):Int)),fnO g ds] [(900,rowZ (P++(M++S)))] (.tup []) [(900,rowZ (P++(srt (ltO cf) [] M++S)))] []:=by
 refine ctr_own Tryz.func201 ok201 rfl cc201 cr201 Tryz.ntmps201 (by simp) rfl ?_
 intro c hP hfn
 have w1:IntKind.i64.wrap ((P.length:Int)+1)=((P.length+1:Nat):Int):=wS (by omega)
 simp only [kc201,namesL,V.names,ownNames,rowZ,fnO,w1,vcd,↓vcp,seval]
 refine vcC.loop (X:=Nat×List Int) (fun x=>⟨[(0,.osl 900),(1,.d (.int .i64 P.length)),(2,.d (.int .i64 ((P.length+M.length:Nat):Int))),(3,fnO g ds),(8,.d (.int .i64 (x.1:Nat)))],[(900,rowZ x.2)],[900]⟩)
  (fun x=>∃ k,x.1=P.length+k∧1≤k∧(k≤M.length∨k=1)∧x.2=P++(srt (ltO cf) [] (M.take k)++(M.drop k++S))) (fun x=>P.length+M.length-x.1) (P.length+1,P++(M++S)) ⟨1,rfl,Nat.le_refl _,.inr rfl,?_⟩ (Wk.of _ hfn rfl (by simp only [fnO,enb,vcd,↓vcp,seval]) (by simp only [rowZ,enb,vcd,↓vcp,seval])) ?_
 ·cases M with
  |nil=>rfl
  |cons a M=>simp [srt,mrg]
 rintro ⟨i,l⟩ ⟨k,hi,h1,hk,hL⟩
 simp only at hi hL
 by_cases hlt:k<M.length
 ·obtain ⟨e,hd,hg,hm,he⟩:=drop_at hlt
  have oke:=hok e hm
  have d0:decide ((i:Int)<((P.length+M.length:Nat):Int))=true:=decide_eq_true (by omega)
  have tl:(srt (ltO cf) [] (M.take k)).length=k:=by rw [srt_len,List.length_take];simp;omega
  have okT:∀ x,x∈srt (ltO cf) [] (M.take k)→ok x:=fun x hx=>hok x (List.mem_of_mem_take (by simpa using (srt_perm (ltO cf) (M.take k) []).mem_iff.1 hx))
  have hT2:srt (ltO cf) [] (M.take (k+1))=mrg (ltO cf) (srt (ltO cf) [] (M.take k)) [e]:=by
   rw [List.take_add_one,he,srt_app];rfl
  simp only [rowZ,fnO,d0,vcd,↓vcp,seval]
  repeat' first|refine ⟨fun h=>?_,fun h=>?_⟩|refine aO ?_|refine aT ?_|fail
  refine vcC.loop (X:=Nat×List Int) (fun x=>⟨[(0,.osl 900),(1,.d (.int .i64 P.length)),(2,.d (.int .i64 ((P.length+M.length:Nat):Int))),(3,fnO g ds),(8,.d (.int .i64 (i:Nat))),(9,.d (.int .i64 (x.1:Nat)))],[(900,rowZ x.2)],[900]⟩)
   (fun x=>∃ A B,A++B=srt (ltO cf) [] (M.take k)∧(∀ b,b∈B→ltO cf e b=true)∧x.1=P.length+A.length∧x.2=P++(A++(e::(B++(M.drop (k+1)++S))))) (fun x=>x.1) (i,l) ⟨_,[],List.append_nil _,fun b hb=>by simp at hb,by rw [tl];exact hi,by rw [hL,hd];simp⟩ (Wk.of _ hfn rfl (by simp only [fnO,enb,vcd,↓vcp,seval]) (by simp only [rowZ,enb,vcd,↓vcp,seval])) ?_
  rintro ⟨j,r⟩ ⟨A,B,hAB,hB,hj,hr⟩
  simp only at hj hr
  have hlA:A.length+B.length=k:=by rw [←tl,←hAB,List.length_append]
  have hrl:r.length=P.length+(M.length+S.length):=by rw [hr];simp only [List.length_append,List.length_cons,List.length_drop];omega
  have gj:r.getD j 0=e:=by rw [hr,hj,←List.append_assoc];exact getD_at (by simp)
  have bj:(0:Int)≤(j:Int)∧(j:Int)<(r.length:Int):=by omega
  have w2:IntKind.i64.wrap ((i:Int)+1)=((i+1:Nat):Int):=wS (by omega)
  by_cases hA:A.length=0
  ·have hA0:A=[]:=List.eq_nil_of_length_eq_zero hA
   subst hA0
   rw [List.nil_append] at hAB
   have hres:r=P++(srt (ltO cf) [] (M.take (k+1))++(M.drop (k+1)++S)):=by
    rw [hr,hT2,←hAB,mrg_one_lo hB];simp
   have d1:decide ((j:Int)>(P.length:Int))=false:=decide_eq_false (by simp at hj;omega)
   simp only [rowZ,fnO,d1,w2,vcd,↓vcp,seval]
   refine TR.gpw (gc:=false) (first:=[]) (cap:=[]) (f:=0) (res:=.d (.int .i64 0)) hP rfl (fun h=>by cases h) (fun h=>by cases h) (fun h=>by cases h) (fun h=>by cases h) ?_
   simp only [w2,vcd,↓vcp,seval]
   repeat' first|refine ⟨fun h=>?_,fun h=>?_⟩|refine aO ?_|refine aT ?_|fail
   refine lopK.on (i+1,r) ⟨k+1,by simp only;omega,by omega,.inl hlt,hres⟩ (by simp only;omega) (Wk.of _ hfn rfl (by simp only [fnO,enb,vcd,↓vcp,seval]) (by simp only [rowZ,enb,vcd,↓vcp,seval]))
  ·obtain ⟨A,x,rfl⟩:∃ A' x,A=A'++[x]:=by
    rcases List.eq_nil_or_concat A with h|⟨m,x,h⟩
    ·rw [h] at hA;exact absurd rfl hA
    ·exact ⟨m,x,by simpa using h⟩
   simp only [List.length_append,List.length_singleton] at hj hlA
   have d1:decide ((j:Int)>(P.length:Int))=true:=decide_eq_true (by omega)
   have e1:IntKind.i64.wrap ((j:Int)-1)=((j-1:Nat):Int):=by rw [wI (by omega)];omega
   have b1:(0:Int)≤((j-1:Nat):Int)∧((j-1:Nat):Int)<(r.length:Int):=by omega
   have g1:r.getD (j-1) 0=x:=by
    have:r=(P++A)++x::(e::(B++(M.drop (k+1)++S))):=by rw [hr];simp
    rw [this];exact getD_at (by simp;omega)
   have okx:ok x:=okT x (by rw [←hAB];simp)
   have cc:=hc.c e x oke okx
   simp only [rowZ,fnO,d1,e1,gj,g1,vcd,↓vcp,seval]
   repeat' first|refine ⟨fun h=>?_,fun h=>?_⟩|refine aO ?_|refine aT ?_|fail
   refine TR.gpw (gc:=true) hP rfl (fun _=>rfl) (fun _=>cc) (by intro _;simp only [vcd,↓vcp,seval]) (by intro _;simp only [vcd,↓vcp,seval]) ?_
   simp only [e1,gj,g1,vcd,↓vcp,seval]
   repeat' first|refine ⟨fun h=>?_,fun h=>?_⟩|refine aO ?_|refine aT ?_|fail
   ·refine lopK.on (j-1,swq 0 r j (j-1)) ⟨A,x::B,by rw [←hAB];simp,fun b hb=>?_,by simp only;omega,?_⟩ (by simp only;omega) (Wk.of _ hfn rfl (by simp only [fnO,enb,vcd,↓vcp,seval]) ?_)
    ·rcases List.mem_cons.1 hb with rfl|hb
     ·exact h
     ·exact hB b hb
    ·have:r=(P++A)++x::e::(B++(M.drop (k+1)++S)):=by rw [hr];simp
     simp only [this]
     rw [swq_next' 0 (P++A) x e _ (by simp;omega) (by simp;omega)];simp
    ·simp only [rowZ,enb,vcd,↓vcp,seval]
     exact OLe.swz (by omega) (by omega) gj g1 rfl
   ·have hlo:∀ a,a∈A++[x]→ltO cf e a=false:=fun a ha=>by
     have hS:=srt_sorted hc.w (M.take k) [] List.Pairwise.nil
     rw [←hAB] at hS
     have h8:ltO cf e x=false:=h
     rcases List.mem_append.1 ha with h9|h9
     ·have hS1:=(List.pairwise_append.1 (List.pairwise_append.1 hS).1).2.2 a h9 x (by simp)
      exact hc.w.nt e x a h8 hS1
     ·rw [List.mem_singleton.1 h9];exact h8
    refine lopK.on (i+1,r) ⟨k+1,by simp only;omega,by omega,.inl hlt,?_⟩ (by simp only;omega) (Wk.of _ hfn rfl (by simp only [fnO,w2,enb,vcd,↓vcp,seval]) (by simp only [rowZ,enb,vcd,↓vcp,seval]))
    simp only
    rw [hr,hT2,←hAB,mrg_ins1 hB hlo];simp
 ·have d0:decide ((i:Int)<((P.length+M.length:Nat):Int))=false:=decide_eq_false (by omega)
  have e1:M.take k=M:=List.take_of_length_le (by omega)
  have e2:M.drop k=[]:=List.drop_eq_nil_of_le (by omega)
  rw [e1,e2,List.nil_append] at hL
  simp only [rowZ,fnO,d0,vcd,↓vcp,seval]
  repeat' first|refine ⟨fun h=>?_,fun h=>?_⟩|refine aO ?_|refine aT ?_|fail
  refine RetK.mk' _ (Wk.refl _ _) (by simp only [rs201,rsb,vcd,↓vcp,seval]) (by simp only [rs201,rsb,enb,vcd,↓vcp,seval]) ?_
  simp only [hL,enb,vcd,↓vcp,seval]
theorem sSwapR {g:Nat} {ds:List D} (l:List Int) (a b n:Nat) (h1:a+n≤b) (h2:b+n≤l.length) (hl:l.length≤4611686018427387904) :
  Ctr Tryz.prog 209 [.osl 900,.d (.int .i64 (a:Int)),.d (.int .i64 (b:Int)),.d (.int .i64 (n:Int)),fnO g ds] [(900,rowZ l)] (.tup []) [(900,rowZ (blkq 0 l a b n))] []:=by
 refine ctr_own Tryz.func209 ok209 rfl cc209 cr209 Tryz.ntmps209 (by simp) rfl ?_
 intro c hP hfn
 simp only [kc209,namesL,V.names,ownNames,rowZ,fnO,vcd,↓vcp,seval]
 refine vcC.loop (X:=Nat×List Int) (fun x=>⟨[(0,.osl 900),(1,.d (.int .i64 (a:Int))),(2,.d (.int .i64 (b:Int))),(3,.d (.int .i64 (n:Int))),(10,.d (.int .i64 (x.1:Nat)))],[(900,rowZ x.2)],[900]⟩)
  (fun x=>x.1≤n∧x.2=blkq 0 l a b x.1) (fun x=>n-x.1) (0,l) ⟨Nat.zero_le _,(blkq_zero 0 l a b).symm⟩ (Wk.of _ hfn rfl (by simp only [fnO,enb,vcd,↓vcp,seval]) (by simp only [rowZ,enb,vcd,↓vcp,seval])) ?_
 rintro ⟨k,r⟩ ⟨hk,hr⟩
 simp only at hk hr
 have hrl:r.length=l.length:=by rw [hr,blkq_len]
 by_cases hlt:k<n
 ·have d0:decide ((k:Int)<(n:Int))=true:=decide_eq_true (by omega)
  have w1:IntKind.i64.wrap ((a:Int)+(k:Int))=((a+k:Nat):Int):=(wI (by omega)).trans (by omega)
  have w2:IntKind.i64.wrap ((b:Int)+(k:Int))=((b+k:Nat):Int):=(wI (by omega)).trans (by omega)
  have w3:IntKind.i64.wrap ((k:Int)+1)=((k+1:Nat):Int):=wS (by omega)
  have b1:(0:Int)≤((a+k:Nat):Int)∧((a+k:Nat):Int)<(r.length:Int):=by omega
  have b2:(0:Int)≤((b+k:Nat):Int)∧((b+k:Nat):Int)<(r.length:Int):=by omega
  obtain ⟨u,gu⟩:∃ u,r.getD (a+k) 0=u:=⟨_,rfl⟩
  obtain ⟨v,gv⟩:∃ v,r.getD (b+k) 0=v:=⟨_,rfl⟩
  simp only [rowZ,d0,w1,w2,gu,gv,vcd,↓vcp,seval]
  repeat' first|refine ⟨fun h=>?_,fun h=>?_⟩|refine aO ?_|refine aT ?_|fail
  refine lopK.on (k+1,swq 0 r (a+k) (b+k)) ⟨by simp only;omega,?_⟩ (by simp only;omega) (Wk.of _ hfn rfl (by simp only [w3,enb,vcd,↓vcp,seval]) ?_)
  ·simp only [hr];exact blkq_step 0 (by omega) (by omega)
  ·simp only [rowZ,enb,vcd,↓vcp,seval]
   exact OLe.swz (by omega) (by omega) gu gv rfl
 ·have d0:decide ((k:Int)<(n:Int))=false:=decide_eq_false (by omega)
  have hkn:k=n:=by omega
  subst hkn
  simp only [rowZ,d0,vcd,↓vcp,seval]
  repeat' first|refine ⟨fun h=>?_,fun h=>?_⟩|refine aO ?_|refine aT ?_|fail
  refine RetK.mk' _ (Wk.refl _ _) (by simp only [rs209,rsb,vcd,↓vcp,seval]) (by simp only [rs209,rsb,enb,vcd,↓vcp,seval]) ?_
  simp only [hr,enb,vcd,↓vcp,seval]
theorem sRotate {g:Nat} {ds:List D} (P U W S:List Int) (hu:0<U.length) (hw:0<W.length) (hl:P.length+U.length+W.length+S.length≤4611686018427387904) :
  Ctr Tryz.prog 207 [.osl 900,.d (.int .i64 (P.length:Int)),.d (.int .i64 ((P.length+U.length:Nat):Int)),.d (.int .i64 ((P.length+U.length+W.length:Nat):Int)),fnO g ds] [(900,rowZ (P++(U++(W++S))))] (.tup []) [(900,rowZ (P++(W++(U++S))))] []:=by
 refine ctr_own Tryz.func207 ok207 rfl cc207 cr207 Tryz.ntmps207 (by simp) rfl ?_
 intro c hP hfn
 have w1:IntKind.i64.wrap (((P.length+U.length:Nat):Int)-(P.length:Int))=((U.length:Nat):Int):=(wI (by omega)).trans (by omega)
 have w2:IntKind.i64.wrap (((P.length+U.length+W.length:Nat):Int)-((P.length+U.length:Nat):Int))=((W.length:Nat):Int):=(wI (by omega)).trans (by omega)
 simp only [kc207,namesL,V.names,ownNames,rowZ,fnO,w1,w2,vcd,↓vcp,seval]
 refine vcC.loop (X:=Nat×Nat×List Int) (fun x=>⟨[(0,.osl 900),(2,.d (.int .i64 ((P.length+U.length:Nat):Int))),(4,fnO g ds),(10,.d (.int .i64 (x.1:Nat))),(11,.d (.int .i64 (x.2.1:Nat)))],[(900,rowZ x.2.2)],[900]⟩)
  (fun x=>∃ P' U' W' S',x.1=U'.length∧x.2.1=W'.length∧0<U'.length∧0<W'.length∧P'.length+U'.length=P.length+U.length∧P'.length+U'.length+W'.length+S'.length≤4611686018427387904∧x.2.2=P'++(U'++(W'++S'))∧P++(W++(U++S))=P'++(W'++(U'++S'))) (fun x=>x.1+x.2.1) (U.length,W.length,P++(U++(W++S)))
  ⟨P,U,W,S,rfl,rfl,hu,hw,rfl,hl,rfl,rfl⟩ (Wk.of _ hfn rfl (by simp only [fnO,enb,vcd,↓vcp,seval]) (by simp only [rowZ,enb,vcd,↓vcp,seval])) ?_
 rintro ⟨i,j,r⟩ ⟨P',U',W',S',hi,hj,h1,h2,h3,h5,hr,h4⟩
 simp only at hi hj hr
 have hrl:r.length=P'.length+U'.length+W'.length+S'.length:=by rw [hr];simp only [List.length_append];omega
 have w3:IntKind.i64.wrap (((P.length+U.length:Nat):Int)-(i:Int))=((P'.length:Nat):Int):=(wI (by omega)).trans (by omega)
 by_cases hne:i=j
 ·have d0:((i:Int) != (j:Int))=false:=by rw [bne_eq_false_iff_eq];omega
  have cc:=sSwapR (g:=g) (ds:=ds) r P'.length (P.length+U.length) i (by omega) (by omega) (by omega)
  simp only [rowZ,fnO] at cc
  simp only [rowZ,fnO,d0,w3,vcd,↓vcp,seval]
  repeat' first|refine ⟨fun h=>?_,fun h=>?_⟩|refine aO ?_|refine aT ?_|fail
  refine TR.call [(900,rowZ r)] [(900,rowZ (blkq 0 r P'.length (P.length+U.length) i))] _ [] (by rw [hP];exact cc) (by repeat' first|exact trivial|(intro _;assumption)|apply And.intro) (hin1 rfl) (by simp [keysO]) (by simp) ?_
  simp only [vcd,↓vcp,seval]
  repeat' first|refine ⟨fun h=>?_,fun h=>?_⟩|refine aO ?_|refine aT ?_|fail
  refine RetK.mk' _ (Wk.refl _ _) (by simp only [rs207,rsb,vcd,↓vcp,seval]) (by simp only [rs207,rsb,enb,vcd,↓vcp,seval]) ?_
  have e:blkq 0 r P'.length (P.length+U.length) i=P++(W++(U++S)):=by
   rw [hr,h4,hi]
   have:=blkq_app 0 P' U' [] W' S' (by omega) (a:=P'.length) (b:=P.length+U.length) rfl (by simp;omega)
   simpa using this
  rw [e]
  simp only [rowZ,enb,vcd,↓vcp,seval]
 ·have d0:((i:Int) != (j:Int))=true:=by rw [bne_iff_ne];omega
  by_cases hgt:i>j
  ·have d1:decide ((i:Int)>(j:Int))=true:=decide_eq_true (by omega)
   have cc:=sSwapR (g:=g) (ds:=ds) r P'.length (P.length+U.length) j (by omega) (by omega) (by omega)
   have w4:IntKind.i64.wrap ((i:Int)-(j:Int))=((i-j:Nat):Int):=(wI (by omega)).trans (by omega)
   simp only [rowZ,fnO] at cc
   simp only [rowZ,fnO,d0,d1,w3,vcd,↓vcp,seval]
   repeat' first|refine ⟨fun h=>?_,fun h=>?_⟩|refine aO ?_|refine aT ?_|fail
   refine TR.call [(900,rowZ r)] [(900,rowZ (blkq 0 r P'.length (P.length+U.length) j))] _ [] (by rw [hP];exact cc) (by repeat' first|exact trivial|(intro _;assumption)|apply And.intro) (hin1 rfl) (by simp [keysO]) (by simp) ?_
   simp only [w4,vcd,↓vcp,seval]
   repeat' first|refine ⟨fun h=>?_,fun h=>?_⟩|refine aO ?_|refine aT ?_|fail
   have tk:∀ Z,U'.take j++(U'.drop j++Z)=U'++Z:=fun Z=>by rw [←List.append_assoc,List.take_append_drop]
   have e:blkq 0 r P'.length (P.length+U.length) j=(P'++W')++(U'.drop j++(U'.take j++S')):=by
    rw [hr]
    have:=blkq_app 0 P' (U'.take j) (U'.drop j) W' S' (by rw [List.length_take];omega) (a:=P'.length) (b:=P.length+U.length) rfl (by rw [List.length_take,List.length_drop];omega)
    rw [List.length_take,Nat.min_eq_left (by omega)] at this
    simpa [tk] using this
   rw [e]
   refine lopK.on (i-j,j,(P'++W')++(U'.drop j++(U'.take j++S'))) ⟨P'++W',U'.drop j,U'.take j,S',?_,?_,?_,?_,?_,?_,rfl,?_⟩ (by simp only;omega) (Wk.of _ hfn rfl (by simp only [fnO,w4,enb,vcd,↓vcp,seval]) (by simp only [rowZ,enb,vcd,↓vcp,seval]))
   ·rw [List.length_drop];simp only;omega
   ·rw [List.length_take];simp only;omega
   ·rw [List.length_drop];omega
   ·rw [List.length_take];omega
   ·rw [List.length_drop,List.length_append];omega
   ·rw [List.length_drop,List.length_append,List.length_take];omega
   ·rw [h4];simp [tk]
  ·have d1:decide ((i:Int)>(j:Int))=false:=decide_eq_false (by omega)
   have w5:IntKind.i64.wrap (((P.length+U.length:Nat):Int)+(j:Int))=((P.length+U.length+j:Nat):Int):=(wI (by omega)).trans (by omega)
   have w6:IntKind.i64.wrap (((P.length+U.length+j:Nat):Int)-(i:Int))=((P.length+U.length+j-i:Nat):Int):=(wI (by omega)).trans (by omega)
   have w4:IntKind.i64.wrap ((j:Int)-(i:Int))=((j-i:Nat):Int):=(wI (by omega)).trans (by omega)
   have cc:=sSwapR (g:=g) (ds:=ds) r P'.length (P.length+U.length+j-i) i (by omega) (by omega) (by omega)
   simp only [rowZ,fnO] at cc
   simp only [rowZ,fnO,d0,d1,w3,w5,w6,vcd,↓vcp,seval]
   repeat' first|refine ⟨fun h=>?_,fun h=>?_⟩|refine aO ?_|refine aT ?_|fail
   refine TR.call [(900,rowZ r)] [(900,rowZ (blkq 0 r P'.length (P.length+U.length+j-i) i))] _ [] (by rw [hP];exact cc) (by repeat' first|exact trivial|(intro _;assumption)|apply And.intro) (hin1 rfl) (by simp [keysO]) (by simp) ?_
   simp only [w4,vcd,↓vcp,seval]
   repeat' first|refine ⟨fun h=>?_,fun h=>?_⟩|refine aO ?_|refine aT ?_|fail
   have tk:∀ Z,W'.take (j-i)++(W'.drop (j-i)++Z)=W'++Z:=fun Z=>by rw [←List.append_assoc,List.take_append_drop]
   have e:blkq 0 r P'.length (P.length+U.length+j-i) i=P'++(W'.drop (j-i)++(W'.take (j-i)++(U'++S'))):=by
    rw [hr,hi]
    have:=blkq_app 0 P' U' (W'.take (j-U'.length)) (W'.drop (j-U'.length)) S' (by rw [List.length_drop];omega) (a:=P'.length) (b:=P.length+U.length+j-U'.length) rfl (by rw [List.length_take];omega)
    rw [←hi] at this ⊢
    simpa [tk] using this
   rw [e]
   refine lopK.on (i,j-i,P'++(W'.drop (j-i)++(W'.take (j-i)++(U'++S')))) ⟨P',W'.drop (j-i),W'.take (j-i),U'++S',?_,?_,?_,?_,?_,?_,rfl,?_⟩ (by simp only;omega) (Wk.of _ hfn rfl (by simp only [fnO,w4,enb,vcd,↓vcp,seval]) (by simp only [rowZ,enb,vcd,↓vcp,seval]))
   ·rw [List.length_drop];simp only;omega
   ·rw [List.length_take];simp only;omega
   ·rw [List.length_drop];omega
   ·rw [List.length_take];omega
   ·rw [List.length_drop];omega
   ·rw [List.length_drop,List.length_append,List.length_take];omega
   ·rw [h4];simp [tk]
end Go.Proofs.YtanppabbmffokaaGreat
end
section
namespace Go.Proofs.YtanppabbmffokaaGreat
open Go.Bx
set_option maxRecDepth 10000
theorem midW {i j:Nat} (h:i+j≤9223372036854775807):IntKind.i64.wrap ((IntKind.u64.wrap (IntKind.i64.wrap ((i:Int)+(j:Int)))).fdiv (2 ^ min 1 IntKind.u64.bits))=(((i+j) / 2:Nat):Int):=by
 have e1:IntKind.i64.wrap ((i:Int)+(j:Int))=((i+j:Nat):Int):=(wI (by omega)).trans (by omega)
 have e2:IntKind.u64.wrap ((i+j:Nat):Int)=((i+j:Nat):Int):=by
  rw [IntWalk.u64_in _ (by omega)]
 have e3:((i+j:Nat):Int).fdiv (2 ^ min 1 IntKind.u64.bits)=(((i+j) / 2:Nat):Int):=by
  have:(2:Int) ^ min 1 IntKind.u64.bits=2:=rfl
  rw [this,Int.fdiv_eq_ediv_of_nonneg _ (by omega)];omega
 rw [e1,e2,e3,wI (by omega)]
theorem ins_lo {lt:Int→Int→Bool} (w:Swo lt) {x:Int} {B:List Int} (hB:Srt lt B) {j:Nat} (hj:j≤B.length) (h1:0<j→lt (B.getD (j-1) 0) x=true) (h2:j<B.length→lt (B.getD j 0) x=false):mrg lt [x] B=B.take j++x::B.drop j:=by
 have e1:=cut_mrg 0 w (List.pairwise_singleton _ x) hB 0 j (Nat.zero_le _) hj (fun _ h=>by simpa using h1 h) (fun h=>absurd h (Nat.lt_irrefl _))
 have hD:Srt lt (B.drop j):=List.Pairwise.sublist (List.drop_sublist j B) hB
 have e2:=cut_mrg 0 w (List.pairwise_singleton _ x) hD 1 0 (by simp) (Nat.zero_le _) (fun h=>absurd h (by simp)) (fun _ h=>by
  have h3:j<B.length:=by rw [List.length_drop] at h;omega
  simpa [List.getD_eq_getElem?_getD] using h2 h3)
 simp only [List.take_zero,List.drop_zero,mrg_nil2] at e1
 simp [mrg_nil,mrg_nil2] at e2
 rw [e1,e2]
theorem ins_hi {lt:Int→Int→Bool} (w:Swo lt) {x:Int} {A:List Int} (hA:Srt lt A) {i:Nat} (hi:i≤A.length) (h1:i<A.length→lt x (A.getD i 0)=true) (h2:0<i→lt x (A.getD (i-1) 0)=false):mrg lt A [x]=A.take i++x::A.drop i:=by
 have e1:=cut_mrg 0 w hA (List.pairwise_singleton _ x) i 0 hi (Nat.zero_le _) (fun _ h=>absurd h (Nat.lt_irrefl _)) (fun h _=>by simpa using h2 h)
 have hD:Srt lt (A.drop i):=List.Pairwise.sublist (List.drop_sublist i A) hA
 have e2:=cut_mrg 0 w hD (List.pairwise_singleton _ x) 0 1 (Nat.zero_le _) (by simp) (fun h _=>by
  have h3:i<A.length:=by rw [List.length_drop] at h;omega
  simpa [List.getD_eq_getElem?_getD] using h1 h3) (fun h=>absurd h (Nat.lt_irrefl _))
 simp only [List.take_zero,List.drop_zero,mrg_nil] at e1
 simp [mrg_nil,mrg_nil2] at e2
 rw [e1,e2]
theorem sRot {g:Nat} {ds:List D} (P U W S:List Int) (a m b:Nat) (ha:a=P.length) (hm:m=a+U.length) (hb:b=m+W.length) (hu:0<U.length) (hw:0<W.length) (hl:b+S.length≤4611686018427387904) :
  Ctr Tryz.prog 207 [.osl 900,.d (.int .i64 (a:Int)),.d (.int .i64 (m:Int)),.d (.int .i64 (b:Int)),fnO g ds] [(900,rowZ (P++(U++(W++S))))] (.tup []) [(900,rowZ (P++(W++(U++S))))] []:=by
 subst ha;subst hm;subst hb
 exact sRotate P U W S hu hw hl
def SymAt (g : Nat) (ds : List D) (cf : Int → Int → Int) (ok : Int → Prop) (N : Nat) : Prop := ∀ (P A B S : List Int) (a m b : Nat), a = P.length → m = a + A.length → b = m + B.length → A.length + B.length ≤ N → 0 < A.length → 0 < B.length → Srt (ltO cf) A → Srt (ltO cf) B → (∀ x, x ∈ A ++ B → ok x) → b + S.length ≤ 2305843009213693952 →
    Ctr Tryz.prog 202 [.osl 900,.d (.int .i64 (a:Int)),.d (.int .i64 (m:Int)),.d (.int .i64 (b:Int)),fnO g ds] [(900,rowZ (P++(A++(B++S))))] (.tup []) [(900,rowZ (P++(mrg (ltO cf) A B++S)))] []
set_option maxHeartbeats 2000000 in
theorem sSymA {g:Nat} {ds:List D} {cf:Int→Int→Int} {ok:Int→Prop} (hc:CmpO g ds cf ok) (P A B S:List Int) (a m b:Nat) (ha:a=P.length) (hm:m=a+A.length) (hb:b=m+B.length) (hA:0<A.length) (hB:0<B.length) (sA:Srt (ltO cf) A) (sB:Srt (ltO cf) B) (hok:∀ x,x∈A++B→ok x) (hl:b+S.length≤2305843009213693952) (hA1:A.length=1) :
  Ctr Tryz.prog 202 [.osl 900,.d (.int .i64 (a:Int)),.d (.int .i64 (m:Int)),.d (.int .i64 (b:Int)),fnO g ds] [(900,rowZ (P++(A++(B++S))))] (.tup []) [(900,rowZ (P++(mrg (ltO cf) A B++S)))] []:=by
 refine ctr_own Tryz.func202 ok202 rfl cc202 cr202 Tryz.ntmps202 (by simp) rfl ?_
 intro c hP hfn
 obtain ⟨r,hr⟩:∃ r,r=P++(A++(B++S)):=⟨_,rfl⟩
 have hrl:r.length=b+S.length:=by rw [hr];simp only [List.length_append];omega
 have gA:∀ k,k<A.length→r.getD (a+k) 0=A.getD k 0:=fun k hk=>by
  rw [hr];simp only [getD_app];rw [if_neg (by omega),if_pos (by omega)];congr 1;omega
 have gB:∀ k,k<B.length→r.getD (m+k) 0=B.getD k 0:=fun k hk=>by
  rw [hr];simp only [getD_app];rw [if_neg (by omega),if_neg (by omega),if_pos (by omega)];congr 1;omega
 have okA:∀ k,k<A.length→ok (A.getD k 0):=fun k hk=>by
  obtain ⟨x,-,hx,hm,-⟩:=drop_at hk;rw [hx];exact hok x (by simp [hm])
 have okB:∀ k,k<B.length→ok (B.getD k 0):=fun k hk=>by
  obtain ⟨x,-,hx,hm,-⟩:=drop_at hk;rw [hx];exact hok x (by simp [hm])
 rw [←hr]
 have wa:IntKind.i64.wrap ((m:Int)-(a:Int))=1:=(wI (by omega)).trans (by omega)
 simp only [kc202,namesL,V.names,ownNames,rowZ,fnO,wa,vcd,↓vcp,seval]
 repeat' first|refine ⟨fun h=>?_,fun h=>?_⟩|refine aO ?_|refine aT ?_|fail
 refine vcC.loop (X:=Nat×Nat) (fun x=>⟨[(0,.osl 900),(1,.d (.int .i64 (a:Int))),(4,fnO g ds),(10,.d (.int .i64 (x.1:Nat))),(11,.d (.int .i64 (x.2:Nat)))],[(900,rowZ r)],[900]⟩)
  (fun x=>m≤x.1∧x.1≤x.2∧x.2≤b∧(m<x.1→ltO cf (B.getD (x.1-1-m) 0) (A.getD 0 0)=true)∧(x.2<b→ltO cf (B.getD (x.2-m) 0) (A.getD 0 0)=false)) (fun x=>x.2-x.1) (m,b) ⟨Nat.le_refl _,by simp only;omega,Nat.le_refl _,fun h=>absurd h (Nat.lt_irrefl _),fun h=>absurd h (Nat.lt_irrefl _)⟩ (Wk.of _ hfn rfl (by simp only [fnO,enb,vcd,↓vcp,seval]) (by simp only [rowZ,enb,vcd,↓vcp,seval])) ?_
 rintro ⟨i,j⟩ ⟨h1,h2,h3,h4,h5⟩
 simp only at h1 h2 h3 h4 h5
 by_cases hij:i<j
 ·have d1:decide ((i:Int)<(j:Int))=true:=decide_eq_true (by omega)
  have wm:=midW (i:=i) (j:=j) (by omega)
  obtain ⟨q,hh⟩:∃ q,q=(i+j) / 2:=⟨_,rfl⟩
  have hb1:i≤q∧q<j:=by omega
  rw [←hh] at wm
  have g1:r.getD q 0=B.getD (q-m) 0:=by rw [←gB _ (by omega)];congr 1;omega
  have g2:r.getD a 0=A.getD 0 0:=by have:=gA 0 hA;simpa using this
  have cc:=hc.c _ _ (okB (q-m) (by omega)) (okA 0 hA)
  have bh:(0:Int)≤(q:Int)∧(q:Int)<(r.length:Int):=by omega
  have ba:(0:Int)≤(a:Int)∧(a:Int)<(r.length:Int):=by omega
  have w2:IntKind.i64.wrap ((q:Int)+1)=((q+1:Nat):Int):=wS (by omega)
  simp only [rowZ,fnO,d1,wm,g1,g2,vcd,↓vcp,seval]
  repeat' first|((first|refine tp hP (by exact cc) ?_|refine tg hP (fun _=>by exact cc) ?_|refine tv hP rfl (by exact cc) ?_);try simp only [wm,g1,g2,vcd,↓vcp,seval])|refine ⟨fun h=>?_,fun h=>?_⟩|refine aO ?_|refine aT ?_|fail
  ·exact lopK.on (q+1,j) ⟨by simp only;omega,by simp only;omega,h3,fun _=>by simpa [ltO] using h,h5⟩ (by simp only;omega) (Wk.of _ hfn rfl (by simp only [fnO,w2,enb,vcd,↓vcp,seval]) (by simp only [rowZ,enb,vcd,↓vcp,seval]))
  ·exact lopK.on (i,q) ⟨h1,by simp only;omega,by simp only;omega,h4,fun _=>h⟩ (by simp only;omega) (Wk.of _ hfn rfl (by simp only [fnO,enb,vcd,↓vcp,seval]) (by simp only [rowZ,enb,vcd,↓vcp,seval]))
 ·have d1:decide ((i:Int)<(j:Int))=false:=decide_eq_false (by omega)
  have hij2:j=i:=by omega
  subst hij2
  obtain ⟨x,rfl⟩:∃ x,A=[x]:=by
   match A,hA1 with
   |[x],_=>exact ⟨x,rfl⟩
  have hml:m=a+1:=hm
  have hmr:=ins_lo hc.w (x:=x) sB (j:=j-m) (by omega) (fun h=>by have:=h4 (by omega);rw [show j-m-1=j-1-m by omega];simpa using this) (fun h=>by have:=h5 (by omega);simpa using this)
  have w3:IntKind.i64.wrap ((j:Int)-1)=((j-1:Nat):Int):=(wI (by omega)).trans (by omega)
  simp only [rowZ,fnO,d1,vcd,↓vcp,seval]
  repeat' first|refine ⟨fun h=>?_,fun h=>?_⟩|refine aO ?_|refine aT ?_|fail
  refine vcC.loop (X:=Nat×List Int) (fun x=>⟨[(0,.osl 900),(10,.d (.int .i64 (j:Nat))),(13,.d (.int .i64 (x.1:Nat)))],[(900,rowZ x.2)],[900]⟩)
   (fun y=>∃ t,y.1=a+t∧t≤j-m∧y.2=P++(B.take t++(x::(B.drop t++S)))) (fun y=>j-y.1) (a,r) ⟨0,rfl,Nat.zero_le _,by simpa using hr⟩ (Wk.of _ hfn rfl (by simp only [fnO,enb,vcd,↓vcp,seval]) (by simp only [rowZ,enb,vcd,↓vcp,seval])) ?_
  rintro ⟨k,l⟩ ⟨t,hk,ht,hL⟩
  simp only at hk hL
  by_cases hlt:t<j-m
  ·have d2:decide ((k:Int)<((j-1:Nat):Int))=true:=decide_eq_true (by omega)
   have w4:IntKind.i64.wrap ((k:Int)+1)=((k+1:Nat):Int):=wS (by omega)
   obtain ⟨y,hd,-,-,he⟩:=drop_at (l:=B) (k:=t) (by omega)
   have hL2:l=(P++B.take t)++x::y::(B.drop (t+1)++S):=by rw [hL,hd];simp
   have hll:l.length=P.length+t+1+1+(B.length-(t+1))+S.length:=by rw [hL2];simp only [List.length_append,List.length_cons,List.length_take,List.length_drop];omega
   have u1:l.getD k 0=x:=by rw [hL2];exact getD_at (by simp only [List.length_append,List.length_take];omega)
   have u2:l.getD (k+1) 0=y:=by
    rw [hL2,show (P++B.take t)++x::y::(B.drop (t+1)++S)=(P++B.take t++[x])++y::(B.drop (t+1)++S) by simp]
    exact getD_at (by simp only [List.length_append,List.length_take,List.length_singleton];omega)
   have b1:(0:Int)≤(k:Int)∧(k:Int)<(l.length:Int):=by omega
   have b2:(0:Int)≤((k+1:Nat):Int)∧((k+1:Nat):Int)<(l.length:Int):=by omega
   simp only [rowZ,w3,w4,d2,u1,u2,vcd,↓vcp,seval]
   repeat' first|refine ⟨fun h=>?_,fun h=>?_⟩|refine aO ?_|refine aT ?_|fail
   refine lopK.on (k+1,swq 0 l k (k+1)) ⟨t+1,by simp only;omega,hlt,?_⟩ (by simp only;omega) (Wk.of _ hfn rfl (by simp only [w4,enb,vcd,↓vcp,seval]) ?_)
   ·simp only [hL2]
    rw [swq_next 0 (P++B.take t) x y _ (by simp only [List.length_append,List.length_take];omega) (by simp only [List.length_append,List.length_take];omega),List.take_add_one,he]
    simp
   ·simp only [rowZ,enb,vcd,↓vcp,seval]
    have:=OLe.swz (e:=3) (l:=l) (i:=k) (j:=k+1) (by omega) (by omega) u1 u2 rfl
    simp only [show ¬ k+1=k by omega,if_false] at this
    exact this
  ·have d2:decide ((k:Int)<((j-1:Nat):Int))=false:=decide_eq_false (by omega)
   have ht2:t=j-m:=by omega
   have hL2:l=P++(mrg (ltO cf) [x] B++S):=by rw [hL,hmr,ht2];simp
   simp only [rowZ,w3,d2,vcd,↓vcp,seval]
   repeat' first|refine ⟨fun h=>?_,fun h=>?_⟩|refine aO ?_|refine aT ?_|fail
   refine RetK.mk _ (Wk.refl _ _) (by simp only [rs202,rsb,vcd,↓vcp,seval]) (by simp only [rs202,rsb,enb,vcd,↓vcp,seval]) ?_
   simp only [hL2,enb,vcd,↓vcp,seval]
set_option maxHeartbeats 2000000 in
theorem sSymB {g:Nat} {ds:List D} {cf:Int→Int→Int} {ok:Int→Prop} (hc:CmpO g ds cf ok) (P A B S:List Int) (a m b:Nat) (ha:a=P.length) (hm:m=a+A.length) (hb:b=m+B.length) (hA:0<A.length) (hB:0<B.length) (sA:Srt (ltO cf) A) (sB:Srt (ltO cf) B) (hok:∀ x,x∈A++B→ok x) (hl:b+S.length≤2305843009213693952) (hA1:¬ A.length=1) (hB1:B.length=1) :
  Ctr Tryz.prog 202 [.osl 900,.d (.int .i64 (a:Int)),.d (.int .i64 (m:Int)),.d (.int .i64 (b:Int)),fnO g ds] [(900,rowZ (P++(A++(B++S))))] (.tup []) [(900,rowZ (P++(mrg (ltO cf) A B++S)))] []:=by
 refine ctr_own Tryz.func202 ok202 rfl cc202 cr202 Tryz.ntmps202 (by simp) rfl ?_
 intro c hP hfn
 obtain ⟨r,hr⟩:∃ r,r=P++(A++(B++S)):=⟨_,rfl⟩
 have hrl:r.length=b+S.length:=by rw [hr];simp only [List.length_append];omega
 have gA:∀ k,k<A.length→r.getD (a+k) 0=A.getD k 0:=fun k hk=>by
  rw [hr];simp only [getD_app];rw [if_neg (by omega),if_pos (by omega)];congr 1;omega
 have gB:∀ k,k<B.length→r.getD (m+k) 0=B.getD k 0:=fun k hk=>by
  rw [hr];simp only [getD_app];rw [if_neg (by omega),if_neg (by omega),if_pos (by omega)];congr 1;omega
 have okA:∀ k,k<A.length→ok (A.getD k 0):=fun k hk=>by
  obtain ⟨x,-,hx,hm,-⟩:=drop_at hk;rw [hx];exact hok x (by simp [hm])
 have okB:∀ k,k<B.length→ok (B.getD k 0):=fun k hk=>by
  obtain ⟨x,-,hx,hm,-⟩:=drop_at hk;rw [hx];exact hok x (by simp [hm])
 rw [←hr]
 have wa:(IntKind.i64.wrap ((m:Int)-(a:Int)) == 1)=false:=by rw [beq_eq_false_iff_ne,wI (by omega)];omega
 have wb:(IntKind.i64.wrap ((b:Int)-(m:Int)) == 1)=true:=by rw [beq_iff_eq,wI (by omega)];omega
 simp only [kc202,namesL,V.names,ownNames,rowZ,fnO,wa,wb,vcd,↓vcp,seval]
 repeat' first|refine ⟨fun h=>?_,fun h=>?_⟩|refine aO ?_|refine aT ?_|fail
 refine vcC.loop (X:=Nat×Nat) (fun x=>⟨[(0,.osl 900),(2,.d (.int .i64 (m:Int))),(4,fnO g ds),(14,.d (.int .i64 (x.1:Nat))),(15,.d (.int .i64 (x.2:Nat)))],[(900,rowZ r)],[900]⟩)
  (fun x=>a≤x.1∧x.1≤x.2∧x.2≤m∧(a<x.1→ltO cf (B.getD 0 0) (A.getD (x.1-1-a) 0)=false)∧(x.2<m→ltO cf (B.getD 0 0) (A.getD (x.2-a) 0)=true)) (fun x=>x.2-x.1) (a,m) ⟨Nat.le_refl _,by simp only;omega,Nat.le_refl _,fun h=>absurd h (Nat.lt_irrefl _),fun h=>absurd h (Nat.lt_irrefl _)⟩ (Wk.of _ hfn rfl (by simp only [fnO,enb,vcd,↓vcp,seval]) (by simp only [rowZ,enb,vcd,↓vcp,seval])) ?_
 rintro ⟨i,j⟩ ⟨h1,h2,h3,h4,h5⟩
 simp only at h1 h2 h3 h4 h5
 by_cases hij:i<j
 ·have d1:decide ((i:Int)<(j:Int))=true:=decide_eq_true (by omega)
  have wm:=midW (i:=i) (j:=j) (by omega)
  obtain ⟨q,hh⟩:∃ q,q=(i+j) / 2:=⟨_,rfl⟩
  have hb1:i≤q∧q<j:=by omega
  rw [←hh] at wm
  have g1:r.getD q 0=A.getD (q-a) 0:=by rw [←gA _ (by omega)];congr 1;omega
  have g2:r.getD m 0=B.getD 0 0:=by have:=gB 0 hB;simpa using this
  have cc:=hc.c _ _ (okB 0 hB) (okA (q-a) (by omega))
  have bh:(0:Int)≤(q:Int)∧(q:Int)<(r.length:Int):=by omega
  have ba:(0:Int)≤(m:Int)∧(m:Int)<(r.length:Int):=by omega
  have w2:IntKind.i64.wrap ((q:Int)+1)=((q+1:Nat):Int):=wS (by omega)
  simp only [rowZ,fnO,d1,wm,g1,g2,vcd,↓vcp,seval]
  repeat' first|((first|refine tp hP (by exact cc) ?_|refine tg hP (fun _=>by exact cc) ?_|refine tv hP rfl (by exact cc) ?_);try simp only [wm,g1,g2,vcd,↓vcp,seval])|refine ⟨fun h=>?_,fun h=>?_⟩|refine aO ?_|refine aT ?_|fail
  ·exact lopK.on (q+1,j) ⟨by simp only;omega,by simp only;omega,h3,fun _=>by simpa [ltO] using h,h5⟩ (by simp only;omega) (Wk.of _ hfn rfl (by simp only [fnO,w2,enb,vcd,↓vcp,seval]) (by simp only [rowZ,enb,vcd,↓vcp,seval]))
  ·exact lopK.on (i,q) ⟨h1,by simp only;omega,by simp only;omega,h4,fun _=>by simpa [ltO] using h⟩ (by simp only;omega) (Wk.of _ hfn rfl (by simp only [fnO,enb,vcd,↓vcp,seval]) (by simp only [rowZ,enb,vcd,↓vcp,seval]))
 ·have d1:decide ((i:Int)<(j:Int))=false:=decide_eq_false (by omega)
  have hij2:j=i:=by omega
  subst hij2
  obtain ⟨x,rfl⟩:∃ x,B=[x]:=by
   match B,hB1 with
   |[x],_=>exact ⟨x,rfl⟩
  have hmr:=ins_hi hc.w (x:=x) sA (i:=j-a) (by omega) (fun h=>by have:=h5 (by omega);simpa using this) (fun h=>by have:=h4 (by omega);rw [show j-a-1=j-1-a by omega];simpa using this)
  simp only [rowZ,fnO,d1,vcd,↓vcp,seval]
  repeat' first|refine ⟨fun h=>?_,fun h=>?_⟩|refine aO ?_|refine aT ?_|fail
  refine vcC.loop (X:=Nat×List Int) (fun x=>⟨[(0,.osl 900),(14,.d (.int .i64 (j:Nat))),(17,.d (.int .i64 (x.1:Nat)))],[(900,rowZ x.2)],[900]⟩)
   (fun y=>∃ t,y.1=a+t∧j-a≤t∧t≤A.length∧y.2=P++(A.take t++(x::(A.drop t++S)))) (fun y=>y.1) (m,r) ⟨A.length,hm,by omega,Nat.le_refl _,by simpa using hr⟩ (Wk.of _ hfn rfl (by simp only [fnO,enb,vcd,↓vcp,seval]) (by simp only [rowZ,enb,vcd,↓vcp,seval])) ?_
  rintro ⟨k,l⟩ ⟨t,hk,ht,htA,hL⟩
  simp only at hk hL
  by_cases hlt:j-a<t
  ·have d2:decide ((k:Int)>(j:Int))=true:=decide_eq_true (by omega)
   have w4:IntKind.i64.wrap ((k:Int)-1)=((k-1:Nat):Int):=(wI (by omega)).trans (by omega)
   obtain ⟨t,rfl⟩:∃ t',t=t'+1:=⟨t-1,by omega⟩
   obtain ⟨y,hd,-,-,he⟩:=drop_at (l:=A) (k:=t) (by omega)
   have hL2:l=(P++A.take t)++y::x::(A.drop (t+1)++S):=by rw [hL,List.take_add_one,he];simp
   have hll:l.length=P.length+t+1+1+(A.length-(t+1))+S.length:=by rw [hL2];simp only [List.length_append,List.length_cons,List.length_take,List.length_drop];omega
   have u2:l.getD (k-1) 0=y:=by rw [hL2];exact getD_at (by simp only [List.length_append,List.length_take];omega)
   have u1:l.getD k 0=x:=by
    rw [hL2,show (P++A.take t)++y::x::(A.drop (t+1)++S)=(P++A.take t++[y])++x::(A.drop (t+1)++S) by simp]
    exact getD_at (by simp only [List.length_append,List.length_take,List.length_singleton];omega)
   have b1:(0:Int)≤(k:Int)∧(k:Int)<(l.length:Int):=by omega
   have b2:(0:Int)≤((k-1:Nat):Int)∧((k-1:Nat):Int)<(l.length:Int):=by omega
   simp only [rowZ,w4,d2,u1,u2,vcd,↓vcp,seval]
   repeat' first|refine ⟨fun h=>?_,fun h=>?_⟩|refine aO ?_|refine aT ?_|fail
   refine lopK.on (k-1,swq 0 l k (k-1)) ⟨t,by simp only;omega,by omega,by omega,?_⟩ (by simp only;omega) (Wk.of _ hfn rfl (by simp only [w4,enb,vcd,↓vcp,seval]) ?_)
   ·simp only [hL2]
    rw [swq_next' 0 (P++A.take t) y x _ (by simp only [List.length_append,List.length_take];omega) (by simp only [List.length_append,List.length_take];omega),hd]
    simp
   ·simp only [rowZ,enb,vcd,↓vcp,seval]
    exact OLe.swz (by omega) (by omega) u1 u2 rfl
  ·have d2:decide ((k:Int)>(j:Int))=false:=decide_eq_false (by omega)
   have ht2:t=j-a:=by omega
   have hL2:l=P++(mrg (ltO cf) A [x]++S):=by rw [hL,hmr,ht2];simp
   simp only [rowZ,d2,vcd,↓vcp,seval]
   repeat' first|refine ⟨fun h=>?_,fun h=>?_⟩|refine aO ?_|refine aT ?_|fail
   refine RetK.mk _ (Wk.refl _ _) (by simp only [rs202,rsb,vcd,↓vcp,seval]) (by simp only [rs202,rsb,enb,vcd,↓vcp,seval]) ?_
   simp only [hL2,enb,vcd,↓vcp,seval]
theorem symEnd {g:Nat} {ds:List D} {cf:Int→Int→Int} {ok:Int→Prop} (hc:CmpO g ds cf ok) {N:Nat} (ih:SymAt g ds cf ok N) (P A B S:List Int) (a m b:Nat) (ha:a=P.length) (hm:m=a+A.length) (hb:b=m+B.length) (hN:A.length+B.length≤N+1) (hA:0<A.length) (hB:0<B.length) (sA:Srt (ltO cf) A) (sB:Srt (ltO cf) B) (hok:∀ x,x∈A++B→ok x) (hl:b+S.length≤2305843009213693952) {e mid en:Nat} (c1:a≤e) (c2:e≤m) (c3:e≤mid) (c4:mid+m≤e+b) (c5:a<mid) (c6:mid<b) (hen:en+e=mid+m)
  (hcut:mrg (ltO cf) A B=mrg (ltO cf) (A.take (e-a)) (B.take (mid-e))++mrg (ltO cf) (A.drop (e-a)) (B.drop (mid-e))) :
  ∃ r1 r2,(e<m→m<en→Ctr Tryz.prog 207 [.osl 900,.d (.int .i64 (e:Int)),.d (.int .i64 (m:Int)),.d (.int .i64 (en:Int)),fnO g ds] [(900,rowZ (P++(A++(B++S))))] (.tup []) [(900,rowZ r1)] []) ∧
  (¬ (e<m∧m<en)→P++(A++(B++S))=r1) ∧
  (a<e→e<mid→Ctr Tryz.prog 202 [.osl 900,.d (.int .i64 (a:Int)),.d (.int .i64 (e:Int)),.d (.int .i64 (mid:Int)),fnO g ds] [(900,rowZ r1)] (.tup []) [(900,rowZ r2)] [])∧(¬ (a<e∧e<mid)→r1=r2) ∧
  (mid<en→en<b→Ctr Tryz.prog 202 [.osl 900,.d (.int .i64 (mid:Int)),.d (.int .i64 (en:Int)),.d (.int .i64 (b:Int)),fnO g ds] [(900,rowZ r2)] (.tup []) [(900,rowZ (P++(mrg (ltO cf) A B++S)))] [])∧(¬ (mid<en∧en<b)→r2=P++(mrg (ltO cf) A B++S)):=by
 obtain ⟨A1,hA1'⟩:∃ q,q=A.take (e-a):=⟨_,rfl⟩
 obtain ⟨A2,hA2'⟩:∃ q,q=A.drop (e-a):=⟨_,rfl⟩
 obtain ⟨B1,hB1'⟩:∃ q,q=B.take (mid-e):=⟨_,rfl⟩
 obtain ⟨B2,hB2'⟩:∃ q,q=B.drop (mid-e):=⟨_,rfl⟩
 have lA1:A1.length=e-a:=by rw [hA1',List.length_take];omega
 have lA2:A2.length=m-e:=by rw [hA2',List.length_drop];omega
 have lB1:B1.length=en-m:=by rw [hB1',List.length_take];omega
 have lB2:B2.length=b-en:=by rw [hB2',List.length_drop];omega
 have eA:A1++A2=A:=by rw [hA1',hA2',List.take_append_drop]
 have eB:B1++B2=B:=by rw [hB1',hB2',List.take_append_drop]
 rw [←hA1',←hA2',←hB1',←hB2'] at hcut
 have sA1:Srt (ltO cf) A1:=by rw [hA1'];exact List.Pairwise.sublist (List.take_sublist _ A) sA
 have sA2:Srt (ltO cf) A2:=by rw [hA2'];exact List.Pairwise.sublist (List.drop_sublist _ A) sA
 have sB1:Srt (ltO cf) B1:=by rw [hB1'];exact List.Pairwise.sublist (List.take_sublist _ B) sB
 have sB2:Srt (ltO cf) B2:=by rw [hB2'];exact List.Pairwise.sublist (List.drop_sublist _ B) sB
 have ok1:∀ x,x∈A1++B1→ok x:=fun x hx=>hok x (by rw [←eA,←eB];simp only [List.mem_append] at hx ⊢;rcases hx with h|h<;>simp [h])
 have ok2:∀ x,x∈A2++B2→ok x:=fun x hx=>hok x (by rw [←eA,←eB];simp only [List.mem_append] at hx ⊢;rcases hx with h|h<;>simp [h])
 obtain ⟨r1,hr1⟩:∃ q,q=P++(A1++(B1++(A2++(B2++S)))):=⟨_,rfl⟩
 obtain ⟨r2,hr2⟩:∃ q,q=P++(mrg (ltO cf) A1 B1++(A2++(B2++S))):=⟨_,rfl⟩
 have hr0:P++(A++(B++S))=(P++A1)++(A2++(B1++(B2++S))):=by rw [←eA,←eB];simp
 have hr3:P++(mrg (ltO cf) A B++S)=(P++mrg (ltO cf) A1 B1)++(mrg (ltO cf) A2 B2++S):=by rw [hcut];simp
 have lM:(mrg (ltO cf) A1 B1).length=mid-a:=by rw [mrg_len];omega
 have f1:e<m→m<en→Ctr Tryz.prog 207 [.osl 900,.d (.int .i64 (e:Int)),.d (.int .i64 (m:Int)),.d (.int .i64 (en:Int)),fnO g ds] [(900,rowZ (P++(A++(B++S))))] (.tup []) [(900,rowZ r1)] []:=fun g1 g2=>by
  have:=sRot (g:=g) (ds:=ds) (P++A1) A2 B1 (B2++S) e m en (by rw [List.length_append];omega) (by omega) (by omega) (by omega) (by omega) (by rw [List.length_append];omega)
  rw [hr0,hr1]
  simpa using this
 have e1:¬ (e<m∧m<en)→P++(A++(B++S))=r1:=fun g1=>by
  rw [hr0,hr1]
  by_cases g2:e<m
  ·have:B1=[]:=List.eq_nil_of_length_eq_zero (by omega)
   rw [this];simp
  ·have:A2=[]:=List.eq_nil_of_length_eq_zero (by omega)
   rw [this];simp
 have f2:a<e→e<mid→Ctr Tryz.prog 202 [.osl 900,.d (.int .i64 (a:Int)),.d (.int .i64 (e:Int)),.d (.int .i64 (mid:Int)),fnO g ds] [(900,rowZ r1)] (.tup []) [(900,rowZ r2)] []:=fun g1 g2=>by
  have:=ih P A1 B1 (A2++(B2++S)) a e mid ha (by omega) (by omega) (by omega) (by omega) (by omega) sA1 sB1 ok1 (by simp only [List.length_append];omega)
  rw [hr1,hr2];exact this
 have e2:¬ (a<e∧e<mid)→r1=r2:=fun g1=>by
  rw [hr1,hr2]
  by_cases g2:a<e
  ·have:B1=[]:=List.eq_nil_of_length_eq_zero (by omega)
   rw [this,mrg_nil];simp
  ·have:A1=[]:=List.eq_nil_of_length_eq_zero (by omega)
   rw [this,mrg_nil2];simp
 have f3:mid<en→en<b→Ctr Tryz.prog 202 [.osl 900,.d (.int .i64 (mid:Int)),.d (.int .i64 (en:Int)),.d (.int .i64 (b:Int)),fnO g ds] [(900,rowZ r2)] (.tup []) [(900,rowZ (P++(mrg (ltO cf) A B++S)))] []:=fun g1 g2=>by
  have:=ih (P++mrg (ltO cf) A1 B1) A2 B2 S mid en b (by rw [List.length_append,lM];omega) (by omega) (by omega) (by omega) (by omega) (by omega) sA2 sB2 ok2 hl
  rw [hr2,hr3]
  simpa using this
 have e3:¬ (mid<en∧en<b)→r2=P++(mrg (ltO cf) A B++S):=fun g1=>by
  rw [hr2,hr3]
  by_cases g2:mid<en
  ·have:B2=[]:=List.eq_nil_of_length_eq_zero (by omega)
   rw [this,mrg_nil];simp
  ·have:A2=[]:=List.eq_nil_of_length_eq_zero (by omega)
   rw [this,mrg_nil2];simp
 exact ⟨r1,r2,f1,e1,f2,e2,f3,e3⟩
set_option maxHeartbeats 8000000 in
theorem sSymM {g:Nat} {ds:List D} {cf:Int→Int→Int} {ok:Int→Prop} (hc:CmpO g ds cf ok) {N:Nat} (ih:SymAt g ds cf ok N) (P A B S:List Int) (a m b:Nat) (ha:a=P.length) (hm:m=a+A.length) (hb:b=m+B.length) (hN:A.length+B.length≤N+1) (hA:0<A.length) (hB:0<B.length) (sA:Srt (ltO cf) A) (sB:Srt (ltO cf) B) (hok:∀ x,x∈A++B→ok x) (hl:b+S.length≤2305843009213693952) (hA1:¬ A.length=1) (hB1:¬ B.length=1) :
  Ctr Tryz.prog 202 [.osl 900,.d (.int .i64 (a:Int)),.d (.int .i64 (m:Int)),.d (.int .i64 (b:Int)),fnO g ds] [(900,rowZ (P++(A++(B++S))))] (.tup []) [(900,rowZ (P++(mrg (ltO cf) A B++S)))] []:=by
 refine ctr_own Tryz.func202 ok202 rfl cc202 cr202 Tryz.ntmps202 (by simp) rfl ?_
 intro c hP hfn
 obtain ⟨r,hr⟩:∃ r,r=P++(A++(B++S)):=⟨_,rfl⟩
 have hrl:r.length=b+S.length:=by rw [hr];simp only [List.length_append];omega
 have gA:∀ k,k<A.length→r.getD (a+k) 0=A.getD k 0:=fun k hk=>by
  rw [hr];simp only [getD_app];rw [if_neg (by omega),if_pos (by omega)];congr 1;omega
 have gB:∀ k,k<B.length→r.getD (m+k) 0=B.getD k 0:=fun k hk=>by
  rw [hr];simp only [getD_app];rw [if_neg (by omega),if_neg (by omega),if_pos (by omega)];congr 1;omega
 have okA:∀ k,k<A.length→ok (A.getD k 0):=fun k hk=>by
  obtain ⟨x,-,hx,hm,-⟩:=drop_at hk;rw [hx];exact hok x (by simp [hm])
 have okB:∀ k,k<B.length→ok (B.getD k 0):=fun k hk=>by
  obtain ⟨x,-,hx,hm,-⟩:=drop_at hk;rw [hx];exact hok x (by simp [hm])
 rw [←hr]
 have wa:(IntKind.i64.wrap ((m:Int)-(a:Int)) == 1)=false:=by rw [beq_eq_false_iff_ne,wI (by omega)];omega
 have wb:(IntKind.i64.wrap ((b:Int)-(m:Int)) == 1)=false:=by rw [beq_eq_false_iff_ne,wI (by omega)];omega
 obtain ⟨mid,hmid⟩:∃ q,q=(a+b) / 2:=⟨_,rfl⟩
 have wm:=midW (i:=a) (j:=b) (by omega)
 rw [←hmid] at wm
 have w1:IntKind.i64.wrap ((mid:Int)+(m:Int))=((mid+m:Nat):Int):=(wI (by omega)).trans (by omega)
 have w2:IntKind.i64.wrap (((mid+m:Nat):Int)-(b:Int))=((mid+m:Nat):Int)-(b:Int):=wI (by omega)
 have w3:IntKind.i64.wrap (((mid+m:Nat):Int)-1)=((mid+m-1:Nat):Int):=(wI (by omega)).trans (by omega)
 obtain ⟨lo,hlo⟩:∃ q,q=if m>mid then mid+m-b else a:=⟨_,rfl⟩
 obtain ⟨hi,hhi⟩:∃ q,q=if m>mid then mid else m:=⟨_,rfl⟩
 have hlo2:a≤lo∧mid+m-b≤lo∧(lo=a∨lo+b=mid+m)∧lo≤hi:=by split at hlo<;>split at hhi<;>omega
 have hhi2:hi≤m∧hi≤mid∧(hi=m∨hi=mid):=by split at hhi<;>omega
 obtain ⟨x1,x2,x3⟩:(m>mid→(((mid+m:Nat):Int)-(b:Int))=(lo:Int)∧(mid:Int)=(hi:Int))∧(¬ m>mid→(a:Int)=(lo:Int)∧(m:Int)=(hi:Int))∧True:=by
  refine ⟨fun h=>?_,fun h=>?_,trivial⟩
  ·rw [if_pos h] at hlo hhi;omega
  ·rw [if_neg h] at hlo hhi;omega
 have hcutW:∀ s:Nat,lo≤s→s≤hi→(lo<s→ltO cf (B.getD (mid-s) 0) (A.getD (s-1-a) 0)=false)→(s<hi→ltO cf (B.getD (mid-1-s) 0) (A.getD (s-a) 0)=true) →
   mrg (ltO cf) A B=mrg (ltO cf) (A.take (s-a)) (B.take (mid-s))++mrg (ltO cf) (A.drop (s-a)) (B.drop (mid-s)):=fun s h1 h2 h3 h4 =>
  cut_mrg 0 hc.w sA sB (s-a) (mid-s) (by omega) (by omega) (fun g1 g2=>by rw [show mid-s-1=mid-1-s by omega];exact h4 (by omega)) (fun g1 g2=>by rw [show s-a-1=s-1-a by omega];exact h3 (by omega))
 have hlo3:a≤lo∧mid+m≤lo+b∧lo≤hi∧hi≤m∧hi≤mid∧a<mid∧mid<b:=by omega
 clear hlo2 hhi2 hlo hhi hmid
 by_cases hgt:m>mid
 ·have d1:decide ((m:Int)>(mid:Int))=true:=decide_eq_true (by omega)
  obtain ⟨x1,x2⟩:=x1 hgt
  simp only [kc202,namesL,V.names,ownNames,rowZ,fnO,wa,wb,wm,w1,w2,w3,d1,vcd,↓vcp,seval]
  repeat' first|refine ⟨fun h=>?_,fun h=>?_⟩|refine aO ?_|refine aT ?_|fail
  refine vcC.loop (X:=Nat×Nat) (fun x=>⟨[(0,.osl 900),(1,.d (.int .i64 (a:Int))),(2,.d (.int .i64 (m:Int))),(3,.d (.int .i64 (b:Int))),(4,fnO g ds),(18,.d (.int .i64 (mid:Int))),(19,.d (.int .i64 ((mid+m:Nat):Int))),(20,.d (.int .i64 (x.1:Nat))),(21,.d (.int .i64 (x.2:Nat))),(22,.d (.int .i64 ((mid+m-1:Nat):Int)))],[(900,rowZ r)],[900]⟩)
   (fun x=>lo≤x.1∧x.1≤x.2∧x.2≤hi∧(lo<x.1→ltO cf (B.getD (mid-x.1) 0) (A.getD (x.1-1-a) 0)=false)∧(x.2<hi→ltO cf (B.getD (mid-1-x.2) 0) (A.getD (x.2-a) 0)=true)) (fun x=>x.2-x.1) (lo,hi) ⟨Nat.le_refl _,by simp only;omega,Nat.le_refl _,fun h=>absurd h (Nat.lt_irrefl _),fun h=>absurd h (Nat.lt_irrefl _)⟩ (Wk.of _ hfn rfl (by simp only [fnO,wm,w1,w2,w3,enb,vcd,↓vcp,seval]<;>omega) (by simp only [rowZ,enb,vcd,↓vcp,seval])) ?_
  rintro ⟨s,e⟩ ⟨h1,h2,h3,h4,h5⟩
  simp only at h1 h2 h3 h4 h5
  by_cases hij:s<e
  ·have d2:decide ((s:Int)<(e:Int))=true:=decide_eq_true (by omega)
   have wq:=midW (i:=s) (j:=e) (by omega)
   obtain ⟨q,hh⟩:∃ q,q=(s+e) / 2:=⟨_,rfl⟩
   have hb1:s≤q∧q<e:=by omega
   rw [←hh] at wq
   have wp:IntKind.i64.wrap (((mid+m-1:Nat):Int)-(q:Int))=((mid+m-1-q:Nat):Int):=(wI (by omega)).trans (by omega)
   have g1:r.getD (mid+m-1-q) 0=B.getD (mid-1-q) 0:=by rw [←gB _ (by omega)];congr 1;omega
   have g2:r.getD q 0=A.getD (q-a) 0:=by rw [←gA _ (by omega)];congr 1;omega
   have cc:=hc.c _ _ (okB (mid-1-q) (by omega)) (okA (q-a) (by omega))
   have bh:(0:Int)≤((mid+m-1-q:Nat):Int)∧((mid+m-1-q:Nat):Int)<(r.length:Int):=by omega
   have ba:(0:Int)≤(q:Int)∧(q:Int)<(r.length:Int):=by omega
   have w4:IntKind.i64.wrap ((q:Int)+1)=((q+1:Nat):Int):=wS (by omega)
   simp only [rowZ,fnO,d2,wq,wp,g1,g2,vcd,↓vcp,seval]
   repeat' first|((first|refine tp hP (by exact cc) ?_|refine tg hP (fun _=>by exact cc) ?_|refine tv hP rfl (by exact cc) ?_);try simp only [wq,wp,g1,g2,vcd,↓vcp,seval])|refine ⟨fun h=>?_,fun h=>?_⟩|refine aO ?_|refine aT ?_|fail
   ·exact lopK.on (q+1,e) ⟨by simp only;omega,by simp only;omega,h3,fun _=>by rw [show mid-(q+1)=mid-1-q by omega,show q+1-1-a=q-a by omega];simpa [ltO] using h,h5⟩ (by simp only;omega) (Wk.of _ hfn rfl (by simp only [fnO,w4,enb,vcd,↓vcp,seval]) (by simp only [rowZ,enb,vcd,↓vcp,seval]))
   ·exact lopK.on (s,q) ⟨h1,by simp only;omega,by simp only;omega,h4,fun _=>by simpa [ltO] using h⟩ (by simp only;omega) (Wk.of _ hfn rfl (by simp only [fnO,enb,vcd,↓vcp,seval]) (by simp only [rowZ,enb,vcd,↓vcp,seval]))
  ·have d2:decide ((s:Int)<(e:Int))=false:=decide_eq_false (by omega)
   obtain rfl:e=s:=by omega
   have hcut:=hcutW e h1 (by omega) h4 h5
   obtain ⟨en,hen⟩:∃ q,q=mid+m-e:=⟨_,rfl⟩
   have w5:IntKind.i64.wrap (((mid+m:Nat):Int)-(e:Int))=(en:Int):=(wI (by omega)).trans (by omega)
   obtain ⟨r1,r2,f1,e1,f2,e2,f3,e3⟩:=symEnd hc ih P A B S a m b ha hm hb hN hA hB sA sB hok hl (e:=e) (mid:=mid) (en:=en) (by omega) (by omega) (by omega) (by omega) (by omega) (by omega) (by omega) hcut
   rw [←hr] at f1 e1
   clear hcut hcutW h1 h2 h3 h4 h5 hij wm w1 w2 w3 wa wb hen hlo3 hrl gA gB okA okB ih hN hA hB sA sB hok hl x1 x2 hr d1 hgt ha hm hb hA1 hB1
   by_cases k1:e<m∧m<en
   ·by_cases k2:a<e∧e<mid
    ·by_cases k3:mid<en∧en<b
     ·have x:(decide ((e:Int)<(m:Int))&&decide ((m:Int)<(en:Int)))=true:=by rw [Bool.and_eq_true,decide_eq_true_eq,decide_eq_true_eq];omega
      have y:(decide ((a:Int)<(e:Int))&&decide ((e:Int)<(mid:Int)))=true:=by rw [Bool.and_eq_true,decide_eq_true_eq,decide_eq_true_eq];omega
      have z:(decide ((mid:Int)<(en:Int))&&decide ((en:Int)<(b:Int)))=true:=by rw [Bool.and_eq_true,decide_eq_true_eq,decide_eq_true_eq];omega
      simp only [rowZ,fnO,d2,w5,x,y,z,vcd,↓vcp,seval]
      repeat' first|refine ⟨fun h=>?_,fun h=>?_⟩|refine aO ?_|refine aT ?_|fail
      repeat' first|refine ⟨fun h=>?_,fun h=>?_⟩|refine aO ?_|refine aT ?_|fail
      have cc:=f1 k1.1 k1.2
      simp only [rowZ,fnO] at cc
      refine TR.call [(900,rowZ r)] [(900,rowZ r1)] _ [] (by rw [hP];exact cc) (by repeat' first|exact trivial|(intro _;assumption)|apply And.intro) (hin1 rfl) (by simp [keysO]) (by simp) ?_
      clear cc
      simp only [rowZ,x,y,z,vcd,↓vcp,seval]
      repeat' first|refine ⟨fun h=>?_,fun h=>?_⟩|refine aO ?_|refine aT ?_|fail
      have cc:=f2 k2.1 k2.2
      simp only [rowZ,fnO] at cc
      refine TR.call [(900,rowZ r1)] [(900,rowZ r2)] _ [] (by rw [hP];exact cc) (by repeat' first|exact trivial|(intro _;assumption)|apply And.intro) (hin1 rfl) (by simp [keysO]) (by simp) ?_
      clear cc
      simp only [rowZ,x,y,z,vcd,↓vcp,seval]
      repeat' first|refine ⟨fun h=>?_,fun h=>?_⟩|refine aO ?_|refine aT ?_|fail
      have cc:=f3 k3.1 k3.2
      simp only [rowZ,fnO] at cc
      refine TR.call [(900,rowZ r2)] [(900,rowZ (P++(mrg (ltO cf) A B++S)))] _ [] (by rw [hP];exact cc) (by repeat' first|exact trivial|(intro _;assumption)|apply And.intro) (hin1 rfl) (by simp [keysO]) (by simp) ?_
      clear cc
      simp only [rowZ,x,y,z,vcd,↓vcp,seval]
      repeat' first|refine ⟨fun h=>?_,fun h=>?_⟩|refine aO ?_|refine aT ?_|fail
      refine RetK.mk' _ (Wk.refl _ _) (by simp only [rs202,rsb,vcd,↓vcp,seval]) (by simp only [rs202,rsb,enb,vcd,↓vcp,seval]) ?_
      simp only [enb,vcd,↓vcp,seval]
     ·have x:(decide ((e:Int)<(m:Int))&&decide ((m:Int)<(en:Int)))=true:=by rw [Bool.and_eq_true,decide_eq_true_eq,decide_eq_true_eq];omega
      have y:(decide ((a:Int)<(e:Int))&&decide ((e:Int)<(mid:Int)))=true:=by rw [Bool.and_eq_true,decide_eq_true_eq,decide_eq_true_eq];omega
      have z:(decide ((mid:Int)<(en:Int))&&decide ((en:Int)<(b:Int)))=false:=by rw [Bool.and_eq_false_iff,decide_eq_false_iff_not,decide_eq_false_iff_not];omega
      simp only [rowZ,fnO,d2,w5,x,y,z,vcd,↓vcp,seval]
      repeat' first|refine ⟨fun h=>?_,fun h=>?_⟩|refine aO ?_|refine aT ?_|fail
      repeat' first|refine ⟨fun h=>?_,fun h=>?_⟩|refine aO ?_|refine aT ?_|fail
      have cc:=f1 k1.1 k1.2
      simp only [rowZ,fnO] at cc
      refine TR.call [(900,rowZ r)] [(900,rowZ r1)] _ [] (by rw [hP];exact cc) (by repeat' first|exact trivial|(intro _;assumption)|apply And.intro) (hin1 rfl) (by simp [keysO]) (by simp) ?_
      clear cc
      simp only [rowZ,x,y,z,vcd,↓vcp,seval]
      repeat' first|refine ⟨fun h=>?_,fun h=>?_⟩|refine aO ?_|refine aT ?_|fail
      have cc:=f2 k2.1 k2.2
      simp only [rowZ,fnO] at cc
      refine TR.call [(900,rowZ r1)] [(900,rowZ r2)] _ [] (by rw [hP];exact cc) (by repeat' first|exact trivial|(intro _;assumption)|apply And.intro) (hin1 rfl) (by simp [keysO]) (by simp) ?_
      clear cc
      simp only [rowZ,x,y,z,vcd,↓vcp,seval]
      rw [e3 k3]
      repeat' first|refine ⟨fun h=>?_,fun h=>?_⟩|refine aO ?_|refine aT ?_|fail
      refine RetK.mk' _ (Wk.refl _ _) (by simp only [rs202,rsb,vcd,↓vcp,seval]) (by simp only [rs202,rsb,enb,vcd,↓vcp,seval]) ?_
      simp only [enb,vcd,↓vcp,seval]
    ·by_cases k3:mid<en∧en<b
     ·have x:(decide ((e:Int)<(m:Int))&&decide ((m:Int)<(en:Int)))=true:=by rw [Bool.and_eq_true,decide_eq_true_eq,decide_eq_true_eq];omega
      have y:(decide ((a:Int)<(e:Int))&&decide ((e:Int)<(mid:Int)))=false:=by rw [Bool.and_eq_false_iff,decide_eq_false_iff_not,decide_eq_false_iff_not];omega
      have z:(decide ((mid:Int)<(en:Int))&&decide ((en:Int)<(b:Int)))=true:=by rw [Bool.and_eq_true,decide_eq_true_eq,decide_eq_true_eq];omega
      simp only [rowZ,fnO,d2,w5,x,y,z,vcd,↓vcp,seval]
      repeat' first|refine ⟨fun h=>?_,fun h=>?_⟩|refine aO ?_|refine aT ?_|fail
      repeat' first|refine ⟨fun h=>?_,fun h=>?_⟩|refine aO ?_|refine aT ?_|fail
      have cc:=f1 k1.1 k1.2
      simp only [rowZ,fnO] at cc
      refine TR.call [(900,rowZ r)] [(900,rowZ r1)] _ [] (by rw [hP];exact cc) (by repeat' first|exact trivial|(intro _;assumption)|apply And.intro) (hin1 rfl) (by simp [keysO]) (by simp) ?_
      clear cc
      simp only [rowZ,x,y,z,vcd,↓vcp,seval]
      rw [e2 k2]
      repeat' first|refine ⟨fun h=>?_,fun h=>?_⟩|refine aO ?_|refine aT ?_|fail
      have cc:=f3 k3.1 k3.2
      simp only [rowZ,fnO] at cc
      refine TR.call [(900,rowZ r2)] [(900,rowZ (P++(mrg (ltO cf) A B++S)))] _ [] (by rw [hP];exact cc) (by repeat' first|exact trivial|(intro _;assumption)|apply And.intro) (hin1 rfl) (by simp [keysO]) (by simp) ?_
      clear cc
      simp only [rowZ,x,y,z,vcd,↓vcp,seval]
      repeat' first|refine ⟨fun h=>?_,fun h=>?_⟩|refine aO ?_|refine aT ?_|fail
      refine RetK.mk' _ (Wk.refl _ _) (by simp only [rs202,rsb,vcd,↓vcp,seval]) (by simp only [rs202,rsb,enb,vcd,↓vcp,seval]) ?_
      simp only [enb,vcd,↓vcp,seval]
     ·have x:(decide ((e:Int)<(m:Int))&&decide ((m:Int)<(en:Int)))=true:=by rw [Bool.and_eq_true,decide_eq_true_eq,decide_eq_true_eq];omega
      have y:(decide ((a:Int)<(e:Int))&&decide ((e:Int)<(mid:Int)))=false:=by rw [Bool.and_eq_false_iff,decide_eq_false_iff_not,decide_eq_false_iff_not];omega
      have z:(decide ((mid:Int)<(en:Int))&&decide ((en:Int)<(b:Int)))=false:=by rw [Bool.and_eq_false_iff,decide_eq_false_iff_not,decide_eq_false_iff_not];omega
      simp only [rowZ,fnO,d2,w5,x,y,z,vcd,↓vcp,seval]
      repeat' first|refine ⟨fun h=>?_,fun h=>?_⟩|refine aO ?_|refine aT ?_|fail
      repeat' first|refine ⟨fun h=>?_,fun h=>?_⟩|refine aO ?_|refine aT ?_|fail
      have cc:=f1 k1.1 k1.2
      simp only [rowZ,fnO] at cc
      refine TR.call [(900,rowZ r)] [(900,rowZ r1)] _ [] (by rw [hP];exact cc) (by repeat' first|exact trivial|(intro _;assumption)|apply And.intro) (hin1 rfl) (by simp [keysO]) (by simp) ?_
      clear cc
      simp only [rowZ,x,y,z,vcd,↓vcp,seval]
      rw [e2 k2]
      rw [e3 k3]
      repeat' first|refine ⟨fun h=>?_,fun h=>?_⟩|refine aO ?_|refine aT ?_|fail
      refine RetK.mk' _ (Wk.refl _ _) (by simp only [rs202,rsb,vcd,↓vcp,seval]) (by simp only [rs202,rsb,enb,vcd,↓vcp,seval]) ?_
      simp only [enb,vcd,↓vcp,seval]
   ·by_cases k2:a<e∧e<mid
    ·by_cases k3:mid<en∧en<b
     ·have x:(decide ((e:Int)<(m:Int))&&decide ((m:Int)<(en:Int)))=false:=by rw [Bool.and_eq_false_iff,decide_eq_false_iff_not,decide_eq_false_iff_not];omega
      have y:(decide ((a:Int)<(e:Int))&&decide ((e:Int)<(mid:Int)))=true:=by rw [Bool.and_eq_true,decide_eq_true_eq,decide_eq_true_eq];omega
      have z:(decide ((mid:Int)<(en:Int))&&decide ((en:Int)<(b:Int)))=true:=by rw [Bool.and_eq_true,decide_eq_true_eq,decide_eq_true_eq];omega
      simp only [rowZ,fnO,d2,w5,x,y,z,vcd,↓vcp,seval]
      repeat' first|refine ⟨fun h=>?_,fun h=>?_⟩|refine aO ?_|refine aT ?_|fail
      rw [e1 k1]
      repeat' first|refine ⟨fun h=>?_,fun h=>?_⟩|refine aO ?_|refine aT ?_|fail
      have cc:=f2 k2.1 k2.2
      simp only [rowZ,fnO] at cc
      refine TR.call [(900,rowZ r1)] [(900,rowZ r2)] _ [] (by rw [hP];exact cc) (by repeat' first|exact trivial|(intro _;assumption)|apply And.intro) (hin1 rfl) (by simp [keysO]) (by simp) ?_
      clear cc
      simp only [rowZ,x,y,z,vcd,↓vcp,seval]
      repeat' first|refine ⟨fun h=>?_,fun h=>?_⟩|refine aO ?_|refine aT ?_|fail
      have cc:=f3 k3.1 k3.2
      simp only [rowZ,fnO] at cc
      refine TR.call [(900,rowZ r2)] [(900,rowZ (P++(mrg (ltO cf) A B++S)))] _ [] (by rw [hP];exact cc) (by repeat' first|exact trivial|(intro _;assumption)|apply And.intro) (hin1 rfl) (by simp [keysO]) (by simp) ?_
      clear cc
      simp only [rowZ,x,y,z,vcd,↓vcp,seval]
      repeat' first|refine ⟨fun h=>?_,fun h=>?_⟩|refine aO ?_|refine aT ?_|fail
      refine RetK.mk' _ (Wk.refl _ _) (by simp only [rs202,rsb,vcd,↓vcp,seval]) (by simp only [rs202,rsb,enb,vcd,↓vcp,seval]) ?_
      simp only [enb,vcd,↓vcp,seval]
     ·have x:(decide ((e:Int)<(m:Int))&&decide ((m:Int)<(en:Int)))=false:=by rw [Bool.and_eq_false_iff,decide_eq_false_iff_not,decide_eq_false_iff_not];omega
      have y:(decide ((a:Int)<(e:Int))&&decide ((e:Int)<(mid:Int)))=true:=by rw [Bool.and_eq_true,decide_eq_true_eq,decide_eq_true_eq];omega
      have z:(decide ((mid:Int)<(en:Int))&&decide ((en:Int)<(b:Int)))=false:=by rw [Bool.and_eq_false_iff,decide_eq_false_iff_not,decide_eq_false_iff_not];omega
      simp only [rowZ,fnO,d2,w5,x,y,z,vcd,↓vcp,seval]
      repeat' first|refine ⟨fun h=>?_,fun h=>?_⟩|refine aO ?_|refine aT ?_|fail
      rw [e1 k1]
      repeat' first|refine ⟨fun h=>?_,fun h=>?_⟩|refine aO ?_|refine aT ?_|fail
      have cc:=f2 k2.1 k2.2
      simp only [rowZ,fnO] at cc
      refine TR.call [(900,rowZ r1)] [(900,rowZ r2)] _ [] (by rw [hP];exact cc) (by repeat' first|exact trivial|(intro _;assumption)|apply And.intro) (hin1 rfl) (by simp [keysO]) (by simp) ?_
      clear cc
      simp only [rowZ,x,y,z,vcd,↓vcp,seval]
      rw [e3 k3]
      repeat' first|refine ⟨fun h=>?_,fun h=>?_⟩|refine aO ?_|refine aT ?_|fail
      refine RetK.mk' _ (Wk.refl _ _) (by simp only [rs202,rsb,vcd,↓vcp,seval]) (by simp only [rs202,rsb,enb,vcd,↓vcp,seval]) ?_
      simp only [enb,vcd,↓vcp,seval]
    ·by_cases k3:mid<en∧en<b
     ·have x:(decide ((e:Int)<(m:Int))&&decide ((m:Int)<(en:Int)))=false:=by rw [Bool.and_eq_false_iff,decide_eq_false_iff_not,decide_eq_false_iff_not];omega
      have y:(decide ((a:Int)<(e:Int))&&decide ((e:Int)<(mid:Int)))=false:=by rw [Bool.and_eq_false_iff,decide_eq_false_iff_not,decide_eq_false_iff_not];omega
      have z:(decide ((mid:Int)<(en:Int))&&decide ((en:Int)<(b:Int)))=true:=by rw [Bool.and_eq_true,decide_eq_true_eq,decide_eq_true_eq];omega
      simp only [rowZ,fnO,d2,w5,x,y,z,vcd,↓vcp,seval]
      repeat' first|refine ⟨fun h=>?_,fun h=>?_⟩|refine aO ?_|refine aT ?_|fail
      rw [e1 k1]
      rw [e2 k2]
      repeat' first|refine ⟨fun h=>?_,fun h=>?_⟩|refine aO ?_|refine aT ?_|fail
      have cc:=f3 k3.1 k3.2
      simp only [rowZ,fnO] at cc
      refine TR.call [(900,rowZ r2)] [(900,rowZ (P++(mrg (ltO cf) A B++S)))] _ [] (by rw [hP];exact cc) (by repeat' first|exact trivial|(intro _;assumption)|apply And.intro) (hin1 rfl) (by simp [keysO]) (by simp) ?_
      clear cc
      simp only [rowZ,x,y,z,vcd,↓vcp,seval]
      repeat' first|refine ⟨fun h=>?_,fun h=>?_⟩|refine aO ?_|refine aT ?_|fail
      refine RetK.mk' _ (Wk.refl _ _) (by simp only [rs202,rsb,vcd,↓vcp,seval]) (by simp only [rs202,rsb,enb,vcd,↓vcp,seval]) ?_
      simp only [enb,vcd,↓vcp,seval]
     ·have x:(decide ((e:Int)<(m:Int))&&decide ((m:Int)<(en:Int)))=false:=by rw [Bool.and_eq_false_iff,decide_eq_false_iff_not,decide_eq_false_iff_not];omega
      have y:(decide ((a:Int)<(e:Int))&&decide ((e:Int)<(mid:Int)))=false:=by rw [Bool.and_eq_false_iff,decide_eq_false_iff_not,decide_eq_false_iff_not];omega
      have z:(decide ((mid:Int)<(en:Int))&&decide ((en:Int)<(b:Int)))=false:=by rw [Bool.and_eq_false_iff,decide_eq_false_iff_not,decide_eq_false_iff_not];omega
      simp only [rowZ,fnO,d2,w5,x,y,z,vcd,↓vcp,seval]
      repeat' first|refine ⟨fun h=>?_,fun h=>?_⟩|refine aO ?_|refine aT ?_|fail
      rw [e1 k1]
      rw [e2 k2]
      rw [e3 k3]
      repeat' first|refine ⟨fun h=>?_,fun h=>?_⟩|refine aO ?_|refine aT ?_|fail
      refine RetK.mk' _ (Wk.refl _ _) (by simp only [rs202,rsb,vcd,↓vcp,seval]) (by simp only [rs202,rsb,enb,vcd,↓vcp,seval]) ?_
      simp only [enb,vcd,↓vcp,seval]
 ·have d1:decide ((m:Int)>(mid:Int))=false:=decide_eq_false (by omega)
  obtain ⟨x1,x2⟩:=x2 hgt
  simp only [kc202,namesL,V.names,ownNames,rowZ,fnO,wa,wb,wm,w1,w2,w3,d1,vcd,↓vcp,seval]
  repeat' first|refine ⟨fun h=>?_,fun h=>?_⟩|refine aO ?_|refine aT ?_|fail
  refine vcC.loop (X:=Nat×Nat) (fun x=>⟨[(0,.osl 900),(1,.d (.int .i64 (a:Int))),(2,.d (.int .i64 (m:Int))),(3,.d (.int .i64 (b:Int))),(4,fnO g ds),(18,.d (.int .i64 (mid:Int))),(19,.d (.int .i64 ((mid+m:Nat):Int))),(20,.d (.int .i64 (x.1:Nat))),(21,.d (.int .i64 (x.2:Nat))),(22,.d (.int .i64 ((mid+m-1:Nat):Int)))],[(900,rowZ r)],[900]⟩)
   (fun x=>lo≤x.1∧x.1≤x.2∧x.2≤hi∧(lo<x.1→ltO cf (B.getD (mid-x.1) 0) (A.getD (x.1-1-a) 0)=false)∧(x.2<hi→ltO cf (B.getD (mid-1-x.2) 0) (A.getD (x.2-a) 0)=true)) (fun x=>x.2-x.1) (lo,hi) ⟨Nat.le_refl _,by simp only;omega,Nat.le_refl _,fun h=>absurd h (Nat.lt_irrefl _),fun h=>absurd h (Nat.lt_irrefl _)⟩ (Wk.of _ hfn rfl (by simp only [fnO,wm,w1,w2,w3,enb,vcd,↓vcp,seval]<;>omega) (by simp only [rowZ,enb,vcd,↓vcp,seval])) ?_
  rintro ⟨s,e⟩ ⟨h1,h2,h3,h4,h5⟩
  simp only at h1 h2 h3 h4 h5
  by_cases hij:s<e
  ·have d2:decide ((s:Int)<(e:Int))=true:=decide_eq_true (by omega)
   have wq:=midW (i:=s) (j:=e) (by omega)
   obtain ⟨q,hh⟩:∃ q,q=(s+e) / 2:=⟨_,rfl⟩
   have hb1:s≤q∧q<e:=by omega
   rw [←hh] at wq
   have wp:IntKind.i64.wrap (((mid+m-1:Nat):Int)-(q:Int))=((mid+m-1-q:Nat):Int):=(wI (by omega)).trans (by omega)
   have g1:r.getD (mid+m-1-q) 0=B.getD (mid-1-q) 0:=by rw [←gB _ (by omega)];congr 1;omega
   have g2:r.getD q 0=A.getD (q-a) 0:=by rw [←gA _ (by omega)];congr 1;omega
   have cc:=hc.c _ _ (okB (mid-1-q) (by omega)) (okA (q-a) (by omega))
   have bh:(0:Int)≤((mid+m-1-q:Nat):Int)∧((mid+m-1-q:Nat):Int)<(r.length:Int):=by omega
   have ba:(0:Int)≤(q:Int)∧(q:Int)<(r.length:Int):=by omega
   have w4:IntKind.i64.wrap ((q:Int)+1)=((q+1:Nat):Int):=wS (by omega)
   simp only [rowZ,fnO,d2,wq,wp,g1,g2,vcd,↓vcp,seval]
   repeat' first|((first|refine tp hP (by exact cc) ?_|refine tg hP (fun _=>by exact cc) ?_|refine tv hP rfl (by exact cc) ?_);try simp only [wq,wp,g1,g2,vcd,↓vcp,seval])|refine ⟨fun h=>?_,fun h=>?_⟩|refine aO ?_|refine aT ?_|fail
   ·exact lopK.on (q+1,e) ⟨by simp only;omega,by simp only;omega,h3,fun _=>by rw [show mid-(q+1)=mid-1-q by omega,show q+1-1-a=q-a by omega];simpa [ltO] using h,h5⟩ (by simp only;omega) (Wk.of _ hfn rfl (by simp only [fnO,w4,enb,vcd,↓vcp,seval]) (by simp only [rowZ,enb,vcd,↓vcp,seval]))
   ·exact lopK.on (s,q) ⟨h1,by simp only;omega,by simp only;omega,h4,fun _=>by simpa [ltO] using h⟩ (by simp only;omega) (Wk.of _ hfn rfl (by simp only [fnO,enb,vcd,↓vcp,seval]) (by simp only [rowZ,enb,vcd,↓vcp,seval]))
  ·have d2:decide ((s:Int)<(e:Int))=false:=decide_eq_false (by omega)
   obtain rfl:e=s:=by omega
   have hcut:=hcutW e h1 (by omega) h4 h5
   obtain ⟨en,hen⟩:∃ q,q=mid+m-e:=⟨_,rfl⟩
   have w5:IntKind.i64.wrap (((mid+m:Nat):Int)-(e:Int))=(en:Int):=(wI (by omega)).trans (by omega)
   obtain ⟨r1,r2,f1,e1,f2,e2,f3,e3⟩:=symEnd hc ih P A B S a m b ha hm hb hN hA hB sA sB hok hl (e:=e) (mid:=mid) (en:=en) (by omega) (by omega) (by omega) (by omega) (by omega) (by omega) (by omega) hcut
   rw [←hr] at f1 e1
   clear hcut hcutW h1 h2 h3 h4 h5 hij wm w1 w2 w3 wa wb hen hlo3 hrl gA gB okA okB ih hN hA hB sA sB hok hl x1 x2 hr d1 hgt ha hm hb hA1 hB1
   by_cases k1:e<m∧m<en
   ·by_cases k2:a<e∧e<mid
    ·by_cases k3:mid<en∧en<b
     ·have x:(decide ((e:Int)<(m:Int))&&decide ((m:Int)<(en:Int)))=true:=by rw [Bool.and_eq_true,decide_eq_true_eq,decide_eq_true_eq];omega
      have y:(decide ((a:Int)<(e:Int))&&decide ((e:Int)<(mid:Int)))=true:=by rw [Bool.and_eq_true,decide_eq_true_eq,decide_eq_true_eq];omega
      have z:(decide ((mid:Int)<(en:Int))&&decide ((en:Int)<(b:Int)))=true:=by rw [Bool.and_eq_true,decide_eq_true_eq,decide_eq_true_eq];omega
      simp only [rowZ,fnO,d2,w5,x,y,z,vcd,↓vcp,seval]
      repeat' first|refine ⟨fun h=>?_,fun h=>?_⟩|refine aO ?_|refine aT ?_|fail
      repeat' first|refine ⟨fun h=>?_,fun h=>?_⟩|refine aO ?_|refine aT ?_|fail
      have cc:=f1 k1.1 k1.2
      simp only [rowZ,fnO] at cc
      refine TR.call [(900,rowZ r)] [(900,rowZ r1)] _ [] (by rw [hP];exact cc) (by repeat' first|exact trivial|(intro _;assumption)|apply And.intro) (hin1 rfl) (by simp [keysO]) (by simp) ?_
      clear cc
      simp only [rowZ,x,y,z,vcd,↓vcp,seval]
      repeat' first|refine ⟨fun h=>?_,fun h=>?_⟩|refine aO ?_|refine aT ?_|fail
      have cc:=f2 k2.1 k2.2
      simp only [rowZ,fnO] at cc
      refine TR.call [(900,rowZ r1)] [(900,rowZ r2)] _ [] (by rw [hP];exact cc) (by repeat' first|exact trivial|(intro _;assumption)|apply And.intro) (hin1 rfl) (by simp [keysO]) (by simp) ?_
      clear cc
      simp only [rowZ,x,y,z,vcd,↓vcp,seval]
      repeat' first|refine ⟨fun h=>?_,fun h=>?_⟩|refine aO ?_|refine aT ?_|fail
      have cc:=f3 k3.1 k3.2
      simp only [rowZ,fnO] at cc
      refine TR.call [(900,rowZ r2)] [(900,rowZ (P++(mrg (ltO cf) A B++S)))] _ [] (by rw [hP];exact cc) (by repeat' first|exact trivial|(intro _;assumption)|apply And.intro) (hin1 rfl) (by simp [keysO]) (by simp) ?_
      clear cc
      simp only [rowZ,x,y,z,vcd,↓vcp,seval]
      repeat' first|refine ⟨fun h=>?_,fun h=>?_⟩|refine aO ?_|refine aT ?_|fail
      refine RetK.mk' _ (Wk.refl _ _) (by simp only [rs202,rsb,vcd,↓vcp,seval]) (by simp only [rs202,rsb,enb,vcd,↓vcp,seval]) ?_
      simp only [enb,vcd,↓vcp,seval]
     ·have x:(decide ((e:Int)<(m:Int))&&decide ((m:Int)<(en:Int)))=true:=by rw [Bool.and_eq_true,decide_eq_true_eq,decide_eq_true_eq];omega
      have y:(decide ((a:Int)<(e:Int))&&decide ((e:Int)<(mid:Int)))=true:=by rw [Bool.and_eq_true,decide_eq_true_eq,decide_eq_true_eq];omega
      have z:(decide ((mid:Int)<(en:Int))&&decide ((en:Int)<(b:Int)))=false:=by rw [Bool.and_eq_false_iff,decide_eq_false_iff_not,decide_eq_false_iff_not];omega
      simp only [rowZ,fnO,d2,w5,x,y,z,vcd,↓vcp,seval]
      repeat' first|refine ⟨fun h=>?_,fun h=>?_⟩|refine aO ?_|refine aT ?_|fail
      repeat' first|refine ⟨fun h=>?_,fun h=>?_⟩|refine aO ?_|refine aT ?_|fail
      have cc:=f1 k1.1 k1.2
      simp only [rowZ,fnO] at cc
      refine TR.call [(900,rowZ r)] [(900,rowZ r1)] _ [] (by rw [hP];exact cc) (by repeat' first|exact trivial|(intro _;assumption)|apply And.intro) (hin1 rfl) (by simp [keysO]) (by simp) ?_
      clear cc
      simp only [rowZ,x,y,z,vcd,↓vcp,seval]
      repeat' first|refine ⟨fun h=>?_,fun h=>?_⟩|refine aO ?_|refine aT ?_|fail
      have cc:=f2 k2.1 k2.2
      simp only [rowZ,fnO] at cc
      refine TR.call [(900,rowZ r1)] [(900,rowZ r2)] _ [] (by rw [hP];exact cc) (by repeat' first|exact trivial|(intro _;assumption)|apply And.intro) (hin1 rfl) (by simp [keysO]) (by simp) ?_
      clear cc
      simp only [rowZ,x,y,z,vcd,↓vcp,seval]
      rw [e3 k3]
      repeat' first|refine ⟨fun h=>?_,fun h=>?_⟩|refine aO ?_|refine aT ?_|fail
      refine RetK.mk' _ (Wk.refl _ _) (by simp only [rs202,rsb,vcd,↓vcp,seval]) (by simp only [rs202,rsb,enb,vcd,↓vcp,seval]) ?_
      simp only [enb,vcd,↓vcp,seval]
    ·by_cases k3:mid<en∧en<b
     ·have x:(decide ((e:Int)<(m:Int))&&decide ((m:Int)<(en:Int)))=true:=by rw [Bool.and_eq_true,decide_eq_true_eq,decide_eq_true_eq];omega
      have y:(decide ((a:Int)<(e:Int))&&decide ((e:Int)<(mid:Int)))=false:=by rw [Bool.and_eq_false_iff,decide_eq_false_iff_not,decide_eq_false_iff_not];omega
      have z:(decide ((mid:Int)<(en:Int))&&decide ((en:Int)<(b:Int)))=true:=by rw [Bool.and_eq_true,decide_eq_true_eq,decide_eq_true_eq];omega
      simp only [rowZ,fnO,d2,w5,x,y,z,vcd,↓vcp,seval]
      repeat' first|refine ⟨fun h=>?_,fun h=>?_⟩|refine aO ?_|refine aT ?_|fail
      repeat' first|refine ⟨fun h=>?_,fun h=>?_⟩|refine aO ?_|refine aT ?_|fail
      have cc:=f1 k1.1 k1.2
      simp only [rowZ,fnO] at cc
      refine TR.call [(900,rowZ r)] [(900,rowZ r1)] _ [] (by rw [hP];exact cc) (by repeat' first|exact trivial|(intro _;assumption)|apply And.intro) (hin1 rfl) (by simp [keysO]) (by simp) ?_
      clear cc
      simp only [rowZ,x,y,z,vcd,↓vcp,seval]
      rw [e2 k2]
      repeat' first|refine ⟨fun h=>?_,fun h=>?_⟩|refine aO ?_|refine aT ?_|fail
      have cc:=f3 k3.1 k3.2
      simp only [rowZ,fnO] at cc
      refine TR.call [(900,rowZ r2)] [(900,rowZ (P++(mrg (ltO cf) A B++S)))] _ [] (by rw [hP];exact cc) (by repeat' first|exact trivial|(intro _;assumption)|apply And.intro) (hin1 rfl) (by simp [keysO]) (by simp) ?_
      clear cc
      simp only [rowZ,x,y,z,vcd,↓vcp,seval]
      repeat' first|refine ⟨fun h=>?_,fun h=>?_⟩|refine aO ?_|refine aT ?_|fail
      refine RetK.mk' _ (Wk.refl _ _) (by simp only [rs202,rsb,vcd,↓vcp,seval]) (by simp only [rs202,rsb,enb,vcd,↓vcp,seval]) ?_
      simp only [enb,vcd,↓vcp,seval]
     ·have x:(decide ((e:Int)<(m:Int))&&decide ((m:Int)<(en:Int)))=true:=by rw [Bool.and_eq_true,decide_eq_true_eq,decide_eq_true_eq];omega
      have y:(decide ((a:Int)<(e:Int))&&decide ((e:Int)<(mid:Int)))=false:=by rw [Bool.and_eq_false_iff,decide_eq_false_iff_not,decide_eq_false_iff_not];omega
      have z:(decide ((mid:Int)<(en:Int))&&decide ((en:Int)<(b:Int)))=false:=by rw [Bool.and_eq_false_iff,decide_eq_false_iff_not,decide_eq_false_iff_not];omega
      simp only [rowZ,fnO,d2,w5,x,y,z,vcd,↓vcp,seval]
      repeat' first|refine ⟨fun h=>?_,fun h=>?_⟩|refine aO ?_|refine aT ?_|fail
      repeat' first|refine ⟨fun h=>?_,fun h=>?_⟩|refine aO ?_|refine aT ?_|fail
      have cc:=f1 k1.1 k1.2
      simp only [rowZ,fnO] at cc
      refine TR.call [(900,rowZ r)] [(900,rowZ r1)] _ [] (by rw [hP];exact cc) (by repeat' first|exact trivial|(intro _;assumption)|apply And.intro) (hin1 rfl) (by simp [keysO]) (by simp) ?_
      clear cc
      simp only [rowZ,x,y,z,vcd,↓vcp,seval]
      rw [e2 k2]
      rw [e3 k3]
      repeat' first|refine ⟨fun h=>?_,fun h=>?_⟩|refine aO ?_|refine aT ?_|fail
      refine RetK.mk' _ (Wk.refl _ _) (by simp only [rs202,rsb,vcd,↓vcp,seval]) (by simp only [rs202,rsb,enb,vcd,↓vcp,seval]) ?_
      simp only [enb,vcd,↓vcp,seval]
   ·by_cases k2:a<e∧e<mid
    ·by_cases k3:mid<en∧en<b
     ·have x:(decide ((e:Int)<(m:Int))&&decide ((m:Int)<(en:Int)))=false:=by rw [Bool.and_eq_false_iff,decide_eq_false_iff_not,decide_eq_false_iff_not];omega
      have y:(decide ((a:Int)<(e:Int))&&decide ((e:Int)<(mid:Int)))=true:=by rw [Bool.and_eq_true,decide_eq_true_eq,decide_eq_true_eq];omega
      have z:(decide ((mid:Int)<(en:Int))&&decide ((en:Int)<(b:Int)))=true:=by rw [Bool.and_eq_true,decide_eq_true_eq,decide_eq_true_eq];omega
      simp only [rowZ,fnO,d2,w5,x,y,z,vcd,↓vcp,seval]
      repeat' first|refine ⟨fun h=>?_,fun h=>?_⟩|refine aO ?_|refine aT ?_|fail
      rw [e1 k1]
      repeat' first|refine ⟨fun h=>?_,fun h=>?_⟩|refine aO ?_|refine aT ?_|fail
      have cc:=f2 k2.1 k2.2
      simp only [rowZ,fnO] at cc
      refine TR.call [(900,rowZ r1)] [(900,rowZ r2)] _ [] (by rw [hP];exact cc) (by repeat' first|exact trivial|(intro _;assumption)|apply And.intro) (hin1 rfl) (by simp [keysO]) (by simp) ?_
      clear cc
      simp only [rowZ,x,y,z,vcd,↓vcp,seval]
      repeat' first|refine ⟨fun h=>?_,fun h=>?_⟩|refine aO ?_|refine aT ?_|fail
      have cc:=f3 k3.1 k3.2
      simp only [rowZ,fnO] at cc
      refine TR.call [(900,rowZ r2)] [(900,rowZ (P++(mrg (ltO cf) A B++S)))] _ [] (by rw [hP];exact cc) (by repeat' first|exact trivial|(intro _;assumption)|apply And.intro) (hin1 rfl) (by simp [keysO]) (by simp) ?_
      clear cc
      simp only [rowZ,x,y,z,vcd,↓vcp,seval]
      repeat' first|refine ⟨fun h=>?_,fun h=>?_⟩|refine aO ?_|refine aT ?_|fail
      refine RetK.mk' _ (Wk.refl _ _) (by simp only [rs202,rsb,vcd,↓vcp,seval]) (by simp only [rs202,rsb,enb,vcd,↓vcp,seval]) ?_
      simp only [enb,vcd,↓vcp,seval]
     ·have x:(decide ((e:Int)<(m:Int))&&decide ((m:Int)<(en:Int)))=false:=by rw [Bool.and_eq_false_iff,decide_eq_false_iff_not,decide_eq_false_iff_not];omega
      have y:(decide ((a:Int)<(e:Int))&&decide ((e:Int)<(mid:Int)))=true:=by rw [Bool.and_eq_true,decide_eq_true_eq,decide_eq_true_eq];omega
      have z:(decide ((mid:Int)<(en:Int))&&decide ((en:Int)<(b:Int)))=false:=by rw [Bool.and_eq_false_iff,decide_eq_false_iff_not,decide_eq_false_iff_not];omega
      simp only [rowZ,fnO,d2,w5,x,y,z,vcd,↓vcp,seval]
      repeat' first|refine ⟨fun h=>?_,fun h=>?_⟩|refine aO ?_|refine aT ?_|fail
      rw [e1 k1]
      repeat' first|refine ⟨fun h=>?_,fun h=>?_⟩|refine aO ?_|refine aT ?_|fail
      have cc:=f2 k2.1 k2.2
      simp only [rowZ,fnO] at cc
      refine TR.call [(900,rowZ r1)] [(900,rowZ r2)] _ [] (by rw [hP];exact cc) (by repeat' first|exact trivial|(intro _;assumption)|apply And.intro) (hin1 rfl) (by simp [keysO]) (by simp) ?_
      clear cc
      simp only [rowZ,x,y,z,vcd,↓vcp,seval]
      rw [e3 k3]
      repeat' first|refine ⟨fun h=>?_,fun h=>?_⟩|refine aO ?_|refine aT ?_|fail
      refine RetK.mk' _ (Wk.refl _ _) (by simp only [rs202,rsb,vcd,↓vcp,seval]) (by simp only [rs202,rsb,enb,vcd,↓vcp,seval]) ?_
      simp only [enb,vcd,↓vcp,seval]
    ·by_cases k3:mid<en∧en<b
     ·have x:(decide ((e:Int)<(m:Int))&&decide ((m:Int)<(en:Int)))=false:=by rw [Bool.and_eq_false_iff,decide_eq_false_iff_not,decide_eq_false_iff_not];omega
      have y:(decide ((a:Int)<(e:Int))&&decide ((e:Int)<(mid:Int)))=false:=by rw [Bool.and_eq_false_iff,decide_eq_false_iff_not,decide_eq_false_iff_not];omega
      have z:(decide ((mid:Int)<(en:Int))&&decide ((en:Int)<(b:Int)))=true:=by rw [Bool.and_eq_true,decide_eq_true_eq,decide_eq_true_eq];omega
      simp only [rowZ,fnO,d2,w5,x,y,z,vcd,↓vcp,seval]
      repeat' first|refine ⟨fun h=>?_,fun h=>?_⟩|refine aO ?_|refine aT ?_|fail
      rw [e1 k1]
      rw [e2 k2]
      repeat' first|refine ⟨fun h=>?_,fun h=>?_⟩|refine aO ?_|refine aT ?_|fail
      have cc:=f3 k3.1 k3.2
      simp only [rowZ,fnO] at cc
      refine TR.call [(900,rowZ r2)] [(900,rowZ (P++(mrg (ltO cf) A B++S)))] _ [] (by rw [hP];exact cc) (by repeat' first|exact trivial|(intro _;assumption)|apply And.intro) (hin1 rfl) (by simp [keysO]) (by simp) ?_
      clear cc
      simp only [rowZ,x,y,z,vcd,↓vcp,seval]
      repeat' first|refine ⟨fun h=>?_,fun h=>?_⟩|refine aO ?_|refine aT ?_|fail
      refine RetK.mk' _ (Wk.refl _ _) (by simp only [rs202,rsb,vcd,↓vcp,seval]) (by simp only [rs202,rsb,enb,vcd,↓vcp,seval]) ?_
      simp only [enb,vcd,↓vcp,seval]
     ·have x:(decide ((e:Int)<(m:Int))&&decide ((m:Int)<(en:Int)))=false:=by rw [Bool.and_eq_false_iff,decide_eq_false_iff_not,decide_eq_false_iff_not];omega
      have y:(decide ((a:Int)<(e:Int))&&decide ((e:Int)<(mid:Int)))=false:=by rw [Bool.and_eq_false_iff,decide_eq_false_iff_not,decide_eq_false_iff_not];omega
      have z:(decide ((mid:Int)<(en:Int))&&decide ((en:Int)<(b:Int)))=false:=by rw [Bool.and_eq_false_iff,decide_eq_false_iff_not,decide_eq_false_iff_not];omega
      simp only [rowZ,fnO,d2,w5,x,y,z,vcd,↓vcp,seval]
      repeat' first|refine ⟨fun h=>?_,fun h=>?_⟩|refine aO ?_|refine aT ?_|fail
      rw [e1 k1]
      rw [e2 k2]
      rw [e3 k3]
      repeat' first|refine ⟨fun h=>?_,fun h=>?_⟩|refine aO ?_|refine aT ?_|fail
      refine RetK.mk' _ (Wk.refl _ _) (by simp only [rs202,rsb,vcd,↓vcp,seval]) (by simp only [rs202,rsb,enb,vcd,↓vcp,seval]) ?_
      simp only [enb,vcd,↓vcp,seval]
theorem sSym {g:Nat} {ds:List D} {cf:Int→Int→Int} {ok:Int→Prop} (hc:CmpO g ds cf ok):∀ N,SymAt g ds cf ok N
 |0=>fun P A B S a m b _ _ _ h0 hA hB=>by omega
 |N+1=>fun P A B S a m b ha hm hb hN hA hB sA sB hok hl=>by
  by_cases hA1:A.length=1
  ·exact sSymA hc P A B S a m b ha hm hb hA hB sA sB hok hl hA1
  ·by_cases hB1:B.length=1
   ·exact sSymB hc P A B S a m b ha hm hb hA hB sA sB hok hl hA1 hB1
   ·exact sSymM hc (sSym hc N) P A B S a m b ha hm hb hN hA hB sA sB hok hl hA1 hB1
end Go.Proofs.YtanppabbmffokaaGreat
end
