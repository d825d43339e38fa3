/-
  The code of this seat's functions, compiled for the engine (by a program of mine); the theorems say that it is theirs.
-/
import Derived.Test.YtllakgjfgdgfiaaRows
import Derived.Test.YtllakgjfgdgfiaaEng23
import Derived.KernelRfl
namespace Go.Proofs.Ytllakgjfgdgfiaa
open Go.Bx

set_option maxRecDepth 100000

/-- bordereau/bordereaulaw05.PostRight -/
def c3 : C :=
  (.seq (.reg [⟨(some 1), none, .box 24 (.t 0)⟩,
    ⟨(some 2), none, .mov (.k (.d (.bool false)))⟩])
  (.seq (.seq (.reg [⟨(some 3), none, .fadr 2 (.t 1)⟩,
    ⟨(some 4), none, .load 1 false (.t 3)⟩,
    ⟨(some 5), none, .len (.t 4)⟩,
    ⟨(some 6), none, .bin .gtr (.t 5) (.k (.d (.int .i64 100)))⟩])
  (.cond (.t 6) (.seq (.reg [⟨(some 7), none, .call 10 []⟩,
      ⟨(some 2), none, .mov (.t 7)⟩])
    .ret)
  .skip))
  (.seq (.drw [0, 1, 3, 7, 3, 31, 63, 127, 255]
   [⟨(some 8), none, .call 10 []⟩,
    ⟨(some 9), none, .mov (.t 8)⟩,
    ⟨(some 10), (some (9, true)), .load 3 true (.t 1)⟩,
    ⟨(some 11), (some (9, true)), .call 11 [(.t 10)]⟩,
    ⟨(some 12), (some (9, true)), .load 3 true (.t 1)⟩,
    ⟨(some 13), (some (9, true)), .call 12 [(.t 12)]⟩,
    ⟨(some 14), (some (9, true)), .beq false (.t 11) (.t 13)⟩,
    ⟨(some 15), none, .pick (.t 9) (.t 14) (.k (.d (.bool false)))⟩,
    ⟨(some 2), none, .mov (.t 15)⟩])
  .ret)))
def rs3 : List RV := [.tmp 2]
theorem ok3 : okF Try.prog 3 = true := by kernel_rfl
theorem cc3 : cCode Try.prog Try.f3.ntmps (Try.f3.body.getD .skip) = some c3 := by kernel_rfl
theorem cr3 : cRess Try.prog Try.f3.results.toList = some rs3 := by kernel_rfl
theorem pure3 {args : List V} {res : V} (hlen : args.length ≤ 16) (hna : namesL args = []) (hnr : res.names = []) (h : ∀ c : Ctx, c.P = Try.prog → c.fn = [] → vcC c c3 ⟨initE 0 args, [], []⟩ (RetK c rs3 res [])) : Ctr Try.prog 3 args [] res [] [] :=
  ctr_pure Try.func3 ok3 rfl cc3 cr3 Try.ntmps3 hlen hna hnr h
theorem own3 {args : List V} {ins outs : List (Nat × Own)} {res : V} {new : List Nat} (hlen : args.length ≤ 16) (hf : ctrB args ins res outs new = true) (h : ∀ c : Ctx, c.P = Try.prog → c.fn = namesL args ++ ownNames ins → vcC c c3 ⟨initE 0 args, ins, namesL args ++ ownNames ins⟩ (RetK c rs3 res outs)) : Ctr Try.prog 3 args ins res outs new :=
  ctr_own Try.func3 ok3 rfl cc3 cr3 Try.ntmps3 hlen hf h

/-- bordereau/bordereaulaw05.PostTold -/
def c4 : C :=
  (.seq (.reg [⟨(some 3), none, .box 29 (.t 0)⟩,
    ⟨(some 4), none, .box 30 (.t 1)⟩,
    ⟨(some 5), none, .box 32 (.t 2)⟩,
    ⟨(some 6), none, .mov (.k (.d (.bool false)))⟩])
  (.seq (.seq (.reg [⟨(some 7), none, .fadr 0 (.t 3)⟩,
    ⟨(some 8), none, .load 1 false (.t 7)⟩,
    ⟨(some 9), none, .call 13 [(.t 8)]⟩,
    ⟨(some 10), none, .inv .not (.t 9)⟩])
  (.cond (.t 10) (.seq (.reg [⟨(some 11), none, .call 10 []⟩,
      ⟨(some 6), none, .mov (.t 11)⟩])
    .ret)
  .skip))
  (.seq (.drw [0, 1, 3, 3, 11, 3, 35, 127, 3, 3, 515, 3, 2051, 8191, 16383, 32767, 65535, 131071, 131071, 393215, 131071, 2097151, 131071, 131071, 8519679, 131071, 67108863, 134217727, 268435455, 536870911, 1073741823, 1073741823, 3221225471, 8589934591, 1073741823, 1073741823, 35433480191, 137438953471, 274877906943, 549755813887, 1099511627775]
   [⟨(some 12), none, .call 10 []⟩,
    ⟨(some 13), none, .mov (.t 12)⟩,
    ⟨(some 14), (some (13, true)), .load 1 true (.t 3)⟩,
    ⟨(some 15), (some (13, true)), .aadr 1 2 (.t 4) (.k (.d (.int .i64 0)))⟩,
    ⟨(some 16), (some (13, true)), .load 1 false (.t 15)⟩,
    ⟨(some 17), (some (13, true)), .aadr 1 2 (.t 4) (.k (.d (.int .i64 1)))⟩,
    ⟨(some 18), (some (13, true)), .load 1 false (.t 17)⟩,
    ⟨(some 19), (some (13, true)), .call 14 [(.t 14), (.t 16), (.t 18)]⟩,
    ⟨(some 20), (some (13, true)), .load 1 true (.t 3)⟩,
    ⟨(some 21), (some (13, true)), .aadr 1 2 (.t 4) (.k (.d (.int .i64 0)))⟩,
    ⟨(some 22), (some (13, true)), .load 1 false (.t 21)⟩,
    ⟨(some 23), (some (13, true)), .aadr 1 2 (.t 4) (.k (.d (.int .i64 1)))⟩,
    ⟨(some 24), (some (13, true)), .load 1 false (.t 23)⟩,
    ⟨(some 25), (some (13, true)), .call 15 [(.t 20), (.t 22), (.t 24)]⟩,
    ⟨(some 26), (some (13, true)), .bin .eql (.t 19) (.t 25)⟩,
    ⟨(some 27), none, .pick (.t 13) (.t 26) (.k (.d (.bool false)))⟩,
    ⟨(some 28), none, .mov (.t 27)⟩,
    ⟨(some 29), (some (28, true)), .load 1 true (.t 3)⟩,
    ⟨(some 30), (some (28, true)), .aadr 1 2 (.t 4) (.k (.d (.int .i64 0)))⟩,
    ⟨(some 31), (some (28, true)), .load 1 false (.t 30)⟩,
    ⟨(some 32), (some (28, true)), .load 2 true (.t 5)⟩,
    ⟨(some 33), (some (28, true)), .call 16 [(.t 29), (.t 31), (.t 32)]⟩,
    ⟨(some 34), (some (28, true)), .load 1 true (.t 3)⟩,
    ⟨(some 35), (some (28, true)), .aadr 1 2 (.t 4) (.k (.d (.int .i64 0)))⟩,
    ⟨(some 36), (some (28, true)), .load 1 false (.t 35)⟩,
    ⟨(some 37), (some (28, true)), .load 2 true (.t 5)⟩,
    ⟨(some 38), (some (28, true)), .call 17 [(.t 34), (.t 36), (.t 37)]⟩,
    ⟨(some 39), (some (28, true)), .bin .eql (.t 33) (.t 38)⟩,
    ⟨(some 40), none, .pick (.t 28) (.t 39) (.k (.d (.bool false)))⟩,
    ⟨(some 41), none, .mov (.t 40)⟩,
    ⟨(some 42), (some (41, true)), .load 1 true (.t 3)⟩,
    ⟨(some 43), (some (41, true)), .aadr 1 2 (.t 4) (.k (.d (.int .i64 1)))⟩,
    ⟨(some 44), (some (41, true)), .load 1 false (.t 43)⟩,
    ⟨(some 45), (some (41, true)), .call 18 [(.t 42), (.t 44)]⟩,
    ⟨(some 46), (some (41, true)), .load 1 true (.t 3)⟩,
    ⟨(some 47), (some (41, true)), .aadr 1 2 (.t 4) (.k (.d (.int .i64 1)))⟩,
    ⟨(some 48), (some (41, true)), .load 1 false (.t 47)⟩,
    ⟨(some 49), (some (41, true)), .call 19 [(.t 46), (.t 48)]⟩,
    ⟨(some 50), (some (41, true)), .eqa false 10 [(0, some .i64), (1, some .i64), (2, some .i64), (3, some .i64), (4, some .i64), (5, some .i64), (6, some .i64), (7, some .i64), (8, some .i64), (9, some .i64)] (.t 45) (.t 49)⟩,
    ⟨(some 51), none, .pick (.t 41) (.t 50) (.k (.d (.bool false)))⟩,
    ⟨(some 6), none, .mov (.t 51)⟩])
  .ret)))
def rs4 : List RV := [.tmp 6]
theorem ok4 : okF Try.prog 4 = true := by kernel_rfl
theorem cc4 : cCode Try.prog Try.f4.ntmps (Try.f4.body.getD .skip) = some c4 := by kernel_rfl
theorem cr4 : cRess Try.prog Try.f4.results.toList = some rs4 := by kernel_rfl
theorem pure4 {args : List V} {res : V} (hlen : args.length ≤ 52) (hna : namesL args = []) (hnr : res.names = []) (h : ∀ c : Ctx, c.P = Try.prog → c.fn = [] → vcC c c4 ⟨initE 0 args, [], []⟩ (RetK c rs4 res [])) : Ctr Try.prog 4 args [] res [] [] :=
  ctr_pure Try.func4 ok4 rfl cc4 cr4 Try.ntmps4 hlen hna hnr h
theorem own4 {args : List V} {ins outs : List (Nat × Own)} {res : V} {new : List Nat} (hlen : args.length ≤ 52) (hf : ctrB args ins res outs new = true) (h : ∀ c : Ctx, c.P = Try.prog → c.fn = namesL args ++ ownNames ins → vcC c c4 ⟨initE 0 args, ins, namesL args ++ ownNames ins⟩ (RetK c rs4 res outs)) : Ctr Try.prog 4 args ins res outs new :=
  ctr_own Try.func4 ok4 rfl cc4 cr4 Try.ntmps4 hlen hf h

/-- bordereau/bordereaulaw05.PostZero -/
def c5 : C :=
  (.seq (.reg [⟨(some 4), none, .mov (.k (.d (.bool false)))⟩])
  (.seq (.seq (.reg [⟨(some 11), none, .mov (.t 0)⟩,
    ⟨(some 12), none, .call 13 [(.t 11)]⟩,
    ⟨(some 13), none, .inv .not (.t 12)⟩])
  (.cond (.t 13) (.seq (.reg [⟨(some 14), none, .call 10 []⟩,
      ⟨(some 4), none, .mov (.t 14)⟩])
    .ret)
  .skip))
  (.seq (.reg [⟨(some 15), none, .mov (.t 0)⟩,
    ⟨(some 16), none, .call 20 [(.t 15)]⟩,
    ⟨(some 5), none, .alloc 29 [.d (.sl true 0 0 fun _ => [])]⟩,
    ⟨none, none, .store 1 (.t 5) (.t 16)⟩])
  (.seq (.reg [⟨(some 6), none, .mov (.k (.d (.int .i64 0)))⟩])
  (.seq (.seq (.reg [⟨(some 17), none, .load 1 true (.t 5)⟩,
    ⟨(some 18), none, .mov (.t 1)⟩,
    ⟨(some 19), none, .call 18 [(.t 17), (.t 18)]⟩,
    ⟨(some 20), none, .mov (.k (.d (.int .i64 0)))⟩])
  (.block 0 (.loop (.seq (.reg [⟨(some 21), none, .bin .lss (.t 20) (.k (.d (.int .i64 10)))⟩])
      (.seq (.cond (.t 21) .skip
      (.exit 0))
      (.seq (.block 1 (.seq (.reg [⟨(some 22), none, .idx 1 10 false (.t 19) (.t 20)⟩,
          ⟨(some 8), none, .mov (.t 22)⟩])
        (.reg [⟨(some 23), none, .mov (.t 6)⟩,
          ⟨(some 24), none, .mov (.t 8)⟩,
          ⟨(some 25), none, .bin .add (.t 23) (.t 24)⟩,
          ⟨(some 6), none, .mov (.t 25)⟩])))
      (.reg [⟨(some 26), none, .bin .add (.t 20) (.k (.d (.int .i64 1)))⟩,
        ⟨(some 20), none, .mov (.t 26)⟩])))))))
  (.seq (.seq (.reg [⟨(some 27), none, .fadr 0 (.t 5)⟩,
    ⟨(some 28), none, .load 1 false (.t 27)⟩,
    ⟨(some 29), none, .len (.t 28)⟩,
    ⟨(some 30), none, .mov (.k (.d (.int .i64 0)))⟩])
  (.block 2 (.loop (.seq (.reg [⟨(some 31), none, .bin .lss (.t 30) (.t 29)⟩])
      (.seq (.cond (.t 31) .skip
      (.exit 2))
      (.seq (.block 3 (.seq (.reg [⟨(some 32), none, .mov (.t 30)⟩,
          ⟨(some 33), none, .iadr 3 (.t 28) (.t 30)⟩,
          ⟨(some 34), none, .load 3 true (.t 33)⟩,
          ⟨(some 10), none, .alloc 24 [.d (.int .i64 0), .d (.int .i64 0), .d (.sl true 0 0 fun _ => [])]⟩,
          ⟨(some 9), none, .mov (.t 32)⟩,
          ⟨none, none, .store 3 (.t 10) (.t 34)⟩])
        (.seq (.drw [0, 1, 3, 7, 15, 31, 63, 127, 255, 127, 639, 127, 2175, 7807, 15999, 32383, 65535, 131071, 262143]
         [⟨(some 35), none, .load 3 true (.t 10)⟩,
          ⟨(some 36), none, .call 11 [(.t 35)]⟩,
          ⟨(some 37), none, .inv .not (.t 36)⟩,
          ⟨(some 38), none, .mov (.t 37)⟩,
          ⟨(some 39), (some (38, false)), .mov (.t 9)⟩,
          ⟨(some 40), (some (38, false)), .bin .gtr (.t 39) (.k (.d (.int .i64 0)))⟩,
          ⟨(some 41), (some (38, false)), .mov (.t 40)⟩,
          ⟨(some 42), (some (41, true)), .fadr 0 (.t 10)⟩,
          ⟨(some 43), (some (41, true)), .load 1 false (.t 42)⟩,
          ⟨(some 44), (some (41, true)), .fadr 0 (.t 5)⟩,
          ⟨(some 45), (some (41, true)), .load 1 false (.t 44)⟩,
          ⟨(some 46), (some (41, true)), .mov (.t 9)⟩,
          ⟨(some 47), (some (41, true)), .bin .sub (.t 46) (.k (.d (.int .i64 1)))⟩,
          ⟨(some 48), (some (41, true)), .iadr 3 (.t 45) (.t 47)⟩,
          ⟨(some 49), (some (41, true)), .fadr 0 (.t 48)⟩,
          ⟨(some 50), (some (41, true)), .load 1 false (.t 49)⟩,
          ⟨(some 51), (some (41, true)), .bin .lss (.t 43) (.t 50)⟩,
          ⟨(some 52), (some (38, false)), .pick (.t 41) (.t 51) (.k (.d (.bool false)))⟩,
          ⟨(some 53), none, .pick (.t 38) (.k (.d (.bool true))) (.t 52)⟩])
        (.cond (.t 53) (.seq (.reg [⟨(some 4), none, .mov (.k (.d (.bool false)))⟩])
          .ret)
        .skip))))
      (.reg [⟨(some 54), none, .bin .add (.t 30) (.k (.d (.int .i64 1)))⟩,
        ⟨(some 30), none, .mov (.t 54)⟩])))))))
  (.seq (.reg [⟨(some 55), none, .call 10 []⟩,
    ⟨(some 56), none, .mov (.t 55)⟩,
    ⟨(some 57), (some (56, true)), .mov (.t 6)⟩,
    ⟨(some 58), (some (56, true)), .bin .eql (.t 57) (.k (.d (.int .i64 0)))⟩,
    ⟨(some 59), none, .pick (.t 56) (.t 58) (.k (.d (.bool false)))⟩,
    ⟨(some 4), none, .mov (.t 59)⟩])
  .ret)))))))
def rs5 : List RV := [.tmp 4]
theorem ok5 : okF Try.prog 5 = true := by kernel_rfl
theorem cc5 : cCode Try.prog Try.f5.ntmps (Try.f5.body.getD .skip) = some c5 := by kernel_rfl
theorem cr5 : cRess Try.prog Try.f5.results.toList = some rs5 := by kernel_rfl
theorem pure5 {args : List V} {res : V} (hlen : args.length ≤ 60) (hna : namesL args = []) (hnr : res.names = []) (h : ∀ c : Ctx, c.P = Try.prog → c.fn = [] → vcC c c5 ⟨initE 0 args, [], []⟩ (RetK c rs5 res [])) : Ctr Try.prog 5 args [] res [] [] :=
  ctr_pure Try.func5 ok5 rfl cc5 cr5 Try.ntmps5 hlen hna hnr h
theorem own5 {args : List V} {ins outs : List (Nat × Own)} {res : V} {new : List Nat} (hlen : args.length ≤ 60) (hf : ctrB args ins res outs new = true) (h : ∀ c : Ctx, c.P = Try.prog → c.fn = namesL args ++ ownNames ins → vcC c c5 ⟨initE 0 args, ins, namesL args ++ ownNames ins⟩ (RetK c rs5 res outs)) : Ctr Try.prog 5 args ins res outs new :=
  ctr_own Try.func5 ok5 rfl cc5 cr5 Try.ntmps5 hlen hf h

/-- bordereau/bordereaulaw05.PostLater -/
def c6 : C :=
  (.seq (.reg [⟨(some 4), none, .box 30 (.t 1)⟩,
    ⟨(some 5), none, .box 24 (.t 2)⟩,
    ⟨(some 6), none, .mov (.k (.d (.bool false)))⟩])
  (.seq (.seq (.reg [⟨(some 10), none, .mov (.t 0)⟩,
    ⟨(some 11), none, .call 13 [(.t 10)]⟩,
    ⟨(some 12), none, .inv .not (.t 11)⟩,
    ⟨(some 13), none, .mov (.t 12)⟩,
    ⟨(some 14), (some (13, false)), .fadr 2 (.t 5)⟩,
    ⟨(some 15), (some (13, false)), .load 1 false (.t 14)⟩,
    ⟨(some 16), (some (13, false)), .len (.t 15)⟩,
    ⟨(some 17), (some (13, false)), .bin .gtr (.t 16) (.k (.d (.int .i64 100)))⟩,
    ⟨(some 18), none, .pick (.t 13) (.k (.d (.bool true))) (.t 17)⟩])
  (.cond (.t 18) (.seq (.reg [⟨(some 19), none, .call 10 []⟩,
      ⟨(some 6), none, .mov (.t 19)⟩])
    .ret)
  .skip))
  (.seq (.reg [⟨(some 20), none, .mov (.t 0)⟩,
    ⟨(some 21), none, .call 20 [(.t 20)]⟩,
    ⟨(some 7), none, .alloc 29 [.d (.sl true 0 0 fun _ => [])]⟩,
    ⟨none, none, .store 1 (.t 7) (.t 21)⟩])
  (.seq (.reg [⟨(some 23), none, .load 1 true (.t 7)⟩,
    ⟨(some 24), none, .load 3 true (.t 5)⟩,
    ⟨(some 25), none, .call 21 [(.t 23), (.t 24)]⟩,
    ⟨(some 22), none, .mov (.t 25)⟩,
    ⟨(some 26), none, .ext 0 (.t 22)⟩,
    ⟨(some 27), none, .ext 1 (.t 22)⟩,
    ⟨(some 8), none, .alloc 29 [.d (.sl true 0 0 fun _ => [])]⟩,
    ⟨none, none, .store 1 (.t 8) (.t 26)⟩,
    ⟨(some 9), none, .mov (.t 27)⟩])
  (.seq (.seq (.reg [⟨(some 28), none, .mov (.t 9)⟩,
    ⟨(some 29), none, .bin .neq (.t 28) (.k (.d (.int .i64 0)))⟩,
    ⟨(some 30), none, .mov (.t 29)⟩,
    ⟨(some 31), (some (30, false)), .aadr 1 2 (.t 4) (.k (.d (.int .i64 1)))⟩,
    ⟨(some 32), (some (30, false)), .load 1 false (.t 31)⟩,
    ⟨(some 33), (some (30, false)), .fadr 0 (.t 5)⟩,
    ⟨(some 34), (some (30, false)), .load 1 false (.t 33)⟩,
    ⟨(some 35), (some (30, false)), .bin .geq (.t 32) (.t 34)⟩,
    ⟨(some 36), none, .pick (.t 30) (.k (.d (.bool true))) (.t 35)⟩])
  (.cond (.t 36) (.seq (.reg [⟨(some 37), none, .call 10 []⟩,
      ⟨(some 6), none, .mov (.t 37)⟩])
    .ret)
  .skip))
  (.seq (.drw [0, 1, 3, 3, 11, 3, 35, 127, 3, 3, 515, 3, 2051, 8191, 16383, 32767, 65535, 131071, 131071, 393215, 1048575, 131071, 131071, 4325375, 16777215, 33554431, 67108863, 134217727, 268435455, 536870911, 1073741823, 268435455, 2415919103, 6710886399, 15300820991, 34359738367, 68719476735, 137438953471]
   [⟨(some 38), none, .call 10 []⟩,
    ⟨(some 39), none, .mov (.t 38)⟩,
    ⟨(some 40), (some (39, true)), .load 1 true (.t 8)⟩,
    ⟨(some 41), (some (39, true)), .aadr 1 2 (.t 4) (.k (.d (.int .i64 0)))⟩,
    ⟨(some 42), (some (39, true)), .load 1 false (.t 41)⟩,
    ⟨(some 43), (some (39, true)), .aadr 1 2 (.t 4) (.k (.d (.int .i64 1)))⟩,
    ⟨(some 44), (some (39, true)), .load 1 false (.t 43)⟩,
    ⟨(some 45), (some (39, true)), .call 14 [(.t 40), (.t 42), (.t 44)]⟩,
    ⟨(some 46), (some (39, true)), .load 1 true (.t 7)⟩,
    ⟨(some 47), (some (39, true)), .aadr 1 2 (.t 4) (.k (.d (.int .i64 0)))⟩,
    ⟨(some 48), (some (39, true)), .load 1 false (.t 47)⟩,
    ⟨(some 49), (some (39, true)), .aadr 1 2 (.t 4) (.k (.d (.int .i64 1)))⟩,
    ⟨(some 50), (some (39, true)), .load 1 false (.t 49)⟩,
    ⟨(some 51), (some (39, true)), .call 14 [(.t 46), (.t 48), (.t 50)]⟩,
    ⟨(some 52), (some (39, true)), .bin .eql (.t 45) (.t 51)⟩,
    ⟨(some 53), none, .pick (.t 39) (.t 52) (.k (.d (.bool false)))⟩,
    ⟨(some 54), none, .mov (.t 53)⟩,
    ⟨(some 55), (some (54, true)), .load 1 true (.t 8)⟩,
    ⟨(some 56), (some (54, true)), .aadr 1 2 (.t 4) (.k (.d (.int .i64 1)))⟩,
    ⟨(some 57), (some (54, true)), .load 1 false (.t 56)⟩,
    ⟨(some 58), (some (54, true)), .call 18 [(.t 55), (.t 57)]⟩,
    ⟨(some 59), (some (54, true)), .load 1 true (.t 7)⟩,
    ⟨(some 60), (some (54, true)), .aadr 1 2 (.t 4) (.k (.d (.int .i64 1)))⟩,
    ⟨(some 61), (some (54, true)), .load 1 false (.t 60)⟩,
    ⟨(some 62), (some (54, true)), .call 18 [(.t 59), (.t 61)]⟩,
    ⟨(some 63), (some (54, true)), .eqa false 10 [(0, some .i64), (1, some .i64), (2, some .i64), (3, some .i64), (4, some .i64), (5, some .i64), (6, some .i64), (7, some .i64), (8, some .i64), (9, some .i64)] (.t 58) (.t 62)⟩,
    ⟨(some 64), none, .pick (.t 54) (.t 63) (.k (.d (.bool false)))⟩,
    ⟨(some 65), none, .mov (.t 64)⟩,
    ⟨(some 66), (some (65, true)), .fadr 0 (.t 8)⟩,
    ⟨(some 67), (some (65, true)), .load 1 false (.t 66)⟩,
    ⟨(some 68), (some (65, true)), .len (.t 67)⟩,
    ⟨(some 69), (some (65, true)), .fadr 0 (.t 7)⟩,
    ⟨(some 70), (some (65, true)), .load 1 false (.t 69)⟩,
    ⟨(some 71), (some (65, true)), .len (.t 70)⟩,
    ⟨(some 72), (some (65, true)), .bin .add (.t 71) (.k (.d (.int .i64 1)))⟩,
    ⟨(some 73), (some (65, true)), .bin .eql (.t 68) (.t 72)⟩,
    ⟨(some 74), none, .pick (.t 65) (.t 73) (.k (.d (.bool false)))⟩,
    ⟨(some 6), none, .mov (.t 74)⟩])
  .ret))))))
def rs6 : List RV := [.tmp 6]
theorem ok6 : okF Try.prog 6 = true := by kernel_rfl
theorem cc6 : cCode Try.prog Try.f6.ntmps (Try.f6.body.getD .skip) = some c6 := by kernel_rfl
theorem cr6 : cRess Try.prog Try.f6.results.toList = some rs6 := by kernel_rfl
theorem pure6 {args : List V} {res : V} (hlen : args.length ≤ 75) (hna : namesL args = []) (hnr : res.names = []) (h : ∀ c : Ctx, c.P = Try.prog → c.fn = [] → vcC c c6 ⟨initE 0 args, [], []⟩ (RetK c rs6 res [])) : Ctr Try.prog 6 args [] res [] [] :=
  ctr_pure Try.func6 ok6 rfl cc6 cr6 Try.ntmps6 hlen hna hnr h
theorem own6 {args : List V} {ins outs : List (Nat × Own)} {res : V} {new : List Nat} (hlen : args.length ≤ 75) (hf : ctrB args ins res outs new = true) (h : ∀ c : Ctx, c.P = Try.prog → c.fn = namesL args ++ ownNames ins → vcC c c6 ⟨initE 0 args, ins, namesL args ++ ownNames ins⟩ (RetK c rs6 res outs)) : Ctr Try.prog 6 args ins res outs new :=
  ctr_own Try.func6 ok6 rfl cc6 cr6 Try.ntmps6 hlen hf h

/-- bordereau/bordereaulaw05.PostParts -/
def c7 : C :=
  (.seq (.reg [⟨(some 4), none, .box 32 (.t 1)⟩,
    ⟨(some 6), none, .mov (.k (.d (.bool false)))⟩])
  (.seq (.seq (.reg [⟨(some 12), none, .mov (.t 0)⟩,
    ⟨(some 13), none, .call 13 [(.t 12)]⟩,
    ⟨(some 14), none, .inv .not (.t 13)⟩,
    ⟨(some 15), none, .mov (.t 14)⟩,
    ⟨(some 16), (some (15, false)), .mov (.t 2)⟩,
    ⟨(some 17), (some (15, false)), .len (.t 16)⟩,
    ⟨(some 18), (some (15, false)), .bin .gtr (.t 17) (.k (.d (.int .i64 50)))⟩,
    ⟨(some 19), none, .pick (.t 15) (.k (.d (.bool true))) (.t 18)⟩])
  (.cond (.t 19) (.seq (.reg [⟨(some 20), none, .call 10 []⟩,
      ⟨(some 6), none, .mov (.t 20)⟩])
    .ret)
  .skip))
  (.seq (.reg [⟨(some 21), none, .mov (.t 0)⟩,
    ⟨(some 22), none, .call 20 [(.t 21)]⟩,
    ⟨(some 7), none, .alloc 29 [.d (.sl true 0 0 fun _ => [])]⟩,
    ⟨none, none, .store 1 (.t 7) (.t 22)⟩])
  (.seq (.seq (.reg [⟨(some 8), none, .mov (.k (.d (.int .i64 1)))⟩])
  (.block 0 (.loop (.seq (.seq (.reg [⟨(some 23), none, .mov (.t 8)⟩,
        ⟨(some 24), none, .bin .leq (.t 23) (.k (.d (.int .i64 9)))⟩])
      (.cond (.t 24) .skip
      (.exit 0)))
      (.seq (.block 1 (.seq (.reg [⟨(some 9), none, .mov (.k (.d (.int .i64 0)))⟩])
        (.seq (.seq (.reg [⟨(some 27), none, .load 2 true (.t 4)⟩,
          ⟨(some 28), none, .mov (.t 2)⟩,
          ⟨(some 29), none, .call 22 [(.t 27), (.t 28)]⟩,
          ⟨(some 30), none, .len (.t 29)⟩,
          ⟨(some 31), none, .mov (.k (.d (.int .i64 0)))⟩])
        (.block 2 (.loop (.seq (.reg [⟨(some 32), none, .bin .lss (.t 31) (.t 30)⟩])
            (.seq (.cond (.t 32) .skip
            (.exit 2))
            (.seq (.block 3 (.seq (.reg [⟨(some 33), none, .iadr 2 (.t 29) (.t 31)⟩,
                ⟨(some 34), none, .load 2 true (.t 33)⟩,
                ⟨(some 11), none, .alloc 32 [.d (.int .i64 0), .d (.int .i64 0)]⟩,
                ⟨none, none, .store 2 (.t 11) (.t 34)⟩])
              (.reg [⟨(some 35), none, .mov (.t 9)⟩,
                ⟨(some 36), none, .load 1 true (.t 7)⟩,
                ⟨(some 37), none, .mov (.t 8)⟩,
                ⟨(some 38), none, .load 2 true (.t 11)⟩,
                ⟨(some 39), none, .call 16 [(.t 36), (.t 37), (.t 38)]⟩,
                ⟨(some 40), none, .bin .add (.t 35) (.t 39)⟩,
                ⟨(some 9), none, .mov (.t 40)⟩])))
            (.reg [⟨(some 41), none, .bin .add (.t 31) (.k (.d (.int .i64 1)))⟩,
              ⟨(some 31), none, .mov (.t 41)⟩])))))))
        (.seq (.reg [⟨(some 42), none, .mov (.t 9)⟩,
          ⟨(some 43), none, .load 1 true (.t 7)⟩,
          ⟨(some 44), none, .mov (.t 8)⟩,
          ⟨(some 45), none, .load 2 true (.t 4)⟩,
          ⟨(some 46), none, .call 16 [(.t 43), (.t 44), (.t 45)]⟩,
          ⟨(some 47), none, .bin .neq (.t 42) (.t 46)⟩])
        (.cond (.t 47) (.seq (.reg [⟨(some 6), none, .mov (.k (.d (.bool false)))⟩])
          .ret)
        .skip)))))
      (.reg [⟨(some 25), none, .mov (.t 8)⟩,
        ⟨(some 26), none, .bin .add (.t 25) (.k (.d (.int .i64 1)))⟩,
        ⟨(some 8), none, .mov (.t 26)⟩]))))))
  (.seq (.reg [⟨(some 48), none, .call 10 []⟩,
    ⟨(some 6), none, .mov (.t 48)⟩])
  .ret)))))
def rs7 : List RV := [.tmp 6]
theorem ok7 : okF Try.prog 7 = true := by kernel_rfl
theorem cc7 : cCode Try.prog Try.f7.ntmps (Try.f7.body.getD .skip) = some c7 := by kernel_rfl
theorem cr7 : cRess Try.prog Try.f7.results.toList = some rs7 := by kernel_rfl
theorem pure7 {args : List V} {res : V} (hlen : args.length ≤ 49) (hna : namesL args = []) (hnr : res.names = []) (h : ∀ c : Ctx, c.P = Try.prog → c.fn = [] → vcC c c7 ⟨initE 0 args, [], []⟩ (RetK c rs7 res [])) : Ctr Try.prog 7 args [] res [] [] :=
  ctr_pure Try.func7 ok7 rfl cc7 cr7 Try.ntmps7 hlen hna hnr h
theorem own7 {args : List V} {ins outs : List (Nat × Own)} {res : V} {new : List Nat} (hlen : args.length ≤ 49) (hf : ctrB args ins res outs new = true) (h : ∀ c : Ctx, c.P = Try.prog → c.fn = namesL args ++ ownNames ins → vcC c c7 ⟨initE 0 args, ins, namesL args ++ ownNames ins⟩ (RetK c rs7 res outs)) : Ctr Try.prog 7 args ins res outs new :=
  ctr_own Try.func7 ok7 rfl cc7 cr7 Try.ntmps7 hlen hf h

/-- bordereau/bordereaulaw05.PostWhole -/
def c8 : C :=
  (.seq (.reg [⟨(some 3), none, .box 24 (.t 1)⟩,
    ⟨(some 4), none, .mov (.k (.d (.bool false)))⟩])
  (.seq (.seq (.reg [⟨(some 12), none, .mov (.t 0)⟩,
    ⟨(some 13), none, .call 13 [(.t 12)]⟩,
    ⟨(some 14), none, .inv .not (.t 13)⟩,
    ⟨(some 15), none, .mov (.t 14)⟩,
    ⟨(some 16), (some (15, false)), .fadr 2 (.t 3)⟩,
    ⟨(some 17), (some (15, false)), .load 1 false (.t 16)⟩,
    ⟨(some 18), (some (15, false)), .len (.t 17)⟩,
    ⟨(some 19), (some (15, false)), .bin .gtr (.t 18) (.k (.d (.int .i64 100)))⟩,
    ⟨(some 20), none, .pick (.t 15) (.k (.d (.bool true))) (.t 19)⟩])
  (.cond (.t 20) (.seq (.reg [⟨(some 21), none, .call 10 []⟩,
      ⟨(some 4), none, .mov (.t 21)⟩])
    .ret)
  .skip))
  (.seq (.reg [⟨(some 22), none, .mov (.t 0)⟩,
    ⟨(some 23), none, .call 20 [(.t 22)]⟩,
    ⟨(some 5), none, .alloc 29 [.d (.sl true 0 0 fun _ => [])]⟩,
    ⟨none, none, .store 1 (.t 5) (.t 23)⟩])
  (.seq (.reg [⟨(some 25), none, .load 1 true (.t 5)⟩,
    ⟨(some 26), none, .load 3 true (.t 3)⟩,
    ⟨(some 27), none, .call 21 [(.t 25), (.t 26)]⟩,
    ⟨(some 24), none, .mov (.t 27)⟩,
    ⟨(some 28), none, .ext 0 (.t 24)⟩,
    ⟨(some 29), none, .ext 1 (.t 24)⟩,
    ⟨(some 6), none, .alloc 29 [.d (.sl true 0 0 fun _ => [])]⟩,
    ⟨none, none, .store 1 (.t 6) (.t 28)⟩,
    ⟨(some 7), none, .mov (.t 29)⟩])
  (.seq (.seq (.reg [⟨(some 30), none, .mov (.t 7)⟩,
    ⟨(some 31), none, .bin .neq (.t 30) (.k (.d (.int .i64 0)))⟩])
  (.cond (.t 31) (.seq (.reg [⟨(some 32), none, .call 10 []⟩,
      ⟨(some 4), none, .mov (.t 32)⟩])
    .ret)
  .skip))
  (.seq (.drw [0, 1, 0, 7, 0, 0, 63, 127]
   [⟨(some 33), none, .load 1 true (.t 5)⟩,
    ⟨(some 34), none, .call 18 [(.t 33), (.k (.d (.int .i64 292194)))]⟩,
    ⟨(some 35), none, .load 1 true (.t 6)⟩,
    ⟨(some 36), none, .call 18 [(.t 35), (.k (.d (.int .i64 292194)))]⟩,
    ⟨(some 8), none, .alloc 36 [.d (.int .i64 0), .d (.int .i64 0), .d (.int .i64 0), .d (.int .i64 0), .d (.int .i64 0), .d (.int .i64 0), .d (.int .i64 0), .d (.int .i64 0), .d (.int .i64 0), .d (.int .i64 0)]⟩,
    ⟨(some 9), none, .alloc 36 [.d (.int .i64 0), .d (.int .i64 0), .d (.int .i64 0), .d (.int .i64 0), .d (.int .i64 0), .d (.int .i64 0), .d (.int .i64 0), .d (.int .i64 0), .d (.int .i64 0), .d (.int .i64 0)]⟩,
    ⟨none, none, .store 10 (.t 8) (.t 34)⟩,
    ⟨none, none, .store 10 (.t 9) (.t 36)⟩])
  (.seq (.seq (.reg [⟨(some 37), none, .fadr 2 (.t 3)⟩,
    ⟨(some 38), none, .load 1 false (.t 37)⟩,
    ⟨(some 39), none, .len (.t 38)⟩,
    ⟨(some 40), none, .mov (.k (.d (.int .i64 0)))⟩])
  (.block 0 (.loop (.seq (.reg [⟨(some 41), none, .bin .lss (.t 40) (.t 39)⟩])
      (.seq (.cond (.t 41) .skip
      (.exit 0))
      (.seq (.block 1 (.seq (.reg [⟨(some 42), none, .iadr 2 (.t 38) (.t 40)⟩,
          ⟨(some 43), none, .load 2 true (.t 42)⟩,
          ⟨(some 11), none, .alloc 50 [.d (.int .i64 0), .d (.int .i64 0)]⟩,
          ⟨none, none, .store 2 (.t 11) (.t 43)⟩])
        (.drw [0, 1, 3, 7, 0, 16, 63, 127, 255]
         [⟨(some 44), none, .fadr 0 (.t 11)⟩,
          ⟨(some 45), none, .load 1 false (.t 44)⟩,
          ⟨(some 46), none, .aadr 1 10 (.t 8) (.t 45)⟩,
          ⟨(some 47), none, .load 1 false (.t 46)⟩,
          ⟨(some 48), none, .fadr 1 (.t 11)⟩,
          ⟨(some 49), none, .load 1 false (.t 48)⟩,
          ⟨(some 50), none, .bin .add (.t 47) (.t 49)⟩,
          ⟨(some 51), none, .aadr 1 10 (.t 8) (.t 45)⟩,
          ⟨none, none, .store 1 (.t 51) (.t 50)⟩])))
      (.reg [⟨(some 52), none, .bin .add (.t 40) (.k (.d (.int .i64 1)))⟩,
        ⟨(some 40), none, .mov (.t 52)⟩])))))))
  (.seq (.reg [⟨(some 53), none, .call 10 []⟩,
    ⟨(some 54), none, .mov (.t 53)⟩,
    ⟨(some 55), (some (54, true)), .load 10 true (.t 8)⟩,
    ⟨(some 56), (some (54, true)), .load 10 true (.t 9)⟩,
    ⟨(some 57), (some (54, true)), .eqa false 10 [(0, some .i64), (1, some .i64), (2, some .i64), (3, some .i64), (4, some .i64), (5, some .i64), (6, some .i64), (7, some .i64), (8, some .i64), (9, some .i64)] (.t 55) (.t 56)⟩,
    ⟨(some 58), none, .pick (.t 54) (.t 57) (.k (.d (.bool false)))⟩,
    ⟨(some 4), none, .mov (.t 58)⟩])
  .ret))))))))
def rs8 : List RV := [.tmp 4]
theorem ok8 : okF Try.prog 8 = true := by kernel_rfl
theorem cc8 : cCode Try.prog Try.f8.ntmps (Try.f8.body.getD .skip) = some c8 := by kernel_rfl
theorem cr8 : cRess Try.prog Try.f8.results.toList = some rs8 := by kernel_rfl
theorem pure8 {args : List V} {res : V} (hlen : args.length ≤ 59) (hna : namesL args = []) (hnr : res.names = []) (h : ∀ c : Ctx, c.P = Try.prog → c.fn = [] → vcC c c8 ⟨initE 0 args, [], []⟩ (RetK c rs8 res [])) : Ctr Try.prog 8 args [] res [] [] :=
  ctr_pure Try.func8 ok8 rfl cc8 cr8 Try.ntmps8 hlen hna hnr h
theorem own8 {args : List V} {ins outs : List (Nat × Own)} {res : V} {new : List Nat} (hlen : args.length ≤ 59) (hf : ctrB args ins res outs new = true) (h : ∀ c : Ctx, c.P = Try.prog → c.fn = namesL args ++ ownNames ins → vcC c c8 ⟨initE 0 args, ins, namesL args ++ ownNames ins⟩ (RetK c rs8 res outs)) : Ctr Try.prog 8 args ins res outs new :=
  ctr_own Try.func8 ok8 rfl cc8 cr8 Try.ntmps8 hlen hf h

/-- bordereau/bordereaulaw05.PostTurns -/
def c9 : C :=
  (.seq (.reg [⟨(some 5), none, .box 32 (.t 2)⟩,
    ⟨(some 6), none, .mov (.k (.d (.bool false)))⟩])
  (.seq (.seq (.reg [⟨(some 8), none, .mov (.t 0)⟩,
    ⟨(some 9), none, .call 13 [(.t 8)]⟩,
    ⟨(some 10), none, .inv .not (.t 9)⟩,
    ⟨(some 11), none, .mov (.t 10)⟩,
    ⟨(some 12), (some (11, false)), .load 2 true (.t 5)⟩,
    ⟨(some 13), (some (11, false)), .call 23 [(.t 12)]⟩,
    ⟨(some 14), (some (11, false)), .bin .eql (.t 13) (.k (.d (.int .i64 0)))⟩,
    ⟨(some 15), none, .pick (.t 11) (.k (.d (.bool true))) (.t 14)⟩])
  (.cond (.t 15) (.seq (.reg [⟨(some 16), none, .call 10 []⟩,
      ⟨(some 6), none, .mov (.t 16)⟩])
    .ret)
  .skip))
  (.seq (.reg [⟨(some 17), none, .mov (.t 0)⟩,
    ⟨(some 18), none, .call 20 [(.t 17)]⟩,
    ⟨(some 7), none, .alloc 29 [.d (.sl true 0 0 fun _ => [])]⟩,
    ⟨none, none, .store 1 (.t 7) (.t 18)⟩])
  (.seq (.drw [0, 1, 3, 3, 3, 31, 3, 3, 3, 259, 771, 2047, 3, 3, 3, 16387, 49155, 131071, 262143, 524287, 1048575, 2097151]
   [⟨(some 19), none, .call 10 []⟩,
    ⟨(some 20), none, .mov (.t 19)⟩,
    ⟨(some 21), (some (20, true)), .load 1 true (.t 7)⟩,
    ⟨(some 22), (some (20, true)), .mov (.t 1)⟩,
    ⟨(some 23), (some (20, true)), .load 2 true (.t 5)⟩,
    ⟨(some 24), (some (20, true)), .call 16 [(.t 21), (.t 22), (.t 23)]⟩,
    ⟨(some 25), (some (20, true)), .load 1 true (.t 7)⟩,
    ⟨(some 26), (some (20, true)), .mov (.t 1)⟩,
    ⟨(some 27), (some (20, true)), .fadr 1 (.t 5)⟩,
    ⟨(some 28), (some (20, true)), .load 1 false (.t 27)⟩,
    ⟨(some 29), (some (20, true)), .bin .sub (.t 28) (.k (.d (.int .i64 1)))⟩,
    ⟨(some 30), (some (20, true)), .call 14 [(.t 25), (.t 26), (.t 29)]⟩,
    ⟨(some 31), (some (20, true)), .load 1 true (.t 7)⟩,
    ⟨(some 32), (some (20, true)), .mov (.t 1)⟩,
    ⟨(some 33), (some (20, true)), .fadr 0 (.t 5)⟩,
    ⟨(some 34), (some (20, true)), .load 1 false (.t 33)⟩,
    ⟨(some 35), (some (20, true)), .bin .sub (.t 34) (.k (.d (.int .i64 1)))⟩,
    ⟨(some 36), (some (20, true)), .call 14 [(.t 31), (.t 32), (.t 35)]⟩,
    ⟨(some 37), (some (20, true)), .bin .sub (.t 30) (.t 36)⟩,
    ⟨(some 38), (some (20, true)), .bin .eql (.t 24) (.t 37)⟩,
    ⟨(some 39), none, .pick (.t 20) (.t 38) (.k (.d (.bool false)))⟩,
    ⟨(some 6), none, .mov (.t 39)⟩])
  .ret))))
def rs9 : List RV := [.tmp 6]
theorem ok9 : okF Try.prog 9 = true := by kernel_rfl
theorem cc9 : cCode Try.prog Try.f9.ntmps (Try.f9.body.getD .skip) = some c9 := by kernel_rfl
theorem cr9 : cRess Try.prog Try.f9.results.toList = some rs9 := by kernel_rfl
theorem pure9 {args : List V} {res : V} (hlen : args.length ≤ 40) (hna : namesL args = []) (hnr : res.names = []) (h : ∀ c : Ctx, c.P = Try.prog → c.fn = [] → vcC c c9 ⟨initE 0 args, [], []⟩ (RetK c rs9 res [])) : Ctr Try.prog 9 args [] res [] [] :=
  ctr_pure Try.func9 ok9 rfl cc9 cr9 Try.ntmps9 hlen hna hnr h
theorem own9 {args : List V} {ins outs : List (Nat × Own)} {res : V} {new : List Nat} (hlen : args.length ≤ 40) (hf : ctrB args ins res outs new = true) (h : ∀ c : Ctx, c.P = Try.prog → c.fn = namesL args ++ ownNames ins → vcC c c9 ⟨initE 0 args, ins, namesL args ++ ownNames ins⟩ (RetK c rs9 res outs)) : Ctr Try.prog 9 args ins res outs new :=
  ctr_own Try.func9 ok9 rfl cc9 cr9 Try.ntmps9 hlen hf h

/-- bordereau/bordereaulaw05.alive -/
def c10 : C :=
  (.seq (.reg [⟨(some 0), none, .mov (.k (.d (.bool false)))⟩])
  (.seq (.reg [⟨(some 11), none, .build [.d (.sl true 0 0 fun _ => [])] []⟩,
    ⟨(some 12), none, .call 24 [(.k (.d (.int .i64 3))), (.k (.d (.int .i64 1))), (.k (.d (.int .i64 2))), (.k (.d (.int .i64 5)))]⟩,
    ⟨(some 13), none, .call 21 [(.t 11), (.t 12)]⟩,
    ⟨(some 10), none, .mov (.t 13)⟩,
    ⟨(some 14), none, .ext 0 (.t 10)⟩,
    ⟨(some 15), none, .ext 1 (.t 10)⟩,
    ⟨(some 1), none, .alloc 29 [.d (.sl true 0 0 fun _ => [])]⟩,
    ⟨none, none, .store 1 (.t 1) (.t 14)⟩,
    ⟨(some 2), none, .mov (.t 15)⟩])
  (.seq (.drw [0, 0, 3, 7, 15, 15, 31, 127]
   [⟨(some 17), none, .load 1 true (.t 1)⟩,
    ⟨(some 18), none, .call 24 [(.k (.d (.int .i64 7))), (.k (.d (.int .i64 1))), (.k (.d (.int .i64 5))), (.k (.d (.int .i64 (-2))))]⟩,
    ⟨(some 19), none, .call 21 [(.t 17), (.t 18)]⟩,
    ⟨(some 16), none, .mov (.t 19)⟩,
    ⟨(some 20), none, .ext 0 (.t 16)⟩,
    ⟨(some 21), none, .ext 1 (.t 16)⟩,
    ⟨none, none, .store 1 (.t 1) (.t 20)⟩,
    ⟨(some 3), none, .mov (.t 21)⟩])
  (.seq (.drw [0, 0, 3, 7, 15, 15, 0, 95, 255]
   [⟨(some 23), none, .load 1 true (.t 1)⟩,
    ⟨(some 24), none, .call 24 [(.k (.d (.int .i64 6))), (.k (.d (.int .i64 1))), (.k (.d (.int .i64 2))), (.k (.d (.int .i64 5)))]⟩,
    ⟨(some 25), none, .call 21 [(.t 23), (.t 24)]⟩,
    ⟨(some 22), none, .mov (.t 25)⟩,
    ⟨(some 26), none, .ext 0 (.t 22)⟩,
    ⟨(some 27), none, .ext 1 (.t 22)⟩,
    ⟨(some 4), none, .alloc 29 [.d (.sl true 0 0 fun _ => [])]⟩,
    ⟨none, none, .store 1 (.t 4) (.t 26)⟩,
    ⟨(some 5), none, .mov (.t 27)⟩])
  (.seq (.reg [⟨(some 29), none, .load 1 true (.t 1)⟩,
    ⟨(some 30), none, .build [.d (.int .i64 0), .d (.int .i64 0), .d (.sl true 0 0 fun _ => [])] [(0, 1, (.k (.d (.int .i64 9))))]⟩,
    ⟨(some 31), none, .call 21 [(.t 29), (.t 30)]⟩,
    ⟨(some 28), none, .mov (.t 31)⟩,
    ⟨(some 32), none, .ext 0 (.t 28)⟩,
    ⟨(some 33), none, .ext 1 (.t 28)⟩,
    ⟨(some 6), none, .alloc 29 [.d (.sl true 0 0 fun _ => [])]⟩,
    ⟨none, none, .store 1 (.t 6) (.t 32)⟩,
    ⟨(some 7), none, .mov (.t 33)⟩])
  (.seq (.reg [⟨(some 35), none, .load 1 true (.t 1)⟩,
    ⟨(some 36), none, .build [.d (.int .i64 0), .d (.int .i64 0)] [(0, 1, (.k (.d (.int .i64 1)))), (1, 1, (.k (.d (.int .i64 1))))]⟩,
    ⟨(some 37), none, .build [.d (.int .i64 0), .d (.int .i64 0)] [(0, 1, (.k (.d (.int .i64 2)))), (1, 1, (.k (.d (.int .i64 1))))]⟩,
    ⟨(some 38), none, .bslice 50 2 2 [(.t 36), (.t 37)]⟩,
    ⟨(some 39), none, .build [.d (.int .i64 0), .d (.int .i64 0), .d (.sl true 0 0 fun _ => [])] [(0, 1, (.k (.d (.int .i64 9)))), (2, 1, (.t 38))]⟩,
    ⟨(some 40), none, .call 21 [(.t 35), (.t 39)]⟩,
    ⟨(some 34), none, .mov (.t 40)⟩,
    ⟨(some 41), none, .ext 0 (.t 34)⟩,
    ⟨(some 42), none, .ext 1 (.t 34)⟩,
    ⟨(some 8), none, .alloc 29 [.d (.sl true 0 0 fun _ => [])]⟩,
    ⟨none, none, .store 1 (.t 8) (.t 41)⟩,
    ⟨(some 9), none, .mov (.t 42)⟩])
  (.seq (.reg [⟨(some 43), none, .mov (.t 2)⟩,
    ⟨(some 44), none, .bin .eql (.t 43) (.k (.d (.int .i64 0)))⟩,
    ⟨(some 45), none, .mov (.t 44)⟩,
    ⟨(some 46), (some (45, true)), .mov (.t 3)⟩,
    ⟨(some 47), (some (45, true)), .bin .eql (.t 46) (.k (.d (.int .i64 0)))⟩,
    ⟨(some 48), none, .pick (.t 45) (.t 47) (.k (.d (.bool false)))⟩,
    ⟨(some 49), none, .mov (.t 48)⟩,
    ⟨(some 50), (some (49, true)), .mov (.t 5)⟩,
    ⟨(some 51), (some (49, true)), .bin .eql (.t 50) (.k (.d (.int .i64 4)))⟩,
    ⟨(some 52), none, .pick (.t 49) (.t 51) (.k (.d (.bool false)))⟩,
    ⟨(some 53), none, .mov (.t 52)⟩,
    ⟨(some 54), (some (53, true)), .mov (.t 7)⟩,
    ⟨(some 55), (some (53, true)), .bin .eql (.t 54) (.k (.d (.int .i64 1)))⟩,
    ⟨(some 56), none, .pick (.t 53) (.t 55) (.k (.d (.bool false)))⟩,
    ⟨(some 57), none, .mov (.t 56)⟩,
    ⟨(some 58), (some (57, true)), .mov (.t 9)⟩,
    ⟨(some 59), (some (57, true)), .bin .eql (.t 58) (.k (.d (.int .i64 13)))⟩,
    ⟨(some 60), none, .pick (.t 57) (.t 59) (.k (.d (.bool false)))⟩,
    ⟨(some 61), none, .mov (.t 60)⟩,
    ⟨(some 62), (some (61, true)), .fadr 0 (.t 1)⟩,
    ⟨(some 63), (some (61, true)), .load 1 false (.t 62)⟩,
    ⟨(some 64), (some (61, true)), .len (.t 63)⟩,
    ⟨(some 65), (some (61, true)), .bin .eql (.t 64) (.k (.d (.int .i64 2)))⟩,
    ⟨(some 66), none, .pick (.t 61) (.t 65) (.k (.d (.bool false)))⟩,
    ⟨(some 67), none, .mov (.t 66)⟩,
    ⟨(some 68), (some (67, true)), .load 1 true (.t 1)⟩,
    ⟨(some 69), (some (67, true)), .call 14 [(.t 68), (.k (.d (.int .i64 1))), (.k (.d (.int .i64 6)))]⟩,
    ⟨(some 70), (some (67, true)), .bin .eql (.t 69) (.k (.d (.int .i64 5)))⟩,
    ⟨(some 71), none, .pick (.t 67) (.t 70) (.k (.d (.bool false)))⟩,
    ⟨(some 72), none, .mov (.t 71)⟩,
    ⟨(some 73), (some (72, true)), .load 1 true (.t 1)⟩,
    ⟨(some 74), (some (72, true)), .call 14 [(.t 73), (.k (.d (.int .i64 1))), (.k (.d (.int .i64 7)))]⟩,
    ⟨(some 75), (some (72, true)), .bin .eql (.t 74) (.k (.d (.int .i64 3)))⟩,
    ⟨(some 76), none, .pick (.t 72) (.t 75) (.k (.d (.bool false)))⟩,
    ⟨(some 77), none, .mov (.t 76)⟩,
    ⟨(some 78), (some (77, true)), .load 1 true (.t 1)⟩,
    ⟨(some 79), (some (77, true)), .build [.d (.int .i64 0), .d (.int .i64 0)] [(0, 1, (.k (.d (.int .i64 4)))), (1, 1, (.k (.d (.int .i64 9))))]⟩,
    ⟨(some 80), (some (77, true)), .call 16 [(.t 78), (.k (.d (.int .i64 1))), (.t 79)]⟩,
    ⟨(some 81), (some (77, true)), .bin .eql (.t 80) (.k (.d (.int .i64 (-2))))⟩,
    ⟨(some 82), none, .pick (.t 77) (.t 81) (.k (.d (.bool false)))⟩,
    ⟨(some 83), none, .mov (.t 82)⟩,
    ⟨(some 84), (some (83, true)), .load 1 true (.t 1)⟩,
    ⟨(some 85), (some (83, true)), .call 18 [(.t 84), (.k (.d (.int .i64 9)))]⟩,
    ⟨(some 86), (some (83, true)), .build [.d (.int .i64 0), .d (.int .i64 0), .d (.int .i64 0), .d (.int .i64 0), .d (.int .i64 0), .d (.int .i64 0), .d (.int .i64 0), .d (.int .i64 0), .d (.int .i64 0), .d (.int .i64 0)] [(0, 1, (.k (.d (.int .i64 0)))), (1, 1, (.k (.d (.int .i64 3)))), (2, 1, (.k (.d (.int .i64 (-5))))), (3, 1, (.k (.d (.int .i64 0)))), (4, 1, (.k (.d (.int .i64 0)))), (5, 1, (.k (.d (.int .i64 2))))]⟩,
    ⟨(some 87), (some (83, true)), .eqa false 10 [(0, some .i64), (1, some .i64), (2, some .i64), (3, some .i64), (4, some .i64), (5, some .i64), (6, some .i64), (7, some .i64), (8, some .i64), (9, some .i64)] (.t 85) (.t 86)⟩,
    ⟨(some 88), none, .pick (.t 83) (.t 87) (.k (.d (.bool false)))⟩,
    ⟨(some 89), none, .mov (.t 88)⟩,
    ⟨(some 90), (some (89, true)), .call 24 [(.k (.d (.int .i64 1))), (.k (.d (.int .i64 1))), (.k (.d (.int .i64 2))), (.k (.d (.int .i64 1)))]⟩,
    ⟨(some 91), (some (89, true)), .call 11 [(.t 90)]⟩,
    ⟨(some 92), none, .pick (.t 89) (.t 91) (.k (.d (.bool false)))⟩,
    ⟨(some 93), none, .mov (.t 92)⟩,
    ⟨(some 94), (some (93, true)), .call 24 [(.k (.d (.int .i64 1))), (.k (.d (.int .i64 2))), (.k (.d (.int .i64 1))), (.k (.d (.int .i64 1)))]⟩,
    ⟨(some 95), (some (93, true)), .call 11 [(.t 94)]⟩,
    ⟨(some 96), (some (93, true)), .inv .not (.t 95)⟩,
    ⟨(some 97), none, .pick (.t 93) (.t 96) (.k (.d (.bool false)))⟩,
    ⟨(some 0), none, .mov (.t 97)⟩])
  .ret)))))))
def rs10 : List RV := [.tmp 0]
theorem ok10 : okF Try.prog 10 = true := by kernel_rfl
theorem cc10 : cCode Try.prog Try.f10.ntmps (Try.f10.body.getD .skip) = some c10 := by kernel_rfl
theorem cr10 : cRess Try.prog Try.f10.results.toList = some rs10 := by kernel_rfl
theorem pure10 {args : List V} {res : V} (hlen : args.length ≤ 98) (hna : namesL args = []) (hnr : res.names = []) (h : ∀ c : Ctx, c.P = Try.prog → c.fn = [] → vcC c c10 ⟨initE 0 args, [], []⟩ (RetK c rs10 res [])) : Ctr Try.prog 10 args [] res [] [] :=
  ctr_pure Try.func10 ok10 rfl cc10 cr10 Try.ntmps10 hlen hna hnr h
theorem own10 {args : List V} {ins outs : List (Nat × Own)} {res : V} {new : List Nat} (hlen : args.length ≤ 98) (hf : ctrB args ins res outs new = true) (h : ∀ c : Ctx, c.P = Try.prog → c.fn = namesL args ++ ownNames ins → vcC c c10 ⟨initE 0 args, ins, namesL args ++ ownNames ins⟩ (RetK c rs10 res outs)) : Ctr Try.prog 10 args ins res outs new :=
  ctr_own Try.func10 ok10 rfl cc10 cr10 Try.ntmps10 hlen hf h

/-- bordereau/post.Right -/
def c11 : C :=
  (.seq (.reg [⟨(some 1), none, .box 24 (.t 0)⟩,
    ⟨(some 2), none, .mov (.k (.d (.bool false)))⟩])
  (.seq (.reg [⟨(some 6), none, .load 3 true (.t 1)⟩,
    ⟨(some 7), none, .call 25 [(.t 6)]⟩,
    ⟨(some 5), none, .mov (.t 7)⟩,
    ⟨(some 8), none, .ext 0 (.t 5)⟩,
    ⟨(some 9), none, .ext 1 (.t 5)⟩,
    ⟨(some 3), none, .mov (.t 8)⟩,
    ⟨(some 4), none, .mov (.t 9)⟩])
  (.seq (.reg [⟨(some 10), none, .mov (.t 4)⟩,
    ⟨(some 11), none, .mov (.t 10)⟩,
    ⟨(some 12), (some (11, true)), .mov (.t 3)⟩,
    ⟨(some 13), (some (11, true)), .bin .eql (.t 12) (.k (.d (.int .i64 0)))⟩,
    ⟨(some 14), none, .pick (.t 11) (.t 13) (.k (.d (.bool false)))⟩,
    ⟨(some 2), none, .mov (.t 14)⟩])
  .ret)))
def rs11 : List RV := [.tmp 2]
theorem ok11 : okF Try.prog 11 = true := by kernel_rfl
theorem cc11 : cCode Try.prog Try.f11.ntmps (Try.f11.body.getD .skip) = some c11 := by kernel_rfl
theorem cr11 : cRess Try.prog Try.f11.results.toList = some rs11 := by kernel_rfl
theorem pure11 {args : List V} {res : V} (hlen : args.length ≤ 15) (hna : namesL args = []) (hnr : res.names = []) (h : ∀ c : Ctx, c.P = Try.prog → c.fn = [] → vcC c c11 ⟨initE 0 args, [], []⟩ (RetK c rs11 res [])) : Ctr Try.prog 11 args [] res [] [] :=
  ctr_pure Try.func11 ok11 rfl cc11 cr11 Try.ntmps11 hlen hna hnr h
theorem own11 {args : List V} {ins outs : List (Nat × Own)} {res : V} {new : List Nat} (hlen : args.length ≤ 15) (hf : ctrB args ins res outs new = true) (h : ∀ c : Ctx, c.P = Try.prog → c.fn = namesL args ++ ownNames ins → vcC c c11 ⟨initE 0 args, ins, namesL args ++ ownNames ins⟩ (RetK c rs11 res outs)) : Ctr Try.prog 11 args ins res outs new :=
  ctr_own Try.func11 ok11 rfl cc11 cr11 Try.ntmps11 hlen hf h

/-- bordereau/bordereauref05.Right -/
def c12 : C :=
  (.seq (.reg [⟨(some 1), none, .box 24 (.t 0)⟩,
    ⟨(some 2), none, .mov (.k (.d (.bool false)))⟩])
  (.seq (.reg [⟨(some 3), none, .load 3 true (.t 1)⟩,
    ⟨(some 4), none, .call 26 [(.t 3)]⟩,
    ⟨(some 5), none, .mov (.t 4)⟩,
    ⟨(some 6), (some (5, true)), .load 3 true (.t 1)⟩,
    ⟨(some 7), (some (5, true)), .call 27 [(.t 6)]⟩,
    ⟨(some 8), (some (5, true)), .bin .eql (.t 7) (.k (.d (.int .i64 0)))⟩,
    ⟨(some 9), none, .pick (.t 5) (.t 8) (.k (.d (.bool false)))⟩,
    ⟨(some 2), none, .mov (.t 9)⟩])
  .ret))
def rs12 : List RV := [.tmp 2]
theorem ok12 : okF Try.prog 12 = true := by kernel_rfl
theorem cc12 : cCode Try.prog Try.f12.ntmps (Try.f12.body.getD .skip) = some c12 := by kernel_rfl
theorem cr12 : cRess Try.prog Try.f12.results.toList = some rs12 := by kernel_rfl
theorem pure12 {args : List V} {res : V} (hlen : args.length ≤ 10) (hna : namesL args = []) (hnr : res.names = []) (h : ∀ c : Ctx, c.P = Try.prog → c.fn = [] → vcC c c12 ⟨initE 0 args, [], []⟩ (RetK c rs12 res [])) : Ctr Try.prog 12 args [] res [] [] :=
  ctr_pure Try.func12 ok12 rfl cc12 cr12 Try.ntmps12 hlen hna hnr h
theorem own12 {args : List V} {ins outs : List (Nat × Own)} {res : V} {new : List Nat} (hlen : args.length ≤ 10) (hf : ctrB args ins res outs new = true) (h : ∀ c : Ctx, c.P = Try.prog → c.fn = namesL args ++ ownNames ins → vcC c c12 ⟨initE 0 args, ins, namesL args ++ ownNames ins⟩ (RetK c rs12 res outs)) : Ctr Try.prog 12 args ins res outs new :=
  ctr_own Try.func12 ok12 rfl cc12 cr12 Try.ntmps12 hlen hf h

/-- bordereau/bordereaulaw05.few -/
def c13 : C :=
  (.seq (.reg [⟨(some 2), none, .mov (.k (.d (.bool false)))⟩])
  (.seq (.reg [⟨(some 3), none, .mov (.k (.d (.int .i64 0)))⟩])
  (.seq (.seq (.reg [⟨(some 6), none, .mov (.t 0)⟩,
    ⟨(some 7), none, .len (.t 6)⟩,
    ⟨(some 8), none, .mov (.k (.d (.int .i64 0)))⟩])
  (.block 0 (.loop (.seq (.reg [⟨(some 9), none, .bin .lss (.t 8) (.t 7)⟩])
      (.seq (.cond (.t 9) .skip
      (.exit 0))
      (.seq (.block 1 (.seq (.reg [⟨(some 10), none, .iadr 3 (.t 6) (.t 8)⟩,
          ⟨(some 11), none, .load 3 true (.t 10)⟩,
          ⟨(some 5), none, .alloc 24 [.d (.int .i64 0), .d (.int .i64 0), .d (.sl true 0 0 fun _ => [])]⟩,
          ⟨none, none, .store 3 (.t 5) (.t 11)⟩])
        (.reg [⟨(some 12), none, .mov (.t 3)⟩,
          ⟨(some 13), none, .fadr 2 (.t 5)⟩,
          ⟨(some 14), none, .load 1 false (.t 13)⟩,
          ⟨(some 15), none, .len (.t 14)⟩,
          ⟨(some 16), none, .bin .add (.t 12) (.t 15)⟩,
          ⟨(some 3), none, .mov (.t 16)⟩])))
      (.reg [⟨(some 17), none, .bin .add (.t 8) (.k (.d (.int .i64 1)))⟩,
        ⟨(some 8), none, .mov (.t 17)⟩])))))))
  (.seq (.reg [⟨(some 18), none, .mov (.t 0)⟩,
    ⟨(some 19), none, .len (.t 18)⟩,
    ⟨(some 20), none, .bin .leq (.t 19) (.k (.d (.int .i64 200)))⟩,
    ⟨(some 21), none, .mov (.t 20)⟩,
    ⟨(some 22), (some (21, true)), .mov (.t 3)⟩,
    ⟨(some 23), (some (21, true)), .bin .leq (.t 22) (.k (.d (.int .i64 2000)))⟩,
    ⟨(some 24), none, .pick (.t 21) (.t 23) (.k (.d (.bool false)))⟩,
    ⟨(some 2), none, .mov (.t 24)⟩])
  .ret))))
def rs13 : List RV := [.tmp 2]
theorem ok13 : okF Try.prog 13 = true := by kernel_rfl
theorem cc13 : cCode Try.prog Try.f13.ntmps (Try.f13.body.getD .skip) = some c13 := by kernel_rfl
theorem cr13 : cRess Try.prog Try.f13.results.toList = some rs13 := by kernel_rfl
theorem pure13 {args : List V} {res : V} (hlen : args.length ≤ 25) (hna : namesL args = []) (hnr : res.names = []) (h : ∀ c : Ctx, c.P = Try.prog → c.fn = [] → vcC c c13 ⟨initE 0 args, [], []⟩ (RetK c rs13 res [])) : Ctr Try.prog 13 args [] res [] [] :=
  ctr_pure Try.func13 ok13 rfl cc13 cr13 Try.ntmps13 hlen hna hnr h
theorem own13 {args : List V} {ins outs : List (Nat × Own)} {res : V} {new : List Nat} (hlen : args.length ≤ 25) (hf : ctrB args ins res outs new = true) (h : ∀ c : Ctx, c.P = Try.prog → c.fn = namesL args ++ ownNames ins → vcC c c13 ⟨initE 0 args, ins, namesL args ++ ownNames ins⟩ (RetK c rs13 res outs)) : Ctr Try.prog 13 args ins res outs new :=
  ctr_own Try.func13 ok13 rfl cc13 cr13 Try.ntmps13 hlen hf h

/-- bordereau/post.Balance -/
def c14 : C :=
  (.seq (.reg [⟨(some 3), none, .box 29 (.t 0)⟩,
    ⟨(some 5), none, .box 3 (.t 2)⟩,
    ⟨(some 6), none, .mov (.k (.d (.int .i64 0)))⟩])
  (.seq (.reg [⟨(some 7), none, .load 1 true (.t 3)⟩,
    ⟨(some 8), none, .mov (.t 1)⟩,
    ⟨(some 9), none, .mkfn (.func 29) [] [(.t 5)]⟩,
    ⟨(some 10), none, .call 28 [(.t 7), (.t 8), (.t 9)]⟩,
    ⟨(some 6), none, .mov (.t 10)⟩])
  .ret))
def rs14 : List RV := [.tmp 6]
theorem ok14 : okF Try.prog 14 = true := by kernel_rfl
theorem cc14 : cCode Try.prog Try.f14.ntmps (Try.f14.body.getD .skip) = some c14 := by kernel_rfl
theorem cr14 : cRess Try.prog Try.f14.results.toList = some rs14 := by kernel_rfl
theorem pure14 {args : List V} {res : V} (hlen : args.length ≤ 11) (hna : namesL args = []) (hnr : res.names = []) (h : ∀ c : Ctx, c.P = Try.prog → c.fn = [] → vcC c c14 ⟨initE 0 args, [], []⟩ (RetK c rs14 res [])) : Ctr Try.prog 14 args [] res [] [] :=
  ctr_pure Try.func14 ok14 rfl cc14 cr14 Try.ntmps14 hlen hna hnr h
theorem own14 {args : List V} {ins outs : List (Nat × Own)} {res : V} {new : List Nat} (hlen : args.length ≤ 11) (hf : ctrB args ins res outs new = true) (h : ∀ c : Ctx, c.P = Try.prog → c.fn = namesL args ++ ownNames ins → vcC c c14 ⟨initE 0 args, ins, namesL args ++ ownNames ins⟩ (RetK c rs14 res outs)) : Ctr Try.prog 14 args ins res outs new :=
  ctr_own Try.func14 ok14 rfl cc14 cr14 Try.ntmps14 hlen hf h

/-- bordereau/bordereauref05.Balance -/
def c15 : C :=
  (.seq (.reg [⟨(some 3), none, .box 29 (.t 0)⟩,
    ⟨(some 6), none, .mov (.k (.d (.int .i64 0)))⟩])
  (.seq (.reg [⟨(some 7), none, .mov (.k (.d (.int .i64 0)))⟩])
  (.seq (.seq (.reg [⟨(some 8), none, .mov (.k (.d (.int .i64 0)))⟩])
  (.block 0 (.loop (.seq (.seq (.reg [⟨(some 9), none, .mov (.t 8)⟩,
        ⟨(some 10), none, .fadr 0 (.t 3)⟩,
        ⟨(some 11), none, .load 1 false (.t 10)⟩,
        ⟨(some 12), none, .len (.t 11)⟩,
        ⟨(some 13), none, .bin .lss (.t 9) (.t 12)⟩])
      (.cond (.t 13) .skip
      (.exit 0)))
      (.seq (.block 1 (.seq (.reg [⟨(some 16), none, .fadr 0 (.t 3)⟩,
          ⟨(some 17), none, .load 1 false (.t 16)⟩,
          ⟨(some 18), none, .mov (.t 8)⟩,
          ⟨(some 19), none, .iadr 3 (.t 17) (.t 18)⟩,
          ⟨(some 20), none, .fadr 0 (.t 19)⟩,
          ⟨(some 21), none, .load 1 false (.t 20)⟩,
          ⟨(some 22), none, .mov (.t 2)⟩,
          ⟨(some 23), none, .bin .leq (.t 21) (.t 22)⟩])
        (.cond (.t 23) (.reg [⟨(some 24), none, .mov (.t 7)⟩,
            ⟨(some 25), none, .fadr 0 (.t 3)⟩,
            ⟨(some 26), none, .load 1 false (.t 25)⟩,
            ⟨(some 27), none, .mov (.t 8)⟩,
            ⟨(some 28), none, .iadr 3 (.t 26) (.t 27)⟩,
            ⟨(some 29), none, .load 3 true (.t 28)⟩,
            ⟨(some 30), none, .mov (.t 1)⟩,
            ⟨(some 31), none, .call 30 [(.t 29), (.t 30)]⟩,
            ⟨(some 32), none, .bin .add (.t 24) (.t 31)⟩,
            ⟨(some 7), none, .mov (.t 32)⟩])
        .skip)))
      (.reg [⟨(some 14), none, .mov (.t 8)⟩,
        ⟨(some 15), none, .bin .add (.t 14) (.k (.d (.int .i64 1)))⟩,
        ⟨(some 8), none, .mov (.t 15)⟩]))))))
  (.seq (.reg [⟨(some 33), none, .mov (.t 7)⟩,
    ⟨(some 6), none, .mov (.t 33)⟩])
  .ret))))
def rs15 : List RV := [.tmp 6]
theorem ok15 : okF Try.prog 15 = true := by kernel_rfl
theorem cc15 : cCode Try.prog Try.f15.ntmps (Try.f15.body.getD .skip) = some c15 := by kernel_rfl
theorem cr15 : cRess Try.prog Try.f15.results.toList = some rs15 := by kernel_rfl
theorem pure15 {args : List V} {res : V} (hlen : args.length ≤ 34) (hna : namesL args = []) (hnr : res.names = []) (h : ∀ c : Ctx, c.P = Try.prog → c.fn = [] → vcC c c15 ⟨initE 0 args, [], []⟩ (RetK c rs15 res [])) : Ctr Try.prog 15 args [] res [] [] :=
  ctr_pure Try.func15 ok15 rfl cc15 cr15 Try.ntmps15 hlen hna hnr h
theorem own15 {args : List V} {ins outs : List (Nat × Own)} {res : V} {new : List Nat} (hlen : args.length ≤ 34) (hf : ctrB args ins res outs new = true) (h : ∀ c : Ctx, c.P = Try.prog → c.fn = namesL args ++ ownNames ins → vcC c c15 ⟨initE 0 args, ins, namesL args ++ ownNames ins⟩ (RetK c rs15 res outs)) : Ctr Try.prog 15 args ins res outs new :=
  ctr_own Try.func15 ok15 rfl cc15 cr15 Try.ntmps15 hlen hf h

/-- bordereau/post.Turn -/
def c16 : C :=
  (.seq (.reg [⟨(some 3), none, .box 29 (.t 0)⟩,
    ⟨(some 5), none, .box 32 (.t 2)⟩,
    ⟨(some 6), none, .mov (.k (.d (.int .i64 0)))⟩])
  (.seq (.reg [⟨(some 7), none, .load 1 true (.t 3)⟩,
    ⟨(some 8), none, .mov (.t 1)⟩,
    ⟨(some 9), none, .mkfn (.func 31) [] [(.t 5)]⟩,
    ⟨(some 10), none, .call 28 [(.t 7), (.t 8), (.t 9)]⟩,
    ⟨(some 6), none, .mov (.t 10)⟩])
  .ret))
def rs16 : List RV := [.tmp 6]
theorem ok16 : okF Try.prog 16 = true := by kernel_rfl
theorem cc16 : cCode Try.prog Try.f16.ntmps (Try.f16.body.getD .skip) = some c16 := by kernel_rfl
theorem cr16 : cRess Try.prog Try.f16.results.toList = some rs16 := by kernel_rfl
theorem pure16 {args : List V} {res : V} (hlen : args.length ≤ 11) (hna : namesL args = []) (hnr : res.names = []) (h : ∀ c : Ctx, c.P = Try.prog → c.fn = [] → vcC c c16 ⟨initE 0 args, [], []⟩ (RetK c rs16 res [])) : Ctr Try.prog 16 args [] res [] [] :=
  ctr_pure Try.func16 ok16 rfl cc16 cr16 Try.ntmps16 hlen hna hnr h
theorem own16 {args : List V} {ins outs : List (Nat × Own)} {res : V} {new : List Nat} (hlen : args.length ≤ 11) (hf : ctrB args ins res outs new = true) (h : ∀ c : Ctx, c.P = Try.prog → c.fn = namesL args ++ ownNames ins → vcC c c16 ⟨initE 0 args, ins, namesL args ++ ownNames ins⟩ (RetK c rs16 res outs)) : Ctr Try.prog 16 args ins res outs new :=
  ctr_own Try.func16 ok16 rfl cc16 cr16 Try.ntmps16 hlen hf h

/-- bordereau/bordereauref05.Turn -/
def c17 : C :=
  (.seq (.reg [⟨(some 3), none, .box 29 (.t 0)⟩,
    ⟨(some 5), none, .box 32 (.t 2)⟩,
    ⟨(some 6), none, .mov (.k (.d (.int .i64 0)))⟩])
  (.seq (.reg [⟨(some 7), none, .mov (.k (.d (.int .i64 0)))⟩])
  (.seq (.seq (.reg [⟨(some 8), none, .mov (.k (.d (.int .i64 0)))⟩])
  (.block 0 (.loop (.seq (.seq (.reg [⟨(some 9), none, .mov (.t 8)⟩,
        ⟨(some 10), none, .fadr 0 (.t 3)⟩,
        ⟨(some 11), none, .load 1 false (.t 10)⟩,
        ⟨(some 12), none, .len (.t 11)⟩,
        ⟨(some 13), none, .bin .lss (.t 9) (.t 12)⟩])
      (.cond (.t 13) .skip
      (.exit 0)))
      (.seq (.block 1 (.seq (.drw [0, 0, 2, 0, 14, 30, 62, 127]
         [⟨(some 16), none, .load 2 true (.t 5)⟩,
          ⟨(some 17), none, .fadr 0 (.t 3)⟩,
          ⟨(some 18), none, .load 1 false (.t 17)⟩,
          ⟨(some 19), none, .mov (.t 8)⟩,
          ⟨(some 20), none, .iadr 3 (.t 18) (.t 19)⟩,
          ⟨(some 21), none, .fadr 0 (.t 20)⟩,
          ⟨(some 22), none, .load 1 false (.t 21)⟩,
          ⟨(some 23), none, .call 33 [(.t 16), (.t 22)]⟩])
        (.cond (.t 23) (.reg [⟨(some 24), none, .mov (.t 7)⟩,
            ⟨(some 25), none, .fadr 0 (.t 3)⟩,
            ⟨(some 26), none, .load 1 false (.t 25)⟩,
            ⟨(some 27), none, .mov (.t 8)⟩,
            ⟨(some 28), none, .iadr 3 (.t 26) (.t 27)⟩,
            ⟨(some 29), none, .load 3 true (.t 28)⟩,
            ⟨(some 30), none, .mov (.t 1)⟩,
            ⟨(some 31), none, .call 30 [(.t 29), (.t 30)]⟩,
            ⟨(some 32), none, .bin .add (.t 24) (.t 31)⟩,
            ⟨(some 7), none, .mov (.t 32)⟩])
        .skip)))
      (.reg [⟨(some 14), none, .mov (.t 8)⟩,
        ⟨(some 15), none, .bin .add (.t 14) (.k (.d (.int .i64 1)))⟩,
        ⟨(some 8), none, .mov (.t 15)⟩]))))))
  (.seq (.reg [⟨(some 33), none, .mov (.t 7)⟩,
    ⟨(some 6), none, .mov (.t 33)⟩])
  .ret))))
def rs17 : List RV := [.tmp 6]
theorem ok17 : okF Try.prog 17 = true := by kernel_rfl
theorem cc17 : cCode Try.prog Try.f17.ntmps (Try.f17.body.getD .skip) = some c17 := by kernel_rfl
theorem cr17 : cRess Try.prog Try.f17.results.toList = some rs17 := by kernel_rfl
theorem pure17 {args : List V} {res : V} (hlen : args.length ≤ 34) (hna : namesL args = []) (hnr : res.names = []) (h : ∀ c : Ctx, c.P = Try.prog → c.fn = [] → vcC c c17 ⟨initE 0 args, [], []⟩ (RetK c rs17 res [])) : Ctr Try.prog 17 args [] res [] [] :=
  ctr_pure Try.func17 ok17 rfl cc17 cr17 Try.ntmps17 hlen hna hnr h
theorem own17 {args : List V} {ins outs : List (Nat × Own)} {res : V} {new : List Nat} (hlen : args.length ≤ 34) (hf : ctrB args ins res outs new = true) (h : ∀ c : Ctx, c.P = Try.prog → c.fn = namesL args ++ ownNames ins → vcC c c17 ⟨initE 0 args, ins, namesL args ++ ownNames ins⟩ (RetK c rs17 res outs)) : Ctr Try.prog 17 args ins res outs new :=
  ctr_own Try.func17 ok17 rfl cc17 cr17 Try.ntmps17 hlen hf h

/-- bordereau/post.Trial -/
def c18 : C :=
  (.seq (.reg [⟨(some 2), none, .box 29 (.t 0)⟩,
    ⟨(some 4), none, .alloc 36 [.d (.int .i64 0), .d (.int .i64 0), .d (.int .i64 0), .d (.int .i64 0), .d (.int .i64 0), .d (.int .i64 0), .d (.int .i64 0), .d (.int .i64 0), .d (.int .i64 0), .d (.int .i64 0)]⟩])
  (.seq (.reg [⟨(some 5), none, .alloc 36 [.d (.int .i64 0), .d (.int .i64 0), .d (.int .i64 0), .d (.int .i64 0), .d (.int .i64 0), .d (.int .i64 0), .d (.int .i64 0), .d (.int .i64 0), .d (.int .i64 0), .d (.int .i64 0)]⟩])
  (.seq (.seq (.reg [⟨(some 7), none, .mov (.k (.d (.int .i64 0)))⟩])
  (.block 0 (.loop (.seq (.reg [⟨(some 8), none, .bin .lss (.t 7) (.k (.d (.int .i64 9)))⟩])
      (.seq (.cond (.t 8) .skip
      (.exit 0))
      (.seq (.block 1 (.seq (.reg [⟨(some 9), none, .mov (.t 7)⟩,
          ⟨(some 6), none, .mov (.t 9)⟩])
        (.reg [⟨(some 10), none, .mov (.t 6)⟩,
          ⟨(some 11), none, .bin .add (.t 10) (.k (.d (.int .i64 1)))⟩,
          ⟨(some 12), none, .load 1 true (.t 2)⟩,
          ⟨(some 13), none, .mov (.t 6)⟩,
          ⟨(some 14), none, .bin .add (.t 13) (.k (.d (.int .i64 1)))⟩,
          ⟨(some 15), none, .mov (.t 1)⟩,
          ⟨(some 16), none, .call 14 [(.t 12), (.t 14), (.t 15)]⟩,
          ⟨(some 17), none, .aadr 1 10 (.t 5) (.t 11)⟩,
          ⟨none, none, .store 1 (.t 17) (.t 16)⟩])))
      (.reg [⟨(some 18), none, .bin .add (.t 7) (.k (.d (.int .i64 1)))⟩,
        ⟨(some 7), none, .mov (.t 18)⟩])))))))
  (.seq (.reg [⟨(some 19), none, .load 10 true (.t 5)⟩,
    ⟨none, none, .store 10 (.t 4) (.t 19)⟩])
  .ret))))
def rs18 : List RV := [.cell 4 10 true]
theorem ok18 : okF Try.prog 18 = true := by kernel_rfl
theorem cc18 : cCode Try.prog Try.f18.ntmps (Try.f18.body.getD .skip) = some c18 := by kernel_rfl
theorem cr18 : cRess Try.prog Try.f18.results.toList = some rs18 := by kernel_rfl
theorem pure18 {args : List V} {res : V} (hlen : args.length ≤ 20) (hna : namesL args = []) (hnr : res.names = []) (h : ∀ c : Ctx, c.P = Try.prog → c.fn = [] → vcC c c18 ⟨initE 0 args, [], []⟩ (RetK c rs18 res [])) : Ctr Try.prog 18 args [] res [] [] :=
  ctr_pure Try.func18 ok18 rfl cc18 cr18 Try.ntmps18 hlen hna hnr h
theorem own18 {args : List V} {ins outs : List (Nat × Own)} {res : V} {new : List Nat} (hlen : args.length ≤ 20) (hf : ctrB args ins res outs new = true) (h : ∀ c : Ctx, c.P = Try.prog → c.fn = namesL args ++ ownNames ins → vcC c c18 ⟨initE 0 args, ins, namesL args ++ ownNames ins⟩ (RetK c rs18 res outs)) : Ctr Try.prog 18 args ins res outs new :=
  ctr_own Try.func18 ok18 rfl cc18 cr18 Try.ntmps18 hlen hf h

/-- bordereau/bordereauref05.Trial -/
def c19 : C :=
  (.seq (.reg [⟨(some 2), none, .box 29 (.t 0)⟩,
    ⟨(some 4), none, .alloc 36 [.d (.int .i64 0), .d (.int .i64 0), .d (.int .i64 0), .d (.int .i64 0), .d (.int .i64 0), .d (.int .i64 0), .d (.int .i64 0), .d (.int .i64 0), .d (.int .i64 0), .d (.int .i64 0)]⟩])
  (.seq (.reg [⟨(some 5), none, .alloc 36 [.d (.int .i64 0), .d (.int .i64 0), .d (.int .i64 0), .d (.int .i64 0), .d (.int .i64 0), .d (.int .i64 0), .d (.int .i64 0), .d (.int .i64 0), .d (.int .i64 0), .d (.int .i64 0)]⟩])
  (.seq (.seq (.reg [⟨(some 6), none, .mov (.k (.d (.int .i64 1)))⟩])
  (.block 0 (.loop (.seq (.seq (.reg [⟨(some 7), none, .mov (.t 6)⟩,
        ⟨(some 8), none, .bin .leq (.t 7) (.k (.d (.int .i64 9)))⟩])
      (.cond (.t 8) .skip
      (.exit 0)))
      (.seq (.block 1 (.reg [⟨(some 11), none, .mov (.t 6)⟩,
          ⟨(some 12), none, .load 1 true (.t 2)⟩,
          ⟨(some 13), none, .mov (.t 6)⟩,
          ⟨(some 14), none, .mov (.t 1)⟩,
          ⟨(some 15), none, .call 15 [(.t 12), (.t 13), (.t 14)]⟩,
          ⟨(some 16), none, .aadr 1 10 (.t 5) (.t 11)⟩,
          ⟨none, none, .store 1 (.t 16) (.t 15)⟩]))
      (.reg [⟨(some 9), none, .mov (.t 6)⟩,
        ⟨(some 10), none, .bin .add (.t 9) (.k (.d (.int .i64 1)))⟩,
        ⟨(some 6), none, .mov (.t 10)⟩]))))))
  (.seq (.reg [⟨(some 17), none, .load 10 true (.t 5)⟩,
    ⟨none, none, .store 10 (.t 4) (.t 17)⟩])
  .ret))))
def rs19 : List RV := [.cell 4 10 true]
theorem ok19 : okF Try.prog 19 = true := by kernel_rfl
theorem cc19 : cCode Try.prog Try.f19.ntmps (Try.f19.body.getD .skip) = some c19 := by kernel_rfl
theorem cr19 : cRess Try.prog Try.f19.results.toList = some rs19 := by kernel_rfl
theorem pure19 {args : List V} {res : V} (hlen : args.length ≤ 18) (hna : namesL args = []) (hnr : res.names = []) (h : ∀ c : Ctx, c.P = Try.prog → c.fn = [] → vcC c c19 ⟨initE 0 args, [], []⟩ (RetK c rs19 res [])) : Ctr Try.prog 19 args [] res [] [] :=
  ctr_pure Try.func19 ok19 rfl cc19 cr19 Try.ntmps19 hlen hna hnr h
theorem own19 {args : List V} {ins outs : List (Nat × Own)} {res : V} {new : List Nat} (hlen : args.length ≤ 18) (hf : ctrB args ins res outs new = true) (h : ∀ c : Ctx, c.P = Try.prog → c.fn = namesL args ++ ownNames ins → vcC c c19 ⟨initE 0 args, ins, namesL args ++ ownNames ins⟩ (RetK c rs19 res outs)) : Ctr Try.prog 19 args ins res outs new :=
  ctr_own Try.func19 ok19 rfl cc19 cr19 Try.ntmps19 hlen hf h

/-- bordereau/bordereaulaw05.Made -/
def c20 : C :=
  (.seq (.reg [⟨(some 2), none, .alloc 29 [.d (.sl true 0 0 fun _ => [])]⟩])
  (.seq (.reg [⟨(some 3), none, .alloc 29 [.d (.sl true 0 0 fun _ => [])]⟩])
  (.seq (.seq (.reg [⟨(some 8), none, .mov (.t 0)⟩,
    ⟨(some 9), none, .len (.t 8)⟩,
    ⟨(some 10), none, .mov (.k (.d (.int .i64 0)))⟩])
  (.block 0 (.loop (.seq (.reg [⟨(some 11), none, .bin .lss (.t 10) (.t 9)⟩])
      (.seq (.cond (.t 11) .skip
      (.exit 0))
      (.seq (.block 1 (.seq (.reg [⟨(some 12), none, .iadr 3 (.t 8) (.t 10)⟩,
          ⟨(some 13), none, .load 3 true (.t 12)⟩,
          ⟨(some 5), none, .alloc 24 [.d (.int .i64 0), .d (.int .i64 0), .d (.sl true 0 0 fun _ => [])]⟩,
          ⟨none, none, .store 3 (.t 5) (.t 13)⟩])
        (.seq (.reg [⟨(some 15), none, .load 1 true (.t 3)⟩,
          ⟨(some 16), none, .load 3 true (.t 5)⟩,
          ⟨(some 17), none, .call 21 [(.t 15), (.t 16)]⟩,
          ⟨(some 14), none, .mov (.t 17)⟩,
          ⟨(some 18), none, .ext 0 (.t 14)⟩,
          ⟨(some 19), none, .ext 1 (.t 14)⟩,
          ⟨(some 6), none, .alloc 29 [.d (.sl true 0 0 fun _ => [])]⟩,
          ⟨none, none, .store 1 (.t 6) (.t 18)⟩,
          ⟨(some 7), none, .mov (.t 19)⟩])
        (.seq (.reg [⟨(some 20), none, .mov (.t 7)⟩,
          ⟨(some 21), none, .bin .eql (.t 20) (.k (.d (.int .i64 0)))⟩])
        (.cond (.t 21) (.reg [⟨(some 22), none, .load 1 true (.t 6)⟩,
            ⟨none, none, .store 1 (.t 3) (.t 22)⟩])
        .skip)))))
      (.reg [⟨(some 23), none, .bin .add (.t 10) (.k (.d (.int .i64 1)))⟩,
        ⟨(some 10), none, .mov (.t 23)⟩])))))))
  (.seq (.reg [⟨(some 24), none, .load 1 true (.t 3)⟩,
    ⟨none, none, .store 1 (.t 2) (.t 24)⟩])
  .ret))))
def rs20 : List RV := [.cell 2 1 true]
theorem ok20 : okF Try.prog 20 = true := by kernel_rfl
theorem cc20 : cCode Try.prog Try.f20.ntmps (Try.f20.body.getD .skip) = some c20 := by kernel_rfl
theorem cr20 : cRess Try.prog Try.f20.results.toList = some rs20 := by kernel_rfl
theorem pure20 {args : List V} {res : V} (hlen : args.length ≤ 25) (hna : namesL args = []) (hnr : res.names = []) (h : ∀ c : Ctx, c.P = Try.prog → c.fn = [] → vcC c c20 ⟨initE 0 args, [], []⟩ (RetK c rs20 res [])) : Ctr Try.prog 20 args [] res [] [] :=
  ctr_pure Try.func20 ok20 rfl cc20 cr20 Try.ntmps20 hlen hna hnr h
theorem own20 {args : List V} {ins outs : List (Nat × Own)} {res : V} {new : List Nat} (hlen : args.length ≤ 25) (hf : ctrB args ins res outs new = true) (h : ∀ c : Ctx, c.P = Try.prog → c.fn = namesL args ++ ownNames ins → vcC c c20 ⟨initE 0 args, ins, namesL args ++ ownNames ins⟩ (RetK c rs20 res outs)) : Ctr Try.prog 20 args ins res outs new :=
  ctr_own Try.func20 ok20 rfl cc20 cr20 Try.ntmps20 hlen hf h

/-- bordereau/post.Put -/
def c21 : C :=
  (.seq (.reg [⟨(some 2), none, .box 29 (.t 0)⟩,
    ⟨(some 3), none, .box 24 (.t 1)⟩,
    ⟨(some 4), none, .alloc 29 [.d (.sl true 0 0 fun _ => [])]⟩,
    ⟨(some 5), none, .mov (.k (.d (.int .i64 0)))⟩])
  (.seq (.reg [⟨(some 10), none, .load 3 true (.t 3)⟩,
    ⟨(some 11), none, .call 25 [(.t 10)]⟩,
    ⟨(some 9), none, .mov (.t 11)⟩,
    ⟨(some 12), none, .ext 0 (.t 9)⟩,
    ⟨(some 13), none, .ext 1 (.t 9)⟩,
    ⟨(some 6), none, .mov (.t 12)⟩,
    ⟨(some 7), none, .mov (.t 13)⟩])
  (.seq (.reg [⟨(some 14), none, .fadr 0 (.t 2)⟩,
    ⟨(some 15), none, .load 1 false (.t 14)⟩,
    ⟨(some 16), none, .len (.t 15)⟩,
    ⟨(some 8), none, .mov (.t 16)⟩])
  (.seq (.block 0 (.seq (.reg [⟨(some 18), none, .mov (.t 7)⟩,
      ⟨(some 19), none, .inv .not (.t 18)⟩,
      ⟨(some 17), none, .mov (.t 19)⟩])
    (.cond (.t 17) (.seq (.reg [⟨(some 20), none, .build [.d (.sl true 0 0 fun _ => [])] []⟩,
        ⟨none, none, .store 1 (.t 4) (.t 20)⟩,
        ⟨(some 5), none, .mov (.k (.d (.int .i64 1)))⟩])
      .ret)
    (.seq (.reg [⟨(some 22), none, .mov (.t 6)⟩,
        ⟨(some 23), none, .bin .neq (.t 22) (.k (.d (.int .i64 0)))⟩,
        ⟨(some 21), none, .mov (.t 23)⟩])
      (.cond (.t 21) (.seq (.reg [⟨(some 24), none, .build [.d (.sl true 0 0 fun _ => [])] []⟩,
          ⟨none, none, .store 1 (.t 4) (.t 24)⟩,
          ⟨(some 5), none, .mov (.k (.d (.int .i64 13)))⟩])
        .ret)
      (.seq (.reg [⟨(some 26), none, .mov (.t 8)⟩,
          ⟨(some 27), none, .bin .geq (.t 26) (.k (.d (.int .i64 2000)))⟩,
          ⟨(some 25), none, .mov (.t 27)⟩])
        (.cond (.t 25) (.seq (.reg [⟨(some 28), none, .build [.d (.sl true 0 0 fun _ => [])] []⟩,
            ⟨none, none, .store 1 (.t 4) (.t 28)⟩,
            ⟨(some 5), none, .mov (.k (.d (.int .i64 2)))⟩])
          .ret)
        (.seq (.drw [0, 1, 3, 7, 15, 7, 39, 7, 135, 487, 999, 2023, 4095, 8191, 16383]
           [⟨(some 30), none, .mov (.t 8)⟩,
            ⟨(some 31), none, .bin .gtr (.t 30) (.k (.d (.int .i64 0)))⟩,
            ⟨(some 32), none, .mov (.t 31)⟩,
            ⟨(some 33), (some (32, true)), .fadr 0 (.t 3)⟩,
            ⟨(some 34), (some (32, true)), .load 1 false (.t 33)⟩,
            ⟨(some 35), (some (32, true)), .fadr 0 (.t 2)⟩,
            ⟨(some 36), (some (32, true)), .load 1 false (.t 35)⟩,
            ⟨(some 37), (some (32, true)), .mov (.t 8)⟩,
            ⟨(some 38), (some (32, true)), .bin .sub (.t 37) (.k (.d (.int .i64 1)))⟩,
            ⟨(some 39), (some (32, true)), .iadr 3 (.t 36) (.t 38)⟩,
            ⟨(some 40), (some (32, true)), .fadr 0 (.t 39)⟩,
            ⟨(some 41), (some (32, true)), .load 1 false (.t 40)⟩,
            ⟨(some 42), (some (32, true)), .bin .lss (.t 34) (.t 41)⟩,
            ⟨(some 43), none, .pick (.t 32) (.t 42) (.k (.d (.bool false)))⟩,
            ⟨(some 29), none, .mov (.t 43)⟩])
          (.cond (.t 29) (.seq (.reg [⟨(some 44), none, .build [.d (.sl true 0 0 fun _ => [])] []⟩,
              ⟨none, none, .store 1 (.t 4) (.t 44)⟩,
              ⟨(some 5), none, .mov (.k (.d (.int .i64 4)))⟩])
            .ret)
          .skip)))))))))
  (.seq (.reg [⟨(some 45), none, .fadr 2 (.t 3)⟩,
    ⟨(some 46), none, .load 1 false (.t 45)⟩,
    ⟨(some 47), none, .call 34 [(.t 46)]⟩,
    ⟨(some 48), none, .fadr 2 (.t 3)⟩,
    ⟨none, none, .store 1 (.t 48) (.t 47)⟩])
  (.seq (.drw [0, 1, 0, 0, 15, 0, 32, 127, 255, 511, 1023]
   [⟨(some 49), none, .fadr 0 (.t 2)⟩,
    ⟨(some 50), none, .load 1 false (.t 49)⟩,
    ⟨(some 51), none, .mov (.t 8)⟩,
    ⟨(some 52), none, .mov (.t 8)⟩,
    ⟨(some 53), none, .slc 3 (.t 50) none (some (.t 51)) (some (.t 52))⟩,
    ⟨(some 54), none, .load 3 true (.t 3)⟩,
    ⟨(some 55), none, .bslice 24 3 1 [(.t 54)]⟩,
    ⟨(some 56), none, .app 24 3 40 (.t 53) (.t 55)⟩,
    ⟨(some 57), none, .build [.d (.sl true 0 0 fun _ => [])] [(0, 1, (.t 56))]⟩,
    ⟨none, none, .store 1 (.t 4) (.t 57)⟩,
    ⟨(some 5), none, .mov (.k (.d (.int .i64 0)))⟩])
  .ret))))))
def rs21 : List RV := [.cell 4 1 true, .tmp 5]
theorem ok21 : okF Try.prog 21 = true := by kernel_rfl
theorem cc21 : cCode Try.prog Try.f21.ntmps (Try.f21.body.getD .skip) = some c21 := by kernel_rfl
theorem cr21 : cRess Try.prog Try.f21.results.toList = some rs21 := by kernel_rfl
theorem pure21 {args : List V} {res : V} (hlen : args.length ≤ 58) (hna : namesL args = []) (hnr : res.names = []) (h : ∀ c : Ctx, c.P = Try.prog → c.fn = [] → vcC c c21 ⟨initE 0 args, [], []⟩ (RetK c rs21 res [])) : Ctr Try.prog 21 args [] res [] [] :=
  ctr_pure Try.func21 ok21 rfl cc21 cr21 Try.ntmps21 hlen hna hnr h
theorem own21 {args : List V} {ins outs : List (Nat × Own)} {res : V} {new : List Nat} (hlen : args.length ≤ 58) (hf : ctrB args ins res outs new = true) (h : ∀ c : Ctx, c.P = Try.prog → c.fn = namesL args ++ ownNames ins → vcC c c21 ⟨initE 0 args, ins, namesL args ++ ownNames ins⟩ (RetK c rs21 res outs)) : Ctr Try.prog 21 args ins res outs new :=
  ctr_own Try.func21 ok21 rfl cc21 cr21 Try.ntmps21 hlen hf h

/-- bordereau/bordereauref03.Parts -/
def c22 : C :=
  (.seq (.reg [⟨(some 2), none, .box 32 (.t 0)⟩,
    ⟨(some 4), none, .mov (.k (.d (.sl true 0 0 fun _ => [])))⟩])
  (.seq (.reg [⟨(some 5), none, .mov (.k (.d (.sl true 0 0 fun _ => [])))⟩])
  (.seq (.block 0 (.loop (.seq (.seq (.reg [⟨(some 8), none, .load 2 true (.t 2)⟩,
        ⟨(some 9), none, .call 35 [(.t 8)]⟩,
        ⟨(some 10), none, .bin .gtr (.t 9) (.k (.d (.int .i64 0)))⟩])
      (.cond (.t 10) .skip
      (.exit 0)))
      (.block 1 (.seq (.reg [⟨(some 11), none, .fadr 1 (.t 2)⟩,
          ⟨(some 12), none, .load 1 false (.t 11)⟩,
          ⟨(some 6), none, .mov (.t 12)⟩])
        (.seq (.seq (.reg [⟨(some 7), none, .mov (.k (.d (.int .i64 0)))⟩])
        (.block 2 (.loop (.seq (.seq (.reg [⟨(some 13), none, .mov (.t 7)⟩,
              ⟨(some 14), none, .mov (.t 1)⟩,
              ⟨(some 15), none, .len (.t 14)⟩,
              ⟨(some 16), none, .bin .lss (.t 13) (.t 15)⟩])
            (.cond (.t 16) .skip
            (.exit 2)))
            (.seq (.block 3 (.seq (.drw [0, 0, 3, 7, 0, 16, 63, 127, 255, 255, 1023, 2047, 255, 8191, 16383]
               [⟨(some 19), none, .mov (.t 1)⟩,
                ⟨(some 20), none, .mov (.t 7)⟩,
                ⟨(some 21), none, .iadr 1 (.t 19) (.t 20)⟩,
                ⟨(some 22), none, .load 1 false (.t 21)⟩,
                ⟨(some 23), none, .fadr 0 (.t 2)⟩,
                ⟨(some 24), none, .load 1 false (.t 23)⟩,
                ⟨(some 25), none, .bin .gtr (.t 22) (.t 24)⟩,
                ⟨(some 26), none, .mov (.t 25)⟩,
                ⟨(some 27), (some (26, true)), .mov (.t 1)⟩,
                ⟨(some 28), (some (26, true)), .mov (.t 7)⟩,
                ⟨(some 29), (some (26, true)), .iadr 1 (.t 27) (.t 28)⟩,
                ⟨(some 30), (some (26, true)), .load 1 false (.t 29)⟩,
                ⟨(some 31), (some (26, true)), .mov (.t 6)⟩,
                ⟨(some 32), (some (26, true)), .bin .lss (.t 30) (.t 31)⟩,
                ⟨(some 33), none, .pick (.t 26) (.t 32) (.k (.d (.bool false)))⟩])
              (.cond (.t 33) (.reg [⟨(some 34), none, .mov (.t 1)⟩,
                  ⟨(some 35), none, .mov (.t 7)⟩,
                  ⟨(some 36), none, .iadr 1 (.t 34) (.t 35)⟩,
                  ⟨(some 37), none, .load 1 false (.t 36)⟩,
                  ⟨(some 6), none, .mov (.t 37)⟩])
              .skip)))
            (.reg [⟨(some 17), none, .mov (.t 7)⟩,
              ⟨(some 18), none, .bin .add (.t 17) (.k (.d (.int .i64 1)))⟩,
              ⟨(some 7), none, .mov (.t 18)⟩]))))))
        (.seq (.reg [⟨(some 38), none, .mov (.t 5)⟩,
          ⟨(some 39), none, .fadr 0 (.t 2)⟩,
          ⟨(some 40), none, .load 1 false (.t 39)⟩,
          ⟨(some 41), none, .mov (.t 6)⟩,
          ⟨(some 42), none, .build [.d (.int .i64 0), .d (.int .i64 0)] [(0, 1, (.t 40)), (1, 1, (.t 41))]⟩,
          ⟨(some 43), none, .bslice 32 2 1 [(.t 42)]⟩,
          ⟨(some 44), none, .app 32 2 16 (.t 38) (.t 43)⟩,
          ⟨(some 5), none, .mov (.t 44)⟩])
        (.reg [⟨(some 45), none, .mov (.t 6)⟩,
          ⟨(some 46), none, .fadr 0 (.t 2)⟩,
          ⟨none, none, .store 1 (.t 46) (.t 45)⟩]))))))))
  (.seq (.reg [⟨(some 47), none, .mov (.t 5)⟩,
    ⟨(some 4), none, .mov (.t 47)⟩])
  .ret))))
def rs22 : List RV := [.tmp 4]
theorem ok22 : okF Try.prog 22 = true := by kernel_rfl
theorem cc22 : cCode Try.prog Try.f22.ntmps (Try.f22.body.getD .skip) = some c22 := by kernel_rfl
theorem cr22 : cRess Try.prog Try.f22.results.toList = some rs22 := by kernel_rfl
theorem pure22 {args : List V} {res : V} (hlen : args.length ≤ 48) (hna : namesL args = []) (hnr : res.names = []) (h : ∀ c : Ctx, c.P = Try.prog → c.fn = [] → vcC c c22 ⟨initE 0 args, [], []⟩ (RetK c rs22 res [])) : Ctr Try.prog 22 args [] res [] [] :=
  ctr_pure Try.func22 ok22 rfl cc22 cr22 Try.ntmps22 hlen hna hnr h
theorem own22 {args : List V} {ins outs : List (Nat × Own)} {res : V} {new : List Nat} (hlen : args.length ≤ 48) (hf : ctrB args ins res outs new = true) (h : ∀ c : Ctx, c.P = Try.prog → c.fn = namesL args ++ ownNames ins → vcC c c22 ⟨initE 0 args, ins, namesL args ++ ownNames ins⟩ (RetK c rs22 res outs)) : Ctr Try.prog 22 args ins res outs new :=
  ctr_own Try.func22 ok22 rfl cc22 cr22 Try.ntmps22 hlen hf h

/-- bordereau/span.Many -/
def c23 : C :=
  (.seq (.reg [⟨(some 1), none, .box 32 (.t 0)⟩,
    ⟨(some 2), none, .mov (.k (.d (.int .i64 0)))⟩])
  (.seq (.reg [⟨(some 3), none, .load 2 true (.t 1)⟩,
    ⟨(some 4), none, .call 36 [(.t 3)]⟩,
    ⟨none, none, .store 2 (.t 1) (.t 4)⟩])
  (.seq (.reg [⟨(some 5), none, .fadr 1 (.t 1)⟩,
    ⟨(some 6), none, .load 1 false (.t 5)⟩,
    ⟨(some 7), none, .fadr 0 (.t 1)⟩,
    ⟨(some 8), none, .load 1 false (.t 7)⟩,
    ⟨(some 9), none, .bin .sub (.t 6) (.t 8)⟩,
    ⟨(some 2), none, .mov (.t 9)⟩])
  .ret)))
def rs23 : List RV := [.tmp 2]
theorem ok23 : okF Try.prog 23 = true := by kernel_rfl
theorem cc23 : cCode Try.prog Try.f23.ntmps (Try.f23.body.getD .skip) = some c23 := by kernel_rfl
theorem cr23 : cRess Try.prog Try.f23.results.toList = some rs23 := by kernel_rfl
theorem pure23 {args : List V} {res : V} (hlen : args.length ≤ 10) (hna : namesL args = []) (hnr : res.names = []) (h : ∀ c : Ctx, c.P = Try.prog → c.fn = [] → vcC c c23 ⟨initE 0 args, [], []⟩ (RetK c rs23 res [])) : Ctr Try.prog 23 args [] res [] [] :=
  ctr_pure Try.func23 ok23 rfl cc23 cr23 Try.ntmps23 hlen hna hnr h
theorem own23 {args : List V} {ins outs : List (Nat × Own)} {res : V} {new : List Nat} (hlen : args.length ≤ 10) (hf : ctrB args ins res outs new = true) (h : ∀ c : Ctx, c.P = Try.prog → c.fn = namesL args ++ ownNames ins → vcC c c23 ⟨initE 0 args, ins, namesL args ++ ownNames ins⟩ (RetK c rs23 res outs)) : Ctr Try.prog 23 args ins res outs new :=
  ctr_own Try.func23 ok23 rfl cc23 cr23 Try.ntmps23 hlen hf h

/-- bordereau/bordereaulaw05.two -/
def c24 : C :=
  (.seq (.reg [⟨(some 8), none, .alloc 24 [.d (.int .i64 0), .d (.int .i64 0), .d (.sl true 0 0 fun _ => [])]⟩])
  (.seq (.reg [⟨(some 9), none, .mov (.t 0)⟩,
    ⟨(some 10), none, .mov (.t 1)⟩,
    ⟨(some 11), none, .mov (.t 3)⟩,
    ⟨(some 12), none, .build [.d (.int .i64 0), .d (.int .i64 0)] [(0, 1, (.t 10)), (1, 1, (.t 11))]⟩,
    ⟨(some 13), none, .mov (.t 2)⟩,
    ⟨(some 14), none, .mov (.t 3)⟩,
    ⟨(some 15), none, .inv .neg (.t 14)⟩,
    ⟨(some 16), none, .build [.d (.int .i64 0), .d (.int .i64 0)] [(0, 1, (.t 13)), (1, 1, (.t 15))]⟩,
    ⟨(some 17), none, .bslice 50 2 2 [(.t 12), (.t 16)]⟩,
    ⟨(some 18), none, .build [.d (.int .i64 0), .d (.int .i64 0), .d (.sl true 0 0 fun _ => [])] [(0, 1, (.t 9)), (2, 1, (.t 17))]⟩,
    ⟨none, none, .store 3 (.t 8) (.t 18)⟩])
  .ret))
def rs24 : List RV := [.cell 8 3 true]
theorem ok24 : okF Try.prog 24 = true := by kernel_rfl
theorem cc24 : cCode Try.prog Try.f24.ntmps (Try.f24.body.getD .skip) = some c24 := by kernel_rfl
theorem cr24 : cRess Try.prog Try.f24.results.toList = some rs24 := by kernel_rfl
theorem pure24 {args : List V} {res : V} (hlen : args.length ≤ 19) (hna : namesL args = []) (hnr : res.names = []) (h : ∀ c : Ctx, c.P = Try.prog → c.fn = [] → vcC c c24 ⟨initE 0 args, [], []⟩ (RetK c rs24 res [])) : Ctr Try.prog 24 args [] res [] [] :=
  ctr_pure Try.func24 ok24 rfl cc24 cr24 Try.ntmps24 hlen hna hnr h
theorem own24 {args : List V} {ins outs : List (Nat × Own)} {res : V} {new : List Nat} (hlen : args.length ≤ 19) (hf : ctrB args ins res outs new = true) (h : ∀ c : Ctx, c.P = Try.prog → c.fn = namesL args ++ ownNames ins → vcC c c24 ⟨initE 0 args, ins, namesL args ++ ownNames ins⟩ (RetK c rs24 res outs)) : Ctr Try.prog 24 args ins res outs new :=
  ctr_own Try.func24 ok24 rfl cc24 cr24 Try.ntmps24 hlen hf h

/-- bordereau/post.formed -/
def c25 : C :=
  (.seq (.reg [⟨(some 1), none, .box 24 (.t 0)⟩,
    ⟨(some 2), none, .mov (.k (.d (.int .i64 0)))⟩,
    ⟨(some 3), none, .mov (.k (.d (.bool false)))⟩])
  (.seq (.reg [⟨(some 4), none, .mov (.k (.d (.int .i64 0)))⟩,
    ⟨(some 5), none, .mov (.k (.d (.int .i64 0)))⟩])
  (.seq (.seq (.reg [⟨(some 8), none, .fadr 2 (.t 1)⟩,
    ⟨(some 9), none, .load 1 false (.t 8)⟩,
    ⟨(some 10), none, .len (.t 9)⟩,
    ⟨(some 11), none, .mov (.k (.d (.int .i64 0)))⟩])
  (.block 0 (.loop (.seq (.reg [⟨(some 12), none, .bin .lss (.t 11) (.t 10)⟩])
      (.seq (.cond (.t 12) .skip
      (.exit 0))
      (.seq (.block 1 (.seq (.reg [⟨(some 13), none, .iadr 2 (.t 9) (.t 11)⟩,
          ⟨(some 14), none, .load 2 true (.t 13)⟩,
          ⟨(some 7), none, .alloc 50 [.d (.int .i64 0), .d (.int .i64 0)]⟩,
          ⟨none, none, .store 2 (.t 7) (.t 14)⟩])
        (.seq (.seq (.reg [⟨(some 15), none, .fadr 0 (.t 7)⟩,
          ⟨(some 16), none, .load 1 false (.t 15)⟩,
          ⟨(some 17), none, .mov (.t 5)⟩,
          ⟨(some 18), none, .bin .leq (.t 16) (.t 17)⟩,
          ⟨(some 19), none, .mov (.t 18)⟩,
          ⟨(some 20), (some (19, false)), .fadr 0 (.t 7)⟩,
          ⟨(some 21), (some (19, false)), .load 1 false (.t 20)⟩,
          ⟨(some 22), (some (19, false)), .bin .gtr (.t 21) (.k (.d (.int .i64 9)))⟩,
          ⟨(some 23), none, .pick (.t 19) (.k (.d (.bool true))) (.t 22)⟩,
          ⟨(some 24), none, .mov (.t 23)⟩,
          ⟨(some 25), (some (24, false)), .fadr 1 (.t 7)⟩,
          ⟨(some 26), (some (24, false)), .load 1 false (.t 25)⟩,
          ⟨(some 27), (some (24, false)), .bin .eql (.t 26) (.k (.d (.int .i64 0)))⟩,
          ⟨(some 28), none, .pick (.t 24) (.k (.d (.bool true))) (.t 27)⟩,
          ⟨(some 29), none, .mov (.t 28)⟩,
          ⟨(some 30), (some (29, false)), .fadr 1 (.t 7)⟩,
          ⟨(some 31), (some (29, false)), .load 1 false (.t 30)⟩,
          ⟨(some 32), (some (29, false)), .bin .lss (.t 31) (.k (.d (.int .i64 (-1000000000000000))))⟩,
          ⟨(some 33), none, .pick (.t 29) (.k (.d (.bool true))) (.t 32)⟩,
          ⟨(some 34), none, .mov (.t 33)⟩,
          ⟨(some 35), (some (34, false)), .fadr 1 (.t 7)⟩,
          ⟨(some 36), (some (34, false)), .load 1 false (.t 35)⟩,
          ⟨(some 37), (some (34, false)), .bin .gtr (.t 36) (.k (.d (.int .i64 1000000000000000)))⟩,
          ⟨(some 38), none, .pick (.t 34) (.k (.d (.bool true))) (.t 37)⟩])
        (.cond (.t 38) (.seq (.reg [⟨(some 2), none, .mov (.k (.d (.int .i64 0)))⟩,
            ⟨(some 3), none, .mov (.k (.d (.bool false)))⟩])
          .ret)
        .skip))
        (.drw [0, 0, 2, 7, 0, 16, 15, 127]
         [⟨(some 39), none, .mov (.t 4)⟩,
          ⟨(some 40), none, .fadr 1 (.t 7)⟩,
          ⟨(some 41), none, .load 1 false (.t 40)⟩,
          ⟨(some 42), none, .bin .add (.t 39) (.t 41)⟩,
          ⟨(some 43), none, .fadr 0 (.t 7)⟩,
          ⟨(some 44), none, .load 1 false (.t 43)⟩,
          ⟨(some 4), none, .mov (.t 42)⟩,
          ⟨(some 5), none, .mov (.t 44)⟩]))))
      (.reg [⟨(some 45), none, .bin .add (.t 11) (.k (.d (.int .i64 1)))⟩,
        ⟨(some 11), none, .mov (.t 45)⟩])))))))
  (.seq (.drw [0, 0, 2, 6, 14, 30, 62, 126, 254, 510, 1022, 2046, 4094, 8190, 16382, 32766, 65534, 131070, 262142, 524286, 1048574, 2097150, 4194302, 8388606, 16777214, 1048575, 67108863]
   [⟨(some 46), none, .mov (.t 4)⟩,
    ⟨(some 47), none, .fadr 0 (.t 1)⟩,
    ⟨(some 48), none, .load 1 false (.t 47)⟩,
    ⟨(some 49), none, .bin .geq (.t 48) (.k (.d (.int .i64 1)))⟩,
    ⟨(some 50), none, .mov (.t 49)⟩,
    ⟨(some 51), (some (50, true)), .fadr 0 (.t 1)⟩,
    ⟨(some 52), (some (50, true)), .load 1 false (.t 51)⟩,
    ⟨(some 53), (some (50, true)), .bin .leq (.t 52) (.k (.d (.int .i64 292194)))⟩,
    ⟨(some 54), none, .pick (.t 50) (.t 53) (.k (.d (.bool false)))⟩,
    ⟨(some 55), none, .mov (.t 54)⟩,
    ⟨(some 56), (some (55, true)), .fadr 1 (.t 1)⟩,
    ⟨(some 57), (some (55, true)), .load 1 false (.t 56)⟩,
    ⟨(some 58), (some (55, true)), .bin .geq (.t 57) (.k (.d (.int .i64 0)))⟩,
    ⟨(some 59), none, .pick (.t 55) (.t 58) (.k (.d (.bool false)))⟩,
    ⟨(some 60), none, .mov (.t 59)⟩,
    ⟨(some 61), (some (60, true)), .fadr 1 (.t 1)⟩,
    ⟨(some 62), (some (60, true)), .load 1 false (.t 61)⟩,
    ⟨(some 63), (some (60, true)), .bin .leq (.t 62) (.k (.d (.int .i64 1000000000)))⟩,
    ⟨(some 64), none, .pick (.t 60) (.t 63) (.k (.d (.bool false)))⟩,
    ⟨(some 65), none, .mov (.t 64)⟩,
    ⟨(some 66), (some (65, true)), .fadr 2 (.t 1)⟩,
    ⟨(some 67), (some (65, true)), .load 1 false (.t 66)⟩,
    ⟨(some 68), (some (65, true)), .len (.t 67)⟩,
    ⟨(some 69), (some (65, true)), .bin .geq (.t 68) (.k (.d (.int .i64 2)))⟩,
    ⟨(some 70), none, .pick (.t 65) (.t 69) (.k (.d (.bool false)))⟩,
    ⟨(some 2), none, .mov (.t 46)⟩,
    ⟨(some 3), none, .mov (.t 70)⟩])
  .ret))))
def rs25 : List RV := [.tmp 2, .tmp 3]
theorem ok25 : okF Try.prog 25 = true := by kernel_rfl
theorem cc25 : cCode Try.prog Try.f25.ntmps (Try.f25.body.getD .skip) = some c25 := by kernel_rfl
theorem cr25 : cRess Try.prog Try.f25.results.toList = some rs25 := by kernel_rfl
theorem pure25 {args : List V} {res : V} (hlen : args.length ≤ 71) (hna : namesL args = []) (hnr : res.names = []) (h : ∀ c : Ctx, c.P = Try.prog → c.fn = [] → vcC c c25 ⟨initE 0 args, [], []⟩ (RetK c rs25 res [])) : Ctr Try.prog 25 args [] res [] [] :=
  ctr_pure Try.func25 ok25 rfl cc25 cr25 Try.ntmps25 hlen hna hnr h
theorem own25 {args : List V} {ins outs : List (Nat × Own)} {res : V} {new : List Nat} (hlen : args.length ≤ 71) (hf : ctrB args ins res outs new = true) (h : ∀ c : Ctx, c.P = Try.prog → c.fn = namesL args ++ ownNames ins → vcC c c25 ⟨initE 0 args, ins, namesL args ++ ownNames ins⟩ (RetK c rs25 res outs)) : Ctr Try.prog 25 args ins res outs new :=
  ctr_own Try.func25 ok25 rfl cc25 cr25 Try.ntmps25 hlen hf h

/-- bordereau/bordereauref05.Formed -/
def c26 : C :=
  (.seq (.reg [⟨(some 1), none, .box 24 (.t 0)⟩,
    ⟨(some 2), none, .mov (.k (.d (.bool false)))⟩])
  (.seq (.seq (.reg [⟨(some 5), none, .fadr 0 (.t 1)⟩,
    ⟨(some 6), none, .load 1 false (.t 5)⟩,
    ⟨(some 7), none, .bin .lss (.t 6) (.k (.d (.int .i64 1)))⟩,
    ⟨(some 8), none, .mov (.t 7)⟩,
    ⟨(some 9), (some (8, false)), .fadr 0 (.t 1)⟩,
    ⟨(some 10), (some (8, false)), .load 1 false (.t 9)⟩,
    ⟨(some 11), (some (8, false)), .bin .gtr (.t 10) (.k (.d (.int .i64 292194)))⟩,
    ⟨(some 12), none, .pick (.t 8) (.k (.d (.bool true))) (.t 11)⟩,
    ⟨(some 13), none, .mov (.t 12)⟩,
    ⟨(some 14), (some (13, false)), .fadr 1 (.t 1)⟩,
    ⟨(some 15), (some (13, false)), .load 1 false (.t 14)⟩,
    ⟨(some 16), (some (13, false)), .bin .lss (.t 15) (.k (.d (.int .i64 0)))⟩,
    ⟨(some 17), none, .pick (.t 13) (.k (.d (.bool true))) (.t 16)⟩,
    ⟨(some 18), none, .mov (.t 17)⟩,
    ⟨(some 19), (some (18, false)), .fadr 1 (.t 1)⟩,
    ⟨(some 20), (some (18, false)), .load 1 false (.t 19)⟩,
    ⟨(some 21), (some (18, false)), .bin .gtr (.t 20) (.k (.d (.int .i64 1000000000)))⟩,
    ⟨(some 22), none, .pick (.t 18) (.k (.d (.bool true))) (.t 21)⟩,
    ⟨(some 23), none, .mov (.t 22)⟩,
    ⟨(some 24), (some (23, false)), .fadr 2 (.t 1)⟩,
    ⟨(some 25), (some (23, false)), .load 1 false (.t 24)⟩,
    ⟨(some 26), (some (23, false)), .len (.t 25)⟩,
    ⟨(some 27), (some (23, false)), .bin .lss (.t 26) (.k (.d (.int .i64 2)))⟩,
    ⟨(some 28), none, .pick (.t 23) (.k (.d (.bool true))) (.t 27)⟩,
    ⟨(some 29), none, .mov (.t 28)⟩,
    ⟨(some 30), (some (29, false)), .fadr 2 (.t 1)⟩,
    ⟨(some 31), (some (29, false)), .load 1 false (.t 30)⟩,
    ⟨(some 32), (some (29, false)), .len (.t 31)⟩,
    ⟨(some 33), (some (29, false)), .bin .gtr (.t 32) (.k (.d (.int .i64 9)))⟩,
    ⟨(some 34), none, .pick (.t 29) (.k (.d (.bool true))) (.t 33)⟩])
  (.cond (.t 34) (.seq (.reg [⟨(some 2), none, .mov (.k (.d (.bool false)))⟩])
    .ret)
  .skip))
  (.seq (.seq (.reg [⟨(some 3), none, .mov (.k (.d (.int .i64 0)))⟩])
  (.block 0 (.loop (.seq (.seq (.reg [⟨(some 35), none, .mov (.t 3)⟩,
        ⟨(some 36), none, .fadr 2 (.t 1)⟩,
        ⟨(some 37), none, .load 1 false (.t 36)⟩,
        ⟨(some 38), none, .len (.t 37)⟩,
        ⟨(some 39), none, .bin .lss (.t 35) (.t 38)⟩])
      (.cond (.t 39) .skip
      (.exit 0)))
      (.seq (.block 1 (.seq (.reg [⟨(some 42), none, .fadr 2 (.t 1)⟩,
          ⟨(some 43), none, .load 1 false (.t 42)⟩,
          ⟨(some 44), none, .mov (.t 3)⟩,
          ⟨(some 45), none, .iadr 2 (.t 43) (.t 44)⟩,
          ⟨(some 46), none, .load 2 true (.t 45)⟩,
          ⟨(some 4), none, .alloc 50 [.d (.int .i64 0), .d (.int .i64 0)]⟩,
          ⟨none, none, .store 2 (.t 4) (.t 46)⟩])
        (.seq (.seq (.reg [⟨(some 47), none, .fadr 0 (.t 4)⟩,
          ⟨(some 48), none, .load 1 false (.t 47)⟩,
          ⟨(some 49), none, .bin .lss (.t 48) (.k (.d (.int .i64 1)))⟩,
          ⟨(some 50), none, .mov (.t 49)⟩,
          ⟨(some 51), (some (50, false)), .fadr 0 (.t 4)⟩,
          ⟨(some 52), (some (50, false)), .load 1 false (.t 51)⟩,
          ⟨(some 53), (some (50, false)), .bin .gtr (.t 52) (.k (.d (.int .i64 9)))⟩,
          ⟨(some 54), none, .pick (.t 50) (.k (.d (.bool true))) (.t 53)⟩,
          ⟨(some 55), none, .mov (.t 54)⟩,
          ⟨(some 56), (some (55, false)), .fadr 1 (.t 4)⟩,
          ⟨(some 57), (some (55, false)), .load 1 false (.t 56)⟩,
          ⟨(some 58), (some (55, false)), .bin .eql (.t 57) (.k (.d (.int .i64 0)))⟩,
          ⟨(some 59), none, .pick (.t 55) (.k (.d (.bool true))) (.t 58)⟩,
          ⟨(some 60), none, .mov (.t 59)⟩,
          ⟨(some 61), (some (60, false)), .fadr 1 (.t 4)⟩,
          ⟨(some 62), (some (60, false)), .load 1 false (.t 61)⟩,
          ⟨(some 63), (some (60, false)), .bin .lss (.t 62) (.k (.d (.int .i64 (-1000000000000000))))⟩,
          ⟨(some 64), none, .pick (.t 60) (.k (.d (.bool true))) (.t 63)⟩,
          ⟨(some 65), none, .mov (.t 64)⟩,
          ⟨(some 66), (some (65, false)), .fadr 1 (.t 4)⟩,
          ⟨(some 67), (some (65, false)), .load 1 false (.t 66)⟩,
          ⟨(some 68), (some (65, false)), .bin .gtr (.t 67) (.k (.d (.int .i64 1000000000000000)))⟩,
          ⟨(some 69), none, .pick (.t 65) (.k (.d (.bool true))) (.t 68)⟩])
        (.cond (.t 69) (.seq (.reg [⟨(some 2), none, .mov (.k (.d (.bool false)))⟩])
          .ret)
        .skip))
        (.seq (.drw [0, 1, 3, 7, 15, 7, 39, 7, 135, 487, 999, 2023, 4095, 8191]
         [⟨(some 70), none, .mov (.t 3)⟩,
          ⟨(some 71), none, .bin .gtr (.t 70) (.k (.d (.int .i64 0)))⟩,
          ⟨(some 72), none, .mov (.t 71)⟩,
          ⟨(some 73), (some (72, true)), .fadr 0 (.t 4)⟩,
          ⟨(some 74), (some (72, true)), .load 1 false (.t 73)⟩,
          ⟨(some 75), (some (72, true)), .fadr 2 (.t 1)⟩,
          ⟨(some 76), (some (72, true)), .load 1 false (.t 75)⟩,
          ⟨(some 77), (some (72, true)), .mov (.t 3)⟩,
          ⟨(some 78), (some (72, true)), .bin .sub (.t 77) (.k (.d (.int .i64 1)))⟩,
          ⟨(some 79), (some (72, true)), .iadr 2 (.t 76) (.t 78)⟩,
          ⟨(some 80), (some (72, true)), .fadr 0 (.t 79)⟩,
          ⟨(some 81), (some (72, true)), .load 1 false (.t 80)⟩,
          ⟨(some 82), (some (72, true)), .bin .leq (.t 74) (.t 81)⟩,
          ⟨(some 83), none, .pick (.t 72) (.t 82) (.k (.d (.bool false)))⟩])
        (.cond (.t 83) (.seq (.reg [⟨(some 2), none, .mov (.k (.d (.bool false)))⟩])
          .ret)
        .skip)))))
      (.reg [⟨(some 40), none, .mov (.t 3)⟩,
        ⟨(some 41), none, .bin .add (.t 40) (.k (.d (.int .i64 1)))⟩,
        ⟨(some 3), none, .mov (.t 41)⟩]))))))
  (.seq (.reg [⟨(some 2), none, .mov (.k (.d (.bool true)))⟩])
  .ret))))
def rs26 : List RV := [.tmp 2]
theorem ok26 : okF Try.prog 26 = true := by kernel_rfl
theorem cc26 : cCode Try.prog Try.f26.ntmps (Try.f26.body.getD .skip) = some c26 := by kernel_rfl
theorem cr26 : cRess Try.prog Try.f26.results.toList = some rs26 := by kernel_rfl
theorem pure26 {args : List V} {res : V} (hlen : args.length ≤ 84) (hna : namesL args = []) (hnr : res.names = []) (h : ∀ c : Ctx, c.P = Try.prog → c.fn = [] → vcC c c26 ⟨initE 0 args, [], []⟩ (RetK c rs26 res [])) : Ctr Try.prog 26 args [] res [] [] :=
  ctr_pure Try.func26 ok26 rfl cc26 cr26 Try.ntmps26 hlen hna hnr h
theorem own26 {args : List V} {ins outs : List (Nat × Own)} {res : V} {new : List Nat} (hlen : args.length ≤ 84) (hf : ctrB args ins res outs new = true) (h : ∀ c : Ctx, c.P = Try.prog → c.fn = namesL args ++ ownNames ins → vcC c c26 ⟨initE 0 args, ins, namesL args ++ ownNames ins⟩ (RetK c rs26 res outs)) : Ctr Try.prog 26 args ins res outs new :=
  ctr_own Try.func26 ok26 rfl cc26 cr26 Try.ntmps26 hlen hf h

/-- bordereau/bordereauref05.Sum -/
def c27 : C :=
  (.seq (.reg [⟨(some 1), none, .box 24 (.t 0)⟩,
    ⟨(some 2), none, .mov (.k (.d (.int .i64 0)))⟩])
  (.seq (.reg [⟨(some 3), none, .mov (.k (.d (.int .i64 0)))⟩])
  (.seq (.seq (.reg [⟨(some 4), none, .mov (.k (.d (.int .i64 0)))⟩])
  (.block 0 (.loop (.seq (.seq (.reg [⟨(some 5), none, .mov (.t 4)⟩,
        ⟨(some 6), none, .fadr 2 (.t 1)⟩,
        ⟨(some 7), none, .load 1 false (.t 6)⟩,
        ⟨(some 8), none, .len (.t 7)⟩,
        ⟨(some 9), none, .bin .lss (.t 5) (.t 8)⟩])
      (.cond (.t 9) .skip
      (.exit 0)))
      (.seq (.block 1 (.reg [⟨(some 12), none, .mov (.t 3)⟩,
          ⟨(some 13), none, .fadr 2 (.t 1)⟩,
          ⟨(some 14), none, .load 1 false (.t 13)⟩,
          ⟨(some 15), none, .mov (.t 4)⟩,
          ⟨(some 16), none, .iadr 2 (.t 14) (.t 15)⟩,
          ⟨(some 17), none, .fadr 1 (.t 16)⟩,
          ⟨(some 18), none, .load 1 false (.t 17)⟩,
          ⟨(some 19), none, .bin .add (.t 12) (.t 18)⟩,
          ⟨(some 3), none, .mov (.t 19)⟩]))
      (.reg [⟨(some 10), none, .mov (.t 4)⟩,
        ⟨(some 11), none, .bin .add (.t 10) (.k (.d (.int .i64 1)))⟩,
        ⟨(some 4), none, .mov (.t 11)⟩]))))))
  (.seq (.reg [⟨(some 20), none, .mov (.t 3)⟩,
    ⟨(some 2), none, .mov (.t 20)⟩])
  .ret))))
def rs27 : List RV := [.tmp 2]
theorem ok27 : okF Try.prog 27 = true := by kernel_rfl
theorem cc27 : cCode Try.prog Try.f27.ntmps (Try.f27.body.getD .skip) = some c27 := by kernel_rfl
theorem cr27 : cRess Try.prog Try.f27.results.toList = some rs27 := by kernel_rfl
theorem pure27 {args : List V} {res : V} (hlen : args.length ≤ 21) (hna : namesL args = []) (hnr : res.names = []) (h : ∀ c : Ctx, c.P = Try.prog → c.fn = [] → vcC c c27 ⟨initE 0 args, [], []⟩ (RetK c rs27 res [])) : Ctr Try.prog 27 args [] res [] [] :=
  ctr_pure Try.func27 ok27 rfl cc27 cr27 Try.ntmps27 hlen hna hnr h
theorem own27 {args : List V} {ins outs : List (Nat × Own)} {res : V} {new : List Nat} (hlen : args.length ≤ 21) (hf : ctrB args ins res outs new = true) (h : ∀ c : Ctx, c.P = Try.prog → c.fn = namesL args ++ ownNames ins → vcC c c27 ⟨initE 0 args, ins, namesL args ++ ownNames ins⟩ (RetK c rs27 res outs)) : Ctr Try.prog 27 args ins res outs new :=
  ctr_own Try.func27 ok27 rfl cc27 cr27 Try.ntmps27 hlen hf h

/-- bordereau/post.added -/
def c28 : C :=
  (.seq (.reg [⟨(some 3), none, .box 29 (.t 0)⟩,
    ⟨(some 6), none, .mov (.k (.d (.int .i64 0)))⟩])
  (.seq (.reg [⟨(some 7), none, .mov (.k (.d (.int .i64 0)))⟩])
  (.seq (.seq (.reg [⟨(some 12), none, .fadr 0 (.t 3)⟩,
    ⟨(some 13), none, .load 1 false (.t 12)⟩,
    ⟨(some 14), none, .len (.t 13)⟩,
    ⟨(some 15), none, .mov (.k (.d (.int .i64 0)))⟩])
  (.block 0 (.loop (.seq (.reg [⟨(some 16), none, .bin .lss (.t 15) (.t 14)⟩])
      (.seq (.cond (.t 16) .skip
      (.exit 0))
      (.seq (.block 1 (.seq (.reg [⟨(some 17), none, .iadr 3 (.t 13) (.t 15)⟩,
          ⟨(some 18), none, .load 3 true (.t 17)⟩,
          ⟨(some 9), none, .alloc 24 [.d (.int .i64 0), .d (.int .i64 0), .d (.sl true 0 0 fun _ => [])]⟩,
          ⟨none, none, .store 3 (.t 9) (.t 18)⟩])
        (.seq (.seq (.reg [⟨(some 19), none, .mov (.t 2)⟩,
          ⟨(some 20), none, .fadr 0 (.t 9)⟩,
          ⟨(some 21), none, .load 1 false (.t 20)⟩,
          ⟨(some 22), none, .callv (.t 19) [(.t 21)]⟩,
          ⟨(some 23), none, .inv .not (.t 22)⟩])
        (.cond (.t 23) (.exit 1)
        .skip))
        (.seq (.reg [⟨(some 24), none, .fadr 2 (.t 9)⟩,
          ⟨(some 25), none, .load 1 false (.t 24)⟩,
          ⟨(some 26), none, .len (.t 25)⟩,
          ⟨(some 27), none, .mov (.k (.d (.int .i64 0)))⟩])
        (.block 2 (.loop (.seq (.reg [⟨(some 28), none, .bin .lss (.t 27) (.t 26)⟩])
            (.seq (.cond (.t 28) .skip
            (.exit 2))
            (.seq (.block 3 (.seq (.reg [⟨(some 29), none, .iadr 2 (.t 25) (.t 27)⟩,
                ⟨(some 30), none, .load 2 true (.t 29)⟩,
                ⟨(some 11), none, .alloc 50 [.d (.int .i64 0), .d (.int .i64 0)]⟩,
                ⟨none, none, .store 2 (.t 11) (.t 30)⟩])
              (.seq (.reg [⟨(some 31), none, .fadr 0 (.t 11)⟩,
                ⟨(some 32), none, .load 1 false (.t 31)⟩,
                ⟨(some 33), none, .mov (.t 1)⟩,
                ⟨(some 34), none, .bin .eql (.t 32) (.t 33)⟩])
              (.cond (.t 34) (.reg [⟨(some 35), none, .mov (.t 7)⟩,
                  ⟨(some 36), none, .fadr 1 (.t 11)⟩,
                  ⟨(some 37), none, .load 1 false (.t 36)⟩,
                  ⟨(some 38), none, .bin .add (.t 35) (.t 37)⟩,
                  ⟨(some 7), none, .mov (.t 38)⟩])
              .skip))))
            (.reg [⟨(some 39), none, .bin .add (.t 27) (.k (.d (.int .i64 1)))⟩,
              ⟨(some 27), none, .mov (.t 39)⟩]))))))))))
      (.reg [⟨(some 40), none, .bin .add (.t 15) (.k (.d (.int .i64 1)))⟩,
        ⟨(some 15), none, .mov (.t 40)⟩])))))))
  (.seq (.reg [⟨(some 41), none, .mov (.t 7)⟩,
    ⟨(some 6), none, .mov (.t 41)⟩])
  .ret))))
def rs28 : List RV := [.tmp 6]
theorem ok28 : okF Try.prog 28 = true := by kernel_rfl
theorem cc28 : cCode Try.prog Try.f28.ntmps (Try.f28.body.getD .skip) = some c28 := by kernel_rfl
theorem cr28 : cRess Try.prog Try.f28.results.toList = some rs28 := by kernel_rfl
theorem pure28 {args : List V} {res : V} (hlen : args.length ≤ 42) (hna : namesL args = []) (hnr : res.names = []) (h : ∀ c : Ctx, c.P = Try.prog → c.fn = [] → vcC c c28 ⟨initE 0 args, [], []⟩ (RetK c rs28 res [])) : Ctr Try.prog 28 args [] res [] [] :=
  ctr_pure Try.func28 ok28 rfl cc28 cr28 Try.ntmps28 hlen hna hnr h
theorem own28 {args : List V} {ins outs : List (Nat × Own)} {res : V} {new : List Nat} (hlen : args.length ≤ 42) (hf : ctrB args ins res outs new = true) (h : ∀ c : Ctx, c.P = Try.prog → c.fn = namesL args ++ ownNames ins → vcC c c28 ⟨initE 0 args, ins, namesL args ++ ownNames ins⟩ (RetK c rs28 res outs)) : Ctr Try.prog 28 args ins res outs new :=
  ctr_own Try.func28 ok28 rfl cc28 cr28 Try.ntmps28 hlen hf h

/-- bordereau/post.Balance$1 -/
def c29 : C :=
  (.seq (.reg [⟨(some 3), none, .mov (.k (.d (.bool false)))⟩])
  (.seq (.reg [⟨(some 4), none, .mov (.t 0)⟩,
    ⟨(some 5), none, .load 1 false (.t 1)⟩,
    ⟨(some 6), none, .bin .leq (.t 4) (.t 5)⟩,
    ⟨(some 3), none, .mov (.t 6)⟩])
  .ret))
def rs29 : List RV := [.tmp 3]
theorem ok29 : okF Try.prog 29 = true := by kernel_rfl
theorem cc29 : cCode Try.prog Try.f29.ntmps (Try.f29.body.getD .skip) = some c29 := by kernel_rfl
theorem cr29 : cRess Try.prog Try.f29.results.toList = some rs29 := by kernel_rfl
theorem pure29 {args : List V} {res : V} (hlen : args.length ≤ 7) (hna : namesL args = []) (hnr : res.names = []) (h : ∀ c : Ctx, c.P = Try.prog → c.fn = [] → vcC c c29 ⟨initE 0 args, [], []⟩ (RetK c rs29 res [])) : Ctr Try.prog 29 args [] res [] [] :=
  ctr_pure Try.func29 ok29 rfl cc29 cr29 Try.ntmps29 hlen hna hnr h
theorem own29 {args : List V} {ins outs : List (Nat × Own)} {res : V} {new : List Nat} (hlen : args.length ≤ 7) (hf : ctrB args ins res outs new = true) (h : ∀ c : Ctx, c.P = Try.prog → c.fn = namesL args ++ ownNames ins → vcC c c29 ⟨initE 0 args, ins, namesL args ++ ownNames ins⟩ (RetK c rs29 res outs)) : Ctr Try.prog 29 args ins res outs new :=
  ctr_own Try.func29 ok29 rfl cc29 cr29 Try.ntmps29 hlen hf h

/-- bordereau/bordereauref05.of -/
def c30 : C :=
  (.seq (.reg [⟨(some 2), none, .box 24 (.t 0)⟩,
    ⟨(some 4), none, .mov (.k (.d (.int .i64 0)))⟩])
  (.seq (.reg [⟨(some 5), none, .mov (.k (.d (.int .i64 0)))⟩])
  (.seq (.seq (.reg [⟨(some 6), none, .mov (.k (.d (.int .i64 0)))⟩])
  (.block 0 (.loop (.seq (.seq (.reg [⟨(some 7), none, .mov (.t 6)⟩,
        ⟨(some 8), none, .fadr 2 (.t 2)⟩,
        ⟨(some 9), none, .load 1 false (.t 8)⟩,
        ⟨(some 10), none, .len (.t 9)⟩,
        ⟨(some 11), none, .bin .lss (.t 7) (.t 10)⟩])
      (.cond (.t 11) .skip
      (.exit 0)))
      (.seq (.block 1 (.seq (.reg [⟨(some 14), none, .fadr 2 (.t 2)⟩,
          ⟨(some 15), none, .load 1 false (.t 14)⟩,
          ⟨(some 16), none, .mov (.t 6)⟩,
          ⟨(some 17), none, .iadr 2 (.t 15) (.t 16)⟩,
          ⟨(some 18), none, .fadr 0 (.t 17)⟩,
          ⟨(some 19), none, .load 1 false (.t 18)⟩,
          ⟨(some 20), none, .mov (.t 1)⟩,
          ⟨(some 21), none, .bin .eql (.t 19) (.t 20)⟩])
        (.cond (.t 21) (.reg [⟨(some 22), none, .mov (.t 5)⟩,
            ⟨(some 23), none, .fadr 2 (.t 2)⟩,
            ⟨(some 24), none, .load 1 false (.t 23)⟩,
            ⟨(some 25), none, .mov (.t 6)⟩,
            ⟨(some 26), none, .iadr 2 (.t 24) (.t 25)⟩,
            ⟨(some 27), none, .fadr 1 (.t 26)⟩,
            ⟨(some 28), none, .load 1 false (.t 27)⟩,
            ⟨(some 29), none, .bin .add (.t 22) (.t 28)⟩,
            ⟨(some 5), none, .mov (.t 29)⟩])
        .skip)))
      (.reg [⟨(some 12), none, .mov (.t 6)⟩,
        ⟨(some 13), none, .bin .add (.t 12) (.k (.d (.int .i64 1)))⟩,
        ⟨(some 6), none, .mov (.t 13)⟩]))))))
  (.seq (.reg [⟨(some 30), none, .mov (.t 5)⟩,
    ⟨(some 4), none, .mov (.t 30)⟩])
  .ret))))
def rs30 : List RV := [.tmp 4]
theorem ok30 : okF Try.prog 30 = true := by kernel_rfl
theorem cc30 : cCode Try.prog Try.f30.ntmps (Try.f30.body.getD .skip) = some c30 := by kernel_rfl
theorem cr30 : cRess Try.prog Try.f30.results.toList = some rs30 := by kernel_rfl
theorem pure30 {args : List V} {res : V} (hlen : args.length ≤ 31) (hna : namesL args = []) (hnr : res.names = []) (h : ∀ c : Ctx, c.P = Try.prog → c.fn = [] → vcC c c30 ⟨initE 0 args, [], []⟩ (RetK c rs30 res [])) : Ctr Try.prog 30 args [] res [] [] :=
  ctr_pure Try.func30 ok30 rfl cc30 cr30 Try.ntmps30 hlen hna hnr h
theorem own30 {args : List V} {ins outs : List (Nat × Own)} {res : V} {new : List Nat} (hlen : args.length ≤ 31) (hf : ctrB args ins res outs new = true) (h : ∀ c : Ctx, c.P = Try.prog → c.fn = namesL args ++ ownNames ins → vcC c c30 ⟨initE 0 args, ins, namesL args ++ ownNames ins⟩ (RetK c rs30 res outs)) : Ctr Try.prog 30 args ins res outs new :=
  ctr_own Try.func30 ok30 rfl cc30 cr30 Try.ntmps30 hlen hf h

/-- bordereau/post.Turn$1 -/
def c31 : C :=
  (.seq (.reg [⟨(some 3), none, .mov (.k (.d (.bool false)))⟩])
  (.seq (.reg [⟨(some 4), none, .load 2 true (.t 1)⟩,
    ⟨(some 5), none, .mov (.t 0)⟩,
    ⟨(some 6), none, .call 32 [(.t 4), (.t 5)]⟩,
    ⟨(some 3), none, .mov (.t 6)⟩])
  .ret))
def rs31 : List RV := [.tmp 3]
theorem ok31 : okF Try.prog 31 = true := by kernel_rfl
theorem cc31 : cCode Try.prog Try.f31.ntmps (Try.f31.body.getD .skip) = some c31 := by kernel_rfl
theorem cr31 : cRess Try.prog Try.f31.results.toList = some rs31 := by kernel_rfl
theorem pure31 {args : List V} {res : V} (hlen : args.length ≤ 7) (hna : namesL args = []) (hnr : res.names = []) (h : ∀ c : Ctx, c.P = Try.prog → c.fn = [] → vcC c c31 ⟨initE 0 args, [], []⟩ (RetK c rs31 res [])) : Ctr Try.prog 31 args [] res [] [] :=
  ctr_pure Try.func31 ok31 rfl cc31 cr31 Try.ntmps31 hlen hna hnr h
theorem own31 {args : List V} {ins outs : List (Nat × Own)} {res : V} {new : List Nat} (hlen : args.length ≤ 7) (hf : ctrB args ins res outs new = true) (h : ∀ c : Ctx, c.P = Try.prog → c.fn = namesL args ++ ownNames ins → vcC c c31 ⟨initE 0 args, ins, namesL args ++ ownNames ins⟩ (RetK c rs31 res outs)) : Ctr Try.prog 31 args ins res outs new :=
  ctr_own Try.func31 ok31 rfl cc31 cr31 Try.ntmps31 hlen hf h

/-- bordereau/span.In -/
def c32 : C :=
  (.seq (.reg [⟨(some 2), none, .box 32 (.t 0)⟩,
    ⟨(some 4), none, .mov (.k (.d (.bool false)))⟩])
  (.seq (.reg [⟨(some 5), none, .load 2 true (.t 2)⟩,
    ⟨(some 6), none, .call 36 [(.t 5)]⟩,
    ⟨none, none, .store 2 (.t 2) (.t 6)⟩])
  (.seq (.reg [⟨(some 7), none, .mov (.t 1)⟩,
    ⟨(some 8), none, .fadr 0 (.t 2)⟩,
    ⟨(some 9), none, .load 1 false (.t 8)⟩,
    ⟨(some 10), none, .bin .geq (.t 7) (.t 9)⟩,
    ⟨(some 11), none, .mov (.t 10)⟩,
    ⟨(some 12), (some (11, true)), .mov (.t 1)⟩,
    ⟨(some 13), (some (11, true)), .fadr 1 (.t 2)⟩,
    ⟨(some 14), (some (11, true)), .load 1 false (.t 13)⟩,
    ⟨(some 15), (some (11, true)), .bin .lss (.t 12) (.t 14)⟩,
    ⟨(some 16), none, .pick (.t 11) (.t 15) (.k (.d (.bool false)))⟩,
    ⟨(some 4), none, .mov (.t 16)⟩])
  .ret)))
def rs32 : List RV := [.tmp 4]
theorem ok32 : okF Try.prog 32 = true := by kernel_rfl
theorem cc32 : cCode Try.prog Try.f32.ntmps (Try.f32.body.getD .skip) = some c32 := by kernel_rfl
theorem cr32 : cRess Try.prog Try.f32.results.toList = some rs32 := by kernel_rfl
theorem pure32 {args : List V} {res : V} (hlen : args.length ≤ 17) (hna : namesL args = []) (hnr : res.names = []) (h : ∀ c : Ctx, c.P = Try.prog → c.fn = [] → vcC c c32 ⟨initE 0 args, [], []⟩ (RetK c rs32 res [])) : Ctr Try.prog 32 args [] res [] [] :=
  ctr_pure Try.func32 ok32 rfl cc32 cr32 Try.ntmps32 hlen hna hnr h
theorem own32 {args : List V} {ins outs : List (Nat × Own)} {res : V} {new : List Nat} (hlen : args.length ≤ 17) (hf : ctrB args ins res outs new = true) (h : ∀ c : Ctx, c.P = Try.prog → c.fn = namesL args ++ ownNames ins → vcC c c32 ⟨initE 0 args, ins, namesL args ++ ownNames ins⟩ (RetK c rs32 res outs)) : Ctr Try.prog 32 args ins res outs new :=
  ctr_own Try.func32 ok32 rfl cc32 cr32 Try.ntmps32 hlen hf h

/-- bordereau/bordereauref03.In -/
def c33 : C :=
  (.seq (.reg [⟨(some 2), none, .box 32 (.t 0)⟩,
    ⟨(some 4), none, .mov (.k (.d (.bool false)))⟩])
  (.seq (.reg [⟨(some 5), none, .load 2 true (.t 2)⟩,
    ⟨(some 6), none, .call 37 [(.t 5)]⟩,
    ⟨(some 7), none, .mov (.t 6)⟩,
    ⟨(some 8), (some (7, true)), .fadr 0 (.t 2)⟩,
    ⟨(some 9), (some (7, true)), .load 1 false (.t 8)⟩,
    ⟨(some 10), (some (7, true)), .mov (.t 1)⟩,
    ⟨(some 11), (some (7, true)), .bin .leq (.t 9) (.t 10)⟩,
    ⟨(some 12), none, .pick (.t 7) (.t 11) (.k (.d (.bool false)))⟩,
    ⟨(some 13), none, .mov (.t 12)⟩,
    ⟨(some 14), (some (13, true)), .mov (.t 1)⟩,
    ⟨(some 15), (some (13, true)), .fadr 1 (.t 2)⟩,
    ⟨(some 16), (some (13, true)), .load 1 false (.t 15)⟩,
    ⟨(some 17), (some (13, true)), .bin .lss (.t 14) (.t 16)⟩,
    ⟨(some 18), none, .pick (.t 13) (.t 17) (.k (.d (.bool false)))⟩,
    ⟨(some 4), none, .mov (.t 18)⟩])
  .ret))
def rs33 : List RV := [.tmp 4]
theorem ok33 : okF Try.prog 33 = true := by kernel_rfl
theorem cc33 : cCode Try.prog Try.f33.ntmps (Try.f33.body.getD .skip) = some c33 := by kernel_rfl
theorem cr33 : cRess Try.prog Try.f33.results.toList = some rs33 := by kernel_rfl
theorem pure33 {args : List V} {res : V} (hlen : args.length ≤ 19) (hna : namesL args = []) (hnr : res.names = []) (h : ∀ c : Ctx, c.P = Try.prog → c.fn = [] → vcC c c33 ⟨initE 0 args, [], []⟩ (RetK c rs33 res [])) : Ctr Try.prog 33 args [] res [] [] :=
  ctr_pure Try.func33 ok33 rfl cc33 cr33 Try.ntmps33 hlen hna hnr h
theorem own33 {args : List V} {ins outs : List (Nat × Own)} {res : V} {new : List Nat} (hlen : args.length ≤ 19) (hf : ctrB args ins res outs new = true) (h : ∀ c : Ctx, c.P = Try.prog → c.fn = namesL args ++ ownNames ins → vcC c c33 ⟨initE 0 args, ins, namesL args ++ ownNames ins⟩ (RetK c rs33 res outs)) : Ctr Try.prog 33 args ins res outs new :=
  ctr_own Try.func33 ok33 rfl cc33 cr33 Try.ntmps33 hlen hf h

/-- slices.Clone[[]bordereau/api.Line,bordereau/api.Line] -/
def c34 : C :=
  (.seq (.reg [⟨(some 2), none, .mov (.k (.d (.sl true 0 0 fun _ => [])))⟩])
  (.seq (.seq (.reg [⟨(some 3), none, .mov (.t 0)⟩,
    ⟨(some 4), none, .isnil false (.t 3)⟩])
  (.cond (.t 4) (.seq (.reg [⟨(some 2), none, .mov (.k (.d (.sl true 0 0 fun _ => [])))⟩])
    .ret)
  .skip))
  (.seq (.reg [⟨(some 5), none, .bslice 50 2 0 []⟩,
    ⟨(some 6), none, .mov (.t 0)⟩,
    ⟨(some 7), none, .app 50 2 16 (.t 5) (.t 6)⟩,
    ⟨(some 2), none, .mov (.t 7)⟩])
  .ret)))
def rs34 : List RV := [.tmp 2]
theorem ok34 : okF Try.prog 34 = true := by kernel_rfl
theorem cc34 : cCode Try.prog Try.f34.ntmps (Try.f34.body.getD .skip) = some c34 := by kernel_rfl
theorem cr34 : cRess Try.prog Try.f34.results.toList = some rs34 := by kernel_rfl
theorem pure34 {args : List V} {res : V} (hlen : args.length ≤ 8) (hna : namesL args = []) (hnr : res.names = []) (h : ∀ c : Ctx, c.P = Try.prog → c.fn = [] → vcC c c34 ⟨initE 0 args, [], []⟩ (RetK c rs34 res [])) : Ctr Try.prog 34 args [] res [] [] :=
  ctr_pure Try.func34 ok34 rfl cc34 cr34 Try.ntmps34 hlen hna hnr h
theorem own34 {args : List V} {ins outs : List (Nat × Own)} {res : V} {new : List Nat} (hlen : args.length ≤ 8) (hf : ctrB args ins res outs new = true) (h : ∀ c : Ctx, c.P = Try.prog → c.fn = namesL args ++ ownNames ins → vcC c c34 ⟨initE 0 args, ins, namesL args ++ ownNames ins⟩ (RetK c rs34 res outs)) : Ctr Try.prog 34 args ins res outs new :=
  ctr_own Try.func34 ok34 rfl cc34 cr34 Try.ntmps34 hlen hf h

/-- bordereau/bordereauref03.Many -/
def c35 : C :=
  (.seq (.reg [⟨(some 1), none, .box 32 (.t 0)⟩,
    ⟨(some 2), none, .mov (.k (.d (.int .i64 0)))⟩])
  (.seq (.seq (.reg [⟨(some 3), none, .load 2 true (.t 1)⟩,
    ⟨(some 4), none, .call 37 [(.t 3)]⟩,
    ⟨(some 5), none, .inv .not (.t 4)⟩])
  (.cond (.t 5) (.seq (.reg [⟨(some 2), none, .mov (.k (.d (.int .i64 0)))⟩])
    .ret)
  .skip))
  (.seq (.reg [⟨(some 6), none, .fadr 1 (.t 1)⟩,
    ⟨(some 7), none, .load 1 false (.t 6)⟩,
    ⟨(some 8), none, .fadr 0 (.t 1)⟩,
    ⟨(some 9), none, .load 1 false (.t 8)⟩,
    ⟨(some 10), none, .bin .sub (.t 7) (.t 9)⟩,
    ⟨(some 2), none, .mov (.t 10)⟩])
  .ret)))
def rs35 : List RV := [.tmp 2]
theorem ok35 : okF Try.prog 35 = true := by kernel_rfl
theorem cc35 : cCode Try.prog Try.f35.ntmps (Try.f35.body.getD .skip) = some c35 := by kernel_rfl
theorem cr35 : cRess Try.prog Try.f35.results.toList = some rs35 := by kernel_rfl
theorem pure35 {args : List V} {res : V} (hlen : args.length ≤ 11) (hna : namesL args = []) (hnr : res.names = []) (h : ∀ c : Ctx, c.P = Try.prog → c.fn = [] → vcC c c35 ⟨initE 0 args, [], []⟩ (RetK c rs35 res [])) : Ctr Try.prog 35 args [] res [] [] :=
  ctr_pure Try.func35 ok35 rfl cc35 cr35 Try.ntmps35 hlen hna hnr h
theorem own35 {args : List V} {ins outs : List (Nat × Own)} {res : V} {new : List Nat} (hlen : args.length ≤ 11) (hf : ctrB args ins res outs new = true) (h : ∀ c : Ctx, c.P = Try.prog → c.fn = namesL args ++ ownNames ins → vcC c c35 ⟨initE 0 args, ins, namesL args ++ ownNames ins⟩ (RetK c rs35 res outs)) : Ctr Try.prog 35 args ins res outs new :=
  ctr_own Try.func35 ok35 rfl cc35 cr35 Try.ntmps35 hlen hf h

/-- bordereau/span.kept -/
def c36 : C :=
  (.seq (.reg [⟨(some 1), none, .box 32 (.t 0)⟩,
    ⟨(some 2), none, .alloc 32 [.d (.int .i64 0), .d (.int .i64 0)]⟩])
  (.seq (.seq (.reg [⟨(some 3), none, .load 2 true (.t 1)⟩,
    ⟨(some 4), none, .call 38 [(.t 3)]⟩,
    ⟨(some 5), none, .inv .not (.t 4)⟩,
    ⟨(some 6), none, .mov (.t 5)⟩,
    ⟨(some 7), (some (6, false)), .fadr 0 (.t 1)⟩,
    ⟨(some 8), (some (6, false)), .load 1 false (.t 7)⟩,
    ⟨(some 9), (some (6, false)), .fadr 1 (.t 1)⟩,
    ⟨(some 10), (some (6, false)), .load 1 false (.t 9)⟩,
    ⟨(some 11), (some (6, false)), .bin .eql (.t 8) (.t 10)⟩,
    ⟨(some 12), none, .pick (.t 6) (.k (.d (.bool true))) (.t 11)⟩])
  (.cond (.t 12) (.seq (.reg [⟨(some 13), none, .build [.d (.int .i64 0), .d (.int .i64 0)] []⟩,
      ⟨none, none, .store 2 (.t 2) (.t 13)⟩])
    .ret)
  .skip))
  (.seq (.reg [⟨(some 14), none, .load 2 true (.t 1)⟩,
    ⟨none, none, .store 2 (.t 2) (.t 14)⟩])
  .ret)))
def rs36 : List RV := [.cell 2 2 true]
theorem ok36 : okF Try.prog 36 = true := by kernel_rfl
theorem cc36 : cCode Try.prog Try.f36.ntmps (Try.f36.body.getD .skip) = some c36 := by kernel_rfl
theorem cr36 : cRess Try.prog Try.f36.results.toList = some rs36 := by kernel_rfl
theorem pure36 {args : List V} {res : V} (hlen : args.length ≤ 15) (hna : namesL args = []) (hnr : res.names = []) (h : ∀ c : Ctx, c.P = Try.prog → c.fn = [] → vcC c c36 ⟨initE 0 args, [], []⟩ (RetK c rs36 res [])) : Ctr Try.prog 36 args [] res [] [] :=
  ctr_pure Try.func36 ok36 rfl cc36 cr36 Try.ntmps36 hlen hna hnr h
theorem own36 {args : List V} {ins outs : List (Nat × Own)} {res : V} {new : List Nat} (hlen : args.length ≤ 15) (hf : ctrB args ins res outs new = true) (h : ∀ c : Ctx, c.P = Try.prog → c.fn = namesL args ++ ownNames ins → vcC c c36 ⟨initE 0 args, ins, namesL args ++ ownNames ins⟩ (RetK c rs36 res outs)) : Ctr Try.prog 36 args ins res outs new :=
  ctr_own Try.func36 ok36 rfl cc36 cr36 Try.ntmps36 hlen hf h

/-- bordereau/bordereauref03.Right -/
def c37 : C :=
  (.seq (.reg [⟨(some 1), none, .box 32 (.t 0)⟩,
    ⟨(some 2), none, .mov (.k (.d (.bool false)))⟩])
  (.seq (.reg [⟨(some 3), none, .fadr 0 (.t 1)⟩,
    ⟨(some 4), none, .load 1 false (.t 3)⟩,
    ⟨(some 5), none, .bin .geq (.t 4) (.k (.d (.int .i64 1)))⟩,
    ⟨(some 6), none, .mov (.t 5)⟩,
    ⟨(some 7), (some (6, true)), .fadr 0 (.t 1)⟩,
    ⟨(some 8), (some (6, true)), .load 1 false (.t 7)⟩,
    ⟨(some 9), (some (6, true)), .fadr 1 (.t 1)⟩,
    ⟨(some 10), (some (6, true)), .load 1 false (.t 9)⟩,
    ⟨(some 11), (some (6, true)), .bin .leq (.t 8) (.t 10)⟩,
    ⟨(some 12), none, .pick (.t 6) (.t 11) (.k (.d (.bool false)))⟩,
    ⟨(some 13), none, .mov (.t 12)⟩,
    ⟨(some 14), (some (13, true)), .fadr 1 (.t 1)⟩,
    ⟨(some 15), (some (13, true)), .load 1 false (.t 14)⟩,
    ⟨(some 16), (some (13, true)), .bin .leq (.t 15) (.k (.d (.int .i64 292195)))⟩,
    ⟨(some 17), none, .pick (.t 13) (.t 16) (.k (.d (.bool false)))⟩,
    ⟨(some 2), none, .mov (.t 17)⟩])
  .ret))
def rs37 : List RV := [.tmp 2]
theorem ok37 : okF Try.prog 37 = true := by kernel_rfl
theorem cc37 : cCode Try.prog Try.f37.ntmps (Try.f37.body.getD .skip) = some c37 := by kernel_rfl
theorem cr37 : cRess Try.prog Try.f37.results.toList = some rs37 := by kernel_rfl
theorem pure37 {args : List V} {res : V} (hlen : args.length ≤ 18) (hna : namesL args = []) (hnr : res.names = []) (h : ∀ c : Ctx, c.P = Try.prog → c.fn = [] → vcC c c37 ⟨initE 0 args, [], []⟩ (RetK c rs37 res [])) : Ctr Try.prog 37 args [] res [] [] :=
  ctr_pure Try.func37 ok37 rfl cc37 cr37 Try.ntmps37 hlen hna hnr h
theorem own37 {args : List V} {ins outs : List (Nat × Own)} {res : V} {new : List Nat} (hlen : args.length ≤ 18) (hf : ctrB args ins res outs new = true) (h : ∀ c : Ctx, c.P = Try.prog → c.fn = namesL args ++ ownNames ins → vcC c c37 ⟨initE 0 args, ins, namesL args ++ ownNames ins⟩ (RetK c rs37 res outs)) : Ctr Try.prog 37 args ins res outs new :=
  ctr_own Try.func37 ok37 rfl cc37 cr37 Try.ntmps37 hlen hf h

/-- bordereau/span.Right -/
def c38 : C :=
  (.seq (.reg [⟨(some 1), none, .box 32 (.t 0)⟩,
    ⟨(some 2), none, .mov (.k (.d (.bool false)))⟩])
  (.seq (.reg [⟨(some 3), none, .fadr 0 (.t 1)⟩,
    ⟨(some 4), none, .load 1 false (.t 3)⟩,
    ⟨(some 5), none, .bin .geq (.t 4) (.k (.d (.int .i64 1)))⟩,
    ⟨(some 6), none, .mov (.t 5)⟩,
    ⟨(some 7), (some (6, true)), .fadr 0 (.t 1)⟩,
    ⟨(some 8), (some (6, true)), .load 1 false (.t 7)⟩,
    ⟨(some 9), (some (6, true)), .fadr 1 (.t 1)⟩,
    ⟨(some 10), (some (6, true)), .load 1 false (.t 9)⟩,
    ⟨(some 11), (some (6, true)), .bin .leq (.t 8) (.t 10)⟩,
    ⟨(some 12), none, .pick (.t 6) (.t 11) (.k (.d (.bool false)))⟩,
    ⟨(some 13), none, .mov (.t 12)⟩,
    ⟨(some 14), (some (13, true)), .fadr 1 (.t 1)⟩,
    ⟨(some 15), (some (13, true)), .load 1 false (.t 14)⟩,
    ⟨(some 16), (some (13, true)), .bin .leq (.t 15) (.k (.d (.int .i64 292195)))⟩,
    ⟨(some 17), none, .pick (.t 13) (.t 16) (.k (.d (.bool false)))⟩,
    ⟨(some 2), none, .mov (.t 17)⟩])
  .ret))
def rs38 : List RV := [.tmp 2]
theorem ok38 : okF Try.prog 38 = true := by kernel_rfl
theorem cc38 : cCode Try.prog Try.f38.ntmps (Try.f38.body.getD .skip) = some c38 := by kernel_rfl
theorem cr38 : cRess Try.prog Try.f38.results.toList = some rs38 := by kernel_rfl
theorem pure38 {args : List V} {res : V} (hlen : args.length ≤ 18) (hna : namesL args = []) (hnr : res.names = []) (h : ∀ c : Ctx, c.P = Try.prog → c.fn = [] → vcC c c38 ⟨initE 0 args, [], []⟩ (RetK c rs38 res [])) : Ctr Try.prog 38 args [] res [] [] :=
  ctr_pure Try.func38 ok38 rfl cc38 cr38 Try.ntmps38 hlen hna hnr h
theorem own38 {args : List V} {ins outs : List (Nat × Own)} {res : V} {new : List Nat} (hlen : args.length ≤ 18) (hf : ctrB args ins res outs new = true) (h : ∀ c : Ctx, c.P = Try.prog → c.fn = namesL args ++ ownNames ins → vcC c c38 ⟨initE 0 args, ins, namesL args ++ ownNames ins⟩ (RetK c rs38 res outs)) : Ctr Try.prog 38 args ins res outs new :=
  ctr_own Try.func38 ok38 rfl cc38 cr38 Try.ntmps38 hlen hf h

end Go.Proofs.Ytllakgjfgdgfiaa
