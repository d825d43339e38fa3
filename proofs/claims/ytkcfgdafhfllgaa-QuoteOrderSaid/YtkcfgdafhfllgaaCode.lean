/-
  The code of this seat's functions, compiled for the engine (by a program of mine); the theorems say that it is theirs.
-/
import Derived.Test.YtkcfgdafhfllgaaRows
import Derived.Test.YtkcfgdafhfllgaaEng24
import Derived.KernelRfl
namespace Go.Proofs.Ytkcfgdafhfllgaa
open Go.Bx

set_option maxRecDepth 100000

/-- bordereau/bordereaulaw09.QuoteOne -/
def c3 : C :=
  (.seq (.reg [⟨(some 3), none, .box 26 (.t 0)⟩,
    ⟨(some 4), none, .box 28 (.t 1)⟩,
    ⟨(some 5), none, .box 30 (.t 2)⟩,
    ⟨(some 6), none, .mov (.k (.d (.bool false)))⟩])
  (.seq (.seq (.reg [⟨(some 11), none, .load 9 true (.t 3)⟩,
    ⟨(some 12), none, .call 9 [(.t 11), (.k (.d (.sl true 0 0 fun _ => [])))]⟩,
    ⟨(some 13), none, .inv .not (.t 12)⟩])
  (.cond (.t 13) (.seq (.reg [⟨(some 14), none, .call 10 []⟩,
      ⟨(some 6), none, .mov (.t 14)⟩])
    .ret)
  .skip))
  (.seq (.reg [⟨(some 16), none, .load 9 true (.t 3)⟩,
    ⟨(some 17), none, .load 4 true (.t 4)⟩,
    ⟨(some 18), none, .load 5 true (.t 5)⟩,
    ⟨(some 19), none, .call 11 [(.t 16), (.t 17), (.t 18)]⟩,
    ⟨(some 15), none, .mov (.t 19)⟩,
    ⟨(some 20), none, .ext 0 (.t 15)⟩,
    ⟨(some 21), none, .ext 1 (.t 15)⟩,
    ⟨(some 7), none, .mov (.t 20)⟩,
    ⟨(some 8), none, .mov (.t 21)⟩])
  (.seq (.reg [⟨(some 23), none, .load 9 true (.t 3)⟩,
    ⟨(some 24), none, .load 4 true (.t 4)⟩,
    ⟨(some 25), none, .load 5 true (.t 5)⟩,
    ⟨(some 26), none, .call 12 [(.t 23), (.t 24), (.t 25)]⟩,
    ⟨(some 22), none, .mov (.t 26)⟩,
    ⟨(some 27), none, .ext 0 (.t 22)⟩,
    ⟨(some 28), none, .ext 1 (.t 22)⟩,
    ⟨(some 9), none, .mov (.t 27)⟩,
    ⟨(some 10), none, .mov (.t 28)⟩])
  (.seq (.reg [⟨(some 29), none, .call 10 []⟩,
    ⟨(some 30), none, .mov (.t 29)⟩,
    ⟨(some 31), (some (30, true)), .mov (.t 7)⟩,
    ⟨(some 32), (some (30, true)), .mov (.t 9)⟩,
    ⟨(some 33), (some (30, true)), .bin .eql (.t 31) (.t 32)⟩,
    ⟨(some 34), none, .pick (.t 30) (.t 33) (.k (.d (.bool false)))⟩,
    ⟨(some 35), none, .mov (.t 34)⟩,
    ⟨(some 36), (some (35, true)), .mov (.t 8)⟩,
    ⟨(some 37), (some (35, true)), .mov (.t 10)⟩,
    ⟨(some 38), (some (35, true)), .bin .eql (.t 36) (.t 37)⟩,
    ⟨(some 39), none, .pick (.t 35) (.t 38) (.k (.d (.bool false)))⟩,
    ⟨(some 6), none, .mov (.t 39)⟩])
  .ret)))))
def rs3 : List RV := [.tmp 6]
theorem ok3 : okF Try.prog 3 = true := by kernel_rfl
theorem cc3 : cCode Try.prog Try.f3.ntmps (Try.f3.body.getD .skip) = some c3 := by kernel_rfl
theorem cr3 : cRess Try.prog Try.f3.results.toList = some rs3 := by kernel_rfl
theorem pure3 {args : List V} {res : V} (hlen : args.length ≤ 40) (hna : namesL args = []) (hnr : res.names = []) (h : ∀ c : Ctx, c.P = Try.prog → c.fn = [] → vcC c c3 ⟨initE 0 args, [], []⟩ (RetK c rs3 res [])) : Ctr Try.prog 3 args [] res [] [] :=
  ctr_pure Try.func3 ok3 rfl cc3 cr3 Try.ntmps3 hlen hna hnr h
theorem own3 {args : List V} {ins outs : List (Nat × Own)} {res : V} {new : List Nat} (hlen : args.length ≤ 40) (hf : ctrB args ins res outs new = true) (h : ∀ c : Ctx, c.P = Try.prog → c.fn = namesL args ++ ownNames ins → vcC c c3 ⟨initE 0 args, ins, namesL args ++ ownNames ins⟩ (RetK c rs3 res outs)) : Ctr Try.prog 3 args ins res outs new :=
  ctr_own Try.func3 ok3 rfl cc3 cr3 Try.ntmps3 hlen hf h

/-- bordereau/bordereaulaw09.QuoteYear -/
def c4 : C :=
  (.seq (.reg [⟨(some 3), none, .box 26 (.t 0)⟩,
    ⟨(some 4), none, .box 28 (.t 1)⟩,
    ⟨(some 6), none, .mov (.k (.d (.bool false)))⟩])
  (.seq (.seq (.reg [⟨(some 11), none, .load 9 true (.t 3)⟩,
    ⟨(some 12), none, .mov (.t 2)⟩,
    ⟨(some 13), none, .call 9 [(.t 11), (.t 12)]⟩,
    ⟨(some 14), none, .inv .not (.t 13)⟩])
  (.cond (.t 14) (.seq (.reg [⟨(some 15), none, .call 10 []⟩,
      ⟨(some 6), none, .mov (.t 15)⟩])
    .ret)
  .skip))
  (.seq (.reg [⟨(some 17), none, .load 9 true (.t 3)⟩,
    ⟨(some 18), none, .load 4 true (.t 4)⟩,
    ⟨(some 19), none, .mov (.t 2)⟩,
    ⟨(some 20), none, .call 13 [(.t 17), (.t 18), (.t 19)]⟩,
    ⟨(some 16), none, .mov (.t 20)⟩,
    ⟨(some 21), none, .ext 0 (.t 16)⟩,
    ⟨(some 22), none, .ext 1 (.t 16)⟩,
    ⟨(some 7), none, .mov (.t 21)⟩,
    ⟨(some 8), none, .mov (.t 22)⟩])
  (.seq (.reg [⟨(some 24), none, .load 9 true (.t 3)⟩,
    ⟨(some 25), none, .load 4 true (.t 4)⟩,
    ⟨(some 26), none, .mov (.t 2)⟩,
    ⟨(some 27), none, .call 14 [(.t 24), (.t 25), (.t 26)]⟩,
    ⟨(some 23), none, .mov (.t 27)⟩,
    ⟨(some 28), none, .ext 0 (.t 23)⟩,
    ⟨(some 29), none, .ext 1 (.t 23)⟩,
    ⟨(some 9), none, .mov (.t 28)⟩,
    ⟨(some 10), none, .mov (.t 29)⟩])
  (.seq (.reg [⟨(some 30), none, .call 10 []⟩,
    ⟨(some 31), none, .mov (.t 30)⟩,
    ⟨(some 32), (some (31, true)), .mov (.t 7)⟩,
    ⟨(some 33), (some (31, true)), .mov (.t 9)⟩,
    ⟨(some 34), (some (31, true)), .bin .eql (.t 32) (.t 33)⟩,
    ⟨(some 35), none, .pick (.t 31) (.t 34) (.k (.d (.bool false)))⟩,
    ⟨(some 36), none, .mov (.t 35)⟩,
    ⟨(some 37), (some (36, true)), .mov (.t 8)⟩,
    ⟨(some 38), (some (36, true)), .mov (.t 10)⟩,
    ⟨(some 39), (some (36, true)), .bin .eql (.t 37) (.t 38)⟩,
    ⟨(some 40), none, .pick (.t 36) (.t 39) (.k (.d (.bool false)))⟩,
    ⟨(some 6), none, .mov (.t 40)⟩])
  .ret)))))
def rs4 : List RV := [.tmp 6]
theorem ok4 : okF Try.prog 4 = true := by kernel_rfl
theorem cc4 : cCode Try.prog Try.f4.ntmps (Try.f4.body.getD .skip) = some c4 := by kernel_rfl
theorem cr4 : cRess Try.prog Try.f4.results.toList = some rs4 := by kernel_rfl
theorem pure4 {args : List V} {res : V} (hlen : args.length ≤ 41) (hna : namesL args = []) (hnr : res.names = []) (h : ∀ c : Ctx, c.P = Try.prog → c.fn = [] → vcC c c4 ⟨initE 0 args, [], []⟩ (RetK c rs4 res [])) : Ctr Try.prog 4 args [] res [] [] :=
  ctr_pure Try.func4 ok4 rfl cc4 cr4 Try.ntmps4 hlen hna hnr h
theorem own4 {args : List V} {ins outs : List (Nat × Own)} {res : V} {new : List Nat} (hlen : args.length ≤ 41) (hf : ctrB args ins res outs new = true) (h : ∀ c : Ctx, c.P = Try.prog → c.fn = namesL args ++ ownNames ins → vcC c c4 ⟨initE 0 args, ins, namesL args ++ ownNames ins⟩ (RetK c rs4 res outs)) : Ctr Try.prog 4 args ins res outs new :=
  ctr_own Try.func4 ok4 rfl cc4 cr4 Try.ntmps4 hlen hf h

/-- bordereau/bordereaulaw09.QuoteMin -/
def c5 : C :=
  (.seq (.reg [⟨(some 3), none, .box 26 (.t 0)⟩,
    ⟨(some 4), none, .box 28 (.t 1)⟩,
    ⟨(some 6), none, .mov (.k (.d (.bool false)))⟩])
  (.seq (.seq (.reg [⟨(some 13), none, .load 9 true (.t 3)⟩,
    ⟨(some 14), none, .mov (.t 2)⟩,
    ⟨(some 15), none, .call 9 [(.t 13), (.t 14)]⟩,
    ⟨(some 16), none, .inv .not (.t 15)⟩])
  (.cond (.t 16) (.seq (.reg [⟨(some 17), none, .call 10 []⟩,
      ⟨(some 6), none, .mov (.t 17)⟩])
    .ret)
  .skip))
  (.seq (.reg [⟨(some 19), none, .load 9 true (.t 3)⟩,
    ⟨(some 20), none, .load 4 true (.t 4)⟩,
    ⟨(some 21), none, .mov (.t 2)⟩,
    ⟨(some 22), none, .call 13 [(.t 19), (.t 20), (.t 21)]⟩,
    ⟨(some 18), none, .mov (.t 22)⟩,
    ⟨(some 23), none, .ext 0 (.t 18)⟩,
    ⟨(some 24), none, .ext 1 (.t 18)⟩,
    ⟨(some 7), none, .mov (.t 23)⟩,
    ⟨(some 8), none, .mov (.t 24)⟩])
  (.seq (.seq (.reg [⟨(some 25), none, .mov (.t 8)⟩,
    ⟨(some 26), none, .bin .neq (.t 25) (.k (.d (.int .i64 0)))⟩])
  (.cond (.t 26) (.seq (.reg [⟨(some 27), none, .call 10 []⟩,
      ⟨(some 28), none, .mov (.t 27)⟩,
      ⟨(some 29), (some (28, true)), .mov (.t 7)⟩,
      ⟨(some 30), (some (28, true)), .bin .eql (.t 29) (.k (.d (.int .i64 0)))⟩,
      ⟨(some 31), none, .pick (.t 28) (.t 30) (.k (.d (.bool false)))⟩,
      ⟨(some 6), none, .mov (.t 31)⟩])
    .ret)
  .skip))
  (.seq (.seq (.reg [⟨(some 32), none, .mov (.t 2)⟩,
    ⟨(some 33), none, .len (.t 32)⟩,
    ⟨(some 34), none, .mov (.k (.d (.int .i64 0)))⟩])
  (.block 0 (.loop (.seq (.reg [⟨(some 35), none, .bin .lss (.t 34) (.t 33)⟩])
      (.seq (.cond (.t 35) .skip
      (.exit 0))
      (.seq (.block 2 (.seq (.reg [⟨(some 36), none, .iadr 5 (.t 32) (.t 34)⟩,
          ⟨(some 37), none, .load 5 true (.t 36)⟩,
          ⟨(some 10), none, .alloc 30 [.d (.int .i64 0), .d (.int .i64 0), .d (.int .i64 0), .d (.int .i64 0), .d (.int .i64 0)]⟩,
          ⟨none, none, .store 5 (.t 10) (.t 37)⟩])
        (.seq (.reg [⟨(some 39), none, .load 9 true (.t 3)⟩,
          ⟨(some 40), none, .load 4 true (.t 4)⟩,
          ⟨(some 41), none, .load 5 true (.t 10)⟩,
          ⟨(some 42), none, .call 11 [(.t 39), (.t 40), (.t 41)]⟩,
          ⟨(some 38), none, .mov (.t 42)⟩,
          ⟨(some 43), none, .ext 0 (.t 38)⟩,
          ⟨(some 44), none, .ext 1 (.t 38)⟩,
          ⟨(some 11), none, .mov (.t 43)⟩,
          ⟨(some 12), none, .mov (.t 44)⟩])
        (.seq (.reg [⟨(some 45), none, .mov (.t 12)⟩,
          ⟨(some 46), none, .bin .neq (.t 45) (.k (.d (.int .i64 0)))⟩,
          ⟨(some 47), none, .mov (.t 46)⟩,
          ⟨(some 48), (some (47, false)), .mov (.t 11)⟩,
          ⟨(some 49), (some (47, false)), .fadr 8 (.t 3)⟩,
          ⟨(some 50), (some (47, false)), .load 1 false (.t 49)⟩,
          ⟨(some 51), (some (47, false)), .bin .lss (.t 48) (.t 50)⟩,
          ⟨(some 52), none, .pick (.t 47) (.k (.d (.bool true))) (.t 51)⟩])
        (.cond (.t 52) (.seq (.reg [⟨(some 6), none, .mov (.k (.d (.bool false)))⟩])
          .ret)
        .skip)))))
      (.reg [⟨(some 53), none, .bin .add (.t 34) (.k (.d (.int .i64 1)))⟩,
        ⟨(some 34), none, .mov (.t 53)⟩])))))))
  (.seq (.reg [⟨(some 54), none, .call 10 []⟩,
    ⟨(some 55), none, .mov (.t 54)⟩,
    ⟨(some 56), (some (55, true)), .mov (.t 7)⟩,
    ⟨(some 57), (some (55, true)), .fadr 8 (.t 3)⟩,
    ⟨(some 58), (some (55, true)), .load 1 false (.t 57)⟩,
    ⟨(some 59), (some (55, true)), .mov (.t 2)⟩,
    ⟨(some 60), (some (55, true)), .len (.t 59)⟩,
    ⟨(some 61), (some (55, true)), .bin .mul (.t 58) (.t 60)⟩,
    ⟨(some 62), (some (55, true)), .bin .geq (.t 56) (.t 61)⟩,
    ⟨(some 63), none, .pick (.t 55) (.t 62) (.k (.d (.bool false)))⟩,
    ⟨(some 6), none, .mov (.t 63)⟩])
  .ret))))))
def rs5 : List RV := [.tmp 6]
theorem ok5 : okF Try.prog 5 = true := by kernel_rfl
theorem cc5 : cCode Try.prog Try.f5.ntmps (Try.f5.body.getD .skip) = some c5 := by kernel_rfl
theorem cr5 : cRess Try.prog Try.f5.results.toList = some rs5 := by kernel_rfl
theorem pure5 {args : List V} {res : V} (hlen : args.length ≤ 64) (hna : namesL args = []) (hnr : res.names = []) (h : ∀ c : Ctx, c.P = Try.prog → c.fn = [] → vcC c c5 ⟨initE 0 args, [], []⟩ (RetK c rs5 res [])) : Ctr Try.prog 5 args [] res [] [] :=
  ctr_pure Try.func5 ok5 rfl cc5 cr5 Try.ntmps5 hlen hna hnr h
theorem own5 {args : List V} {ins outs : List (Nat × Own)} {res : V} {new : List Nat} (hlen : args.length ≤ 64) (hf : ctrB args ins res outs new = true) (h : ∀ c : Ctx, c.P = Try.prog → c.fn = namesL args ++ ownNames ins → vcC c c5 ⟨initE 0 args, ins, namesL args ++ ownNames ins⟩ (RetK c rs5 res outs)) : Ctr Try.prog 5 args ins res outs new :=
  ctr_own Try.func5 ok5 rfl cc5 cr5 Try.ntmps5 hlen hf h

/-- bordereau/bordereaulaw09.QuoteMore -/
def c6 : C :=
  (.seq (.reg [⟨(some 3), none, .box 26 (.t 0)⟩,
    ⟨(some 4), none, .box 28 (.t 1)⟩,
    ⟨(some 5), none, .box 40 (.t 2)⟩,
    ⟨(some 6), none, .mov (.k (.d (.bool false)))⟩])
  (.seq (.reg [⟨(some 16), none, .aadr 1 3 (.t 5) (.k (.d (.int .i64 2)))⟩,
    ⟨(some 17), none, .load 1 false (.t 16)⟩,
    ⟨(some 18), none, .bin .and (.t 17) (.k (.d (.int .i64 7)))⟩,
    ⟨(some 19), none, .aadr 1 3 (.t 5) (.k (.d (.int .i64 1)))⟩,
    ⟨(some 20), none, .load 1 false (.t 19)⟩,
    ⟨(some 21), none, .mm true (.t 20) (.k (.d (.int .i64 1)))⟩,
    ⟨(some 22), none, .mm false (.t 21) (.k (.d (.int .i64 5000)))⟩,
    ⟨(some 23), none, .call 15 [(.t 18), (.t 22)]⟩,
    ⟨(some 7), none, .alloc 30 [.d (.int .i64 0), .d (.int .i64 0), .d (.int .i64 0), .d (.int .i64 0), .d (.int .i64 0)]⟩,
    ⟨none, none, .store 5 (.t 7) (.t 23)⟩])
  (.seq (.seq (.reg [⟨(some 24), none, .load 9 true (.t 3)⟩,
    ⟨(some 25), none, .call 9 [(.t 24), (.k (.d (.sl true 0 0 fun _ => [])))]⟩,
    ⟨(some 26), none, .inv .not (.t 25)⟩])
  (.cond (.t 26) (.seq (.reg [⟨(some 27), none, .call 10 []⟩,
      ⟨(some 6), none, .mov (.t 27)⟩])
    .ret)
  .skip))
  (.seq (.drw [0, 0, 0, 0, 13, 31]
   [⟨(some 28), none, .load 4 true (.t 4)⟩,
    ⟨(some 29), none, .load 5 true (.t 7)⟩,
    ⟨(some 8), none, .alloc 28 [.d (.int .i64 0), .d (.int .i64 0), .d (.int .i64 0), .d (.int .i64 0)]⟩,
    ⟨(some 9), none, .alloc 30 [.d (.int .i64 0), .d (.int .i64 0), .d (.int .i64 0), .d (.int .i64 0), .d (.int .i64 0)]⟩,
    ⟨none, none, .store 4 (.t 8) (.t 28)⟩,
    ⟨none, none, .store 5 (.t 9) (.t 29)⟩])
  (.seq (.drw [0, 1, 0, 4, 15, 0, 32, 0, 128, 384, 992, 31, 2079, 8191, 16383]
   [⟨(some 30), none, .fadr 1 (.t 4)⟩,
    ⟨(some 31), none, .load 1 false (.t 30)⟩,
    ⟨(some 32), none, .aadr 1 3 (.t 5) (.k (.d (.int .i64 0)))⟩,
    ⟨(some 33), none, .load 1 false (.t 32)⟩,
    ⟨(some 34), none, .mm true (.t 31) (.t 33)⟩,
    ⟨(some 35), none, .fadr 4 (.t 7)⟩,
    ⟨(some 36), none, .load 1 false (.t 35)⟩,
    ⟨(some 37), none, .aadr 1 3 (.t 5) (.k (.d (.int .i64 1)))⟩,
    ⟨(some 38), none, .load 1 false (.t 37)⟩,
    ⟨(some 39), none, .bin .and (.t 38) (.k (.d (.int .i64 4095)))⟩,
    ⟨(some 40), none, .bin .add (.t 36) (.t 39)⟩,
    ⟨(some 41), none, .fadr 1 (.t 8)⟩,
    ⟨none, none, .store 1 (.t 41) (.t 34)⟩,
    ⟨(some 42), none, .fadr 4 (.t 9)⟩,
    ⟨none, none, .store 1 (.t 42) (.t 40)⟩])
  (.seq (.reg [⟨(some 44), none, .load 9 true (.t 3)⟩,
    ⟨(some 45), none, .load 4 true (.t 4)⟩,
    ⟨(some 46), none, .load 5 true (.t 7)⟩,
    ⟨(some 47), none, .call 11 [(.t 44), (.t 45), (.t 46)]⟩,
    ⟨(some 43), none, .mov (.t 47)⟩,
    ⟨(some 48), none, .ext 0 (.t 43)⟩,
    ⟨(some 49), none, .ext 1 (.t 43)⟩,
    ⟨(some 10), none, .mov (.t 48)⟩,
    ⟨(some 11), none, .mov (.t 49)⟩])
  (.seq (.reg [⟨(some 51), none, .load 9 true (.t 3)⟩,
    ⟨(some 52), none, .load 4 true (.t 8)⟩,
    ⟨(some 53), none, .load 5 true (.t 7)⟩,
    ⟨(some 54), none, .call 11 [(.t 51), (.t 52), (.t 53)]⟩,
    ⟨(some 50), none, .mov (.t 54)⟩,
    ⟨(some 55), none, .ext 0 (.t 50)⟩,
    ⟨(some 56), none, .ext 1 (.t 50)⟩,
    ⟨(some 12), none, .mov (.t 55)⟩,
    ⟨(some 13), none, .mov (.t 56)⟩])
  (.seq (.reg [⟨(some 58), none, .load 9 true (.t 3)⟩,
    ⟨(some 59), none, .load 4 true (.t 4)⟩,
    ⟨(some 60), none, .load 5 true (.t 9)⟩,
    ⟨(some 61), none, .call 11 [(.t 58), (.t 59), (.t 60)]⟩,
    ⟨(some 57), none, .mov (.t 61)⟩,
    ⟨(some 62), none, .ext 0 (.t 57)⟩,
    ⟨(some 63), none, .ext 1 (.t 57)⟩,
    ⟨(some 14), none, .mov (.t 62)⟩,
    ⟨(some 15), none, .mov (.t 63)⟩])
  (.seq (.reg [⟨(some 64), none, .call 10 []⟩,
    ⟨(some 65), none, .mov (.t 64)⟩,
    ⟨(some 66), (some (65, true)), .mov (.t 11)⟩,
    ⟨(some 67), (some (65, true)), .bin .neq (.t 66) (.k (.d (.int .i64 0)))⟩,
    ⟨(some 68), (some (65, true)), .mov (.t 67)⟩,
    ⟨(some 69), (some (68, false)), .mov (.t 13)⟩,
    ⟨(some 70), (some (68, false)), .bin .neq (.t 69) (.k (.d (.int .i64 0)))⟩,
    ⟨(some 71), (some (65, true)), .pick (.t 68) (.k (.d (.bool true))) (.t 70)⟩,
    ⟨(some 72), (some (65, true)), .mov (.t 71)⟩,
    ⟨(some 73), (some (72, false)), .mov (.t 12)⟩,
    ⟨(some 74), (some (72, false)), .mov (.t 10)⟩,
    ⟨(some 75), (some (72, false)), .bin .geq (.t 73) (.t 74)⟩,
    ⟨(some 76), (some (65, true)), .pick (.t 72) (.k (.d (.bool true))) (.t 75)⟩,
    ⟨(some 77), none, .pick (.t 65) (.t 76) (.k (.d (.bool false)))⟩,
    ⟨(some 78), none, .mov (.t 77)⟩,
    ⟨(some 79), (some (78, true)), .mov (.t 11)⟩,
    ⟨(some 80), (some (78, true)), .bin .neq (.t 79) (.k (.d (.int .i64 0)))⟩,
    ⟨(some 81), (some (78, true)), .mov (.t 80)⟩,
    ⟨(some 82), (some (81, false)), .mov (.t 15)⟩,
    ⟨(some 83), (some (81, false)), .bin .neq (.t 82) (.k (.d (.int .i64 0)))⟩,
    ⟨(some 84), (some (78, true)), .pick (.t 81) (.k (.d (.bool true))) (.t 83)⟩,
    ⟨(some 85), (some (78, true)), .mov (.t 84)⟩,
    ⟨(some 86), (some (85, false)), .mov (.t 14)⟩,
    ⟨(some 87), (some (85, false)), .mov (.t 10)⟩,
    ⟨(some 88), (some (85, false)), .bin .geq (.t 86) (.t 87)⟩,
    ⟨(some 89), (some (78, true)), .pick (.t 85) (.k (.d (.bool true))) (.t 88)⟩,
    ⟨(some 90), none, .pick (.t 78) (.t 89) (.k (.d (.bool false)))⟩,
    ⟨(some 6), none, .mov (.t 90)⟩])
  .ret)))))))))
def rs6 : List RV := [.tmp 6]
theorem ok6 : okF Try.prog 6 = true := by kernel_rfl
theorem cc6 : cCode Try.prog Try.f6.ntmps (Try.f6.body.getD .skip) = some c6 := by kernel_rfl
theorem cr6 : cRess Try.prog Try.f6.results.toList = some rs6 := by kernel_rfl
theorem pure6 {args : List V} {res : V} (hlen : args.length ≤ 91) (hna : namesL args = []) (hnr : res.names = []) (h : ∀ c : Ctx, c.P = Try.prog → c.fn = [] → vcC c c6 ⟨initE 0 args, [], []⟩ (RetK c rs6 res [])) : Ctr Try.prog 6 args [] res [] [] :=
  ctr_pure Try.func6 ok6 rfl cc6 cr6 Try.ntmps6 hlen hna hnr h
theorem own6 {args : List V} {ins outs : List (Nat × Own)} {res : V} {new : List Nat} (hlen : args.length ≤ 91) (hf : ctrB args ins res outs new = true) (h : ∀ c : Ctx, c.P = Try.prog → c.fn = namesL args ++ ownNames ins → vcC c c6 ⟨initE 0 args, ins, namesL args ++ ownNames ins⟩ (RetK c rs6 res outs)) : Ctr Try.prog 6 args ins res outs new :=
  ctr_own Try.func6 ok6 rfl cc6 cr6 Try.ntmps6 hlen hf h

/-- bordereau/bordereaulaw09.QuoteFactors -/
def c7 : C :=
  (.seq (.reg [⟨(some 3), none, .box 26 (.t 0)⟩,
    ⟨(some 4), none, .box 28 (.t 1)⟩,
    ⟨(some 5), none, .box 30 (.t 2)⟩,
    ⟨(some 6), none, .mov (.k (.d (.bool false)))⟩])
  (.seq (.reg [⟨(some 16), none, .load 9 true (.t 3)⟩,
    ⟨(some 17), none, .load 4 true (.t 4)⟩,
    ⟨(some 18), none, .load 5 true (.t 5)⟩,
    ⟨(some 19), none, .call 11 [(.t 16), (.t 17), (.t 18)]⟩,
    ⟨(some 15), none, .mov (.t 19)⟩,
    ⟨(some 20), none, .ext 0 (.t 15)⟩,
    ⟨(some 21), none, .ext 1 (.t 15)⟩,
    ⟨(some 7), none, .mov (.t 20)⟩,
    ⟨(some 8), none, .mov (.t 21)⟩])
  (.seq (.seq (.reg [⟨(some 22), none, .load 9 true (.t 3)⟩,
    ⟨(some 23), none, .call 9 [(.t 22), (.k (.d (.sl true 0 0 fun _ => [])))]⟩,
    ⟨(some 24), none, .inv .not (.t 23)⟩,
    ⟨(some 25), none, .mov (.t 24)⟩,
    ⟨(some 26), (some (25, false)), .mov (.t 8)⟩,
    ⟨(some 27), (some (25, false)), .bin .neq (.t 26) (.k (.d (.int .i64 0)))⟩,
    ⟨(some 28), none, .pick (.t 25) (.k (.d (.bool true))) (.t 27)⟩])
  (.cond (.t 28) (.seq (.reg [⟨(some 29), none, .call 10 []⟩,
      ⟨(some 6), none, .mov (.t 29)⟩])
    .ret)
  .skip))
  (.seq (.seq (.reg [⟨(some 30), none, .fadr 3 (.t 4)⟩,
    ⟨(some 31), none, .load 1 false (.t 30)⟩,
    ⟨(some 32), none, .fadr 6 (.t 3)⟩,
    ⟨(some 33), none, .load 1 false (.t 32)⟩,
    ⟨(some 34), none, .len (.t 33)⟩,
    ⟨(some 35), none, .bin .geq (.t 31) (.t 34)⟩,
    ⟨(some 36), none, .mov (.t 35)⟩,
    ⟨(some 37), (some (36, false)), .fadr 0 (.t 5)⟩,
    ⟨(some 38), (some (36, false)), .load 1 false (.t 37)⟩,
    ⟨(some 39), (some (36, false)), .fadr 7 (.t 3)⟩,
    ⟨(some 40), (some (36, false)), .load 1 false (.t 39)⟩,
    ⟨(some 41), (some (36, false)), .len (.t 40)⟩,
    ⟨(some 42), (some (36, false)), .bin .geq (.t 38) (.t 41)⟩,
    ⟨(some 43), none, .pick (.t 36) (.k (.d (.bool true))) (.t 42)⟩,
    ⟨(some 44), none, .mov (.t 43)⟩,
    ⟨(some 45), (some (44, false)), .fadr 0 (.t 5)⟩,
    ⟨(some 46), (some (44, false)), .load 1 false (.t 45)⟩,
    ⟨(some 47), (some (44, false)), .bin .lss (.t 46) (.k (.d (.int .i64 0)))⟩,
    ⟨(some 48), none, .pick (.t 44) (.k (.d (.bool true))) (.t 47)⟩,
    ⟨(some 49), none, .mov (.t 48)⟩,
    ⟨(some 50), (some (49, false)), .fadr 3 (.t 4)⟩,
    ⟨(some 51), (some (49, false)), .load 1 false (.t 50)⟩,
    ⟨(some 52), (some (49, false)), .bin .lss (.t 51) (.k (.d (.int .i64 0)))⟩,
    ⟨(some 53), none, .pick (.t 49) (.k (.d (.bool true))) (.t 52)⟩])
  (.cond (.t 53) (.seq (.reg [⟨(some 6), none, .mov (.k (.d (.bool false)))⟩])
    .ret)
  .skip))
  (.seq (.drw [0, 0, 0, 0, 13, 31]
   [⟨(some 54), none, .load 9 true (.t 3)⟩,
    ⟨(some 55), none, .load 9 true (.t 3)⟩,
    ⟨(some 9), none, .alloc 26 [.d (.int .i64 0), .d (.int .i64 0), .d (.int .i64 0), .d (.int .i64 0), .d (.int .i64 0), .d (.sl true 0 0 fun _ => []), .d (.sl true 0 0 fun _ => []), .d (.sl true 0 0 fun _ => []), .d (.int .i64 0)]⟩,
    ⟨(some 10), none, .alloc 26 [.d (.int .i64 0), .d (.int .i64 0), .d (.int .i64 0), .d (.int .i64 0), .d (.int .i64 0), .d (.sl true 0 0 fun _ => []), .d (.sl true 0 0 fun _ => []), .d (.sl true 0 0 fun _ => []), .d (.int .i64 0)]⟩,
    ⟨none, none, .store 9 (.t 9) (.t 54)⟩,
    ⟨none, none, .store 9 (.t 10) (.t 55)⟩])
  (.seq (.drw [0, 0, 2, 7, 0, 0, 32, 127, 15, 511, 1023, 2047]
   [⟨(some 56), none, .bslice 3 1 0 []⟩,
    ⟨(some 57), none, .fadr 6 (.t 3)⟩,
    ⟨(some 58), none, .load 1 false (.t 57)⟩,
    ⟨(some 59), none, .app 3 1 8 (.t 56) (.t 58)⟩,
    ⟨(some 60), none, .bslice 3 1 0 []⟩,
    ⟨(some 61), none, .fadr 7 (.t 3)⟩,
    ⟨(some 62), none, .load 1 false (.t 61)⟩,
    ⟨(some 63), none, .app 3 1 8 (.t 60) (.t 62)⟩,
    ⟨(some 64), none, .fadr 6 (.t 9)⟩,
    ⟨none, none, .store 1 (.t 64) (.t 59)⟩,
    ⟨(some 65), none, .fadr 7 (.t 10)⟩,
    ⟨none, none, .store 1 (.t 65) (.t 63)⟩])
  (.seq (.drw [0, 1, 0, 4, 0, 16, 0, 64, 240, 496, 1008, 2032, 4095, 8191]
   [⟨(some 66), none, .fadr 6 (.t 9)⟩,
    ⟨(some 67), none, .load 1 false (.t 66)⟩,
    ⟨(some 68), none, .fadr 3 (.t 4)⟩,
    ⟨(some 69), none, .load 1 false (.t 68)⟩,
    ⟨(some 70), none, .fadr 6 (.t 3)⟩,
    ⟨(some 71), none, .load 1 false (.t 70)⟩,
    ⟨(some 72), none, .fadr 3 (.t 4)⟩,
    ⟨(some 73), none, .load 1 false (.t 72)⟩,
    ⟨(some 74), none, .iadr 1 (.t 71) (.t 73)⟩,
    ⟨(some 75), none, .load 1 false (.t 74)⟩,
    ⟨(some 76), none, .bin .add (.t 75) (.k (.d (.int .i64 7)))⟩,
    ⟨(some 77), none, .mm false (.t 76) (.k (.d (.int .i64 100000)))⟩,
    ⟨(some 78), none, .iadr 1 (.t 67) (.t 69)⟩,
    ⟨none, none, .store 1 (.t 78) (.t 77)⟩])
  (.seq (.reg [⟨(some 79), none, .fadr 7 (.t 10)⟩,
    ⟨(some 80), none, .load 1 false (.t 79)⟩,
    ⟨(some 81), none, .fadr 0 (.t 5)⟩,
    ⟨(some 82), none, .load 1 false (.t 81)⟩,
    ⟨(some 83), none, .iadr 1 (.t 80) (.t 82)⟩,
    ⟨none, none, .store 1 (.t 83) (.k (.d (.int .i64 0)))⟩])
  (.seq (.reg [⟨(some 85), none, .load 9 true (.t 9)⟩,
    ⟨(some 86), none, .load 4 true (.t 4)⟩,
    ⟨(some 87), none, .load 5 true (.t 5)⟩,
    ⟨(some 88), none, .call 11 [(.t 85), (.t 86), (.t 87)]⟩,
    ⟨(some 84), none, .mov (.t 88)⟩,
    ⟨(some 89), none, .ext 0 (.t 84)⟩,
    ⟨(some 90), none, .ext 1 (.t 84)⟩,
    ⟨(some 11), none, .mov (.t 89)⟩,
    ⟨(some 12), none, .mov (.t 90)⟩])
  (.seq (.reg [⟨(some 92), none, .load 9 true (.t 10)⟩,
    ⟨(some 93), none, .load 4 true (.t 4)⟩,
    ⟨(some 94), none, .load 5 true (.t 5)⟩,
    ⟨(some 95), none, .call 11 [(.t 92), (.t 93), (.t 94)]⟩,
    ⟨(some 91), none, .mov (.t 95)⟩,
    ⟨(some 96), none, .ext 0 (.t 91)⟩,
    ⟨(some 97), none, .ext 1 (.t 91)⟩,
    ⟨(some 13), none, .mov (.t 96)⟩,
    ⟨(some 14), none, .mov (.t 97)⟩])
  (.seq (.reg [⟨(some 98), none, .call 10 []⟩,
    ⟨(some 99), none, .mov (.t 98)⟩,
    ⟨(some 100), (some (99, true)), .mov (.t 12)⟩,
    ⟨(some 101), (some (99, true)), .bin .neq (.t 100) (.k (.d (.int .i64 0)))⟩,
    ⟨(some 102), (some (99, true)), .mov (.t 101)⟩,
    ⟨(some 103), (some (102, false)), .mov (.t 11)⟩,
    ⟨(some 104), (some (102, false)), .mov (.t 7)⟩,
    ⟨(some 105), (some (102, false)), .bin .geq (.t 103) (.t 104)⟩,
    ⟨(some 106), (some (99, true)), .pick (.t 102) (.k (.d (.bool true))) (.t 105)⟩,
    ⟨(some 107), none, .pick (.t 99) (.t 106) (.k (.d (.bool false)))⟩,
    ⟨(some 108), none, .mov (.t 107)⟩,
    ⟨(some 109), (some (108, true)), .mov (.t 14)⟩,
    ⟨(some 110), (some (108, true)), .bin .eql (.t 109) (.k (.d (.int .i64 0)))⟩,
    ⟨(some 111), none, .pick (.t 108) (.t 110) (.k (.d (.bool false)))⟩,
    ⟨(some 112), none, .mov (.t 111)⟩,
    ⟨(some 113), (some (112, true)), .mov (.t 13)⟩,
    ⟨(some 114), (some (112, true)), .fadr 8 (.t 3)⟩,
    ⟨(some 115), (some (112, true)), .load 1 false (.t 114)⟩,
    ⟨(some 116), (some (112, true)), .bin .eql (.t 113) (.t 115)⟩,
    ⟨(some 117), none, .pick (.t 112) (.t 116) (.k (.d (.bool false)))⟩,
    ⟨(some 118), none, .mov (.t 117)⟩,
    ⟨(some 119), (some (118, true)), .load 9 true (.t 10)⟩,
    ⟨(some 120), (some (118, true)), .call 16 [(.t 119)]⟩,
    ⟨(some 121), none, .pick (.t 118) (.t 120) (.k (.d (.bool false)))⟩,
    ⟨(some 6), none, .mov (.t 121)⟩])
  .ret)))))))))))
def rs7 : List RV := [.tmp 6]
theorem ok7 : okF Try.prog 7 = true := by kernel_rfl
theorem cc7 : cCode Try.prog Try.f7.ntmps (Try.f7.body.getD .skip) = some c7 := by kernel_rfl
theorem cr7 : cRess Try.prog Try.f7.results.toList = some rs7 := by kernel_rfl
theorem pure7 {args : List V} {res : V} (hlen : args.length ≤ 122) (hna : namesL args = []) (hnr : res.names = []) (h : ∀ c : Ctx, c.P = Try.prog → c.fn = [] → vcC c c7 ⟨initE 0 args, [], []⟩ (RetK c rs7 res [])) : Ctr Try.prog 7 args [] res [] [] :=
  ctr_pure Try.func7 ok7 rfl cc7 cr7 Try.ntmps7 hlen hna hnr h
theorem own7 {args : List V} {ins outs : List (Nat × Own)} {res : V} {new : List Nat} (hlen : args.length ≤ 122) (hf : ctrB args ins res outs new = true) (h : ∀ c : Ctx, c.P = Try.prog → c.fn = namesL args ++ ownNames ins → vcC c c7 ⟨initE 0 args, ins, namesL args ++ ownNames ins⟩ (RetK c rs7 res outs)) : Ctr Try.prog 7 args ins res outs new :=
  ctr_own Try.func7 ok7 rfl cc7 cr7 Try.ntmps7 hlen hf h

/-- bordereau/bordereaulaw09.QuoteOrder -/
def c8 : C :=
  (.seq (.reg [⟨(some 3), none, .box 26 (.t 0)⟩,
    ⟨(some 4), none, .box 28 (.t 1)⟩,
    ⟨(some 6), none, .mov (.k (.d (.bool false)))⟩])
  (.seq (.seq (.reg [⟨(some 18), none, .load 9 true (.t 3)⟩,
    ⟨(some 19), none, .mov (.t 2)⟩,
    ⟨(some 20), none, .call 9 [(.t 18), (.t 19)]⟩,
    ⟨(some 21), none, .inv .not (.t 20)⟩])
  (.cond (.t 21) (.seq (.reg [⟨(some 22), none, .call 10 []⟩,
      ⟨(some 6), none, .mov (.t 22)⟩])
    .ret)
  .skip))
  (.seq (.reg [⟨(some 7), none, .mov (.k (.d (.sl true 0 0 fun _ => [])))⟩])
  (.seq (.seq (.reg [⟨(some 23), none, .mov (.t 2)⟩,
    ⟨(some 24), none, .len (.t 23)⟩,
    ⟨(some 25), none, .mov (.k (.d (.int .i64 0)))⟩])
  (.block 0 (.loop (.seq (.reg [⟨(some 26), none, .bin .lss (.t 25) (.t 24)⟩])
      (.seq (.cond (.t 26) .skip
      (.exit 0))
      (.seq (.block 2 (.seq (.reg [⟨(some 27), none, .mov (.t 25)⟩,
          ⟨(some 8), none, .mov (.t 27)⟩])
        (.reg [⟨(some 28), none, .mov (.t 7)⟩,
          ⟨(some 29), none, .mov (.t 2)⟩,
          ⟨(some 30), none, .mov (.t 2)⟩,
          ⟨(some 31), none, .len (.t 30)⟩,
          ⟨(some 32), none, .bin .sub (.t 31) (.k (.d (.int .i64 1)))⟩,
          ⟨(some 33), none, .mov (.t 8)⟩,
          ⟨(some 34), none, .bin .sub (.t 32) (.t 33)⟩,
          ⟨(some 35), none, .iadr 5 (.t 29) (.t 34)⟩,
          ⟨(some 36), none, .load 5 true (.t 35)⟩,
          ⟨(some 37), none, .bslice 30 5 1 [(.t 36)]⟩,
          ⟨(some 38), none, .app 30 5 40 (.t 28) (.t 37)⟩,
          ⟨(some 7), none, .mov (.t 38)⟩])))
      (.reg [⟨(some 39), none, .bin .add (.t 25) (.k (.d (.int .i64 1)))⟩,
        ⟨(some 25), none, .mov (.t 39)⟩])))))))
  (.seq (.reg [⟨(some 41), none, .load 9 true (.t 3)⟩,
    ⟨(some 42), none, .load 4 true (.t 4)⟩,
    ⟨(some 43), none, .mov (.t 2)⟩,
    ⟨(some 44), none, .call 13 [(.t 41), (.t 42), (.t 43)]⟩,
    ⟨(some 40), none, .mov (.t 44)⟩,
    ⟨(some 45), none, .ext 0 (.t 40)⟩,
    ⟨(some 46), none, .ext 1 (.t 40)⟩,
    ⟨(some 9), none, .mov (.t 45)⟩,
    ⟨(some 10), none, .mov (.t 46)⟩])
  (.seq (.reg [⟨(some 48), none, .load 9 true (.t 3)⟩,
    ⟨(some 49), none, .load 4 true (.t 4)⟩,
    ⟨(some 50), none, .mov (.t 7)⟩,
    ⟨(some 51), none, .call 13 [(.t 48), (.t 49), (.t 50)]⟩,
    ⟨(some 47), none, .mov (.t 51)⟩,
    ⟨(some 52), none, .ext 0 (.t 47)⟩,
    ⟨(some 53), none, .ext 1 (.t 47)⟩,
    ⟨(some 11), none, .mov (.t 52)⟩,
    ⟨(some 12), none, .mov (.t 53)⟩])
  (.seq (.reg [⟨(some 54), none, .mov (.t 2)⟩,
    ⟨(some 55), none, .len (.t 54)⟩,
    ⟨(some 56), none, .bin .quo (.t 55) (.k (.d (.int .i64 2)))⟩,
    ⟨(some 13), none, .mov (.t 56)⟩])
  (.seq (.drw [0, 0, 0, 0, 12, 31, 63, 127, 127, 255, 1023]
   [⟨(some 58), none, .load 9 true (.t 3)⟩,
    ⟨(some 59), none, .load 4 true (.t 4)⟩,
    ⟨(some 60), none, .mov (.t 2)⟩,
    ⟨(some 61), none, .mov (.t 13)⟩,
    ⟨(some 62), none, .slc 5 (.t 60) none (some (.t 61)) none⟩,
    ⟨(some 63), none, .call 13 [(.t 58), (.t 59), (.t 62)]⟩,
    ⟨(some 57), none, .mov (.t 63)⟩,
    ⟨(some 64), none, .ext 0 (.t 57)⟩,
    ⟨(some 65), none, .ext 1 (.t 57)⟩,
    ⟨(some 14), none, .mov (.t 64)⟩,
    ⟨(some 15), none, .mov (.t 65)⟩])
  (.seq (.drw [0, 0, 0, 0, 12, 31, 63, 127, 127, 255, 1023]
   [⟨(some 67), none, .load 9 true (.t 3)⟩,
    ⟨(some 68), none, .load 4 true (.t 4)⟩,
    ⟨(some 69), none, .mov (.t 2)⟩,
    ⟨(some 70), none, .mov (.t 13)⟩,
    ⟨(some 71), none, .slc 5 (.t 69) (some (.t 70)) none none⟩,
    ⟨(some 72), none, .call 13 [(.t 67), (.t 68), (.t 71)]⟩,
    ⟨(some 66), none, .mov (.t 72)⟩,
    ⟨(some 73), none, .ext 0 (.t 66)⟩,
    ⟨(some 74), none, .ext 1 (.t 66)⟩,
    ⟨(some 16), none, .mov (.t 73)⟩,
    ⟨(some 17), none, .mov (.t 74)⟩])
  (.seq (.reg [⟨(some 75), none, .call 10 []⟩,
    ⟨(some 76), none, .mov (.t 75)⟩,
    ⟨(some 77), (some (76, true)), .mov (.t 10)⟩,
    ⟨(some 78), (some (76, true)), .bin .eql (.t 77) (.k (.d (.int .i64 0)))⟩,
    ⟨(some 79), (some (76, true)), .mov (.t 12)⟩,
    ⟨(some 80), (some (76, true)), .bin .eql (.t 79) (.k (.d (.int .i64 0)))⟩,
    ⟨(some 81), (some (76, true)), .beq false (.t 78) (.t 80)⟩,
    ⟨(some 82), none, .pick (.t 76) (.t 81) (.k (.d (.bool false)))⟩,
    ⟨(some 83), none, .mov (.t 82)⟩,
    ⟨(some 84), (some (83, true)), .mov (.t 9)⟩,
    ⟨(some 85), (some (83, true)), .mov (.t 11)⟩,
    ⟨(some 86), (some (83, true)), .bin .eql (.t 84) (.t 85)⟩,
    ⟨(some 87), none, .pick (.t 83) (.t 86) (.k (.d (.bool false)))⟩,
    ⟨(some 88), none, .mov (.t 87)⟩,
    ⟨(some 89), (some (88, true)), .mov (.t 10)⟩,
    ⟨(some 90), (some (88, true)), .bin .neq (.t 89) (.k (.d (.int .i64 0)))⟩,
    ⟨(some 91), (some (88, true)), .mov (.t 90)⟩,
    ⟨(some 92), (some (91, false)), .mov (.t 15)⟩,
    ⟨(some 93), (some (91, false)), .bin .eql (.t 92) (.k (.d (.int .i64 0)))⟩,
    ⟨(some 94), (some (91, false)), .mov (.t 93)⟩,
    ⟨(some 95), (some (94, true)), .mov (.t 17)⟩,
    ⟨(some 96), (some (94, true)), .bin .eql (.t 95) (.k (.d (.int .i64 0)))⟩,
    ⟨(some 97), (some (91, false)), .pick (.t 94) (.t 96) (.k (.d (.bool false)))⟩,
    ⟨(some 98), (some (91, false)), .mov (.t 97)⟩,
    ⟨(some 99), (some (98, true)), .mov (.t 9)⟩,
    ⟨(some 100), (some (98, true)), .mov (.t 14)⟩,
    ⟨(some 101), (some (98, true)), .mov (.t 16)⟩,
    ⟨(some 102), (some (98, true)), .bin .add (.t 100) (.t 101)⟩,
    ⟨(some 103), (some (98, true)), .bin .eql (.t 99) (.t 102)⟩,
    ⟨(some 104), (some (91, false)), .pick (.t 98) (.t 103) (.k (.d (.bool false)))⟩,
    ⟨(some 105), (some (88, true)), .pick (.t 91) (.k (.d (.bool true))) (.t 104)⟩,
    ⟨(some 106), none, .pick (.t 88) (.t 105) (.k (.d (.bool false)))⟩,
    ⟨(some 6), none, .mov (.t 106)⟩])
  .ret))))))))))
def rs8 : List RV := [.tmp 6]
theorem ok8 : okF Try.prog 8 = true := by kernel_rfl
theorem cc8 : cCode Try.prog Try.f8.ntmps (Try.f8.body.getD .skip) = some c8 := by kernel_rfl
theorem cr8 : cRess Try.prog Try.f8.results.toList = some rs8 := by kernel_rfl
theorem pure8 {args : List V} {res : V} (hlen : args.length ≤ 107) (hna : namesL args = []) (hnr : res.names = []) (h : ∀ c : Ctx, c.P = Try.prog → c.fn = [] → vcC c c8 ⟨initE 0 args, [], []⟩ (RetK c rs8 res [])) : Ctr Try.prog 8 args [] res [] [] :=
  ctr_pure Try.func8 ok8 rfl cc8 cr8 Try.ntmps8 hlen hna hnr h
theorem own8 {args : List V} {ins outs : List (Nat × Own)} {res : V} {new : List Nat} (hlen : args.length ≤ 107) (hf : ctrB args ins res outs new = true) (h : ∀ c : Ctx, c.P = Try.prog → c.fn = namesL args ++ ownNames ins → vcC c c8 ⟨initE 0 args, ins, namesL args ++ ownNames ins⟩ (RetK c rs8 res outs)) : Ctr Try.prog 8 args ins res outs new :=
  ctr_own Try.func8 ok8 rfl cc8 cr8 Try.ntmps8 hlen hf h

/-- bordereau/bordereaulaw09.few -/
def c9 : C :=
  (.seq (.reg [⟨(some 2), none, .box 26 (.t 0)⟩,
    ⟨(some 4), none, .mov (.k (.d (.bool false)))⟩])
  (.seq (.reg [⟨(some 5), none, .fadr 5 (.t 2)⟩,
    ⟨(some 6), none, .load 1 false (.t 5)⟩,
    ⟨(some 7), none, .len (.t 6)⟩,
    ⟨(some 8), none, .fadr 6 (.t 2)⟩,
    ⟨(some 9), none, .load 1 false (.t 8)⟩,
    ⟨(some 10), none, .len (.t 9)⟩,
    ⟨(some 11), none, .bin .add (.t 7) (.t 10)⟩,
    ⟨(some 12), none, .fadr 7 (.t 2)⟩,
    ⟨(some 13), none, .load 1 false (.t 12)⟩,
    ⟨(some 14), none, .len (.t 13)⟩,
    ⟨(some 15), none, .bin .add (.t 11) (.t 14)⟩,
    ⟨(some 16), none, .bin .leq (.t 15) (.k (.d (.int .i64 400)))⟩,
    ⟨(some 17), none, .mov (.t 16)⟩,
    ⟨(some 18), (some (17, true)), .mov (.t 1)⟩,
    ⟨(some 19), (some (17, true)), .len (.t 18)⟩,
    ⟨(some 20), (some (17, true)), .bin .leq (.t 19) (.k (.d (.int .i64 50)))⟩,
    ⟨(some 21), none, .pick (.t 17) (.t 20) (.k (.d (.bool false)))⟩,
    ⟨(some 4), none, .mov (.t 21)⟩])
  .ret))
def rs9 : List RV := [.tmp 4]
theorem ok9 : okF Try.prog 9 = true := by kernel_rfl
theorem cc9 : cCode Try.prog Try.f9.ntmps (Try.f9.body.getD .skip) = some c9 := by kernel_rfl
theorem cr9 : cRess Try.prog Try.f9.results.toList = some rs9 := by kernel_rfl
theorem pure9 {args : List V} {res : V} (hlen : args.length ≤ 22) (hna : namesL args = []) (hnr : res.names = []) (h : ∀ c : Ctx, c.P = Try.prog → c.fn = [] → vcC c c9 ⟨initE 0 args, [], []⟩ (RetK c rs9 res [])) : Ctr Try.prog 9 args [] res [] [] :=
  ctr_pure Try.func9 ok9 rfl cc9 cr9 Try.ntmps9 hlen hna hnr h
theorem own9 {args : List V} {ins outs : List (Nat × Own)} {res : V} {new : List Nat} (hlen : args.length ≤ 22) (hf : ctrB args ins res outs new = true) (h : ∀ c : Ctx, c.P = Try.prog → c.fn = namesL args ++ ownNames ins → vcC c c9 ⟨initE 0 args, ins, namesL args ++ ownNames ins⟩ (RetK c rs9 res outs)) : Ctr Try.prog 9 args ins res outs new :=
  ctr_own Try.func9 ok9 rfl cc9 cr9 Try.ntmps9 hlen hf h

/-- bordereau/bordereaulaw09.alive -/
def c10 : C :=
  (.seq (.reg [⟨(some 0), none, .mov (.k (.d (.bool false)))⟩])
  (.seq (.reg [⟨(some 14), none, .build [.d (.int .i64 0), .d (.int .i64 0), .d (.int .i64 0), .d (.int .i64 0)] [(1, 1, (.k (.d (.int .i64 1000000)))), (2, 1, (.k (.d (.int .i64 30))))]⟩,
    ⟨(some 1), none, .alloc 28 [.d (.int .i64 0), .d (.int .i64 0), .d (.int .i64 0), .d (.int .i64 0)]⟩,
    ⟨none, none, .store 4 (.t 1) (.t 14)⟩])
  (.seq (.drw [0, 0, 1, 7, 15, 31, 31, 63, 255]
   [⟨(some 16), none, .call 17 []⟩,
    ⟨(some 17), none, .load 4 true (.t 1)⟩,
    ⟨(some 18), none, .call 15 [(.k (.d (.int .i64 0))), (.k (.d (.int .i64 10000)))]⟩,
    ⟨(some 19), none, .call 11 [(.t 16), (.t 17), (.t 18)]⟩,
    ⟨(some 15), none, .mov (.t 19)⟩,
    ⟨(some 20), none, .ext 0 (.t 15)⟩,
    ⟨(some 21), none, .ext 1 (.t 15)⟩,
    ⟨(some 2), none, .mov (.t 20)⟩,
    ⟨(some 3), none, .mov (.t 21)⟩])
  (.seq (.drw [0, 0, 1, 7, 15, 31, 31, 63, 255]
   [⟨(some 23), none, .call 17 []⟩,
    ⟨(some 24), none, .load 4 true (.t 1)⟩,
    ⟨(some 25), none, .call 15 [(.k (.d (.int .i64 1))), (.k (.d (.int .i64 5000)))]⟩,
    ⟨(some 26), none, .call 11 [(.t 23), (.t 24), (.t 25)]⟩,
    ⟨(some 22), none, .mov (.t 26)⟩,
    ⟨(some 27), none, .ext 0 (.t 22)⟩,
    ⟨(some 28), none, .ext 1 (.t 22)⟩,
    ⟨(some 4), none, .mov (.t 27)⟩,
    ⟨(some 5), none, .mov (.t 28)⟩])
  (.seq (.drw [0, 0, 1, 7, 15, 31, 31, 63, 255]
   [⟨(some 30), none, .call 17 []⟩,
    ⟨(some 31), none, .load 4 true (.t 1)⟩,
    ⟨(some 32), none, .call 15 [(.k (.d (.int .i64 7))), (.k (.d (.int .i64 5000)))]⟩,
    ⟨(some 33), none, .call 11 [(.t 30), (.t 31), (.t 32)]⟩,
    ⟨(some 29), none, .mov (.t 33)⟩,
    ⟨(some 34), none, .ext 0 (.t 29)⟩,
    ⟨(some 35), none, .ext 1 (.t 29)⟩,
    ⟨(some 6), none, .mov (.t 34)⟩,
    ⟨(some 7), none, .mov (.t 35)⟩])
  (.seq (.reg [⟨(some 37), none, .call 17 []⟩,
    ⟨(some 38), none, .build [.d (.int .i64 0), .d (.int .i64 0), .d (.int .i64 0), .d (.int .i64 0)] [(1, 1, (.k (.d (.int .i64 1)))), (3, 1, (.k (.d (.int .i64 1))))]⟩,
    ⟨(some 39), none, .call 15 [(.k (.d (.int .i64 0))), (.k (.d (.int .i64 1)))]⟩,
    ⟨(some 40), none, .call 11 [(.t 37), (.t 38), (.t 39)]⟩,
    ⟨(some 36), none, .mov (.t 40)⟩,
    ⟨(some 41), none, .ext 0 (.t 36)⟩,
    ⟨(some 42), none, .ext 1 (.t 36)⟩,
    ⟨(some 8), none, .mov (.t 41)⟩,
    ⟨(some 9), none, .mov (.t 42)⟩])
  (.seq (.drw [0, 0, 0, 7, 15, 31, 31, 63, 255]
   [⟨(some 44), none, .build [.d (.int .i64 0), .d (.int .i64 0), .d (.int .i64 0), .d (.int .i64 0), .d (.int .i64 0), .d (.sl true 0 0 fun _ => []), .d (.sl true 0 0 fun _ => []), .d (.sl true 0 0 fun _ => []), .d (.int .i64 0)] []⟩,
    ⟨(some 45), none, .load 4 true (.t 1)⟩,
    ⟨(some 46), none, .call 15 [(.k (.d (.int .i64 0))), (.k (.d (.int .i64 1)))]⟩,
    ⟨(some 47), none, .call 11 [(.t 44), (.t 45), (.t 46)]⟩,
    ⟨(some 43), none, .mov (.t 47)⟩,
    ⟨(some 48), none, .ext 0 (.t 43)⟩,
    ⟨(some 49), none, .ext 1 (.t 43)⟩,
    ⟨(some 10), none, .mov (.t 48)⟩,
    ⟨(some 11), none, .mov (.t 49)⟩])
  (.seq (.drw [0, 0, 1, 5, 13, 31, 63, 127, 127, 255, 1023]
   [⟨(some 51), none, .call 17 []⟩,
    ⟨(some 52), none, .load 4 true (.t 1)⟩,
    ⟨(some 53), none, .call 15 [(.k (.d (.int .i64 0))), (.k (.d (.int .i64 10000)))]⟩,
    ⟨(some 54), none, .call 15 [(.k (.d (.int .i64 1))), (.k (.d (.int .i64 5000)))]⟩,
    ⟨(some 55), none, .bslice 30 5 2 [(.t 53), (.t 54)]⟩,
    ⟨(some 56), none, .call 13 [(.t 51), (.t 52), (.t 55)]⟩,
    ⟨(some 50), none, .mov (.t 56)⟩,
    ⟨(some 57), none, .ext 0 (.t 50)⟩,
    ⟨(some 58), none, .ext 1 (.t 50)⟩,
    ⟨(some 12), none, .mov (.t 57)⟩,
    ⟨(some 13), none, .mov (.t 58)⟩])
  (.seq (.reg [⟨(some 59), none, .mov (.t 2)⟩,
    ⟨(some 60), none, .bin .eql (.t 59) (.k (.d (.int .i64 5000)))⟩,
    ⟨(some 61), none, .mov (.t 60)⟩,
    ⟨(some 62), (some (61, true)), .mov (.t 3)⟩,
    ⟨(some 63), (some (61, true)), .bin .eql (.t 62) (.k (.d (.int .i64 0)))⟩,
    ⟨(some 64), none, .pick (.t 61) (.t 63) (.k (.d (.bool false)))⟩,
    ⟨(some 65), none, .mov (.t 64)⟩,
    ⟨(some 66), (some (65, true)), .mov (.t 4)⟩,
    ⟨(some 67), (some (65, true)), .bin .eql (.t 66) (.k (.d (.int .i64 2500)))⟩,
    ⟨(some 68), none, .pick (.t 65) (.t 67) (.k (.d (.bool false)))⟩,
    ⟨(some 69), none, .mov (.t 68)⟩,
    ⟨(some 70), (some (69, true)), .mov (.t 6)⟩,
    ⟨(some 71), (some (69, true)), .bin .eql (.t 70) (.k (.d (.int .i64 100)))⟩,
    ⟨(some 72), none, .pick (.t 69) (.t 71) (.k (.d (.bool false)))⟩,
    ⟨(some 73), none, .mov (.t 72)⟩,
    ⟨(some 74), (some (73, true)), .mov (.t 9)⟩,
    ⟨(some 75), (some (73, true)), .bin .eql (.t 74) (.k (.d (.int .i64 7)))⟩,
    ⟨(some 76), none, .pick (.t 73) (.t 75) (.k (.d (.bool false)))⟩,
    ⟨(some 77), none, .mov (.t 76)⟩,
    ⟨(some 78), (some (77, true)), .mov (.t 11)⟩,
    ⟨(some 79), (some (77, true)), .bin .eql (.t 78) (.k (.d (.int .i64 1)))⟩,
    ⟨(some 80), none, .pick (.t 77) (.t 79) (.k (.d (.bool false)))⟩,
    ⟨(some 81), none, .mov (.t 80)⟩,
    ⟨(some 82), (some (81, true)), .mov (.t 12)⟩,
    ⟨(some 83), (some (81, true)), .bin .eql (.t 82) (.k (.d (.int .i64 7500)))⟩,
    ⟨(some 84), none, .pick (.t 81) (.t 83) (.k (.d (.bool false)))⟩,
    ⟨(some 85), none, .mov (.t 84)⟩,
    ⟨(some 86), (some (85, true)), .mov (.t 13)⟩,
    ⟨(some 87), (some (85, true)), .bin .eql (.t 86) (.k (.d (.int .i64 0)))⟩,
    ⟨(some 88), none, .pick (.t 85) (.t 87) (.k (.d (.bool false)))⟩,
    ⟨(some 0), none, .mov (.t 88)⟩])
  .ret)))))))))
def rs10 : List RV := [.tmp 0]
theorem ok10 : okF Try.prog 10 = true := by kernel_rfl
theorem cc10 : cCode Try.prog Try.f10.ntmps (Try.f10.body.getD .skip) = some c10 := by kernel_rfl
theorem cr10 : cRess Try.prog Try.f10.results.toList = some rs10 := by kernel_rfl
theorem pure10 {args : List V} {res : V} (hlen : args.length ≤ 89) (hna : namesL args = []) (hnr : res.names = []) (h : ∀ c : Ctx, c.P = Try.prog → c.fn = [] → vcC c c10 ⟨initE 0 args, [], []⟩ (RetK c rs10 res [])) : Ctr Try.prog 10 args [] res [] [] :=
  ctr_pure Try.func10 ok10 rfl cc10 cr10 Try.ntmps10 hlen hna hnr h
theorem own10 {args : List V} {ins outs : List (Nat × Own)} {res : V} {new : List Nat} (hlen : args.length ≤ 89) (hf : ctrB args ins res outs new = true) (h : ∀ c : Ctx, c.P = Try.prog → c.fn = namesL args ++ ownNames ins → vcC c c10 ⟨initE 0 args, ins, namesL args ++ ownNames ins⟩ (RetK c rs10 res outs)) : Ctr Try.prog 10 args ins res outs new :=
  ctr_own Try.func10 ok10 rfl cc10 cr10 Try.ntmps10 hlen hf h

/-- bordereau/quote.One -/
def c11 : C :=
  (.seq (.reg [⟨(some 3), none, .box 26 (.t 0)⟩,
    ⟨(some 4), none, .box 28 (.t 1)⟩,
    ⟨(some 5), none, .box 30 (.t 2)⟩,
    ⟨(some 6), none, .mov (.k (.d (.int .i64 0)))⟩,
    ⟨(some 7), none, .mov (.k (.d (.int .i64 0)))⟩])
  (.scope 1 (.seq (.block 0 (.seq (.reg [⟨(some 13), none, .load 9 true (.t 3)⟩,
        ⟨(some 14), none, .call 18 [(.t 13)]⟩,
        ⟨(some 15), none, .inv .not (.t 14)⟩,
        ⟨(some 16), none, .mov (.t 15)⟩,
        ⟨(some 17), (some (16, false)), .load 4 true (.t 4)⟩,
        ⟨(some 18), (some (16, false)), .call 19 [(.t 17)]⟩,
        ⟨(some 19), (some (16, false)), .inv .not (.t 18)⟩,
        ⟨(some 20), none, .pick (.t 16) (.k (.d (.bool true))) (.t 19)⟩,
        ⟨(some 21), none, .mov (.t 20)⟩,
        ⟨(some 22), (some (21, false)), .load 5 true (.t 5)⟩,
        ⟨(some 23), (some (21, false)), .call 20 [(.t 22)]⟩,
        ⟨(some 24), (some (21, false)), .inv .not (.t 23)⟩,
        ⟨(some 25), none, .pick (.t 21) (.k (.d (.bool true))) (.t 24)⟩,
        ⟨(some 12), none, .mov (.t 25)⟩])
      (.cond (.t 12) (.seq (.reg [⟨(some 6), none, .mov (.k (.d (.int .i64 0)))⟩,
          ⟨(some 7), none, .mov (.k (.d (.int .i64 1)))⟩])
        .ret)
      (.seq (.reg [⟨(some 27), none, .fadr 3 (.t 4)⟩,
          ⟨(some 28), none, .load 1 false (.t 27)⟩,
          ⟨(some 29), none, .fadr 6 (.t 3)⟩,
          ⟨(some 30), none, .load 1 false (.t 29)⟩,
          ⟨(some 31), none, .len (.t 30)⟩,
          ⟨(some 32), none, .bin .geq (.t 28) (.t 31)⟩,
          ⟨(some 26), none, .mov (.t 32)⟩])
        (.cond (.t 26) (.seq (.reg [⟨(some 6), none, .mov (.k (.d (.int .i64 0)))⟩,
            ⟨(some 7), none, .mov (.k (.d (.int .i64 7)))⟩])
          .ret)
        .skip)))))
    (.seq (.reg [⟨(some 33), none, .fadr 1 (.t 4)⟩,
      ⟨(some 34), none, .load 1 false (.t 33)⟩,
      ⟨(some 8), none, .mov (.t 34)⟩,
      ⟨(some 9), none, .mov (.k (.d (.int .i64 0)))⟩])
    (.seq .skip
    (.seq (.seq (.drw [0, 1, 0, 7, 15, 0, 32, 0, 128, 480, 0, 1024, 0, 4096, 15360, 31744, 0, 65536, 0, 262144, 983040, 2031616, 0, 4194304, 16777215, 0]
     [⟨(some 35), none, .fadr 0 (.t 4)⟩,
      ⟨(some 36), none, .load 1 false (.t 35)⟩,
      ⟨(some 37), none, .fadr 1 (.t 3)⟩,
      ⟨(some 38), none, .aadr 1 4 (.t 37) (.t 36)⟩,
      ⟨(some 39), none, .load 1 false (.t 38)⟩,
      ⟨(some 40), none, .fadr 5 (.t 3)⟩,
      ⟨(some 41), none, .load 1 false (.t 40)⟩,
      ⟨(some 42), none, .fadr 2 (.t 4)⟩,
      ⟨(some 43), none, .load 1 false (.t 42)⟩,
      ⟨(some 44), none, .call 21 [(.t 41), (.t 43)]⟩,
      ⟨(some 45), none, .fadr 6 (.t 3)⟩,
      ⟨(some 46), none, .load 1 false (.t 45)⟩,
      ⟨(some 47), none, .fadr 3 (.t 4)⟩,
      ⟨(some 48), none, .load 1 false (.t 47)⟩,
      ⟨(some 49), none, .iadr 1 (.t 46) (.t 48)⟩,
      ⟨(some 50), none, .load 1 false (.t 49)⟩,
      ⟨(some 51), none, .fadr 7 (.t 3)⟩,
      ⟨(some 52), none, .load 1 false (.t 51)⟩,
      ⟨(some 53), none, .fadr 0 (.t 5)⟩,
      ⟨(some 54), none, .load 1 false (.t 53)⟩,
      ⟨(some 55), none, .iadr 1 (.t 52) (.t 54)⟩,
      ⟨(some 56), none, .load 1 false (.t 55)⟩,
      ⟨(some 57), none, .fadr 4 (.t 5)⟩,
      ⟨(some 58), none, .load 1 false (.t 57)⟩,
      ⟨(some 59), none, .build [.d (.int .i64 0), .d (.int .i64 0), .d (.int .i64 0), .d (.int .i64 0), .d (.int .i64 0)] [(0, 1, (.t 39)), (1, 1, (.t 44)), (2, 1, (.t 50)), (3, 1, (.t 56)), (4, 1, (.t 58))]⟩,
      ⟨(some 60), none, .mov (.k (.d (.int .i64 0)))⟩])
    (.block 2 (.loop (.seq (.reg [⟨(some 61), none, .bin .lss (.t 60) (.k (.d (.int .i64 5)))⟩])
        (.seq (.cond (.t 61) .skip
        (.exit 2))
        (.seq (.block 4 (.seq (.reg [⟨(some 62), none, .idx 1 5 false (.t 59) (.t 60)⟩,
            ⟨(some 11), none, .mov (.t 62)⟩])
          (.seq (.reg [⟨(some 64), none, .mov (.t 8)⟩,
            ⟨(some 65), none, .mov (.t 11)⟩,
            ⟨(some 66), none, .call 22 [(.t 64), (.t 65)]⟩,
            ⟨(some 63), none, .mov (.t 66)⟩,
            ⟨(some 67), none, .ext 0 (.t 63)⟩,
            ⟨(some 68), none, .ext 1 (.t 63)⟩,
            ⟨(some 8), none, .mov (.t 67)⟩,
            ⟨(some 9), none, .mov (.t 68)⟩])
          (.seq (.reg [⟨(some 69), none, .mov (.t 9)⟩,
            ⟨(some 70), none, .bin .neq (.t 69) (.k (.d (.int .i64 0)))⟩])
          (.cond (.t 70) (.exit 2)
          .skip)))))
        (.reg [⟨(some 71), none, .bin .add (.t 60) (.k (.d (.int .i64 1)))⟩,
          ⟨(some 60), none, .mov (.t 71)⟩])))))))
    (.seq (.seq (.reg [⟨(some 72), none, .mov (.t 9)⟩,
      ⟨(some 73), none, .bin .neq (.t 72) (.k (.d (.int .i64 0)))⟩])
    (.cond (.t 73) (.seq (.reg [⟨(some 74), none, .mov (.t 9)⟩,
        ⟨(some 6), none, .mov (.k (.d (.int .i64 0)))⟩,
        ⟨(some 7), none, .mov (.t 74)⟩])
      .ret)
    .skip))
    (.seq (.reg [⟨(some 75), none, .mov (.t 8)⟩,
      ⟨(some 76), none, .fadr 8 (.t 3)⟩,
      ⟨(some 77), none, .load 1 false (.t 76)⟩,
      ⟨(some 78), none, .mm true (.t 75) (.t 77)⟩,
      ⟨(some 6), none, .mov (.t 78)⟩,
      ⟨(some 7), none, .mov (.k (.d (.int .i64 0)))⟩])
    .ret))))))
  (.seq .skip
    (.seq (.seq (.drw [0, 1, 0, 7, 15, 0, 32, 0, 128, 480, 0, 1024, 0, 4096, 15360, 31744, 0, 65536, 0, 262144, 983040, 2031616, 0, 4194304, 16777215, 0]
     [⟨(some 35), none, .fadr 0 (.t 4)⟩,
      ⟨(some 36), none, .load 1 false (.t 35)⟩,
      ⟨(some 37), none, .fadr 1 (.t 3)⟩,
      ⟨(some 38), none, .aadr 1 4 (.t 37) (.t 36)⟩,
      ⟨(some 39), none, .load 1 false (.t 38)⟩,
      ⟨(some 40), none, .fadr 5 (.t 3)⟩,
      ⟨(some 41), none, .load 1 false (.t 40)⟩,
      ⟨(some 42), none, .fadr 2 (.t 4)⟩,
      ⟨(some 43), none, .load 1 false (.t 42)⟩,
      ⟨(some 44), none, .call 21 [(.t 41), (.t 43)]⟩,
      ⟨(some 45), none, .fadr 6 (.t 3)⟩,
      ⟨(some 46), none, .load 1 false (.t 45)⟩,
      ⟨(some 47), none, .fadr 3 (.t 4)⟩,
      ⟨(some 48), none, .load 1 false (.t 47)⟩,
      ⟨(some 49), none, .iadr 1 (.t 46) (.t 48)⟩,
      ⟨(some 50), none, .load 1 false (.t 49)⟩,
      ⟨(some 51), none, .fadr 7 (.t 3)⟩,
      ⟨(some 52), none, .load 1 false (.t 51)⟩,
      ⟨(some 53), none, .fadr 0 (.t 5)⟩,
      ⟨(some 54), none, .load 1 false (.t 53)⟩,
      ⟨(some 55), none, .iadr 1 (.t 52) (.t 54)⟩,
      ⟨(some 56), none, .load 1 false (.t 55)⟩,
      ⟨(some 57), none, .fadr 4 (.t 5)⟩,
      ⟨(some 58), none, .load 1 false (.t 57)⟩,
      ⟨(some 59), none, .build [.d (.int .i64 0), .d (.int .i64 0), .d (.int .i64 0), .d (.int .i64 0), .d (.int .i64 0)] [(0, 1, (.t 39)), (1, 1, (.t 44)), (2, 1, (.t 50)), (3, 1, (.t 56)), (4, 1, (.t 58))]⟩,
      ⟨(some 60), none, .mov (.k (.d (.int .i64 0)))⟩])
    (.block 2 (.loop (.seq (.reg [⟨(some 61), none, .bin .lss (.t 60) (.k (.d (.int .i64 5)))⟩])
        (.seq (.cond (.t 61) .skip
        (.exit 2))
        (.seq (.block 4 (.seq (.reg [⟨(some 62), none, .idx 1 5 false (.t 59) (.t 60)⟩,
            ⟨(some 11), none, .mov (.t 62)⟩])
          (.seq (.reg [⟨(some 64), none, .mov (.t 8)⟩,
            ⟨(some 65), none, .mov (.t 11)⟩,
            ⟨(some 66), none, .call 22 [(.t 64), (.t 65)]⟩,
            ⟨(some 63), none, .mov (.t 66)⟩,
            ⟨(some 67), none, .ext 0 (.t 63)⟩,
            ⟨(some 68), none, .ext 1 (.t 63)⟩,
            ⟨(some 8), none, .mov (.t 67)⟩,
            ⟨(some 9), none, .mov (.t 68)⟩])
          (.seq (.reg [⟨(some 69), none, .mov (.t 9)⟩,
            ⟨(some 70), none, .bin .neq (.t 69) (.k (.d (.int .i64 0)))⟩])
          (.cond (.t 70) (.exit 2)
          .skip)))))
        (.reg [⟨(some 71), none, .bin .add (.t 60) (.k (.d (.int .i64 1)))⟩,
          ⟨(some 60), none, .mov (.t 71)⟩])))))))
    (.seq (.seq (.reg [⟨(some 72), none, .mov (.t 9)⟩,
      ⟨(some 73), none, .bin .neq (.t 72) (.k (.d (.int .i64 0)))⟩])
    (.cond (.t 73) (.seq (.reg [⟨(some 74), none, .mov (.t 9)⟩,
        ⟨(some 6), none, .mov (.k (.d (.int .i64 0)))⟩,
        ⟨(some 7), none, .mov (.t 74)⟩])
      .ret)
    .skip))
    (.seq (.reg [⟨(some 75), none, .mov (.t 8)⟩,
      ⟨(some 76), none, .fadr 8 (.t 3)⟩,
      ⟨(some 77), none, .load 1 false (.t 76)⟩,
      ⟨(some 78), none, .mm true (.t 75) (.t 77)⟩,
      ⟨(some 6), none, .mov (.t 78)⟩,
      ⟨(some 7), none, .mov (.k (.d (.int .i64 0)))⟩])
    .ret))))))
def rs11 : List RV := [.tmp 6, .tmp 7]
theorem ok11 : okF Try.prog 11 = true := by kernel_rfl
theorem cc11 : cCode Try.prog Try.f11.ntmps (Try.f11.body.getD .skip) = some c11 := by kernel_rfl
theorem cr11 : cRess Try.prog Try.f11.results.toList = some rs11 := by kernel_rfl
theorem pure11 {args : List V} {res : V} (hlen : args.length ≤ 79) (hna : namesL args = []) (hnr : res.names = []) (h : ∀ c : Ctx, c.P = Try.prog → c.fn = [] → vcC c c11 ⟨initE 0 args, [], []⟩ (RetK c rs11 res [])) : Ctr Try.prog 11 args [] res [] [] :=
  ctr_pure Try.func11 ok11 rfl cc11 cr11 Try.ntmps11 hlen hna hnr h
theorem own11 {args : List V} {ins outs : List (Nat × Own)} {res : V} {new : List Nat} (hlen : args.length ≤ 79) (hf : ctrB args ins res outs new = true) (h : ∀ c : Ctx, c.P = Try.prog → c.fn = namesL args ++ ownNames ins → vcC c c11 ⟨initE 0 args, ins, namesL args ++ ownNames ins⟩ (RetK c rs11 res outs)) : Ctr Try.prog 11 args ins res outs new :=
  ctr_own Try.func11 ok11 rfl cc11 cr11 Try.ntmps11 hlen hf h

/-- bordereau/bordereauref09.One -/
def c12 : C :=
  (.seq (.reg [⟨(some 3), none, .box 26 (.t 0)⟩,
    ⟨(some 4), none, .box 28 (.t 1)⟩,
    ⟨(some 5), none, .box 30 (.t 2)⟩,
    ⟨(some 6), none, .mov (.k (.d (.int .i64 0)))⟩,
    ⟨(some 7), none, .mov (.k (.d (.int .i64 0)))⟩])
  (.seq (.seq (.reg [⟨(some 13), none, .load 9 true (.t 3)⟩,
    ⟨(some 14), none, .call 16 [(.t 13)]⟩,
    ⟨(some 15), none, .inv .not (.t 14)⟩,
    ⟨(some 16), none, .mov (.t 15)⟩,
    ⟨(some 17), (some (16, false)), .load 4 true (.t 4)⟩,
    ⟨(some 18), (some (16, false)), .call 23 [(.t 17)]⟩,
    ⟨(some 19), (some (16, false)), .inv .not (.t 18)⟩,
    ⟨(some 20), none, .pick (.t 16) (.k (.d (.bool true))) (.t 19)⟩,
    ⟨(some 21), none, .mov (.t 20)⟩,
    ⟨(some 22), (some (21, false)), .load 5 true (.t 5)⟩,
    ⟨(some 23), (some (21, false)), .call 24 [(.t 22)]⟩,
    ⟨(some 24), (some (21, false)), .inv .not (.t 23)⟩,
    ⟨(some 25), none, .pick (.t 21) (.k (.d (.bool true))) (.t 24)⟩])
  (.cond (.t 25) (.seq (.reg [⟨(some 6), none, .mov (.k (.d (.int .i64 0)))⟩,
      ⟨(some 7), none, .mov (.k (.d (.int .i64 1)))⟩])
    .ret)
  .skip))
  (.seq (.seq (.reg [⟨(some 26), none, .fadr 3 (.t 4)⟩,
    ⟨(some 27), none, .load 1 false (.t 26)⟩,
    ⟨(some 28), none, .fadr 6 (.t 3)⟩,
    ⟨(some 29), none, .load 1 false (.t 28)⟩,
    ⟨(some 30), none, .len (.t 29)⟩,
    ⟨(some 31), none, .bin .geq (.t 27) (.t 30)⟩])
  (.cond (.t 31) (.seq (.reg [⟨(some 6), none, .mov (.k (.d (.int .i64 0)))⟩,
      ⟨(some 7), none, .mov (.k (.d (.int .i64 7)))⟩])
    .ret)
  .skip))
  (.seq (.drw [0, 1, 0, 7, 15, 0, 32, 0, 128, 480, 0, 1024, 0, 4096, 15360, 31744, 0, 65536, 0, 262144, 983040, 2031616, 0, 4194304, 16777215, 33554431]
   [⟨(some 32), none, .fadr 0 (.t 4)⟩,
    ⟨(some 33), none, .load 1 false (.t 32)⟩,
    ⟨(some 34), none, .fadr 1 (.t 3)⟩,
    ⟨(some 35), none, .aadr 1 4 (.t 34) (.t 33)⟩,
    ⟨(some 36), none, .load 1 false (.t 35)⟩,
    ⟨(some 37), none, .fadr 5 (.t 3)⟩,
    ⟨(some 38), none, .load 1 false (.t 37)⟩,
    ⟨(some 39), none, .fadr 2 (.t 4)⟩,
    ⟨(some 40), none, .load 1 false (.t 39)⟩,
    ⟨(some 41), none, .call 25 [(.t 38), (.t 40)]⟩,
    ⟨(some 42), none, .fadr 6 (.t 3)⟩,
    ⟨(some 43), none, .load 1 false (.t 42)⟩,
    ⟨(some 44), none, .fadr 3 (.t 4)⟩,
    ⟨(some 45), none, .load 1 false (.t 44)⟩,
    ⟨(some 46), none, .iadr 1 (.t 43) (.t 45)⟩,
    ⟨(some 47), none, .load 1 false (.t 46)⟩,
    ⟨(some 48), none, .fadr 7 (.t 3)⟩,
    ⟨(some 49), none, .load 1 false (.t 48)⟩,
    ⟨(some 50), none, .fadr 0 (.t 5)⟩,
    ⟨(some 51), none, .load 1 false (.t 50)⟩,
    ⟨(some 52), none, .iadr 1 (.t 49) (.t 51)⟩,
    ⟨(some 53), none, .load 1 false (.t 52)⟩,
    ⟨(some 54), none, .fadr 4 (.t 5)⟩,
    ⟨(some 55), none, .load 1 false (.t 54)⟩,
    ⟨(some 56), none, .bslice 3 1 5 [(.t 36), (.t 41), (.t 47), (.t 53), (.t 55)]⟩,
    ⟨(some 8), none, .mov (.t 56)⟩])
  (.seq (.reg [⟨(some 57), none, .fadr 1 (.t 4)⟩,
    ⟨(some 58), none, .load 1 false (.t 57)⟩,
    ⟨(some 9), none, .mov (.t 58)⟩])
  (.seq (.seq (.reg [⟨(some 10), none, .mov (.k (.d (.int .i64 0)))⟩])
  (.block 0 (.loop (.seq (.seq (.reg [⟨(some 59), none, .mov (.t 10)⟩,
        ⟨(some 60), none, .mov (.t 8)⟩,
        ⟨(some 61), none, .len (.t 60)⟩,
        ⟨(some 62), none, .bin .lss (.t 59) (.t 61)⟩])
      (.cond (.t 62) .skip
      (.exit 0)))
      (.seq (.block 2 (.seq (.reg [⟨(some 66), none, .mov (.t 9)⟩,
          ⟨(some 67), none, .mov (.t 8)⟩,
          ⟨(some 68), none, .mov (.t 10)⟩,
          ⟨(some 69), none, .iadr 1 (.t 67) (.t 68)⟩,
          ⟨(some 70), none, .load 1 false (.t 69)⟩,
          ⟨(some 71), none, .call 26 [(.t 66), (.t 70)]⟩,
          ⟨(some 65), none, .mov (.t 71)⟩,
          ⟨(some 72), none, .ext 0 (.t 65)⟩,
          ⟨(some 73), none, .ext 1 (.t 65)⟩,
          ⟨(some 11), none, .mov (.t 72)⟩,
          ⟨(some 12), none, .mov (.t 73)⟩])
        (.seq (.seq (.reg [⟨(some 74), none, .mov (.t 12)⟩,
          ⟨(some 75), none, .bin .neq (.t 74) (.k (.d (.int .i64 0)))⟩])
        (.cond (.t 75) (.seq (.reg [⟨(some 76), none, .mov (.t 12)⟩,
            ⟨(some 6), none, .mov (.k (.d (.int .i64 0)))⟩,
            ⟨(some 7), none, .mov (.t 76)⟩])
          .ret)
        .skip))
        (.reg [⟨(some 77), none, .mov (.t 11)⟩,
          ⟨(some 9), none, .mov (.t 77)⟩]))))
      (.reg [⟨(some 63), none, .mov (.t 10)⟩,
        ⟨(some 64), none, .bin .add (.t 63) (.k (.d (.int .i64 1)))⟩,
        ⟨(some 10), none, .mov (.t 64)⟩]))))))
  (.seq (.seq (.reg [⟨(some 78), none, .mov (.t 9)⟩,
    ⟨(some 79), none, .fadr 8 (.t 3)⟩,
    ⟨(some 80), none, .load 1 false (.t 79)⟩,
    ⟨(some 81), none, .bin .lss (.t 78) (.t 80)⟩])
  (.cond (.t 81) (.seq (.reg [⟨(some 82), none, .fadr 8 (.t 3)⟩,
      ⟨(some 83), none, .load 1 false (.t 82)⟩,
      ⟨(some 6), none, .mov (.t 83)⟩,
      ⟨(some 7), none, .mov (.k (.d (.int .i64 0)))⟩])
    .ret)
  .skip))
  (.seq (.reg [⟨(some 84), none, .mov (.t 9)⟩,
    ⟨(some 6), none, .mov (.t 84)⟩,
    ⟨(some 7), none, .mov (.k (.d (.int .i64 0)))⟩])
  .ret))))))))
def rs12 : List RV := [.tmp 6, .tmp 7]
theorem ok12 : okF Try.prog 12 = true := by kernel_rfl
theorem cc12 : cCode Try.prog Try.f12.ntmps (Try.f12.body.getD .skip) = some c12 := by kernel_rfl
theorem cr12 : cRess Try.prog Try.f12.results.toList = some rs12 := by kernel_rfl
theorem pure12 {args : List V} {res : V} (hlen : args.length ≤ 85) (hna : namesL args = []) (hnr : res.names = []) (h : ∀ c : Ctx, c.P = Try.prog → c.fn = [] → vcC c c12 ⟨initE 0 args, [], []⟩ (RetK c rs12 res [])) : Ctr Try.prog 12 args [] res [] [] :=
  ctr_pure Try.func12 ok12 rfl cc12 cr12 Try.ntmps12 hlen hna hnr h
theorem own12 {args : List V} {ins outs : List (Nat × Own)} {res : V} {new : List Nat} (hlen : args.length ≤ 85) (hf : ctrB args ins res outs new = true) (h : ∀ c : Ctx, c.P = Try.prog → c.fn = namesL args ++ ownNames ins → vcC c c12 ⟨initE 0 args, ins, namesL args ++ ownNames ins⟩ (RetK c rs12 res outs)) : Ctr Try.prog 12 args ins res outs new :=
  ctr_own Try.func12 ok12 rfl cc12 cr12 Try.ntmps12 hlen hf h

/-- bordereau/quote.Year -/
def c13 : C :=
  (.seq (.reg [⟨(some 3), none, .box 26 (.t 0)⟩,
    ⟨(some 4), none, .box 28 (.t 1)⟩,
    ⟨(some 6), none, .mov (.k (.d (.int .i64 0)))⟩,
    ⟨(some 7), none, .mov (.k (.d (.int .i64 0)))⟩])
  (.seq (.reg [⟨(some 15), none, .call 27 []⟩,
    ⟨(some 8), none, .mov (.t 15)⟩,
    ⟨(some 9), none, .mov (.k (.d (.int .i64 0)))⟩,
    ⟨(some 10), none, .mov (.k (.d (.bool true)))⟩])
  (.seq (.seq (.reg [⟨(some 16), none, .mov (.t 2)⟩,
    ⟨(some 17), none, .len (.t 16)⟩,
    ⟨(some 18), none, .mov (.k (.d (.int .i64 0)))⟩])
  (.block 0 (.loop (.seq (.reg [⟨(some 19), none, .bin .lss (.t 18) (.t 17)⟩])
      (.seq (.cond (.t 19) .skip
      (.exit 0))
      (.seq (.block 2 (.seq (.reg [⟨(some 20), none, .iadr 5 (.t 16) (.t 18)⟩,
          ⟨(some 21), none, .load 5 true (.t 20)⟩,
          ⟨(some 12), none, .alloc 30 [.d (.int .i64 0), .d (.int .i64 0), .d (.int .i64 0), .d (.int .i64 0), .d (.int .i64 0)]⟩,
          ⟨none, none, .store 5 (.t 12) (.t 21)⟩])
        (.seq (.reg [⟨(some 23), none, .load 9 true (.t 3)⟩,
          ⟨(some 24), none, .load 4 true (.t 4)⟩,
          ⟨(some 25), none, .load 5 true (.t 12)⟩,
          ⟨(some 26), none, .call 11 [(.t 23), (.t 24), (.t 25)]⟩,
          ⟨(some 22), none, .mov (.t 26)⟩,
          ⟨(some 27), none, .ext 0 (.t 22)⟩,
          ⟨(some 28), none, .ext 1 (.t 22)⟩,
          ⟨(some 13), none, .mov (.t 27)⟩,
          ⟨(some 14), none, .mov (.t 28)⟩])
        (.seq (.seq (.reg [⟨(some 29), none, .mov (.t 14)⟩,
          ⟨(some 30), none, .bin .neq (.t 29) (.k (.d (.int .i64 0)))⟩])
        (.cond (.t 30) (.seq (.reg [⟨(some 31), none, .mov (.t 14)⟩,
            ⟨(some 6), none, .mov (.k (.d (.int .i64 0)))⟩,
            ⟨(some 7), none, .mov (.t 31)⟩])
          .ret)
        .skip))
        (.seq (.reg [⟨(some 32), none, .mov (.t 10)⟩])
        (.cond (.t 32) (.reg [⟨(some 34), none, .mov (.t 8)⟩,
            ⟨(some 35), none, .mov (.t 13)⟩,
            ⟨(some 36), none, .callv (.t 34) [(.t 35)]⟩,
            ⟨(some 33), none, .mov (.t 36)⟩,
            ⟨(some 37), none, .ext 0 (.t 33)⟩,
            ⟨(some 38), none, .ext 1 (.t 33)⟩,
            ⟨(some 9), none, .mov (.t 37)⟩,
            ⟨(some 10), none, .mov (.t 38)⟩])
        .skip))))))
      (.reg [⟨(some 39), none, .bin .add (.t 18) (.k (.d (.int .i64 1)))⟩,
        ⟨(some 18), none, .mov (.t 39)⟩])))))))
  (.seq (.seq (.reg [⟨(some 40), none, .mov (.t 10)⟩,
    ⟨(some 41), none, .inv .not (.t 40)⟩])
  (.cond (.t 41) (.seq (.reg [⟨(some 6), none, .mov (.k (.d (.int .i64 0)))⟩,
      ⟨(some 7), none, .mov (.k (.d (.int .i64 5)))⟩])
    .ret)
  .skip))
  (.seq (.reg [⟨(some 42), none, .mov (.t 9)⟩,
    ⟨(some 6), none, .mov (.t 42)⟩,
    ⟨(some 7), none, .mov (.k (.d (.int .i64 0)))⟩])
  .ret)))))
def rs13 : List RV := [.tmp 6, .tmp 7]
theorem ok13 : okF Try.prog 13 = true := by kernel_rfl
theorem cc13 : cCode Try.prog Try.f13.ntmps (Try.f13.body.getD .skip) = some c13 := by kernel_rfl
theorem cr13 : cRess Try.prog Try.f13.results.toList = some rs13 := by kernel_rfl
theorem pure13 {args : List V} {res : V} (hlen : args.length ≤ 43) (hna : namesL args = []) (hnr : res.names = []) (h : ∀ c : Ctx, c.P = Try.prog → c.fn = [] → vcC c c13 ⟨initE 0 args, [], []⟩ (RetK c rs13 res [])) : Ctr Try.prog 13 args [] res [] [] :=
  ctr_pure Try.func13 ok13 rfl cc13 cr13 Try.ntmps13 hlen hna hnr h
theorem own13 {args : List V} {ins outs : List (Nat × Own)} {res : V} {new : List Nat} (hlen : args.length ≤ 43) (hf : ctrB args ins res outs new = true) (h : ∀ c : Ctx, c.P = Try.prog → c.fn = namesL args ++ ownNames ins → vcC c c13 ⟨initE 0 args, ins, namesL args ++ ownNames ins⟩ (RetK c rs13 res outs)) : Ctr Try.prog 13 args ins res outs new :=
  ctr_own Try.func13 ok13 rfl cc13 cr13 Try.ntmps13 hlen hf h

/-- bordereau/bordereauref09.Year -/
def c14 : C :=
  (.seq (.reg [⟨(some 3), none, .box 26 (.t 0)⟩,
    ⟨(some 4), none, .box 28 (.t 1)⟩,
    ⟨(some 6), none, .mov (.k (.d (.int .i64 0)))⟩,
    ⟨(some 7), none, .mov (.k (.d (.int .i64 0)))⟩])
  (.seq (.reg [⟨(some 8), none, .mov (.k (.d (.sl true 0 0 fun _ => [])))⟩])
  (.seq (.seq (.reg [⟨(some 9), none, .mov (.k (.d (.int .i64 0)))⟩])
  (.block 0 (.loop (.seq (.seq (.reg [⟨(some 14), none, .mov (.t 9)⟩,
        ⟨(some 15), none, .mov (.t 2)⟩,
        ⟨(some 16), none, .len (.t 15)⟩,
        ⟨(some 17), none, .bin .lss (.t 14) (.t 16)⟩])
      (.cond (.t 17) .skip
      (.exit 0)))
      (.seq (.block 2 (.seq (.drw [0, 0, 0, 0, 12, 28, 63, 127, 255, 255, 511, 2047]
         [⟨(some 21), none, .load 9 true (.t 3)⟩,
          ⟨(some 22), none, .load 4 true (.t 4)⟩,
          ⟨(some 23), none, .mov (.t 2)⟩,
          ⟨(some 24), none, .mov (.t 9)⟩,
          ⟨(some 25), none, .iadr 5 (.t 23) (.t 24)⟩,
          ⟨(some 26), none, .load 5 true (.t 25)⟩,
          ⟨(some 27), none, .call 12 [(.t 21), (.t 22), (.t 26)]⟩,
          ⟨(some 20), none, .mov (.t 27)⟩,
          ⟨(some 28), none, .ext 0 (.t 20)⟩,
          ⟨(some 29), none, .ext 1 (.t 20)⟩,
          ⟨(some 10), none, .mov (.t 28)⟩,
          ⟨(some 11), none, .mov (.t 29)⟩])
        (.seq (.seq (.reg [⟨(some 30), none, .mov (.t 11)⟩,
          ⟨(some 31), none, .bin .neq (.t 30) (.k (.d (.int .i64 0)))⟩])
        (.cond (.t 31) (.seq (.reg [⟨(some 32), none, .mov (.t 11)⟩,
            ⟨(some 6), none, .mov (.k (.d (.int .i64 0)))⟩,
            ⟨(some 7), none, .mov (.t 32)⟩])
          .ret)
        .skip))
        (.reg [⟨(some 33), none, .mov (.t 8)⟩,
          ⟨(some 34), none, .mov (.t 10)⟩,
          ⟨(some 35), none, .bslice 3 1 1 [(.t 34)]⟩,
          ⟨(some 36), none, .app 3 1 8 (.t 33) (.t 35)⟩,
          ⟨(some 8), none, .mov (.t 36)⟩]))))
      (.reg [⟨(some 18), none, .mov (.t 9)⟩,
        ⟨(some 19), none, .bin .add (.t 18) (.k (.d (.int .i64 1)))⟩,
        ⟨(some 9), none, .mov (.t 19)⟩]))))))
  (.seq (.reg [⟨(some 38), none, .mov (.t 8)⟩,
    ⟨(some 39), none, .call 28 [(.t 38)]⟩,
    ⟨(some 37), none, .mov (.t 39)⟩,
    ⟨(some 40), none, .ext 0 (.t 37)⟩,
    ⟨(some 41), none, .ext 1 (.t 37)⟩,
    ⟨(some 12), none, .mov (.t 40)⟩,
    ⟨(some 13), none, .mov (.t 41)⟩])
  (.seq (.seq (.reg [⟨(some 42), none, .mov (.t 13)⟩,
    ⟨(some 43), none, .inv .not (.t 42)⟩])
  (.cond (.t 43) (.seq (.reg [⟨(some 6), none, .mov (.k (.d (.int .i64 0)))⟩,
      ⟨(some 7), none, .mov (.k (.d (.int .i64 5)))⟩])
    .ret)
  .skip))
  (.seq (.reg [⟨(some 44), none, .mov (.t 12)⟩,
    ⟨(some 6), none, .mov (.t 44)⟩,
    ⟨(some 7), none, .mov (.k (.d (.int .i64 0)))⟩])
  .ret))))))
def rs14 : List RV := [.tmp 6, .tmp 7]
theorem ok14 : okF Try.prog 14 = true := by kernel_rfl
theorem cc14 : cCode Try.prog Try.f14.ntmps (Try.f14.body.getD .skip) = some c14 := by kernel_rfl
theorem cr14 : cRess Try.prog Try.f14.results.toList = some rs14 := by kernel_rfl
theorem pure14 {args : List V} {res : V} (hlen : args.length ≤ 45) (hna : namesL args = []) (hnr : res.names = []) (h : ∀ c : Ctx, c.P = Try.prog → c.fn = [] → vcC c c14 ⟨initE 0 args, [], []⟩ (RetK c rs14 res [])) : Ctr Try.prog 14 args [] res [] [] :=
  ctr_pure Try.func14 ok14 rfl cc14 cr14 Try.ntmps14 hlen hna hnr h
theorem own14 {args : List V} {ins outs : List (Nat × Own)} {res : V} {new : List Nat} (hlen : args.length ≤ 45) (hf : ctrB args ins res outs new = true) (h : ∀ c : Ctx, c.P = Try.prog → c.fn = namesL args ++ ownNames ins → vcC c c14 ⟨initE 0 args, ins, namesL args ++ ownNames ins⟩ (RetK c rs14 res outs)) : Ctr Try.prog 14 args ins res outs new :=
  ctr_own Try.func14 ok14 rfl cc14 cr14 Try.ntmps14 hlen hf h

/-- bordereau/bordereaulaw09.of -/
def c15 : C :=
  (.seq (.reg [⟨(some 4), none, .alloc 30 [.d (.int .i64 0), .d (.int .i64 0), .d (.int .i64 0), .d (.int .i64 0), .d (.int .i64 0)]⟩])
  (.seq (.reg [⟨(some 5), none, .mov (.t 0)⟩,
    ⟨(some 6), none, .mov (.t 1)⟩,
    ⟨(some 7), none, .build [.d (.int .i64 0), .d (.int .i64 0), .d (.int .i64 0), .d (.int .i64 0), .d (.int .i64 0)] [(0, 1, (.t 5)), (1, 1, (.k (.d (.int .i64 1000)))), (2, 1, (.k (.d (.int .i64 2000)))), (4, 1, (.t 6))]⟩,
    ⟨none, none, .store 5 (.t 4) (.t 7)⟩])
  .ret))
def rs15 : List RV := [.cell 4 5 true]
theorem ok15 : okF Try.prog 15 = true := by kernel_rfl
theorem cc15 : cCode Try.prog Try.f15.ntmps (Try.f15.body.getD .skip) = some c15 := by kernel_rfl
theorem cr15 : cRess Try.prog Try.f15.results.toList = some rs15 := by kernel_rfl
theorem pure15 {args : List V} {res : V} (hlen : args.length ≤ 8) (hna : namesL args = []) (hnr : res.names = []) (h : ∀ c : Ctx, c.P = Try.prog → c.fn = [] → vcC c c15 ⟨initE 0 args, [], []⟩ (RetK c rs15 res [])) : Ctr Try.prog 15 args [] res [] [] :=
  ctr_pure Try.func15 ok15 rfl cc15 cr15 Try.ntmps15 hlen hna hnr h
theorem own15 {args : List V} {ins outs : List (Nat × Own)} {res : V} {new : List Nat} (hlen : args.length ≤ 8) (hf : ctrB args ins res outs new = true) (h : ∀ c : Ctx, c.P = Try.prog → c.fn = namesL args ++ ownNames ins → vcC c c15 ⟨initE 0 args, ins, namesL args ++ ownNames ins⟩ (RetK c rs15 res outs)) : Ctr Try.prog 15 args ins res outs new :=
  ctr_own Try.func15 ok15 rfl cc15 cr15 Try.ntmps15 hlen hf h

/-- bordereau/bordereauref07.Version -/
def c16 : C :=
  (.seq (.reg [⟨(some 1), none, .box 26 (.t 0)⟩,
    ⟨(some 2), none, .mov (.k (.d (.bool false)))⟩])
  (.seq (.seq (.reg [⟨(some 3), none, .mov (.k (.d (.int .i64 0)))⟩])
  (.block 0 (.loop (.seq (.seq (.reg [⟨(some 4), none, .mov (.t 3)⟩,
        ⟨(some 5), none, .bin .lss (.t 4) (.k (.d (.int .i64 4)))⟩])
      (.cond (.t 5) .skip
      (.exit 0)))
      (.seq (.block 2 (.seq (.reg [⟨(some 8), none, .mov (.t 3)⟩,
          ⟨(some 9), none, .fadr 1 (.t 1)⟩,
          ⟨(some 10), none, .aadr 1 4 (.t 9) (.t 8)⟩,
          ⟨(some 11), none, .load 1 false (.t 10)⟩,
          ⟨(some 12), none, .bin .lss (.t 11) (.k (.d (.int .i64 0)))⟩,
          ⟨(some 13), none, .mov (.t 12)⟩,
          ⟨(some 14), (some (13, false)), .mov (.t 3)⟩,
          ⟨(some 15), (some (13, false)), .fadr 1 (.t 1)⟩,
          ⟨(some 16), (some (13, false)), .aadr 1 4 (.t 15) (.t 14)⟩,
          ⟨(some 17), (some (13, false)), .load 1 false (.t 16)⟩,
          ⟨(some 18), (some (13, false)), .bin .gtr (.t 17) (.k (.d (.int .i64 100000)))⟩,
          ⟨(some 19), none, .pick (.t 13) (.k (.d (.bool true))) (.t 18)⟩])
        (.cond (.t 19) (.seq (.reg [⟨(some 2), none, .mov (.k (.d (.bool false)))⟩])
          .ret)
        .skip)))
      (.reg [⟨(some 6), none, .mov (.t 3)⟩,
        ⟨(some 7), none, .bin .add (.t 6) (.k (.d (.int .i64 1)))⟩,
        ⟨(some 3), none, .mov (.t 7)⟩]))))))
  (.seq (.seq (.reg [⟨(some 20), none, .fadr 0 (.t 1)⟩,
    ⟨(some 21), none, .load 1 false (.t 20)⟩,
    ⟨(some 22), none, .bin .lss (.t 21) (.k (.d (.int .i64 1)))⟩,
    ⟨(some 23), none, .mov (.t 22)⟩,
    ⟨(some 24), (some (23, false)), .fadr 0 (.t 1)⟩,
    ⟨(some 25), (some (23, false)), .load 1 false (.t 24)⟩,
    ⟨(some 26), (some (23, false)), .bin .gtr (.t 25) (.k (.d (.int .i64 292194)))⟩,
    ⟨(some 27), none, .pick (.t 23) (.k (.d (.bool true))) (.t 26)⟩,
    ⟨(some 28), none, .mov (.t 27)⟩,
    ⟨(some 29), (some (28, false)), .fadr 8 (.t 1)⟩,
    ⟨(some 30), (some (28, false)), .load 1 false (.t 29)⟩,
    ⟨(some 31), (some (28, false)), .bin .lss (.t 30) (.k (.d (.int .i64 0)))⟩,
    ⟨(some 32), none, .pick (.t 28) (.k (.d (.bool true))) (.t 31)⟩,
    ⟨(some 33), none, .mov (.t 32)⟩,
    ⟨(some 34), (some (33, false)), .fadr 8 (.t 1)⟩,
    ⟨(some 35), (some (33, false)), .load 1 false (.t 34)⟩,
    ⟨(some 36), (some (33, false)), .bin .gtr (.t 35) (.k (.d (.int .i64 1000000000000000)))⟩,
    ⟨(some 37), none, .pick (.t 33) (.k (.d (.bool true))) (.t 36)⟩])
  (.cond (.t 37) (.seq (.reg [⟨(some 2), none, .mov (.k (.d (.bool false)))⟩])
    .ret)
  .skip))
  (.seq (.seq (.reg [⟨(some 38), none, .fadr 5 (.t 1)⟩,
    ⟨(some 39), none, .load 1 false (.t 38)⟩,
    ⟨(some 40), none, .len (.t 39)⟩,
    ⟨(some 41), none, .bin .gtr (.t 40) (.k (.d (.int .i64 100)))⟩,
    ⟨(some 42), none, .mov (.t 41)⟩,
    ⟨(some 43), (some (42, false)), .fadr 6 (.t 1)⟩,
    ⟨(some 44), (some (42, false)), .load 1 false (.t 43)⟩,
    ⟨(some 45), (some (42, false)), .len (.t 44)⟩,
    ⟨(some 46), (some (42, false)), .bin .lss (.t 45) (.k (.d (.int .i64 1)))⟩,
    ⟨(some 47), none, .pick (.t 42) (.k (.d (.bool true))) (.t 46)⟩,
    ⟨(some 48), none, .mov (.t 47)⟩,
    ⟨(some 49), (some (48, false)), .fadr 6 (.t 1)⟩,
    ⟨(some 50), (some (48, false)), .load 1 false (.t 49)⟩,
    ⟨(some 51), (some (48, false)), .len (.t 50)⟩,
    ⟨(some 52), (some (48, false)), .bin .gtr (.t 51) (.k (.d (.int .i64 100)))⟩,
    ⟨(some 53), none, .pick (.t 48) (.k (.d (.bool true))) (.t 52)⟩,
    ⟨(some 54), none, .mov (.t 53)⟩,
    ⟨(some 55), (some (54, false)), .fadr 7 (.t 1)⟩,
    ⟨(some 56), (some (54, false)), .load 1 false (.t 55)⟩,
    ⟨(some 57), (some (54, false)), .len (.t 56)⟩,
    ⟨(some 58), (some (54, false)), .bin .neq (.t 57) (.k (.d (.int .i64 8)))⟩,
    ⟨(some 59), none, .pick (.t 54) (.k (.d (.bool true))) (.t 58)⟩])
  (.cond (.t 59) (.seq (.reg [⟨(some 2), none, .mov (.k (.d (.bool false)))⟩])
    .ret)
  .skip))
  (.seq (.reg [⟨(some 60), none, .fadr 5 (.t 1)⟩,
    ⟨(some 61), none, .load 1 false (.t 60)⟩,
    ⟨(some 62), none, .call 29 [(.t 61)]⟩,
    ⟨(some 63), none, .mov (.t 62)⟩,
    ⟨(some 64), (some (63, true)), .fadr 6 (.t 1)⟩,
    ⟨(some 65), (some (63, true)), .load 1 false (.t 64)⟩,
    ⟨(some 66), (some (63, true)), .call 30 [(.t 65)]⟩,
    ⟨(some 67), none, .pick (.t 63) (.t 66) (.k (.d (.bool false)))⟩,
    ⟨(some 68), none, .mov (.t 67)⟩,
    ⟨(some 69), (some (68, true)), .fadr 7 (.t 1)⟩,
    ⟨(some 70), (some (68, true)), .load 1 false (.t 69)⟩,
    ⟨(some 71), (some (68, true)), .call 30 [(.t 70)]⟩,
    ⟨(some 72), none, .pick (.t 68) (.t 71) (.k (.d (.bool false)))⟩,
    ⟨(some 2), none, .mov (.t 72)⟩])
  .ret)))))
def rs16 : List RV := [.tmp 2]
theorem ok16 : okF Try.prog 16 = true := by kernel_rfl
theorem cc16 : cCode Try.prog Try.f16.ntmps (Try.f16.body.getD .skip) = some c16 := by kernel_rfl
theorem cr16 : cRess Try.prog Try.f16.results.toList = some rs16 := by kernel_rfl
theorem pure16 {args : List V} {res : V} (hlen : args.length ≤ 73) (hna : namesL args = []) (hnr : res.names = []) (h : ∀ c : Ctx, c.P = Try.prog → c.fn = [] → vcC c c16 ⟨initE 0 args, [], []⟩ (RetK c rs16 res [])) : Ctr Try.prog 16 args [] res [] [] :=
  ctr_pure Try.func16 ok16 rfl cc16 cr16 Try.ntmps16 hlen hna hnr h
theorem own16 {args : List V} {ins outs : List (Nat × Own)} {res : V} {new : List Nat} (hlen : args.length ≤ 73) (hf : ctrB args ins res outs new = true) (h : ∀ c : Ctx, c.P = Try.prog → c.fn = namesL args ++ ownNames ins → vcC c c16 ⟨initE 0 args, ins, namesL args ++ ownNames ins⟩ (RetK c rs16 res outs)) : Ctr Try.prog 16 args ins res outs new :=
  ctr_own Try.func16 ok16 rfl cc16 cr16 Try.ntmps16 hlen hf h

/-- bordereau/bordereaulaw09.plain -/
def c17 : C :=
  (.seq (.reg [⟨(some 0), none, .alloc 26 [.d (.int .i64 0), .d (.int .i64 0), .d (.int .i64 0), .d (.int .i64 0), .d (.int .i64 0), .d (.sl true 0 0 fun _ => []), .d (.sl true 0 0 fun _ => []), .d (.sl true 0 0 fun _ => []), .d (.int .i64 0)]⟩])
  (.seq (.reg [⟨(some 1), none, .build [.d (.int .i64 0), .d (.int .i64 0), .d (.int .i64 0), .d (.int .i64 0)] [(0, 1, (.k (.d (.int .i64 50)))), (1, 1, (.k (.d (.int .i64 10000)))), (2, 1, (.k (.d (.int .i64 0)))), (3, 1, (.k (.d (.int .i64 1))))]⟩,
    ⟨(some 2), none, .bslice 3 1 1 [(.k (.d (.int .i64 10000)))]⟩,
    ⟨(some 3), none, .bslice 3 1 8 [(.k (.d (.int .i64 10000))), (.k (.d (.int .i64 10000))), (.k (.d (.int .i64 10000))), (.k (.d (.int .i64 10000))), (.k (.d (.int .i64 10000))), (.k (.d (.int .i64 10000))), (.k (.d (.int .i64 10000))), (.k (.d (.int .i64 0)))]⟩,
    ⟨(some 4), none, .build [.d (.int .i64 0), .d (.int .i64 0), .d (.int .i64 0), .d (.int .i64 0), .d (.int .i64 0), .d (.sl true 0 0 fun _ => []), .d (.sl true 0 0 fun _ => []), .d (.sl true 0 0 fun _ => []), .d (.int .i64 0)] [(0, 1, (.k (.d (.int .i64 1)))), (1, 4, (.t 1)), (6, 1, (.t 2)), (7, 1, (.t 3)), (8, 1, (.k (.d (.int .i64 100))))]⟩,
    ⟨none, none, .store 9 (.t 0) (.t 4)⟩])
  .ret))
def rs17 : List RV := [.cell 0 9 true]
theorem ok17 : okF Try.prog 17 = true := by kernel_rfl
theorem cc17 : cCode Try.prog Try.f17.ntmps (Try.f17.body.getD .skip) = some c17 := by kernel_rfl
theorem cr17 : cRess Try.prog Try.f17.results.toList = some rs17 := by kernel_rfl
theorem pure17 {args : List V} {res : V} (hlen : args.length ≤ 5) (hna : namesL args = []) (hnr : res.names = []) (h : ∀ c : Ctx, c.P = Try.prog → c.fn = [] → vcC c c17 ⟨initE 0 args, [], []⟩ (RetK c rs17 res [])) : Ctr Try.prog 17 args [] res [] [] :=
  ctr_pure Try.func17 ok17 rfl cc17 cr17 Try.ntmps17 hlen hna hnr h
theorem own17 {args : List V} {ins outs : List (Nat × Own)} {res : V} {new : List Nat} (hlen : args.length ≤ 5) (hf : ctrB args ins res outs new = true) (h : ∀ c : Ctx, c.P = Try.prog → c.fn = namesL args ++ ownNames ins → vcC c c17 ⟨initE 0 args, ins, namesL args ++ ownNames ins⟩ (RetK c rs17 res outs)) : Ctr Try.prog 17 args ins res outs new :=
  ctr_own Try.func17 ok17 rfl cc17 cr17 Try.ntmps17 hlen hf h

/-- bordereau/tariff.Version -/
def c18 : C :=
  (.seq (.reg [⟨(some 1), none, .box 26 (.t 0)⟩,
    ⟨(some 2), none, .mov (.k (.d (.bool false)))⟩])
  (.seq (.block 0 (.seq (.reg [⟨(some 4), none, .fadr 0 (.t 1)⟩,
      ⟨(some 5), none, .load 1 false (.t 4)⟩,
      ⟨(some 6), none, .bin .lss (.t 5) (.k (.d (.int .i64 1)))⟩,
      ⟨(some 7), none, .mov (.t 6)⟩,
      ⟨(some 8), (some (7, false)), .fadr 0 (.t 1)⟩,
      ⟨(some 9), (some (7, false)), .load 1 false (.t 8)⟩,
      ⟨(some 10), (some (7, false)), .bin .gtr (.t 9) (.k (.d (.int .i64 292194)))⟩,
      ⟨(some 11), none, .pick (.t 7) (.k (.d (.bool true))) (.t 10)⟩,
      ⟨(some 12), none, .mov (.t 11)⟩,
      ⟨(some 13), (some (12, false)), .fadr 8 (.t 1)⟩,
      ⟨(some 14), (some (12, false)), .load 1 false (.t 13)⟩,
      ⟨(some 15), (some (12, false)), .bin .lss (.t 14) (.k (.d (.int .i64 0)))⟩,
      ⟨(some 16), none, .pick (.t 12) (.k (.d (.bool true))) (.t 15)⟩,
      ⟨(some 17), none, .mov (.t 16)⟩,
      ⟨(some 18), (some (17, false)), .fadr 8 (.t 1)⟩,
      ⟨(some 19), (some (17, false)), .load 1 false (.t 18)⟩,
      ⟨(some 20), (some (17, false)), .bin .gtr (.t 19) (.k (.d (.int .i64 1000000000000000)))⟩,
      ⟨(some 21), none, .pick (.t 17) (.k (.d (.bool true))) (.t 20)⟩,
      ⟨(some 3), none, .mov (.t 21)⟩])
    (.cond (.t 3) (.seq (.reg [⟨(some 2), none, .mov (.k (.d (.bool false)))⟩])
      .ret)
    (.seq (.reg [⟨(some 23), none, .fadr 5 (.t 1)⟩,
        ⟨(some 24), none, .load 1 false (.t 23)⟩,
        ⟨(some 25), none, .len (.t 24)⟩,
        ⟨(some 26), none, .bin .gtr (.t 25) (.k (.d (.int .i64 100)))⟩,
        ⟨(some 27), none, .mov (.t 26)⟩,
        ⟨(some 28), (some (27, false)), .fadr 6 (.t 1)⟩,
        ⟨(some 29), (some (27, false)), .load 1 false (.t 28)⟩,
        ⟨(some 30), (some (27, false)), .len (.t 29)⟩,
        ⟨(some 31), (some (27, false)), .bin .lss (.t 30) (.k (.d (.int .i64 1)))⟩,
        ⟨(some 32), none, .pick (.t 27) (.k (.d (.bool true))) (.t 31)⟩,
        ⟨(some 33), none, .mov (.t 32)⟩,
        ⟨(some 34), (some (33, false)), .fadr 6 (.t 1)⟩,
        ⟨(some 35), (some (33, false)), .load 1 false (.t 34)⟩,
        ⟨(some 36), (some (33, false)), .len (.t 35)⟩,
        ⟨(some 37), (some (33, false)), .bin .gtr (.t 36) (.k (.d (.int .i64 100)))⟩,
        ⟨(some 38), none, .pick (.t 33) (.k (.d (.bool true))) (.t 37)⟩,
        ⟨(some 39), none, .mov (.t 38)⟩,
        ⟨(some 40), (some (39, false)), .fadr 7 (.t 1)⟩,
        ⟨(some 41), (some (39, false)), .load 1 false (.t 40)⟩,
        ⟨(some 42), (some (39, false)), .len (.t 41)⟩,
        ⟨(some 43), (some (39, false)), .bin .neq (.t 42) (.k (.d (.int .i64 8)))⟩,
        ⟨(some 44), none, .pick (.t 39) (.k (.d (.bool true))) (.t 43)⟩,
        ⟨(some 22), none, .mov (.t 44)⟩])
      (.cond (.t 22) (.seq (.reg [⟨(some 2), none, .mov (.k (.d (.bool false)))⟩])
        .ret)
      .skip)))))
  (.seq (.reg [⟨(some 45), none, .fadr 1 (.t 1)⟩,
    ⟨(some 46), none, .asl 1 4 (.t 45)⟩,
    ⟨(some 47), none, .call 31 [(.t 46)]⟩,
    ⟨(some 48), none, .mov (.t 47)⟩,
    ⟨(some 49), (some (48, true)), .fadr 6 (.t 1)⟩,
    ⟨(some 50), (some (48, true)), .load 1 false (.t 49)⟩,
    ⟨(some 51), (some (48, true)), .call 31 [(.t 50)]⟩,
    ⟨(some 52), none, .pick (.t 48) (.t 51) (.k (.d (.bool false)))⟩,
    ⟨(some 53), none, .mov (.t 52)⟩,
    ⟨(some 54), (some (53, true)), .fadr 7 (.t 1)⟩,
    ⟨(some 55), (some (53, true)), .load 1 false (.t 54)⟩,
    ⟨(some 56), (some (53, true)), .call 31 [(.t 55)]⟩,
    ⟨(some 57), none, .pick (.t 53) (.t 56) (.k (.d (.bool false)))⟩,
    ⟨(some 58), none, .mov (.t 57)⟩,
    ⟨(some 59), (some (58, true)), .fadr 5 (.t 1)⟩,
    ⟨(some 60), (some (58, true)), .load 1 false (.t 59)⟩,
    ⟨(some 61), (some (58, true)), .call 32 [(.t 60)]⟩,
    ⟨(some 62), none, .pick (.t 58) (.t 61) (.k (.d (.bool false)))⟩,
    ⟨(some 2), none, .mov (.t 62)⟩])
  .ret)))
def rs18 : List RV := [.tmp 2]
theorem ok18 : okF Try.prog 18 = true := by kernel_rfl
theorem cc18 : cCode Try.prog Try.f18.ntmps (Try.f18.body.getD .skip) = some c18 := by kernel_rfl
theorem cr18 : cRess Try.prog Try.f18.results.toList = some rs18 := by kernel_rfl
theorem pure18 {args : List V} {res : V} (hlen : args.length ≤ 63) (hna : namesL args = []) (hnr : res.names = []) (h : ∀ c : Ctx, c.P = Try.prog → c.fn = [] → vcC c c18 ⟨initE 0 args, [], []⟩ (RetK c rs18 res [])) : Ctr Try.prog 18 args [] res [] [] :=
  ctr_pure Try.func18 ok18 rfl cc18 cr18 Try.ntmps18 hlen hna hnr h
theorem own18 {args : List V} {ins outs : List (Nat × Own)} {res : V} {new : List Nat} (hlen : args.length ≤ 63) (hf : ctrB args ins res outs new = true) (h : ∀ c : Ctx, c.P = Try.prog → c.fn = namesL args ++ ownNames ins → vcC c c18 ⟨initE 0 args, ins, namesL args ++ ownNames ins⟩ (RetK c rs18 res outs)) : Ctr Try.prog 18 args ins res outs new :=
  ctr_own Try.func18 ok18 rfl cc18 cr18 Try.ntmps18 hlen hf h

/-- bordereau/risk.Right -/
def c19 : C :=
  (.seq (.reg [⟨(some 1), none, .box 28 (.t 0)⟩,
    ⟨(some 2), none, .mov (.k (.d (.bool false)))⟩])
  (.seq (.reg [⟨(some 5), none, .fadr 0 (.t 1)⟩,
    ⟨(some 6), none, .load 1 false (.t 5)⟩,
    ⟨(some 7), none, .bin .geq (.t 6) (.k (.d (.int .i64 0)))⟩,
    ⟨(some 8), none, .mov (.t 7)⟩,
    ⟨(some 9), (some (8, true)), .fadr 0 (.t 1)⟩,
    ⟨(some 10), (some (8, true)), .load 1 false (.t 9)⟩,
    ⟨(some 11), (some (8, true)), .bin .lss (.t 10) (.k (.d (.int .i64 4)))⟩,
    ⟨(some 12), none, .pick (.t 8) (.t 11) (.k (.d (.bool false)))⟩,
    ⟨(some 3), none, .mov (.t 12)⟩])
  (.seq (.reg [⟨(some 13), none, .fadr 1 (.t 1)⟩,
    ⟨(some 14), none, .load 1 false (.t 13)⟩,
    ⟨(some 15), none, .bin .geq (.t 14) (.k (.d (.int .i64 1)))⟩,
    ⟨(some 16), none, .mov (.t 15)⟩,
    ⟨(some 17), (some (16, true)), .fadr 1 (.t 1)⟩,
    ⟨(some 18), (some (16, true)), .load 1 false (.t 17)⟩,
    ⟨(some 19), (some (16, true)), .bin .leq (.t 18) (.k (.d (.int .i64 1000000000000000)))⟩,
    ⟨(some 20), none, .pick (.t 16) (.t 19) (.k (.d (.bool false)))⟩,
    ⟨(some 4), none, .mov (.t 20)⟩])
  (.seq (.reg [⟨(some 21), none, .mov (.t 3)⟩,
    ⟨(some 22), none, .mov (.t 21)⟩,
    ⟨(some 23), (some (22, true)), .mov (.t 4)⟩,
    ⟨(some 24), none, .pick (.t 22) (.t 23) (.k (.d (.bool false)))⟩,
    ⟨(some 25), none, .mov (.t 24)⟩,
    ⟨(some 26), (some (25, true)), .fadr 2 (.t 1)⟩,
    ⟨(some 27), (some (25, true)), .load 1 false (.t 26)⟩,
    ⟨(some 28), (some (25, true)), .bin .geq (.t 27) (.k (.d (.int .i64 0)))⟩,
    ⟨(some 29), none, .pick (.t 25) (.t 28) (.k (.d (.bool false)))⟩,
    ⟨(some 30), none, .mov (.t 29)⟩,
    ⟨(some 31), (some (30, true)), .fadr 2 (.t 1)⟩,
    ⟨(some 32), (some (30, true)), .load 1 false (.t 31)⟩,
    ⟨(some 33), (some (30, true)), .bin .leq (.t 32) (.k (.d (.int .i64 200)))⟩,
    ⟨(some 34), none, .pick (.t 30) (.t 33) (.k (.d (.bool false)))⟩,
    ⟨(some 35), none, .mov (.t 34)⟩,
    ⟨(some 36), (some (35, true)), .fadr 3 (.t 1)⟩,
    ⟨(some 37), (some (35, true)), .load 1 false (.t 36)⟩,
    ⟨(some 38), (some (35, true)), .bin .geq (.t 37) (.k (.d (.int .i64 0)))⟩,
    ⟨(some 39), none, .pick (.t 35) (.t 38) (.k (.d (.bool false)))⟩,
    ⟨(some 40), none, .mov (.t 39)⟩,
    ⟨(some 41), (some (40, true)), .fadr 3 (.t 1)⟩,
    ⟨(some 42), (some (40, true)), .load 1 false (.t 41)⟩,
    ⟨(some 43), (some (40, true)), .bin .lss (.t 42) (.k (.d (.int .i64 100)))⟩,
    ⟨(some 44), none, .pick (.t 40) (.t 43) (.k (.d (.bool false)))⟩,
    ⟨(some 2), none, .mov (.t 44)⟩])
  .ret))))
def rs19 : List RV := [.tmp 2]
theorem ok19 : okF Try.prog 19 = true := by kernel_rfl
theorem cc19 : cCode Try.prog Try.f19.ntmps (Try.f19.body.getD .skip) = some c19 := by kernel_rfl
theorem cr19 : cRess Try.prog Try.f19.results.toList = some rs19 := by kernel_rfl
theorem pure19 {args : List V} {res : V} (hlen : args.length ≤ 45) (hna : namesL args = []) (hnr : res.names = []) (h : ∀ c : Ctx, c.P = Try.prog → c.fn = [] → vcC c c19 ⟨initE 0 args, [], []⟩ (RetK c rs19 res [])) : Ctr Try.prog 19 args [] res [] [] :=
  ctr_pure Try.func19 ok19 rfl cc19 cr19 Try.ntmps19 hlen hna hnr h
theorem own19 {args : List V} {ins outs : List (Nat × Own)} {res : V} {new : List Nat} (hlen : args.length ≤ 45) (hf : ctrB args ins res outs new = true) (h : ∀ c : Ctx, c.P = Try.prog → c.fn = namesL args ++ ownNames ins → vcC c c19 ⟨initE 0 args, ins, namesL args ++ ownNames ins⟩ (RetK c rs19 res outs)) : Ctr Try.prog 19 args ins res outs new :=
  ctr_own Try.func19 ok19 rfl cc19 cr19 Try.ntmps19 hlen hf h

/-- bordereau/cover.Right -/
def c20 : C :=
  (.seq (.reg [⟨(some 1), none, .box 30 (.t 0)⟩,
    ⟨(some 2), none, .mov (.k (.d (.bool false)))⟩])
  (.seq (.reg [⟨(some 5), none, .fadr 0 (.t 1)⟩,
    ⟨(some 6), none, .load 1 false (.t 5)⟩,
    ⟨(some 7), none, .bin .geq (.t 6) (.k (.d (.int .i64 0)))⟩,
    ⟨(some 8), none, .mov (.t 7)⟩,
    ⟨(some 9), (some (8, true)), .fadr 0 (.t 1)⟩,
    ⟨(some 10), (some (8, true)), .load 1 false (.t 9)⟩,
    ⟨(some 11), (some (8, true)), .bin .lss (.t 10) (.k (.d (.int .i64 8)))⟩,
    ⟨(some 12), none, .pick (.t 8) (.t 11) (.k (.d (.bool false)))⟩,
    ⟨(some 3), none, .mov (.t 12)⟩])
  (.seq (.reg [⟨(some 13), none, .fadr 4 (.t 1)⟩,
    ⟨(some 14), none, .load 1 false (.t 13)⟩,
    ⟨(some 15), none, .bin .geq (.t 14) (.k (.d (.int .i64 1)))⟩,
    ⟨(some 16), none, .mov (.t 15)⟩,
    ⟨(some 17), (some (16, true)), .fadr 4 (.t 1)⟩,
    ⟨(some 18), (some (16, true)), .load 1 false (.t 17)⟩,
    ⟨(some 19), (some (16, true)), .bin .leq (.t 18) (.k (.d (.int .i64 10000)))⟩,
    ⟨(some 20), none, .pick (.t 16) (.t 19) (.k (.d (.bool false)))⟩,
    ⟨(some 4), none, .mov (.t 20)⟩])
  (.seq (.reg [⟨(some 21), none, .mov (.t 3)⟩,
    ⟨(some 22), none, .mov (.t 21)⟩,
    ⟨(some 23), (some (22, true)), .mov (.t 4)⟩,
    ⟨(some 24), none, .pick (.t 22) (.t 23) (.k (.d (.bool false)))⟩,
    ⟨(some 25), none, .mov (.t 24)⟩,
    ⟨(some 26), (some (25, true)), .fadr 3 (.t 1)⟩,
    ⟨(some 27), (some (25, true)), .load 1 false (.t 26)⟩,
    ⟨(some 28), (some (25, true)), .fadr 1 (.t 1)⟩,
    ⟨(some 29), (some (25, true)), .load 1 false (.t 28)⟩,
    ⟨(some 30), (some (25, true)), .bin .sub (.t 29) (.k (.d (.int .i64 1)))⟩,
    ⟨(some 31), (some (25, true)), .fadr 2 (.t 1)⟩,
    ⟨(some 32), (some (25, true)), .load 1 false (.t 31)⟩,
    ⟨(some 33), (some (25, true)), .bin .sub (.t 32) (.k (.d (.int .i64 1)))⟩,
    ⟨(some 34), (some (25, true)), .bslice 3 1 5 [(.k (.d (.int .i64 0))), (.t 27), (.t 30), (.t 33), (.k (.d (.int .i64 999999999999999)))]⟩,
    ⟨(some 35), (some (25, true)), .call 33 [(.t 34)]⟩,
    ⟨(some 36), none, .pick (.t 25) (.t 35) (.k (.d (.bool false)))⟩,
    ⟨(some 37), none, .mov (.t 36)⟩,
    ⟨(some 38), (some (37, true)), .fadr 3 (.t 1)⟩,
    ⟨(some 39), (some (37, true)), .load 1 false (.t 38)⟩,
    ⟨(some 40), (some (37, true)), .fadr 1 (.t 1)⟩,
    ⟨(some 41), (some (37, true)), .load 1 false (.t 40)⟩,
    ⟨(some 42), (some (37, true)), .bin .lss (.t 39) (.t 41)⟩,
    ⟨(some 43), none, .pick (.t 37) (.t 42) (.k (.d (.bool false)))⟩,
    ⟨(some 2), none, .mov (.t 43)⟩])
  .ret))))
def rs20 : List RV := [.tmp 2]
theorem ok20 : okF Try.prog 20 = true := by kernel_rfl
theorem cc20 : cCode Try.prog Try.f20.ntmps (Try.f20.body.getD .skip) = some c20 := by kernel_rfl
theorem cr20 : cRess Try.prog Try.f20.results.toList = some rs20 := by kernel_rfl
theorem pure20 {args : List V} {res : V} (hlen : args.length ≤ 44) (hna : namesL args = []) (hnr : res.names = []) (h : ∀ c : Ctx, c.P = Try.prog → c.fn = [] → vcC c c20 ⟨initE 0 args, [], []⟩ (RetK c rs20 res [])) : Ctr Try.prog 20 args [] res [] [] :=
  ctr_pure Try.func20 ok20 rfl cc20 cr20 Try.ntmps20 hlen hna hnr h
theorem own20 {args : List V} {ins outs : List (Nat × Own)} {res : V} {new : List Nat} (hlen : args.length ≤ 44) (hf : ctrB args ins res outs new = true) (h : ∀ c : Ctx, c.P = Try.prog → c.fn = namesL args ++ ownNames ins → vcC c c20 ⟨initE 0 args, ins, namesL args ++ ownNames ins⟩ (RetK c rs20 res outs)) : Ctr Try.prog 20 args ins res outs new :=
  ctr_own Try.func20 ok20 rfl cc20 cr20 Try.ntmps20 hlen hf h

/-- bordereau/risk.Band -/
def c21 : C :=
  (.seq (.reg [⟨(some 4), none, .mov (.k (.d (.int .i64 0)))⟩])
  (.scope 1 (.seq .skip
    (.seq (.seq (.reg [⟨(some 5), none, .mov (.t 0)⟩,
      ⟨(some 6), none, .len (.t 5)⟩,
      ⟨(some 7), none, .bin .eql (.t 6) (.k (.d (.int .i64 0)))⟩])
    (.cond (.t 7) (.seq (.reg [⟨(some 4), none, .mov (.k (.d (.int .i64 10000)))⟩])
      .ret)
    .skip))
    (.seq (.seq (.reg [⟨(some 8), none, .mov (.t 0)⟩,
      ⟨(some 9), none, .iadr 2 (.t 8) (.k (.d (.int .i64 0)))⟩,
      ⟨(some 10), none, .fadr 0 (.t 9)⟩,
      ⟨(some 11), none, .load 1 false (.t 10)⟩,
      ⟨(some 12), none, .mov (.t 1)⟩,
      ⟨(some 13), none, .bin .lss (.t 11) (.t 12)⟩])
    (.cond (.t 13) (.seq (.reg [⟨(some 14), none, .mov (.t 0)⟩,
        ⟨(some 15), none, .slc 2 (.t 14) (some (.k (.d (.int .i64 1)))) none none⟩,
        ⟨(some 0), none, .mov (.t 15)⟩])
      (.exit 1))
    .skip))
    (.seq (.reg [⟨(some 16), none, .mov (.t 0)⟩,
      ⟨(some 17), none, .iadr 2 (.t 16) (.k (.d (.int .i64 0)))⟩,
      ⟨(some 18), none, .fadr 1 (.t 17)⟩,
      ⟨(some 19), none, .load 1 false (.t 18)⟩,
      ⟨(some 4), none, .mov (.t 19)⟩])
    .ret))))
  (.seq .skip
    (.seq (.seq (.reg [⟨(some 5), none, .mov (.t 0)⟩,
      ⟨(some 6), none, .len (.t 5)⟩,
      ⟨(some 7), none, .bin .eql (.t 6) (.k (.d (.int .i64 0)))⟩])
    (.cond (.t 7) (.seq (.reg [⟨(some 4), none, .mov (.k (.d (.int .i64 10000)))⟩])
      .ret)
    .skip))
    (.seq (.seq (.reg [⟨(some 8), none, .mov (.t 0)⟩,
      ⟨(some 9), none, .iadr 2 (.t 8) (.k (.d (.int .i64 0)))⟩,
      ⟨(some 10), none, .fadr 0 (.t 9)⟩,
      ⟨(some 11), none, .load 1 false (.t 10)⟩,
      ⟨(some 12), none, .mov (.t 1)⟩,
      ⟨(some 13), none, .bin .lss (.t 11) (.t 12)⟩])
    (.cond (.t 13) (.seq (.reg [⟨(some 14), none, .mov (.t 0)⟩,
        ⟨(some 15), none, .slc 2 (.t 14) (some (.k (.d (.int .i64 1)))) none none⟩,
        ⟨(some 0), none, .mov (.t 15)⟩])
      (.exit 1))
    .skip))
    (.seq (.reg [⟨(some 16), none, .mov (.t 0)⟩,
      ⟨(some 17), none, .iadr 2 (.t 16) (.k (.d (.int .i64 0)))⟩,
      ⟨(some 18), none, .fadr 1 (.t 17)⟩,
      ⟨(some 19), none, .load 1 false (.t 18)⟩,
      ⟨(some 4), none, .mov (.t 19)⟩])
    .ret))))))
def rs21 : List RV := [.tmp 4]
theorem ok21 : okF Try.prog 21 = true := by kernel_rfl
theorem cc21 : cCode Try.prog Try.f21.ntmps (Try.f21.body.getD .skip) = some c21 := by kernel_rfl
theorem cr21 : cRess Try.prog Try.f21.results.toList = some rs21 := by kernel_rfl
theorem pure21 {args : List V} {res : V} (hlen : args.length ≤ 20) (hna : namesL args = []) (hnr : res.names = []) (h : ∀ c : Ctx, c.P = Try.prog → c.fn = [] → vcC c c21 ⟨initE 0 args, [], []⟩ (RetK c rs21 res [])) : Ctr Try.prog 21 args [] res [] [] :=
  ctr_pure Try.func21 ok21 rfl cc21 cr21 Try.ntmps21 hlen hna hnr h
theorem own21 {args : List V} {ins outs : List (Nat × Own)} {res : V} {new : List Nat} (hlen : args.length ≤ 20) (hf : ctrB args ins res outs new = true) (h : ∀ c : Ctx, c.P = Try.prog → c.fn = namesL args ++ ownNames ins → vcC c c21 ⟨initE 0 args, ins, namesL args ++ ownNames ins⟩ (RetK c rs21 res outs)) : Ctr Try.prog 21 args ins res outs new :=
  ctr_own Try.func21 ok21 rfl cc21 cr21 Try.ntmps21 hlen hf h

/-- bordereau/num.Bp -/
def c22 : C :=
  (.seq (.reg [⟨(some 4), none, .mov (.k (.d (.int .i64 0)))⟩,
    ⟨(some 5), none, .mov (.k (.d (.int .i64 0)))⟩])
  (.seq (.reg [⟨(some 6), none, .mov (.t 0)⟩,
    ⟨(some 7), none, .mov (.t 1)⟩,
    ⟨(some 8), none, .call 34 [(.t 6), (.t 7), (.k (.d (.int .i64 10000)))]⟩,
    ⟨(some 9), none, .ext 0 (.t 8)⟩,
    ⟨(some 10), none, .ext 1 (.t 8)⟩,
    ⟨(some 4), none, .mov (.t 9)⟩,
    ⟨(some 5), none, .mov (.t 10)⟩])
  .ret))
def rs22 : List RV := [.tmp 4, .tmp 5]
theorem ok22 : okF Try.prog 22 = true := by kernel_rfl
theorem cc22 : cCode Try.prog Try.f22.ntmps (Try.f22.body.getD .skip) = some c22 := by kernel_rfl
theorem cr22 : cRess Try.prog Try.f22.results.toList = some rs22 := by kernel_rfl
theorem pure22 {args : List V} {res : V} (hlen : args.length ≤ 11) (hna : namesL args = []) (hnr : res.names = []) (h : ∀ c : Ctx, c.P = Try.prog → c.fn = [] → vcC c c22 ⟨initE 0 args, [], []⟩ (RetK c rs22 res [])) : Ctr Try.prog 22 args [] res [] [] :=
  ctr_pure Try.func22 ok22 rfl cc22 cr22 Try.ntmps22 hlen hna hnr h
theorem own22 {args : List V} {ins outs : List (Nat × Own)} {res : V} {new : List Nat} (hlen : args.length ≤ 11) (hf : ctrB args ins res outs new = true) (h : ∀ c : Ctx, c.P = Try.prog → c.fn = namesL args ++ ownNames ins → vcC c c22 ⟨initE 0 args, ins, namesL args ++ ownNames ins⟩ (RetK c rs22 res outs)) : Ctr Try.prog 22 args ins res outs new :=
  ctr_own Try.func22 ok22 rfl cc22 cr22 Try.ntmps22 hlen hf h

/-- bordereau/bordereauref06.Right -/
def c23 : C :=
  (.seq (.reg [⟨(some 1), none, .box 28 (.t 0)⟩,
    ⟨(some 2), none, .mov (.k (.d (.bool false)))⟩])
  (.seq (.seq (.reg [⟨(some 3), none, .fadr 0 (.t 1)⟩,
    ⟨(some 4), none, .load 1 false (.t 3)⟩,
    ⟨(some 5), none, .bin .lss (.t 4) (.k (.d (.int .i64 0)))⟩,
    ⟨(some 6), none, .mov (.t 5)⟩,
    ⟨(some 7), (some (6, false)), .fadr 0 (.t 1)⟩,
    ⟨(some 8), (some (6, false)), .load 1 false (.t 7)⟩,
    ⟨(some 9), (some (6, false)), .bin .gtr (.t 8) (.k (.d (.int .i64 3)))⟩,
    ⟨(some 10), none, .pick (.t 6) (.k (.d (.bool true))) (.t 9)⟩,
    ⟨(some 11), none, .mov (.t 10)⟩,
    ⟨(some 12), (some (11, false)), .fadr 1 (.t 1)⟩,
    ⟨(some 13), (some (11, false)), .load 1 false (.t 12)⟩,
    ⟨(some 14), (some (11, false)), .bin .lss (.t 13) (.k (.d (.int .i64 1)))⟩,
    ⟨(some 15), none, .pick (.t 11) (.k (.d (.bool true))) (.t 14)⟩,
    ⟨(some 16), none, .mov (.t 15)⟩,
    ⟨(some 17), (some (16, false)), .fadr 1 (.t 1)⟩,
    ⟨(some 18), (some (16, false)), .load 1 false (.t 17)⟩,
    ⟨(some 19), (some (16, false)), .bin .gtr (.t 18) (.k (.d (.int .i64 1000000000000000)))⟩,
    ⟨(some 20), none, .pick (.t 16) (.k (.d (.bool true))) (.t 19)⟩])
  (.cond (.t 20) (.seq (.reg [⟨(some 2), none, .mov (.k (.d (.bool false)))⟩])
    .ret)
  .skip))
  (.seq (.reg [⟨(some 21), none, .fadr 2 (.t 1)⟩,
    ⟨(some 22), none, .load 1 false (.t 21)⟩,
    ⟨(some 23), none, .bin .geq (.t 22) (.k (.d (.int .i64 0)))⟩,
    ⟨(some 24), none, .mov (.t 23)⟩,
    ⟨(some 25), (some (24, true)), .fadr 2 (.t 1)⟩,
    ⟨(some 26), (some (24, true)), .load 1 false (.t 25)⟩,
    ⟨(some 27), (some (24, true)), .bin .leq (.t 26) (.k (.d (.int .i64 200)))⟩,
    ⟨(some 28), none, .pick (.t 24) (.t 27) (.k (.d (.bool false)))⟩,
    ⟨(some 29), none, .mov (.t 28)⟩,
    ⟨(some 30), (some (29, true)), .fadr 3 (.t 1)⟩,
    ⟨(some 31), (some (29, true)), .load 1 false (.t 30)⟩,
    ⟨(some 32), (some (29, true)), .bin .geq (.t 31) (.k (.d (.int .i64 0)))⟩,
    ⟨(some 33), none, .pick (.t 29) (.t 32) (.k (.d (.bool false)))⟩,
    ⟨(some 34), none, .mov (.t 33)⟩,
    ⟨(some 35), (some (34, true)), .fadr 3 (.t 1)⟩,
    ⟨(some 36), (some (34, true)), .load 1 false (.t 35)⟩,
    ⟨(some 37), (some (34, true)), .bin .leq (.t 36) (.k (.d (.int .i64 99)))⟩,
    ⟨(some 38), none, .pick (.t 34) (.t 37) (.k (.d (.bool false)))⟩,
    ⟨(some 2), none, .mov (.t 38)⟩])
  .ret)))
def rs23 : List RV := [.tmp 2]
theorem ok23 : okF Try.prog 23 = true := by kernel_rfl
theorem cc23 : cCode Try.prog Try.f23.ntmps (Try.f23.body.getD .skip) = some c23 := by kernel_rfl
theorem cr23 : cRess Try.prog Try.f23.results.toList = some rs23 := by kernel_rfl
theorem pure23 {args : List V} {res : V} (hlen : args.length ≤ 39) (hna : namesL args = []) (hnr : res.names = []) (h : ∀ c : Ctx, c.P = Try.prog → c.fn = [] → vcC c c23 ⟨initE 0 args, [], []⟩ (RetK c rs23 res [])) : Ctr Try.prog 23 args [] res [] [] :=
  ctr_pure Try.func23 ok23 rfl cc23 cr23 Try.ntmps23 hlen hna hnr h
theorem own23 {args : List V} {ins outs : List (Nat × Own)} {res : V} {new : List Nat} (hlen : args.length ≤ 39) (hf : ctrB args ins res outs new = true) (h : ∀ c : Ctx, c.P = Try.prog → c.fn = namesL args ++ ownNames ins → vcC c c23 ⟨initE 0 args, ins, namesL args ++ ownNames ins⟩ (RetK c rs23 res outs)) : Ctr Try.prog 23 args ins res outs new :=
  ctr_own Try.func23 ok23 rfl cc23 cr23 Try.ntmps23 hlen hf h

/-- bordereau/bordereauref08.Right -/
def c24 : C :=
  (.seq (.reg [⟨(some 1), none, .box 30 (.t 0)⟩,
    ⟨(some 2), none, .mov (.k (.d (.bool false)))⟩])
  (.seq (.seq (.reg [⟨(some 3), none, .fadr 0 (.t 1)⟩,
    ⟨(some 4), none, .load 1 false (.t 3)⟩,
    ⟨(some 5), none, .bin .lss (.t 4) (.k (.d (.int .i64 0)))⟩,
    ⟨(some 6), none, .mov (.t 5)⟩,
    ⟨(some 7), (some (6, false)), .fadr 0 (.t 1)⟩,
    ⟨(some 8), (some (6, false)), .load 1 false (.t 7)⟩,
    ⟨(some 9), (some (6, false)), .bin .gtr (.t 8) (.k (.d (.int .i64 7)))⟩,
    ⟨(some 10), none, .pick (.t 6) (.k (.d (.bool true))) (.t 9)⟩,
    ⟨(some 11), none, .mov (.t 10)⟩,
    ⟨(some 12), (some (11, false)), .fadr 4 (.t 1)⟩,
    ⟨(some 13), (some (11, false)), .load 1 false (.t 12)⟩,
    ⟨(some 14), (some (11, false)), .bin .lss (.t 13) (.k (.d (.int .i64 1)))⟩,
    ⟨(some 15), none, .pick (.t 11) (.k (.d (.bool true))) (.t 14)⟩,
    ⟨(some 16), none, .mov (.t 15)⟩,
    ⟨(some 17), (some (16, false)), .fadr 4 (.t 1)⟩,
    ⟨(some 18), (some (16, false)), .load 1 false (.t 17)⟩,
    ⟨(some 19), (some (16, false)), .bin .gtr (.t 18) (.k (.d (.int .i64 10000)))⟩,
    ⟨(some 20), none, .pick (.t 16) (.k (.d (.bool true))) (.t 19)⟩])
  (.cond (.t 20) (.seq (.reg [⟨(some 2), none, .mov (.k (.d (.bool false)))⟩])
    .ret)
  .skip))
  (.seq (.reg [⟨(some 21), none, .fadr 3 (.t 1)⟩,
    ⟨(some 22), none, .load 1 false (.t 21)⟩,
    ⟨(some 23), none, .bin .geq (.t 22) (.k (.d (.int .i64 0)))⟩,
    ⟨(some 24), none, .mov (.t 23)⟩,
    ⟨(some 25), (some (24, true)), .fadr 3 (.t 1)⟩,
    ⟨(some 26), (some (24, true)), .load 1 false (.t 25)⟩,
    ⟨(some 27), (some (24, true)), .fadr 1 (.t 1)⟩,
    ⟨(some 28), (some (24, true)), .load 1 false (.t 27)⟩,
    ⟨(some 29), (some (24, true)), .bin .lss (.t 26) (.t 28)⟩,
    ⟨(some 30), none, .pick (.t 24) (.t 29) (.k (.d (.bool false)))⟩,
    ⟨(some 31), none, .mov (.t 30)⟩,
    ⟨(some 32), (some (31, true)), .fadr 1 (.t 1)⟩,
    ⟨(some 33), (some (31, true)), .load 1 false (.t 32)⟩,
    ⟨(some 34), (some (31, true)), .fadr 2 (.t 1)⟩,
    ⟨(some 35), (some (31, true)), .load 1 false (.t 34)⟩,
    ⟨(some 36), (some (31, true)), .bin .leq (.t 33) (.t 35)⟩,
    ⟨(some 37), none, .pick (.t 31) (.t 36) (.k (.d (.bool false)))⟩,
    ⟨(some 38), none, .mov (.t 37)⟩,
    ⟨(some 39), (some (38, true)), .fadr 2 (.t 1)⟩,
    ⟨(some 40), (some (38, true)), .load 1 false (.t 39)⟩,
    ⟨(some 41), (some (38, true)), .bin .leq (.t 40) (.k (.d (.int .i64 1000000000000000)))⟩,
    ⟨(some 42), none, .pick (.t 38) (.t 41) (.k (.d (.bool false)))⟩,
    ⟨(some 2), none, .mov (.t 42)⟩])
  .ret)))
def rs24 : List RV := [.tmp 2]
theorem ok24 : okF Try.prog 24 = true := by kernel_rfl
theorem cc24 : cCode Try.prog Try.f24.ntmps (Try.f24.body.getD .skip) = some c24 := by kernel_rfl
theorem cr24 : cRess Try.prog Try.f24.results.toList = some rs24 := by kernel_rfl
theorem pure24 {args : List V} {res : V} (hlen : args.length ≤ 43) (hna : namesL args = []) (hnr : res.names = []) (h : ∀ c : Ctx, c.P = Try.prog → c.fn = [] → vcC c c24 ⟨initE 0 args, [], []⟩ (RetK c rs24 res [])) : Ctr Try.prog 24 args [] res [] [] :=
  ctr_pure Try.func24 ok24 rfl cc24 cr24 Try.ntmps24 hlen hna hnr h
theorem own24 {args : List V} {ins outs : List (Nat × Own)} {res : V} {new : List Nat} (hlen : args.length ≤ 43) (hf : ctrB args ins res outs new = true) (h : ∀ c : Ctx, c.P = Try.prog → c.fn = namesL args ++ ownNames ins → vcC c c24 ⟨initE 0 args, ins, namesL args ++ ownNames ins⟩ (RetK c rs24 res outs)) : Ctr Try.prog 24 args ins res outs new :=
  ctr_own Try.func24 ok24 rfl cc24 cr24 Try.ntmps24 hlen hf h

/-- bordereau/bordereauref06.Band -/
def c25 : C :=
  (.seq (.reg [⟨(some 4), none, .mov (.k (.d (.int .i64 0)))⟩])
  (.seq (.reg [⟨(some 5), none, .mov (.k (.d (.int .i64 10000)))⟩])
  (.seq (.seq (.reg [⟨(some 7), none, .mov (.t 0)⟩,
    ⟨(some 8), none, .len (.t 7)⟩,
    ⟨(some 9), none, .bin .sub (.t 8) (.k (.d (.int .i64 1)))⟩,
    ⟨(some 6), none, .mov (.t 9)⟩])
  (.block 0 (.loop (.seq (.seq (.reg [⟨(some 10), none, .mov (.t 6)⟩,
        ⟨(some 11), none, .bin .geq (.t 10) (.k (.d (.int .i64 0)))⟩])
      (.cond (.t 11) .skip
      (.exit 0)))
      (.seq (.block 2 (.seq (.reg [⟨(some 14), none, .mov (.t 0)⟩,
          ⟨(some 15), none, .mov (.t 6)⟩,
          ⟨(some 16), none, .iadr 2 (.t 14) (.t 15)⟩,
          ⟨(some 17), none, .fadr 0 (.t 16)⟩,
          ⟨(some 18), none, .load 1 false (.t 17)⟩,
          ⟨(some 19), none, .mov (.t 1)⟩,
          ⟨(some 20), none, .bin .geq (.t 18) (.t 19)⟩])
        (.cond (.t 20) (.reg [⟨(some 21), none, .mov (.t 0)⟩,
            ⟨(some 22), none, .mov (.t 6)⟩,
            ⟨(some 23), none, .iadr 2 (.t 21) (.t 22)⟩,
            ⟨(some 24), none, .fadr 1 (.t 23)⟩,
            ⟨(some 25), none, .load 1 false (.t 24)⟩,
            ⟨(some 5), none, .mov (.t 25)⟩])
        .skip)))
      (.reg [⟨(some 12), none, .mov (.t 6)⟩,
        ⟨(some 13), none, .bin .sub (.t 12) (.k (.d (.int .i64 1)))⟩,
        ⟨(some 6), none, .mov (.t 13)⟩]))))))
  (.seq (.reg [⟨(some 26), none, .mov (.t 5)⟩,
    ⟨(some 4), none, .mov (.t 26)⟩])
  .ret))))
def rs25 : List RV := [.tmp 4]
theorem ok25 : okF Try.prog 25 = true := by kernel_rfl
theorem cc25 : cCode Try.prog Try.f25.ntmps (Try.f25.body.getD .skip) = some c25 := by kernel_rfl
theorem cr25 : cRess Try.prog Try.f25.results.toList = some rs25 := by kernel_rfl
theorem pure25 {args : List V} {res : V} (hlen : args.length ≤ 27) (hna : namesL args = []) (hnr : res.names = []) (h : ∀ c : Ctx, c.P = Try.prog → c.fn = [] → vcC c c25 ⟨initE 0 args, [], []⟩ (RetK c rs25 res [])) : Ctr Try.prog 25 args [] res [] [] :=
  ctr_pure Try.func25 ok25 rfl cc25 cr25 Try.ntmps25 hlen hna hnr h
theorem own25 {args : List V} {ins outs : List (Nat × Own)} {res : V} {new : List Nat} (hlen : args.length ≤ 27) (hf : ctrB args ins res outs new = true) (h : ∀ c : Ctx, c.P = Try.prog → c.fn = namesL args ++ ownNames ins → vcC c c25 ⟨initE 0 args, ins, namesL args ++ ownNames ins⟩ (RetK c rs25 res outs)) : Ctr Try.prog 25 args ins res outs new :=
  ctr_own Try.func25 ok25 rfl cc25 cr25 Try.ntmps25 hlen hf h

/-- bordereau/bordereauref01.Bp -/
def c26 : C :=
  (.seq (.reg [⟨(some 4), none, .mov (.k (.d (.int .i64 0)))⟩,
    ⟨(some 5), none, .mov (.k (.d (.int .i64 0)))⟩])
  (.seq (.reg [⟨(some 6), none, .mov (.t 0)⟩,
    ⟨(some 7), none, .mov (.t 1)⟩,
    ⟨(some 8), none, .call 35 [(.t 6), (.t 7), (.k (.d (.int .i64 10000)))]⟩,
    ⟨(some 9), none, .ext 0 (.t 8)⟩,
    ⟨(some 10), none, .ext 1 (.t 8)⟩,
    ⟨(some 4), none, .mov (.t 9)⟩,
    ⟨(some 5), none, .mov (.t 10)⟩])
  .ret))
def rs26 : List RV := [.tmp 4, .tmp 5]
theorem ok26 : okF Try.prog 26 = true := by kernel_rfl
theorem cc26 : cCode Try.prog Try.f26.ntmps (Try.f26.body.getD .skip) = some c26 := by kernel_rfl
theorem cr26 : cRess Try.prog Try.f26.results.toList = some rs26 := by kernel_rfl
theorem pure26 {args : List V} {res : V} (hlen : args.length ≤ 11) (hna : namesL args = []) (hnr : res.names = []) (h : ∀ c : Ctx, c.P = Try.prog → c.fn = [] → vcC c c26 ⟨initE 0 args, [], []⟩ (RetK c rs26 res [])) : Ctr Try.prog 26 args [] res [] [] :=
  ctr_pure Try.func26 ok26 rfl cc26 cr26 Try.ntmps26 hlen hna hnr h
theorem own26 {args : List V} {ins outs : List (Nat × Own)} {res : V} {new : List Nat} (hlen : args.length ≤ 11) (hf : ctrB args ins res outs new = true) (h : ∀ c : Ctx, c.P = Try.prog → c.fn = namesL args ++ ownNames ins → vcC c c26 ⟨initE 0 args, ins, namesL args ++ ownNames ins⟩ (RetK c rs26 res outs)) : Ctr Try.prog 26 args ins res outs new :=
  ctr_own Try.func26 ok26 rfl cc26 cr26 Try.ntmps26 hlen hf h

/-- bordereau/quote.adder -/
def c27 : C :=
  (.seq (.reg [⟨(some 0), none, .mov (.k (.d (.raw .nilFunc)))⟩])
  (.seq (.reg [⟨(some 1), none, .alloc 3 [.d (.int .i64 0)]⟩,
    ⟨none, none, .store 1 (.t 1) (.k (.d (.int .i64 0)))⟩])
  (.seq (.reg [⟨(some 2), none, .mkfn (.func 36) [] [(.t 1)]⟩,
    ⟨(some 0), none, .mov (.t 2)⟩])
  .ret)))
def rs27 : List RV := [.tmp 0]
theorem ok27 : okF Try.prog 27 = true := by kernel_rfl
theorem cc27 : cCode Try.prog Try.f27.ntmps (Try.f27.body.getD .skip) = some c27 := by kernel_rfl
theorem cr27 : cRess Try.prog Try.f27.results.toList = some rs27 := by kernel_rfl
theorem pure27 {args : List V} {res : V} (hlen : args.length ≤ 3) (hna : namesL args = []) (hnr : res.names = []) (h : ∀ c : Ctx, c.P = Try.prog → c.fn = [] → vcC c c27 ⟨initE 0 args, [], []⟩ (RetK c rs27 res [])) : Ctr Try.prog 27 args [] res [] [] :=
  ctr_pure Try.func27 ok27 rfl cc27 cr27 Try.ntmps27 hlen hna hnr h
theorem own27 {args : List V} {ins outs : List (Nat × Own)} {res : V} {new : List Nat} (hlen : args.length ≤ 3) (hf : ctrB args ins res outs new = true) (h : ∀ c : Ctx, c.P = Try.prog → c.fn = namesL args ++ ownNames ins → vcC c c27 ⟨initE 0 args, ins, namesL args ++ ownNames ins⟩ (RetK c rs27 res outs)) : Ctr Try.prog 27 args ins res outs new :=
  ctr_own Try.func27 ok27 rfl cc27 cr27 Try.ntmps27 hlen hf h

/-- bordereau/bordereauref01.Sum -/
def c28 : C :=
  (.seq (.reg [⟨(some 2), none, .mov (.k (.d (.int .i64 0)))⟩,
    ⟨(some 3), none, .mov (.k (.d (.bool false)))⟩])
  (.seq (.reg [⟨(some 4), none, .mov (.k (.d (.int .i64 0)))⟩])
  (.seq (.seq (.reg [⟨(some 5), none, .mov (.k (.d (.int .i64 0)))⟩])
  (.block 0 (.loop (.seq (.seq (.reg [⟨(some 6), none, .mov (.t 5)⟩,
        ⟨(some 7), none, .mov (.t 0)⟩,
        ⟨(some 8), none, .len (.t 7)⟩,
        ⟨(some 9), none, .bin .lss (.t 6) (.t 8)⟩])
      (.cond (.t 9) .skip
      (.exit 0)))
      (.seq (.block 2 (.seq (.seq (.reg [⟨(some 12), none, .mov (.t 0)⟩,
          ⟨(some 13), none, .mov (.t 5)⟩,
          ⟨(some 14), none, .iadr 1 (.t 12) (.t 13)⟩,
          ⟨(some 15), none, .load 1 false (.t 14)⟩,
          ⟨(some 16), none, .mov (.t 4)⟩,
          ⟨(some 17), none, .bin .sub (.k (.d (.int .i64 4000000000000000000))) (.t 16)⟩,
          ⟨(some 18), none, .bin .gtr (.t 15) (.t 17)⟩])
        (.cond (.t 18) (.seq (.reg [⟨(some 2), none, .mov (.k (.d (.int .i64 0)))⟩,
            ⟨(some 3), none, .mov (.k (.d (.bool false)))⟩])
          .ret)
        .skip))
        (.reg [⟨(some 19), none, .mov (.t 4)⟩,
          ⟨(some 20), none, .mov (.t 0)⟩,
          ⟨(some 21), none, .mov (.t 5)⟩,
          ⟨(some 22), none, .iadr 1 (.t 20) (.t 21)⟩,
          ⟨(some 23), none, .load 1 false (.t 22)⟩,
          ⟨(some 24), none, .bin .add (.t 19) (.t 23)⟩,
          ⟨(some 4), none, .mov (.t 24)⟩])))
      (.reg [⟨(some 10), none, .mov (.t 5)⟩,
        ⟨(some 11), none, .bin .add (.t 10) (.k (.d (.int .i64 1)))⟩,
        ⟨(some 5), none, .mov (.t 11)⟩]))))))
  (.seq (.reg [⟨(some 25), none, .mov (.t 4)⟩,
    ⟨(some 2), none, .mov (.t 25)⟩,
    ⟨(some 3), none, .mov (.k (.d (.bool true)))⟩])
  .ret))))
def rs28 : List RV := [.tmp 2, .tmp 3]
theorem ok28 : okF Try.prog 28 = true := by kernel_rfl
theorem cc28 : cCode Try.prog Try.f28.ntmps (Try.f28.body.getD .skip) = some c28 := by kernel_rfl
theorem cr28 : cRess Try.prog Try.f28.results.toList = some rs28 := by kernel_rfl
theorem pure28 {args : List V} {res : V} (hlen : args.length ≤ 26) (hna : namesL args = []) (hnr : res.names = []) (h : ∀ c : Ctx, c.P = Try.prog → c.fn = [] → vcC c c28 ⟨initE 0 args, [], []⟩ (RetK c rs28 res [])) : Ctr Try.prog 28 args [] res [] [] :=
  ctr_pure Try.func28 ok28 rfl cc28 cr28 Try.ntmps28 hlen hna hnr h
theorem own28 {args : List V} {ins outs : List (Nat × Own)} {res : V} {new : List Nat} (hlen : args.length ≤ 26) (hf : ctrB args ins res outs new = true) (h : ∀ c : Ctx, c.P = Try.prog → c.fn = namesL args ++ ownNames ins → vcC c c28 ⟨initE 0 args, ins, namesL args ++ ownNames ins⟩ (RetK c rs28 res outs)) : Ctr Try.prog 28 args ins res outs new :=
  ctr_own Try.func28 ok28 rfl cc28 cr28 Try.ntmps28 hlen hf h

/-- bordereau/bordereauref06.Bands -/
def c29 : C :=
  (.seq (.reg [⟨(some 2), none, .mov (.k (.d (.bool false)))⟩])
  (.seq (.seq (.reg [⟨(some 4), none, .mov (.t 0)⟩,
    ⟨(some 5), none, .len (.t 4)⟩,
    ⟨(some 6), none, .bin .gtr (.t 5) (.k (.d (.int .i64 100)))⟩])
  (.cond (.t 6) (.seq (.reg [⟨(some 2), none, .mov (.k (.d (.bool false)))⟩])
    .ret)
  .skip))
  (.seq (.seq (.reg [⟨(some 3), none, .mov (.k (.d (.int .i64 0)))⟩])
  (.block 0 (.loop (.seq (.seq (.reg [⟨(some 7), none, .mov (.t 3)⟩,
        ⟨(some 8), none, .mov (.t 0)⟩,
        ⟨(some 9), none, .len (.t 8)⟩,
        ⟨(some 10), none, .bin .lss (.t 7) (.t 9)⟩])
      (.cond (.t 10) .skip
      (.exit 0)))
      (.seq (.block 2 (.seq (.seq (.reg [⟨(some 13), none, .mov (.t 0)⟩,
          ⟨(some 14), none, .mov (.t 3)⟩,
          ⟨(some 15), none, .iadr 2 (.t 13) (.t 14)⟩,
          ⟨(some 16), none, .fadr 0 (.t 15)⟩,
          ⟨(some 17), none, .load 1 false (.t 16)⟩,
          ⟨(some 18), none, .bin .lss (.t 17) (.k (.d (.int .i64 0)))⟩,
          ⟨(some 19), none, .mov (.t 18)⟩,
          ⟨(some 20), (some (19, false)), .mov (.t 0)⟩,
          ⟨(some 21), (some (19, false)), .mov (.t 3)⟩,
          ⟨(some 22), (some (19, false)), .iadr 2 (.t 20) (.t 21)⟩,
          ⟨(some 23), (some (19, false)), .fadr 0 (.t 22)⟩,
          ⟨(some 24), (some (19, false)), .load 1 false (.t 23)⟩,
          ⟨(some 25), (some (19, false)), .bin .gtr (.t 24) (.k (.d (.int .i64 200)))⟩,
          ⟨(some 26), none, .pick (.t 19) (.k (.d (.bool true))) (.t 25)⟩,
          ⟨(some 27), none, .mov (.t 26)⟩,
          ⟨(some 28), (some (27, false)), .mov (.t 0)⟩,
          ⟨(some 29), (some (27, false)), .mov (.t 3)⟩,
          ⟨(some 30), (some (27, false)), .iadr 2 (.t 28) (.t 29)⟩,
          ⟨(some 31), (some (27, false)), .fadr 1 (.t 30)⟩,
          ⟨(some 32), (some (27, false)), .load 1 false (.t 31)⟩,
          ⟨(some 33), (some (27, false)), .bin .lss (.t 32) (.k (.d (.int .i64 0)))⟩,
          ⟨(some 34), none, .pick (.t 27) (.k (.d (.bool true))) (.t 33)⟩,
          ⟨(some 35), none, .mov (.t 34)⟩,
          ⟨(some 36), (some (35, false)), .mov (.t 0)⟩,
          ⟨(some 37), (some (35, false)), .mov (.t 3)⟩,
          ⟨(some 38), (some (35, false)), .iadr 2 (.t 36) (.t 37)⟩,
          ⟨(some 39), (some (35, false)), .fadr 1 (.t 38)⟩,
          ⟨(some 40), (some (35, false)), .load 1 false (.t 39)⟩,
          ⟨(some 41), (some (35, false)), .bin .gtr (.t 40) (.k (.d (.int .i64 100000)))⟩,
          ⟨(some 42), none, .pick (.t 35) (.k (.d (.bool true))) (.t 41)⟩])
        (.cond (.t 42) (.seq (.reg [⟨(some 2), none, .mov (.k (.d (.bool false)))⟩])
          .ret)
        .skip))
        (.seq (.reg [⟨(some 43), none, .mov (.t 3)⟩,
          ⟨(some 44), none, .bin .gtr (.t 43) (.k (.d (.int .i64 0)))⟩])
        (.cond (.t 44) (.seq (.drw [0, 0, 3, 7, 15, 0, 0, 64, 224, 480, 992, 2047]
           [⟨(some 45), none, .mov (.t 0)⟩,
            ⟨(some 46), none, .mov (.t 3)⟩,
            ⟨(some 47), none, .iadr 2 (.t 45) (.t 46)⟩,
            ⟨(some 48), none, .fadr 0 (.t 47)⟩,
            ⟨(some 49), none, .load 1 false (.t 48)⟩,
            ⟨(some 50), none, .mov (.t 0)⟩,
            ⟨(some 51), none, .mov (.t 3)⟩,
            ⟨(some 52), none, .bin .sub (.t 51) (.k (.d (.int .i64 1)))⟩,
            ⟨(some 53), none, .iadr 2 (.t 50) (.t 52)⟩,
            ⟨(some 54), none, .fadr 0 (.t 53)⟩,
            ⟨(some 55), none, .load 1 false (.t 54)⟩,
            ⟨(some 56), none, .bin .leq (.t 49) (.t 55)⟩])
          (.cond (.t 56) (.seq (.reg [⟨(some 2), none, .mov (.k (.d (.bool false)))⟩])
            .ret)
          .skip))
        .skip))))
      (.reg [⟨(some 11), none, .mov (.t 3)⟩,
        ⟨(some 12), none, .bin .add (.t 11) (.k (.d (.int .i64 1)))⟩,
        ⟨(some 3), none, .mov (.t 12)⟩]))))))
  (.seq (.reg [⟨(some 2), none, .mov (.k (.d (.bool true)))⟩])
  .ret))))
def rs29 : List RV := [.tmp 2]
theorem ok29 : okF Try.prog 29 = true := by kernel_rfl
theorem cc29 : cCode Try.prog Try.f29.ntmps (Try.f29.body.getD .skip) = some c29 := by kernel_rfl
theorem cr29 : cRess Try.prog Try.f29.results.toList = some rs29 := by kernel_rfl
theorem pure29 {args : List V} {res : V} (hlen : args.length ≤ 57) (hna : namesL args = []) (hnr : res.names = []) (h : ∀ c : Ctx, c.P = Try.prog → c.fn = [] → vcC c c29 ⟨initE 0 args, [], []⟩ (RetK c rs29 res [])) : Ctr Try.prog 29 args [] res [] [] :=
  ctr_pure Try.func29 ok29 rfl cc29 cr29 Try.ntmps29 hlen hna hnr h
theorem own29 {args : List V} {ins outs : List (Nat × Own)} {res : V} {new : List Nat} (hlen : args.length ≤ 57) (hf : ctrB args ins res outs new = true) (h : ∀ c : Ctx, c.P = Try.prog → c.fn = namesL args ++ ownNames ins → vcC c c29 ⟨initE 0 args, ins, namesL args ++ ownNames ins⟩ (RetK c rs29 res outs)) : Ctr Try.prog 29 args ins res outs new :=
  ctr_own Try.func29 ok29 rfl cc29 cr29 Try.ntmps29 hlen hf h

/-- bordereau/bordereauref07.factors -/
def c30 : C :=
  (.seq (.reg [⟨(some 2), none, .mov (.k (.d (.bool false)))⟩])
  (.seq (.seq (.reg [⟨(some 3), none, .mov (.k (.d (.int .i64 0)))⟩])
  (.block 0 (.loop (.seq (.seq (.reg [⟨(some 4), none, .mov (.t 3)⟩,
        ⟨(some 5), none, .mov (.t 0)⟩,
        ⟨(some 6), none, .len (.t 5)⟩,
        ⟨(some 7), none, .bin .lss (.t 4) (.t 6)⟩])
      (.cond (.t 7) .skip
      (.exit 0)))
      (.seq (.block 2 (.seq (.reg [⟨(some 10), none, .mov (.t 0)⟩,
          ⟨(some 11), none, .mov (.t 3)⟩,
          ⟨(some 12), none, .iadr 1 (.t 10) (.t 11)⟩,
          ⟨(some 13), none, .load 1 false (.t 12)⟩,
          ⟨(some 14), none, .bin .lss (.t 13) (.k (.d (.int .i64 0)))⟩,
          ⟨(some 15), none, .mov (.t 14)⟩,
          ⟨(some 16), (some (15, false)), .mov (.t 0)⟩,
          ⟨(some 17), (some (15, false)), .mov (.t 3)⟩,
          ⟨(some 18), (some (15, false)), .iadr 1 (.t 16) (.t 17)⟩,
          ⟨(some 19), (some (15, false)), .load 1 false (.t 18)⟩,
          ⟨(some 20), (some (15, false)), .bin .gtr (.t 19) (.k (.d (.int .i64 100000)))⟩,
          ⟨(some 21), none, .pick (.t 15) (.k (.d (.bool true))) (.t 20)⟩])
        (.cond (.t 21) (.seq (.reg [⟨(some 2), none, .mov (.k (.d (.bool false)))⟩])
          .ret)
        .skip)))
      (.reg [⟨(some 8), none, .mov (.t 3)⟩,
        ⟨(some 9), none, .bin .add (.t 8) (.k (.d (.int .i64 1)))⟩,
        ⟨(some 3), none, .mov (.t 9)⟩]))))))
  (.seq (.reg [⟨(some 2), none, .mov (.k (.d (.bool true)))⟩])
  .ret)))
def rs30 : List RV := [.tmp 2]
theorem ok30 : okF Try.prog 30 = true := by kernel_rfl
theorem cc30 : cCode Try.prog Try.f30.ntmps (Try.f30.body.getD .skip) = some c30 := by kernel_rfl
theorem cr30 : cRess Try.prog Try.f30.results.toList = some rs30 := by kernel_rfl
theorem pure30 {args : List V} {res : V} (hlen : args.length ≤ 22) (hna : namesL args = []) (hnr : res.names = []) (h : ∀ c : Ctx, c.P = Try.prog → c.fn = [] → vcC c c30 ⟨initE 0 args, [], []⟩ (RetK c rs30 res [])) : Ctr Try.prog 30 args [] res [] [] :=
  ctr_pure Try.func30 ok30 rfl cc30 cr30 Try.ntmps30 hlen hna hnr h
theorem own30 {args : List V} {ins outs : List (Nat × Own)} {res : V} {new : List Nat} (hlen : args.length ≤ 22) (hf : ctrB args ins res outs new = true) (h : ∀ c : Ctx, c.P = Try.prog → c.fn = namesL args ++ ownNames ins → vcC c c30 ⟨initE 0 args, ins, namesL args ++ ownNames ins⟩ (RetK c rs30 res outs)) : Ctr Try.prog 30 args ins res outs new :=
  ctr_own Try.func30 ok30 rfl cc30 cr30 Try.ntmps30 hlen hf h

/-- bordereau/tariff.factors -/
def c31 : C :=
  (.seq (.reg [⟨(some 2), none, .mov (.k (.d (.bool false)))⟩])
  (.seq (.reg [⟨(some 3), none, .mov (.t 0)⟩,
    ⟨(some 4), none, .call 37 [(.t 3), (.k (.fn (.func 38) [] []))]⟩,
    ⟨(some 5), none, .inv .not (.t 4)⟩,
    ⟨(some 2), none, .mov (.t 5)⟩])
  .ret))
def rs31 : List RV := [.tmp 2]
theorem ok31 : okF Try.prog 31 = true := by kernel_rfl
theorem cc31 : cCode Try.prog Try.f31.ntmps (Try.f31.body.getD .skip) = some c31 := by kernel_rfl
theorem cr31 : cRess Try.prog Try.f31.results.toList = some rs31 := by kernel_rfl
theorem pure31 {args : List V} {res : V} (hlen : args.length ≤ 6) (hna : namesL args = []) (hnr : res.names = []) (h : ∀ c : Ctx, c.P = Try.prog → c.fn = [] → vcC c c31 ⟨initE 0 args, [], []⟩ (RetK c rs31 res [])) : Ctr Try.prog 31 args [] res [] [] :=
  ctr_pure Try.func31 ok31 rfl cc31 cr31 Try.ntmps31 hlen hna hnr h
theorem own31 {args : List V} {ins outs : List (Nat × Own)} {res : V} {new : List Nat} (hlen : args.length ≤ 6) (hf : ctrB args ins res outs new = true) (h : ∀ c : Ctx, c.P = Try.prog → c.fn = namesL args ++ ownNames ins → vcC c c31 ⟨initE 0 args, ins, namesL args ++ ownNames ins⟩ (RetK c rs31 res outs)) : Ctr Try.prog 31 args ins res outs new :=
  ctr_own Try.func31 ok31 rfl cc31 cr31 Try.ntmps31 hlen hf h

/-- bordereau/risk.Bands -/
def c32 : C :=
  (.seq (.reg [⟨(some 2), none, .mov (.k (.d (.bool false)))⟩])
  (.seq (.reg [⟨(some 3), none, .mov (.k (.d (.int .i64 (-1))))⟩])
  (.seq (.seq (.reg [⟨(some 6), none, .mov (.t 0)⟩,
    ⟨(some 7), none, .len (.t 6)⟩,
    ⟨(some 8), none, .mov (.k (.d (.int .i64 0)))⟩])
  (.block 0 (.loop (.seq (.reg [⟨(some 9), none, .bin .lss (.t 8) (.t 7)⟩])
      (.seq (.cond (.t 9) .skip
      (.exit 0))
      (.seq (.block 2 (.seq (.reg [⟨(some 10), none, .iadr 2 (.t 6) (.t 8)⟩,
          ⟨(some 11), none, .load 2 true (.t 10)⟩,
          ⟨(some 5), none, .alloc 58 [.d (.int .i64 0), .d (.int .i64 0)]⟩,
          ⟨none, none, .store 2 (.t 5) (.t 11)⟩])
        (.seq (.seq (.reg [⟨(some 12), none, .fadr 0 (.t 5)⟩,
          ⟨(some 13), none, .load 1 false (.t 12)⟩,
          ⟨(some 14), none, .mov (.t 3)⟩,
          ⟨(some 15), none, .bin .leq (.t 13) (.t 14)⟩,
          ⟨(some 16), none, .mov (.t 15)⟩,
          ⟨(some 17), (some (16, false)), .fadr 0 (.t 5)⟩,
          ⟨(some 18), (some (16, false)), .load 1 false (.t 17)⟩,
          ⟨(some 19), (some (16, false)), .bin .gtr (.t 18) (.k (.d (.int .i64 200)))⟩,
          ⟨(some 20), none, .pick (.t 16) (.k (.d (.bool true))) (.t 19)⟩,
          ⟨(some 21), none, .mov (.t 20)⟩,
          ⟨(some 22), (some (21, false)), .fadr 1 (.t 5)⟩,
          ⟨(some 23), (some (21, false)), .load 1 false (.t 22)⟩,
          ⟨(some 24), (some (21, false)), .bin .lss (.t 23) (.k (.d (.int .i64 0)))⟩,
          ⟨(some 25), none, .pick (.t 21) (.k (.d (.bool true))) (.t 24)⟩,
          ⟨(some 26), none, .mov (.t 25)⟩,
          ⟨(some 27), (some (26, false)), .fadr 1 (.t 5)⟩,
          ⟨(some 28), (some (26, false)), .load 1 false (.t 27)⟩,
          ⟨(some 29), (some (26, false)), .bin .gtr (.t 28) (.k (.d (.int .i64 100000)))⟩,
          ⟨(some 30), none, .pick (.t 26) (.k (.d (.bool true))) (.t 29)⟩])
        (.cond (.t 30) (.seq (.reg [⟨(some 2), none, .mov (.k (.d (.bool false)))⟩])
          .ret)
        .skip))
        (.reg [⟨(some 31), none, .fadr 0 (.t 5)⟩,
          ⟨(some 32), none, .load 1 false (.t 31)⟩,
          ⟨(some 3), none, .mov (.t 32)⟩]))))
      (.reg [⟨(some 33), none, .bin .add (.t 8) (.k (.d (.int .i64 1)))⟩,
        ⟨(some 8), none, .mov (.t 33)⟩])))))))
  (.seq (.reg [⟨(some 34), none, .mov (.t 0)⟩,
    ⟨(some 35), none, .len (.t 34)⟩,
    ⟨(some 36), none, .bin .leq (.t 35) (.k (.d (.int .i64 100)))⟩,
    ⟨(some 2), none, .mov (.t 36)⟩])
  .ret))))
def rs32 : List RV := [.tmp 2]
theorem ok32 : okF Try.prog 32 = true := by kernel_rfl
theorem cc32 : cCode Try.prog Try.f32.ntmps (Try.f32.body.getD .skip) = some c32 := by kernel_rfl
theorem cr32 : cRess Try.prog Try.f32.results.toList = some rs32 := by kernel_rfl
theorem pure32 {args : List V} {res : V} (hlen : args.length ≤ 37) (hna : namesL args = []) (hnr : res.names = []) (h : ∀ c : Ctx, c.P = Try.prog → c.fn = [] → vcC c c32 ⟨initE 0 args, [], []⟩ (RetK c rs32 res [])) : Ctr Try.prog 32 args [] res [] [] :=
  ctr_pure Try.func32 ok32 rfl cc32 cr32 Try.ntmps32 hlen hna hnr h
theorem own32 {args : List V} {ins outs : List (Nat × Own)} {res : V} {new : List Nat} (hlen : args.length ≤ 37) (hf : ctrB args ins res outs new = true) (h : ∀ c : Ctx, c.P = Try.prog → c.fn = namesL args ++ ownNames ins → vcC c c32 ⟨initE 0 args, ins, namesL args ++ ownNames ins⟩ (RetK c rs32 res outs)) : Ctr Try.prog 32 args ins res outs new :=
  ctr_own Try.func32 ok32 rfl cc32 cr32 Try.ntmps32 hlen hf h

/-- slices.IsSorted[[]int,int] -/
def c33 : C :=
  (.seq (.reg [⟨(some 2), none, .mov (.k (.d (.bool false)))⟩])
  (.seq (.seq (.reg [⟨(some 4), none, .mov (.t 0)⟩,
    ⟨(some 5), none, .len (.t 4)⟩,
    ⟨(some 6), none, .bin .sub (.t 5) (.k (.d (.int .i64 1)))⟩,
    ⟨(some 3), none, .mov (.t 6)⟩])
  (.block 0 (.loop (.seq (.seq (.reg [⟨(some 7), none, .mov (.t 3)⟩,
        ⟨(some 8), none, .bin .gtr (.t 7) (.k (.d (.int .i64 0)))⟩])
      (.cond (.t 8) .skip
      (.exit 0)))
      (.seq (.block 2 (.seq (.drw [0, 0, 3, 7, 0, 0, 32, 112, 240, 511]
         [⟨(some 11), none, .mov (.t 0)⟩,
          ⟨(some 12), none, .mov (.t 3)⟩,
          ⟨(some 13), none, .iadr 1 (.t 11) (.t 12)⟩,
          ⟨(some 14), none, .load 1 false (.t 13)⟩,
          ⟨(some 15), none, .mov (.t 0)⟩,
          ⟨(some 16), none, .mov (.t 3)⟩,
          ⟨(some 17), none, .bin .sub (.t 16) (.k (.d (.int .i64 1)))⟩,
          ⟨(some 18), none, .iadr 1 (.t 15) (.t 17)⟩,
          ⟨(some 19), none, .load 1 false (.t 18)⟩,
          ⟨(some 20), none, .call 39 [(.t 14), (.t 19)]⟩])
        (.cond (.t 20) (.seq (.reg [⟨(some 2), none, .mov (.k (.d (.bool false)))⟩])
          .ret)
        .skip)))
      (.reg [⟨(some 9), none, .mov (.t 3)⟩,
        ⟨(some 10), none, .bin .sub (.t 9) (.k (.d (.int .i64 1)))⟩,
        ⟨(some 3), none, .mov (.t 10)⟩]))))))
  (.seq (.reg [⟨(some 2), none, .mov (.k (.d (.bool true)))⟩])
  .ret)))
def rs33 : List RV := [.tmp 2]
theorem ok33 : okF Try.prog 33 = true := by kernel_rfl
theorem cc33 : cCode Try.prog Try.f33.ntmps (Try.f33.body.getD .skip) = some c33 := by kernel_rfl
theorem cr33 : cRess Try.prog Try.f33.results.toList = some rs33 := by kernel_rfl
theorem pure33 {args : List V} {res : V} (hlen : args.length ≤ 21) (hna : namesL args = []) (hnr : res.names = []) (h : ∀ c : Ctx, c.P = Try.prog → c.fn = [] → vcC c c33 ⟨initE 0 args, [], []⟩ (RetK c rs33 res [])) : Ctr Try.prog 33 args [] res [] [] :=
  ctr_pure Try.func33 ok33 rfl cc33 cr33 Try.ntmps33 hlen hna hnr h
theorem own33 {args : List V} {ins outs : List (Nat × Own)} {res : V} {new : List Nat} (hlen : args.length ≤ 21) (hf : ctrB args ins res outs new = true) (h : ∀ c : Ctx, c.P = Try.prog → c.fn = namesL args ++ ownNames ins → vcC c c33 ⟨initE 0 args, ins, namesL args ++ ownNames ins⟩ (RetK c rs33 res outs)) : Ctr Try.prog 33 args ins res outs new :=
  ctr_own Try.func33 ok33 rfl cc33 cr33 Try.ntmps33 hlen hf h

/-- bordereau/num.Even -/
def c34 : C :=
  (.seq (.reg [⟨(some 6), none, .mov (.k (.d (.int .i64 0)))⟩,
    ⟨(some 7), none, .mov (.k (.d (.int .i64 0)))⟩])
  (.seq (.reg [⟨(some 8), none, .call 40 []⟩,
    ⟨(some 9), none, .mov (.t 0)⟩,
    ⟨(some 10), none, .mov (.t 1)⟩,
    ⟨(some 11), none, .mov (.t 2)⟩,
    ⟨(some 12), none, .call 41 [(.t 8), (.t 9), (.t 10), (.t 11)]⟩,
    ⟨(some 13), none, .ext 0 (.t 12)⟩,
    ⟨(some 14), none, .ext 1 (.t 12)⟩,
    ⟨(some 6), none, .mov (.t 13)⟩,
    ⟨(some 7), none, .mov (.t 14)⟩])
  .ret))
def rs34 : List RV := [.tmp 6, .tmp 7]
theorem ok34 : okF Try.prog 34 = true := by kernel_rfl
theorem cc34 : cCode Try.prog Try.f34.ntmps (Try.f34.body.getD .skip) = some c34 := by kernel_rfl
theorem cr34 : cRess Try.prog Try.f34.results.toList = some rs34 := by kernel_rfl
theorem pure34 {args : List V} {res : V} (hlen : args.length ≤ 15) (hna : namesL args = []) (hnr : res.names = []) (h : ∀ c : Ctx, c.P = Try.prog → c.fn = [] → vcC c c34 ⟨initE 0 args, [], []⟩ (RetK c rs34 res [])) : Ctr Try.prog 34 args [] res [] [] :=
  ctr_pure Try.func34 ok34 rfl cc34 cr34 Try.ntmps34 hlen hna hnr h
theorem own34 {args : List V} {ins outs : List (Nat × Own)} {res : V} {new : List Nat} (hlen : args.length ≤ 15) (hf : ctrB args ins res outs new = true) (h : ∀ c : Ctx, c.P = Try.prog → c.fn = namesL args ++ ownNames ins → vcC c c34 ⟨initE 0 args, ins, namesL args ++ ownNames ins⟩ (RetK c rs34 res outs)) : Ctr Try.prog 34 args ins res outs new :=
  ctr_own Try.func34 ok34 rfl cc34 cr34 Try.ntmps34 hlen hf h

/-- bordereau/bordereauref01.Even -/
def c35 : C :=
  (.seq (.reg [⟨(some 6), none, .mov (.k (.d (.int .i64 0)))⟩,
    ⟨(some 7), none, .mov (.k (.d (.int .i64 0)))⟩])
  (.seq (.reg [⟨(some 12), none, .mov (.t 0)⟩,
    ⟨(some 13), none, .mov (.t 1)⟩,
    ⟨(some 14), none, .mov (.t 2)⟩,
    ⟨(some 15), none, .call 42 [(.t 12), (.t 13), (.t 14)]⟩,
    ⟨(some 8), none, .mov (.t 15)⟩])
  (.seq (.seq (.reg [⟨(some 16), none, .mov (.t 8)⟩,
    ⟨(some 17), none, .bin .neq (.t 16) (.k (.d (.int .i64 0)))⟩])
  (.cond (.t 17) (.seq (.reg [⟨(some 18), none, .mov (.t 8)⟩,
      ⟨(some 6), none, .mov (.k (.d (.int .i64 0)))⟩,
      ⟨(some 7), none, .mov (.t 18)⟩])
    .ret)
  .skip))
  (.seq (.reg [⟨(some 20), none, .mov (.t 0)⟩,
    ⟨(some 21), none, .mov (.t 1)⟩,
    ⟨(some 22), none, .mov (.t 2)⟩,
    ⟨(some 23), none, .call 43 [(.t 20), (.t 21), (.t 22)]⟩,
    ⟨(some 19), none, .mov (.t 23)⟩,
    ⟨(some 24), none, .ext 0 (.t 19)⟩,
    ⟨(some 25), none, .ext 1 (.t 19)⟩,
    ⟨(some 26), none, .ext 2 (.t 19)⟩,
    ⟨(some 9), none, .mov (.t 24)⟩,
    ⟨(some 10), none, .mov (.t 25)⟩,
    ⟨(some 11), none, .mov (.t 26)⟩])
  (.seq (.seq (.reg [⟨(some 27), none, .mov (.t 11)⟩,
    ⟨(some 28), none, .mov (.t 27)⟩,
    ⟨(some 29), (some (28, true)), .mov (.t 10)⟩,
    ⟨(some 30), (some (28, true)), .mov (.t 2)⟩,
    ⟨(some 31), (some (28, true)), .mov (.t 10)⟩,
    ⟨(some 32), (some (28, true)), .bin .sub (.t 30) (.t 31)⟩,
    ⟨(some 33), (some (28, true)), .bin .gtr (.t 29) (.t 32)⟩,
    ⟨(some 34), (some (28, true)), .mov (.t 33)⟩,
    ⟨(some 35), (some (34, false)), .mov (.t 10)⟩,
    ⟨(some 36), (some (34, false)), .mov (.t 2)⟩,
    ⟨(some 37), (some (34, false)), .mov (.t 10)⟩,
    ⟨(some 38), (some (34, false)), .bin .sub (.t 36) (.t 37)⟩,
    ⟨(some 39), (some (34, false)), .bin .eql (.t 35) (.t 38)⟩,
    ⟨(some 40), (some (34, false)), .mov (.t 39)⟩,
    ⟨(some 41), (some (40, true)), .mov (.t 9)⟩,
    ⟨(some 42), (some (40, true)), .bin .rem (.t 41) (.k (.d (.int .i64 2)))⟩,
    ⟨(some 43), (some (40, true)), .bin .eql (.t 42) (.k (.d (.int .i64 1)))⟩,
    ⟨(some 44), (some (34, false)), .pick (.t 40) (.t 43) (.k (.d (.bool false)))⟩,
    ⟨(some 45), (some (28, true)), .pick (.t 34) (.k (.d (.bool true))) (.t 44)⟩,
    ⟨(some 46), none, .pick (.t 28) (.t 45) (.k (.d (.bool false)))⟩])
  (.cond (.t 46) (.reg [⟨(some 47), none, .mov (.t 9)⟩,
      ⟨(some 48), none, .bin .add (.t 47) (.k (.d (.int .i64 1)))⟩,
      ⟨(some 9), none, .mov (.t 48)⟩])
  .skip))
  (.seq (.seq (.reg [⟨(some 49), none, .mov (.t 11)⟩,
    ⟨(some 50), none, .inv .not (.t 49)⟩,
    ⟨(some 51), none, .mov (.t 50)⟩,
    ⟨(some 52), (some (51, false)), .mov (.t 9)⟩,
    ⟨(some 53), (some (51, false)), .bin .gtr (.t 52) (.k (.d (.int .i64 4000000000000000000)))⟩,
    ⟨(some 54), none, .pick (.t 51) (.k (.d (.bool true))) (.t 53)⟩])
  (.cond (.t 54) (.seq (.reg [⟨(some 6), none, .mov (.k (.d (.int .i64 0)))⟩,
      ⟨(some 7), none, .mov (.k (.d (.int .i64 5)))⟩])
    .ret)
  .skip))
  (.seq (.reg [⟨(some 55), none, .mov (.t 9)⟩,
    ⟨(some 6), none, .mov (.t 55)⟩,
    ⟨(some 7), none, .mov (.k (.d (.int .i64 0)))⟩])
  .ret)))))))
def rs35 : List RV := [.tmp 6, .tmp 7]
theorem ok35 : okF Try.prog 35 = true := by kernel_rfl
theorem cc35 : cCode Try.prog Try.f35.ntmps (Try.f35.body.getD .skip) = some c35 := by kernel_rfl
theorem cr35 : cRess Try.prog Try.f35.results.toList = some rs35 := by kernel_rfl
theorem pure35 {args : List V} {res : V} (hlen : args.length ≤ 56) (hna : namesL args = []) (hnr : res.names = []) (h : ∀ c : Ctx, c.P = Try.prog → c.fn = [] → vcC c c35 ⟨initE 0 args, [], []⟩ (RetK c rs35 res [])) : Ctr Try.prog 35 args [] res [] [] :=
  ctr_pure Try.func35 ok35 rfl cc35 cr35 Try.ntmps35 hlen hna hnr h
theorem own35 {args : List V} {ins outs : List (Nat × Own)} {res : V} {new : List Nat} (hlen : args.length ≤ 56) (hf : ctrB args ins res outs new = true) (h : ∀ c : Ctx, c.P = Try.prog → c.fn = namesL args ++ ownNames ins → vcC c c35 ⟨initE 0 args, ins, namesL args ++ ownNames ins⟩ (RetK c rs35 res outs)) : Ctr Try.prog 35 args ins res outs new :=
  ctr_own Try.func35 ok35 rfl cc35 cr35 Try.ntmps35 hlen hf h

/-- bordereau/quote.adder$1 -/
def c36 : C :=
  (.seq (.reg [⟨(some 3), none, .mov (.k (.d (.int .i64 0)))⟩,
    ⟨(some 4), none, .mov (.k (.d (.bool false)))⟩])
  (.seq (.seq (.reg [⟨(some 5), none, .mov (.t 0)⟩,
    ⟨(some 6), none, .load 1 false (.t 1)⟩,
    ⟨(some 7), none, .bin .sub (.k (.d (.int .i64 4000000000000000000))) (.t 6)⟩,
    ⟨(some 8), none, .bin .gtr (.t 5) (.t 7)⟩])
  (.cond (.t 8) (.seq (.reg [⟨(some 3), none, .mov (.k (.d (.int .i64 0)))⟩,
      ⟨(some 4), none, .mov (.k (.d (.bool false)))⟩])
    .ret)
  .skip))
  (.seq (.reg [⟨(some 9), none, .load 1 false (.t 1)⟩,
    ⟨(some 10), none, .mov (.t 0)⟩,
    ⟨(some 11), none, .bin .add (.t 9) (.t 10)⟩,
    ⟨none, none, .store 1 (.t 1) (.t 11)⟩])
  (.seq (.reg [⟨(some 12), none, .load 1 false (.t 1)⟩,
    ⟨(some 3), none, .mov (.t 12)⟩,
    ⟨(some 4), none, .mov (.k (.d (.bool true)))⟩])
  .ret))))
def rs36 : List RV := [.tmp 3, .tmp 4]
theorem ok36 : okF Try.prog 36 = true := by kernel_rfl
theorem cc36 : cCode Try.prog Try.f36.ntmps (Try.f36.body.getD .skip) = some c36 := by kernel_rfl
theorem cr36 : cRess Try.prog Try.f36.results.toList = some rs36 := by kernel_rfl
theorem pure36 {args : List V} {res : V} (hlen : args.length ≤ 13) (hna : namesL args = []) (hnr : res.names = []) (h : ∀ c : Ctx, c.P = Try.prog → c.fn = [] → vcC c c36 ⟨initE 0 args, [], []⟩ (RetK c rs36 res [])) : Ctr Try.prog 36 args [] res [] [] :=
  ctr_pure Try.func36 ok36 rfl cc36 cr36 Try.ntmps36 hlen hna hnr h
theorem own36 {args : List V} {ins outs : List (Nat × Own)} {res : V} {new : List Nat} (hlen : args.length ≤ 13) (hf : ctrB args ins res outs new = true) (h : ∀ c : Ctx, c.P = Try.prog → c.fn = namesL args ++ ownNames ins → vcC c c36 ⟨initE 0 args, ins, namesL args ++ ownNames ins⟩ (RetK c rs36 res outs)) : Ctr Try.prog 36 args ins res outs new :=
  ctr_own Try.func36 ok36 rfl cc36 cr36 Try.ntmps36 hlen hf h

/-- slices.ContainsFunc[[]int,int] -/
def c37 : C :=
  (.seq (.reg [⟨(some 4), none, .mov (.k (.d (.bool false)))⟩])
  (.seq (.reg [⟨(some 5), none, .mov (.t 0)⟩,
    ⟨(some 6), none, .mov (.t 1)⟩,
    ⟨(some 7), none, .call 44 [(.t 5), (.t 6)]⟩,
    ⟨(some 8), none, .bin .geq (.t 7) (.k (.d (.int .i64 0)))⟩,
    ⟨(some 4), none, .mov (.t 8)⟩])
  .ret))
def rs37 : List RV := [.tmp 4]
theorem ok37 : okF Try.prog 37 = true := by kernel_rfl
theorem cc37 : cCode Try.prog Try.f37.ntmps (Try.f37.body.getD .skip) = some c37 := by kernel_rfl
theorem cr37 : cRess Try.prog Try.f37.results.toList = some rs37 := by kernel_rfl
theorem pure37 {args : List V} {res : V} (hlen : args.length ≤ 9) (hna : namesL args = []) (hnr : res.names = []) (h : ∀ c : Ctx, c.P = Try.prog → c.fn = [] → vcC c c37 ⟨initE 0 args, [], []⟩ (RetK c rs37 res [])) : Ctr Try.prog 37 args [] res [] [] :=
  ctr_pure Try.func37 ok37 rfl cc37 cr37 Try.ntmps37 hlen hna hnr h
theorem own37 {args : List V} {ins outs : List (Nat × Own)} {res : V} {new : List Nat} (hlen : args.length ≤ 9) (hf : ctrB args ins res outs new = true) (h : ∀ c : Ctx, c.P = Try.prog → c.fn = namesL args ++ ownNames ins → vcC c c37 ⟨initE 0 args, ins, namesL args ++ ownNames ins⟩ (RetK c rs37 res outs)) : Ctr Try.prog 37 args ins res outs new :=
  ctr_own Try.func37 ok37 rfl cc37 cr37 Try.ntmps37 hlen hf h

/-- bordereau/tariff.factors$1 -/
def c38 : C :=
  (.seq (.reg [⟨(some 2), none, .mov (.k (.d (.bool false)))⟩])
  (.seq (.reg [⟨(some 3), none, .mov (.t 0)⟩,
    ⟨(some 4), none, .bin .lss (.t 3) (.k (.d (.int .i64 0)))⟩,
    ⟨(some 5), none, .mov (.t 4)⟩,
    ⟨(some 6), (some (5, false)), .mov (.t 0)⟩,
    ⟨(some 7), (some (5, false)), .bin .gtr (.t 6) (.k (.d (.int .i64 100000)))⟩,
    ⟨(some 8), none, .pick (.t 5) (.k (.d (.bool true))) (.t 7)⟩,
    ⟨(some 2), none, .mov (.t 8)⟩])
  .ret))
def rs38 : List RV := [.tmp 2]
theorem ok38 : okF Try.prog 38 = true := by kernel_rfl
theorem cc38 : cCode Try.prog Try.f38.ntmps (Try.f38.body.getD .skip) = some c38 := by kernel_rfl
theorem cr38 : cRess Try.prog Try.f38.results.toList = some rs38 := by kernel_rfl
theorem pure38 {args : List V} {res : V} (hlen : args.length ≤ 9) (hna : namesL args = []) (hnr : res.names = []) (h : ∀ c : Ctx, c.P = Try.prog → c.fn = [] → vcC c c38 ⟨initE 0 args, [], []⟩ (RetK c rs38 res [])) : Ctr Try.prog 38 args [] res [] [] :=
  ctr_pure Try.func38 ok38 rfl cc38 cr38 Try.ntmps38 hlen hna hnr h
theorem own38 {args : List V} {ins outs : List (Nat × Own)} {res : V} {new : List Nat} (hlen : args.length ≤ 9) (hf : ctrB args ins res outs new = true) (h : ∀ c : Ctx, c.P = Try.prog → c.fn = namesL args ++ ownNames ins → vcC c c38 ⟨initE 0 args, ins, namesL args ++ ownNames ins⟩ (RetK c rs38 res outs)) : Ctr Try.prog 38 args ins res outs new :=
  ctr_own Try.func38 ok38 rfl cc38 cr38 Try.ntmps38 hlen hf h

/-- cmp.Less[int] -/
def c39 : C :=
  (.seq (.reg [⟨(some 4), none, .mov (.k (.d (.bool false)))⟩])
  (.seq (.reg [⟨(some 5), none, .mov (.t 0)⟩,
    ⟨(some 6), none, .call 45 [(.t 5)]⟩,
    ⟨(some 7), none, .mov (.t 6)⟩,
    ⟨(some 8), (some (7, true)), .mov (.t 1)⟩,
    ⟨(some 9), (some (7, true)), .call 45 [(.t 8)]⟩,
    ⟨(some 10), (some (7, true)), .inv .not (.t 9)⟩,
    ⟨(some 11), none, .pick (.t 7) (.t 10) (.k (.d (.bool false)))⟩,
    ⟨(some 12), none, .mov (.t 11)⟩,
    ⟨(some 13), (some (12, false)), .mov (.t 0)⟩,
    ⟨(some 14), (some (12, false)), .mov (.t 1)⟩,
    ⟨(some 15), (some (12, false)), .bin .lss (.t 13) (.t 14)⟩,
    ⟨(some 16), none, .pick (.t 12) (.k (.d (.bool true))) (.t 15)⟩,
    ⟨(some 4), none, .mov (.t 16)⟩])
  .ret))
def rs39 : List RV := [.tmp 4]
theorem ok39 : okF Try.prog 39 = true := by kernel_rfl
theorem cc39 : cCode Try.prog Try.f39.ntmps (Try.f39.body.getD .skip) = some c39 := by kernel_rfl
theorem cr39 : cRess Try.prog Try.f39.results.toList = some rs39 := by kernel_rfl
theorem pure39 {args : List V} {res : V} (hlen : args.length ≤ 17) (hna : namesL args = []) (hnr : res.names = []) (h : ∀ c : Ctx, c.P = Try.prog → c.fn = [] → vcC c c39 ⟨initE 0 args, [], []⟩ (RetK c rs39 res [])) : Ctr Try.prog 39 args [] res [] [] :=
  ctr_pure Try.func39 ok39 rfl cc39 cr39 Try.ntmps39 hlen hna hnr h
theorem own39 {args : List V} {ins outs : List (Nat × Own)} {res : V} {new : List Nat} (hlen : args.length ≤ 17) (hf : ctrB args ins res outs new = true) (h : ∀ c : Ctx, c.P = Try.prog → c.fn = namesL args ++ ownNames ins → vcC c c39 ⟨initE 0 args, ins, namesL args ++ ownNames ins⟩ (RetK c rs39 res outs)) : Ctr Try.prog 39 args ins res outs new :=
  ctr_own Try.func39 ok39 rfl cc39 cr39 Try.ntmps39 hlen hf h

/-- bordereau/num.even -/
def c40 : C :=
  (.seq (.reg [⟨(some 0), none, .alloc 65 [.d (.raw .nilFunc)]⟩])
  (.seq (.reg [⟨(some 1), none, .build [.d (.raw .nilFunc)] [(0, 1, (.k (.fn (.func 46) [] [])))]⟩,
    ⟨none, none, .store 1 (.t 0) (.t 1)⟩])
  .ret))
def rs40 : List RV := [.cell 0 1 true]
theorem ok40 : okF Try.prog 40 = true := by kernel_rfl
theorem cc40 : cCode Try.prog Try.f40.ntmps (Try.f40.body.getD .skip) = some c40 := by kernel_rfl
theorem cr40 : cRess Try.prog Try.f40.results.toList = some rs40 := by kernel_rfl
theorem pure40 {args : List V} {res : V} (hlen : args.length ≤ 2) (hna : namesL args = []) (hnr : res.names = []) (h : ∀ c : Ctx, c.P = Try.prog → c.fn = [] → vcC c c40 ⟨initE 0 args, [], []⟩ (RetK c rs40 res [])) : Ctr Try.prog 40 args [] res [] [] :=
  ctr_pure Try.func40 ok40 rfl cc40 cr40 Try.ntmps40 hlen hna hnr h
theorem own40 {args : List V} {ins outs : List (Nat × Own)} {res : V} {new : List Nat} (hlen : args.length ≤ 2) (hf : ctrB args ins res outs new = true) (h : ∀ c : Ctx, c.P = Try.prog → c.fn = namesL args ++ ownNames ins → vcC c c40 ⟨initE 0 args, ins, namesL args ++ ownNames ins⟩ (RetK c rs40 res outs)) : Ctr Try.prog 40 args ins res outs new :=
  ctr_own Try.func40 ok40 rfl cc40 cr40 Try.ntmps40 hlen hf h

/-- (bordereau/num.rounding).of -/
def c41 : C :=
  (.seq (.reg [⟨(some 4), none, .box 65 (.t 0)⟩,
    ⟨(some 8), none, .mov (.k (.d (.int .i64 0)))⟩,
    ⟨(some 9), none, .mov (.k (.d (.int .i64 0)))⟩])
  (.seq (.block 0 (.seq (.reg [⟨(some 15), none, .mov (.t 1)⟩,
      ⟨(some 16), none, .bin .lss (.t 15) (.k (.d (.int .i64 0)))⟩,
      ⟨(some 17), none, .mov (.t 16)⟩,
      ⟨(some 18), (some (17, false)), .mov (.t 2)⟩,
      ⟨(some 19), (some (17, false)), .bin .lss (.t 18) (.k (.d (.int .i64 0)))⟩,
      ⟨(some 20), none, .pick (.t 17) (.k (.d (.bool true))) (.t 19)⟩,
      ⟨(some 21), none, .mov (.t 20)⟩,
      ⟨(some 22), (some (21, false)), .mov (.t 3)⟩,
      ⟨(some 23), (some (21, false)), .bin .lss (.t 22) (.k (.d (.int .i64 0)))⟩,
      ⟨(some 24), none, .pick (.t 21) (.k (.d (.bool true))) (.t 23)⟩,
      ⟨(some 14), none, .mov (.t 24)⟩])
    (.cond (.t 14) (.seq (.reg [⟨(some 8), none, .mov (.k (.d (.int .i64 0)))⟩,
        ⟨(some 9), none, .mov (.k (.d (.int .i64 1)))⟩])
      .ret)
    (.seq (.reg [⟨(some 26), none, .mov (.t 3)⟩,
        ⟨(some 27), none, .bin .eql (.t 26) (.k (.d (.int .i64 0)))⟩,
        ⟨(some 25), none, .mov (.t 27)⟩])
      (.cond (.t 25) (.seq (.reg [⟨(some 8), none, .mov (.k (.d (.int .i64 0)))⟩,
          ⟨(some 9), none, .mov (.k (.d (.int .i64 6)))⟩])
        .ret)
      .skip)))))
  (.seq (.reg [⟨(some 29), none, .mov (.t 1)⟩,
    ⟨(some 30), none, .conv .u64 (.t 29)⟩,
    ⟨(some 31), none, .mov (.t 2)⟩,
    ⟨(some 32), none, .conv .u64 (.t 31)⟩,
    ⟨(some 33), none, .call 47 [(.t 30), (.t 32)]⟩,
    ⟨(some 28), none, .mov (.t 33)⟩,
    ⟨(some 34), none, .ext 0 (.t 28)⟩,
    ⟨(some 35), none, .ext 1 (.t 28)⟩,
    ⟨(some 10), none, .mov (.t 34)⟩,
    ⟨(some 11), none, .mov (.t 35)⟩])
  (.seq (.seq (.reg [⟨(some 36), none, .mov (.t 10)⟩,
    ⟨(some 37), none, .mov (.t 3)⟩,
    ⟨(some 38), none, .conv .u64 (.t 37)⟩,
    ⟨(some 39), none, .bin .geq (.t 36) (.t 38)⟩])
  (.cond (.t 39) (.seq (.reg [⟨(some 8), none, .mov (.k (.d (.int .i64 0)))⟩,
      ⟨(some 9), none, .mov (.k (.d (.int .i64 5)))⟩])
    .ret)
  .skip))
  (.seq (.reg [⟨(some 41), none, .mov (.t 10)⟩,
    ⟨(some 42), none, .mov (.t 11)⟩,
    ⟨(some 43), none, .mov (.t 3)⟩,
    ⟨(some 44), none, .conv .u64 (.t 43)⟩,
    ⟨(some 45), none, .call 48 [(.t 41), (.t 42), (.t 44)]⟩,
    ⟨(some 40), none, .mov (.t 45)⟩,
    ⟨(some 46), none, .ext 0 (.t 40)⟩,
    ⟨(some 47), none, .ext 1 (.t 40)⟩,
    ⟨(some 12), none, .mov (.t 46)⟩,
    ⟨(some 13), none, .mov (.t 47)⟩])
  (.seq (.seq (.reg [⟨(some 48), none, .mov (.t 12)⟩,
    ⟨(some 49), none, .bin .gtr (.t 48) (.k (.d (.int .u64 4000000000000000000)))⟩])
  (.cond (.t 49) (.seq (.reg [⟨(some 8), none, .mov (.k (.d (.int .i64 0)))⟩,
      ⟨(some 9), none, .mov (.k (.d (.int .i64 5)))⟩])
    .ret)
  .skip))
  (.seq (.seq (.reg [⟨(some 50), none, .fadr 0 (.t 4)⟩,
    ⟨(some 51), none, .load 1 false (.t 50)⟩,
    ⟨(some 52), none, .mov (.t 12)⟩,
    ⟨(some 53), none, .mov (.t 13)⟩,
    ⟨(some 54), none, .mov (.t 3)⟩,
    ⟨(some 55), none, .conv .u64 (.t 54)⟩,
    ⟨(some 56), none, .callv (.t 51) [(.t 52), (.t 53), (.t 55)]⟩])
  (.cond (.t 56) (.reg [⟨(some 57), none, .mov (.t 12)⟩,
      ⟨(some 58), none, .bin .add (.t 57) (.k (.d (.int .u64 1)))⟩,
      ⟨(some 12), none, .mov (.t 58)⟩])
  .skip))
  (.seq (.seq (.reg [⟨(some 59), none, .mov (.t 12)⟩,
    ⟨(some 60), none, .bin .gtr (.t 59) (.k (.d (.int .u64 4000000000000000000)))⟩])
  (.cond (.t 60) (.seq (.reg [⟨(some 8), none, .mov (.k (.d (.int .i64 0)))⟩,
      ⟨(some 9), none, .mov (.k (.d (.int .i64 5)))⟩])
    .ret)
  .skip))
  (.seq (.reg [⟨(some 61), none, .mov (.t 12)⟩,
    ⟨(some 62), none, .conv .i64 (.t 61)⟩,
    ⟨(some 8), none, .mov (.t 62)⟩,
    ⟨(some 9), none, .mov (.k (.d (.int .i64 0)))⟩])
  .ret)))))))))
def rs41 : List RV := [.tmp 8, .tmp 9]
theorem ok41 : okF Try.prog 41 = true := by kernel_rfl
theorem cc41 : cCode Try.prog Try.f41.ntmps (Try.f41.body.getD .skip) = some c41 := by kernel_rfl
theorem cr41 : cRess Try.prog Try.f41.results.toList = some rs41 := by kernel_rfl
theorem pure41 {args : List V} {res : V} (hlen : args.length ≤ 63) (hna : namesL args = []) (hnr : res.names = []) (h : ∀ c : Ctx, c.P = Try.prog → c.fn = [] → vcC c c41 ⟨initE 0 args, [], []⟩ (RetK c rs41 res [])) : Ctr Try.prog 41 args [] res [] [] :=
  ctr_pure Try.func41 ok41 rfl cc41 cr41 Try.ntmps41 hlen hna hnr h
theorem own41 {args : List V} {ins outs : List (Nat × Own)} {res : V} {new : List Nat} (hlen : args.length ≤ 63) (hf : ctrB args ins res outs new = true) (h : ∀ c : Ctx, c.P = Try.prog → c.fn = namesL args ++ ownNames ins → vcC c c41 ⟨initE 0 args, ins, namesL args ++ ownNames ins⟩ (RetK c rs41 res outs)) : Ctr Try.prog 41 args ins res outs new :=
  ctr_own Try.func41 ok41 rfl cc41 cr41 Try.ntmps41 hlen hf h

/-- bordereau/bordereauref01.check -/
def c42 : C :=
  (.seq (.reg [⟨(some 6), none, .mov (.k (.d (.int .i64 0)))⟩])
  (.seq (.seq (.reg [⟨(some 7), none, .mov (.t 0)⟩,
    ⟨(some 8), none, .bin .lss (.t 7) (.k (.d (.int .i64 0)))⟩,
    ⟨(some 9), none, .mov (.t 8)⟩,
    ⟨(some 10), (some (9, false)), .mov (.t 1)⟩,
    ⟨(some 11), (some (9, false)), .bin .lss (.t 10) (.k (.d (.int .i64 0)))⟩,
    ⟨(some 12), none, .pick (.t 9) (.k (.d (.bool true))) (.t 11)⟩,
    ⟨(some 13), none, .mov (.t 12)⟩,
    ⟨(some 14), (some (13, false)), .mov (.t 2)⟩,
    ⟨(some 15), (some (13, false)), .bin .lss (.t 14) (.k (.d (.int .i64 0)))⟩,
    ⟨(some 16), none, .pick (.t 13) (.k (.d (.bool true))) (.t 15)⟩])
  (.cond (.t 16) (.seq (.reg [⟨(some 6), none, .mov (.k (.d (.int .i64 1)))⟩])
    .ret)
  .skip))
  (.seq (.seq (.reg [⟨(some 17), none, .mov (.t 2)⟩,
    ⟨(some 18), none, .bin .eql (.t 17) (.k (.d (.int .i64 0)))⟩])
  (.cond (.t 18) (.seq (.reg [⟨(some 6), none, .mov (.k (.d (.int .i64 6)))⟩])
    .ret)
  .skip))
  (.seq (.reg [⟨(some 6), none, .mov (.k (.d (.int .i64 0)))⟩])
  .ret))))
def rs42 : List RV := [.tmp 6]
theorem ok42 : okF Try.prog 42 = true := by kernel_rfl
theorem cc42 : cCode Try.prog Try.f42.ntmps (Try.f42.body.getD .skip) = some c42 := by kernel_rfl
theorem cr42 : cRess Try.prog Try.f42.results.toList = some rs42 := by kernel_rfl
theorem pure42 {args : List V} {res : V} (hlen : args.length ≤ 19) (hna : namesL args = []) (hnr : res.names = []) (h : ∀ c : Ctx, c.P = Try.prog → c.fn = [] → vcC c c42 ⟨initE 0 args, [], []⟩ (RetK c rs42 res [])) : Ctr Try.prog 42 args [] res [] [] :=
  ctr_pure Try.func42 ok42 rfl cc42 cr42 Try.ntmps42 hlen hna hnr h
theorem own42 {args : List V} {ins outs : List (Nat × Own)} {res : V} {new : List Nat} (hlen : args.length ≤ 19) (hf : ctrB args ins res outs new = true) (h : ∀ c : Ctx, c.P = Try.prog → c.fn = namesL args ++ ownNames ins → vcC c c42 ⟨initE 0 args, ins, namesL args ++ ownNames ins⟩ (RetK c rs42 res outs)) : Ctr Try.prog 42 args ins res outs new :=
  ctr_own Try.func42 ok42 rfl cc42 cr42 Try.ntmps42 hlen hf h

/-- bordereau/bordereauref01.Two -/
def c43 : C :=
  (.seq (.reg [⟨(some 6), none, .mov (.k (.d (.int .i64 0)))⟩,
    ⟨(some 7), none, .mov (.k (.d (.int .i64 0)))⟩,
    ⟨(some 8), none, .mov (.k (.d (.bool false)))⟩])
  (.seq (.reg [⟨(some 9), none, .mov (.k (.d (.int .u64 0)))⟩])
  (.seq (.reg [⟨(some 10), none, .mov (.k (.d (.int .u64 0)))⟩])
  (.seq (.reg [⟨(some 15), none, .mov (.t 2)⟩,
    ⟨(some 16), none, .conv .u64 (.t 15)⟩,
    ⟨(some 11), none, .mov (.t 16)⟩])
  (.seq (.reg [⟨(some 17), none, .mov (.t 1)⟩,
    ⟨(some 18), none, .conv .u64 (.t 17)⟩,
    ⟨(some 19), none, .mov (.t 11)⟩,
    ⟨(some 20), none, .bin .quo (.t 18) (.t 19)⟩,
    ⟨(some 12), none, .mov (.t 20)⟩])
  (.seq (.reg [⟨(some 21), none, .mov (.t 1)⟩,
    ⟨(some 22), none, .conv .u64 (.t 21)⟩,
    ⟨(some 23), none, .mov (.t 11)⟩,
    ⟨(some 24), none, .bin .rem (.t 22) (.t 23)⟩,
    ⟨(some 13), none, .mov (.t 24)⟩])
  (.seq (.seq (.reg [⟨(some 14), none, .mov (.k (.d (.int .i64 62)))⟩])
  (.block 0 (.loop (.seq (.seq (.reg [⟨(some 25), none, .mov (.t 14)⟩,
        ⟨(some 26), none, .bin .geq (.t 25) (.k (.d (.int .i64 0)))⟩])
      (.cond (.t 26) .skip
      (.exit 0)))
      (.seq (.block 2 (.seq (.reg [⟨(some 29), none, .mov (.t 9)⟩,
          ⟨(some 30), none, .bin .mul (.k (.d (.int .u64 2))) (.t 29)⟩,
          ⟨(some 9), none, .mov (.t 30)⟩])
        (.seq (.reg [⟨(some 31), none, .mov (.t 10)⟩,
          ⟨(some 32), none, .bin .mul (.k (.d (.int .u64 2))) (.t 31)⟩,
          ⟨(some 10), none, .mov (.t 32)⟩])
        (.seq (.seq (.reg [⟨(some 33), none, .mov (.t 10)⟩,
          ⟨(some 34), none, .mov (.t 11)⟩,
          ⟨(some 35), none, .bin .geq (.t 33) (.t 34)⟩])
        (.cond (.t 35) (.seq (.reg [⟨(some 36), none, .mov (.t 10)⟩,
            ⟨(some 37), none, .mov (.t 11)⟩,
            ⟨(some 38), none, .bin .sub (.t 36) (.t 37)⟩,
            ⟨(some 10), none, .mov (.t 38)⟩])
          (.reg [⟨(some 39), none, .mov (.t 9)⟩,
            ⟨(some 40), none, .bin .add (.t 39) (.k (.d (.int .u64 1)))⟩,
            ⟨(some 9), none, .mov (.t 40)⟩]))
        .skip))
        (.seq (.seq (.reg [⟨(some 41), none, .mov (.t 0)⟩,
          ⟨(some 42), none, .mov (.t 14)⟩,
          ⟨(some 43), none, .shf false (.t 41) (.t 42)⟩,
          ⟨(some 44), none, .bin .rem (.t 43) (.k (.d (.int .i64 2)))⟩,
          ⟨(some 45), none, .bin .eql (.t 44) (.k (.d (.int .i64 1)))⟩])
        (.cond (.t 45) (.seq (.reg [⟨(some 46), none, .mov (.t 9)⟩,
            ⟨(some 47), none, .mov (.t 12)⟩,
            ⟨(some 48), none, .bin .add (.t 46) (.t 47)⟩,
            ⟨(some 9), none, .mov (.t 48)⟩])
          (.seq (.reg [⟨(some 49), none, .mov (.t 10)⟩,
            ⟨(some 50), none, .mov (.t 13)⟩,
            ⟨(some 51), none, .bin .add (.t 49) (.t 50)⟩,
            ⟨(some 10), none, .mov (.t 51)⟩])
          (.seq (.reg [⟨(some 52), none, .mov (.t 10)⟩,
            ⟨(some 53), none, .mov (.t 11)⟩,
            ⟨(some 54), none, .bin .geq (.t 52) (.t 53)⟩])
          (.cond (.t 54) (.seq (.reg [⟨(some 55), none, .mov (.t 10)⟩,
              ⟨(some 56), none, .mov (.t 11)⟩,
              ⟨(some 57), none, .bin .sub (.t 55) (.t 56)⟩,
              ⟨(some 10), none, .mov (.t 57)⟩])
            (.reg [⟨(some 58), none, .mov (.t 9)⟩,
              ⟨(some 59), none, .bin .add (.t 58) (.k (.d (.int .u64 1)))⟩,
              ⟨(some 9), none, .mov (.t 59)⟩]))
          .skip))))
        .skip))
        (.seq (.reg [⟨(some 60), none, .mov (.t 9)⟩,
          ⟨(some 61), none, .bin .gtr (.t 60) (.k (.d (.int .u64 4000000000000000000)))⟩])
        (.cond (.t 61) (.seq (.reg [⟨(some 6), none, .mov (.k (.d (.int .i64 0)))⟩,
            ⟨(some 7), none, .mov (.k (.d (.int .i64 0)))⟩,
            ⟨(some 8), none, .mov (.k (.d (.bool false)))⟩])
          .ret)
        .skip)))))))
      (.reg [⟨(some 27), none, .mov (.t 14)⟩,
        ⟨(some 28), none, .bin .sub (.t 27) (.k (.d (.int .i64 1)))⟩,
        ⟨(some 14), none, .mov (.t 28)⟩]))))))
  (.seq (.reg [⟨(some 62), none, .mov (.t 9)⟩,
    ⟨(some 63), none, .conv .i64 (.t 62)⟩,
    ⟨(some 64), none, .mov (.t 10)⟩,
    ⟨(some 65), none, .conv .i64 (.t 64)⟩,
    ⟨(some 6), none, .mov (.t 63)⟩,
    ⟨(some 7), none, .mov (.t 65)⟩,
    ⟨(some 8), none, .mov (.k (.d (.bool true)))⟩])
  .ret))))))))
def rs43 : List RV := [.tmp 6, .tmp 7, .tmp 8]
theorem ok43 : okF Try.prog 43 = true := by kernel_rfl
theorem cc43 : cCode Try.prog Try.f43.ntmps (Try.f43.body.getD .skip) = some c43 := by kernel_rfl
theorem cr43 : cRess Try.prog Try.f43.results.toList = some rs43 := by kernel_rfl
theorem pure43 {args : List V} {res : V} (hlen : args.length ≤ 66) (hna : namesL args = []) (hnr : res.names = []) (h : ∀ c : Ctx, c.P = Try.prog → c.fn = [] → vcC c c43 ⟨initE 0 args, [], []⟩ (RetK c rs43 res [])) : Ctr Try.prog 43 args [] res [] [] :=
  ctr_pure Try.func43 ok43 rfl cc43 cr43 Try.ntmps43 hlen hna hnr h
theorem own43 {args : List V} {ins outs : List (Nat × Own)} {res : V} {new : List Nat} (hlen : args.length ≤ 66) (hf : ctrB args ins res outs new = true) (h : ∀ c : Ctx, c.P = Try.prog → c.fn = namesL args ++ ownNames ins → vcC c c43 ⟨initE 0 args, ins, namesL args ++ ownNames ins⟩ (RetK c rs43 res outs)) : Ctr Try.prog 43 args ins res outs new :=
  ctr_own Try.func43 ok43 rfl cc43 cr43 Try.ntmps43 hlen hf h

/-- slices.IndexFunc[[]int,int] -/
def c44 : C :=
  (.seq (.reg [⟨(some 4), none, .mov (.k (.d (.int .i64 0)))⟩])
  (.seq (.seq (.reg [⟨(some 6), none, .mov (.t 0)⟩,
    ⟨(some 7), none, .len (.t 6)⟩,
    ⟨(some 8), none, .mov (.k (.d (.int .i64 0)))⟩])
  (.block 0 (.loop (.seq (.reg [⟨(some 9), none, .bin .lss (.t 8) (.t 7)⟩])
      (.seq (.cond (.t 9) .skip
      (.exit 0))
      (.seq (.block 2 (.seq (.reg [⟨(some 10), none, .mov (.t 8)⟩,
          ⟨(some 5), none, .mov (.t 10)⟩])
        (.seq (.reg [⟨(some 11), none, .mov (.t 1)⟩,
          ⟨(some 12), none, .mov (.t 0)⟩,
          ⟨(some 13), none, .mov (.t 5)⟩,
          ⟨(some 14), none, .iadr 1 (.t 12) (.t 13)⟩,
          ⟨(some 15), none, .load 1 false (.t 14)⟩,
          ⟨(some 16), none, .callv (.t 11) [(.t 15)]⟩])
        (.cond (.t 16) (.seq (.reg [⟨(some 17), none, .mov (.t 5)⟩,
            ⟨(some 4), none, .mov (.t 17)⟩])
          .ret)
        .skip))))
      (.reg [⟨(some 18), none, .bin .add (.t 8) (.k (.d (.int .i64 1)))⟩,
        ⟨(some 8), none, .mov (.t 18)⟩])))))))
  (.seq (.reg [⟨(some 4), none, .mov (.k (.d (.int .i64 (-1))))⟩])
  .ret)))
def rs44 : List RV := [.tmp 4]
theorem ok44 : okF Try.prog 44 = true := by kernel_rfl
theorem cc44 : cCode Try.prog Try.f44.ntmps (Try.f44.body.getD .skip) = some c44 := by kernel_rfl
theorem cr44 : cRess Try.prog Try.f44.results.toList = some rs44 := by kernel_rfl
theorem pure44 {args : List V} {res : V} (hlen : args.length ≤ 19) (hna : namesL args = []) (hnr : res.names = []) (h : ∀ c : Ctx, c.P = Try.prog → c.fn = [] → vcC c c44 ⟨initE 0 args, [], []⟩ (RetK c rs44 res [])) : Ctr Try.prog 44 args [] res [] [] :=
  ctr_pure Try.func44 ok44 rfl cc44 cr44 Try.ntmps44 hlen hna hnr h
theorem own44 {args : List V} {ins outs : List (Nat × Own)} {res : V} {new : List Nat} (hlen : args.length ≤ 19) (hf : ctrB args ins res outs new = true) (h : ∀ c : Ctx, c.P = Try.prog → c.fn = namesL args ++ ownNames ins → vcC c c44 ⟨initE 0 args, ins, namesL args ++ ownNames ins⟩ (RetK c rs44 res outs)) : Ctr Try.prog 44 args ins res outs new :=
  ctr_own Try.func44 ok44 rfl cc44 cr44 Try.ntmps44 hlen hf h

/-- cmp.isNaN[int] -/
def c45 : C :=
  (.seq (.reg [⟨(some 2), none, .mov (.k (.d (.bool false)))⟩])
  (.seq (.reg [⟨(some 3), none, .mov (.t 0)⟩,
    ⟨(some 4), none, .mov (.t 0)⟩,
    ⟨(some 5), none, .bin .neq (.t 3) (.t 4)⟩,
    ⟨(some 2), none, .mov (.t 5)⟩])
  .ret))
def rs45 : List RV := [.tmp 2]
theorem ok45 : okF Try.prog 45 = true := by kernel_rfl
theorem cc45 : cCode Try.prog Try.f45.ntmps (Try.f45.body.getD .skip) = some c45 := by kernel_rfl
theorem cr45 : cRess Try.prog Try.f45.results.toList = some rs45 := by kernel_rfl
theorem pure45 {args : List V} {res : V} (hlen : args.length ≤ 6) (hna : namesL args = []) (hnr : res.names = []) (h : ∀ c : Ctx, c.P = Try.prog → c.fn = [] → vcC c c45 ⟨initE 0 args, [], []⟩ (RetK c rs45 res [])) : Ctr Try.prog 45 args [] res [] [] :=
  ctr_pure Try.func45 ok45 rfl cc45 cr45 Try.ntmps45 hlen hna hnr h
theorem own45 {args : List V} {ins outs : List (Nat × Own)} {res : V} {new : List Nat} (hlen : args.length ≤ 6) (hf : ctrB args ins res outs new = true) (h : ∀ c : Ctx, c.P = Try.prog → c.fn = namesL args ++ ownNames ins → vcC c c45 ⟨initE 0 args, ins, namesL args ++ ownNames ins⟩ (RetK c rs45 res outs)) : Ctr Try.prog 45 args ins res outs new :=
  ctr_own Try.func45 ok45 rfl cc45 cr45 Try.ntmps45 hlen hf h

/-- bordereau/num.even$1 -/
def c46 : C :=
  (.seq (.reg [⟨(some 6), none, .mov (.k (.d (.bool false)))⟩])
  (.seq (.reg [⟨(some 7), none, .mov (.t 1)⟩,
    ⟨(some 8), none, .mov (.t 2)⟩,
    ⟨(some 9), none, .mov (.t 1)⟩,
    ⟨(some 10), none, .bin .sub (.t 8) (.t 9)⟩,
    ⟨(some 11), none, .bin .gtr (.t 7) (.t 10)⟩,
    ⟨(some 12), none, .mov (.t 11)⟩,
    ⟨(some 13), (some (12, false)), .mov (.t 1)⟩,
    ⟨(some 14), (some (12, false)), .mov (.t 2)⟩,
    ⟨(some 15), (some (12, false)), .mov (.t 1)⟩,
    ⟨(some 16), (some (12, false)), .bin .sub (.t 14) (.t 15)⟩,
    ⟨(some 17), (some (12, false)), .bin .eql (.t 13) (.t 16)⟩,
    ⟨(some 18), (some (12, false)), .mov (.t 17)⟩,
    ⟨(some 19), (some (18, true)), .mov (.t 0)⟩,
    ⟨(some 20), (some (18, true)), .bin .rem (.t 19) (.k (.d (.int .u64 2)))⟩,
    ⟨(some 21), (some (18, true)), .bin .eql (.t 20) (.k (.d (.int .u64 1)))⟩,
    ⟨(some 22), (some (12, false)), .pick (.t 18) (.t 21) (.k (.d (.bool false)))⟩,
    ⟨(some 23), none, .pick (.t 12) (.k (.d (.bool true))) (.t 22)⟩,
    ⟨(some 6), none, .mov (.t 23)⟩])
  .ret))
def rs46 : List RV := [.tmp 6]
theorem ok46 : okF Try.prog 46 = true := by kernel_rfl
theorem cc46 : cCode Try.prog Try.f46.ntmps (Try.f46.body.getD .skip) = some c46 := by kernel_rfl
theorem cr46 : cRess Try.prog Try.f46.results.toList = some rs46 := by kernel_rfl
theorem pure46 {args : List V} {res : V} (hlen : args.length ≤ 24) (hna : namesL args = []) (hnr : res.names = []) (h : ∀ c : Ctx, c.P = Try.prog → c.fn = [] → vcC c c46 ⟨initE 0 args, [], []⟩ (RetK c rs46 res [])) : Ctr Try.prog 46 args [] res [] [] :=
  ctr_pure Try.func46 ok46 rfl cc46 cr46 Try.ntmps46 hlen hna hnr h
theorem own46 {args : List V} {ins outs : List (Nat × Own)} {res : V} {new : List Nat} (hlen : args.length ≤ 24) (hf : ctrB args ins res outs new = true) (h : ∀ c : Ctx, c.P = Try.prog → c.fn = namesL args ++ ownNames ins → vcC c c46 ⟨initE 0 args, ins, namesL args ++ ownNames ins⟩ (RetK c rs46 res outs)) : Ctr Try.prog 46 args ins res outs new :=
  ctr_own Try.func46 ok46 rfl cc46 cr46 Try.ntmps46 hlen hf h

/-- math/bits.Mul64 -/
def c47 : C :=
  (.seq (.reg [⟨(some 4), none, .mov (.k (.d (.int .u64 0)))⟩,
    ⟨(some 5), none, .mov (.k (.d (.int .u64 0)))⟩])
  (.seq (.reg [⟨(some 14), none, .mov (.t 0)⟩,
    ⟨(some 15), none, .bin .and (.t 14) (.k (.d (.int .u64 4294967295)))⟩,
    ⟨(some 6), none, .mov (.t 15)⟩])
  (.seq (.reg [⟨(some 16), none, .mov (.t 0)⟩,
    ⟨(some 17), none, .shf false (.t 16) (.k (.d (.int .u64 32)))⟩,
    ⟨(some 7), none, .mov (.t 17)⟩])
  (.seq (.reg [⟨(some 18), none, .mov (.t 1)⟩,
    ⟨(some 19), none, .bin .and (.t 18) (.k (.d (.int .u64 4294967295)))⟩,
    ⟨(some 8), none, .mov (.t 19)⟩])
  (.seq (.reg [⟨(some 20), none, .mov (.t 1)⟩,
    ⟨(some 21), none, .shf false (.t 20) (.k (.d (.int .u64 32)))⟩,
    ⟨(some 9), none, .mov (.t 21)⟩])
  (.seq (.reg [⟨(some 22), none, .mov (.t 6)⟩,
    ⟨(some 23), none, .mov (.t 8)⟩,
    ⟨(some 24), none, .bin .mul (.t 22) (.t 23)⟩,
    ⟨(some 10), none, .mov (.t 24)⟩])
  (.seq (.reg [⟨(some 25), none, .mov (.t 7)⟩,
    ⟨(some 26), none, .mov (.t 8)⟩,
    ⟨(some 27), none, .bin .mul (.t 25) (.t 26)⟩,
    ⟨(some 28), none, .mov (.t 10)⟩,
    ⟨(some 29), none, .shf false (.t 28) (.k (.d (.int .u64 32)))⟩,
    ⟨(some 30), none, .bin .add (.t 27) (.t 29)⟩,
    ⟨(some 11), none, .mov (.t 30)⟩])
  (.seq (.reg [⟨(some 31), none, .mov (.t 11)⟩,
    ⟨(some 32), none, .bin .and (.t 31) (.k (.d (.int .u64 4294967295)))⟩,
    ⟨(some 12), none, .mov (.t 32)⟩])
  (.seq (.reg [⟨(some 33), none, .mov (.t 11)⟩,
    ⟨(some 34), none, .shf false (.t 33) (.k (.d (.int .u64 32)))⟩,
    ⟨(some 13), none, .mov (.t 34)⟩])
  (.seq (.reg [⟨(some 35), none, .mov (.t 12)⟩,
    ⟨(some 36), none, .mov (.t 6)⟩,
    ⟨(some 37), none, .mov (.t 9)⟩,
    ⟨(some 38), none, .bin .mul (.t 36) (.t 37)⟩,
    ⟨(some 39), none, .bin .add (.t 35) (.t 38)⟩,
    ⟨(some 12), none, .mov (.t 39)⟩])
  (.seq (.reg [⟨(some 40), none, .mov (.t 7)⟩,
    ⟨(some 41), none, .mov (.t 9)⟩,
    ⟨(some 42), none, .bin .mul (.t 40) (.t 41)⟩,
    ⟨(some 43), none, .mov (.t 13)⟩,
    ⟨(some 44), none, .bin .add (.t 42) (.t 43)⟩,
    ⟨(some 45), none, .mov (.t 12)⟩,
    ⟨(some 46), none, .shf false (.t 45) (.k (.d (.int .u64 32)))⟩,
    ⟨(some 47), none, .bin .add (.t 44) (.t 46)⟩,
    ⟨(some 4), none, .mov (.t 47)⟩])
  (.seq (.reg [⟨(some 48), none, .mov (.t 0)⟩,
    ⟨(some 49), none, .mov (.t 1)⟩,
    ⟨(some 50), none, .bin .mul (.t 48) (.t 49)⟩,
    ⟨(some 5), none, .mov (.t 50)⟩])
  .ret))))))))))))
def rs47 : List RV := [.tmp 4, .tmp 5]
theorem ok47 : okF Try.prog 47 = true := by kernel_rfl
theorem cc47 : cCode Try.prog Try.f47.ntmps (Try.f47.body.getD .skip) = some c47 := by kernel_rfl
theorem cr47 : cRess Try.prog Try.f47.results.toList = some rs47 := by kernel_rfl
theorem pure47 {args : List V} {res : V} (hlen : args.length ≤ 51) (hna : namesL args = []) (hnr : res.names = []) (h : ∀ c : Ctx, c.P = Try.prog → c.fn = [] → vcC c c47 ⟨initE 0 args, [], []⟩ (RetK c rs47 res [])) : Ctr Try.prog 47 args [] res [] [] :=
  ctr_pure Try.func47 ok47 rfl cc47 cr47 Try.ntmps47 hlen hna hnr h
theorem own47 {args : List V} {ins outs : List (Nat × Own)} {res : V} {new : List Nat} (hlen : args.length ≤ 51) (hf : ctrB args ins res outs new = true) (h : ∀ c : Ctx, c.P = Try.prog → c.fn = namesL args ++ ownNames ins → vcC c c47 ⟨initE 0 args, ins, namesL args ++ ownNames ins⟩ (RetK c rs47 res outs)) : Ctr Try.prog 47 args ins res outs new :=
  ctr_own Try.func47 ok47 rfl cc47 cr47 Try.ntmps47 hlen hf h

/-- math/bits.Div64 -/
def c48 : C :=
  (.seq (.reg [⟨(some 6), none, .mov (.k (.d (.int .u64 0)))⟩,
    ⟨(some 7), none, .mov (.k (.d (.int .u64 0)))⟩])
  (.seq (.seq (.reg [⟨(some 19), none, .mov (.t 2)⟩,
    ⟨(some 20), none, .bin .eql (.t 19) (.k (.d (.int .u64 0)))⟩])
  (.cond (.t 20) .bad
  .skip))
  (.seq (.seq (.reg [⟨(some 22), none, .mov (.t 2)⟩,
    ⟨(some 23), none, .mov (.t 0)⟩,
    ⟨(some 24), none, .bin .leq (.t 22) (.t 23)⟩])
  (.cond (.t 24) .bad
  .skip))
  (.seq (.seq (.reg [⟨(some 26), none, .mov (.t 0)⟩,
    ⟨(some 27), none, .bin .eql (.t 26) (.k (.d (.int .u64 0)))⟩])
  (.cond (.t 27) (.seq (.drw [0, 0, 3, 0, 0, 24, 7, 127]
     [⟨(some 28), none, .mov (.t 1)⟩,
      ⟨(some 29), none, .mov (.t 2)⟩,
      ⟨(some 30), none, .bin .quo (.t 28) (.t 29)⟩,
      ⟨(some 31), none, .mov (.t 1)⟩,
      ⟨(some 32), none, .mov (.t 2)⟩,
      ⟨(some 33), none, .bin .rem (.t 31) (.t 32)⟩,
      ⟨(some 6), none, .mov (.t 30)⟩,
      ⟨(some 7), none, .mov (.t 33)⟩])
    .ret)
  .skip))
  (.seq (.reg [⟨(some 34), none, .mov (.t 2)⟩,
    ⟨(some 35), none, .call 49 [(.t 34)]⟩,
    ⟨(some 36), none, .conv .u64 (.t 35)⟩,
    ⟨(some 8), none, .mov (.t 36)⟩])
  (.seq (.reg [⟨(some 37), none, .mov (.t 2)⟩,
    ⟨(some 38), none, .mov (.t 8)⟩,
    ⟨(some 39), none, .shf true (.t 37) (.t 38)⟩,
    ⟨(some 2), none, .mov (.t 39)⟩])
  (.seq (.reg [⟨(some 40), none, .mov (.t 2)⟩,
    ⟨(some 41), none, .shf false (.t 40) (.k (.d (.int .u64 32)))⟩,
    ⟨(some 9), none, .mov (.t 41)⟩])
  (.seq (.reg [⟨(some 42), none, .mov (.t 2)⟩,
    ⟨(some 43), none, .bin .and (.t 42) (.k (.d (.int .u64 4294967295)))⟩,
    ⟨(some 10), none, .mov (.t 43)⟩])
  (.seq (.reg [⟨(some 44), none, .mov (.t 0)⟩,
    ⟨(some 45), none, .mov (.t 8)⟩,
    ⟨(some 46), none, .shf true (.t 44) (.t 45)⟩,
    ⟨(some 47), none, .mov (.t 1)⟩,
    ⟨(some 48), none, .mov (.t 8)⟩,
    ⟨(some 49), none, .bin .sub (.k (.d (.int .u64 64))) (.t 48)⟩,
    ⟨(some 50), none, .shf false (.t 47) (.t 49)⟩,
    ⟨(some 51), none, .bin .or (.t 46) (.t 50)⟩,
    ⟨(some 11), none, .mov (.t 51)⟩])
  (.seq (.reg [⟨(some 52), none, .mov (.t 1)⟩,
    ⟨(some 53), none, .mov (.t 8)⟩,
    ⟨(some 54), none, .shf true (.t 52) (.t 53)⟩,
    ⟨(some 12), none, .mov (.t 54)⟩])
  (.seq (.reg [⟨(some 55), none, .mov (.t 12)⟩,
    ⟨(some 56), none, .shf false (.t 55) (.k (.d (.int .u64 32)))⟩,
    ⟨(some 13), none, .mov (.t 56)⟩])
  (.seq (.reg [⟨(some 57), none, .mov (.t 12)⟩,
    ⟨(some 58), none, .bin .and (.t 57) (.k (.d (.int .u64 4294967295)))⟩,
    ⟨(some 14), none, .mov (.t 58)⟩])
  (.seq (.reg [⟨(some 59), none, .mov (.t 11)⟩,
    ⟨(some 60), none, .mov (.t 9)⟩,
    ⟨(some 61), none, .bin .quo (.t 59) (.t 60)⟩,
    ⟨(some 15), none, .mov (.t 61)⟩])
  (.seq (.reg [⟨(some 62), none, .mov (.t 11)⟩,
    ⟨(some 63), none, .mov (.t 15)⟩,
    ⟨(some 64), none, .mov (.t 9)⟩,
    ⟨(some 65), none, .bin .mul (.t 63) (.t 64)⟩,
    ⟨(some 66), none, .bin .sub (.t 62) (.t 65)⟩,
    ⟨(some 16), none, .mov (.t 66)⟩])
  (.seq (.block 0 (.loop (.seq (.seq (.reg [⟨(some 67), none, .mov (.t 15)⟩,
        ⟨(some 68), none, .bin .geq (.t 67) (.k (.d (.int .u64 4294967296)))⟩,
        ⟨(some 69), none, .mov (.t 68)⟩,
        ⟨(some 70), (some (69, false)), .mov (.t 15)⟩,
        ⟨(some 71), (some (69, false)), .mov (.t 10)⟩,
        ⟨(some 72), (some (69, false)), .bin .mul (.t 70) (.t 71)⟩,
        ⟨(some 73), (some (69, false)), .mov (.t 16)⟩,
        ⟨(some 74), (some (69, false)), .bin .mul (.k (.d (.int .u64 4294967296))) (.t 73)⟩,
        ⟨(some 75), (some (69, false)), .mov (.t 13)⟩,
        ⟨(some 76), (some (69, false)), .bin .add (.t 74) (.t 75)⟩,
        ⟨(some 77), (some (69, false)), .bin .gtr (.t 72) (.t 76)⟩,
        ⟨(some 78), none, .pick (.t 69) (.k (.d (.bool true))) (.t 77)⟩])
      (.cond (.t 78) .skip
      (.exit 0)))
      (.block 2 (.seq (.reg [⟨(some 79), none, .mov (.t 15)⟩,
          ⟨(some 80), none, .bin .sub (.t 79) (.k (.d (.int .u64 1)))⟩,
          ⟨(some 15), none, .mov (.t 80)⟩])
        (.seq (.reg [⟨(some 81), none, .mov (.t 16)⟩,
          ⟨(some 82), none, .mov (.t 9)⟩,
          ⟨(some 83), none, .bin .add (.t 81) (.t 82)⟩,
          ⟨(some 16), none, .mov (.t 83)⟩])
        (.seq (.reg [⟨(some 84), none, .mov (.t 16)⟩,
          ⟨(some 85), none, .bin .geq (.t 84) (.k (.d (.int .u64 4294967296)))⟩])
        (.cond (.t 85) (.exit 0)
        .skip))))))))
  (.seq (.reg [⟨(some 86), none, .mov (.t 11)⟩,
    ⟨(some 87), none, .bin .mul (.t 86) (.k (.d (.int .u64 4294967296)))⟩,
    ⟨(some 88), none, .mov (.t 13)⟩,
    ⟨(some 89), none, .bin .add (.t 87) (.t 88)⟩,
    ⟨(some 90), none, .mov (.t 15)⟩,
    ⟨(some 91), none, .mov (.t 2)⟩,
    ⟨(some 92), none, .bin .mul (.t 90) (.t 91)⟩,
    ⟨(some 93), none, .bin .sub (.t 89) (.t 92)⟩,
    ⟨(some 17), none, .mov (.t 93)⟩])
  (.seq (.reg [⟨(some 94), none, .mov (.t 17)⟩,
    ⟨(some 95), none, .mov (.t 9)⟩,
    ⟨(some 96), none, .bin .quo (.t 94) (.t 95)⟩,
    ⟨(some 18), none, .mov (.t 96)⟩])
  (.seq (.reg [⟨(some 97), none, .mov (.t 17)⟩,
    ⟨(some 98), none, .mov (.t 18)⟩,
    ⟨(some 99), none, .mov (.t 9)⟩,
    ⟨(some 100), none, .bin .mul (.t 98) (.t 99)⟩,
    ⟨(some 101), none, .bin .sub (.t 97) (.t 100)⟩,
    ⟨(some 16), none, .mov (.t 101)⟩])
  (.seq (.block 4 (.loop (.seq (.seq (.reg [⟨(some 102), none, .mov (.t 18)⟩,
        ⟨(some 103), none, .bin .geq (.t 102) (.k (.d (.int .u64 4294967296)))⟩,
        ⟨(some 104), none, .mov (.t 103)⟩,
        ⟨(some 105), (some (104, false)), .mov (.t 18)⟩,
        ⟨(some 106), (some (104, false)), .mov (.t 10)⟩,
        ⟨(some 107), (some (104, false)), .bin .mul (.t 105) (.t 106)⟩,
        ⟨(some 108), (some (104, false)), .mov (.t 16)⟩,
        ⟨(some 109), (some (104, false)), .bin .mul (.k (.d (.int .u64 4294967296))) (.t 108)⟩,
        ⟨(some 110), (some (104, false)), .mov (.t 14)⟩,
        ⟨(some 111), (some (104, false)), .bin .add (.t 109) (.t 110)⟩,
        ⟨(some 112), (some (104, false)), .bin .gtr (.t 107) (.t 111)⟩,
        ⟨(some 113), none, .pick (.t 104) (.k (.d (.bool true))) (.t 112)⟩])
      (.cond (.t 113) .skip
      (.exit 4)))
      (.block 6 (.seq (.reg [⟨(some 114), none, .mov (.t 18)⟩,
          ⟨(some 115), none, .bin .sub (.t 114) (.k (.d (.int .u64 1)))⟩,
          ⟨(some 18), none, .mov (.t 115)⟩])
        (.seq (.reg [⟨(some 116), none, .mov (.t 16)⟩,
          ⟨(some 117), none, .mov (.t 9)⟩,
          ⟨(some 118), none, .bin .add (.t 116) (.t 117)⟩,
          ⟨(some 16), none, .mov (.t 118)⟩])
        (.seq (.reg [⟨(some 119), none, .mov (.t 16)⟩,
          ⟨(some 120), none, .bin .geq (.t 119) (.k (.d (.int .u64 4294967296)))⟩])
        (.cond (.t 120) (.exit 4)
        .skip))))))))
  (.seq (.reg [⟨(some 121), none, .mov (.t 15)⟩,
    ⟨(some 122), none, .bin .mul (.t 121) (.k (.d (.int .u64 4294967296)))⟩,
    ⟨(some 123), none, .mov (.t 18)⟩,
    ⟨(some 124), none, .bin .add (.t 122) (.t 123)⟩,
    ⟨(some 125), none, .mov (.t 17)⟩,
    ⟨(some 126), none, .bin .mul (.t 125) (.k (.d (.int .u64 4294967296)))⟩,
    ⟨(some 127), none, .mov (.t 14)⟩,
    ⟨(some 128), none, .bin .add (.t 126) (.t 127)⟩,
    ⟨(some 129), none, .mov (.t 18)⟩,
    ⟨(some 130), none, .mov (.t 2)⟩,
    ⟨(some 131), none, .bin .mul (.t 129) (.t 130)⟩,
    ⟨(some 132), none, .bin .sub (.t 128) (.t 131)⟩,
    ⟨(some 133), none, .mov (.t 8)⟩,
    ⟨(some 134), none, .shf false (.t 132) (.t 133)⟩,
    ⟨(some 6), none, .mov (.t 124)⟩,
    ⟨(some 7), none, .mov (.t 134)⟩])
  .ret))))))))))))))))))))
def rs48 : List RV := [.tmp 6, .tmp 7]
theorem ok48 : okF Try.prog 48 = true := by kernel_rfl
theorem cc48 : cCode Try.prog Try.f48.ntmps (Try.f48.body.getD .skip) = some c48 := by kernel_rfl
theorem cr48 : cRess Try.prog Try.f48.results.toList = some rs48 := by kernel_rfl
theorem pure48 {args : List V} {res : V} (hlen : args.length ≤ 135) (hna : namesL args = []) (hnr : res.names = []) (h : ∀ c : Ctx, c.P = Try.prog → c.fn = [] → vcC c c48 ⟨initE 0 args, [], []⟩ (RetK c rs48 res [])) : Ctr Try.prog 48 args [] res [] [] :=
  ctr_pure Try.func48 ok48 rfl cc48 cr48 Try.ntmps48 hlen hna hnr h
theorem own48 {args : List V} {ins outs : List (Nat × Own)} {res : V} {new : List Nat} (hlen : args.length ≤ 135) (hf : ctrB args ins res outs new = true) (h : ∀ c : Ctx, c.P = Try.prog → c.fn = namesL args ++ ownNames ins → vcC c c48 ⟨initE 0 args, ins, namesL args ++ ownNames ins⟩ (RetK c rs48 res outs)) : Ctr Try.prog 48 args ins res outs new :=
  ctr_own Try.func48 ok48 rfl cc48 cr48 Try.ntmps48 hlen hf h

/-- math/bits.LeadingZeros64 -/
def c49 : C :=
  (.seq (.reg [⟨(some 2), none, .mov (.k (.d (.int .i64 0)))⟩])
  (.seq (.reg [⟨(some 3), none, .mov (.t 0)⟩,
    ⟨(some 4), none, .call 50 [(.t 3)]⟩,
    ⟨(some 5), none, .bin .sub (.k (.d (.int .i64 64))) (.t 4)⟩,
    ⟨(some 2), none, .mov (.t 5)⟩])
  .ret))
def rs49 : List RV := [.tmp 2]
theorem ok49 : okF Try.prog 49 = true := by kernel_rfl
theorem cc49 : cCode Try.prog Try.f49.ntmps (Try.f49.body.getD .skip) = some c49 := by kernel_rfl
theorem cr49 : cRess Try.prog Try.f49.results.toList = some rs49 := by kernel_rfl
theorem pure49 {args : List V} {res : V} (hlen : args.length ≤ 6) (hna : namesL args = []) (hnr : res.names = []) (h : ∀ c : Ctx, c.P = Try.prog → c.fn = [] → vcC c c49 ⟨initE 0 args, [], []⟩ (RetK c rs49 res [])) : Ctr Try.prog 49 args [] res [] [] :=
  ctr_pure Try.func49 ok49 rfl cc49 cr49 Try.ntmps49 hlen hna hnr h
theorem own49 {args : List V} {ins outs : List (Nat × Own)} {res : V} {new : List Nat} (hlen : args.length ≤ 6) (hf : ctrB args ins res outs new = true) (h : ∀ c : Ctx, c.P = Try.prog → c.fn = namesL args ++ ownNames ins → vcC c c49 ⟨initE 0 args, ins, namesL args ++ ownNames ins⟩ (RetK c rs49 res outs)) : Ctr Try.prog 49 args ins res outs new :=
  ctr_own Try.func49 ok49 rfl cc49 cr49 Try.ntmps49 hlen hf h

/-- math/bits.Len64 -/
def c50 : C :=
  (.seq (.reg [⟨(some 2), none, .mov (.k (.d (.int .i64 0)))⟩])
  (.seq (.seq (.reg [⟨(some 3), none, .mov (.t 0)⟩,
    ⟨(some 4), none, .bin .geq (.t 3) (.k (.d (.int .u64 4294967296)))⟩])
  (.cond (.t 4) (.seq (.reg [⟨(some 5), none, .mov (.t 0)⟩,
      ⟨(some 6), none, .shf false (.t 5) (.k (.d (.int .u64 32)))⟩,
      ⟨(some 0), none, .mov (.t 6)⟩])
    (.reg [⟨(some 2), none, .mov (.k (.d (.int .i64 32)))⟩]))
  .skip))
  (.seq (.seq (.reg [⟨(some 7), none, .mov (.t 0)⟩,
    ⟨(some 8), none, .bin .geq (.t 7) (.k (.d (.int .u64 65536)))⟩])
  (.cond (.t 8) (.seq (.reg [⟨(some 9), none, .mov (.t 0)⟩,
      ⟨(some 10), none, .shf false (.t 9) (.k (.d (.int .u64 16)))⟩,
      ⟨(some 0), none, .mov (.t 10)⟩])
    (.reg [⟨(some 11), none, .mov (.t 2)⟩,
      ⟨(some 12), none, .bin .add (.t 11) (.k (.d (.int .i64 16)))⟩,
      ⟨(some 2), none, .mov (.t 12)⟩]))
  .skip))
  (.seq (.seq (.reg [⟨(some 13), none, .mov (.t 0)⟩,
    ⟨(some 14), none, .bin .geq (.t 13) (.k (.d (.int .u64 256)))⟩])
  (.cond (.t 14) (.seq (.reg [⟨(some 15), none, .mov (.t 0)⟩,
      ⟨(some 16), none, .shf false (.t 15) (.k (.d (.int .u64 8)))⟩,
      ⟨(some 0), none, .mov (.t 16)⟩])
    (.reg [⟨(some 17), none, .mov (.t 2)⟩,
      ⟨(some 18), none, .bin .add (.t 17) (.k (.d (.int .i64 8)))⟩,
      ⟨(some 2), none, .mov (.t 18)⟩]))
  .skip))
  (.seq (.reg [⟨(some 19), none, .mov (.t 2)⟩,
    ⟨(some 20), none, .mov (.t 0)⟩,
    ⟨(some 21), none, .conv .u8 (.t 20)⟩,
    ⟨(some 22), none, .sidx ⟨#[0, 1, 2, 2, 3, 3, 3, 3, 4, 4, 4, 4, 4, 4, 4, 4, 5, 5, 5, 5, 5, 5, 5, 5, 5, 5, 5, 5, 5, 5, 5, 5, 6, 6, 6, 6, 6, 6, 6, 6, 6, 6, 6, 6, 6, 6, 6, 6, 6, 6, 6, 6, 6, 6, 6, 6, 6, 6, 6, 6, 6, 6, 6, 6, 7, 7, 7, 7, 7, 7, 7, 7, 7, 7, 7, 7, 7, 7, 7, 7, 7, 7, 7, 7, 7, 7, 7, 7, 7, 7, 7, 7, 7, 7, 7, 7, 7, 7, 7, 7, 7, 7, 7, 7, 7, 7, 7, 7, 7, 7, 7, 7, 7, 7, 7, 7, 7, 7, 7, 7, 7, 7, 7, 7, 7, 7, 7, 7, 8, 8, 8, 8, 8, 8, 8, 8, 8, 8, 8, 8, 8, 8, 8, 8, 8, 8, 8, 8, 8, 8, 8, 8, 8, 8, 8, 8, 8, 8, 8, 8, 8, 8, 8, 8, 8, 8, 8, 8, 8, 8, 8, 8, 8, 8, 8, 8, 8, 8, 8, 8, 8, 8, 8, 8, 8, 8, 8, 8, 8, 8, 8, 8, 8, 8, 8, 8, 8, 8, 8, 8, 8, 8, 8, 8, 8, 8, 8, 8, 8, 8, 8, 8, 8, 8, 8, 8, 8, 8, 8, 8, 8, 8, 8, 8, 8, 8, 8, 8, 8, 8, 8, 8, 8, 8, 8, 8, 8, 8, 8, 8, 8, 8, 8, 8, 8, 8, 8, 8, 8, 8, 8, 8, 8, 8, 8, 8]⟩ (.t 21)⟩,
    ⟨(some 23), none, .conv .i64 (.t 22)⟩,
    ⟨(some 24), none, .bin .add (.t 19) (.t 23)⟩,
    ⟨(some 2), none, .mov (.t 24)⟩])
  .ret)))))
def rs50 : List RV := [.tmp 2]
theorem ok50 : okF Try.prog 50 = true := by kernel_rfl
theorem cc50 : cCode Try.prog Try.f50.ntmps (Try.f50.body.getD .skip) = some c50 := by kernel_rfl
theorem cr50 : cRess Try.prog Try.f50.results.toList = some rs50 := by kernel_rfl
theorem pure50 {args : List V} {res : V} (hlen : args.length ≤ 25) (hna : namesL args = []) (hnr : res.names = []) (h : ∀ c : Ctx, c.P = Try.prog → c.fn = [] → vcC c c50 ⟨initE 0 args, [], []⟩ (RetK c rs50 res [])) : Ctr Try.prog 50 args [] res [] [] :=
  ctr_pure Try.func50 ok50 rfl cc50 cr50 Try.ntmps50 hlen hna hnr h
theorem own50 {args : List V} {ins outs : List (Nat × Own)} {res : V} {new : List Nat} (hlen : args.length ≤ 25) (hf : ctrB args ins res outs new = true) (h : ∀ c : Ctx, c.P = Try.prog → c.fn = namesL args ++ ownNames ins → vcC c c50 ⟨initE 0 args, ins, namesL args ++ ownNames ins⟩ (RetK c rs50 res outs)) : Ctr Try.prog 50 args ins res outs new :=
  ctr_own Try.func50 ok50 rfl cc50 cr50 Try.ntmps50 hlen hf h

end Go.Proofs.Ytkcfgdafhfllgaa
