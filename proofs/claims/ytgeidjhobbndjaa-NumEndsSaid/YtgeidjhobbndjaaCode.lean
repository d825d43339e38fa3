/-
  The code of this seat's functions, compiled for the engine (by a program of mine); the theorems say that it is theirs.
-/
import Derived.Test.YtgeidjhobbndjaaRows
import Derived.Test.YtgeidjhobbndjaaEng23
import Derived.KernelRfl
namespace Go.Proofs.Ytgeidjhobbndjaa
open Go.Bx

set_option maxRecDepth 100000

/-- bordereau/bordereaulaw01.NumDown -/
def c3 : C :=
  (.seq (.reg [⟨(some 6), none, .mov (.k (.d (.bool false)))⟩])
  (.seq (.reg [⟨(some 12), none, .mov (.t 0)⟩,
    ⟨(some 13), none, .mov (.t 1)⟩,
    ⟨(some 14), none, .mov (.t 2)⟩,
    ⟨(some 15), none, .call 12 [(.t 12), (.t 13), (.t 14)]⟩,
    ⟨(some 11), none, .mov (.t 15)⟩,
    ⟨(some 16), none, .ext 0 (.t 11)⟩,
    ⟨(some 17), none, .ext 1 (.t 11)⟩,
    ⟨(some 7), none, .mov (.t 16)⟩,
    ⟨(some 8), none, .mov (.t 17)⟩])
  (.seq (.reg [⟨(some 19), none, .mov (.t 0)⟩,
    ⟨(some 20), none, .mov (.t 1)⟩,
    ⟨(some 21), none, .mov (.t 2)⟩,
    ⟨(some 22), none, .call 13 [(.t 19), (.t 20), (.t 21)]⟩,
    ⟨(some 18), none, .mov (.t 22)⟩,
    ⟨(some 23), none, .ext 0 (.t 18)⟩,
    ⟨(some 24), none, .ext 1 (.t 18)⟩,
    ⟨(some 9), none, .mov (.t 23)⟩,
    ⟨(some 10), none, .mov (.t 24)⟩])
  (.seq (.reg [⟨(some 25), none, .call 14 []⟩,
    ⟨(some 26), none, .mov (.t 25)⟩,
    ⟨(some 27), (some (26, true)), .mov (.t 7)⟩,
    ⟨(some 28), (some (26, true)), .mov (.t 9)⟩,
    ⟨(some 29), (some (26, true)), .bin .eql (.t 27) (.t 28)⟩,
    ⟨(some 30), none, .pick (.t 26) (.t 29) (.k (.d (.bool false)))⟩,
    ⟨(some 31), none, .mov (.t 30)⟩,
    ⟨(some 32), (some (31, true)), .mov (.t 8)⟩,
    ⟨(some 33), (some (31, true)), .mov (.t 10)⟩,
    ⟨(some 34), (some (31, true)), .bin .eql (.t 32) (.t 33)⟩,
    ⟨(some 35), none, .pick (.t 31) (.t 34) (.k (.d (.bool false)))⟩,
    ⟨(some 6), none, .mov (.t 35)⟩])
  .ret))))
def rs3 : List RV := [.tmp 6]
theorem ok3 : okF Try.prog 3 = true := by kernel_rfl
theorem cc3 : cCode Try.prog Try.f3.ntmps (Try.f3.body.getD .skip) = some c3 := by kernel_rfl
theorem cr3 : cRess Try.prog Try.f3.results.toList = some rs3 := by kernel_rfl
theorem pure3 {args : List V} {res : V} (hlen : args.length ≤ 36) (hna : namesL args = []) (hnr : res.names = []) (h : ∀ c : Ctx, c.P = Try.prog → c.fn = [] → vcC c c3 ⟨initE 0 args, [], []⟩ (RetK c rs3 res [])) : Ctr Try.prog 3 args [] res [] [] :=
  ctr_pure Try.func3 ok3 rfl cc3 cr3 Try.ntmps3 hlen hna hnr h
theorem own3 {args : List V} {ins outs : List (Nat × Own)} {res : V} {new : List Nat} (hlen : args.length ≤ 36) (hf : ctrB args ins res outs new = true) (h : ∀ c : Ctx, c.P = Try.prog → c.fn = namesL args ++ ownNames ins → vcC c c3 ⟨initE 0 args, ins, namesL args ++ ownNames ins⟩ (RetK c rs3 res outs)) : Ctr Try.prog 3 args ins res outs new :=
  ctr_own Try.func3 ok3 rfl cc3 cr3 Try.ntmps3 hlen hf h

/-- bordereau/bordereaulaw01.NumEven -/
def c4 : C :=
  (.seq (.reg [⟨(some 6), none, .mov (.k (.d (.bool false)))⟩])
  (.seq (.reg [⟨(some 16), none, .mov (.t 0)⟩,
    ⟨(some 17), none, .mov (.t 1)⟩,
    ⟨(some 18), none, .mov (.t 2)⟩,
    ⟨(some 19), none, .call 15 [(.t 16), (.t 17), (.t 18)]⟩,
    ⟨(some 15), none, .mov (.t 19)⟩,
    ⟨(some 20), none, .ext 0 (.t 15)⟩,
    ⟨(some 21), none, .ext 1 (.t 15)⟩,
    ⟨(some 7), none, .mov (.t 20)⟩,
    ⟨(some 8), none, .mov (.t 21)⟩])
  (.seq (.reg [⟨(some 23), none, .mov (.t 0)⟩,
    ⟨(some 24), none, .mov (.t 1)⟩,
    ⟨(some 25), none, .mov (.t 2)⟩,
    ⟨(some 26), none, .call 16 [(.t 23), (.t 24), (.t 25)]⟩,
    ⟨(some 22), none, .mov (.t 26)⟩,
    ⟨(some 27), none, .ext 0 (.t 22)⟩,
    ⟨(some 28), none, .ext 1 (.t 22)⟩,
    ⟨(some 9), none, .mov (.t 27)⟩,
    ⟨(some 10), none, .mov (.t 28)⟩])
  (.seq (.reg [⟨(some 30), none, .mov (.t 0)⟩,
    ⟨(some 31), none, .mov (.t 1)⟩,
    ⟨(some 32), none, .call 17 [(.t 30), (.t 31)]⟩,
    ⟨(some 29), none, .mov (.t 32)⟩,
    ⟨(some 33), none, .ext 0 (.t 29)⟩,
    ⟨(some 34), none, .ext 1 (.t 29)⟩,
    ⟨(some 11), none, .mov (.t 33)⟩,
    ⟨(some 12), none, .mov (.t 34)⟩])
  (.seq (.reg [⟨(some 36), none, .mov (.t 0)⟩,
    ⟨(some 37), none, .mov (.t 1)⟩,
    ⟨(some 38), none, .call 18 [(.t 36), (.t 37)]⟩,
    ⟨(some 35), none, .mov (.t 38)⟩,
    ⟨(some 39), none, .ext 0 (.t 35)⟩,
    ⟨(some 40), none, .ext 1 (.t 35)⟩,
    ⟨(some 13), none, .mov (.t 39)⟩,
    ⟨(some 14), none, .mov (.t 40)⟩])
  (.seq (.reg [⟨(some 41), none, .call 14 []⟩,
    ⟨(some 42), none, .mov (.t 41)⟩,
    ⟨(some 43), (some (42, true)), .mov (.t 7)⟩,
    ⟨(some 44), (some (42, true)), .mov (.t 9)⟩,
    ⟨(some 45), (some (42, true)), .bin .eql (.t 43) (.t 44)⟩,
    ⟨(some 46), none, .pick (.t 42) (.t 45) (.k (.d (.bool false)))⟩,
    ⟨(some 47), none, .mov (.t 46)⟩,
    ⟨(some 48), (some (47, true)), .mov (.t 8)⟩,
    ⟨(some 49), (some (47, true)), .mov (.t 10)⟩,
    ⟨(some 50), (some (47, true)), .bin .eql (.t 48) (.t 49)⟩,
    ⟨(some 51), none, .pick (.t 47) (.t 50) (.k (.d (.bool false)))⟩,
    ⟨(some 52), none, .mov (.t 51)⟩,
    ⟨(some 53), (some (52, true)), .mov (.t 11)⟩,
    ⟨(some 54), (some (52, true)), .mov (.t 13)⟩,
    ⟨(some 55), (some (52, true)), .bin .eql (.t 53) (.t 54)⟩,
    ⟨(some 56), none, .pick (.t 52) (.t 55) (.k (.d (.bool false)))⟩,
    ⟨(some 57), none, .mov (.t 56)⟩,
    ⟨(some 58), (some (57, true)), .mov (.t 12)⟩,
    ⟨(some 59), (some (57, true)), .mov (.t 14)⟩,
    ⟨(some 60), (some (57, true)), .bin .eql (.t 58) (.t 59)⟩,
    ⟨(some 61), none, .pick (.t 57) (.t 60) (.k (.d (.bool false)))⟩,
    ⟨(some 6), none, .mov (.t 61)⟩])
  .ret))))))
def rs4 : List RV := [.tmp 6]
theorem ok4 : okF Try.prog 4 = true := by kernel_rfl
theorem cc4 : cCode Try.prog Try.f4.ntmps (Try.f4.body.getD .skip) = some c4 := by kernel_rfl
theorem cr4 : cRess Try.prog Try.f4.results.toList = some rs4 := by kernel_rfl
theorem pure4 {args : List V} {res : V} (hlen : args.length ≤ 62) (hna : namesL args = []) (hnr : res.names = []) (h : ∀ c : Ctx, c.P = Try.prog → c.fn = [] → vcC c c4 ⟨initE 0 args, [], []⟩ (RetK c rs4 res [])) : Ctr Try.prog 4 args [] res [] [] :=
  ctr_pure Try.func4 ok4 rfl cc4 cr4 Try.ntmps4 hlen hna hnr h
theorem own4 {args : List V} {ins outs : List (Nat × Own)} {res : V} {new : List Nat} (hlen : args.length ≤ 62) (hf : ctrB args ins res outs new = true) (h : ∀ c : Ctx, c.P = Try.prog → c.fn = namesL args ++ ownNames ins → vcC c c4 ⟨initE 0 args, ins, namesL args ++ ownNames ins⟩ (RetK c rs4 res outs)) : Ctr Try.prog 4 args ins res outs new :=
  ctr_own Try.func4 ok4 rfl cc4 cr4 Try.ntmps4 hlen hf h

/-- bordereau/bordereaulaw01.NumSplit -/
def c5 : C :=
  (.seq (.reg [⟨(some 4), none, .mov (.k (.d (.bool false)))⟩])
  (.seq (.seq (.reg [⟨(some 10), none, .mov (.t 1)⟩,
    ⟨(some 11), none, .len (.t 10)⟩,
    ⟨(some 12), none, .bin .gtr (.t 11) (.k (.d (.int .i64 2100)))⟩])
  (.cond (.t 12) (.seq (.reg [⟨(some 13), none, .call 14 []⟩,
      ⟨(some 4), none, .mov (.t 13)⟩])
    .ret)
  .skip))
  (.seq (.reg [⟨(some 14), none, .bslice 3 1 0 []⟩,
    ⟨(some 15), none, .mov (.t 1)⟩,
    ⟨(some 16), none, .app 3 1 8 (.t 14) (.t 15)⟩,
    ⟨(some 5), none, .mov (.t 16)⟩])
  (.seq (.reg [⟨(some 18), none, .mov (.t 0)⟩,
    ⟨(some 19), none, .mov (.t 5)⟩,
    ⟨(some 20), none, .call 19 [(.t 18), (.t 19)]⟩,
    ⟨(some 17), none, .mov (.t 20)⟩,
    ⟨(some 21), none, .ext 0 (.t 17)⟩,
    ⟨(some 22), none, .ext 1 (.t 17)⟩,
    ⟨(some 6), none, .mov (.t 21)⟩,
    ⟨(some 7), none, .mov (.t 22)⟩])
  (.seq (.reg [⟨(some 24), none, .mov (.t 0)⟩,
    ⟨(some 25), none, .mov (.t 1)⟩,
    ⟨(some 26), none, .call 20 [(.t 24), (.t 25)]⟩,
    ⟨(some 23), none, .mov (.t 26)⟩,
    ⟨(some 27), none, .ext 0 (.t 23)⟩,
    ⟨(some 28), none, .ext 1 (.t 23)⟩,
    ⟨(some 8), none, .mov (.t 27)⟩,
    ⟨(some 9), none, .mov (.t 28)⟩])
  (.seq (.reg [⟨(some 29), none, .call 14 []⟩,
    ⟨(some 30), none, .mov (.t 29)⟩,
    ⟨(some 31), (some (30, true)), .mov (.t 6)⟩,
    ⟨(some 32), (some (30, true)), .mov (.t 8)⟩,
    ⟨(some 33), (some (30, true)), .call 21 [(.t 31), (.t 32)]⟩,
    ⟨(some 34), none, .pick (.t 30) (.t 33) (.k (.d (.bool false)))⟩,
    ⟨(some 35), none, .mov (.t 34)⟩,
    ⟨(some 36), (some (35, true)), .mov (.t 7)⟩,
    ⟨(some 37), (some (35, true)), .mov (.t 9)⟩,
    ⟨(some 38), (some (35, true)), .bin .eql (.t 36) (.t 37)⟩,
    ⟨(some 39), none, .pick (.t 35) (.t 38) (.k (.d (.bool false)))⟩,
    ⟨(some 40), none, .mov (.t 39)⟩,
    ⟨(some 41), (some (40, true)), .mov (.t 5)⟩,
    ⟨(some 42), (some (40, true)), .mov (.t 1)⟩,
    ⟨(some 43), (some (40, true)), .call 21 [(.t 41), (.t 42)]⟩,
    ⟨(some 44), none, .pick (.t 40) (.t 43) (.k (.d (.bool false)))⟩,
    ⟨(some 4), none, .mov (.t 44)⟩])
  .ret))))))
def rs5 : List RV := [.tmp 4]
theorem ok5 : okF Try.prog 5 = true := by kernel_rfl
theorem cc5 : cCode Try.prog Try.f5.ntmps (Try.f5.body.getD .skip) = some c5 := by kernel_rfl
theorem cr5 : cRess Try.prog Try.f5.results.toList = some rs5 := by kernel_rfl
theorem pure5 {args : List V} {res : V} (hlen : args.length ≤ 45) (hna : namesL args = []) (hnr : res.names = []) (h : ∀ c : Ctx, c.P = Try.prog → c.fn = [] → vcC c c5 ⟨initE 0 args, [], []⟩ (RetK c rs5 res [])) : Ctr Try.prog 5 args [] res [] [] :=
  ctr_pure Try.func5 ok5 rfl cc5 cr5 Try.ntmps5 hlen hna hnr h
theorem own5 {args : List V} {ins outs : List (Nat × Own)} {res : V} {new : List Nat} (hlen : args.length ≤ 45) (hf : ctrB args ins res outs new = true) (h : ∀ c : Ctx, c.P = Try.prog → c.fn = namesL args ++ ownNames ins → vcC c c5 ⟨initE 0 args, ins, namesL args ++ ownNames ins⟩ (RetK c rs5 res outs)) : Ctr Try.prog 5 args ins res outs new :=
  ctr_own Try.func5 ok5 rfl cc5 cr5 Try.ntmps5 hlen hf h

/-- bordereau/bordereaulaw01.NumSums -/
def c6 : C :=
  (.seq (.reg [⟨(some 4), none, .mov (.k (.d (.bool false)))⟩])
  (.seq (.seq (.reg [⟨(some 10), none, .mov (.t 1)⟩,
    ⟨(some 11), none, .len (.t 10)⟩,
    ⟨(some 12), none, .bin .gtr (.t 11) (.k (.d (.int .i64 2100)))⟩])
  (.cond (.t 12) (.seq (.reg [⟨(some 13), none, .call 14 []⟩,
      ⟨(some 4), none, .mov (.t 13)⟩])
    .ret)
  .skip))
  (.seq (.reg [⟨(some 15), none, .mov (.t 0)⟩,
    ⟨(some 16), none, .mov (.t 1)⟩,
    ⟨(some 17), none, .call 19 [(.t 15), (.t 16)]⟩,
    ⟨(some 14), none, .mov (.t 17)⟩,
    ⟨(some 18), none, .ext 0 (.t 14)⟩,
    ⟨(some 19), none, .ext 1 (.t 14)⟩,
    ⟨(some 5), none, .mov (.t 18)⟩,
    ⟨(some 6), none, .mov (.t 19)⟩])
  (.seq (.seq (.reg [⟨(some 20), none, .mov (.t 6)⟩,
    ⟨(some 21), none, .bin .neq (.t 20) (.k (.d (.int .i64 0)))⟩])
  (.cond (.t 21) (.seq (.reg [⟨(some 22), none, .call 14 []⟩,
      ⟨(some 23), none, .mov (.t 22)⟩,
      ⟨(some 24), (some (23, true)), .mov (.t 5)⟩,
      ⟨(some 25), (some (23, true)), .len (.t 24)⟩,
      ⟨(some 26), (some (23, true)), .bin .eql (.t 25) (.k (.d (.int .i64 0)))⟩,
      ⟨(some 27), none, .pick (.t 23) (.t 26) (.k (.d (.bool false)))⟩,
      ⟨(some 4), none, .mov (.t 27)⟩])
    .ret)
  .skip))
  (.seq (.seq (.reg [⟨(some 28), none, .mov (.t 5)⟩,
    ⟨(some 29), none, .len (.t 28)⟩,
    ⟨(some 30), none, .mov (.t 1)⟩,
    ⟨(some 31), none, .len (.t 30)⟩,
    ⟨(some 32), none, .bin .neq (.t 29) (.t 31)⟩])
  (.cond (.t 32) (.seq (.reg [⟨(some 4), none, .mov (.k (.d (.bool false)))⟩])
    .ret)
  .skip))
  (.seq (.reg [⟨(some 7), none, .mov (.k (.d (.int .i64 0)))⟩])
  (.seq (.seq (.reg [⟨(some 33), none, .mov (.t 5)⟩,
    ⟨(some 34), none, .len (.t 33)⟩,
    ⟨(some 35), none, .mov (.k (.d (.int .i64 0)))⟩])
  (.block 0 (.loop (.seq (.reg [⟨(some 36), none, .bin .lss (.t 35) (.t 34)⟩])
      (.seq (.cond (.t 36) .skip
      (.exit 0))
      (.seq (.block 1 (.seq (.reg [⟨(some 37), none, .mov (.t 35)⟩,
          ⟨(some 38), none, .iadr 1 (.t 33) (.t 35)⟩,
          ⟨(some 39), none, .load 1 false (.t 38)⟩,
          ⟨(some 8), none, .mov (.t 37)⟩,
          ⟨(some 9), none, .mov (.t 39)⟩])
        (.seq (.seq (.reg [⟨(some 40), none, .mov (.t 9)⟩,
          ⟨(some 41), none, .bin .lss (.t 40) (.k (.d (.int .i64 0)))⟩,
          ⟨(some 42), none, .mov (.t 41)⟩,
          ⟨(some 43), (some (42, false)), .mov (.t 1)⟩,
          ⟨(some 44), (some (42, false)), .mov (.t 8)⟩,
          ⟨(some 45), (some (42, false)), .iadr 1 (.t 43) (.t 44)⟩,
          ⟨(some 46), (some (42, false)), .load 1 false (.t 45)⟩,
          ⟨(some 47), (some (42, false)), .bin .eql (.t 46) (.k (.d (.int .i64 0)))⟩,
          ⟨(some 48), (some (42, false)), .mov (.t 47)⟩,
          ⟨(some 49), (some (48, true)), .mov (.t 9)⟩,
          ⟨(some 50), (some (48, true)), .bin .neq (.t 49) (.k (.d (.int .i64 0)))⟩,
          ⟨(some 51), (some (42, false)), .pick (.t 48) (.t 50) (.k (.d (.bool false)))⟩,
          ⟨(some 52), none, .pick (.t 42) (.k (.d (.bool true))) (.t 51)⟩])
        (.cond (.t 52) (.seq (.reg [⟨(some 4), none, .mov (.k (.d (.bool false)))⟩])
          .ret)
        .skip))
        (.reg [⟨(some 53), none, .mov (.t 7)⟩,
          ⟨(some 54), none, .mov (.t 9)⟩,
          ⟨(some 55), none, .bin .add (.t 53) (.t 54)⟩,
          ⟨(some 7), none, .mov (.t 55)⟩]))))
      (.reg [⟨(some 56), none, .bin .add (.t 35) (.k (.d (.int .i64 1)))⟩,
        ⟨(some 35), none, .mov (.t 56)⟩])))))))
  (.seq (.reg [⟨(some 57), none, .call 14 []⟩,
    ⟨(some 58), none, .mov (.t 57)⟩,
    ⟨(some 59), (some (58, true)), .mov (.t 7)⟩,
    ⟨(some 60), (some (58, true)), .mov (.t 0)⟩,
    ⟨(some 61), (some (58, true)), .bin .eql (.t 59) (.t 60)⟩,
    ⟨(some 62), none, .pick (.t 58) (.t 61) (.k (.d (.bool false)))⟩,
    ⟨(some 4), none, .mov (.t 62)⟩])
  .ret))))))))
def rs6 : List RV := [.tmp 4]
theorem ok6 : okF Try.prog 6 = true := by kernel_rfl
theorem cc6 : cCode Try.prog Try.f6.ntmps (Try.f6.body.getD .skip) = some c6 := by kernel_rfl
theorem cr6 : cRess Try.prog Try.f6.results.toList = some rs6 := by kernel_rfl
theorem pure6 {args : List V} {res : V} (hlen : args.length ≤ 63) (hna : namesL args = []) (hnr : res.names = []) (h : ∀ c : Ctx, c.P = Try.prog → c.fn = [] → vcC c c6 ⟨initE 0 args, [], []⟩ (RetK c rs6 res [])) : Ctr Try.prog 6 args [] res [] [] :=
  ctr_pure Try.func6 ok6 rfl cc6 cr6 Try.ntmps6 hlen hna hnr h
theorem own6 {args : List V} {ins outs : List (Nat × Own)} {res : V} {new : List Nat} (hlen : args.length ≤ 63) (hf : ctrB args ins res outs new = true) (h : ∀ c : Ctx, c.P = Try.prog → c.fn = namesL args ++ ownNames ins → vcC c c6 ⟨initE 0 args, ins, namesL args ++ ownNames ins⟩ (RetK c rs6 res outs)) : Ctr Try.prog 6 args ins res outs new :=
  ctr_own Try.func6 ok6 rfl cc6 cr6 Try.ntmps6 hlen hf h

/-- bordereau/bordereaulaw01.NumFair -/
def c7 : C :=
  (.seq (.reg [⟨(some 4), none, .mov (.k (.d (.bool false)))⟩])
  (.seq (.seq (.reg [⟨(some 14), none, .mov (.t 1)⟩,
    ⟨(some 15), none, .len (.t 14)⟩,
    ⟨(some 16), none, .bin .gtr (.t 15) (.k (.d (.int .i64 2100)))⟩])
  (.cond (.t 16) (.seq (.reg [⟨(some 17), none, .call 14 []⟩,
      ⟨(some 4), none, .mov (.t 17)⟩])
    .ret)
  .skip))
  (.seq (.reg [⟨(some 19), none, .mov (.t 0)⟩,
    ⟨(some 20), none, .mov (.t 1)⟩,
    ⟨(some 21), none, .call 19 [(.t 19), (.t 20)]⟩,
    ⟨(some 18), none, .mov (.t 21)⟩,
    ⟨(some 22), none, .ext 0 (.t 18)⟩,
    ⟨(some 23), none, .ext 1 (.t 18)⟩,
    ⟨(some 5), none, .mov (.t 22)⟩,
    ⟨(some 6), none, .mov (.t 23)⟩])
  (.seq (.reg [⟨(some 25), none, .mov (.t 1)⟩,
    ⟨(some 26), none, .call 22 [(.t 25)]⟩,
    ⟨(some 24), none, .mov (.t 26)⟩,
    ⟨(some 27), none, .ext 0 (.t 24)⟩,
    ⟨(some 28), none, .ext 1 (.t 24)⟩,
    ⟨(some 7), none, .mov (.t 27)⟩,
    ⟨(some 8), none, .mov (.t 28)⟩])
  (.seq (.seq (.reg [⟨(some 29), none, .mov (.t 6)⟩,
    ⟨(some 30), none, .bin .neq (.t 29) (.k (.d (.int .i64 0)))⟩])
  (.cond (.t 30) (.seq (.reg [⟨(some 31), none, .call 14 []⟩,
      ⟨(some 4), none, .mov (.t 31)⟩])
    .ret)
  .skip))
  (.seq (.seq (.reg [⟨(some 32), none, .mov (.t 8)⟩,
    ⟨(some 33), none, .inv .not (.t 32)⟩,
    ⟨(some 34), none, .mov (.t 33)⟩,
    ⟨(some 35), (some (34, false)), .mov (.t 5)⟩,
    ⟨(some 36), (some (34, false)), .len (.t 35)⟩,
    ⟨(some 37), (some (34, false)), .mov (.t 1)⟩,
    ⟨(some 38), (some (34, false)), .len (.t 37)⟩,
    ⟨(some 39), (some (34, false)), .bin .neq (.t 36) (.t 38)⟩,
    ⟨(some 40), none, .pick (.t 34) (.k (.d (.bool true))) (.t 39)⟩])
  (.cond (.t 40) (.seq (.reg [⟨(some 4), none, .mov (.k (.d (.bool false)))⟩])
    .ret)
  .skip))
  (.seq (.seq (.reg [⟨(some 41), none, .mov (.t 5)⟩,
    ⟨(some 42), none, .len (.t 41)⟩,
    ⟨(some 43), none, .mov (.k (.d (.int .i64 0)))⟩])
  (.block 0 (.loop (.seq (.reg [⟨(some 44), none, .bin .lss (.t 43) (.t 42)⟩])
      (.seq (.cond (.t 44) .skip
      (.exit 0))
      (.seq (.block 1 (.seq (.reg [⟨(some 45), none, .mov (.t 43)⟩,
          ⟨(some 46), none, .iadr 1 (.t 41) (.t 43)⟩,
          ⟨(some 47), none, .load 1 false (.t 46)⟩,
          ⟨(some 9), none, .mov (.t 45)⟩,
          ⟨(some 10), none, .mov (.t 47)⟩])
        (.seq (.reg [⟨(some 49), none, .mov (.t 0)⟩,
          ⟨(some 50), none, .mov (.t 1)⟩,
          ⟨(some 51), none, .mov (.t 9)⟩,
          ⟨(some 52), none, .iadr 1 (.t 50) (.t 51)⟩,
          ⟨(some 53), none, .load 1 false (.t 52)⟩,
          ⟨(some 54), none, .mov (.t 7)⟩,
          ⟨(some 55), none, .call 23 [(.t 49), (.t 53), (.t 54)]⟩,
          ⟨(some 48), none, .mov (.t 55)⟩,
          ⟨(some 56), none, .ext 0 (.t 48)⟩,
          ⟨(some 57), none, .ext 1 (.t 48)⟩,
          ⟨(some 58), none, .ext 2 (.t 48)⟩,
          ⟨(some 11), none, .mov (.t 56)⟩,
          ⟨(some 12), none, .mov (.t 57)⟩,
          ⟨(some 13), none, .mov (.t 58)⟩])
        (.seq (.reg [⟨(some 59), none, .mov (.t 10)⟩,
          ⟨(some 60), none, .mov (.t 11)⟩,
          ⟨(some 61), none, .bin .lss (.t 59) (.t 60)⟩,
          ⟨(some 62), none, .mov (.t 61)⟩,
          ⟨(some 63), (some (62, false)), .mov (.t 10)⟩,
          ⟨(some 64), (some (62, false)), .mov (.t 11)⟩,
          ⟨(some 65), (some (62, false)), .bin .add (.t 64) (.k (.d (.int .i64 1)))⟩,
          ⟨(some 66), (some (62, false)), .bin .gtr (.t 63) (.t 65)⟩,
          ⟨(some 67), none, .pick (.t 62) (.k (.d (.bool true))) (.t 66)⟩,
          ⟨(some 68), none, .mov (.t 67)⟩,
          ⟨(some 69), (some (68, false)), .mov (.t 12)⟩,
          ⟨(some 70), (some (68, false)), .bin .eql (.t 69) (.k (.d (.int .i64 0)))⟩,
          ⟨(some 71), (some (68, false)), .mov (.t 70)⟩,
          ⟨(some 72), (some (71, true)), .mov (.t 1)⟩,
          ⟨(some 73), (some (71, true)), .len (.t 72)⟩,
          ⟨(some 74), (some (71, true)), .bin .eql (.t 73) (.k (.d (.int .i64 1)))⟩,
          ⟨(some 75), (some (68, false)), .pick (.t 71) (.t 74) (.k (.d (.bool false)))⟩,
          ⟨(some 76), (some (68, false)), .mov (.t 75)⟩,
          ⟨(some 77), (some (76, true)), .mov (.t 10)⟩,
          ⟨(some 78), (some (76, true)), .mov (.t 11)⟩,
          ⟨(some 79), (some (76, true)), .bin .neq (.t 77) (.t 78)⟩,
          ⟨(some 80), (some (68, false)), .pick (.t 76) (.t 79) (.k (.d (.bool false)))⟩,
          ⟨(some 81), none, .pick (.t 68) (.k (.d (.bool true))) (.t 80)⟩])
        (.cond (.t 81) (.seq (.reg [⟨(some 4), none, .mov (.k (.d (.bool false)))⟩])
          .ret)
        .skip)))))
      (.reg [⟨(some 82), none, .bin .add (.t 43) (.k (.d (.int .i64 1)))⟩,
        ⟨(some 43), none, .mov (.t 82)⟩])))))))
  (.seq (.reg [⟨(some 83), none, .call 14 []⟩,
    ⟨(some 4), none, .mov (.t 83)⟩])
  .ret))))))))
def rs7 : List RV := [.tmp 4]
theorem ok7 : okF Try.prog 7 = true := by kernel_rfl
theorem cc7 : cCode Try.prog Try.f7.ntmps (Try.f7.body.getD .skip) = some c7 := by kernel_rfl
theorem cr7 : cRess Try.prog Try.f7.results.toList = some rs7 := by kernel_rfl
theorem pure7 {args : List V} {res : V} (hlen : args.length ≤ 84) (hna : namesL args = []) (hnr : res.names = []) (h : ∀ c : Ctx, c.P = Try.prog → c.fn = [] → vcC c c7 ⟨initE 0 args, [], []⟩ (RetK c rs7 res [])) : Ctr Try.prog 7 args [] res [] [] :=
  ctr_pure Try.func7 ok7 rfl cc7 cr7 Try.ntmps7 hlen hna hnr h
theorem own7 {args : List V} {ins outs : List (Nat × Own)} {res : V} {new : List Nat} (hlen : args.length ≤ 84) (hf : ctrB args ins res outs new = true) (h : ∀ c : Ctx, c.P = Try.prog → c.fn = namesL args ++ ownNames ins → vcC c c7 ⟨initE 0 args, ins, namesL args ++ ownNames ins⟩ (RetK c rs7 res outs)) : Ctr Try.prog 7 args ins res outs new :=
  ctr_own Try.func7 ok7 rfl cc7 cr7 Try.ntmps7 hlen hf h

/-- bordereau/bordereaulaw01.NumNear -/
def c8 : C :=
  (.seq (.reg [⟨(some 6), none, .mov (.k (.d (.bool false)))⟩])
  (.seq (.reg [⟨(some 16), none, .mov (.t 0)⟩,
    ⟨(some 17), none, .mov (.t 1)⟩,
    ⟨(some 18), none, .mov (.t 2)⟩,
    ⟨(some 19), none, .call 12 [(.t 16), (.t 17), (.t 18)]⟩,
    ⟨(some 15), none, .mov (.t 19)⟩,
    ⟨(some 20), none, .ext 0 (.t 15)⟩,
    ⟨(some 21), none, .ext 1 (.t 15)⟩,
    ⟨(some 7), none, .mov (.t 20)⟩,
    ⟨(some 8), none, .mov (.t 21)⟩])
  (.seq (.reg [⟨(some 23), none, .mov (.t 0)⟩,
    ⟨(some 24), none, .mov (.t 1)⟩,
    ⟨(some 25), none, .mov (.t 2)⟩,
    ⟨(some 26), none, .call 15 [(.t 23), (.t 24), (.t 25)]⟩,
    ⟨(some 22), none, .mov (.t 26)⟩,
    ⟨(some 27), none, .ext 0 (.t 22)⟩,
    ⟨(some 28), none, .ext 1 (.t 22)⟩,
    ⟨(some 9), none, .mov (.t 27)⟩,
    ⟨(some 10), none, .mov (.t 28)⟩])
  (.seq (.seq (.reg [⟨(some 29), none, .mov (.t 8)⟩,
    ⟨(some 30), none, .bin .neq (.t 29) (.k (.d (.int .i64 0)))⟩,
    ⟨(some 31), none, .mov (.t 30)⟩,
    ⟨(some 32), (some (31, false)), .mov (.t 10)⟩,
    ⟨(some 33), (some (31, false)), .bin .neq (.t 32) (.k (.d (.int .i64 0)))⟩,
    ⟨(some 34), none, .pick (.t 31) (.k (.d (.bool true))) (.t 33)⟩])
  (.cond (.t 34) (.seq (.reg [⟨(some 35), none, .call 14 []⟩,
      ⟨(some 36), none, .mov (.t 35)⟩,
      ⟨(some 37), (some (36, true)), .mov (.t 8)⟩,
      ⟨(some 38), (some (36, true)), .mov (.t 10)⟩,
      ⟨(some 39), (some (36, true)), .bin .eql (.t 37) (.t 38)⟩,
      ⟨(some 40), (some (36, true)), .mov (.t 39)⟩,
      ⟨(some 41), (some (40, false)), .mov (.t 8)⟩,
      ⟨(some 42), (some (40, false)), .bin .eql (.t 41) (.k (.d (.int .i64 0)))⟩,
      ⟨(some 43), (some (40, false)), .mov (.t 42)⟩,
      ⟨(some 44), (some (43, true)), .mov (.t 10)⟩,
      ⟨(some 45), (some (43, true)), .bin .eql (.t 44) (.k (.d (.int .i64 5)))⟩,
      ⟨(some 46), (some (40, false)), .pick (.t 43) (.t 45) (.k (.d (.bool false)))⟩,
      ⟨(some 47), (some (40, false)), .mov (.t 46)⟩,
      ⟨(some 48), (some (47, true)), .mov (.t 7)⟩,
      ⟨(some 49), (some (47, true)), .bin .eql (.t 48) (.k (.d (.int .i64 4000000000000000000)))⟩,
      ⟨(some 50), (some (40, false)), .pick (.t 47) (.t 49) (.k (.d (.bool false)))⟩,
      ⟨(some 51), (some (36, true)), .pick (.t 40) (.k (.d (.bool true))) (.t 50)⟩,
      ⟨(some 52), none, .pick (.t 36) (.t 51) (.k (.d (.bool false)))⟩,
      ⟨(some 6), none, .mov (.t 52)⟩])
    .ret)
  .skip))
  (.seq (.reg [⟨(some 54), none, .mov (.t 0)⟩,
    ⟨(some 55), none, .mov (.t 1)⟩,
    ⟨(some 56), none, .mov (.t 2)⟩,
    ⟨(some 57), none, .call 23 [(.t 54), (.t 55), (.t 56)]⟩,
    ⟨(some 53), none, .mov (.t 57)⟩,
    ⟨(some 58), none, .ext 0 (.t 53)⟩,
    ⟨(some 59), none, .ext 1 (.t 53)⟩,
    ⟨(some 60), none, .ext 2 (.t 53)⟩,
    ⟨(some 11), none, .mov (.t 58)⟩,
    ⟨(some 12), none, .mov (.t 59)⟩,
    ⟨(some 13), none, .mov (.t 60)⟩])
  (.seq (.reg [⟨(some 61), none, .mov (.t 12)⟩,
    ⟨(some 62), none, .mov (.t 2)⟩,
    ⟨(some 63), none, .mov (.t 12)⟩,
    ⟨(some 64), none, .bin .sub (.t 62) (.t 63)⟩,
    ⟨(some 65), none, .bin .lss (.t 61) (.t 64)⟩,
    ⟨(some 66), none, .mov (.t 65)⟩,
    ⟨(some 67), (some (66, false)), .mov (.t 12)⟩,
    ⟨(some 68), (some (66, false)), .mov (.t 2)⟩,
    ⟨(some 69), (some (66, false)), .mov (.t 12)⟩,
    ⟨(some 70), (some (66, false)), .bin .sub (.t 68) (.t 69)⟩,
    ⟨(some 71), (some (66, false)), .bin .eql (.t 67) (.t 70)⟩,
    ⟨(some 72), (some (66, false)), .mov (.t 71)⟩,
    ⟨(some 73), (some (72, true)), .mov (.t 7)⟩,
    ⟨(some 74), (some (72, true)), .bin .rem (.t 73) (.k (.d (.int .i64 2)))⟩,
    ⟨(some 75), (some (72, true)), .bin .eql (.t 74) (.k (.d (.int .i64 0)))⟩,
    ⟨(some 76), (some (66, false)), .pick (.t 72) (.t 75) (.k (.d (.bool false)))⟩,
    ⟨(some 77), none, .pick (.t 66) (.k (.d (.bool true))) (.t 76)⟩,
    ⟨(some 14), none, .mov (.t 77)⟩])
  (.seq (.reg [⟨(some 78), none, .call 14 []⟩,
    ⟨(some 79), none, .mov (.t 78)⟩,
    ⟨(some 80), (some (79, true)), .mov (.t 13)⟩,
    ⟨(some 81), none, .pick (.t 79) (.t 80) (.k (.d (.bool false)))⟩,
    ⟨(some 82), none, .mov (.t 81)⟩,
    ⟨(some 83), (some (82, true)), .mov (.t 9)⟩,
    ⟨(some 84), (some (82, true)), .mov (.t 7)⟩,
    ⟨(some 85), (some (82, true)), .bin .eql (.t 83) (.t 84)⟩,
    ⟨(some 86), (some (82, true)), .mov (.t 14)⟩,
    ⟨(some 87), (some (82, true)), .beq false (.t 85) (.t 86)⟩,
    ⟨(some 88), none, .pick (.t 82) (.t 87) (.k (.d (.bool false)))⟩,
    ⟨(some 89), none, .mov (.t 88)⟩,
    ⟨(some 90), (some (89, true)), .mov (.t 9)⟩,
    ⟨(some 91), (some (89, true)), .mov (.t 7)⟩,
    ⟨(some 92), (some (89, true)), .bin .eql (.t 90) (.t 91)⟩,
    ⟨(some 93), (some (89, true)), .mov (.t 92)⟩,
    ⟨(some 94), (some (93, false)), .mov (.t 9)⟩,
    ⟨(some 95), (some (93, false)), .mov (.t 7)⟩,
    ⟨(some 96), (some (93, false)), .bin .add (.t 95) (.k (.d (.int .i64 1)))⟩,
    ⟨(some 97), (some (93, false)), .bin .eql (.t 94) (.t 96)⟩,
    ⟨(some 98), (some (89, true)), .pick (.t 93) (.k (.d (.bool true))) (.t 97)⟩,
    ⟨(some 99), none, .pick (.t 89) (.t 98) (.k (.d (.bool false)))⟩,
    ⟨(some 6), none, .mov (.t 99)⟩])
  .ret)))))))
def rs8 : List RV := [.tmp 6]
theorem ok8 : okF Try.prog 8 = true := by kernel_rfl
theorem cc8 : cCode Try.prog Try.f8.ntmps (Try.f8.body.getD .skip) = some c8 := by kernel_rfl
theorem cr8 : cRess Try.prog Try.f8.results.toList = some rs8 := by kernel_rfl
theorem pure8 {args : List V} {res : V} (hlen : args.length ≤ 100) (hna : namesL args = []) (hnr : res.names = []) (h : ∀ c : Ctx, c.P = Try.prog → c.fn = [] → vcC c c8 ⟨initE 0 args, [], []⟩ (RetK c rs8 res [])) : Ctr Try.prog 8 args [] res [] [] :=
  ctr_pure Try.func8 ok8 rfl cc8 cr8 Try.ntmps8 hlen hna hnr h
theorem own8 {args : List V} {ins outs : List (Nat × Own)} {res : V} {new : List Nat} (hlen : args.length ≤ 100) (hf : ctrB args ins res outs new = true) (h : ∀ c : Ctx, c.P = Try.prog → c.fn = namesL args ++ ownNames ins → vcC c c8 ⟨initE 0 args, ins, namesL args ++ ownNames ins⟩ (RetK c rs8 res outs)) : Ctr Try.prog 8 args ins res outs new :=
  ctr_own Try.func8 ok8 rfl cc8 cr8 Try.ntmps8 hlen hf h

/-- bordereau/bordereaulaw01.NumOrder -/
def c9 : C :=
  (.seq (.reg [⟨(some 2), none, .box 37 (.t 0)⟩,
    ⟨(some 3), none, .box 38 (.t 1)⟩,
    ⟨(some 4), none, .mov (.k (.d (.bool false)))⟩])
  (.seq (.drw [0, 1, 0, 4, 0, 16, 3, 79, 255]
   [⟨(some 16), none, .aadr 1 3 (.t 2) (.k (.d (.int .i64 0)))⟩,
    ⟨(some 17), none, .load 1 false (.t 16)⟩,
    ⟨(some 18), none, .aadr 1 3 (.t 2) (.k (.d (.int .i64 1)))⟩,
    ⟨(some 19), none, .load 1 false (.t 18)⟩,
    ⟨(some 20), none, .aadr 1 3 (.t 2) (.k (.d (.int .i64 2)))⟩,
    ⟨(some 21), none, .load 1 false (.t 20)⟩,
    ⟨(some 5), none, .mov (.t 17)⟩,
    ⟨(some 6), none, .mov (.t 19)⟩,
    ⟨(some 7), none, .mov (.t 21)⟩])
  (.seq (.reg [⟨(some 23), none, .mov (.t 5)⟩,
    ⟨(some 24), none, .mov (.t 6)⟩,
    ⟨(some 25), none, .mov (.t 7)⟩,
    ⟨(some 26), none, .call 12 [(.t 23), (.t 24), (.t 25)]⟩,
    ⟨(some 22), none, .mov (.t 26)⟩,
    ⟨(some 27), none, .ext 0 (.t 22)⟩,
    ⟨(some 28), none, .ext 1 (.t 22)⟩,
    ⟨(some 8), none, .mov (.t 27)⟩,
    ⟨(some 9), none, .mov (.t 28)⟩])
  (.seq (.reg [⟨(some 30), none, .mov (.t 6)⟩,
    ⟨(some 31), none, .mov (.t 5)⟩,
    ⟨(some 32), none, .mov (.t 7)⟩,
    ⟨(some 33), none, .call 12 [(.t 30), (.t 31), (.t 32)]⟩,
    ⟨(some 29), none, .mov (.t 33)⟩,
    ⟨(some 34), none, .ext 0 (.t 29)⟩,
    ⟨(some 35), none, .ext 1 (.t 29)⟩,
    ⟨(some 10), none, .mov (.t 34)⟩,
    ⟨(some 11), none, .mov (.t 35)⟩])
  (.seq (.seq (.reg [⟨(some 36), none, .mov (.t 8)⟩,
    ⟨(some 37), none, .mov (.t 10)⟩,
    ⟨(some 38), none, .bin .neq (.t 36) (.t 37)⟩,
    ⟨(some 39), none, .mov (.t 38)⟩,
    ⟨(some 40), (some (39, false)), .mov (.t 9)⟩,
    ⟨(some 41), (some (39, false)), .mov (.t 11)⟩,
    ⟨(some 42), (some (39, false)), .bin .neq (.t 40) (.t 41)⟩,
    ⟨(some 43), none, .pick (.t 39) (.k (.d (.bool true))) (.t 42)⟩])
  (.cond (.t 43) (.seq (.reg [⟨(some 4), none, .mov (.k (.d (.bool false)))⟩])
    .ret)
  .skip))
  (.seq (.reg [⟨(some 45), none, .mov (.t 5)⟩,
    ⟨(some 46), none, .mov (.t 6)⟩,
    ⟨(some 47), none, .aadr 1 2 (.t 3) (.k (.d (.int .i64 0)))⟩,
    ⟨(some 48), none, .load 1 false (.t 47)⟩,
    ⟨(some 49), none, .mm true (.t 46) (.t 48)⟩,
    ⟨(some 50), none, .mov (.t 7)⟩,
    ⟨(some 51), none, .call 12 [(.t 45), (.t 49), (.t 50)]⟩,
    ⟨(some 44), none, .mov (.t 51)⟩,
    ⟨(some 52), none, .ext 0 (.t 44)⟩,
    ⟨(some 53), none, .ext 1 (.t 44)⟩,
    ⟨(some 12), none, .mov (.t 52)⟩,
    ⟨(some 13), none, .mov (.t 53)⟩])
  (.seq (.reg [⟨(some 55), none, .mov (.t 5)⟩,
    ⟨(some 56), none, .mov (.t 6)⟩,
    ⟨(some 57), none, .mov (.t 7)⟩,
    ⟨(some 58), none, .aadr 1 2 (.t 3) (.k (.d (.int .i64 1)))⟩,
    ⟨(some 59), none, .load 1 false (.t 58)⟩,
    ⟨(some 60), none, .mm true (.t 57) (.t 59)⟩,
    ⟨(some 61), none, .call 12 [(.t 55), (.t 56), (.t 60)]⟩,
    ⟨(some 54), none, .mov (.t 61)⟩,
    ⟨(some 62), none, .ext 0 (.t 54)⟩,
    ⟨(some 63), none, .ext 1 (.t 54)⟩,
    ⟨(some 14), none, .mov (.t 62)⟩,
    ⟨(some 15), none, .mov (.t 63)⟩])
  (.seq (.seq (.reg [⟨(some 64), none, .mov (.t 9)⟩,
    ⟨(some 65), none, .bin .eql (.t 64) (.k (.d (.int .i64 0)))⟩,
    ⟨(some 66), none, .mov (.t 65)⟩,
    ⟨(some 67), (some (66, true)), .mov (.t 13)⟩,
    ⟨(some 68), (some (66, true)), .bin .eql (.t 67) (.k (.d (.int .i64 0)))⟩,
    ⟨(some 69), none, .pick (.t 66) (.t 68) (.k (.d (.bool false)))⟩,
    ⟨(some 70), none, .mov (.t 69)⟩,
    ⟨(some 71), (some (70, true)), .mov (.t 12)⟩,
    ⟨(some 72), (some (70, true)), .mov (.t 8)⟩,
    ⟨(some 73), (some (70, true)), .bin .lss (.t 71) (.t 72)⟩,
    ⟨(some 74), none, .pick (.t 70) (.t 73) (.k (.d (.bool false)))⟩,
    ⟨(some 75), none, .mov (.t 74)⟩,
    ⟨(some 76), (some (75, false)), .mov (.t 9)⟩,
    ⟨(some 77), (some (75, false)), .bin .eql (.t 76) (.k (.d (.int .i64 0)))⟩,
    ⟨(some 78), (some (75, false)), .mov (.t 77)⟩,
    ⟨(some 79), (some (78, true)), .mov (.t 15)⟩,
    ⟨(some 80), (some (78, true)), .bin .eql (.t 79) (.k (.d (.int .i64 0)))⟩,
    ⟨(some 81), (some (75, false)), .pick (.t 78) (.t 80) (.k (.d (.bool false)))⟩,
    ⟨(some 82), (some (75, false)), .mov (.t 81)⟩,
    ⟨(some 83), (some (82, true)), .mov (.t 14)⟩,
    ⟨(some 84), (some (82, true)), .mov (.t 8)⟩,
    ⟨(some 85), (some (82, true)), .bin .gtr (.t 83) (.t 84)⟩,
    ⟨(some 86), (some (75, false)), .pick (.t 82) (.t 85) (.k (.d (.bool false)))⟩,
    ⟨(some 87), none, .pick (.t 75) (.k (.d (.bool true))) (.t 86)⟩])
  (.cond (.t 87) (.seq (.reg [⟨(some 4), none, .mov (.k (.d (.bool false)))⟩])
    .ret)
  .skip))
  (.seq (.reg [⟨(some 88), none, .call 14 []⟩,
    ⟨(some 89), none, .mov (.t 88)⟩,
    ⟨(some 90), (some (89, true)), .mov (.t 9)⟩,
    ⟨(some 91), (some (89, true)), .bin .neq (.t 90) (.k (.d (.int .i64 0)))⟩,
    ⟨(some 92), (some (89, true)), .mov (.t 91)⟩,
    ⟨(some 93), (some (92, false)), .mov (.t 15)⟩,
    ⟨(some 94), (some (92, false)), .bin .eql (.t 93) (.k (.d (.int .i64 0)))⟩,
    ⟨(some 95), (some (89, true)), .pick (.t 92) (.k (.d (.bool true))) (.t 94)⟩,
    ⟨(some 96), none, .pick (.t 89) (.t 95) (.k (.d (.bool false)))⟩,
    ⟨(some 4), none, .mov (.t 96)⟩])
  .ret)))))))))
def rs9 : List RV := [.tmp 4]
theorem ok9 : okF Try.prog 9 = true := by kernel_rfl
theorem cc9 : cCode Try.prog Try.f9.ntmps (Try.f9.body.getD .skip) = some c9 := by kernel_rfl
theorem cr9 : cRess Try.prog Try.f9.results.toList = some rs9 := by kernel_rfl
theorem pure9 {args : List V} {res : V} (hlen : args.length ≤ 97) (hna : namesL args = []) (hnr : res.names = []) (h : ∀ c : Ctx, c.P = Try.prog → c.fn = [] → vcC c c9 ⟨initE 0 args, [], []⟩ (RetK c rs9 res [])) : Ctr Try.prog 9 args [] res [] [] :=
  ctr_pure Try.func9 ok9 rfl cc9 cr9 Try.ntmps9 hlen hna hnr h
theorem own9 {args : List V} {ins outs : List (Nat × Own)} {res : V} {new : List Nat} (hlen : args.length ≤ 97) (hf : ctrB args ins res outs new = true) (h : ∀ c : Ctx, c.P = Try.prog → c.fn = namesL args ++ ownNames ins → vcC c c9 ⟨initE 0 args, ins, namesL args ++ ownNames ins⟩ (RetK c rs9 res outs)) : Ctr Try.prog 9 args ins res outs new :=
  ctr_own Try.func9 ok9 rfl cc9 cr9 Try.ntmps9 hlen hf h

/-- bordereau/bordereaulaw01.NumTwice -/
def c10 : C :=
  (.seq (.reg [⟨(some 6), none, .mov (.k (.d (.bool false)))⟩])
  (.seq (.seq (.reg [⟨(some 16), none, .mov (.t 1)⟩,
    ⟨(some 17), none, .len (.t 16)⟩,
    ⟨(some 18), none, .bin .gtr (.t 17) (.k (.d (.int .i64 300)))⟩,
    ⟨(some 19), none, .mov (.t 18)⟩,
    ⟨(some 20), (some (19, false)), .mov (.t 2)⟩,
    ⟨(some 21), (some (19, false)), .bin .lss (.t 20) (.k (.d (.int .i64 1)))⟩,
    ⟨(some 22), none, .pick (.t 19) (.k (.d (.bool true))) (.t 21)⟩,
    ⟨(some 23), none, .mov (.t 22)⟩,
    ⟨(some 24), (some (23, false)), .mov (.t 2)⟩,
    ⟨(some 25), (some (23, false)), .bin .gtr (.t 24) (.k (.d (.int .i64 1000)))⟩,
    ⟨(some 26), none, .pick (.t 23) (.k (.d (.bool true))) (.t 25)⟩])
  (.cond (.t 26) (.seq (.reg [⟨(some 27), none, .call 14 []⟩,
      ⟨(some 6), none, .mov (.t 27)⟩])
    .ret)
  .skip))
  (.seq (.reg [⟨(some 7), none, .mov (.k (.d (.sl true 0 0 fun _ => [])))⟩])
  (.seq (.seq (.reg [⟨(some 28), none, .mov (.t 1)⟩,
    ⟨(some 29), none, .len (.t 28)⟩,
    ⟨(some 30), none, .mov (.k (.d (.int .i64 0)))⟩])
  (.block 0 (.loop (.seq (.reg [⟨(some 31), none, .bin .lss (.t 30) (.t 29)⟩])
      (.seq (.cond (.t 31) .skip
      (.exit 0))
      (.seq (.block 1 (.seq (.reg [⟨(some 32), none, .iadr 1 (.t 28) (.t 30)⟩,
          ⟨(some 33), none, .load 1 false (.t 32)⟩,
          ⟨(some 9), none, .mov (.t 33)⟩])
        (.seq (.seq (.reg [⟨(some 34), none, .mov (.t 9)⟩,
          ⟨(some 35), none, .bin .lss (.t 34) (.k (.d (.int .i64 0)))⟩,
          ⟨(some 36), none, .mov (.t 35)⟩,
          ⟨(some 37), (some (36, false)), .mov (.t 9)⟩,
          ⟨(some 38), (some (36, false)), .bin .gtr (.t 37) (.k (.d (.int .i64 1099511627776)))⟩,
          ⟨(some 39), none, .pick (.t 36) (.k (.d (.bool true))) (.t 38)⟩])
        (.cond (.t 39) (.seq (.reg [⟨(some 40), none, .call 14 []⟩,
            ⟨(some 6), none, .mov (.t 40)⟩])
          .ret)
        .skip))
        (.reg [⟨(some 41), none, .mov (.t 7)⟩,
          ⟨(some 42), none, .mov (.t 2)⟩,
          ⟨(some 43), none, .mov (.t 9)⟩,
          ⟨(some 44), none, .bin .mul (.t 42) (.t 43)⟩,
          ⟨(some 45), none, .bslice 3 1 1 [(.t 44)]⟩,
          ⟨(some 46), none, .app 3 1 8 (.t 41) (.t 45)⟩,
          ⟨(some 7), none, .mov (.t 46)⟩]))))
      (.reg [⟨(some 47), none, .bin .add (.t 30) (.k (.d (.int .i64 1)))⟩,
        ⟨(some 30), none, .mov (.t 47)⟩])))))))
  (.seq (.reg [⟨(some 49), none, .mov (.t 0)⟩,
    ⟨(some 50), none, .mov (.t 1)⟩,
    ⟨(some 51), none, .call 19 [(.t 49), (.t 50)]⟩,
    ⟨(some 48), none, .mov (.t 51)⟩,
    ⟨(some 52), none, .ext 0 (.t 48)⟩,
    ⟨(some 53), none, .ext 1 (.t 48)⟩,
    ⟨(some 10), none, .mov (.t 52)⟩,
    ⟨(some 11), none, .mov (.t 53)⟩])
  (.seq (.reg [⟨(some 55), none, .mov (.t 0)⟩,
    ⟨(some 56), none, .mov (.t 7)⟩,
    ⟨(some 57), none, .call 19 [(.t 55), (.t 56)]⟩,
    ⟨(some 54), none, .mov (.t 57)⟩,
    ⟨(some 58), none, .ext 0 (.t 54)⟩,
    ⟨(some 59), none, .ext 1 (.t 54)⟩,
    ⟨(some 12), none, .mov (.t 58)⟩,
    ⟨(some 13), none, .mov (.t 59)⟩])
  (.seq (.reg [⟨(some 61), none, .mov (.t 0)⟩,
    ⟨(some 62), none, .mov (.t 2)⟩,
    ⟨(some 63), none, .bslice 3 1 1 [(.t 62)]⟩,
    ⟨(some 64), none, .call 19 [(.t 61), (.t 63)]⟩,
    ⟨(some 60), none, .mov (.t 64)⟩,
    ⟨(some 65), none, .ext 0 (.t 60)⟩,
    ⟨(some 66), none, .ext 1 (.t 60)⟩,
    ⟨(some 14), none, .mov (.t 65)⟩,
    ⟨(some 15), none, .mov (.t 66)⟩])
  (.seq (.reg [⟨(some 67), none, .call 14 []⟩,
    ⟨(some 68), none, .mov (.t 67)⟩,
    ⟨(some 69), (some (68, true)), .mov (.t 10)⟩,
    ⟨(some 70), (some (68, true)), .mov (.t 12)⟩,
    ⟨(some 71), (some (68, true)), .call 21 [(.t 69), (.t 70)]⟩,
    ⟨(some 72), none, .pick (.t 68) (.t 71) (.k (.d (.bool false)))⟩,
    ⟨(some 73), none, .mov (.t 72)⟩,
    ⟨(some 74), (some (73, true)), .mov (.t 11)⟩,
    ⟨(some 75), (some (73, true)), .mov (.t 13)⟩,
    ⟨(some 76), (some (73, true)), .bin .eql (.t 74) (.t 75)⟩,
    ⟨(some 77), none, .pick (.t 73) (.t 76) (.k (.d (.bool false)))⟩,
    ⟨(some 78), none, .mov (.t 77)⟩,
    ⟨(some 79), (some (78, true)), .mov (.t 15)⟩,
    ⟨(some 80), (some (78, true)), .bin .eql (.t 79) (.k (.d (.int .i64 0)))⟩,
    ⟨(some 81), (some (78, true)), .mov (.t 0)⟩,
    ⟨(some 82), (some (78, true)), .bin .geq (.t 81) (.k (.d (.int .i64 0)))⟩,
    ⟨(some 83), (some (78, true)), .mov (.t 82)⟩,
    ⟨(some 84), (some (83, true)), .mov (.t 0)⟩,
    ⟨(some 85), (some (83, true)), .bin .leq (.t 84) (.k (.d (.int .i64 4000000000000000000)))⟩,
    ⟨(some 86), (some (78, true)), .pick (.t 83) (.t 85) (.k (.d (.bool false)))⟩,
    ⟨(some 87), (some (78, true)), .beq false (.t 80) (.t 86)⟩,
    ⟨(some 88), none, .pick (.t 78) (.t 87) (.k (.d (.bool false)))⟩,
    ⟨(some 89), none, .mov (.t 88)⟩,
    ⟨(some 90), (some (89, true)), .mov (.t 15)⟩,
    ⟨(some 91), (some (89, true)), .bin .neq (.t 90) (.k (.d (.int .i64 0)))⟩,
    ⟨(some 92), (some (89, true)), .mov (.t 91)⟩,
    ⟨(some 93), (some (92, false)), .mov (.t 14)⟩,
    ⟨(some 94), (some (92, false)), .mov (.t 0)⟩,
    ⟨(some 95), (some (92, false)), .bslice 3 1 1 [(.t 94)]⟩,
    ⟨(some 96), (some (92, false)), .call 21 [(.t 93), (.t 95)]⟩,
    ⟨(some 97), (some (89, true)), .pick (.t 92) (.k (.d (.bool true))) (.t 96)⟩,
    ⟨(some 98), none, .pick (.t 89) (.t 97) (.k (.d (.bool false)))⟩,
    ⟨(some 6), none, .mov (.t 98)⟩])
  .ret))))))))
def rs10 : List RV := [.tmp 6]
theorem ok10 : okF Try.prog 10 = true := by kernel_rfl
theorem cc10 : cCode Try.prog Try.f10.ntmps (Try.f10.body.getD .skip) = some c10 := by kernel_rfl
theorem cr10 : cRess Try.prog Try.f10.results.toList = some rs10 := by kernel_rfl
theorem pure10 {args : List V} {res : V} (hlen : args.length ≤ 99) (hna : namesL args = []) (hnr : res.names = []) (h : ∀ c : Ctx, c.P = Try.prog → c.fn = [] → vcC c c10 ⟨initE 0 args, [], []⟩ (RetK c rs10 res [])) : Ctr Try.prog 10 args [] res [] [] :=
  ctr_pure Try.func10 ok10 rfl cc10 cr10 Try.ntmps10 hlen hna hnr h
theorem own10 {args : List V} {ins outs : List (Nat × Own)} {res : V} {new : List Nat} (hlen : args.length ≤ 99) (hf : ctrB args ins res outs new = true) (h : ∀ c : Ctx, c.P = Try.prog → c.fn = namesL args ++ ownNames ins → vcC c c10 ⟨initE 0 args, ins, namesL args ++ ownNames ins⟩ (RetK c rs10 res outs)) : Ctr Try.prog 10 args ins res outs new :=
  ctr_own Try.func10 ok10 rfl cc10 cr10 Try.ntmps10 hlen hf h

/-- bordereau/bordereaulaw01.NumEnds -/
def c11 : C :=
  (.seq (.reg [⟨(some 6), none, .mov (.k (.d (.bool false)))⟩])
  (.seq (.seq (.reg [⟨(some 18), none, .mov (.t 1)⟩,
    ⟨(some 19), none, .len (.t 18)⟩,
    ⟨(some 20), none, .bin .gtr (.t 19) (.k (.d (.int .i64 300)))⟩,
    ⟨(some 21), none, .mov (.t 20)⟩,
    ⟨(some 22), (some (21, false)), .mov (.t 2)⟩,
    ⟨(some 23), (some (21, false)), .bin .lss (.t 22) (.k (.d (.int .i64 1)))⟩,
    ⟨(some 24), none, .pick (.t 21) (.k (.d (.bool true))) (.t 23)⟩,
    ⟨(some 25), none, .mov (.t 24)⟩,
    ⟨(some 26), (some (25, false)), .mov (.t 2)⟩,
    ⟨(some 27), (some (25, false)), .mov (.t 1)⟩,
    ⟨(some 28), (some (25, false)), .len (.t 27)⟩,
    ⟨(some 29), (some (25, false)), .bin .geq (.t 26) (.t 28)⟩,
    ⟨(some 30), none, .pick (.t 25) (.k (.d (.bool true))) (.t 29)⟩])
  (.cond (.t 30) (.seq (.reg [⟨(some 31), none, .call 14 []⟩,
      ⟨(some 6), none, .mov (.t 31)⟩])
    .ret)
  .skip))
  (.seq (.reg [⟨(some 7), none, .mov (.k (.d (.int .i64 0)))⟩,
    ⟨(some 8), none, .mov (.k (.d (.bool true)))⟩])
  (.seq (.seq (.reg [⟨(some 32), none, .mov (.t 1)⟩,
    ⟨(some 33), none, .mov (.t 2)⟩,
    ⟨(some 34), none, .slc 1 (.t 32) none (some (.t 33)) none⟩,
    ⟨(some 35), none, .len (.t 34)⟩,
    ⟨(some 36), none, .mov (.k (.d (.int .i64 0)))⟩])
  (.block 0 (.loop (.seq (.reg [⟨(some 37), none, .bin .lss (.t 36) (.t 35)⟩])
      (.seq (.cond (.t 37) .skip
      (.exit 0))
      (.seq (.block 1 (.seq (.reg [⟨(some 38), none, .iadr 1 (.t 34) (.t 36)⟩,
          ⟨(some 39), none, .load 1 false (.t 38)⟩,
          ⟨(some 10), none, .mov (.t 39)⟩])
        (.seq (.seq (.reg [⟨(some 40), none, .mov (.t 10)⟩,
          ⟨(some 41), none, .bin .lss (.t 40) (.k (.d (.int .i64 0)))⟩,
          ⟨(some 42), none, .mov (.t 41)⟩,
          ⟨(some 43), (some (42, false)), .mov (.t 10)⟩,
          ⟨(some 44), (some (42, false)), .mov (.t 7)⟩,
          ⟨(some 45), (some (42, false)), .bin .sub (.k (.d (.int .i64 4000000000000000000))) (.t 44)⟩,
          ⟨(some 46), (some (42, false)), .bin .gtr (.t 43) (.t 45)⟩,
          ⟨(some 47), none, .pick (.t 42) (.k (.d (.bool true))) (.t 46)⟩])
        (.cond (.t 47) (.seq (.reg [⟨(some 8), none, .mov (.k (.d (.bool false)))⟩])
          (.exit 0))
        .skip))
        (.reg [⟨(some 48), none, .mov (.t 7)⟩,
          ⟨(some 49), none, .mov (.t 10)⟩,
          ⟨(some 50), none, .bin .add (.t 48) (.t 49)⟩,
          ⟨(some 7), none, .mov (.t 50)⟩]))))
      (.reg [⟨(some 51), none, .bin .add (.t 36) (.k (.d (.int .i64 1)))⟩,
        ⟨(some 36), none, .mov (.t 51)⟩])))))))
  (.seq (.reg [⟨(some 53), none, .mov (.t 0)⟩,
    ⟨(some 54), none, .mov (.t 1)⟩,
    ⟨(some 55), none, .call 19 [(.t 53), (.t 54)]⟩,
    ⟨(some 52), none, .mov (.t 55)⟩,
    ⟨(some 56), none, .ext 0 (.t 52)⟩,
    ⟨(some 57), none, .ext 1 (.t 52)⟩,
    ⟨(some 11), none, .mov (.t 56)⟩,
    ⟨(some 12), none, .mov (.t 57)⟩])
  (.seq (.seq (.reg [⟨(some 58), none, .mov (.t 8)⟩,
    ⟨(some 59), none, .inv .not (.t 58)⟩,
    ⟨(some 60), none, .mov (.t 59)⟩,
    ⟨(some 61), (some (60, false)), .mov (.t 12)⟩,
    ⟨(some 62), (some (60, false)), .bin .neq (.t 61) (.k (.d (.int .i64 0)))⟩,
    ⟨(some 63), none, .pick (.t 60) (.k (.d (.bool true))) (.t 62)⟩])
  (.cond (.t 63) (.seq (.reg [⟨(some 64), none, .call 14 []⟩,
      ⟨(some 65), none, .mov (.t 64)⟩,
      ⟨(some 66), (some (65, true)), .mov (.t 8)⟩,
      ⟨(some 67), (some (65, true)), .mov (.t 66)⟩,
      ⟨(some 68), (some (67, false)), .mov (.t 12)⟩,
      ⟨(some 69), (some (67, false)), .bin .neq (.t 68) (.k (.d (.int .i64 0)))⟩,
      ⟨(some 70), (some (65, true)), .pick (.t 67) (.k (.d (.bool true))) (.t 69)⟩,
      ⟨(some 71), none, .pick (.t 65) (.t 70) (.k (.d (.bool false)))⟩,
      ⟨(some 6), none, .mov (.t 71)⟩])
    .ret)
  .skip))
  (.seq (.reg [⟨(some 73), none, .mov (.t 0)⟩,
    ⟨(some 74), none, .mov (.t 7)⟩,
    ⟨(some 75), none, .bslice 3 1 1 [(.t 74)]⟩,
    ⟨(some 76), none, .mov (.t 1)⟩,
    ⟨(some 77), none, .mov (.t 2)⟩,
    ⟨(some 78), none, .slc 1 (.t 76) (some (.t 77)) none none⟩,
    ⟨(some 79), none, .app 3 1 8 (.t 75) (.t 78)⟩,
    ⟨(some 80), none, .call 19 [(.t 73), (.t 79)]⟩,
    ⟨(some 72), none, .mov (.t 80)⟩,
    ⟨(some 81), none, .ext 0 (.t 72)⟩,
    ⟨(some 82), none, .ext 1 (.t 72)⟩,
    ⟨(some 13), none, .mov (.t 81)⟩,
    ⟨(some 14), none, .mov (.t 82)⟩])
  (.seq (.seq (.reg [⟨(some 83), none, .mov (.t 14)⟩,
    ⟨(some 84), none, .bin .neq (.t 83) (.k (.d (.int .i64 0)))⟩,
    ⟨(some 85), none, .mov (.t 84)⟩,
    ⟨(some 86), (some (85, false)), .mov (.t 13)⟩,
    ⟨(some 87), (some (85, false)), .len (.t 86)⟩,
    ⟨(some 88), (some (85, false)), .bin .eql (.t 87) (.k (.d (.int .i64 0)))⟩,
    ⟨(some 89), none, .pick (.t 85) (.k (.d (.bool true))) (.t 88)⟩,
    ⟨(some 90), none, .mov (.t 89)⟩,
    ⟨(some 91), (some (90, false)), .mov (.t 11)⟩,
    ⟨(some 92), (some (90, false)), .len (.t 91)⟩,
    ⟨(some 93), (some (90, false)), .mov (.t 1)⟩,
    ⟨(some 94), (some (90, false)), .len (.t 93)⟩,
    ⟨(some 95), (some (90, false)), .bin .neq (.t 92) (.t 94)⟩,
    ⟨(some 96), none, .pick (.t 90) (.k (.d (.bool true))) (.t 95)⟩])
  (.cond (.t 96) (.seq (.reg [⟨(some 6), none, .mov (.k (.d (.bool false)))⟩])
    .ret)
  .skip))
  (.seq (.reg [⟨(some 15), none, .mov (.k (.d (.int .i64 0)))⟩])
  (.seq (.seq (.reg [⟨(some 97), none, .mov (.t 11)⟩,
    ⟨(some 98), none, .mov (.t 2)⟩,
    ⟨(some 99), none, .slc 1 (.t 97) none (some (.t 98)) none⟩,
    ⟨(some 100), none, .len (.t 99)⟩,
    ⟨(some 101), none, .mov (.k (.d (.int .i64 0)))⟩])
  (.block 2 (.loop (.seq (.reg [⟨(some 102), none, .bin .lss (.t 101) (.t 100)⟩])
      (.seq (.cond (.t 102) .skip
      (.exit 2))
      (.seq (.block 3 (.seq (.reg [⟨(some 103), none, .iadr 1 (.t 99) (.t 101)⟩,
          ⟨(some 104), none, .load 1 false (.t 103)⟩,
          ⟨(some 17), none, .mov (.t 104)⟩])
        (.reg [⟨(some 105), none, .mov (.t 15)⟩,
          ⟨(some 106), none, .mov (.t 17)⟩,
          ⟨(some 107), none, .bin .add (.t 105) (.t 106)⟩,
          ⟨(some 15), none, .mov (.t 107)⟩])))
      (.reg [⟨(some 108), none, .bin .add (.t 101) (.k (.d (.int .i64 1)))⟩,
        ⟨(some 101), none, .mov (.t 108)⟩])))))))
  (.seq (.drw [0, 1, 3, 7, 15, 3, 63, 127, 255, 511, 1023, 511, 511, 6655, 16383, 32767, 65535]
   [⟨(some 109), none, .call 14 []⟩,
    ⟨(some 110), none, .mov (.t 109)⟩,
    ⟨(some 111), (some (110, true)), .mov (.t 13)⟩,
    ⟨(some 112), (some (110, true)), .iadr 1 (.t 111) (.k (.d (.int .i64 0)))⟩,
    ⟨(some 113), (some (110, true)), .load 1 false (.t 112)⟩,
    ⟨(some 114), (some (110, true)), .mov (.t 15)⟩,
    ⟨(some 115), (some (110, true)), .bin .eql (.t 113) (.t 114)⟩,
    ⟨(some 116), none, .pick (.t 110) (.t 115) (.k (.d (.bool false)))⟩,
    ⟨(some 117), none, .mov (.t 116)⟩,
    ⟨(some 118), (some (117, true)), .mov (.t 13)⟩,
    ⟨(some 119), (some (117, true)), .slc 1 (.t 118) (some (.k (.d (.int .i64 1)))) none none⟩,
    ⟨(some 120), (some (117, true)), .mov (.t 11)⟩,
    ⟨(some 121), (some (117, true)), .mov (.t 2)⟩,
    ⟨(some 122), (some (117, true)), .slc 1 (.t 120) (some (.t 121)) none none⟩,
    ⟨(some 123), (some (117, true)), .call 21 [(.t 119), (.t 122)]⟩,
    ⟨(some 124), none, .pick (.t 117) (.t 123) (.k (.d (.bool false)))⟩,
    ⟨(some 6), none, .mov (.t 124)⟩])
  .ret)))))))))))
def rs11 : List RV := [.tmp 6]
theorem ok11 : okF Try.prog 11 = true := by kernel_rfl
theorem cc11 : cCode Try.prog Try.f11.ntmps (Try.f11.body.getD .skip) = some c11 := by kernel_rfl
theorem cr11 : cRess Try.prog Try.f11.results.toList = some rs11 := by kernel_rfl
theorem pure11 {args : List V} {res : V} (hlen : args.length ≤ 125) (hna : namesL args = []) (hnr : res.names = []) (h : ∀ c : Ctx, c.P = Try.prog → c.fn = [] → vcC c c11 ⟨initE 0 args, [], []⟩ (RetK c rs11 res [])) : Ctr Try.prog 11 args [] res [] [] :=
  ctr_pure Try.func11 ok11 rfl cc11 cr11 Try.ntmps11 hlen hna hnr h
theorem own11 {args : List V} {ins outs : List (Nat × Own)} {res : V} {new : List Nat} (hlen : args.length ≤ 125) (hf : ctrB args ins res outs new = true) (h : ∀ c : Ctx, c.P = Try.prog → c.fn = namesL args ++ ownNames ins → vcC c c11 ⟨initE 0 args, ins, namesL args ++ ownNames ins⟩ (RetK c rs11 res outs)) : Ctr Try.prog 11 args ins res outs new :=
  ctr_own Try.func11 ok11 rfl cc11 cr11 Try.ntmps11 hlen hf h

/-- bordereau/num.Down -/
def c12 : C :=
  (.seq (.reg [⟨(some 6), none, .mov (.k (.d (.int .i64 0)))⟩,
    ⟨(some 7), none, .mov (.k (.d (.int .i64 0)))⟩])
  (.seq (.reg [⟨(some 8), none, .call 24 []⟩,
    ⟨(some 9), none, .mov (.t 0)⟩,
    ⟨(some 10), none, .mov (.t 1)⟩,
    ⟨(some 11), none, .mov (.t 2)⟩,
    ⟨(some 12), none, .call 25 [(.t 8), (.t 9), (.t 10), (.t 11)]⟩,
    ⟨(some 13), none, .ext 0 (.t 12)⟩,
    ⟨(some 14), none, .ext 1 (.t 12)⟩,
    ⟨(some 6), none, .mov (.t 13)⟩,
    ⟨(some 7), none, .mov (.t 14)⟩])
  .ret))
def rs12 : List RV := [.tmp 6, .tmp 7]
theorem ok12 : okF Try.prog 12 = true := by kernel_rfl
theorem cc12 : cCode Try.prog Try.f12.ntmps (Try.f12.body.getD .skip) = some c12 := by kernel_rfl
theorem cr12 : cRess Try.prog Try.f12.results.toList = some rs12 := by kernel_rfl
theorem pure12 {args : List V} {res : V} (hlen : args.length ≤ 15) (hna : namesL args = []) (hnr : res.names = []) (h : ∀ c : Ctx, c.P = Try.prog → c.fn = [] → vcC c c12 ⟨initE 0 args, [], []⟩ (RetK c rs12 res [])) : Ctr Try.prog 12 args [] res [] [] :=
  ctr_pure Try.func12 ok12 rfl cc12 cr12 Try.ntmps12 hlen hna hnr h
theorem own12 {args : List V} {ins outs : List (Nat × Own)} {res : V} {new : List Nat} (hlen : args.length ≤ 15) (hf : ctrB args ins res outs new = true) (h : ∀ c : Ctx, c.P = Try.prog → c.fn = namesL args ++ ownNames ins → vcC c c12 ⟨initE 0 args, ins, namesL args ++ ownNames ins⟩ (RetK c rs12 res outs)) : Ctr Try.prog 12 args ins res outs new :=
  ctr_own Try.func12 ok12 rfl cc12 cr12 Try.ntmps12 hlen hf h

/-- bordereau/bordereauref01.Down -/
def c13 : C :=
  (.seq (.reg [⟨(some 6), none, .mov (.k (.d (.int .i64 0)))⟩,
    ⟨(some 7), none, .mov (.k (.d (.int .i64 0)))⟩])
  (.seq (.reg [⟨(some 12), none, .mov (.t 0)⟩,
    ⟨(some 13), none, .mov (.t 1)⟩,
    ⟨(some 14), none, .mov (.t 2)⟩,
    ⟨(some 15), none, .call 26 [(.t 12), (.t 13), (.t 14)]⟩,
    ⟨(some 8), none, .mov (.t 15)⟩])
  (.seq (.seq (.reg [⟨(some 16), none, .mov (.t 8)⟩,
    ⟨(some 17), none, .bin .neq (.t 16) (.k (.d (.int .i64 0)))⟩])
  (.cond (.t 17) (.seq (.reg [⟨(some 18), none, .mov (.t 8)⟩,
      ⟨(some 6), none, .mov (.k (.d (.int .i64 0)))⟩,
      ⟨(some 7), none, .mov (.t 18)⟩])
    .ret)
  .skip))
  (.seq (.reg [⟨(some 20), none, .mov (.t 0)⟩,
    ⟨(some 21), none, .mov (.t 1)⟩,
    ⟨(some 22), none, .mov (.t 2)⟩,
    ⟨(some 23), none, .call 23 [(.t 20), (.t 21), (.t 22)]⟩,
    ⟨(some 19), none, .mov (.t 23)⟩,
    ⟨(some 24), none, .ext 0 (.t 19)⟩,
    ⟨(some 25), none, .ext 1 (.t 19)⟩,
    ⟨(some 26), none, .ext 2 (.t 19)⟩,
    ⟨(some 9), none, .mov (.t 24)⟩,
    ⟨(some 10), none, .mov (.t 25)⟩,
    ⟨(some 11), none, .mov (.t 26)⟩])
  (.seq (.seq (.reg [⟨(some 27), none, .mov (.t 11)⟩,
    ⟨(some 28), none, .inv .not (.t 27)⟩])
  (.cond (.t 28) (.seq (.reg [⟨(some 6), none, .mov (.k (.d (.int .i64 0)))⟩,
      ⟨(some 7), none, .mov (.k (.d (.int .i64 5)))⟩])
    .ret)
  .skip))
  (.seq (.reg [⟨(some 29), none, .mov (.t 9)⟩,
    ⟨(some 6), none, .mov (.t 29)⟩,
    ⟨(some 7), none, .mov (.k (.d (.int .i64 0)))⟩])
  .ret))))))
def rs13 : List RV := [.tmp 6, .tmp 7]
theorem ok13 : okF Try.prog 13 = true := by kernel_rfl
theorem cc13 : cCode Try.prog Try.f13.ntmps (Try.f13.body.getD .skip) = some c13 := by kernel_rfl
theorem cr13 : cRess Try.prog Try.f13.results.toList = some rs13 := by kernel_rfl
theorem pure13 {args : List V} {res : V} (hlen : args.length ≤ 30) (hna : namesL args = []) (hnr : res.names = []) (h : ∀ c : Ctx, c.P = Try.prog → c.fn = [] → vcC c c13 ⟨initE 0 args, [], []⟩ (RetK c rs13 res [])) : Ctr Try.prog 13 args [] res [] [] :=
  ctr_pure Try.func13 ok13 rfl cc13 cr13 Try.ntmps13 hlen hna hnr h
theorem own13 {args : List V} {ins outs : List (Nat × Own)} {res : V} {new : List Nat} (hlen : args.length ≤ 30) (hf : ctrB args ins res outs new = true) (h : ∀ c : Ctx, c.P = Try.prog → c.fn = namesL args ++ ownNames ins → vcC c c13 ⟨initE 0 args, ins, namesL args ++ ownNames ins⟩ (RetK c rs13 res outs)) : Ctr Try.prog 13 args ins res outs new :=
  ctr_own Try.func13 ok13 rfl cc13 cr13 Try.ntmps13 hlen hf h

/-- bordereau/bordereaulaw01.alive -/
def c14 : C :=
  (.seq (.reg [⟨(some 0), none, .mov (.k (.d (.bool false)))⟩])
  (.seq (.reg [⟨(some 20), none, .call 12 [(.k (.d (.int .i64 7))), (.k (.d (.int .i64 5))), (.k (.d (.int .i64 2)))]⟩,
    ⟨(some 19), none, .mov (.t 20)⟩,
    ⟨(some 21), none, .ext 0 (.t 19)⟩,
    ⟨(some 22), none, .ext 1 (.t 19)⟩,
    ⟨(some 1), none, .mov (.t 21)⟩,
    ⟨(some 2), none, .mov (.t 22)⟩])
  (.seq (.reg [⟨(some 24), none, .call 15 [(.k (.d (.int .i64 7))), (.k (.d (.int .i64 5))), (.k (.d (.int .i64 2)))]⟩,
    ⟨(some 23), none, .mov (.t 24)⟩,
    ⟨(some 25), none, .ext 0 (.t 23)⟩,
    ⟨(some 26), none, .ext 1 (.t 23)⟩,
    ⟨(some 3), none, .mov (.t 25)⟩,
    ⟨(some 4), none, .mov (.t 26)⟩])
  (.seq (.reg [⟨(some 28), none, .call 15 [(.k (.d (.int .i64 5))), (.k (.d (.int .i64 5))), (.k (.d (.int .i64 2)))]⟩,
    ⟨(some 27), none, .mov (.t 28)⟩,
    ⟨(some 29), none, .ext 0 (.t 27)⟩,
    ⟨(some 30), none, .ext 1 (.t 27)⟩,
    ⟨(some 5), none, .mov (.t 29)⟩,
    ⟨(some 6), none, .mov (.t 30)⟩])
  (.seq (.reg [⟨(some 32), none, .call 12 [(.k (.d (.int .i64 1))), (.k (.d (.int .i64 1))), (.k (.d (.int .i64 0)))]⟩,
    ⟨(some 31), none, .mov (.t 32)⟩,
    ⟨(some 33), none, .ext 0 (.t 31)⟩,
    ⟨(some 34), none, .ext 1 (.t 31)⟩,
    ⟨(some 7), none, .mov (.t 33)⟩,
    ⟨(some 8), none, .mov (.t 34)⟩])
  (.seq (.reg [⟨(some 36), none, .call 15 [(.k (.d (.int .i64 (-1)))), (.k (.d (.int .i64 1))), (.k (.d (.int .i64 1)))]⟩,
    ⟨(some 35), none, .mov (.t 36)⟩,
    ⟨(some 37), none, .ext 0 (.t 35)⟩,
    ⟨(some 38), none, .ext 1 (.t 35)⟩,
    ⟨(some 9), none, .mov (.t 37)⟩,
    ⟨(some 10), none, .mov (.t 38)⟩])
  (.seq (.reg [⟨(some 40), none, .call 12 [(.k (.d (.int .i64 4611686018427387904))), (.k (.d (.int .i64 4611686018427387904))), (.k (.d (.int .i64 1)))]⟩,
    ⟨(some 39), none, .mov (.t 40)⟩,
    ⟨(some 41), none, .ext 0 (.t 39)⟩,
    ⟨(some 42), none, .ext 1 (.t 39)⟩,
    ⟨(some 11), none, .mov (.t 41)⟩,
    ⟨(some 12), none, .mov (.t 42)⟩])
  (.seq (.reg [⟨(some 44), none, .call 17 [(.k (.d (.int .i64 1234))), (.k (.d (.int .i64 2500)))]⟩,
    ⟨(some 43), none, .mov (.t 44)⟩,
    ⟨(some 45), none, .ext 0 (.t 43)⟩,
    ⟨(some 46), none, .ext 1 (.t 43)⟩,
    ⟨(some 13), none, .mov (.t 45)⟩,
    ⟨(some 14), none, .mov (.t 46)⟩])
  (.seq (.reg [⟨(some 48), none, .bslice 3 1 3 [(.k (.d (.int .i64 1))), (.k (.d (.int .i64 1))), (.k (.d (.int .i64 1)))]⟩,
    ⟨(some 49), none, .call 19 [(.k (.d (.int .i64 100))), (.t 48)]⟩,
    ⟨(some 47), none, .mov (.t 49)⟩,
    ⟨(some 50), none, .ext 0 (.t 47)⟩,
    ⟨(some 51), none, .ext 1 (.t 47)⟩,
    ⟨(some 15), none, .mov (.t 50)⟩,
    ⟨(some 16), none, .mov (.t 51)⟩])
  (.seq (.reg [⟨(some 53), none, .call 19 [(.k (.d (.int .i64 5))), (.k (.d (.sl true 0 0 fun _ => [])))]⟩,
    ⟨(some 52), none, .mov (.t 53)⟩,
    ⟨(some 54), none, .ext 0 (.t 52)⟩,
    ⟨(some 55), none, .ext 1 (.t 52)⟩,
    ⟨(some 17), none, .mov (.t 54)⟩,
    ⟨(some 18), none, .mov (.t 55)⟩])
  (.seq (.reg [⟨(some 56), none, .mov (.t 1)⟩,
    ⟨(some 57), none, .bin .eql (.t 56) (.k (.d (.int .i64 17)))⟩,
    ⟨(some 58), none, .mov (.t 57)⟩,
    ⟨(some 59), (some (58, true)), .mov (.t 2)⟩,
    ⟨(some 60), (some (58, true)), .bin .eql (.t 59) (.k (.d (.int .i64 0)))⟩,
    ⟨(some 61), none, .pick (.t 58) (.t 60) (.k (.d (.bool false)))⟩,
    ⟨(some 62), none, .mov (.t 61)⟩,
    ⟨(some 63), (some (62, true)), .mov (.t 3)⟩,
    ⟨(some 64), (some (62, true)), .bin .eql (.t 63) (.k (.d (.int .i64 18)))⟩,
    ⟨(some 65), none, .pick (.t 62) (.t 64) (.k (.d (.bool false)))⟩,
    ⟨(some 66), none, .mov (.t 65)⟩,
    ⟨(some 67), (some (66, true)), .mov (.t 5)⟩,
    ⟨(some 68), (some (66, true)), .bin .eql (.t 67) (.k (.d (.int .i64 12)))⟩,
    ⟨(some 69), none, .pick (.t 66) (.t 68) (.k (.d (.bool false)))⟩,
    ⟨(some 70), none, .mov (.t 69)⟩,
    ⟨(some 71), (some (70, true)), .mov (.t 8)⟩,
    ⟨(some 72), (some (70, true)), .bin .eql (.t 71) (.k (.d (.int .i64 6)))⟩,
    ⟨(some 73), none, .pick (.t 70) (.t 72) (.k (.d (.bool false)))⟩,
    ⟨(some 74), none, .mov (.t 73)⟩,
    ⟨(some 75), (some (74, true)), .mov (.t 10)⟩,
    ⟨(some 76), (some (74, true)), .bin .eql (.t 75) (.k (.d (.int .i64 1)))⟩,
    ⟨(some 77), none, .pick (.t 74) (.t 76) (.k (.d (.bool false)))⟩,
    ⟨(some 78), none, .mov (.t 77)⟩,
    ⟨(some 79), (some (78, true)), .mov (.t 12)⟩,
    ⟨(some 80), (some (78, true)), .bin .eql (.t 79) (.k (.d (.int .i64 5)))⟩,
    ⟨(some 81), none, .pick (.t 78) (.t 80) (.k (.d (.bool false)))⟩,
    ⟨(some 82), none, .mov (.t 81)⟩,
    ⟨(some 83), (some (82, true)), .mov (.t 13)⟩,
    ⟨(some 84), (some (82, true)), .bin .eql (.t 83) (.k (.d (.int .i64 308)))⟩,
    ⟨(some 85), none, .pick (.t 82) (.t 84) (.k (.d (.bool false)))⟩,
    ⟨(some 86), none, .mov (.t 85)⟩,
    ⟨(some 87), (some (86, true)), .mov (.t 15)⟩,
    ⟨(some 88), (some (86, true)), .bslice 3 1 3 [(.k (.d (.int .i64 33))), (.k (.d (.int .i64 33))), (.k (.d (.int .i64 34)))]⟩,
    ⟨(some 89), (some (86, true)), .call 21 [(.t 87), (.t 88)]⟩,
    ⟨(some 90), none, .pick (.t 86) (.t 89) (.k (.d (.bool false)))⟩,
    ⟨(some 91), none, .mov (.t 90)⟩,
    ⟨(some 92), (some (91, true)), .mov (.t 16)⟩,
    ⟨(some 93), (some (91, true)), .bin .eql (.t 92) (.k (.d (.int .i64 0)))⟩,
    ⟨(some 94), none, .pick (.t 91) (.t 93) (.k (.d (.bool false)))⟩,
    ⟨(some 95), none, .mov (.t 94)⟩,
    ⟨(some 96), (some (95, true)), .mov (.t 18)⟩,
    ⟨(some 97), (some (95, true)), .bin .eql (.t 96) (.k (.d (.int .i64 6)))⟩,
    ⟨(some 98), none, .pick (.t 95) (.t 97) (.k (.d (.bool false)))⟩,
    ⟨(some 0), none, .mov (.t 98)⟩])
  .ret)))))))))))
def rs14 : List RV := [.tmp 0]
theorem ok14 : okF Try.prog 14 = true := by kernel_rfl
theorem cc14 : cCode Try.prog Try.f14.ntmps (Try.f14.body.getD .skip) = some c14 := by kernel_rfl
theorem cr14 : cRess Try.prog Try.f14.results.toList = some rs14 := by kernel_rfl
theorem pure14 {args : List V} {res : V} (hlen : args.length ≤ 99) (hna : namesL args = []) (hnr : res.names = []) (h : ∀ c : Ctx, c.P = Try.prog → c.fn = [] → vcC c c14 ⟨initE 0 args, [], []⟩ (RetK c rs14 res [])) : Ctr Try.prog 14 args [] res [] [] :=
  ctr_pure Try.func14 ok14 rfl cc14 cr14 Try.ntmps14 hlen hna hnr h
theorem own14 {args : List V} {ins outs : List (Nat × Own)} {res : V} {new : List Nat} (hlen : args.length ≤ 99) (hf : ctrB args ins res outs new = true) (h : ∀ c : Ctx, c.P = Try.prog → c.fn = namesL args ++ ownNames ins → vcC c c14 ⟨initE 0 args, ins, namesL args ++ ownNames ins⟩ (RetK c rs14 res outs)) : Ctr Try.prog 14 args ins res outs new :=
  ctr_own Try.func14 ok14 rfl cc14 cr14 Try.ntmps14 hlen hf h

/-- bordereau/num.Even -/
def c15 : C :=
  (.seq (.reg [⟨(some 6), none, .mov (.k (.d (.int .i64 0)))⟩,
    ⟨(some 7), none, .mov (.k (.d (.int .i64 0)))⟩])
  (.seq (.reg [⟨(some 8), none, .call 27 []⟩,
    ⟨(some 9), none, .mov (.t 0)⟩,
    ⟨(some 10), none, .mov (.t 1)⟩,
    ⟨(some 11), none, .mov (.t 2)⟩,
    ⟨(some 12), none, .call 25 [(.t 8), (.t 9), (.t 10), (.t 11)]⟩,
    ⟨(some 13), none, .ext 0 (.t 12)⟩,
    ⟨(some 14), none, .ext 1 (.t 12)⟩,
    ⟨(some 6), none, .mov (.t 13)⟩,
    ⟨(some 7), none, .mov (.t 14)⟩])
  .ret))
def rs15 : List RV := [.tmp 6, .tmp 7]
theorem ok15 : okF Try.prog 15 = true := by kernel_rfl
theorem cc15 : cCode Try.prog Try.f15.ntmps (Try.f15.body.getD .skip) = some c15 := by kernel_rfl
theorem cr15 : cRess Try.prog Try.f15.results.toList = some rs15 := by kernel_rfl
theorem pure15 {args : List V} {res : V} (hlen : args.length ≤ 15) (hna : namesL args = []) (hnr : res.names = []) (h : ∀ c : Ctx, c.P = Try.prog → c.fn = [] → vcC c c15 ⟨initE 0 args, [], []⟩ (RetK c rs15 res [])) : Ctr Try.prog 15 args [] res [] [] :=
  ctr_pure Try.func15 ok15 rfl cc15 cr15 Try.ntmps15 hlen hna hnr h
theorem own15 {args : List V} {ins outs : List (Nat × Own)} {res : V} {new : List Nat} (hlen : args.length ≤ 15) (hf : ctrB args ins res outs new = true) (h : ∀ c : Ctx, c.P = Try.prog → c.fn = namesL args ++ ownNames ins → vcC c c15 ⟨initE 0 args, ins, namesL args ++ ownNames ins⟩ (RetK c rs15 res outs)) : Ctr Try.prog 15 args ins res outs new :=
  ctr_own Try.func15 ok15 rfl cc15 cr15 Try.ntmps15 hlen hf h

/-- bordereau/bordereauref01.Even -/
def c16 : C :=
  (.seq (.reg [⟨(some 6), none, .mov (.k (.d (.int .i64 0)))⟩,
    ⟨(some 7), none, .mov (.k (.d (.int .i64 0)))⟩])
  (.seq (.reg [⟨(some 12), none, .mov (.t 0)⟩,
    ⟨(some 13), none, .mov (.t 1)⟩,
    ⟨(some 14), none, .mov (.t 2)⟩,
    ⟨(some 15), none, .call 26 [(.t 12), (.t 13), (.t 14)]⟩,
    ⟨(some 8), none, .mov (.t 15)⟩])
  (.seq (.seq (.reg [⟨(some 16), none, .mov (.t 8)⟩,
    ⟨(some 17), none, .bin .neq (.t 16) (.k (.d (.int .i64 0)))⟩])
  (.cond (.t 17) (.seq (.reg [⟨(some 18), none, .mov (.t 8)⟩,
      ⟨(some 6), none, .mov (.k (.d (.int .i64 0)))⟩,
      ⟨(some 7), none, .mov (.t 18)⟩])
    .ret)
  .skip))
  (.seq (.reg [⟨(some 20), none, .mov (.t 0)⟩,
    ⟨(some 21), none, .mov (.t 1)⟩,
    ⟨(some 22), none, .mov (.t 2)⟩,
    ⟨(some 23), none, .call 23 [(.t 20), (.t 21), (.t 22)]⟩,
    ⟨(some 19), none, .mov (.t 23)⟩,
    ⟨(some 24), none, .ext 0 (.t 19)⟩,
    ⟨(some 25), none, .ext 1 (.t 19)⟩,
    ⟨(some 26), none, .ext 2 (.t 19)⟩,
    ⟨(some 9), none, .mov (.t 24)⟩,
    ⟨(some 10), none, .mov (.t 25)⟩,
    ⟨(some 11), none, .mov (.t 26)⟩])
  (.seq (.seq (.reg [⟨(some 27), none, .mov (.t 11)⟩,
    ⟨(some 28), none, .mov (.t 27)⟩,
    ⟨(some 29), (some (28, true)), .mov (.t 10)⟩,
    ⟨(some 30), (some (28, true)), .mov (.t 2)⟩,
    ⟨(some 31), (some (28, true)), .mov (.t 10)⟩,
    ⟨(some 32), (some (28, true)), .bin .sub (.t 30) (.t 31)⟩,
    ⟨(some 33), (some (28, true)), .bin .gtr (.t 29) (.t 32)⟩,
    ⟨(some 34), (some (28, true)), .mov (.t 33)⟩,
    ⟨(some 35), (some (34, false)), .mov (.t 10)⟩,
    ⟨(some 36), (some (34, false)), .mov (.t 2)⟩,
    ⟨(some 37), (some (34, false)), .mov (.t 10)⟩,
    ⟨(some 38), (some (34, false)), .bin .sub (.t 36) (.t 37)⟩,
    ⟨(some 39), (some (34, false)), .bin .eql (.t 35) (.t 38)⟩,
    ⟨(some 40), (some (34, false)), .mov (.t 39)⟩,
    ⟨(some 41), (some (40, true)), .mov (.t 9)⟩,
    ⟨(some 42), (some (40, true)), .bin .rem (.t 41) (.k (.d (.int .i64 2)))⟩,
    ⟨(some 43), (some (40, true)), .bin .eql (.t 42) (.k (.d (.int .i64 1)))⟩,
    ⟨(some 44), (some (34, false)), .pick (.t 40) (.t 43) (.k (.d (.bool false)))⟩,
    ⟨(some 45), (some (28, true)), .pick (.t 34) (.k (.d (.bool true))) (.t 44)⟩,
    ⟨(some 46), none, .pick (.t 28) (.t 45) (.k (.d (.bool false)))⟩])
  (.cond (.t 46) (.reg [⟨(some 47), none, .mov (.t 9)⟩,
      ⟨(some 48), none, .bin .add (.t 47) (.k (.d (.int .i64 1)))⟩,
      ⟨(some 9), none, .mov (.t 48)⟩])
  .skip))
  (.seq (.seq (.reg [⟨(some 49), none, .mov (.t 11)⟩,
    ⟨(some 50), none, .inv .not (.t 49)⟩,
    ⟨(some 51), none, .mov (.t 50)⟩,
    ⟨(some 52), (some (51, false)), .mov (.t 9)⟩,
    ⟨(some 53), (some (51, false)), .bin .gtr (.t 52) (.k (.d (.int .i64 4000000000000000000)))⟩,
    ⟨(some 54), none, .pick (.t 51) (.k (.d (.bool true))) (.t 53)⟩])
  (.cond (.t 54) (.seq (.reg [⟨(some 6), none, .mov (.k (.d (.int .i64 0)))⟩,
      ⟨(some 7), none, .mov (.k (.d (.int .i64 5)))⟩])
    .ret)
  .skip))
  (.seq (.reg [⟨(some 55), none, .mov (.t 9)⟩,
    ⟨(some 6), none, .mov (.t 55)⟩,
    ⟨(some 7), none, .mov (.k (.d (.int .i64 0)))⟩])
  .ret)))))))
def rs16 : List RV := [.tmp 6, .tmp 7]
theorem ok16 : okF Try.prog 16 = true := by kernel_rfl
theorem cc16 : cCode Try.prog Try.f16.ntmps (Try.f16.body.getD .skip) = some c16 := by kernel_rfl
theorem cr16 : cRess Try.prog Try.f16.results.toList = some rs16 := by kernel_rfl
theorem pure16 {args : List V} {res : V} (hlen : args.length ≤ 56) (hna : namesL args = []) (hnr : res.names = []) (h : ∀ c : Ctx, c.P = Try.prog → c.fn = [] → vcC c c16 ⟨initE 0 args, [], []⟩ (RetK c rs16 res [])) : Ctr Try.prog 16 args [] res [] [] :=
  ctr_pure Try.func16 ok16 rfl cc16 cr16 Try.ntmps16 hlen hna hnr h
theorem own16 {args : List V} {ins outs : List (Nat × Own)} {res : V} {new : List Nat} (hlen : args.length ≤ 56) (hf : ctrB args ins res outs new = true) (h : ∀ c : Ctx, c.P = Try.prog → c.fn = namesL args ++ ownNames ins → vcC c c16 ⟨initE 0 args, ins, namesL args ++ ownNames ins⟩ (RetK c rs16 res outs)) : Ctr Try.prog 16 args ins res outs new :=
  ctr_own Try.func16 ok16 rfl cc16 cr16 Try.ntmps16 hlen hf h

/-- bordereau/num.Bp -/
def c17 : C :=
  (.seq (.reg [⟨(some 4), none, .mov (.k (.d (.int .i64 0)))⟩,
    ⟨(some 5), none, .mov (.k (.d (.int .i64 0)))⟩])
  (.seq (.reg [⟨(some 6), none, .mov (.t 0)⟩,
    ⟨(some 7), none, .mov (.t 1)⟩,
    ⟨(some 8), none, .call 15 [(.t 6), (.t 7), (.k (.d (.int .i64 10000)))]⟩,
    ⟨(some 9), none, .ext 0 (.t 8)⟩,
    ⟨(some 10), none, .ext 1 (.t 8)⟩,
    ⟨(some 4), none, .mov (.t 9)⟩,
    ⟨(some 5), none, .mov (.t 10)⟩])
  .ret))
def rs17 : List RV := [.tmp 4, .tmp 5]
theorem ok17 : okF Try.prog 17 = true := by kernel_rfl
theorem cc17 : cCode Try.prog Try.f17.ntmps (Try.f17.body.getD .skip) = some c17 := by kernel_rfl
theorem cr17 : cRess Try.prog Try.f17.results.toList = some rs17 := by kernel_rfl
theorem pure17 {args : List V} {res : V} (hlen : args.length ≤ 11) (hna : namesL args = []) (hnr : res.names = []) (h : ∀ c : Ctx, c.P = Try.prog → c.fn = [] → vcC c c17 ⟨initE 0 args, [], []⟩ (RetK c rs17 res [])) : Ctr Try.prog 17 args [] res [] [] :=
  ctr_pure Try.func17 ok17 rfl cc17 cr17 Try.ntmps17 hlen hna hnr h
theorem own17 {args : List V} {ins outs : List (Nat × Own)} {res : V} {new : List Nat} (hlen : args.length ≤ 11) (hf : ctrB args ins res outs new = true) (h : ∀ c : Ctx, c.P = Try.prog → c.fn = namesL args ++ ownNames ins → vcC c c17 ⟨initE 0 args, ins, namesL args ++ ownNames ins⟩ (RetK c rs17 res outs)) : Ctr Try.prog 17 args ins res outs new :=
  ctr_own Try.func17 ok17 rfl cc17 cr17 Try.ntmps17 hlen hf h

/-- bordereau/bordereauref01.Bp -/
def c18 : C :=
  (.seq (.reg [⟨(some 4), none, .mov (.k (.d (.int .i64 0)))⟩,
    ⟨(some 5), none, .mov (.k (.d (.int .i64 0)))⟩])
  (.seq (.reg [⟨(some 6), none, .mov (.t 0)⟩,
    ⟨(some 7), none, .mov (.t 1)⟩,
    ⟨(some 8), none, .call 16 [(.t 6), (.t 7), (.k (.d (.int .i64 10000)))]⟩,
    ⟨(some 9), none, .ext 0 (.t 8)⟩,
    ⟨(some 10), none, .ext 1 (.t 8)⟩,
    ⟨(some 4), none, .mov (.t 9)⟩,
    ⟨(some 5), none, .mov (.t 10)⟩])
  .ret))
def rs18 : List RV := [.tmp 4, .tmp 5]
theorem ok18 : okF Try.prog 18 = true := by kernel_rfl
theorem cc18 : cCode Try.prog Try.f18.ntmps (Try.f18.body.getD .skip) = some c18 := by kernel_rfl
theorem cr18 : cRess Try.prog Try.f18.results.toList = some rs18 := by kernel_rfl
theorem pure18 {args : List V} {res : V} (hlen : args.length ≤ 11) (hna : namesL args = []) (hnr : res.names = []) (h : ∀ c : Ctx, c.P = Try.prog → c.fn = [] → vcC c c18 ⟨initE 0 args, [], []⟩ (RetK c rs18 res [])) : Ctr Try.prog 18 args [] res [] [] :=
  ctr_pure Try.func18 ok18 rfl cc18 cr18 Try.ntmps18 hlen hna hnr h
theorem own18 {args : List V} {ins outs : List (Nat × Own)} {res : V} {new : List Nat} (hlen : args.length ≤ 11) (hf : ctrB args ins res outs new = true) (h : ∀ c : Ctx, c.P = Try.prog → c.fn = namesL args ++ ownNames ins → vcC c c18 ⟨initE 0 args, ins, namesL args ++ ownNames ins⟩ (RetK c rs18 res outs)) : Ctr Try.prog 18 args ins res outs new :=
  ctr_own Try.func18 ok18 rfl cc18 cr18 Try.ntmps18 hlen hf h

/-- bordereau/num.Split -/
def c19 : C :=
  (.seq (.reg [⟨(some 4), none, .mov (.k (.d (.sl true 0 0 fun _ => [])))⟩,
    ⟨(some 5), none, .mov (.k (.d (.int .i64 0)))⟩])
  (.seq (.seq (.reg [⟨(some 20), none, .mov (.t 0)⟩,
    ⟨(some 21), none, .bin .lss (.t 20) (.k (.d (.int .i64 0)))⟩,
    ⟨(some 22), none, .mov (.t 21)⟩,
    ⟨(some 23), (some (22, false)), .mov (.t 1)⟩,
    ⟨(some 24), (some (22, false)), .len (.t 23)⟩,
    ⟨(some 25), (some (22, false)), .bin .gtr (.t 24) (.k (.d (.int .i64 2000)))⟩,
    ⟨(some 26), none, .pick (.t 22) (.k (.d (.bool true))) (.t 25)⟩])
  (.cond (.t 26) (.seq (.reg [⟨(some 4), none, .mov (.k (.d (.sl true 0 0 fun _ => [])))⟩,
      ⟨(some 5), none, .mov (.k (.d (.int .i64 1)))⟩])
    .ret)
  .skip))
  (.seq (.reg [⟨(some 27), none, .call 28 []⟩,
    ⟨(some 28), none, .mov (.t 0)⟩,
    ⟨(some 29), none, .bin .gtr (.t 28) (.k (.d (.int .i64 4000000000000000000)))⟩,
    ⟨(some 6), none, .mov (.t 27)⟩,
    ⟨(some 7), none, .mov (.t 29)⟩])
  (.seq (.reg [⟨(some 30), none, .mov (.t 1)⟩,
    ⟨(some 31), none, .len (.t 30)⟩,
    ⟨(some 32), none, .mks 3 1 8 [(.int .i64 0)] (.k (.d (.int .i64 0))) (.t 31)⟩,
    ⟨(some 8), none, .mov (.t 32)⟩])
  (.seq (.seq (.reg [⟨(some 33), none, .mov (.t 1)⟩,
    ⟨(some 34), none, .len (.t 33)⟩,
    ⟨(some 35), none, .mov (.k (.d (.int .i64 0)))⟩])
  (.block 0 (.loop (.seq (.reg [⟨(some 36), none, .bin .lss (.t 35) (.t 34)⟩])
      (.seq (.cond (.t 36) .skip
      (.exit 0))
      (.seq (.block 1 (.seq (.reg [⟨(some 37), none, .iadr 1 (.t 33) (.t 35)⟩,
          ⟨(some 38), none, .load 1 false (.t 37)⟩,
          ⟨(some 10), none, .mov (.t 38)⟩])
        (.seq (.reg [⟨(some 40), none, .mov (.t 6)⟩,
          ⟨(some 41), none, .mov (.t 10)⟩,
          ⟨(some 42), none, .callv (.t 40) [(.t 41)]⟩,
          ⟨(some 39), none, .mov (.t 42)⟩,
          ⟨(some 43), none, .ext 0 (.t 39)⟩,
          ⟨(some 44), none, .ext 1 (.t 39)⟩,
          ⟨(some 11), none, .mov (.t 43)⟩,
          ⟨(some 12), none, .mov (.t 44)⟩])
        (.seq (.seq (.reg [⟨(some 45), none, .mov (.t 12)⟩,
          ⟨(some 46), none, .bin .eql (.t 45) (.k (.d (.int .i64 1)))⟩])
        (.cond (.t 46) (.seq (.reg [⟨(some 47), none, .mov (.t 12)⟩,
            ⟨(some 4), none, .mov (.k (.d (.sl true 0 0 fun _ => [])))⟩,
            ⟨(some 5), none, .mov (.t 47)⟩])
          .ret)
        .skip))
        (.seq (.reg [⟨(some 48), none, .mov (.t 7)⟩,
          ⟨(some 49), none, .mov (.t 48)⟩,
          ⟨(some 50), (some (49, false)), .mov (.t 12)⟩,
          ⟨(some 51), (some (49, false)), .bin .eql (.t 50) (.k (.d (.int .i64 5)))⟩,
          ⟨(some 52), none, .pick (.t 49) (.k (.d (.bool true))) (.t 51)⟩,
          ⟨(some 7), none, .mov (.t 52)⟩])
        (.reg [⟨(some 53), none, .mov (.t 8)⟩,
          ⟨(some 54), none, .mov (.t 11)⟩,
          ⟨(some 55), none, .bslice 3 1 1 [(.t 54)]⟩,
          ⟨(some 56), none, .app 3 1 8 (.t 53) (.t 55)⟩,
          ⟨(some 8), none, .mov (.t 56)⟩]))))))
      (.reg [⟨(some 57), none, .bin .add (.t 35) (.k (.d (.int .i64 1)))⟩,
        ⟨(some 35), none, .mov (.t 57)⟩])))))))
  (.seq (.block 2 (.seq (.reg [⟨(some 59), none, .mov (.t 7)⟩,
      ⟨(some 58), none, .mov (.t 59)⟩])
    (.cond (.t 58) (.seq (.reg [⟨(some 4), none, .mov (.k (.d (.sl true 0 0 fun _ => [])))⟩,
        ⟨(some 5), none, .mov (.k (.d (.int .i64 5)))⟩])
      .ret)
    (.seq (.reg [⟨(some 61), none, .mov (.t 8)⟩,
        ⟨(some 62), none, .len (.t 61)⟩,
        ⟨(some 63), none, .bin .eql (.t 62) (.k (.d (.int .i64 0)))⟩,
        ⟨(some 64), none, .mov (.t 63)⟩,
        ⟨(some 65), (some (64, false)), .mov (.t 8)⟩,
        ⟨(some 66), (some (64, false)), .mov (.t 8)⟩,
        ⟨(some 67), (some (64, false)), .len (.t 66)⟩,
        ⟨(some 68), (some (64, false)), .bin .sub (.t 67) (.k (.d (.int .i64 1)))⟩,
        ⟨(some 69), (some (64, false)), .iadr 1 (.t 65) (.t 68)⟩,
        ⟨(some 70), (some (64, false)), .load 1 false (.t 69)⟩,
        ⟨(some 71), (some (64, false)), .bin .eql (.t 70) (.k (.d (.int .i64 0)))⟩,
        ⟨(some 72), none, .pick (.t 64) (.k (.d (.bool true))) (.t 71)⟩,
        ⟨(some 60), none, .mov (.t 72)⟩])
      (.cond (.t 60) (.seq (.reg [⟨(some 4), none, .mov (.k (.d (.sl true 0 0 fun _ => [])))⟩,
          ⟨(some 5), none, .mov (.k (.d (.int .i64 6)))⟩])
        .ret)
      .skip)))))
  (.seq (.reg [⟨(some 73), none, .mov (.t 8)⟩,
    ⟨(some 74), none, .mov (.t 8)⟩,
    ⟨(some 75), none, .len (.t 74)⟩,
    ⟨(some 76), none, .bin .sub (.t 75) (.k (.d (.int .i64 1)))⟩,
    ⟨(some 77), none, .iadr 1 (.t 73) (.t 76)⟩,
    ⟨(some 78), none, .load 1 false (.t 77)⟩,
    ⟨(some 13), none, .mov (.t 78)⟩])
  (.seq (.reg [⟨(some 79), none, .mov (.t 8)⟩,
    ⟨(some 80), none, .len (.t 79)⟩,
    ⟨(some 81), none, .mks 3 1 8 [(.int .i64 0)] (.t 80) (.t 80)⟩,
    ⟨(some 14), none, .mov (.t 81)⟩])
  (.seq (.reg [⟨(some 15), none, .mov (.k (.d (.int .i64 0)))⟩])
  (.seq (.seq (.reg [⟨(some 82), none, .mov (.t 8)⟩,
    ⟨(some 83), none, .len (.t 82)⟩,
    ⟨(some 84), none, .mov (.k (.d (.int .i64 0)))⟩])
  (.block 3 (.loop (.seq (.reg [⟨(some 85), none, .bin .lss (.t 84) (.t 83)⟩])
      (.seq (.cond (.t 85) .skip
      (.exit 3))
      (.seq (.block 4 (.seq (.reg [⟨(some 86), none, .mov (.t 84)⟩,
          ⟨(some 87), none, .iadr 1 (.t 82) (.t 84)⟩,
          ⟨(some 88), none, .load 1 false (.t 87)⟩,
          ⟨(some 16), none, .mov (.t 86)⟩,
          ⟨(some 17), none, .mov (.t 88)⟩])
        (.seq (.reg [⟨(some 90), none, .mov (.t 0)⟩,
          ⟨(some 91), none, .mov (.t 17)⟩,
          ⟨(some 92), none, .mov (.t 13)⟩,
          ⟨(some 93), none, .call 12 [(.t 90), (.t 91), (.t 92)]⟩,
          ⟨(some 89), none, .mov (.t 93)⟩,
          ⟨(some 94), none, .ext 0 (.t 89)⟩,
          ⟨(some 95), none, .ext 1 (.t 89)⟩,
          ⟨(some 18), none, .mov (.t 94)⟩,
          ⟨(some 19), none, .mov (.t 95)⟩])
        (.reg [⟨(some 96), none, .mov (.t 14)⟩,
          ⟨(some 97), none, .mov (.t 16)⟩,
          ⟨(some 98), none, .mov (.t 18)⟩,
          ⟨(some 99), none, .mov (.t 15)⟩,
          ⟨(some 100), none, .bin .sub (.t 98) (.t 99)⟩,
          ⟨(some 101), none, .mov (.t 18)⟩,
          ⟨(some 102), none, .iadr 1 (.t 96) (.t 97)⟩,
          ⟨none, none, .store 1 (.t 102) (.t 100)⟩,
          ⟨(some 15), none, .mov (.t 101)⟩]))))
      (.reg [⟨(some 103), none, .bin .add (.t 84) (.k (.d (.int .i64 1)))⟩,
        ⟨(some 84), none, .mov (.t 103)⟩])))))))
  (.seq (.reg [⟨(some 104), none, .mov (.t 14)⟩,
    ⟨(some 4), none, .mov (.t 104)⟩,
    ⟨(some 5), none, .mov (.k (.d (.int .i64 0)))⟩])
  .ret)))))))))))
def rs19 : List RV := [.tmp 4, .tmp 5]
theorem ok19 : okF Try.prog 19 = true := by kernel_rfl
theorem cc19 : cCode Try.prog Try.f19.ntmps (Try.f19.body.getD .skip) = some c19 := by kernel_rfl
theorem cr19 : cRess Try.prog Try.f19.results.toList = some rs19 := by kernel_rfl
theorem pure19 {args : List V} {res : V} (hlen : args.length ≤ 105) (hna : namesL args = []) (hnr : res.names = []) (h : ∀ c : Ctx, c.P = Try.prog → c.fn = [] → vcC c c19 ⟨initE 0 args, [], []⟩ (RetK c rs19 res [])) : Ctr Try.prog 19 args [] res [] [] :=
  ctr_pure Try.func19 ok19 rfl cc19 cr19 Try.ntmps19 hlen hna hnr h
theorem own19 {args : List V} {ins outs : List (Nat × Own)} {res : V} {new : List Nat} (hlen : args.length ≤ 105) (hf : ctrB args ins res outs new = true) (h : ∀ c : Ctx, c.P = Try.prog → c.fn = namesL args ++ ownNames ins → vcC c c19 ⟨initE 0 args, ins, namesL args ++ ownNames ins⟩ (RetK c rs19 res outs)) : Ctr Try.prog 19 args ins res outs new :=
  ctr_own Try.func19 ok19 rfl cc19 cr19 Try.ntmps19 hlen hf h

/-- bordereau/bordereauref01.Split -/
def c20 : C :=
  (.seq (.reg [⟨(some 4), none, .mov (.k (.d (.sl true 0 0 fun _ => [])))⟩,
    ⟨(some 5), none, .mov (.k (.d (.int .i64 0)))⟩])
  (.seq (.seq (.reg [⟨(some 15), none, .mov (.t 0)⟩,
    ⟨(some 16), none, .bin .lss (.t 15) (.k (.d (.int .i64 0)))⟩,
    ⟨(some 17), none, .mov (.t 16)⟩,
    ⟨(some 18), (some (17, false)), .mov (.t 1)⟩,
    ⟨(some 19), (some (17, false)), .len (.t 18)⟩,
    ⟨(some 20), (some (17, false)), .bin .gtr (.t 19) (.k (.d (.int .i64 2000)))⟩,
    ⟨(some 21), none, .pick (.t 17) (.k (.d (.bool true))) (.t 20)⟩])
  (.cond (.t 21) (.seq (.reg [⟨(some 4), none, .mov (.k (.d (.sl true 0 0 fun _ => [])))⟩,
      ⟨(some 5), none, .mov (.k (.d (.int .i64 1)))⟩])
    .ret)
  .skip))
  (.seq (.seq (.reg [⟨(some 6), none, .mov (.k (.d (.int .i64 0)))⟩])
  (.block 0 (.loop (.seq (.seq (.reg [⟨(some 22), none, .mov (.t 6)⟩,
        ⟨(some 23), none, .mov (.t 1)⟩,
        ⟨(some 24), none, .len (.t 23)⟩,
        ⟨(some 25), none, .bin .lss (.t 22) (.t 24)⟩])
      (.cond (.t 25) .skip
      (.exit 0)))
      (.seq (.block 1 (.seq (.reg [⟨(some 28), none, .mov (.t 1)⟩,
          ⟨(some 29), none, .mov (.t 6)⟩,
          ⟨(some 30), none, .iadr 1 (.t 28) (.t 29)⟩,
          ⟨(some 31), none, .load 1 false (.t 30)⟩,
          ⟨(some 32), none, .bin .lss (.t 31) (.k (.d (.int .i64 0)))⟩])
        (.cond (.t 32) (.seq (.reg [⟨(some 4), none, .mov (.k (.d (.sl true 0 0 fun _ => [])))⟩,
            ⟨(some 5), none, .mov (.k (.d (.int .i64 1)))⟩])
          .ret)
        .skip)))
      (.reg [⟨(some 26), none, .mov (.t 6)⟩,
        ⟨(some 27), none, .bin .add (.t 26) (.k (.d (.int .i64 1)))⟩,
        ⟨(some 6), none, .mov (.t 27)⟩]))))))
  (.seq (.reg [⟨(some 34), none, .mov (.t 1)⟩,
    ⟨(some 35), none, .call 22 [(.t 34)]⟩,
    ⟨(some 33), none, .mov (.t 35)⟩,
    ⟨(some 36), none, .ext 0 (.t 33)⟩,
    ⟨(some 37), none, .ext 1 (.t 33)⟩,
    ⟨(some 7), none, .mov (.t 36)⟩,
    ⟨(some 8), none, .mov (.t 37)⟩])
  (.seq (.seq (.reg [⟨(some 38), none, .mov (.t 8)⟩,
    ⟨(some 39), none, .inv .not (.t 38)⟩,
    ⟨(some 40), none, .mov (.t 39)⟩,
    ⟨(some 41), (some (40, false)), .mov (.t 0)⟩,
    ⟨(some 42), (some (40, false)), .bin .gtr (.t 41) (.k (.d (.int .i64 4000000000000000000)))⟩,
    ⟨(some 43), none, .pick (.t 40) (.k (.d (.bool true))) (.t 42)⟩])
  (.cond (.t 43) (.seq (.reg [⟨(some 4), none, .mov (.k (.d (.sl true 0 0 fun _ => [])))⟩,
      ⟨(some 5), none, .mov (.k (.d (.int .i64 5)))⟩])
    .ret)
  .skip))
  (.seq (.seq (.reg [⟨(some 44), none, .mov (.t 7)⟩,
    ⟨(some 45), none, .bin .eql (.t 44) (.k (.d (.int .i64 0)))⟩])
  (.cond (.t 45) (.seq (.reg [⟨(some 4), none, .mov (.k (.d (.sl true 0 0 fun _ => [])))⟩,
      ⟨(some 5), none, .mov (.k (.d (.int .i64 6)))⟩])
    .ret)
  .skip))
  (.seq (.reg [⟨(some 9), none, .mov (.k (.d (.sl true 0 0 fun _ => [])))⟩])
  (.seq (.reg [⟨(some 10), none, .mov (.k (.d (.int .i64 0)))⟩])
  (.seq (.reg [⟨(some 11), none, .mov (.k (.d (.int .i64 0)))⟩])
  (.seq (.seq (.reg [⟨(some 12), none, .mov (.k (.d (.int .i64 0)))⟩])
  (.block 2 (.loop (.seq (.seq (.reg [⟨(some 46), none, .mov (.t 12)⟩,
        ⟨(some 47), none, .mov (.t 1)⟩,
        ⟨(some 48), none, .len (.t 47)⟩,
        ⟨(some 49), none, .bin .lss (.t 46) (.t 48)⟩])
      (.cond (.t 49) .skip
      (.exit 2)))
      (.seq (.block 3 (.seq (.reg [⟨(some 52), none, .mov (.t 10)⟩,
          ⟨(some 53), none, .mov (.t 1)⟩,
          ⟨(some 54), none, .mov (.t 12)⟩,
          ⟨(some 55), none, .iadr 1 (.t 53) (.t 54)⟩,
          ⟨(some 56), none, .load 1 false (.t 55)⟩,
          ⟨(some 57), none, .bin .add (.t 52) (.t 56)⟩,
          ⟨(some 10), none, .mov (.t 57)⟩])
        (.seq (.reg [⟨(some 59), none, .mov (.t 0)⟩,
          ⟨(some 60), none, .mov (.t 10)⟩,
          ⟨(some 61), none, .mov (.t 7)⟩,
          ⟨(some 62), none, .call 13 [(.t 59), (.t 60), (.t 61)]⟩,
          ⟨(some 58), none, .mov (.t 62)⟩,
          ⟨(some 63), none, .ext 0 (.t 58)⟩,
          ⟨(some 64), none, .ext 1 (.t 58)⟩,
          ⟨(some 13), none, .mov (.t 63)⟩,
          ⟨(some 14), none, .mov (.t 64)⟩])
        (.seq (.reg [⟨(some 65), none, .mov (.t 9)⟩,
          ⟨(some 66), none, .mov (.t 13)⟩,
          ⟨(some 67), none, .mov (.t 11)⟩,
          ⟨(some 68), none, .bin .sub (.t 66) (.t 67)⟩,
          ⟨(some 69), none, .bslice 3 1 1 [(.t 68)]⟩,
          ⟨(some 70), none, .app 3 1 8 (.t 65) (.t 69)⟩,
          ⟨(some 9), none, .mov (.t 70)⟩])
        (.reg [⟨(some 71), none, .mov (.t 13)⟩,
          ⟨(some 11), none, .mov (.t 71)⟩])))))
      (.reg [⟨(some 50), none, .mov (.t 12)⟩,
        ⟨(some 51), none, .bin .add (.t 50) (.k (.d (.int .i64 1)))⟩,
        ⟨(some 12), none, .mov (.t 51)⟩]))))))
  (.seq (.reg [⟨(some 72), none, .mov (.t 9)⟩,
    ⟨(some 4), none, .mov (.t 72)⟩,
    ⟨(some 5), none, .mov (.k (.d (.int .i64 0)))⟩])
  .ret)))))))))))
def rs20 : List RV := [.tmp 4, .tmp 5]
theorem ok20 : okF Try.prog 20 = true := by kernel_rfl
theorem cc20 : cCode Try.prog Try.f20.ntmps (Try.f20.body.getD .skip) = some c20 := by kernel_rfl
theorem cr20 : cRess Try.prog Try.f20.results.toList = some rs20 := by kernel_rfl
theorem pure20 {args : List V} {res : V} (hlen : args.length ≤ 73) (hna : namesL args = []) (hnr : res.names = []) (h : ∀ c : Ctx, c.P = Try.prog → c.fn = [] → vcC c c20 ⟨initE 0 args, [], []⟩ (RetK c rs20 res [])) : Ctr Try.prog 20 args [] res [] [] :=
  ctr_pure Try.func20 ok20 rfl cc20 cr20 Try.ntmps20 hlen hna hnr h
theorem own20 {args : List V} {ins outs : List (Nat × Own)} {res : V} {new : List Nat} (hlen : args.length ≤ 73) (hf : ctrB args ins res outs new = true) (h : ∀ c : Ctx, c.P = Try.prog → c.fn = namesL args ++ ownNames ins → vcC c c20 ⟨initE 0 args, ins, namesL args ++ ownNames ins⟩ (RetK c rs20 res outs)) : Ctr Try.prog 20 args ins res outs new :=
  ctr_own Try.func20 ok20 rfl cc20 cr20 Try.ntmps20 hlen hf h

/-- bordereau/bordereauref01.Same -/
def c21 : C :=
  (.seq (.reg [⟨(some 4), none, .mov (.k (.d (.bool false)))⟩])
  (.seq (.seq (.reg [⟨(some 6), none, .mov (.t 0)⟩,
    ⟨(some 7), none, .len (.t 6)⟩,
    ⟨(some 8), none, .mov (.t 1)⟩,
    ⟨(some 9), none, .len (.t 8)⟩,
    ⟨(some 10), none, .bin .neq (.t 7) (.t 9)⟩])
  (.cond (.t 10) (.seq (.reg [⟨(some 4), none, .mov (.k (.d (.bool false)))⟩])
    .ret)
  .skip))
  (.seq (.seq (.reg [⟨(some 5), none, .mov (.k (.d (.int .i64 0)))⟩])
  (.block 0 (.loop (.seq (.seq (.reg [⟨(some 11), none, .mov (.t 5)⟩,
        ⟨(some 12), none, .mov (.t 0)⟩,
        ⟨(some 13), none, .len (.t 12)⟩,
        ⟨(some 14), none, .bin .lss (.t 11) (.t 13)⟩])
      (.cond (.t 14) .skip
      (.exit 0)))
      (.seq (.block 1 (.seq (.drw [0, 0, 3, 7, 0, 0, 48, 112, 255]
         [⟨(some 17), none, .mov (.t 0)⟩,
          ⟨(some 18), none, .mov (.t 5)⟩,
          ⟨(some 19), none, .iadr 1 (.t 17) (.t 18)⟩,
          ⟨(some 20), none, .load 1 false (.t 19)⟩,
          ⟨(some 21), none, .mov (.t 1)⟩,
          ⟨(some 22), none, .mov (.t 5)⟩,
          ⟨(some 23), none, .iadr 1 (.t 21) (.t 22)⟩,
          ⟨(some 24), none, .load 1 false (.t 23)⟩,
          ⟨(some 25), none, .bin .neq (.t 20) (.t 24)⟩])
        (.cond (.t 25) (.seq (.reg [⟨(some 4), none, .mov (.k (.d (.bool false)))⟩])
          .ret)
        .skip)))
      (.reg [⟨(some 15), none, .mov (.t 5)⟩,
        ⟨(some 16), none, .bin .add (.t 15) (.k (.d (.int .i64 1)))⟩,
        ⟨(some 5), none, .mov (.t 16)⟩]))))))
  (.seq (.reg [⟨(some 4), none, .mov (.k (.d (.bool true)))⟩])
  .ret))))
def rs21 : List RV := [.tmp 4]
theorem ok21 : okF Try.prog 21 = true := by kernel_rfl
theorem cc21 : cCode Try.prog Try.f21.ntmps (Try.f21.body.getD .skip) = some c21 := by kernel_rfl
theorem cr21 : cRess Try.prog Try.f21.results.toList = some rs21 := by kernel_rfl
theorem pure21 {args : List V} {res : V} (hlen : args.length ≤ 26) (hna : namesL args = []) (hnr : res.names = []) (h : ∀ c : Ctx, c.P = Try.prog → c.fn = [] → vcC c c21 ⟨initE 0 args, [], []⟩ (RetK c rs21 res [])) : Ctr Try.prog 21 args [] res [] [] :=
  ctr_pure Try.func21 ok21 rfl cc21 cr21 Try.ntmps21 hlen hna hnr h
theorem own21 {args : List V} {ins outs : List (Nat × Own)} {res : V} {new : List Nat} (hlen : args.length ≤ 26) (hf : ctrB args ins res outs new = true) (h : ∀ c : Ctx, c.P = Try.prog → c.fn = namesL args ++ ownNames ins → vcC c c21 ⟨initE 0 args, ins, namesL args ++ ownNames ins⟩ (RetK c rs21 res outs)) : Ctr Try.prog 21 args ins res outs new :=
  ctr_own Try.func21 ok21 rfl cc21 cr21 Try.ntmps21 hlen hf h

/-- bordereau/bordereauref01.Sum -/
def c22 : C :=
  (.seq (.reg [⟨(some 2), none, .mov (.k (.d (.int .i64 0)))⟩,
    ⟨(some 3), none, .mov (.k (.d (.bool false)))⟩])
  (.seq (.reg [⟨(some 4), none, .mov (.k (.d (.int .i64 0)))⟩])
  (.seq (.seq (.reg [⟨(some 5), none, .mov (.k (.d (.int .i64 0)))⟩])
  (.block 0 (.loop (.seq (.seq (.reg [⟨(some 6), none, .mov (.t 5)⟩,
        ⟨(some 7), none, .mov (.t 0)⟩,
        ⟨(some 8), none, .len (.t 7)⟩,
        ⟨(some 9), none, .bin .lss (.t 6) (.t 8)⟩])
      (.cond (.t 9) .skip
      (.exit 0)))
      (.seq (.block 1 (.seq (.seq (.reg [⟨(some 12), none, .mov (.t 0)⟩,
          ⟨(some 13), none, .mov (.t 5)⟩,
          ⟨(some 14), none, .iadr 1 (.t 12) (.t 13)⟩,
          ⟨(some 15), none, .load 1 false (.t 14)⟩,
          ⟨(some 16), none, .mov (.t 4)⟩,
          ⟨(some 17), none, .bin .sub (.k (.d (.int .i64 4000000000000000000))) (.t 16)⟩,
          ⟨(some 18), none, .bin .gtr (.t 15) (.t 17)⟩])
        (.cond (.t 18) (.seq (.reg [⟨(some 2), none, .mov (.k (.d (.int .i64 0)))⟩,
            ⟨(some 3), none, .mov (.k (.d (.bool false)))⟩])
          .ret)
        .skip))
        (.reg [⟨(some 19), none, .mov (.t 4)⟩,
          ⟨(some 20), none, .mov (.t 0)⟩,
          ⟨(some 21), none, .mov (.t 5)⟩,
          ⟨(some 22), none, .iadr 1 (.t 20) (.t 21)⟩,
          ⟨(some 23), none, .load 1 false (.t 22)⟩,
          ⟨(some 24), none, .bin .add (.t 19) (.t 23)⟩,
          ⟨(some 4), none, .mov (.t 24)⟩])))
      (.reg [⟨(some 10), none, .mov (.t 5)⟩,
        ⟨(some 11), none, .bin .add (.t 10) (.k (.d (.int .i64 1)))⟩,
        ⟨(some 5), none, .mov (.t 11)⟩]))))))
  (.seq (.reg [⟨(some 25), none, .mov (.t 4)⟩,
    ⟨(some 2), none, .mov (.t 25)⟩,
    ⟨(some 3), none, .mov (.k (.d (.bool true)))⟩])
  .ret))))
def rs22 : List RV := [.tmp 2, .tmp 3]
theorem ok22 : okF Try.prog 22 = true := by kernel_rfl
theorem cc22 : cCode Try.prog Try.f22.ntmps (Try.f22.body.getD .skip) = some c22 := by kernel_rfl
theorem cr22 : cRess Try.prog Try.f22.results.toList = some rs22 := by kernel_rfl
theorem pure22 {args : List V} {res : V} (hlen : args.length ≤ 26) (hna : namesL args = []) (hnr : res.names = []) (h : ∀ c : Ctx, c.P = Try.prog → c.fn = [] → vcC c c22 ⟨initE 0 args, [], []⟩ (RetK c rs22 res [])) : Ctr Try.prog 22 args [] res [] [] :=
  ctr_pure Try.func22 ok22 rfl cc22 cr22 Try.ntmps22 hlen hna hnr h
theorem own22 {args : List V} {ins outs : List (Nat × Own)} {res : V} {new : List Nat} (hlen : args.length ≤ 26) (hf : ctrB args ins res outs new = true) (h : ∀ c : Ctx, c.P = Try.prog → c.fn = namesL args ++ ownNames ins → vcC c c22 ⟨initE 0 args, ins, namesL args ++ ownNames ins⟩ (RetK c rs22 res outs)) : Ctr Try.prog 22 args ins res outs new :=
  ctr_own Try.func22 ok22 rfl cc22 cr22 Try.ntmps22 hlen hf h

/-- bordereau/bordereauref01.Two -/
def c23 : C :=
  (.seq (.reg [⟨(some 6), none, .mov (.k (.d (.int .i64 0)))⟩,
    ⟨(some 7), none, .mov (.k (.d (.int .i64 0)))⟩,
    ⟨(some 8), none, .mov (.k (.d (.bool false)))⟩])
  (.seq (.reg [⟨(some 9), none, .mov (.k (.d (.int .u64 0)))⟩])
  (.seq (.reg [⟨(some 10), none, .mov (.k (.d (.int .u64 0)))⟩])
  (.seq (.reg [⟨(some 15), none, .mov (.t 2)⟩,
    ⟨(some 16), none, .conv .u64 (.t 15)⟩,
    ⟨(some 11), none, .mov (.t 16)⟩])
  (.seq (.reg [⟨(some 17), none, .mov (.t 1)⟩,
    ⟨(some 18), none, .conv .u64 (.t 17)⟩,
    ⟨(some 19), none, .mov (.t 11)⟩,
    ⟨(some 20), none, .bin .quo (.t 18) (.t 19)⟩,
    ⟨(some 12), none, .mov (.t 20)⟩])
  (.seq (.reg [⟨(some 21), none, .mov (.t 1)⟩,
    ⟨(some 22), none, .conv .u64 (.t 21)⟩,
    ⟨(some 23), none, .mov (.t 11)⟩,
    ⟨(some 24), none, .bin .rem (.t 22) (.t 23)⟩,
    ⟨(some 13), none, .mov (.t 24)⟩])
  (.seq (.seq (.reg [⟨(some 14), none, .mov (.k (.d (.int .i64 62)))⟩])
  (.block 0 (.loop (.seq (.seq (.reg [⟨(some 25), none, .mov (.t 14)⟩,
        ⟨(some 26), none, .bin .geq (.t 25) (.k (.d (.int .i64 0)))⟩])
      (.cond (.t 26) .skip
      (.exit 0)))
      (.seq (.block 1 (.seq (.reg [⟨(some 29), none, .mov (.t 9)⟩,
          ⟨(some 30), none, .bin .mul (.k (.d (.int .u64 2))) (.t 29)⟩,
          ⟨(some 9), none, .mov (.t 30)⟩])
        (.seq (.reg [⟨(some 31), none, .mov (.t 10)⟩,
          ⟨(some 32), none, .bin .mul (.k (.d (.int .u64 2))) (.t 31)⟩,
          ⟨(some 10), none, .mov (.t 32)⟩])
        (.seq (.seq (.reg [⟨(some 33), none, .mov (.t 10)⟩,
          ⟨(some 34), none, .mov (.t 11)⟩,
          ⟨(some 35), none, .bin .geq (.t 33) (.t 34)⟩])
        (.cond (.t 35) (.seq (.reg [⟨(some 36), none, .mov (.t 10)⟩,
            ⟨(some 37), none, .mov (.t 11)⟩,
            ⟨(some 38), none, .bin .sub (.t 36) (.t 37)⟩,
            ⟨(some 10), none, .mov (.t 38)⟩])
          (.reg [⟨(some 39), none, .mov (.t 9)⟩,
            ⟨(some 40), none, .bin .add (.t 39) (.k (.d (.int .u64 1)))⟩,
            ⟨(some 9), none, .mov (.t 40)⟩]))
        .skip))
        (.seq (.seq (.reg [⟨(some 41), none, .mov (.t 0)⟩,
          ⟨(some 42), none, .mov (.t 14)⟩,
          ⟨(some 43), none, .shf false (.t 41) (.t 42)⟩,
          ⟨(some 44), none, .bin .rem (.t 43) (.k (.d (.int .i64 2)))⟩,
          ⟨(some 45), none, .bin .eql (.t 44) (.k (.d (.int .i64 1)))⟩])
        (.cond (.t 45) (.seq (.reg [⟨(some 46), none, .mov (.t 9)⟩,
            ⟨(some 47), none, .mov (.t 12)⟩,
            ⟨(some 48), none, .bin .add (.t 46) (.t 47)⟩,
            ⟨(some 9), none, .mov (.t 48)⟩])
          (.seq (.reg [⟨(some 49), none, .mov (.t 10)⟩,
            ⟨(some 50), none, .mov (.t 13)⟩,
            ⟨(some 51), none, .bin .add (.t 49) (.t 50)⟩,
            ⟨(some 10), none, .mov (.t 51)⟩])
          (.seq (.reg [⟨(some 52), none, .mov (.t 10)⟩,
            ⟨(some 53), none, .mov (.t 11)⟩,
            ⟨(some 54), none, .bin .geq (.t 52) (.t 53)⟩])
          (.cond (.t 54) (.seq (.reg [⟨(some 55), none, .mov (.t 10)⟩,
              ⟨(some 56), none, .mov (.t 11)⟩,
              ⟨(some 57), none, .bin .sub (.t 55) (.t 56)⟩,
              ⟨(some 10), none, .mov (.t 57)⟩])
            (.reg [⟨(some 58), none, .mov (.t 9)⟩,
              ⟨(some 59), none, .bin .add (.t 58) (.k (.d (.int .u64 1)))⟩,
              ⟨(some 9), none, .mov (.t 59)⟩]))
          .skip))))
        .skip))
        (.seq (.reg [⟨(some 60), none, .mov (.t 9)⟩,
          ⟨(some 61), none, .bin .gtr (.t 60) (.k (.d (.int .u64 4000000000000000000)))⟩])
        (.cond (.t 61) (.seq (.reg [⟨(some 6), none, .mov (.k (.d (.int .i64 0)))⟩,
            ⟨(some 7), none, .mov (.k (.d (.int .i64 0)))⟩,
            ⟨(some 8), none, .mov (.k (.d (.bool false)))⟩])
          .ret)
        .skip)))))))
      (.reg [⟨(some 27), none, .mov (.t 14)⟩,
        ⟨(some 28), none, .bin .sub (.t 27) (.k (.d (.int .i64 1)))⟩,
        ⟨(some 14), none, .mov (.t 28)⟩]))))))
  (.seq (.reg [⟨(some 62), none, .mov (.t 9)⟩,
    ⟨(some 63), none, .conv .i64 (.t 62)⟩,
    ⟨(some 64), none, .mov (.t 10)⟩,
    ⟨(some 65), none, .conv .i64 (.t 64)⟩,
    ⟨(some 6), none, .mov (.t 63)⟩,
    ⟨(some 7), none, .mov (.t 65)⟩,
    ⟨(some 8), none, .mov (.k (.d (.bool true)))⟩])
  .ret))))))))
def rs23 : List RV := [.tmp 6, .tmp 7, .tmp 8]
theorem ok23 : okF Try.prog 23 = true := by kernel_rfl
theorem cc23 : cCode Try.prog Try.f23.ntmps (Try.f23.body.getD .skip) = some c23 := by kernel_rfl
theorem cr23 : cRess Try.prog Try.f23.results.toList = some rs23 := by kernel_rfl
theorem pure23 {args : List V} {res : V} (hlen : args.length ≤ 66) (hna : namesL args = []) (hnr : res.names = []) (h : ∀ c : Ctx, c.P = Try.prog → c.fn = [] → vcC c c23 ⟨initE 0 args, [], []⟩ (RetK c rs23 res [])) : Ctr Try.prog 23 args [] res [] [] :=
  ctr_pure Try.func23 ok23 rfl cc23 cr23 Try.ntmps23 hlen hna hnr h
theorem own23 {args : List V} {ins outs : List (Nat × Own)} {res : V} {new : List Nat} (hlen : args.length ≤ 66) (hf : ctrB args ins res outs new = true) (h : ∀ c : Ctx, c.P = Try.prog → c.fn = namesL args ++ ownNames ins → vcC c c23 ⟨initE 0 args, ins, namesL args ++ ownNames ins⟩ (RetK c rs23 res outs)) : Ctr Try.prog 23 args ins res outs new :=
  ctr_own Try.func23 ok23 rfl cc23 cr23 Try.ntmps23 hlen hf h

/-- bordereau/num.down -/
def c24 : C :=
  (.seq (.reg [⟨(some 0), none, .alloc 43 [.d (.raw .nilFunc)]⟩])
  (.seq (.reg [⟨(some 1), none, .build [.d (.raw .nilFunc)] [(0, 1, (.k (.fn (.func 29) [] [])))]⟩,
    ⟨none, none, .store 1 (.t 0) (.t 1)⟩])
  .ret))
def rs24 : List RV := [.cell 0 1 true]
theorem ok24 : okF Try.prog 24 = true := by kernel_rfl
theorem cc24 : cCode Try.prog Try.f24.ntmps (Try.f24.body.getD .skip) = some c24 := by kernel_rfl
theorem cr24 : cRess Try.prog Try.f24.results.toList = some rs24 := by kernel_rfl
theorem pure24 {args : List V} {res : V} (hlen : args.length ≤ 2) (hna : namesL args = []) (hnr : res.names = []) (h : ∀ c : Ctx, c.P = Try.prog → c.fn = [] → vcC c c24 ⟨initE 0 args, [], []⟩ (RetK c rs24 res [])) : Ctr Try.prog 24 args [] res [] [] :=
  ctr_pure Try.func24 ok24 rfl cc24 cr24 Try.ntmps24 hlen hna hnr h
theorem own24 {args : List V} {ins outs : List (Nat × Own)} {res : V} {new : List Nat} (hlen : args.length ≤ 2) (hf : ctrB args ins res outs new = true) (h : ∀ c : Ctx, c.P = Try.prog → c.fn = namesL args ++ ownNames ins → vcC c c24 ⟨initE 0 args, ins, namesL args ++ ownNames ins⟩ (RetK c rs24 res outs)) : Ctr Try.prog 24 args ins res outs new :=
  ctr_own Try.func24 ok24 rfl cc24 cr24 Try.ntmps24 hlen hf h

/-- (bordereau/num.rounding).of -/
def c25 : C :=
  (.seq (.reg [⟨(some 4), none, .box 43 (.t 0)⟩,
    ⟨(some 8), none, .mov (.k (.d (.int .i64 0)))⟩,
    ⟨(some 9), none, .mov (.k (.d (.int .i64 0)))⟩])
  (.seq (.block 0 (.seq (.reg [⟨(some 15), none, .mov (.t 1)⟩,
      ⟨(some 16), none, .bin .lss (.t 15) (.k (.d (.int .i64 0)))⟩,
      ⟨(some 17), none, .mov (.t 16)⟩,
      ⟨(some 18), (some (17, false)), .mov (.t 2)⟩,
      ⟨(some 19), (some (17, false)), .bin .lss (.t 18) (.k (.d (.int .i64 0)))⟩,
      ⟨(some 20), none, .pick (.t 17) (.k (.d (.bool true))) (.t 19)⟩,
      ⟨(some 21), none, .mov (.t 20)⟩,
      ⟨(some 22), (some (21, false)), .mov (.t 3)⟩,
      ⟨(some 23), (some (21, false)), .bin .lss (.t 22) (.k (.d (.int .i64 0)))⟩,
      ⟨(some 24), none, .pick (.t 21) (.k (.d (.bool true))) (.t 23)⟩,
      ⟨(some 14), none, .mov (.t 24)⟩])
    (.cond (.t 14) (.seq (.reg [⟨(some 8), none, .mov (.k (.d (.int .i64 0)))⟩,
        ⟨(some 9), none, .mov (.k (.d (.int .i64 1)))⟩])
      .ret)
    (.seq (.reg [⟨(some 26), none, .mov (.t 3)⟩,
        ⟨(some 27), none, .bin .eql (.t 26) (.k (.d (.int .i64 0)))⟩,
        ⟨(some 25), none, .mov (.t 27)⟩])
      (.cond (.t 25) (.seq (.reg [⟨(some 8), none, .mov (.k (.d (.int .i64 0)))⟩,
          ⟨(some 9), none, .mov (.k (.d (.int .i64 6)))⟩])
        .ret)
      .skip)))))
  (.seq (.reg [⟨(some 29), none, .mov (.t 1)⟩,
    ⟨(some 30), none, .conv .u64 (.t 29)⟩,
    ⟨(some 31), none, .mov (.t 2)⟩,
    ⟨(some 32), none, .conv .u64 (.t 31)⟩,
    ⟨(some 33), none, .call 30 [(.t 30), (.t 32)]⟩,
    ⟨(some 28), none, .mov (.t 33)⟩,
    ⟨(some 34), none, .ext 0 (.t 28)⟩,
    ⟨(some 35), none, .ext 1 (.t 28)⟩,
    ⟨(some 10), none, .mov (.t 34)⟩,
    ⟨(some 11), none, .mov (.t 35)⟩])
  (.seq (.seq (.reg [⟨(some 36), none, .mov (.t 10)⟩,
    ⟨(some 37), none, .mov (.t 3)⟩,
    ⟨(some 38), none, .conv .u64 (.t 37)⟩,
    ⟨(some 39), none, .bin .geq (.t 36) (.t 38)⟩])
  (.cond (.t 39) (.seq (.reg [⟨(some 8), none, .mov (.k (.d (.int .i64 0)))⟩,
      ⟨(some 9), none, .mov (.k (.d (.int .i64 5)))⟩])
    .ret)
  .skip))
  (.seq (.reg [⟨(some 41), none, .mov (.t 10)⟩,
    ⟨(some 42), none, .mov (.t 11)⟩,
    ⟨(some 43), none, .mov (.t 3)⟩,
    ⟨(some 44), none, .conv .u64 (.t 43)⟩,
    ⟨(some 45), none, .call 31 [(.t 41), (.t 42), (.t 44)]⟩,
    ⟨(some 40), none, .mov (.t 45)⟩,
    ⟨(some 46), none, .ext 0 (.t 40)⟩,
    ⟨(some 47), none, .ext 1 (.t 40)⟩,
    ⟨(some 12), none, .mov (.t 46)⟩,
    ⟨(some 13), none, .mov (.t 47)⟩])
  (.seq (.seq (.reg [⟨(some 48), none, .mov (.t 12)⟩,
    ⟨(some 49), none, .bin .gtr (.t 48) (.k (.d (.int .u64 4000000000000000000)))⟩])
  (.cond (.t 49) (.seq (.reg [⟨(some 8), none, .mov (.k (.d (.int .i64 0)))⟩,
      ⟨(some 9), none, .mov (.k (.d (.int .i64 5)))⟩])
    .ret)
  .skip))
  (.seq (.seq (.reg [⟨(some 50), none, .fadr 0 (.t 4)⟩,
    ⟨(some 51), none, .load 1 false (.t 50)⟩,
    ⟨(some 52), none, .mov (.t 12)⟩,
    ⟨(some 53), none, .mov (.t 13)⟩,
    ⟨(some 54), none, .mov (.t 3)⟩,
    ⟨(some 55), none, .conv .u64 (.t 54)⟩,
    ⟨(some 56), none, .callv (.t 51) [(.t 52), (.t 53), (.t 55)]⟩])
  (.cond (.t 56) (.reg [⟨(some 57), none, .mov (.t 12)⟩,
      ⟨(some 58), none, .bin .add (.t 57) (.k (.d (.int .u64 1)))⟩,
      ⟨(some 12), none, .mov (.t 58)⟩])
  .skip))
  (.seq (.seq (.reg [⟨(some 59), none, .mov (.t 12)⟩,
    ⟨(some 60), none, .bin .gtr (.t 59) (.k (.d (.int .u64 4000000000000000000)))⟩])
  (.cond (.t 60) (.seq (.reg [⟨(some 8), none, .mov (.k (.d (.int .i64 0)))⟩,
      ⟨(some 9), none, .mov (.k (.d (.int .i64 5)))⟩])
    .ret)
  .skip))
  (.seq (.reg [⟨(some 61), none, .mov (.t 12)⟩,
    ⟨(some 62), none, .conv .i64 (.t 61)⟩,
    ⟨(some 8), none, .mov (.t 62)⟩,
    ⟨(some 9), none, .mov (.k (.d (.int .i64 0)))⟩])
  .ret)))))))))
def rs25 : List RV := [.tmp 8, .tmp 9]
theorem ok25 : okF Try.prog 25 = true := by kernel_rfl
theorem cc25 : cCode Try.prog Try.f25.ntmps (Try.f25.body.getD .skip) = some c25 := by kernel_rfl
theorem cr25 : cRess Try.prog Try.f25.results.toList = some rs25 := by kernel_rfl
theorem pure25 {args : List V} {res : V} (hlen : args.length ≤ 63) (hna : namesL args = []) (hnr : res.names = []) (h : ∀ c : Ctx, c.P = Try.prog → c.fn = [] → vcC c c25 ⟨initE 0 args, [], []⟩ (RetK c rs25 res [])) : Ctr Try.prog 25 args [] res [] [] :=
  ctr_pure Try.func25 ok25 rfl cc25 cr25 Try.ntmps25 hlen hna hnr h
theorem own25 {args : List V} {ins outs : List (Nat × Own)} {res : V} {new : List Nat} (hlen : args.length ≤ 63) (hf : ctrB args ins res outs new = true) (h : ∀ c : Ctx, c.P = Try.prog → c.fn = namesL args ++ ownNames ins → vcC c c25 ⟨initE 0 args, ins, namesL args ++ ownNames ins⟩ (RetK c rs25 res outs)) : Ctr Try.prog 25 args ins res outs new :=
  ctr_own Try.func25 ok25 rfl cc25 cr25 Try.ntmps25 hlen hf h

/-- bordereau/bordereauref01.check -/
def c26 : C :=
  (.seq (.reg [⟨(some 6), none, .mov (.k (.d (.int .i64 0)))⟩])
  (.seq (.seq (.reg [⟨(some 7), none, .mov (.t 0)⟩,
    ⟨(some 8), none, .bin .lss (.t 7) (.k (.d (.int .i64 0)))⟩,
    ⟨(some 9), none, .mov (.t 8)⟩,
    ⟨(some 10), (some (9, false)), .mov (.t 1)⟩,
    ⟨(some 11), (some (9, false)), .bin .lss (.t 10) (.k (.d (.int .i64 0)))⟩,
    ⟨(some 12), none, .pick (.t 9) (.k (.d (.bool true))) (.t 11)⟩,
    ⟨(some 13), none, .mov (.t 12)⟩,
    ⟨(some 14), (some (13, false)), .mov (.t 2)⟩,
    ⟨(some 15), (some (13, false)), .bin .lss (.t 14) (.k (.d (.int .i64 0)))⟩,
    ⟨(some 16), none, .pick (.t 13) (.k (.d (.bool true))) (.t 15)⟩])
  (.cond (.t 16) (.seq (.reg [⟨(some 6), none, .mov (.k (.d (.int .i64 1)))⟩])
    .ret)
  .skip))
  (.seq (.seq (.reg [⟨(some 17), none, .mov (.t 2)⟩,
    ⟨(some 18), none, .bin .eql (.t 17) (.k (.d (.int .i64 0)))⟩])
  (.cond (.t 18) (.seq (.reg [⟨(some 6), none, .mov (.k (.d (.int .i64 6)))⟩])
    .ret)
  .skip))
  (.seq (.reg [⟨(some 6), none, .mov (.k (.d (.int .i64 0)))⟩])
  .ret))))
def rs26 : List RV := [.tmp 6]
theorem ok26 : okF Try.prog 26 = true := by kernel_rfl
theorem cc26 : cCode Try.prog Try.f26.ntmps (Try.f26.body.getD .skip) = some c26 := by kernel_rfl
theorem cr26 : cRess Try.prog Try.f26.results.toList = some rs26 := by kernel_rfl
theorem pure26 {args : List V} {res : V} (hlen : args.length ≤ 19) (hna : namesL args = []) (hnr : res.names = []) (h : ∀ c : Ctx, c.P = Try.prog → c.fn = [] → vcC c c26 ⟨initE 0 args, [], []⟩ (RetK c rs26 res [])) : Ctr Try.prog 26 args [] res [] [] :=
  ctr_pure Try.func26 ok26 rfl cc26 cr26 Try.ntmps26 hlen hna hnr h
theorem own26 {args : List V} {ins outs : List (Nat × Own)} {res : V} {new : List Nat} (hlen : args.length ≤ 19) (hf : ctrB args ins res outs new = true) (h : ∀ c : Ctx, c.P = Try.prog → c.fn = namesL args ++ ownNames ins → vcC c c26 ⟨initE 0 args, ins, namesL args ++ ownNames ins⟩ (RetK c rs26 res outs)) : Ctr Try.prog 26 args ins res outs new :=
  ctr_own Try.func26 ok26 rfl cc26 cr26 Try.ntmps26 hlen hf h

/-- bordereau/num.even -/
def c27 : C :=
  (.seq (.reg [⟨(some 0), none, .alloc 43 [.d (.raw .nilFunc)]⟩])
  (.seq (.reg [⟨(some 1), none, .build [.d (.raw .nilFunc)] [(0, 1, (.k (.fn (.func 32) [] [])))]⟩,
    ⟨none, none, .store 1 (.t 0) (.t 1)⟩])
  .ret))
def rs27 : List RV := [.cell 0 1 true]
theorem ok27 : okF Try.prog 27 = true := by kernel_rfl
theorem cc27 : cCode Try.prog Try.f27.ntmps (Try.f27.body.getD .skip) = some c27 := by kernel_rfl
theorem cr27 : cRess Try.prog Try.f27.results.toList = some rs27 := by kernel_rfl
theorem pure27 {args : List V} {res : V} (hlen : args.length ≤ 2) (hna : namesL args = []) (hnr : res.names = []) (h : ∀ c : Ctx, c.P = Try.prog → c.fn = [] → vcC c c27 ⟨initE 0 args, [], []⟩ (RetK c rs27 res [])) : Ctr Try.prog 27 args [] res [] [] :=
  ctr_pure Try.func27 ok27 rfl cc27 cr27 Try.ntmps27 hlen hna hnr h
theorem own27 {args : List V} {ins outs : List (Nat × Own)} {res : V} {new : List Nat} (hlen : args.length ≤ 2) (hf : ctrB args ins res outs new = true) (h : ∀ c : Ctx, c.P = Try.prog → c.fn = namesL args ++ ownNames ins → vcC c c27 ⟨initE 0 args, ins, namesL args ++ ownNames ins⟩ (RetK c rs27 res outs)) : Ctr Try.prog 27 args ins res outs new :=
  ctr_own Try.func27 ok27 rfl cc27 cr27 Try.ntmps27 hlen hf h

/-- bordereau/num.runner -/
def c28 : C :=
  (.seq (.reg [⟨(some 0), none, .mov (.k (.d (.raw .nilFunc)))⟩])
  (.seq (.reg [⟨(some 1), none, .alloc 3 [.d (.int .i64 0)]⟩,
    ⟨none, none, .store 1 (.t 1) (.k (.d (.int .i64 0)))⟩])
  (.seq (.reg [⟨(some 2), none, .mkfn (.func 33) [] [(.t 1)]⟩,
    ⟨(some 0), none, .mov (.t 2)⟩])
  .ret)))
def rs28 : List RV := [.tmp 0]
theorem ok28 : okF Try.prog 28 = true := by kernel_rfl
theorem cc28 : cCode Try.prog Try.f28.ntmps (Try.f28.body.getD .skip) = some c28 := by kernel_rfl
theorem cr28 : cRess Try.prog Try.f28.results.toList = some rs28 := by kernel_rfl
theorem pure28 {args : List V} {res : V} (hlen : args.length ≤ 3) (hna : namesL args = []) (hnr : res.names = []) (h : ∀ c : Ctx, c.P = Try.prog → c.fn = [] → vcC c c28 ⟨initE 0 args, [], []⟩ (RetK c rs28 res [])) : Ctr Try.prog 28 args [] res [] [] :=
  ctr_pure Try.func28 ok28 rfl cc28 cr28 Try.ntmps28 hlen hna hnr h
theorem own28 {args : List V} {ins outs : List (Nat × Own)} {res : V} {new : List Nat} (hlen : args.length ≤ 3) (hf : ctrB args ins res outs new = true) (h : ∀ c : Ctx, c.P = Try.prog → c.fn = namesL args ++ ownNames ins → vcC c c28 ⟨initE 0 args, ins, namesL args ++ ownNames ins⟩ (RetK c rs28 res outs)) : Ctr Try.prog 28 args ins res outs new :=
  ctr_own Try.func28 ok28 rfl cc28 cr28 Try.ntmps28 hlen hf h

/-- bordereau/num.down$1 -/
def c29 : C :=
  (.seq (.reg [⟨(some 6), none, .mov (.k (.d (.bool false)))⟩])
  (.seq (.reg [⟨(some 6), none, .mov (.k (.d (.bool false)))⟩])
  .ret))
def rs29 : List RV := [.tmp 6]
theorem ok29 : okF Try.prog 29 = true := by kernel_rfl
theorem cc29 : cCode Try.prog Try.f29.ntmps (Try.f29.body.getD .skip) = some c29 := by kernel_rfl
theorem cr29 : cRess Try.prog Try.f29.results.toList = some rs29 := by kernel_rfl
theorem pure29 {args : List V} {res : V} (hlen : args.length ≤ 7) (hna : namesL args = []) (hnr : res.names = []) (h : ∀ c : Ctx, c.P = Try.prog → c.fn = [] → vcC c c29 ⟨initE 0 args, [], []⟩ (RetK c rs29 res [])) : Ctr Try.prog 29 args [] res [] [] :=
  ctr_pure Try.func29 ok29 rfl cc29 cr29 Try.ntmps29 hlen hna hnr h
theorem own29 {args : List V} {ins outs : List (Nat × Own)} {res : V} {new : List Nat} (hlen : args.length ≤ 7) (hf : ctrB args ins res outs new = true) (h : ∀ c : Ctx, c.P = Try.prog → c.fn = namesL args ++ ownNames ins → vcC c c29 ⟨initE 0 args, ins, namesL args ++ ownNames ins⟩ (RetK c rs29 res outs)) : Ctr Try.prog 29 args ins res outs new :=
  ctr_own Try.func29 ok29 rfl cc29 cr29 Try.ntmps29 hlen hf h

/-- math/bits.Mul64 -/
def c30 : C :=
  (.seq (.reg [⟨(some 4), none, .mov (.k (.d (.int .u64 0)))⟩,
    ⟨(some 5), none, .mov (.k (.d (.int .u64 0)))⟩])
  (.seq (.reg [⟨(some 14), none, .mov (.t 0)⟩,
    ⟨(some 15), none, .bin .and (.t 14) (.k (.d (.int .u64 4294967295)))⟩,
    ⟨(some 6), none, .mov (.t 15)⟩])
  (.seq (.reg [⟨(some 16), none, .mov (.t 0)⟩,
    ⟨(some 17), none, .shf false (.t 16) (.k (.d (.int .u64 32)))⟩,
    ⟨(some 7), none, .mov (.t 17)⟩])
  (.seq (.reg [⟨(some 18), none, .mov (.t 1)⟩,
    ⟨(some 19), none, .bin .and (.t 18) (.k (.d (.int .u64 4294967295)))⟩,
    ⟨(some 8), none, .mov (.t 19)⟩])
  (.seq (.reg [⟨(some 20), none, .mov (.t 1)⟩,
    ⟨(some 21), none, .shf false (.t 20) (.k (.d (.int .u64 32)))⟩,
    ⟨(some 9), none, .mov (.t 21)⟩])
  (.seq (.reg [⟨(some 22), none, .mov (.t 6)⟩,
    ⟨(some 23), none, .mov (.t 8)⟩,
    ⟨(some 24), none, .bin .mul (.t 22) (.t 23)⟩,
    ⟨(some 10), none, .mov (.t 24)⟩])
  (.seq (.reg [⟨(some 25), none, .mov (.t 7)⟩,
    ⟨(some 26), none, .mov (.t 8)⟩,
    ⟨(some 27), none, .bin .mul (.t 25) (.t 26)⟩,
    ⟨(some 28), none, .mov (.t 10)⟩,
    ⟨(some 29), none, .shf false (.t 28) (.k (.d (.int .u64 32)))⟩,
    ⟨(some 30), none, .bin .add (.t 27) (.t 29)⟩,
    ⟨(some 11), none, .mov (.t 30)⟩])
  (.seq (.reg [⟨(some 31), none, .mov (.t 11)⟩,
    ⟨(some 32), none, .bin .and (.t 31) (.k (.d (.int .u64 4294967295)))⟩,
    ⟨(some 12), none, .mov (.t 32)⟩])
  (.seq (.reg [⟨(some 33), none, .mov (.t 11)⟩,
    ⟨(some 34), none, .shf false (.t 33) (.k (.d (.int .u64 32)))⟩,
    ⟨(some 13), none, .mov (.t 34)⟩])
  (.seq (.reg [⟨(some 35), none, .mov (.t 12)⟩,
    ⟨(some 36), none, .mov (.t 6)⟩,
    ⟨(some 37), none, .mov (.t 9)⟩,
    ⟨(some 38), none, .bin .mul (.t 36) (.t 37)⟩,
    ⟨(some 39), none, .bin .add (.t 35) (.t 38)⟩,
    ⟨(some 12), none, .mov (.t 39)⟩])
  (.seq (.reg [⟨(some 40), none, .mov (.t 7)⟩,
    ⟨(some 41), none, .mov (.t 9)⟩,
    ⟨(some 42), none, .bin .mul (.t 40) (.t 41)⟩,
    ⟨(some 43), none, .mov (.t 13)⟩,
    ⟨(some 44), none, .bin .add (.t 42) (.t 43)⟩,
    ⟨(some 45), none, .mov (.t 12)⟩,
    ⟨(some 46), none, .shf false (.t 45) (.k (.d (.int .u64 32)))⟩,
    ⟨(some 47), none, .bin .add (.t 44) (.t 46)⟩,
    ⟨(some 4), none, .mov (.t 47)⟩])
  (.seq (.reg [⟨(some 48), none, .mov (.t 0)⟩,
    ⟨(some 49), none, .mov (.t 1)⟩,
    ⟨(some 50), none, .bin .mul (.t 48) (.t 49)⟩,
    ⟨(some 5), none, .mov (.t 50)⟩])
  .ret))))))))))))
def rs30 : List RV := [.tmp 4, .tmp 5]
theorem ok30 : okF Try.prog 30 = true := by kernel_rfl
theorem cc30 : cCode Try.prog Try.f30.ntmps (Try.f30.body.getD .skip) = some c30 := by kernel_rfl
theorem cr30 : cRess Try.prog Try.f30.results.toList = some rs30 := by kernel_rfl
theorem pure30 {args : List V} {res : V} (hlen : args.length ≤ 51) (hna : namesL args = []) (hnr : res.names = []) (h : ∀ c : Ctx, c.P = Try.prog → c.fn = [] → vcC c c30 ⟨initE 0 args, [], []⟩ (RetK c rs30 res [])) : Ctr Try.prog 30 args [] res [] [] :=
  ctr_pure Try.func30 ok30 rfl cc30 cr30 Try.ntmps30 hlen hna hnr h
theorem own30 {args : List V} {ins outs : List (Nat × Own)} {res : V} {new : List Nat} (hlen : args.length ≤ 51) (hf : ctrB args ins res outs new = true) (h : ∀ c : Ctx, c.P = Try.prog → c.fn = namesL args ++ ownNames ins → vcC c c30 ⟨initE 0 args, ins, namesL args ++ ownNames ins⟩ (RetK c rs30 res outs)) : Ctr Try.prog 30 args ins res outs new :=
  ctr_own Try.func30 ok30 rfl cc30 cr30 Try.ntmps30 hlen hf h

/-- math/bits.Div64 -/
def c31 : C :=
  (.seq (.reg [⟨(some 6), none, .mov (.k (.d (.int .u64 0)))⟩,
    ⟨(some 7), none, .mov (.k (.d (.int .u64 0)))⟩])
  (.seq (.seq (.reg [⟨(some 19), none, .mov (.t 2)⟩,
    ⟨(some 20), none, .bin .eql (.t 19) (.k (.d (.int .u64 0)))⟩])
  (.cond (.t 20) .bad
  .skip))
  (.seq (.seq (.reg [⟨(some 22), none, .mov (.t 2)⟩,
    ⟨(some 23), none, .mov (.t 0)⟩,
    ⟨(some 24), none, .bin .leq (.t 22) (.t 23)⟩])
  (.cond (.t 24) .bad
  .skip))
  (.seq (.seq (.reg [⟨(some 26), none, .mov (.t 0)⟩,
    ⟨(some 27), none, .bin .eql (.t 26) (.k (.d (.int .u64 0)))⟩])
  (.cond (.t 27) (.seq (.drw [0, 0, 3, 0, 0, 24, 7, 127]
     [⟨(some 28), none, .mov (.t 1)⟩,
      ⟨(some 29), none, .mov (.t 2)⟩,
      ⟨(some 30), none, .bin .quo (.t 28) (.t 29)⟩,
      ⟨(some 31), none, .mov (.t 1)⟩,
      ⟨(some 32), none, .mov (.t 2)⟩,
      ⟨(some 33), none, .bin .rem (.t 31) (.t 32)⟩,
      ⟨(some 6), none, .mov (.t 30)⟩,
      ⟨(some 7), none, .mov (.t 33)⟩])
    .ret)
  .skip))
  (.seq (.reg [⟨(some 34), none, .mov (.t 2)⟩,
    ⟨(some 35), none, .call 34 [(.t 34)]⟩,
    ⟨(some 36), none, .conv .u64 (.t 35)⟩,
    ⟨(some 8), none, .mov (.t 36)⟩])
  (.seq (.reg [⟨(some 37), none, .mov (.t 2)⟩,
    ⟨(some 38), none, .mov (.t 8)⟩,
    ⟨(some 39), none, .shf true (.t 37) (.t 38)⟩,
    ⟨(some 2), none, .mov (.t 39)⟩])
  (.seq (.reg [⟨(some 40), none, .mov (.t 2)⟩,
    ⟨(some 41), none, .shf false (.t 40) (.k (.d (.int .u64 32)))⟩,
    ⟨(some 9), none, .mov (.t 41)⟩])
  (.seq (.reg [⟨(some 42), none, .mov (.t 2)⟩,
    ⟨(some 43), none, .bin .and (.t 42) (.k (.d (.int .u64 4294967295)))⟩,
    ⟨(some 10), none, .mov (.t 43)⟩])
  (.seq (.reg [⟨(some 44), none, .mov (.t 0)⟩,
    ⟨(some 45), none, .mov (.t 8)⟩,
    ⟨(some 46), none, .shf true (.t 44) (.t 45)⟩,
    ⟨(some 47), none, .mov (.t 1)⟩,
    ⟨(some 48), none, .mov (.t 8)⟩,
    ⟨(some 49), none, .bin .sub (.k (.d (.int .u64 64))) (.t 48)⟩,
    ⟨(some 50), none, .shf false (.t 47) (.t 49)⟩,
    ⟨(some 51), none, .bin .or (.t 46) (.t 50)⟩,
    ⟨(some 11), none, .mov (.t 51)⟩])
  (.seq (.reg [⟨(some 52), none, .mov (.t 1)⟩,
    ⟨(some 53), none, .mov (.t 8)⟩,
    ⟨(some 54), none, .shf true (.t 52) (.t 53)⟩,
    ⟨(some 12), none, .mov (.t 54)⟩])
  (.seq (.reg [⟨(some 55), none, .mov (.t 12)⟩,
    ⟨(some 56), none, .shf false (.t 55) (.k (.d (.int .u64 32)))⟩,
    ⟨(some 13), none, .mov (.t 56)⟩])
  (.seq (.reg [⟨(some 57), none, .mov (.t 12)⟩,
    ⟨(some 58), none, .bin .and (.t 57) (.k (.d (.int .u64 4294967295)))⟩,
    ⟨(some 14), none, .mov (.t 58)⟩])
  (.seq (.reg [⟨(some 59), none, .mov (.t 11)⟩,
    ⟨(some 60), none, .mov (.t 9)⟩,
    ⟨(some 61), none, .bin .quo (.t 59) (.t 60)⟩,
    ⟨(some 15), none, .mov (.t 61)⟩])
  (.seq (.reg [⟨(some 62), none, .mov (.t 11)⟩,
    ⟨(some 63), none, .mov (.t 15)⟩,
    ⟨(some 64), none, .mov (.t 9)⟩,
    ⟨(some 65), none, .bin .mul (.t 63) (.t 64)⟩,
    ⟨(some 66), none, .bin .sub (.t 62) (.t 65)⟩,
    ⟨(some 16), none, .mov (.t 66)⟩])
  (.seq (.block 0 (.loop (.seq (.seq (.reg [⟨(some 67), none, .mov (.t 15)⟩,
        ⟨(some 68), none, .bin .geq (.t 67) (.k (.d (.int .u64 4294967296)))⟩,
        ⟨(some 69), none, .mov (.t 68)⟩,
        ⟨(some 70), (some (69, false)), .mov (.t 15)⟩,
        ⟨(some 71), (some (69, false)), .mov (.t 10)⟩,
        ⟨(some 72), (some (69, false)), .bin .mul (.t 70) (.t 71)⟩,
        ⟨(some 73), (some (69, false)), .mov (.t 16)⟩,
        ⟨(some 74), (some (69, false)), .bin .mul (.k (.d (.int .u64 4294967296))) (.t 73)⟩,
        ⟨(some 75), (some (69, false)), .mov (.t 13)⟩,
        ⟨(some 76), (some (69, false)), .bin .add (.t 74) (.t 75)⟩,
        ⟨(some 77), (some (69, false)), .bin .gtr (.t 72) (.t 76)⟩,
        ⟨(some 78), none, .pick (.t 69) (.k (.d (.bool true))) (.t 77)⟩])
      (.cond (.t 78) .skip
      (.exit 0)))
      (.block 1 (.seq (.reg [⟨(some 79), none, .mov (.t 15)⟩,
          ⟨(some 80), none, .bin .sub (.t 79) (.k (.d (.int .u64 1)))⟩,
          ⟨(some 15), none, .mov (.t 80)⟩])
        (.seq (.reg [⟨(some 81), none, .mov (.t 16)⟩,
          ⟨(some 82), none, .mov (.t 9)⟩,
          ⟨(some 83), none, .bin .add (.t 81) (.t 82)⟩,
          ⟨(some 16), none, .mov (.t 83)⟩])
        (.seq (.reg [⟨(some 84), none, .mov (.t 16)⟩,
          ⟨(some 85), none, .bin .geq (.t 84) (.k (.d (.int .u64 4294967296)))⟩])
        (.cond (.t 85) (.exit 0)
        .skip))))))))
  (.seq (.reg [⟨(some 86), none, .mov (.t 11)⟩,
    ⟨(some 87), none, .bin .mul (.t 86) (.k (.d (.int .u64 4294967296)))⟩,
    ⟨(some 88), none, .mov (.t 13)⟩,
    ⟨(some 89), none, .bin .add (.t 87) (.t 88)⟩,
    ⟨(some 90), none, .mov (.t 15)⟩,
    ⟨(some 91), none, .mov (.t 2)⟩,
    ⟨(some 92), none, .bin .mul (.t 90) (.t 91)⟩,
    ⟨(some 93), none, .bin .sub (.t 89) (.t 92)⟩,
    ⟨(some 17), none, .mov (.t 93)⟩])
  (.seq (.reg [⟨(some 94), none, .mov (.t 17)⟩,
    ⟨(some 95), none, .mov (.t 9)⟩,
    ⟨(some 96), none, .bin .quo (.t 94) (.t 95)⟩,
    ⟨(some 18), none, .mov (.t 96)⟩])
  (.seq (.reg [⟨(some 97), none, .mov (.t 17)⟩,
    ⟨(some 98), none, .mov (.t 18)⟩,
    ⟨(some 99), none, .mov (.t 9)⟩,
    ⟨(some 100), none, .bin .mul (.t 98) (.t 99)⟩,
    ⟨(some 101), none, .bin .sub (.t 97) (.t 100)⟩,
    ⟨(some 16), none, .mov (.t 101)⟩])
  (.seq (.block 2 (.loop (.seq (.seq (.reg [⟨(some 102), none, .mov (.t 18)⟩,
        ⟨(some 103), none, .bin .geq (.t 102) (.k (.d (.int .u64 4294967296)))⟩,
        ⟨(some 104), none, .mov (.t 103)⟩,
        ⟨(some 105), (some (104, false)), .mov (.t 18)⟩,
        ⟨(some 106), (some (104, false)), .mov (.t 10)⟩,
        ⟨(some 107), (some (104, false)), .bin .mul (.t 105) (.t 106)⟩,
        ⟨(some 108), (some (104, false)), .mov (.t 16)⟩,
        ⟨(some 109), (some (104, false)), .bin .mul (.k (.d (.int .u64 4294967296))) (.t 108)⟩,
        ⟨(some 110), (some (104, false)), .mov (.t 14)⟩,
        ⟨(some 111), (some (104, false)), .bin .add (.t 109) (.t 110)⟩,
        ⟨(some 112), (some (104, false)), .bin .gtr (.t 107) (.t 111)⟩,
        ⟨(some 113), none, .pick (.t 104) (.k (.d (.bool true))) (.t 112)⟩])
      (.cond (.t 113) .skip
      (.exit 2)))
      (.block 3 (.seq (.reg [⟨(some 114), none, .mov (.t 18)⟩,
          ⟨(some 115), none, .bin .sub (.t 114) (.k (.d (.int .u64 1)))⟩,
          ⟨(some 18), none, .mov (.t 115)⟩])
        (.seq (.reg [⟨(some 116), none, .mov (.t 16)⟩,
          ⟨(some 117), none, .mov (.t 9)⟩,
          ⟨(some 118), none, .bin .add (.t 116) (.t 117)⟩,
          ⟨(some 16), none, .mov (.t 118)⟩])
        (.seq (.reg [⟨(some 119), none, .mov (.t 16)⟩,
          ⟨(some 120), none, .bin .geq (.t 119) (.k (.d (.int .u64 4294967296)))⟩])
        (.cond (.t 120) (.exit 2)
        .skip))))))))
  (.seq (.reg [⟨(some 121), none, .mov (.t 15)⟩,
    ⟨(some 122), none, .bin .mul (.t 121) (.k (.d (.int .u64 4294967296)))⟩,
    ⟨(some 123), none, .mov (.t 18)⟩,
    ⟨(some 124), none, .bin .add (.t 122) (.t 123)⟩,
    ⟨(some 125), none, .mov (.t 17)⟩,
    ⟨(some 126), none, .bin .mul (.t 125) (.k (.d (.int .u64 4294967296)))⟩,
    ⟨(some 127), none, .mov (.t 14)⟩,
    ⟨(some 128), none, .bin .add (.t 126) (.t 127)⟩,
    ⟨(some 129), none, .mov (.t 18)⟩,
    ⟨(some 130), none, .mov (.t 2)⟩,
    ⟨(some 131), none, .bin .mul (.t 129) (.t 130)⟩,
    ⟨(some 132), none, .bin .sub (.t 128) (.t 131)⟩,
    ⟨(some 133), none, .mov (.t 8)⟩,
    ⟨(some 134), none, .shf false (.t 132) (.t 133)⟩,
    ⟨(some 6), none, .mov (.t 124)⟩,
    ⟨(some 7), none, .mov (.t 134)⟩])
  .ret))))))))))))))))))))
def rs31 : List RV := [.tmp 6, .tmp 7]
theorem ok31 : okF Try.prog 31 = true := by kernel_rfl
theorem cc31 : cCode Try.prog Try.f31.ntmps (Try.f31.body.getD .skip) = some c31 := by kernel_rfl
theorem cr31 : cRess Try.prog Try.f31.results.toList = some rs31 := by kernel_rfl
theorem pure31 {args : List V} {res : V} (hlen : args.length ≤ 135) (hna : namesL args = []) (hnr : res.names = []) (h : ∀ c : Ctx, c.P = Try.prog → c.fn = [] → vcC c c31 ⟨initE 0 args, [], []⟩ (RetK c rs31 res [])) : Ctr Try.prog 31 args [] res [] [] :=
  ctr_pure Try.func31 ok31 rfl cc31 cr31 Try.ntmps31 hlen hna hnr h
theorem own31 {args : List V} {ins outs : List (Nat × Own)} {res : V} {new : List Nat} (hlen : args.length ≤ 135) (hf : ctrB args ins res outs new = true) (h : ∀ c : Ctx, c.P = Try.prog → c.fn = namesL args ++ ownNames ins → vcC c c31 ⟨initE 0 args, ins, namesL args ++ ownNames ins⟩ (RetK c rs31 res outs)) : Ctr Try.prog 31 args ins res outs new :=
  ctr_own Try.func31 ok31 rfl cc31 cr31 Try.ntmps31 hlen hf h

/-- bordereau/num.even$1 -/
def c32 : C :=
  (.seq (.reg [⟨(some 6), none, .mov (.k (.d (.bool false)))⟩])
  (.seq (.reg [⟨(some 7), none, .mov (.t 1)⟩,
    ⟨(some 8), none, .mov (.t 2)⟩,
    ⟨(some 9), none, .mov (.t 1)⟩,
    ⟨(some 10), none, .bin .sub (.t 8) (.t 9)⟩,
    ⟨(some 11), none, .bin .gtr (.t 7) (.t 10)⟩,
    ⟨(some 12), none, .mov (.t 11)⟩,
    ⟨(some 13), (some (12, false)), .mov (.t 1)⟩,
    ⟨(some 14), (some (12, false)), .mov (.t 2)⟩,
    ⟨(some 15), (some (12, false)), .mov (.t 1)⟩,
    ⟨(some 16), (some (12, false)), .bin .sub (.t 14) (.t 15)⟩,
    ⟨(some 17), (some (12, false)), .bin .eql (.t 13) (.t 16)⟩,
    ⟨(some 18), (some (12, false)), .mov (.t 17)⟩,
    ⟨(some 19), (some (18, true)), .mov (.t 0)⟩,
    ⟨(some 20), (some (18, true)), .bin .rem (.t 19) (.k (.d (.int .u64 2)))⟩,
    ⟨(some 21), (some (18, true)), .bin .eql (.t 20) (.k (.d (.int .u64 1)))⟩,
    ⟨(some 22), (some (12, false)), .pick (.t 18) (.t 21) (.k (.d (.bool false)))⟩,
    ⟨(some 23), none, .pick (.t 12) (.k (.d (.bool true))) (.t 22)⟩,
    ⟨(some 6), none, .mov (.t 23)⟩])
  .ret))
def rs32 : List RV := [.tmp 6]
theorem ok32 : okF Try.prog 32 = true := by kernel_rfl
theorem cc32 : cCode Try.prog Try.f32.ntmps (Try.f32.body.getD .skip) = some c32 := by kernel_rfl
theorem cr32 : cRess Try.prog Try.f32.results.toList = some rs32 := by kernel_rfl
theorem pure32 {args : List V} {res : V} (hlen : args.length ≤ 24) (hna : namesL args = []) (hnr : res.names = []) (h : ∀ c : Ctx, c.P = Try.prog → c.fn = [] → vcC c c32 ⟨initE 0 args, [], []⟩ (RetK c rs32 res [])) : Ctr Try.prog 32 args [] res [] [] :=
  ctr_pure Try.func32 ok32 rfl cc32 cr32 Try.ntmps32 hlen hna hnr h
theorem own32 {args : List V} {ins outs : List (Nat × Own)} {res : V} {new : List Nat} (hlen : args.length ≤ 24) (hf : ctrB args ins res outs new = true) (h : ∀ c : Ctx, c.P = Try.prog → c.fn = namesL args ++ ownNames ins → vcC c c32 ⟨initE 0 args, ins, namesL args ++ ownNames ins⟩ (RetK c rs32 res outs)) : Ctr Try.prog 32 args ins res outs new :=
  ctr_own Try.func32 ok32 rfl cc32 cr32 Try.ntmps32 hlen hf h

/-- bordereau/num.runner$1 -/
def c33 : C :=
  (.seq (.reg [⟨(some 3), none, .mov (.k (.d (.int .i64 0)))⟩,
    ⟨(some 4), none, .mov (.k (.d (.int .i64 0)))⟩])
  (.seq (.seq (.reg [⟨(some 5), none, .mov (.t 0)⟩,
    ⟨(some 6), none, .bin .lss (.t 5) (.k (.d (.int .i64 0)))⟩])
  (.cond (.t 6) (.seq (.reg [⟨(some 3), none, .mov (.k (.d (.int .i64 0)))⟩,
      ⟨(some 4), none, .mov (.k (.d (.int .i64 1)))⟩])
    .ret)
  .skip))
  (.seq (.seq (.reg [⟨(some 7), none, .load 1 false (.t 1)⟩,
    ⟨(some 8), none, .mov (.t 0)⟩,
    ⟨(some 9), none, .bin .add (.t 7) (.t 8)⟩,
    ⟨none, none, .store 1 (.t 1) (.t 9)⟩])
  (.seq (.reg [⟨(some 10), none, .load 1 false (.t 1)⟩,
    ⟨(some 11), none, .bin .gtr (.t 10) (.k (.d (.int .i64 4000000000000000000)))⟩,
    ⟨(some 12), none, .mov (.t 11)⟩,
    ⟨(some 13), (some (12, false)), .load 1 false (.t 1)⟩,
    ⟨(some 14), (some (12, false)), .bin .lss (.t 13) (.k (.d (.int .i64 0)))⟩,
    ⟨(some 15), none, .pick (.t 12) (.k (.d (.bool true))) (.t 14)⟩])
  (.cond (.t 15) (.seq (.reg [⟨none, none, .store 1 (.t 1) (.k (.d (.int .i64 4000000000000000001)))⟩])
    (.seq (.reg [⟨(some 3), none, .mov (.k (.d (.int .i64 0)))⟩,
      ⟨(some 4), none, .mov (.k (.d (.int .i64 5)))⟩])
    .ret))
  .skip)))
  (.seq (.reg [⟨(some 16), none, .load 1 false (.t 1)⟩,
    ⟨(some 3), none, .mov (.t 16)⟩,
    ⟨(some 4), none, .mov (.k (.d (.int .i64 0)))⟩])
  .ret))))
def rs33 : List RV := [.tmp 3, .tmp 4]
theorem ok33 : okF Try.prog 33 = true := by kernel_rfl
theorem cc33 : cCode Try.prog Try.f33.ntmps (Try.f33.body.getD .skip) = some c33 := by kernel_rfl
theorem cr33 : cRess Try.prog Try.f33.results.toList = some rs33 := by kernel_rfl
theorem pure33 {args : List V} {res : V} (hlen : args.length ≤ 17) (hna : namesL args = []) (hnr : res.names = []) (h : ∀ c : Ctx, c.P = Try.prog → c.fn = [] → vcC c c33 ⟨initE 0 args, [], []⟩ (RetK c rs33 res [])) : Ctr Try.prog 33 args [] res [] [] :=
  ctr_pure Try.func33 ok33 rfl cc33 cr33 Try.ntmps33 hlen hna hnr h
theorem own33 {args : List V} {ins outs : List (Nat × Own)} {res : V} {new : List Nat} (hlen : args.length ≤ 17) (hf : ctrB args ins res outs new = true) (h : ∀ c : Ctx, c.P = Try.prog → c.fn = namesL args ++ ownNames ins → vcC c c33 ⟨initE 0 args, ins, namesL args ++ ownNames ins⟩ (RetK c rs33 res outs)) : Ctr Try.prog 33 args ins res outs new :=
  ctr_own Try.func33 ok33 rfl cc33 cr33 Try.ntmps33 hlen hf h

/-- math/bits.LeadingZeros64 -/
def c34 : C :=
  (.seq (.reg [⟨(some 2), none, .mov (.k (.d (.int .i64 0)))⟩])
  (.seq (.reg [⟨(some 3), none, .mov (.t 0)⟩,
    ⟨(some 4), none, .call 35 [(.t 3)]⟩,
    ⟨(some 5), none, .bin .sub (.k (.d (.int .i64 64))) (.t 4)⟩,
    ⟨(some 2), none, .mov (.t 5)⟩])
  .ret))
def rs34 : List RV := [.tmp 2]
theorem ok34 : okF Try.prog 34 = true := by kernel_rfl
theorem cc34 : cCode Try.prog Try.f34.ntmps (Try.f34.body.getD .skip) = some c34 := by kernel_rfl
theorem cr34 : cRess Try.prog Try.f34.results.toList = some rs34 := by kernel_rfl
theorem pure34 {args : List V} {res : V} (hlen : args.length ≤ 6) (hna : namesL args = []) (hnr : res.names = []) (h : ∀ c : Ctx, c.P = Try.prog → c.fn = [] → vcC c c34 ⟨initE 0 args, [], []⟩ (RetK c rs34 res [])) : Ctr Try.prog 34 args [] res [] [] :=
  ctr_pure Try.func34 ok34 rfl cc34 cr34 Try.ntmps34 hlen hna hnr h
theorem own34 {args : List V} {ins outs : List (Nat × Own)} {res : V} {new : List Nat} (hlen : args.length ≤ 6) (hf : ctrB args ins res outs new = true) (h : ∀ c : Ctx, c.P = Try.prog → c.fn = namesL args ++ ownNames ins → vcC c c34 ⟨initE 0 args, ins, namesL args ++ ownNames ins⟩ (RetK c rs34 res outs)) : Ctr Try.prog 34 args ins res outs new :=
  ctr_own Try.func34 ok34 rfl cc34 cr34 Try.ntmps34 hlen hf h

/-- math/bits.Len64 -/
def c35 : C :=
  (.seq (.reg [⟨(some 2), none, .mov (.k (.d (.int .i64 0)))⟩])
  (.seq (.seq (.reg [⟨(some 3), none, .mov (.t 0)⟩,
    ⟨(some 4), none, .bin .geq (.t 3) (.k (.d (.int .u64 4294967296)))⟩])
  (.cond (.t 4) (.seq (.reg [⟨(some 5), none, .mov (.t 0)⟩,
      ⟨(some 6), none, .shf false (.t 5) (.k (.d (.int .u64 32)))⟩,
      ⟨(some 0), none, .mov (.t 6)⟩])
    (.reg [⟨(some 2), none, .mov (.k (.d (.int .i64 32)))⟩]))
  .skip))
  (.seq (.seq (.reg [⟨(some 7), none, .mov (.t 0)⟩,
    ⟨(some 8), none, .bin .geq (.t 7) (.k (.d (.int .u64 65536)))⟩])
  (.cond (.t 8) (.seq (.reg [⟨(some 9), none, .mov (.t 0)⟩,
      ⟨(some 10), none, .shf false (.t 9) (.k (.d (.int .u64 16)))⟩,
      ⟨(some 0), none, .mov (.t 10)⟩])
    (.reg [⟨(some 11), none, .mov (.t 2)⟩,
      ⟨(some 12), none, .bin .add (.t 11) (.k (.d (.int .i64 16)))⟩,
      ⟨(some 2), none, .mov (.t 12)⟩]))
  .skip))
  (.seq (.seq (.reg [⟨(some 13), none, .mov (.t 0)⟩,
    ⟨(some 14), none, .bin .geq (.t 13) (.k (.d (.int .u64 256)))⟩])
  (.cond (.t 14) (.seq (.reg [⟨(some 15), none, .mov (.t 0)⟩,
      ⟨(some 16), none, .shf false (.t 15) (.k (.d (.int .u64 8)))⟩,
      ⟨(some 0), none, .mov (.t 16)⟩])
    (.reg [⟨(some 17), none, .mov (.t 2)⟩,
      ⟨(some 18), none, .bin .add (.t 17) (.k (.d (.int .i64 8)))⟩,
      ⟨(some 2), none, .mov (.t 18)⟩]))
  .skip))
  (.seq (.reg [⟨(some 19), none, .mov (.t 2)⟩,
    ⟨(some 20), none, .mov (.t 0)⟩,
    ⟨(some 21), none, .conv .u8 (.t 20)⟩,
    ⟨(some 22), none, .sidx ⟨#[0, 1, 2, 2, 3, 3, 3, 3, 4, 4, 4, 4, 4, 4, 4, 4, 5, 5, 5, 5, 5, 5, 5, 5, 5, 5, 5, 5, 5, 5, 5, 5, 6, 6, 6, 6, 6, 6, 6, 6, 6, 6, 6, 6, 6, 6, 6, 6, 6, 6, 6, 6, 6, 6, 6, 6, 6, 6, 6, 6, 6, 6, 6, 6, 7, 7, 7, 7, 7, 7, 7, 7, 7, 7, 7, 7, 7, 7, 7, 7, 7, 7, 7, 7, 7, 7, 7, 7, 7, 7, 7, 7, 7, 7, 7, 7, 7, 7, 7, 7, 7, 7, 7, 7, 7, 7, 7, 7, 7, 7, 7, 7, 7, 7, 7, 7, 7, 7, 7, 7, 7, 7, 7, 7, 7, 7, 7, 7, 8, 8, 8, 8, 8, 8, 8, 8, 8, 8, 8, 8, 8, 8, 8, 8, 8, 8, 8, 8, 8, 8, 8, 8, 8, 8, 8, 8, 8, 8, 8, 8, 8, 8, 8, 8, 8, 8, 8, 8, 8, 8, 8, 8, 8, 8, 8, 8, 8, 8, 8, 8, 8, 8, 8, 8, 8, 8, 8, 8, 8, 8, 8, 8, 8, 8, 8, 8, 8, 8, 8, 8, 8, 8, 8, 8, 8, 8, 8, 8, 8, 8, 8, 8, 8, 8, 8, 8, 8, 8, 8, 8, 8, 8, 8, 8, 8, 8, 8, 8, 8, 8, 8, 8, 8, 8, 8, 8, 8, 8, 8, 8, 8, 8, 8, 8, 8, 8, 8, 8, 8, 8, 8, 8, 8, 8, 8, 8]⟩ (.t 21)⟩,
    ⟨(some 23), none, .conv .i64 (.t 22)⟩,
    ⟨(some 24), none, .bin .add (.t 19) (.t 23)⟩,
    ⟨(some 2), none, .mov (.t 24)⟩])
  .ret)))))
def rs35 : List RV := [.tmp 2]
theorem ok35 : okF Try.prog 35 = true := by kernel_rfl
theorem cc35 : cCode Try.prog Try.f35.ntmps (Try.f35.body.getD .skip) = some c35 := by kernel_rfl
theorem cr35 : cRess Try.prog Try.f35.results.toList = some rs35 := by kernel_rfl
theorem pure35 {args : List V} {res : V} (hlen : args.length ≤ 25) (hna : namesL args = []) (hnr : res.names = []) (h : ∀ c : Ctx, c.P = Try.prog → c.fn = [] → vcC c c35 ⟨initE 0 args, [], []⟩ (RetK c rs35 res [])) : Ctr Try.prog 35 args [] res [] [] :=
  ctr_pure Try.func35 ok35 rfl cc35 cr35 Try.ntmps35 hlen hna hnr h
theorem own35 {args : List V} {ins outs : List (Nat × Own)} {res : V} {new : List Nat} (hlen : args.length ≤ 25) (hf : ctrB args ins res outs new = true) (h : ∀ c : Ctx, c.P = Try.prog → c.fn = namesL args ++ ownNames ins → vcC c c35 ⟨initE 0 args, ins, namesL args ++ ownNames ins⟩ (RetK c rs35 res outs)) : Ctr Try.prog 35 args ins res outs new :=
  ctr_own Try.func35 ok35 rfl cc35 cr35 Try.ntmps35 hlen hf h

end Go.Proofs.Ytgeidjhobbndjaa
