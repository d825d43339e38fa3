/-
  The code of this seat's functions, compiled for the engine (by a program of mine); the theorems say that it is theirs.
-/
import Derived.Test.YtldfjldgbeeofaaRows
import Derived.Test.YtldfjldgbeeofaaEng23
import Derived.KernelRfl
namespace Go.Proofs.Ytldfjldgbeeofaa
open Go.Bx

set_option maxRecDepth 100000

/-- bordereau/bordereaulaw08.CoverTells -/
def c3 : C :=
  (.seq (.reg [⟨(some 3), none, .box 23 (.t 0)⟩,
    ⟨(some 6), none, .mov (.k (.d (.bool false)))⟩])
  (.seq (.reg [⟨(some 8), none, .call 8 []⟩,
    ⟨(some 7), none, .mov (.t 8)⟩])
  (.seq (.drw [0, 1, 3, 7, 3, 31, 63, 127, 255, 511, 511, 511, 4095, 511, 511, 511, 65535, 131071, 262143, 524287]
   [⟨(some 9), none, .mov (.t 7)⟩,
    ⟨(some 10), none, .mov (.t 9)⟩,
    ⟨(some 11), (some (10, true)), .load 5 true (.t 3)⟩,
    ⟨(some 12), (some (10, true)), .call 9 [(.t 11)]⟩,
    ⟨(some 13), (some (10, true)), .load 5 true (.t 3)⟩,
    ⟨(some 14), (some (10, true)), .call 10 [(.t 13)]⟩,
    ⟨(some 15), (some (10, true)), .beq false (.t 12) (.t 14)⟩,
    ⟨(some 16), none, .pick (.t 10) (.t 15) (.k (.d (.bool false)))⟩,
    ⟨(some 17), none, .mov (.t 16)⟩,
    ⟨(some 18), (some (17, true)), .load 5 true (.t 3)⟩,
    ⟨(some 19), (some (17, true)), .mov (.t 1)⟩,
    ⟨(some 20), (some (17, true)), .mov (.t 2)⟩,
    ⟨(some 21), (some (17, true)), .call 11 [(.t 18), (.t 19), (.t 20)]⟩,
    ⟨(some 22), (some (17, true)), .load 5 true (.t 3)⟩,
    ⟨(some 23), (some (17, true)), .mov (.t 1)⟩,
    ⟨(some 24), (some (17, true)), .mov (.t 2)⟩,
    ⟨(some 25), (some (17, true)), .call 12 [(.t 22), (.t 23), (.t 24)]⟩,
    ⟨(some 26), (some (17, true)), .bin .eql (.t 21) (.t 25)⟩,
    ⟨(some 27), none, .pick (.t 17) (.t 26) (.k (.d (.bool false)))⟩,
    ⟨(some 6), none, .mov (.t 27)⟩])
  .ret)))
def rs3 : List RV := [.tmp 6]
theorem ok3 : okF Try.prog 3 = true := by kernel_rfl
theorem cc3 : cCode Try.prog Try.f3.ntmps (Try.f3.body.getD .skip) = some c3 := by kernel_rfl
theorem cr3 : cRess Try.prog Try.f3.results.toList = some rs3 := by kernel_rfl
theorem pure3 {args : List V} {res : V} (hlen : args.length ≤ 28) (hna : namesL args = []) (hnr : res.names = []) (h : ∀ c : Ctx, c.P = Try.prog → c.fn = [] → vcC c c3 ⟨initE 0 args, [], []⟩ (RetK c rs3 res [])) : Ctr Try.prog 3 args [] res [] [] :=
  ctr_pure Try.func3 ok3 rfl cc3 cr3 Try.ntmps3 hlen hna hnr h
theorem own3 {args : List V} {ins outs : List (Nat × Own)} {res : V} {new : List Nat} (hlen : args.length ≤ 28) (hf : ctrB args ins res outs new = true) (h : ∀ c : Ctx, c.P = Try.prog → c.fn = namesL args ++ ownNames ins → vcC c c3 ⟨initE 0 args, ins, namesL args ++ ownNames ins⟩ (RetK c rs3 res outs)) : Ctr Try.prog 3 args ins res outs new :=
  ctr_own Try.func3 ok3 rfl cc3 cr3 Try.ntmps3 hlen hf h

/-- bordereau/bordereaulaw08.CoverBounds -/
def c4 : C :=
  (.seq (.reg [⟨(some 3), none, .box 23 (.t 0)⟩,
    ⟨(some 6), none, .mov (.k (.d (.bool false)))⟩])
  (.seq (.reg [⟨(some 9), none, .call 8 []⟩,
    ⟨(some 7), none, .mov (.t 9)⟩])
  (.seq (.reg [⟨(some 10), none, .load 5 true (.t 3)⟩,
    ⟨(some 11), none, .mov (.t 1)⟩,
    ⟨(some 12), none, .mov (.t 2)⟩,
    ⟨(some 13), none, .call 11 [(.t 10), (.t 11), (.t 12)]⟩,
    ⟨(some 8), none, .mov (.t 13)⟩])
  (.seq (.seq (.reg [⟨(some 14), none, .load 5 true (.t 3)⟩,
    ⟨(some 15), none, .call 9 [(.t 14)]⟩,
    ⟨(some 16), none, .inv .not (.t 15)⟩,
    ⟨(some 17), none, .mov (.t 16)⟩,
    ⟨(some 18), (some (17, false)), .mov (.t 1)⟩,
    ⟨(some 19), (some (17, false)), .bin .lss (.t 18) (.k (.d (.int .i64 0)))⟩,
    ⟨(some 20), none, .pick (.t 17) (.k (.d (.bool true))) (.t 19)⟩,
    ⟨(some 21), none, .mov (.t 20)⟩,
    ⟨(some 22), (some (21, false)), .mov (.t 2)⟩,
    ⟨(some 23), (some (21, false)), .bin .lss (.t 22) (.k (.d (.int .i64 0)))⟩,
    ⟨(some 24), none, .pick (.t 21) (.k (.d (.bool true))) (.t 23)⟩])
  (.cond (.t 24) (.seq (.reg [⟨(some 25), none, .mov (.t 7)⟩,
      ⟨(some 26), none, .mov (.t 25)⟩,
      ⟨(some 27), (some (26, true)), .mov (.t 8)⟩,
      ⟨(some 28), (some (26, true)), .bin .eql (.t 27) (.k (.d (.int .i64 0)))⟩,
      ⟨(some 29), none, .pick (.t 26) (.t 28) (.k (.d (.bool false)))⟩,
      ⟨(some 6), none, .mov (.t 29)⟩])
    .ret)
  .skip))
  (.seq (.seq (.reg [⟨(some 30), none, .mov (.t 8)⟩,
    ⟨(some 31), none, .bin .lss (.t 30) (.k (.d (.int .i64 0)))⟩,
    ⟨(some 32), none, .mov (.t 31)⟩,
    ⟨(some 33), (some (32, false)), .mov (.t 8)⟩,
    ⟨(some 34), (some (32, false)), .fadr 1 (.t 3)⟩,
    ⟨(some 35), (some (32, false)), .load 1 false (.t 34)⟩,
    ⟨(some 36), (some (32, false)), .bin .gtr (.t 33) (.t 35)⟩,
    ⟨(some 37), none, .pick (.t 32) (.k (.d (.bool true))) (.t 36)⟩,
    ⟨(some 38), none, .mov (.t 37)⟩,
    ⟨(some 39), (some (38, false)), .mov (.t 8)⟩,
    ⟨(some 40), (some (38, false)), .mov (.t 1)⟩,
    ⟨(some 41), (some (38, false)), .bin .gtr (.t 39) (.t 40)⟩,
    ⟨(some 42), none, .pick (.t 38) (.k (.d (.bool true))) (.t 41)⟩,
    ⟨(some 43), none, .mov (.t 42)⟩,
    ⟨(some 44), (some (43, false)), .mov (.t 8)⟩,
    ⟨(some 45), (some (43, false)), .bin .gtr (.t 44) (.k (.d (.int .i64 0)))⟩,
    ⟨(some 46), (some (43, false)), .mov (.t 45)⟩,
    ⟨(some 47), (some (46, true)), .mov (.t 1)⟩,
    ⟨(some 48), (some (46, true)), .fadr 3 (.t 3)⟩,
    ⟨(some 49), (some (46, true)), .load 1 false (.t 48)⟩,
    ⟨(some 50), (some (46, true)), .bin .leq (.t 47) (.t 49)⟩,
    ⟨(some 51), (some (43, false)), .pick (.t 46) (.t 50) (.k (.d (.bool false)))⟩,
    ⟨(some 52), none, .pick (.t 43) (.k (.d (.bool true))) (.t 51)⟩])
  (.cond (.t 52) (.seq (.reg [⟨(some 6), none, .mov (.k (.d (.bool false)))⟩])
    .ret)
  .skip))
  (.seq (.seq (.reg [⟨(some 53), none, .mov (.t 8)⟩,
    ⟨(some 54), none, .bin .gtr (.t 53) (.k (.d (.int .i64 0)))⟩,
    ⟨(some 55), none, .mov (.t 54)⟩,
    ⟨(some 56), (some (55, true)), .mov (.t 8)⟩,
    ⟨(some 57), (some (55, true)), .fadr 2 (.t 3)⟩,
    ⟨(some 58), (some (55, true)), .load 1 false (.t 57)⟩,
    ⟨(some 59), (some (55, true)), .mov (.t 2)⟩,
    ⟨(some 60), (some (55, true)), .bin .sub (.t 58) (.t 59)⟩,
    ⟨(some 61), (some (55, true)), .bin .gtr (.t 56) (.t 60)⟩,
    ⟨(some 62), none, .pick (.t 55) (.t 61) (.k (.d (.bool false)))⟩])
  (.cond (.t 62) (.seq (.reg [⟨(some 6), none, .mov (.k (.d (.bool false)))⟩])
    .ret)
  .skip))
  (.seq (.reg [⟨(some 63), none, .mov (.t 7)⟩,
    ⟨(some 64), none, .mov (.t 63)⟩,
    ⟨(some 65), (some (64, true)), .fadr 4 (.t 3)⟩,
    ⟨(some 66), (some (64, true)), .load 1 false (.t 65)⟩,
    ⟨(some 67), (some (64, true)), .bin .lss (.t 66) (.k (.d (.int .i64 10000)))⟩,
    ⟨(some 68), (some (64, true)), .mov (.t 67)⟩,
    ⟨(some 69), (some (68, false)), .mov (.t 2)⟩,
    ⟨(some 70), (some (68, false)), .bin .gtr (.t 69) (.k (.d (.int .i64 0)))⟩,
    ⟨(some 71), (some (64, true)), .pick (.t 68) (.k (.d (.bool true))) (.t 70)⟩,
    ⟨(some 72), (some (64, true)), .mov (.t 71)⟩,
    ⟨(some 73), (some (72, false)), .mov (.t 8)⟩,
    ⟨(some 74), (some (72, false)), .mov (.t 1)⟩,
    ⟨(some 75), (some (72, false)), .fadr 3 (.t 3)⟩,
    ⟨(some 76), (some (72, false)), .load 1 false (.t 75)⟩,
    ⟨(some 77), (some (72, false)), .bin .sub (.t 74) (.t 76)⟩,
    ⟨(some 78), (some (72, false)), .fadr 1 (.t 3)⟩,
    ⟨(some 79), (some (72, false)), .load 1 false (.t 78)⟩,
    ⟨(some 80), (some (72, false)), .mm false (.t 77) (.t 79)⟩,
    ⟨(some 81), (some (72, false)), .mm true (.k (.d (.int .i64 0))) (.t 80)⟩,
    ⟨(some 82), (some (72, false)), .bin .eql (.t 73) (.t 81)⟩,
    ⟨(some 83), (some (64, true)), .pick (.t 72) (.k (.d (.bool true))) (.t 82)⟩,
    ⟨(some 84), none, .pick (.t 64) (.t 83) (.k (.d (.bool false)))⟩,
    ⟨(some 6), none, .mov (.t 84)⟩])
  .ret)))))))
def rs4 : List RV := [.tmp 6]
theorem ok4 : okF Try.prog 4 = true := by kernel_rfl
theorem cc4 : cCode Try.prog Try.f4.ntmps (Try.f4.body.getD .skip) = some c4 := by kernel_rfl
theorem cr4 : cRess Try.prog Try.f4.results.toList = some rs4 := by kernel_rfl
theorem pure4 {args : List V} {res : V} (hlen : args.length ≤ 85) (hna : namesL args = []) (hnr : res.names = []) (h : ∀ c : Ctx, c.P = Try.prog → c.fn = [] → vcC c c4 ⟨initE 0 args, [], []⟩ (RetK c rs4 res [])) : Ctr Try.prog 4 args [] res [] [] :=
  ctr_pure Try.func4 ok4 rfl cc4 cr4 Try.ntmps4 hlen hna hnr h
theorem own4 {args : List V} {ins outs : List (Nat × Own)} {res : V} {new : List Nat} (hlen : args.length ≤ 85) (hf : ctrB args ins res outs new = true) (h : ∀ c : Ctx, c.P = Try.prog → c.fn = namesL args ++ ownNames ins → vcC c c4 ⟨initE 0 args, ins, namesL args ++ ownNames ins⟩ (RetK c rs4 res outs)) : Ctr Try.prog 4 args ins res outs new :=
  ctr_own Try.func4 ok4 rfl cc4 cr4 Try.ntmps4 hlen hf h

/-- bordereau/bordereaulaw08.CoverRises -/
def c5 : C :=
  (.seq (.reg [⟨(some 5), none, .box 23 (.t 0)⟩,
    ⟨(some 10), none, .mov (.k (.d (.bool false)))⟩])
  (.seq (.reg [⟨(some 15), none, .call 8 []⟩,
    ⟨(some 11), none, .mov (.t 15)⟩])
  (.seq (.seq (.reg [⟨(some 16), none, .load 5 true (.t 5)⟩,
    ⟨(some 17), none, .call 9 [(.t 16)]⟩,
    ⟨(some 18), none, .inv .not (.t 17)⟩,
    ⟨(some 19), none, .mov (.t 18)⟩,
    ⟨(some 20), (some (19, false)), .mov (.t 1)⟩,
    ⟨(some 21), (some (19, false)), .bin .lss (.t 20) (.k (.d (.int .i64 0)))⟩,
    ⟨(some 22), none, .pick (.t 19) (.k (.d (.bool true))) (.t 21)⟩,
    ⟨(some 23), none, .mov (.t 22)⟩,
    ⟨(some 24), (some (23, false)), .mov (.t 2)⟩,
    ⟨(some 25), (some (23, false)), .bin .lss (.t 24) (.k (.d (.int .i64 0)))⟩,
    ⟨(some 26), none, .pick (.t 23) (.k (.d (.bool true))) (.t 25)⟩,
    ⟨(some 27), none, .mov (.t 26)⟩,
    ⟨(some 28), (some (27, false)), .mov (.t 3)⟩,
    ⟨(some 29), (some (27, false)), .bin .lss (.t 28) (.k (.d (.int .i64 0)))⟩,
    ⟨(some 30), none, .pick (.t 27) (.k (.d (.bool true))) (.t 29)⟩,
    ⟨(some 31), none, .mov (.t 30)⟩,
    ⟨(some 32), (some (31, false)), .mov (.t 4)⟩,
    ⟨(some 33), (some (31, false)), .bin .lss (.t 32) (.k (.d (.int .i64 0)))⟩,
    ⟨(some 34), none, .pick (.t 31) (.k (.d (.bool true))) (.t 33)⟩,
    ⟨(some 35), none, .mov (.t 34)⟩,
    ⟨(some 36), (some (35, false)), .mov (.t 1)⟩,
    ⟨(some 37), (some (35, false)), .bin .gtr (.t 36) (.k (.d (.int .i64 4000000000000000000)))⟩,
    ⟨(some 38), none, .pick (.t 35) (.k (.d (.bool true))) (.t 37)⟩,
    ⟨(some 39), none, .mov (.t 38)⟩,
    ⟨(some 40), (some (39, false)), .mov (.t 2)⟩,
    ⟨(some 41), (some (39, false)), .bin .gtr (.t 40) (.k (.d (.int .i64 4000000000000000000)))⟩,
    ⟨(some 42), none, .pick (.t 39) (.k (.d (.bool true))) (.t 41)⟩,
    ⟨(some 43), none, .mov (.t 42)⟩,
    ⟨(some 44), (some (43, false)), .mov (.t 3)⟩,
    ⟨(some 45), (some (43, false)), .bin .gtr (.t 44) (.k (.d (.int .i64 4000000000000000000)))⟩,
    ⟨(some 46), none, .pick (.t 43) (.k (.d (.bool true))) (.t 45)⟩,
    ⟨(some 47), none, .mov (.t 46)⟩,
    ⟨(some 48), (some (47, false)), .mov (.t 4)⟩,
    ⟨(some 49), (some (47, false)), .bin .gtr (.t 48) (.k (.d (.int .i64 4000000000000000000)))⟩,
    ⟨(some 50), none, .pick (.t 47) (.k (.d (.bool true))) (.t 49)⟩])
  (.cond (.t 50) (.seq (.reg [⟨(some 51), none, .mov (.t 11)⟩,
      ⟨(some 10), none, .mov (.t 51)⟩])
    .ret)
  .skip))
  (.seq (.reg [⟨(some 52), none, .load 5 true (.t 5)⟩,
    ⟨(some 53), none, .mov (.t 1)⟩,
    ⟨(some 54), none, .mov (.t 3)⟩,
    ⟨(some 55), none, .call 11 [(.t 52), (.t 53), (.t 54)]⟩,
    ⟨(some 12), none, .mov (.t 55)⟩])
  (.seq (.reg [⟨(some 56), none, .load 5 true (.t 5)⟩,
    ⟨(some 57), none, .mov (.t 1)⟩,
    ⟨(some 58), none, .mov (.t 2)⟩,
    ⟨(some 59), none, .bin .add (.t 57) (.t 58)⟩,
    ⟨(some 60), none, .mov (.t 3)⟩,
    ⟨(some 61), none, .call 11 [(.t 56), (.t 59), (.t 60)]⟩,
    ⟨(some 13), none, .mov (.t 61)⟩])
  (.seq (.reg [⟨(some 62), none, .load 5 true (.t 5)⟩,
    ⟨(some 63), none, .mov (.t 1)⟩,
    ⟨(some 64), none, .mov (.t 3)⟩,
    ⟨(some 65), none, .mov (.t 4)⟩,
    ⟨(some 66), none, .bin .add (.t 64) (.t 65)⟩,
    ⟨(some 67), none, .call 11 [(.t 62), (.t 63), (.t 66)]⟩,
    ⟨(some 14), none, .mov (.t 67)⟩])
  (.seq (.reg [⟨(some 68), none, .mov (.t 11)⟩,
    ⟨(some 69), none, .mov (.t 68)⟩,
    ⟨(some 70), (some (69, true)), .mov (.t 12)⟩,
    ⟨(some 71), (some (69, true)), .mov (.t 13)⟩,
    ⟨(some 72), (some (69, true)), .bin .leq (.t 70) (.t 71)⟩,
    ⟨(some 73), none, .pick (.t 69) (.t 72) (.k (.d (.bool false)))⟩,
    ⟨(some 74), none, .mov (.t 73)⟩,
    ⟨(some 75), (some (74, true)), .mov (.t 13)⟩,
    ⟨(some 76), (some (74, true)), .mov (.t 12)⟩,
    ⟨(some 77), (some (74, true)), .bin .sub (.t 75) (.t 76)⟩,
    ⟨(some 78), (some (74, true)), .mov (.t 2)⟩,
    ⟨(some 79), (some (74, true)), .bin .leq (.t 77) (.t 78)⟩,
    ⟨(some 80), none, .pick (.t 74) (.t 79) (.k (.d (.bool false)))⟩,
    ⟨(some 81), none, .mov (.t 80)⟩,
    ⟨(some 82), (some (81, true)), .mov (.t 14)⟩,
    ⟨(some 83), (some (81, true)), .mov (.t 12)⟩,
    ⟨(some 84), (some (81, true)), .bin .leq (.t 82) (.t 83)⟩,
    ⟨(some 85), none, .pick (.t 81) (.t 84) (.k (.d (.bool false)))⟩,
    ⟨(some 86), none, .mov (.t 85)⟩,
    ⟨(some 87), (some (86, true)), .mov (.t 12)⟩,
    ⟨(some 88), (some (86, true)), .mov (.t 14)⟩,
    ⟨(some 89), (some (86, true)), .bin .sub (.t 87) (.t 88)⟩,
    ⟨(some 90), (some (86, true)), .mov (.t 4)⟩,
    ⟨(some 91), (some (86, true)), .bin .leq (.t 89) (.t 90)⟩,
    ⟨(some 92), none, .pick (.t 86) (.t 91) (.k (.d (.bool false)))⟩,
    ⟨(some 10), none, .mov (.t 92)⟩])
  .ret)))))))
def rs5 : List RV := [.tmp 10]
theorem ok5 : okF Try.prog 5 = true := by kernel_rfl
theorem cc5 : cCode Try.prog Try.f5.ntmps (Try.f5.body.getD .skip) = some c5 := by kernel_rfl
theorem cr5 : cRess Try.prog Try.f5.results.toList = some rs5 := by kernel_rfl
theorem pure5 {args : List V} {res : V} (hlen : args.length ≤ 93) (hna : namesL args = []) (hnr : res.names = []) (h : ∀ c : Ctx, c.P = Try.prog → c.fn = [] → vcC c c5 ⟨initE 0 args, [], []⟩ (RetK c rs5 res [])) : Ctr Try.prog 5 args [] res [] [] :=
  ctr_pure Try.func5 ok5 rfl cc5 cr5 Try.ntmps5 hlen hna hnr h
theorem own5 {args : List V} {ins outs : List (Nat × Own)} {res : V} {new : List Nat} (hlen : args.length ≤ 93) (hf : ctrB args ins res outs new = true) (h : ∀ c : Ctx, c.P = Try.prog → c.fn = namesL args ++ ownNames ins → vcC c c5 ⟨initE 0 args, ins, namesL args ++ ownNames ins⟩ (RetK c rs5 res outs)) : Ctr Try.prog 5 args ins res outs new :=
  ctr_own Try.func5 ok5 rfl cc5 cr5 Try.ntmps5 hlen hf h

/-- bordereau/bordereaulaw08.CoverAll -/
def c6 : C :=
  (.seq (.reg [⟨(some 2), none, .box 23 (.t 0)⟩,
    ⟨(some 4), none, .mov (.k (.d (.bool false)))⟩])
  (.seq (.reg [⟨(some 12), none, .call 8 []⟩,
    ⟨(some 5), none, .mov (.t 12)⟩])
  (.seq (.seq (.reg [⟨(some 13), none, .load 5 true (.t 2)⟩,
    ⟨(some 14), none, .call 9 [(.t 13)]⟩,
    ⟨(some 15), none, .inv .not (.t 14)⟩,
    ⟨(some 16), none, .mov (.t 15)⟩,
    ⟨(some 17), (some (16, false)), .mov (.t 1)⟩,
    ⟨(some 18), (some (16, false)), .len (.t 17)⟩,
    ⟨(some 19), (some (16, false)), .bin .gtr (.t 18) (.k (.d (.int .i64 100)))⟩,
    ⟨(some 20), none, .pick (.t 16) (.k (.d (.bool true))) (.t 19)⟩])
  (.cond (.t 20) (.seq (.reg [⟨(some 21), none, .mov (.t 5)⟩,
      ⟨(some 4), none, .mov (.t 21)⟩])
    .ret)
  .skip))
  (.seq (.reg [⟨(some 6), none, .mov (.k (.d (.int .i64 0)))⟩])
  (.seq (.reg [⟨(some 7), none, .mov (.k (.d (.int .i64 0)))⟩])
  (.seq (.seq (.reg [⟨(some 8), none, .mov (.k (.d (.int .i64 0)))⟩])
  (.block 0 (.loop (.seq (.seq (.reg [⟨(some 22), none, .mov (.t 8)⟩,
        ⟨(some 23), none, .mov (.t 1)⟩,
        ⟨(some 24), none, .len (.t 23)⟩,
        ⟨(some 25), none, .bin .lss (.t 22) (.t 24)⟩])
      (.cond (.t 25) .skip
      (.exit 0)))
      (.seq (.block 1 (.seq (.drw [0, 0, 0, 6, 14, 0, 63, 127]
         [⟨(some 28), none, .load 5 true (.t 2)⟩,
          ⟨(some 29), none, .mov (.t 1)⟩,
          ⟨(some 30), none, .mov (.t 8)⟩,
          ⟨(some 31), none, .iadr 1 (.t 29) (.t 30)⟩,
          ⟨(some 32), none, .load 1 false (.t 31)⟩,
          ⟨(some 33), none, .mov (.t 6)⟩,
          ⟨(some 34), none, .call 11 [(.t 28), (.t 32), (.t 33)]⟩,
          ⟨(some 9), none, .mov (.t 34)⟩])
        (.seq (.seq (.reg [⟨(some 35), none, .mov (.t 9)⟩,
          ⟨(some 36), none, .bin .lss (.t 35) (.k (.d (.int .i64 0)))⟩,
          ⟨(some 37), none, .mov (.t 36)⟩,
          ⟨(some 38), (some (37, false)), .mov (.t 6)⟩,
          ⟨(some 39), (some (37, false)), .fadr 2 (.t 2)⟩,
          ⟨(some 40), (some (37, false)), .load 1 false (.t 39)⟩,
          ⟨(some 41), (some (37, false)), .bin .eql (.t 38) (.t 40)⟩,
          ⟨(some 42), (some (37, false)), .mov (.t 41)⟩,
          ⟨(some 43), (some (42, true)), .mov (.t 9)⟩,
          ⟨(some 44), (some (42, true)), .bin .neq (.t 43) (.k (.d (.int .i64 0)))⟩,
          ⟨(some 45), (some (37, false)), .pick (.t 42) (.t 44) (.k (.d (.bool false)))⟩,
          ⟨(some 46), none, .pick (.t 37) (.k (.d (.bool true))) (.t 45)⟩])
        (.cond (.t 46) (.seq (.reg [⟨(some 4), none, .mov (.k (.d (.bool false)))⟩])
          .ret)
        .skip))
        (.seq (.reg [⟨(some 47), none, .mov (.t 6)⟩,
          ⟨(some 48), none, .mov (.t 9)⟩,
          ⟨(some 49), none, .bin .add (.t 47) (.t 48)⟩,
          ⟨(some 6), none, .mov (.t 49)⟩])
        (.drw [0, 0, 0, 0, 12, 28, 62, 127, 255]
         [⟨(some 50), none, .mov (.t 7)⟩,
          ⟨(some 51), none, .load 5 true (.t 2)⟩,
          ⟨(some 52), none, .mov (.t 1)⟩,
          ⟨(some 53), none, .mov (.t 8)⟩,
          ⟨(some 54), none, .iadr 1 (.t 52) (.t 53)⟩,
          ⟨(some 55), none, .load 1 false (.t 54)⟩,
          ⟨(some 56), none, .call 11 [(.t 51), (.t 55), (.k (.d (.int .i64 0)))]⟩,
          ⟨(some 57), none, .bin .add (.t 50) (.t 56)⟩,
          ⟨(some 7), none, .mov (.t 57)⟩])))))
      (.reg [⟨(some 26), none, .mov (.t 8)⟩,
        ⟨(some 27), none, .bin .add (.t 26) (.k (.d (.int .i64 1)))⟩,
        ⟨(some 8), none, .mov (.t 27)⟩]))))))
  (.seq (.reg [⟨(some 10), none, .mov (.k (.d (.int .i64 0)))⟩])
  (.seq (.seq (.reg [⟨(some 58), none, .mov (.t 1)⟩,
    ⟨(some 59), none, .len (.t 58)⟩,
    ⟨(some 60), none, .bin .sub (.t 59) (.k (.d (.int .i64 1)))⟩,
    ⟨(some 11), none, .mov (.t 60)⟩])
  (.block 2 (.loop (.seq (.seq (.reg [⟨(some 61), none, .mov (.t 11)⟩,
        ⟨(some 62), none, .bin .geq (.t 61) (.k (.d (.int .i64 0)))⟩])
      (.cond (.t 62) .skip
      (.exit 2)))
      (.seq (.block 3 (.drw [0, 0, 0, 0, 12, 28, 0, 126, 255, 511]
         [⟨(some 65), none, .mov (.t 10)⟩,
          ⟨(some 66), none, .load 5 true (.t 2)⟩,
          ⟨(some 67), none, .mov (.t 1)⟩,
          ⟨(some 68), none, .mov (.t 11)⟩,
          ⟨(some 69), none, .iadr 1 (.t 67) (.t 68)⟩,
          ⟨(some 70), none, .load 1 false (.t 69)⟩,
          ⟨(some 71), none, .mov (.t 10)⟩,
          ⟨(some 72), none, .call 11 [(.t 66), (.t 70), (.t 71)]⟩,
          ⟨(some 73), none, .bin .add (.t 65) (.t 72)⟩,
          ⟨(some 10), none, .mov (.t 73)⟩]))
      (.reg [⟨(some 63), none, .mov (.t 11)⟩,
        ⟨(some 64), none, .bin .sub (.t 63) (.k (.d (.int .i64 1)))⟩,
        ⟨(some 11), none, .mov (.t 64)⟩]))))))
  (.seq (.reg [⟨(some 74), none, .mov (.t 5)⟩,
    ⟨(some 75), none, .mov (.t 74)⟩,
    ⟨(some 76), (some (75, true)), .mov (.t 6)⟩,
    ⟨(some 77), (some (75, true)), .fadr 2 (.t 2)⟩,
    ⟨(some 78), (some (75, true)), .load 1 false (.t 77)⟩,
    ⟨(some 79), (some (75, true)), .bin .leq (.t 76) (.t 78)⟩,
    ⟨(some 80), none, .pick (.t 75) (.t 79) (.k (.d (.bool false)))⟩,
    ⟨(some 81), none, .mov (.t 80)⟩,
    ⟨(some 82), (some (81, true)), .mov (.t 6)⟩,
    ⟨(some 83), (some (81, true)), .mov (.t 7)⟩,
    ⟨(some 84), (some (81, true)), .fadr 2 (.t 2)⟩,
    ⟨(some 85), (some (81, true)), .load 1 false (.t 84)⟩,
    ⟨(some 86), (some (81, true)), .mm false (.t 83) (.t 85)⟩,
    ⟨(some 87), (some (81, true)), .bin .eql (.t 82) (.t 86)⟩,
    ⟨(some 88), none, .pick (.t 81) (.t 87) (.k (.d (.bool false)))⟩,
    ⟨(some 89), none, .mov (.t 88)⟩,
    ⟨(some 90), (some (89, true)), .mov (.t 10)⟩,
    ⟨(some 91), (some (89, true)), .mov (.t 6)⟩,
    ⟨(some 92), (some (89, true)), .bin .eql (.t 90) (.t 91)⟩,
    ⟨(some 93), none, .pick (.t 89) (.t 92) (.k (.d (.bool false)))⟩,
    ⟨(some 4), none, .mov (.t 93)⟩])
  .ret)))))))))
def rs6 : List RV := [.tmp 4]
theorem ok6 : okF Try.prog 6 = true := by kernel_rfl
theorem cc6 : cCode Try.prog Try.f6.ntmps (Try.f6.body.getD .skip) = some c6 := by kernel_rfl
theorem cr6 : cRess Try.prog Try.f6.results.toList = some rs6 := by kernel_rfl
theorem pure6 {args : List V} {res : V} (hlen : args.length ≤ 94) (hna : namesL args = []) (hnr : res.names = []) (h : ∀ c : Ctx, c.P = Try.prog → c.fn = [] → vcC c c6 ⟨initE 0 args, [], []⟩ (RetK c rs6 res [])) : Ctr Try.prog 6 args [] res [] [] :=
  ctr_pure Try.func6 ok6 rfl cc6 cr6 Try.ntmps6 hlen hna hnr h
theorem own6 {args : List V} {ins outs : List (Nat × Own)} {res : V} {new : List Nat} (hlen : args.length ≤ 94) (hf : ctrB args ins res outs new = true) (h : ∀ c : Ctx, c.P = Try.prog → c.fn = namesL args ++ ownNames ins → vcC c c6 ⟨initE 0 args, ins, namesL args ++ ownNames ins⟩ (RetK c rs6 res outs)) : Ctr Try.prog 6 args ins res outs new :=
  ctr_own Try.func6 ok6 rfl cc6 cr6 Try.ntmps6 hlen hf h

/-- bordereau/bordereaulaw08.CoverLayers -/
def c7 : C :=
  (.seq (.reg [⟨(some 8), none, .mov (.k (.d (.bool false)))⟩])
  (.seq (.reg [⟨(some 19), none, .call 8 []⟩,
    ⟨(some 9), none, .mov (.t 19)⟩])
  (.seq (.reg [⟨(some 20), none, .mov (.t 0)⟩,
    ⟨(some 21), none, .conv .i64 (.t 20)⟩,
    ⟨(some 10), none, .mov (.t 21)⟩])
  (.seq (.reg [⟨(some 22), none, .mov (.t 1)⟩,
    ⟨(some 23), none, .conv .i64 (.t 22)⟩,
    ⟨(some 24), none, .bin .add (.k (.d (.int .i64 1))) (.t 23)⟩,
    ⟨(some 11), none, .mov (.t 24)⟩])
  (.seq (.reg [⟨(some 25), none, .mov (.t 2)⟩,
    ⟨(some 26), none, .conv .i64 (.t 25)⟩,
    ⟨(some 27), none, .bin .add (.k (.d (.int .i64 1))) (.t 26)⟩,
    ⟨(some 12), none, .mov (.t 27)⟩])
  (.seq (.reg [⟨(some 28), none, .mov (.t 3)⟩,
    ⟨(some 29), none, .bin .rem (.t 28) (.k (.d (.int .u64 20000000000)))⟩,
    ⟨(some 30), none, .conv .i64 (.t 29)⟩,
    ⟨(some 13), none, .mov (.t 30)⟩])
  (.seq (.reg [⟨(some 31), none, .mov (.t 10)⟩,
    ⟨(some 32), none, .mov (.t 10)⟩,
    ⟨(some 33), none, .mov (.t 11)⟩,
    ⟨(some 34), none, .bin .add (.t 32) (.t 33)⟩,
    ⟨(some 35), none, .build [.d (.int .i64 0), .d (.int .i64 0), .d (.int .i64 0), .d (.int .i64 0), .d (.int .i64 0)] [(3, 1, (.t 31)), (1, 1, (.t 34)), (2, 1, (.k (.d (.int .i64 1000000000000000)))), (4, 1, (.k (.d (.int .i64 10000))))]⟩,
    ⟨(some 14), none, .alloc 23 [.d (.int .i64 0), .d (.int .i64 0), .d (.int .i64 0), .d (.int .i64 0), .d (.int .i64 0)]⟩,
    ⟨none, none, .store 5 (.t 14) (.t 35)⟩])
  (.seq (.reg [⟨(some 36), none, .mov (.t 10)⟩,
    ⟨(some 37), none, .mov (.t 10)⟩,
    ⟨(some 38), none, .bin .add (.t 36) (.t 37)⟩,
    ⟨(some 39), none, .mov (.t 11)⟩,
    ⟨(some 40), none, .bin .add (.t 38) (.t 39)⟩,
    ⟨(some 41), none, .mov (.t 10)⟩,
    ⟨(some 42), none, .mov (.t 10)⟩,
    ⟨(some 43), none, .bin .add (.t 41) (.t 42)⟩,
    ⟨(some 44), none, .mov (.t 11)⟩,
    ⟨(some 45), none, .bin .add (.t 43) (.t 44)⟩,
    ⟨(some 46), none, .mov (.t 12)⟩,
    ⟨(some 47), none, .bin .add (.t 45) (.t 46)⟩,
    ⟨(some 48), none, .build [.d (.int .i64 0), .d (.int .i64 0), .d (.int .i64 0), .d (.int .i64 0), .d (.int .i64 0)] [(3, 1, (.t 40)), (1, 1, (.t 47)), (2, 1, (.k (.d (.int .i64 1000000000000000)))), (4, 1, (.k (.d (.int .i64 10000))))]⟩,
    ⟨(some 15), none, .alloc 23 [.d (.int .i64 0), .d (.int .i64 0), .d (.int .i64 0), .d (.int .i64 0), .d (.int .i64 0)]⟩,
    ⟨none, none, .store 5 (.t 15) (.t 48)⟩])
  (.seq (.reg [⟨(some 49), none, .mov (.t 10)⟩,
    ⟨(some 50), none, .mov (.t 10)⟩,
    ⟨(some 51), none, .mov (.t 10)⟩,
    ⟨(some 52), none, .bin .add (.t 50) (.t 51)⟩,
    ⟨(some 53), none, .mov (.t 11)⟩,
    ⟨(some 54), none, .bin .add (.t 52) (.t 53)⟩,
    ⟨(some 55), none, .mov (.t 10)⟩,
    ⟨(some 56), none, .bin .add (.t 54) (.t 55)⟩,
    ⟨(some 57), none, .mov (.t 11)⟩,
    ⟨(some 58), none, .bin .add (.t 56) (.t 57)⟩,
    ⟨(some 59), none, .mov (.t 12)⟩,
    ⟨(some 60), none, .bin .add (.t 58) (.t 59)⟩,
    ⟨(some 61), none, .build [.d (.int .i64 0), .d (.int .i64 0), .d (.int .i64 0), .d (.int .i64 0), .d (.int .i64 0)] [(3, 1, (.t 49)), (1, 1, (.t 60)), (2, 1, (.k (.d (.int .i64 1000000000000000)))), (4, 1, (.k (.d (.int .i64 10000))))]⟩,
    ⟨(some 16), none, .alloc 23 [.d (.int .i64 0), .d (.int .i64 0), .d (.int .i64 0), .d (.int .i64 0), .d (.int .i64 0)]⟩,
    ⟨none, none, .store 5 (.t 16) (.t 61)⟩])
  (.seq (.seq (.reg [⟨(some 62), none, .load 5 true (.t 14)⟩,
    ⟨(some 63), none, .call 9 [(.t 62)]⟩,
    ⟨(some 64), none, .inv .not (.t 63)⟩,
    ⟨(some 65), none, .mov (.t 64)⟩,
    ⟨(some 66), (some (65, false)), .load 5 true (.t 15)⟩,
    ⟨(some 67), (some (65, false)), .call 9 [(.t 66)]⟩,
    ⟨(some 68), (some (65, false)), .inv .not (.t 67)⟩,
    ⟨(some 69), none, .pick (.t 65) (.k (.d (.bool true))) (.t 68)⟩,
    ⟨(some 70), none, .mov (.t 69)⟩,
    ⟨(some 71), (some (70, false)), .load 5 true (.t 16)⟩,
    ⟨(some 72), (some (70, false)), .call 9 [(.t 71)]⟩,
    ⟨(some 73), (some (70, false)), .inv .not (.t 72)⟩,
    ⟨(some 74), none, .pick (.t 70) (.k (.d (.bool true))) (.t 73)⟩])
  (.cond (.t 74) (.seq (.reg [⟨(some 8), none, .mov (.k (.d (.bool false)))⟩])
    .ret)
  .skip))
  (.seq (.reg [⟨(some 75), none, .load 5 true (.t 14)⟩,
    ⟨(some 76), none, .mov (.t 13)⟩,
    ⟨(some 77), none, .call 11 [(.t 75), (.t 76), (.k (.d (.int .i64 0)))]⟩,
    ⟨(some 17), none, .mov (.t 77)⟩])
  (.seq (.reg [⟨(some 78), none, .load 5 true (.t 15)⟩,
    ⟨(some 79), none, .mov (.t 13)⟩,
    ⟨(some 80), none, .call 11 [(.t 78), (.t 79), (.k (.d (.int .i64 0)))]⟩,
    ⟨(some 18), none, .mov (.t 80)⟩])
  (.seq (.reg [⟨(some 81), none, .mov (.t 9)⟩,
    ⟨(some 82), none, .mov (.t 81)⟩,
    ⟨(some 83), (some (82, true)), .mov (.t 17)⟩,
    ⟨(some 84), (some (82, true)), .mov (.t 13)⟩,
    ⟨(some 85), (some (82, true)), .mov (.t 10)⟩,
    ⟨(some 86), (some (82, true)), .bin .sub (.t 84) (.t 85)⟩,
    ⟨(some 87), (some (82, true)), .mov (.t 10)⟩,
    ⟨(some 88), (some (82, true)), .mov (.t 11)⟩,
    ⟨(some 89), (some (82, true)), .bin .add (.t 87) (.t 88)⟩,
    ⟨(some 90), (some (82, true)), .mm false (.t 86) (.t 89)⟩,
    ⟨(some 91), (some (82, true)), .mm true (.k (.d (.int .i64 0))) (.t 90)⟩,
    ⟨(some 92), (some (82, true)), .bin .eql (.t 83) (.t 91)⟩,
    ⟨(some 93), none, .pick (.t 82) (.t 92) (.k (.d (.bool false)))⟩,
    ⟨(some 94), none, .mov (.t 93)⟩,
    ⟨(some 95), (some (94, true)), .mov (.t 18)⟩,
    ⟨(some 96), (some (94, true)), .mov (.t 13)⟩,
    ⟨(some 97), (some (94, true)), .mov (.t 10)⟩,
    ⟨(some 98), (some (94, true)), .bin .sub (.t 96) (.t 97)⟩,
    ⟨(some 99), (some (94, true)), .mov (.t 10)⟩,
    ⟨(some 100), (some (94, true)), .bin .sub (.t 98) (.t 99)⟩,
    ⟨(some 101), (some (94, true)), .mov (.t 11)⟩,
    ⟨(some 102), (some (94, true)), .bin .sub (.t 100) (.t 101)⟩,
    ⟨(some 103), (some (94, true)), .mov (.t 10)⟩,
    ⟨(some 104), (some (94, true)), .mov (.t 10)⟩,
    ⟨(some 105), (some (94, true)), .bin .add (.t 103) (.t 104)⟩,
    ⟨(some 106), (some (94, true)), .mov (.t 11)⟩,
    ⟨(some 107), (some (94, true)), .bin .add (.t 105) (.t 106)⟩,
    ⟨(some 108), (some (94, true)), .mov (.t 12)⟩,
    ⟨(some 109), (some (94, true)), .bin .add (.t 107) (.t 108)⟩,
    ⟨(some 110), (some (94, true)), .mm false (.t 102) (.t 109)⟩,
    ⟨(some 111), (some (94, true)), .mm true (.k (.d (.int .i64 0))) (.t 110)⟩,
    ⟨(some 112), (some (94, true)), .bin .eql (.t 95) (.t 111)⟩,
    ⟨(some 113), none, .pick (.t 94) (.t 112) (.k (.d (.bool false)))⟩,
    ⟨(some 114), none, .mov (.t 113)⟩,
    ⟨(some 115), (some (114, true)), .mov (.t 17)⟩,
    ⟨(some 116), (some (114, true)), .mov (.t 10)⟩,
    ⟨(some 117), (some (114, true)), .mov (.t 11)⟩,
    ⟨(some 118), (some (114, true)), .bin .add (.t 116) (.t 117)⟩,
    ⟨(some 119), (some (114, true)), .bin .lss (.t 115) (.t 118)⟩,
    ⟨(some 120), (some (114, true)), .mov (.t 119)⟩,
    ⟨(some 121), (some (120, false)), .mov (.t 17)⟩,
    ⟨(some 122), (some (120, false)), .mov (.t 18)⟩,
    ⟨(some 123), (some (120, false)), .bin .add (.t 121) (.t 122)⟩,
    ⟨(some 124), (some (120, false)), .load 5 true (.t 16)⟩,
    ⟨(some 125), (some (120, false)), .mov (.t 13)⟩,
    ⟨(some 126), (some (120, false)), .call 11 [(.t 124), (.t 125), (.k (.d (.int .i64 0)))]⟩,
    ⟨(some 127), (some (120, false)), .mov (.t 10)⟩,
    ⟨(some 128), (some (120, false)), .mov (.t 11)⟩,
    ⟨(some 129), (some (120, false)), .bin .add (.t 127) (.t 128)⟩,
    ⟨(some 130), (some (120, false)), .mov (.t 10)⟩,
    ⟨(some 131), (some (120, false)), .bin .add (.t 129) (.t 130)⟩,
    ⟨(some 132), (some (120, false)), .mov (.t 10)⟩,
    ⟨(some 133), (some (120, false)), .bin .add (.t 131) (.t 132)⟩,
    ⟨(some 134), (some (120, false)), .mov (.t 11)⟩,
    ⟨(some 135), (some (120, false)), .bin .add (.t 133) (.t 134)⟩,
    ⟨(some 136), (some (120, false)), .mov (.t 12)⟩,
    ⟨(some 137), (some (120, false)), .bin .add (.t 135) (.t 136)⟩,
    ⟨(some 138), (some (120, false)), .mm false (.t 126) (.t 137)⟩,
    ⟨(some 139), (some (120, false)), .bin .eql (.t 123) (.t 138)⟩,
    ⟨(some 140), (some (114, true)), .pick (.t 120) (.k (.d (.bool true))) (.t 139)⟩,
    ⟨(some 141), none, .pick (.t 114) (.t 140) (.k (.d (.bool false)))⟩,
    ⟨(some 8), none, .mov (.t 141)⟩])
  .ret)))))))))))))
def rs7 : List RV := [.tmp 8]
theorem ok7 : okF Try.prog 7 = true := by kernel_rfl
theorem cc7 : cCode Try.prog Try.f7.ntmps (Try.f7.body.getD .skip) = some c7 := by kernel_rfl
theorem cr7 : cRess Try.prog Try.f7.results.toList = some rs7 := by kernel_rfl
theorem pure7 {args : List V} {res : V} (hlen : args.length ≤ 142) (hna : namesL args = []) (hnr : res.names = []) (h : ∀ c : Ctx, c.P = Try.prog → c.fn = [] → vcC c c7 ⟨initE 0 args, [], []⟩ (RetK c rs7 res [])) : Ctr Try.prog 7 args [] res [] [] :=
  ctr_pure Try.func7 ok7 rfl cc7 cr7 Try.ntmps7 hlen hna hnr h
theorem own7 {args : List V} {ins outs : List (Nat × Own)} {res : V} {new : List Nat} (hlen : args.length ≤ 142) (hf : ctrB args ins res outs new = true) (h : ∀ c : Ctx, c.P = Try.prog → c.fn = namesL args ++ ownNames ins → vcC c c7 ⟨initE 0 args, ins, namesL args ++ ownNames ins⟩ (RetK c rs7 res outs)) : Ctr Try.prog 7 args ins res outs new :=
  ctr_own Try.func7 ok7 rfl cc7 cr7 Try.ntmps7 hlen hf h

/-- bordereau/bordereaulaw08.awake -/
def c8 : C :=
  (.seq (.reg [⟨(some 0), none, .mov (.k (.d (.bool false)))⟩])
  (.seq (.reg [⟨(some 2), none, .build [.d (.int .i64 0), .d (.int .i64 0), .d (.int .i64 0), .d (.int .i64 0), .d (.int .i64 0)] [(0, 1, (.k (.d (.int .i64 1)))), (1, 1, (.k (.d (.int .i64 1000)))), (2, 1, (.k (.d (.int .i64 1500)))), (3, 1, (.k (.d (.int .i64 100)))), (4, 1, (.k (.d (.int .i64 8000))))]⟩,
    ⟨(some 1), none, .alloc 23 [.d (.int .i64 0), .d (.int .i64 0), .d (.int .i64 0), .d (.int .i64 0), .d (.int .i64 0)]⟩,
    ⟨none, none, .store 5 (.t 1) (.t 2)⟩])
  (.seq (.reg [⟨(some 3), none, .load 5 true (.t 1)⟩,
    ⟨(some 4), none, .call 9 [(.t 3)]⟩,
    ⟨(some 5), none, .mov (.t 4)⟩,
    ⟨(some 6), (some (5, true)), .load 5 true (.t 1)⟩,
    ⟨(some 7), (some (5, true)), .call 11 [(.t 6), (.k (.d (.int .i64 600))), (.k (.d (.int .i64 0)))]⟩,
    ⟨(some 8), (some (5, true)), .bin .eql (.t 7) (.k (.d (.int .i64 400)))⟩,
    ⟨(some 9), none, .pick (.t 5) (.t 8) (.k (.d (.bool false)))⟩,
    ⟨(some 10), none, .mov (.t 9)⟩,
    ⟨(some 11), (some (10, true)), .load 5 true (.t 1)⟩,
    ⟨(some 12), (some (10, true)), .call 11 [(.t 11), (.k (.d (.int .i64 2000))), (.k (.d (.int .i64 900)))]⟩,
    ⟨(some 13), (some (10, true)), .bin .eql (.t 12) (.k (.d (.int .i64 600)))⟩,
    ⟨(some 14), none, .pick (.t 10) (.t 13) (.k (.d (.bool false)))⟩,
    ⟨(some 0), none, .mov (.t 14)⟩])
  .ret)))
def rs8 : List RV := [.tmp 0]
theorem ok8 : okF Try.prog 8 = true := by kernel_rfl
theorem cc8 : cCode Try.prog Try.f8.ntmps (Try.f8.body.getD .skip) = some c8 := by kernel_rfl
theorem cr8 : cRess Try.prog Try.f8.results.toList = some rs8 := by kernel_rfl
theorem pure8 {args : List V} {res : V} (hlen : args.length ≤ 15) (hna : namesL args = []) (hnr : res.names = []) (h : ∀ c : Ctx, c.P = Try.prog → c.fn = [] → vcC c c8 ⟨initE 0 args, [], []⟩ (RetK c rs8 res [])) : Ctr Try.prog 8 args [] res [] [] :=
  ctr_pure Try.func8 ok8 rfl cc8 cr8 Try.ntmps8 hlen hna hnr h
theorem own8 {args : List V} {ins outs : List (Nat × Own)} {res : V} {new : List Nat} (hlen : args.length ≤ 15) (hf : ctrB args ins res outs new = true) (h : ∀ c : Ctx, c.P = Try.prog → c.fn = namesL args ++ ownNames ins → vcC c c8 ⟨initE 0 args, ins, namesL args ++ ownNames ins⟩ (RetK c rs8 res outs)) : Ctr Try.prog 8 args ins res outs new :=
  ctr_own Try.func8 ok8 rfl cc8 cr8 Try.ntmps8 hlen hf h

/-- bordereau/cover.Right -/
def c9 : C :=
  (.seq (.reg [⟨(some 1), none, .box 23 (.t 0)⟩,
    ⟨(some 2), none, .mov (.k (.d (.bool false)))⟩])
  (.seq (.reg [⟨(some 5), none, .fadr 0 (.t 1)⟩,
    ⟨(some 6), none, .load 1 false (.t 5)⟩,
    ⟨(some 7), none, .bin .geq (.t 6) (.k (.d (.int .i64 0)))⟩,
    ⟨(some 8), none, .mov (.t 7)⟩,
    ⟨(some 9), (some (8, true)), .fadr 0 (.t 1)⟩,
    ⟨(some 10), (some (8, true)), .load 1 false (.t 9)⟩,
    ⟨(some 11), (some (8, true)), .bin .lss (.t 10) (.k (.d (.int .i64 8)))⟩,
    ⟨(some 12), none, .pick (.t 8) (.t 11) (.k (.d (.bool false)))⟩,
    ⟨(some 3), none, .mov (.t 12)⟩])
  (.seq (.reg [⟨(some 13), none, .fadr 4 (.t 1)⟩,
    ⟨(some 14), none, .load 1 false (.t 13)⟩,
    ⟨(some 15), none, .bin .geq (.t 14) (.k (.d (.int .i64 1)))⟩,
    ⟨(some 16), none, .mov (.t 15)⟩,
    ⟨(some 17), (some (16, true)), .fadr 4 (.t 1)⟩,
    ⟨(some 18), (some (16, true)), .load 1 false (.t 17)⟩,
    ⟨(some 19), (some (16, true)), .bin .leq (.t 18) (.k (.d (.int .i64 10000)))⟩,
    ⟨(some 20), none, .pick (.t 16) (.t 19) (.k (.d (.bool false)))⟩,
    ⟨(some 4), none, .mov (.t 20)⟩])
  (.seq (.reg [⟨(some 21), none, .mov (.t 3)⟩,
    ⟨(some 22), none, .mov (.t 21)⟩,
    ⟨(some 23), (some (22, true)), .mov (.t 4)⟩,
    ⟨(some 24), none, .pick (.t 22) (.t 23) (.k (.d (.bool false)))⟩,
    ⟨(some 25), none, .mov (.t 24)⟩,
    ⟨(some 26), (some (25, true)), .fadr 3 (.t 1)⟩,
    ⟨(some 27), (some (25, true)), .load 1 false (.t 26)⟩,
    ⟨(some 28), (some (25, true)), .fadr 1 (.t 1)⟩,
    ⟨(some 29), (some (25, true)), .load 1 false (.t 28)⟩,
    ⟨(some 30), (some (25, true)), .bin .sub (.t 29) (.k (.d (.int .i64 1)))⟩,
    ⟨(some 31), (some (25, true)), .fadr 2 (.t 1)⟩,
    ⟨(some 32), (some (25, true)), .load 1 false (.t 31)⟩,
    ⟨(some 33), (some (25, true)), .bin .sub (.t 32) (.k (.d (.int .i64 1)))⟩,
    ⟨(some 34), (some (25, true)), .bslice 3 1 5 [(.k (.d (.int .i64 0))), (.t 27), (.t 30), (.t 33), (.k (.d (.int .i64 999999999999999)))]⟩,
    ⟨(some 35), (some (25, true)), .call 13 [(.t 34)]⟩,
    ⟨(some 36), none, .pick (.t 25) (.t 35) (.k (.d (.bool false)))⟩,
    ⟨(some 37), none, .mov (.t 36)⟩,
    ⟨(some 38), (some (37, true)), .fadr 3 (.t 1)⟩,
    ⟨(some 39), (some (37, true)), .load 1 false (.t 38)⟩,
    ⟨(some 40), (some (37, true)), .fadr 1 (.t 1)⟩,
    ⟨(some 41), (some (37, true)), .load 1 false (.t 40)⟩,
    ⟨(some 42), (some (37, true)), .bin .lss (.t 39) (.t 41)⟩,
    ⟨(some 43), none, .pick (.t 37) (.t 42) (.k (.d (.bool false)))⟩,
    ⟨(some 2), none, .mov (.t 43)⟩])
  .ret))))
def rs9 : List RV := [.tmp 2]
theorem ok9 : okF Try.prog 9 = true := by kernel_rfl
theorem cc9 : cCode Try.prog Try.f9.ntmps (Try.f9.body.getD .skip) = some c9 := by kernel_rfl
theorem cr9 : cRess Try.prog Try.f9.results.toList = some rs9 := by kernel_rfl
theorem pure9 {args : List V} {res : V} (hlen : args.length ≤ 44) (hna : namesL args = []) (hnr : res.names = []) (h : ∀ c : Ctx, c.P = Try.prog → c.fn = [] → vcC c c9 ⟨initE 0 args, [], []⟩ (RetK c rs9 res [])) : Ctr Try.prog 9 args [] res [] [] :=
  ctr_pure Try.func9 ok9 rfl cc9 cr9 Try.ntmps9 hlen hna hnr h
theorem own9 {args : List V} {ins outs : List (Nat × Own)} {res : V} {new : List Nat} (hlen : args.length ≤ 44) (hf : ctrB args ins res outs new = true) (h : ∀ c : Ctx, c.P = Try.prog → c.fn = namesL args ++ ownNames ins → vcC c c9 ⟨initE 0 args, ins, namesL args ++ ownNames ins⟩ (RetK c rs9 res outs)) : Ctr Try.prog 9 args ins res outs new :=
  ctr_own Try.func9 ok9 rfl cc9 cr9 Try.ntmps9 hlen hf h

/-- bordereau/bordereauref08.Right -/
def c10 : C :=
  (.seq (.reg [⟨(some 1), none, .box 23 (.t 0)⟩,
    ⟨(some 2), none, .mov (.k (.d (.bool false)))⟩])
  (.seq (.seq (.reg [⟨(some 3), none, .fadr 0 (.t 1)⟩,
    ⟨(some 4), none, .load 1 false (.t 3)⟩,
    ⟨(some 5), none, .bin .lss (.t 4) (.k (.d (.int .i64 0)))⟩,
    ⟨(some 6), none, .mov (.t 5)⟩,
    ⟨(some 7), (some (6, false)), .fadr 0 (.t 1)⟩,
    ⟨(some 8), (some (6, false)), .load 1 false (.t 7)⟩,
    ⟨(some 9), (some (6, false)), .bin .gtr (.t 8) (.k (.d (.int .i64 7)))⟩,
    ⟨(some 10), none, .pick (.t 6) (.k (.d (.bool true))) (.t 9)⟩,
    ⟨(some 11), none, .mov (.t 10)⟩,
    ⟨(some 12), (some (11, false)), .fadr 4 (.t 1)⟩,
    ⟨(some 13), (some (11, false)), .load 1 false (.t 12)⟩,
    ⟨(some 14), (some (11, false)), .bin .lss (.t 13) (.k (.d (.int .i64 1)))⟩,
    ⟨(some 15), none, .pick (.t 11) (.k (.d (.bool true))) (.t 14)⟩,
    ⟨(some 16), none, .mov (.t 15)⟩,
    ⟨(some 17), (some (16, false)), .fadr 4 (.t 1)⟩,
    ⟨(some 18), (some (16, false)), .load 1 false (.t 17)⟩,
    ⟨(some 19), (some (16, false)), .bin .gtr (.t 18) (.k (.d (.int .i64 10000)))⟩,
    ⟨(some 20), none, .pick (.t 16) (.k (.d (.bool true))) (.t 19)⟩])
  (.cond (.t 20) (.seq (.reg [⟨(some 2), none, .mov (.k (.d (.bool false)))⟩])
    .ret)
  .skip))
  (.seq (.reg [⟨(some 21), none, .fadr 3 (.t 1)⟩,
    ⟨(some 22), none, .load 1 false (.t 21)⟩,
    ⟨(some 23), none, .bin .geq (.t 22) (.k (.d (.int .i64 0)))⟩,
    ⟨(some 24), none, .mov (.t 23)⟩,
    ⟨(some 25), (some (24, true)), .fadr 3 (.t 1)⟩,
    ⟨(some 26), (some (24, true)), .load 1 false (.t 25)⟩,
    ⟨(some 27), (some (24, true)), .fadr 1 (.t 1)⟩,
    ⟨(some 28), (some (24, true)), .load 1 false (.t 27)⟩,
    ⟨(some 29), (some (24, true)), .bin .lss (.t 26) (.t 28)⟩,
    ⟨(some 30), none, .pick (.t 24) (.t 29) (.k (.d (.bool false)))⟩,
    ⟨(some 31), none, .mov (.t 30)⟩,
    ⟨(some 32), (some (31, true)), .fadr 1 (.t 1)⟩,
    ⟨(some 33), (some (31, true)), .load 1 false (.t 32)⟩,
    ⟨(some 34), (some (31, true)), .fadr 2 (.t 1)⟩,
    ⟨(some 35), (some (31, true)), .load 1 false (.t 34)⟩,
    ⟨(some 36), (some (31, true)), .bin .leq (.t 33) (.t 35)⟩,
    ⟨(some 37), none, .pick (.t 31) (.t 36) (.k (.d (.bool false)))⟩,
    ⟨(some 38), none, .mov (.t 37)⟩,
    ⟨(some 39), (some (38, true)), .fadr 2 (.t 1)⟩,
    ⟨(some 40), (some (38, true)), .load 1 false (.t 39)⟩,
    ⟨(some 41), (some (38, true)), .bin .leq (.t 40) (.k (.d (.int .i64 1000000000000000)))⟩,
    ⟨(some 42), none, .pick (.t 38) (.t 41) (.k (.d (.bool false)))⟩,
    ⟨(some 2), none, .mov (.t 42)⟩])
  .ret)))
def rs10 : List RV := [.tmp 2]
theorem ok10 : okF Try.prog 10 = true := by kernel_rfl
theorem cc10 : cCode Try.prog Try.f10.ntmps (Try.f10.body.getD .skip) = some c10 := by kernel_rfl
theorem cr10 : cRess Try.prog Try.f10.results.toList = some rs10 := by kernel_rfl
theorem pure10 {args : List V} {res : V} (hlen : args.length ≤ 43) (hna : namesL args = []) (hnr : res.names = []) (h : ∀ c : Ctx, c.P = Try.prog → c.fn = [] → vcC c c10 ⟨initE 0 args, [], []⟩ (RetK c rs10 res [])) : Ctr Try.prog 10 args [] res [] [] :=
  ctr_pure Try.func10 ok10 rfl cc10 cr10 Try.ntmps10 hlen hna hnr h
theorem own10 {args : List V} {ins outs : List (Nat × Own)} {res : V} {new : List Nat} (hlen : args.length ≤ 43) (hf : ctrB args ins res outs new = true) (h : ∀ c : Ctx, c.P = Try.prog → c.fn = namesL args ++ ownNames ins → vcC c c10 ⟨initE 0 args, ins, namesL args ++ ownNames ins⟩ (RetK c rs10 res outs)) : Ctr Try.prog 10 args ins res outs new :=
  ctr_own Try.func10 ok10 rfl cc10 cr10 Try.ntmps10 hlen hf h

/-- bordereau/cover.Pays -/
def c11 : C :=
  (.seq (.reg [⟨(some 3), none, .box 23 (.t 0)⟩,
    ⟨(some 6), none, .mov (.k (.d (.int .i64 0)))⟩])
  (.seq (.seq (.reg [⟨(some 10), none, .load 5 true (.t 3)⟩,
    ⟨(some 11), none, .call 9 [(.t 10)]⟩,
    ⟨(some 12), none, .inv .not (.t 11)⟩,
    ⟨(some 13), none, .mov (.t 12)⟩,
    ⟨(some 14), (some (13, false)), .mov (.t 1)⟩,
    ⟨(some 15), (some (13, false)), .bin .lss (.t 14) (.k (.d (.int .i64 0)))⟩,
    ⟨(some 16), none, .pick (.t 13) (.k (.d (.bool true))) (.t 15)⟩,
    ⟨(some 17), none, .mov (.t 16)⟩,
    ⟨(some 18), (some (17, false)), .mov (.t 2)⟩,
    ⟨(some 19), (some (17, false)), .bin .lss (.t 18) (.k (.d (.int .i64 0)))⟩,
    ⟨(some 20), none, .pick (.t 17) (.k (.d (.bool true))) (.t 19)⟩])
  (.cond (.t 20) (.seq (.reg [⟨(some 6), none, .mov (.k (.d (.int .i64 0)))⟩])
    .ret)
  .skip))
  (.seq (.reg [⟨(some 21), none, .mov (.t 1)⟩,
    ⟨(some 7), none, .mov (.t 21)⟩])
  (.seq (.seq (.reg [⟨(some 22), none, .load 5 true (.t 3)⟩,
    ⟨(some 23), none, .mkfn (.func 14) [(.t 22)] []⟩,
    ⟨(some 24), none, .load 5 true (.t 3)⟩,
    ⟨(some 25), none, .mkfn (.func 15) [(.t 24)] []⟩,
    ⟨(some 26), none, .bslice 35 1 2 [(.t 23), (.t 25)]⟩,
    ⟨(some 27), none, .len (.t 26)⟩,
    ⟨(some 28), none, .mov (.k (.d (.int .i64 0)))⟩])
  (.block 0 (.loop (.seq (.reg [⟨(some 29), none, .bin .lss (.t 28) (.t 27)⟩])
      (.seq (.cond (.t 29) .skip
      (.exit 0))
      (.seq (.block 1 (.seq (.reg [⟨(some 30), none, .iadr 1 (.t 26) (.t 28)⟩,
          ⟨(some 31), none, .load 1 false (.t 30)⟩,
          ⟨(some 9), none, .mov (.t 31)⟩])
        (.reg [⟨(some 32), none, .mov (.t 9)⟩,
          ⟨(some 33), none, .mov (.t 7)⟩,
          ⟨(some 34), none, .callv (.t 32) [(.t 33)]⟩,
          ⟨(some 7), none, .mov (.t 34)⟩])))
      (.reg [⟨(some 35), none, .bin .add (.t 28) (.k (.d (.int .i64 1)))⟩,
        ⟨(some 28), none, .mov (.t 35)⟩])))))))
  (.seq (.reg [⟨(some 36), none, .mov (.t 7)⟩,
    ⟨(some 37), none, .fadr 2 (.t 3)⟩,
    ⟨(some 38), none, .load 1 false (.t 37)⟩,
    ⟨(some 39), none, .mov (.t 2)⟩,
    ⟨(some 40), none, .bin .sub (.t 38) (.t 39)⟩,
    ⟨(some 41), none, .bslice 3 1 1 [(.t 40)]⟩,
    ⟨(some 42), none, .call 16 [(.t 36), (.t 41)]⟩,
    ⟨(some 6), none, .mov (.t 42)⟩])
  .ret)))))
def rs11 : List RV := [.tmp 6]
theorem ok11 : okF Try.prog 11 = true := by kernel_rfl
theorem cc11 : cCode Try.prog Try.f11.ntmps (Try.f11.body.getD .skip) = some c11 := by kernel_rfl
theorem cr11 : cRess Try.prog Try.f11.results.toList = some rs11 := by kernel_rfl
theorem pure11 {args : List V} {res : V} (hlen : args.length ≤ 43) (hna : namesL args = []) (hnr : res.names = []) (h : ∀ c : Ctx, c.P = Try.prog → c.fn = [] → vcC c c11 ⟨initE 0 args, [], []⟩ (RetK c rs11 res [])) : Ctr Try.prog 11 args [] res [] [] :=
  ctr_pure Try.func11 ok11 rfl cc11 cr11 Try.ntmps11 hlen hna hnr h
theorem own11 {args : List V} {ins outs : List (Nat × Own)} {res : V} {new : List Nat} (hlen : args.length ≤ 43) (hf : ctrB args ins res outs new = true) (h : ∀ c : Ctx, c.P = Try.prog → c.fn = namesL args ++ ownNames ins → vcC c c11 ⟨initE 0 args, ins, namesL args ++ ownNames ins⟩ (RetK c rs11 res outs)) : Ctr Try.prog 11 args ins res outs new :=
  ctr_own Try.func11 ok11 rfl cc11 cr11 Try.ntmps11 hlen hf h

/-- bordereau/bordereauref08.Pays -/
def c12 : C :=
  (.seq (.reg [⟨(some 3), none, .box 23 (.t 0)⟩,
    ⟨(some 6), none, .mov (.k (.d (.int .i64 0)))⟩])
  (.seq (.reg [⟨(some 9), none, .load 5 true (.t 3)⟩,
    ⟨(some 10), none, .call 10 [(.t 9)]⟩,
    ⟨(some 7), none, .mov (.t 10)⟩])
  (.seq (.seq (.reg [⟨(some 11), none, .mov (.t 7)⟩,
    ⟨(some 12), none, .inv .not (.t 11)⟩,
    ⟨(some 13), none, .mov (.t 12)⟩,
    ⟨(some 14), (some (13, false)), .mov (.t 1)⟩,
    ⟨(some 15), (some (13, false)), .bin .lss (.t 14) (.k (.d (.int .i64 0)))⟩,
    ⟨(some 16), none, .pick (.t 13) (.k (.d (.bool true))) (.t 15)⟩,
    ⟨(some 17), none, .mov (.t 16)⟩,
    ⟨(some 18), (some (17, false)), .mov (.t 2)⟩,
    ⟨(some 19), (some (17, false)), .bin .lss (.t 18) (.k (.d (.int .i64 0)))⟩,
    ⟨(some 20), none, .pick (.t 17) (.k (.d (.bool true))) (.t 19)⟩])
  (.cond (.t 20) (.seq (.reg [⟨(some 6), none, .mov (.k (.d (.int .i64 0)))⟩])
    .ret)
  .skip))
  (.seq (.reg [⟨(some 21), none, .mov (.t 1)⟩,
    ⟨(some 22), none, .fadr 3 (.t 3)⟩,
    ⟨(some 23), none, .load 1 false (.t 22)⟩,
    ⟨(some 24), none, .bin .sub (.t 21) (.t 23)⟩,
    ⟨(some 25), none, .fadr 1 (.t 3)⟩,
    ⟨(some 26), none, .load 1 false (.t 25)⟩,
    ⟨(some 27), none, .mm false (.t 24) (.t 26)⟩,
    ⟨(some 28), none, .mm true (.k (.d (.int .i64 0))) (.t 27)⟩,
    ⟨(some 8), none, .mov (.t 28)⟩])
  (.seq (.drw [0, 0, 2, 7, 0, 16, 0, 112, 255, 511, 1023]
   [⟨(some 29), none, .mov (.t 8)⟩,
    ⟨(some 30), none, .fadr 4 (.t 3)⟩,
    ⟨(some 31), none, .load 1 false (.t 30)⟩,
    ⟨(some 32), none, .call 17 [(.t 29), (.t 31)]⟩,
    ⟨(some 33), none, .fadr 2 (.t 3)⟩,
    ⟨(some 34), none, .load 1 false (.t 33)⟩,
    ⟨(some 35), none, .mov (.t 2)⟩,
    ⟨(some 36), none, .bin .sub (.t 34) (.t 35)⟩,
    ⟨(some 37), none, .mm false (.t 32) (.t 36)⟩,
    ⟨(some 38), none, .mm true (.k (.d (.int .i64 0))) (.t 37)⟩,
    ⟨(some 6), none, .mov (.t 38)⟩])
  .ret)))))
def rs12 : List RV := [.tmp 6]
theorem ok12 : okF Try.prog 12 = true := by kernel_rfl
theorem cc12 : cCode Try.prog Try.f12.ntmps (Try.f12.body.getD .skip) = some c12 := by kernel_rfl
theorem cr12 : cRess Try.prog Try.f12.results.toList = some rs12 := by kernel_rfl
theorem pure12 {args : List V} {res : V} (hlen : args.length ≤ 39) (hna : namesL args = []) (hnr : res.names = []) (h : ∀ c : Ctx, c.P = Try.prog → c.fn = [] → vcC c c12 ⟨initE 0 args, [], []⟩ (RetK c rs12 res [])) : Ctr Try.prog 12 args [] res [] [] :=
  ctr_pure Try.func12 ok12 rfl cc12 cr12 Try.ntmps12 hlen hna hnr h
theorem own12 {args : List V} {ins outs : List (Nat × Own)} {res : V} {new : List Nat} (hlen : args.length ≤ 39) (hf : ctrB args ins res outs new = true) (h : ∀ c : Ctx, c.P = Try.prog → c.fn = namesL args ++ ownNames ins → vcC c c12 ⟨initE 0 args, ins, namesL args ++ ownNames ins⟩ (RetK c rs12 res outs)) : Ctr Try.prog 12 args ins res outs new :=
  ctr_own Try.func12 ok12 rfl cc12 cr12 Try.ntmps12 hlen hf h

/-- slices.IsSorted[[]int,int] -/
def c13 : C :=
  (.seq (.reg [⟨(some 2), none, .mov (.k (.d (.bool false)))⟩])
  (.seq (.seq (.reg [⟨(some 4), none, .mov (.t 0)⟩,
    ⟨(some 5), none, .len (.t 4)⟩,
    ⟨(some 6), none, .bin .sub (.t 5) (.k (.d (.int .i64 1)))⟩,
    ⟨(some 3), none, .mov (.t 6)⟩])
  (.block 0 (.loop (.seq (.seq (.reg [⟨(some 7), none, .mov (.t 3)⟩,
        ⟨(some 8), none, .bin .gtr (.t 7) (.k (.d (.int .i64 0)))⟩])
      (.cond (.t 8) .skip
      (.exit 0)))
      (.seq (.block 1 (.seq (.drw [0, 0, 3, 7, 0, 0, 32, 112, 240, 511]
         [⟨(some 11), none, .mov (.t 0)⟩,
          ⟨(some 12), none, .mov (.t 3)⟩,
          ⟨(some 13), none, .iadr 1 (.t 11) (.t 12)⟩,
          ⟨(some 14), none, .load 1 false (.t 13)⟩,
          ⟨(some 15), none, .mov (.t 0)⟩,
          ⟨(some 16), none, .mov (.t 3)⟩,
          ⟨(some 17), none, .bin .sub (.t 16) (.k (.d (.int .i64 1)))⟩,
          ⟨(some 18), none, .iadr 1 (.t 15) (.t 17)⟩,
          ⟨(some 19), none, .load 1 false (.t 18)⟩,
          ⟨(some 20), none, .call 18 [(.t 14), (.t 19)]⟩])
        (.cond (.t 20) (.seq (.reg [⟨(some 2), none, .mov (.k (.d (.bool false)))⟩])
          .ret)
        .skip)))
      (.reg [⟨(some 9), none, .mov (.t 3)⟩,
        ⟨(some 10), none, .bin .sub (.t 9) (.k (.d (.int .i64 1)))⟩,
        ⟨(some 3), none, .mov (.t 10)⟩]))))))
  (.seq (.reg [⟨(some 2), none, .mov (.k (.d (.bool true)))⟩])
  .ret)))
def rs13 : List RV := [.tmp 2]
theorem ok13 : okF Try.prog 13 = true := by kernel_rfl
theorem cc13 : cCode Try.prog Try.f13.ntmps (Try.f13.body.getD .skip) = some c13 := by kernel_rfl
theorem cr13 : cRess Try.prog Try.f13.results.toList = some rs13 := by kernel_rfl
theorem pure13 {args : List V} {res : V} (hlen : args.length ≤ 21) (hna : namesL args = []) (hnr : res.names = []) (h : ∀ c : Ctx, c.P = Try.prog → c.fn = [] → vcC c c13 ⟨initE 0 args, [], []⟩ (RetK c rs13 res [])) : Ctr Try.prog 13 args [] res [] [] :=
  ctr_pure Try.func13 ok13 rfl cc13 cr13 Try.ntmps13 hlen hna hnr h
theorem own13 {args : List V} {ins outs : List (Nat × Own)} {res : V} {new : List Nat} (hlen : args.length ≤ 21) (hf : ctrB args ins res outs new = true) (h : ∀ c : Ctx, c.P = Try.prog → c.fn = namesL args ++ ownNames ins → vcC c c13 ⟨initE 0 args, ins, namesL args ++ ownNames ins⟩ (RetK c rs13 res outs)) : Ctr Try.prog 13 args ins res outs new :=
  ctr_own Try.func13 ok13 rfl cc13 cr13 Try.ntmps13 hlen hf h

/-- (bordereau/cover.terms).claim -/
def c14 : C :=
  (.seq (.reg [⟨(some 2), none, .box 36 (.t 0)⟩,
    ⟨(some 4), none, .mov (.k (.d (.int .i64 0)))⟩])
  (.seq (.reg [⟨(some 5), none, .mov (.t 1)⟩,
    ⟨(some 6), none, .fadr 3 (.t 2)⟩,
    ⟨(some 7), none, .load 1 false (.t 6)⟩,
    ⟨(some 8), none, .bin .sub (.t 5) (.t 7)⟩,
    ⟨(some 9), none, .fadr 1 (.t 2)⟩,
    ⟨(some 10), none, .load 1 false (.t 9)⟩,
    ⟨(some 11), none, .bslice 3 1 1 [(.t 10)]⟩,
    ⟨(some 12), none, .call 16 [(.t 8), (.t 11)]⟩,
    ⟨(some 4), none, .mov (.t 12)⟩])
  .ret))
def rs14 : List RV := [.tmp 4]
theorem ok14 : okF Try.prog 14 = true := by kernel_rfl
theorem cc14 : cCode Try.prog Try.f14.ntmps (Try.f14.body.getD .skip) = some c14 := by kernel_rfl
theorem cr14 : cRess Try.prog Try.f14.results.toList = some rs14 := by kernel_rfl
theorem pure14 {args : List V} {res : V} (hlen : args.length ≤ 13) (hna : namesL args = []) (hnr : res.names = []) (h : ∀ c : Ctx, c.P = Try.prog → c.fn = [] → vcC c c14 ⟨initE 0 args, [], []⟩ (RetK c rs14 res [])) : Ctr Try.prog 14 args [] res [] [] :=
  ctr_pure Try.func14 ok14 rfl cc14 cr14 Try.ntmps14 hlen hna hnr h
theorem own14 {args : List V} {ins outs : List (Nat × Own)} {res : V} {new : List Nat} (hlen : args.length ≤ 13) (hf : ctrB args ins res outs new = true) (h : ∀ c : Ctx, c.P = Try.prog → c.fn = namesL args ++ ownNames ins → vcC c c14 ⟨initE 0 args, ins, namesL args ++ ownNames ins⟩ (RetK c rs14 res outs)) : Ctr Try.prog 14 args ins res outs new :=
  ctr_own Try.func14 ok14 rfl cc14 cr14 Try.ntmps14 hlen hf h

/-- (bordereau/cover.terms).share -/
def c15 : C :=
  (.seq (.reg [⟨(some 2), none, .box 36 (.t 0)⟩,
    ⟨(some 4), none, .mov (.k (.d (.int .i64 0)))⟩])
  (.seq (.reg [⟨(some 8), none, .mov (.t 1)⟩,
    ⟨(some 9), none, .fadr 4 (.t 2)⟩,
    ⟨(some 10), none, .load 1 false (.t 9)⟩,
    ⟨(some 11), none, .call 19 [(.t 8), (.t 10)]⟩,
    ⟨(some 7), none, .mov (.t 11)⟩,
    ⟨(some 12), none, .ext 0 (.t 7)⟩,
    ⟨(some 13), none, .ext 1 (.t 7)⟩,
    ⟨(some 5), none, .mov (.t 12)⟩,
    ⟨(some 6), none, .mov (.t 13)⟩])
  (.seq (.reg [⟨(some 14), none, .mov (.t 5)⟩,
    ⟨(some 4), none, .mov (.t 14)⟩])
  .ret)))
def rs15 : List RV := [.tmp 4]
theorem ok15 : okF Try.prog 15 = true := by kernel_rfl
theorem cc15 : cCode Try.prog Try.f15.ntmps (Try.f15.body.getD .skip) = some c15 := by kernel_rfl
theorem cr15 : cRess Try.prog Try.f15.results.toList = some rs15 := by kernel_rfl
theorem pure15 {args : List V} {res : V} (hlen : args.length ≤ 15) (hna : namesL args = []) (hnr : res.names = []) (h : ∀ c : Ctx, c.P = Try.prog → c.fn = [] → vcC c c15 ⟨initE 0 args, [], []⟩ (RetK c rs15 res [])) : Ctr Try.prog 15 args [] res [] [] :=
  ctr_pure Try.func15 ok15 rfl cc15 cr15 Try.ntmps15 hlen hna hnr h
theorem own15 {args : List V} {ins outs : List (Nat × Own)} {res : V} {new : List Nat} (hlen : args.length ≤ 15) (hf : ctrB args ins res outs new = true) (h : ∀ c : Ctx, c.P = Try.prog → c.fn = namesL args ++ ownNames ins → vcC c c15 ⟨initE 0 args, ins, namesL args ++ ownNames ins⟩ (RetK c rs15 res outs)) : Ctr Try.prog 15 args ins res outs new :=
  ctr_own Try.func15 ok15 rfl cc15 cr15 Try.ntmps15 hlen hf h

/-- bordereau/cover.least -/
def c16 : C :=
  (.seq (.reg [⟨(some 4), none, .mov (.k (.d (.int .i64 0)))⟩])
  (.seq (.seq (.reg [⟨(some 7), none, .mov (.t 1)⟩,
    ⟨(some 8), none, .len (.t 7)⟩,
    ⟨(some 9), none, .mov (.k (.d (.int .i64 0)))⟩])
  (.block 0 (.loop (.seq (.reg [⟨(some 10), none, .bin .lss (.t 9) (.t 8)⟩])
      (.seq (.cond (.t 10) .skip
      (.exit 0))
      (.seq (.block 1 (.seq (.reg [⟨(some 11), none, .iadr 1 (.t 7) (.t 9)⟩,
          ⟨(some 12), none, .load 1 false (.t 11)⟩,
          ⟨(some 6), none, .mov (.t 12)⟩])
        (.reg [⟨(some 13), none, .mov (.t 0)⟩,
          ⟨(some 14), none, .mov (.t 6)⟩,
          ⟨(some 15), none, .mm false (.t 13) (.t 14)⟩,
          ⟨(some 0), none, .mov (.t 15)⟩])))
      (.reg [⟨(some 16), none, .bin .add (.t 9) (.k (.d (.int .i64 1)))⟩,
        ⟨(some 9), none, .mov (.t 16)⟩])))))))
  (.seq (.reg [⟨(some 17), none, .mov (.t 0)⟩,
    ⟨(some 18), none, .mm true (.t 17) (.k (.d (.int .i64 0)))⟩,
    ⟨(some 4), none, .mov (.t 18)⟩])
  .ret)))
def rs16 : List RV := [.tmp 4]
theorem ok16 : okF Try.prog 16 = true := by kernel_rfl
theorem cc16 : cCode Try.prog Try.f16.ntmps (Try.f16.body.getD .skip) = some c16 := by kernel_rfl
theorem cr16 : cRess Try.prog Try.f16.results.toList = some rs16 := by kernel_rfl
theorem pure16 {args : List V} {res : V} (hlen : args.length ≤ 19) (hna : namesL args = []) (hnr : res.names = []) (h : ∀ c : Ctx, c.P = Try.prog → c.fn = [] → vcC c c16 ⟨initE 0 args, [], []⟩ (RetK c rs16 res [])) : Ctr Try.prog 16 args [] res [] [] :=
  ctr_pure Try.func16 ok16 rfl cc16 cr16 Try.ntmps16 hlen hna hnr h
theorem own16 {args : List V} {ins outs : List (Nat × Own)} {res : V} {new : List Nat} (hlen : args.length ≤ 19) (hf : ctrB args ins res outs new = true) (h : ∀ c : Ctx, c.P = Try.prog → c.fn = namesL args ++ ownNames ins → vcC c c16 ⟨initE 0 args, ins, namesL args ++ ownNames ins⟩ (RetK c rs16 res outs)) : Ctr Try.prog 16 args ins res outs new :=
  ctr_own Try.func16 ok16 rfl cc16 cr16 Try.ntmps16 hlen hf h

/-- bordereau/bordereauref08.Part -/
def c17 : C :=
  (.seq (.reg [⟨(some 4), none, .mov (.k (.d (.int .i64 0)))⟩])
  (.seq (.reg [⟨(some 9), none, .mov (.t 0)⟩,
    ⟨(some 10), none, .bin .quo (.t 9) (.k (.d (.int .i64 10000)))⟩,
    ⟨(some 11), none, .mov (.t 1)⟩,
    ⟨(some 12), none, .bin .mul (.t 10) (.t 11)⟩,
    ⟨(some 5), none, .mov (.t 12)⟩])
  (.seq (.reg [⟨(some 13), none, .mov (.t 0)⟩,
    ⟨(some 14), none, .bin .rem (.t 13) (.k (.d (.int .i64 10000)))⟩,
    ⟨(some 15), none, .mov (.t 1)⟩,
    ⟨(some 16), none, .bin .mul (.t 14) (.t 15)⟩,
    ⟨(some 6), none, .mov (.t 16)⟩])
  (.seq (.reg [⟨(some 17), none, .mov (.t 6)⟩,
    ⟨(some 18), none, .bin .quo (.t 17) (.k (.d (.int .i64 10000)))⟩,
    ⟨(some 7), none, .mov (.t 18)⟩])
  (.seq (.reg [⟨(some 19), none, .mov (.t 6)⟩,
    ⟨(some 20), none, .bin .rem (.t 19) (.k (.d (.int .i64 10000)))⟩,
    ⟨(some 8), none, .mov (.t 20)⟩])
  (.seq (.seq (.reg [⟨(some 21), none, .mov (.t 8)⟩,
    ⟨(some 22), none, .bin .gtr (.t 21) (.k (.d (.int .i64 5000)))⟩,
    ⟨(some 23), none, .mov (.t 22)⟩,
    ⟨(some 24), (some (23, false)), .mov (.t 8)⟩,
    ⟨(some 25), (some (23, false)), .bin .eql (.t 24) (.k (.d (.int .i64 5000)))⟩,
    ⟨(some 26), (some (23, false)), .mov (.t 25)⟩,
    ⟨(some 27), (some (26, true)), .mov (.t 5)⟩,
    ⟨(some 28), (some (26, true)), .mov (.t 7)⟩,
    ⟨(some 29), (some (26, true)), .bin .add (.t 27) (.t 28)⟩,
    ⟨(some 30), (some (26, true)), .bin .rem (.t 29) (.k (.d (.int .i64 2)))⟩,
    ⟨(some 31), (some (26, true)), .bin .eql (.t 30) (.k (.d (.int .i64 1)))⟩,
    ⟨(some 32), (some (23, false)), .pick (.t 26) (.t 31) (.k (.d (.bool false)))⟩,
    ⟨(some 33), none, .pick (.t 23) (.k (.d (.bool true))) (.t 32)⟩])
  (.cond (.t 33) (.reg [⟨(some 34), none, .mov (.t 7)⟩,
      ⟨(some 35), none, .bin .add (.t 34) (.k (.d (.int .i64 1)))⟩,
      ⟨(some 7), none, .mov (.t 35)⟩])
  .skip))
  (.seq (.reg [⟨(some 36), none, .mov (.t 5)⟩,
    ⟨(some 37), none, .mov (.t 7)⟩,
    ⟨(some 38), none, .bin .add (.t 36) (.t 37)⟩,
    ⟨(some 4), none, .mov (.t 38)⟩])
  .ret)))))))
def rs17 : List RV := [.tmp 4]
theorem ok17 : okF Try.prog 17 = true := by kernel_rfl
theorem cc17 : cCode Try.prog Try.f17.ntmps (Try.f17.body.getD .skip) = some c17 := by kernel_rfl
theorem cr17 : cRess Try.prog Try.f17.results.toList = some rs17 := by kernel_rfl
theorem pure17 {args : List V} {res : V} (hlen : args.length ≤ 39) (hna : namesL args = []) (hnr : res.names = []) (h : ∀ c : Ctx, c.P = Try.prog → c.fn = [] → vcC c c17 ⟨initE 0 args, [], []⟩ (RetK c rs17 res [])) : Ctr Try.prog 17 args [] res [] [] :=
  ctr_pure Try.func17 ok17 rfl cc17 cr17 Try.ntmps17 hlen hna hnr h
theorem own17 {args : List V} {ins outs : List (Nat × Own)} {res : V} {new : List Nat} (hlen : args.length ≤ 39) (hf : ctrB args ins res outs new = true) (h : ∀ c : Ctx, c.P = Try.prog → c.fn = namesL args ++ ownNames ins → vcC c c17 ⟨initE 0 args, ins, namesL args ++ ownNames ins⟩ (RetK c rs17 res outs)) : Ctr Try.prog 17 args ins res outs new :=
  ctr_own Try.func17 ok17 rfl cc17 cr17 Try.ntmps17 hlen hf h

/-- cmp.Less[int] -/
def c18 : C :=
  (.seq (.reg [⟨(some 4), none, .mov (.k (.d (.bool false)))⟩])
  (.seq (.reg [⟨(some 5), none, .mov (.t 0)⟩,
    ⟨(some 6), none, .call 20 [(.t 5)]⟩,
    ⟨(some 7), none, .mov (.t 6)⟩,
    ⟨(some 8), (some (7, true)), .mov (.t 1)⟩,
    ⟨(some 9), (some (7, true)), .call 20 [(.t 8)]⟩,
    ⟨(some 10), (some (7, true)), .inv .not (.t 9)⟩,
    ⟨(some 11), none, .pick (.t 7) (.t 10) (.k (.d (.bool false)))⟩,
    ⟨(some 12), none, .mov (.t 11)⟩,
    ⟨(some 13), (some (12, false)), .mov (.t 0)⟩,
    ⟨(some 14), (some (12, false)), .mov (.t 1)⟩,
    ⟨(some 15), (some (12, false)), .bin .lss (.t 13) (.t 14)⟩,
    ⟨(some 16), none, .pick (.t 12) (.k (.d (.bool true))) (.t 15)⟩,
    ⟨(some 4), none, .mov (.t 16)⟩])
  .ret))
def rs18 : List RV := [.tmp 4]
theorem ok18 : okF Try.prog 18 = true := by kernel_rfl
theorem cc18 : cCode Try.prog Try.f18.ntmps (Try.f18.body.getD .skip) = some c18 := by kernel_rfl
theorem cr18 : cRess Try.prog Try.f18.results.toList = some rs18 := by kernel_rfl
theorem pure18 {args : List V} {res : V} (hlen : args.length ≤ 17) (hna : namesL args = []) (hnr : res.names = []) (h : ∀ c : Ctx, c.P = Try.prog → c.fn = [] → vcC c c18 ⟨initE 0 args, [], []⟩ (RetK c rs18 res [])) : Ctr Try.prog 18 args [] res [] [] :=
  ctr_pure Try.func18 ok18 rfl cc18 cr18 Try.ntmps18 hlen hna hnr h
theorem own18 {args : List V} {ins outs : List (Nat × Own)} {res : V} {new : List Nat} (hlen : args.length ≤ 17) (hf : ctrB args ins res outs new = true) (h : ∀ c : Ctx, c.P = Try.prog → c.fn = namesL args ++ ownNames ins → vcC c c18 ⟨initE 0 args, ins, namesL args ++ ownNames ins⟩ (RetK c rs18 res outs)) : Ctr Try.prog 18 args ins res outs new :=
  ctr_own Try.func18 ok18 rfl cc18 cr18 Try.ntmps18 hlen hf h

/-- bordereau/num.Bp -/
def c19 : C :=
  (.seq (.reg [⟨(some 4), none, .mov (.k (.d (.int .i64 0)))⟩,
    ⟨(some 5), none, .mov (.k (.d (.int .i64 0)))⟩])
  (.seq (.reg [⟨(some 6), none, .mov (.t 0)⟩,
    ⟨(some 7), none, .mov (.t 1)⟩,
    ⟨(some 8), none, .call 21 [(.t 6), (.t 7), (.k (.d (.int .i64 10000)))]⟩,
    ⟨(some 9), none, .ext 0 (.t 8)⟩,
    ⟨(some 10), none, .ext 1 (.t 8)⟩,
    ⟨(some 4), none, .mov (.t 9)⟩,
    ⟨(some 5), none, .mov (.t 10)⟩])
  .ret))
def rs19 : List RV := [.tmp 4, .tmp 5]
theorem ok19 : okF Try.prog 19 = true := by kernel_rfl
theorem cc19 : cCode Try.prog Try.f19.ntmps (Try.f19.body.getD .skip) = some c19 := by kernel_rfl
theorem cr19 : cRess Try.prog Try.f19.results.toList = some rs19 := by kernel_rfl
theorem pure19 {args : List V} {res : V} (hlen : args.length ≤ 11) (hna : namesL args = []) (hnr : res.names = []) (h : ∀ c : Ctx, c.P = Try.prog → c.fn = [] → vcC c c19 ⟨initE 0 args, [], []⟩ (RetK c rs19 res [])) : Ctr Try.prog 19 args [] res [] [] :=
  ctr_pure Try.func19 ok19 rfl cc19 cr19 Try.ntmps19 hlen hna hnr h
theorem own19 {args : List V} {ins outs : List (Nat × Own)} {res : V} {new : List Nat} (hlen : args.length ≤ 11) (hf : ctrB args ins res outs new = true) (h : ∀ c : Ctx, c.P = Try.prog → c.fn = namesL args ++ ownNames ins → vcC c c19 ⟨initE 0 args, ins, namesL args ++ ownNames ins⟩ (RetK c rs19 res outs)) : Ctr Try.prog 19 args ins res outs new :=
  ctr_own Try.func19 ok19 rfl cc19 cr19 Try.ntmps19 hlen hf h

/-- cmp.isNaN[int] -/
def c20 : C :=
  (.seq (.reg [⟨(some 2), none, .mov (.k (.d (.bool false)))⟩])
  (.seq (.reg [⟨(some 3), none, .mov (.t 0)⟩,
    ⟨(some 4), none, .mov (.t 0)⟩,
    ⟨(some 5), none, .bin .neq (.t 3) (.t 4)⟩,
    ⟨(some 2), none, .mov (.t 5)⟩])
  .ret))
def rs20 : List RV := [.tmp 2]
theorem ok20 : okF Try.prog 20 = true := by kernel_rfl
theorem cc20 : cCode Try.prog Try.f20.ntmps (Try.f20.body.getD .skip) = some c20 := by kernel_rfl
theorem cr20 : cRess Try.prog Try.f20.results.toList = some rs20 := by kernel_rfl
theorem pure20 {args : List V} {res : V} (hlen : args.length ≤ 6) (hna : namesL args = []) (hnr : res.names = []) (h : ∀ c : Ctx, c.P = Try.prog → c.fn = [] → vcC c c20 ⟨initE 0 args, [], []⟩ (RetK c rs20 res [])) : Ctr Try.prog 20 args [] res [] [] :=
  ctr_pure Try.func20 ok20 rfl cc20 cr20 Try.ntmps20 hlen hna hnr h
theorem own20 {args : List V} {ins outs : List (Nat × Own)} {res : V} {new : List Nat} (hlen : args.length ≤ 6) (hf : ctrB args ins res outs new = true) (h : ∀ c : Ctx, c.P = Try.prog → c.fn = namesL args ++ ownNames ins → vcC c c20 ⟨initE 0 args, ins, namesL args ++ ownNames ins⟩ (RetK c rs20 res outs)) : Ctr Try.prog 20 args ins res outs new :=
  ctr_own Try.func20 ok20 rfl cc20 cr20 Try.ntmps20 hlen hf h

/-- bordereau/num.Even -/
def c21 : C :=
  (.seq (.reg [⟨(some 6), none, .mov (.k (.d (.int .i64 0)))⟩,
    ⟨(some 7), none, .mov (.k (.d (.int .i64 0)))⟩])
  (.seq (.reg [⟨(some 8), none, .call 22 []⟩,
    ⟨(some 9), none, .mov (.t 0)⟩,
    ⟨(some 10), none, .mov (.t 1)⟩,
    ⟨(some 11), none, .mov (.t 2)⟩,
    ⟨(some 12), none, .call 23 [(.t 8), (.t 9), (.t 10), (.t 11)]⟩,
    ⟨(some 13), none, .ext 0 (.t 12)⟩,
    ⟨(some 14), none, .ext 1 (.t 12)⟩,
    ⟨(some 6), none, .mov (.t 13)⟩,
    ⟨(some 7), none, .mov (.t 14)⟩])
  .ret))
def rs21 : List RV := [.tmp 6, .tmp 7]
theorem ok21 : okF Try.prog 21 = true := by kernel_rfl
theorem cc21 : cCode Try.prog Try.f21.ntmps (Try.f21.body.getD .skip) = some c21 := by kernel_rfl
theorem cr21 : cRess Try.prog Try.f21.results.toList = some rs21 := by kernel_rfl
theorem pure21 {args : List V} {res : V} (hlen : args.length ≤ 15) (hna : namesL args = []) (hnr : res.names = []) (h : ∀ c : Ctx, c.P = Try.prog → c.fn = [] → vcC c c21 ⟨initE 0 args, [], []⟩ (RetK c rs21 res [])) : Ctr Try.prog 21 args [] res [] [] :=
  ctr_pure Try.func21 ok21 rfl cc21 cr21 Try.ntmps21 hlen hna hnr h
theorem own21 {args : List V} {ins outs : List (Nat × Own)} {res : V} {new : List Nat} (hlen : args.length ≤ 15) (hf : ctrB args ins res outs new = true) (h : ∀ c : Ctx, c.P = Try.prog → c.fn = namesL args ++ ownNames ins → vcC c c21 ⟨initE 0 args, ins, namesL args ++ ownNames ins⟩ (RetK c rs21 res outs)) : Ctr Try.prog 21 args ins res outs new :=
  ctr_own Try.func21 ok21 rfl cc21 cr21 Try.ntmps21 hlen hf h

/-- bordereau/num.even -/
def c22 : C :=
  (.seq (.reg [⟨(some 0), none, .alloc 48 [.d (.raw .nilFunc)]⟩])
  (.seq (.reg [⟨(some 1), none, .build [.d (.raw .nilFunc)] [(0, 1, (.k (.fn (.func 24) [] [])))]⟩,
    ⟨none, none, .store 1 (.t 0) (.t 1)⟩])
  .ret))
def rs22 : List RV := [.cell 0 1 true]
theorem ok22 : okF Try.prog 22 = true := by kernel_rfl
theorem cc22 : cCode Try.prog Try.f22.ntmps (Try.f22.body.getD .skip) = some c22 := by kernel_rfl
theorem cr22 : cRess Try.prog Try.f22.results.toList = some rs22 := by kernel_rfl
theorem pure22 {args : List V} {res : V} (hlen : args.length ≤ 2) (hna : namesL args = []) (hnr : res.names = []) (h : ∀ c : Ctx, c.P = Try.prog → c.fn = [] → vcC c c22 ⟨initE 0 args, [], []⟩ (RetK c rs22 res [])) : Ctr Try.prog 22 args [] res [] [] :=
  ctr_pure Try.func22 ok22 rfl cc22 cr22 Try.ntmps22 hlen hna hnr h
theorem own22 {args : List V} {ins outs : List (Nat × Own)} {res : V} {new : List Nat} (hlen : args.length ≤ 2) (hf : ctrB args ins res outs new = true) (h : ∀ c : Ctx, c.P = Try.prog → c.fn = namesL args ++ ownNames ins → vcC c c22 ⟨initE 0 args, ins, namesL args ++ ownNames ins⟩ (RetK c rs22 res outs)) : Ctr Try.prog 22 args ins res outs new :=
  ctr_own Try.func22 ok22 rfl cc22 cr22 Try.ntmps22 hlen hf h

/-- (bordereau/num.rounding).of -/
def c23 : C :=
  (.seq (.reg [⟨(some 4), none, .box 48 (.t 0)⟩,
    ⟨(some 8), none, .mov (.k (.d (.int .i64 0)))⟩,
    ⟨(some 9), none, .mov (.k (.d (.int .i64 0)))⟩])
  (.seq (.block 0 (.seq (.reg [⟨(some 15), none, .mov (.t 1)⟩,
      ⟨(some 16), none, .bin .lss (.t 15) (.k (.d (.int .i64 0)))⟩,
      ⟨(some 17), none, .mov (.t 16)⟩,
      ⟨(some 18), (some (17, false)), .mov (.t 2)⟩,
      ⟨(some 19), (some (17, false)), .bin .lss (.t 18) (.k (.d (.int .i64 0)))⟩,
      ⟨(some 20), none, .pick (.t 17) (.k (.d (.bool true))) (.t 19)⟩,
      ⟨(some 21), none, .mov (.t 20)⟩,
      ⟨(some 22), (some (21, false)), .mov (.t 3)⟩,
      ⟨(some 23), (some (21, false)), .bin .lss (.t 22) (.k (.d (.int .i64 0)))⟩,
      ⟨(some 24), none, .pick (.t 21) (.k (.d (.bool true))) (.t 23)⟩,
      ⟨(some 14), none, .mov (.t 24)⟩])
    (.cond (.t 14) (.seq (.reg [⟨(some 8), none, .mov (.k (.d (.int .i64 0)))⟩,
        ⟨(some 9), none, .mov (.k (.d (.int .i64 1)))⟩])
      .ret)
    (.seq (.reg [⟨(some 26), none, .mov (.t 3)⟩,
        ⟨(some 27), none, .bin .eql (.t 26) (.k (.d (.int .i64 0)))⟩,
        ⟨(some 25), none, .mov (.t 27)⟩])
      (.cond (.t 25) (.seq (.reg [⟨(some 8), none, .mov (.k (.d (.int .i64 0)))⟩,
          ⟨(some 9), none, .mov (.k (.d (.int .i64 6)))⟩])
        .ret)
      .skip)))))
  (.seq (.reg [⟨(some 29), none, .mov (.t 1)⟩,
    ⟨(some 30), none, .conv .u64 (.t 29)⟩,
    ⟨(some 31), none, .mov (.t 2)⟩,
    ⟨(some 32), none, .conv .u64 (.t 31)⟩,
    ⟨(some 33), none, .call 25 [(.t 30), (.t 32)]⟩,
    ⟨(some 28), none, .mov (.t 33)⟩,
    ⟨(some 34), none, .ext 0 (.t 28)⟩,
    ⟨(some 35), none, .ext 1 (.t 28)⟩,
    ⟨(some 10), none, .mov (.t 34)⟩,
    ⟨(some 11), none, .mov (.t 35)⟩])
  (.seq (.seq (.reg [⟨(some 36), none, .mov (.t 10)⟩,
    ⟨(some 37), none, .mov (.t 3)⟩,
    ⟨(some 38), none, .conv .u64 (.t 37)⟩,
    ⟨(some 39), none, .bin .geq (.t 36) (.t 38)⟩])
  (.cond (.t 39) (.seq (.reg [⟨(some 8), none, .mov (.k (.d (.int .i64 0)))⟩,
      ⟨(some 9), none, .mov (.k (.d (.int .i64 5)))⟩])
    .ret)
  .skip))
  (.seq (.reg [⟨(some 41), none, .mov (.t 10)⟩,
    ⟨(some 42), none, .mov (.t 11)⟩,
    ⟨(some 43), none, .mov (.t 3)⟩,
    ⟨(some 44), none, .conv .u64 (.t 43)⟩,
    ⟨(some 45), none, .call 26 [(.t 41), (.t 42), (.t 44)]⟩,
    ⟨(some 40), none, .mov (.t 45)⟩,
    ⟨(some 46), none, .ext 0 (.t 40)⟩,
    ⟨(some 47), none, .ext 1 (.t 40)⟩,
    ⟨(some 12), none, .mov (.t 46)⟩,
    ⟨(some 13), none, .mov (.t 47)⟩])
  (.seq (.seq (.reg [⟨(some 48), none, .mov (.t 12)⟩,
    ⟨(some 49), none, .bin .gtr (.t 48) (.k (.d (.int .u64 4000000000000000000)))⟩])
  (.cond (.t 49) (.seq (.reg [⟨(some 8), none, .mov (.k (.d (.int .i64 0)))⟩,
      ⟨(some 9), none, .mov (.k (.d (.int .i64 5)))⟩])
    .ret)
  .skip))
  (.seq (.seq (.reg [⟨(some 50), none, .fadr 0 (.t 4)⟩,
    ⟨(some 51), none, .load 1 false (.t 50)⟩,
    ⟨(some 52), none, .mov (.t 12)⟩,
    ⟨(some 53), none, .mov (.t 13)⟩,
    ⟨(some 54), none, .mov (.t 3)⟩,
    ⟨(some 55), none, .conv .u64 (.t 54)⟩,
    ⟨(some 56), none, .callv (.t 51) [(.t 52), (.t 53), (.t 55)]⟩])
  (.cond (.t 56) (.reg [⟨(some 57), none, .mov (.t 12)⟩,
      ⟨(some 58), none, .bin .add (.t 57) (.k (.d (.int .u64 1)))⟩,
      ⟨(some 12), none, .mov (.t 58)⟩])
  .skip))
  (.seq (.seq (.reg [⟨(some 59), none, .mov (.t 12)⟩,
    ⟨(some 60), none, .bin .gtr (.t 59) (.k (.d (.int .u64 4000000000000000000)))⟩])
  (.cond (.t 60) (.seq (.reg [⟨(some 8), none, .mov (.k (.d (.int .i64 0)))⟩,
      ⟨(some 9), none, .mov (.k (.d (.int .i64 5)))⟩])
    .ret)
  .skip))
  (.seq (.reg [⟨(some 61), none, .mov (.t 12)⟩,
    ⟨(some 62), none, .conv .i64 (.t 61)⟩,
    ⟨(some 8), none, .mov (.t 62)⟩,
    ⟨(some 9), none, .mov (.k (.d (.int .i64 0)))⟩])
  .ret)))))))))
def rs23 : List RV := [.tmp 8, .tmp 9]
theorem ok23 : okF Try.prog 23 = true := by kernel_rfl
theorem cc23 : cCode Try.prog Try.f23.ntmps (Try.f23.body.getD .skip) = some c23 := by kernel_rfl
theorem cr23 : cRess Try.prog Try.f23.results.toList = some rs23 := by kernel_rfl
theorem pure23 {args : List V} {res : V} (hlen : args.length ≤ 63) (hna : namesL args = []) (hnr : res.names = []) (h : ∀ c : Ctx, c.P = Try.prog → c.fn = [] → vcC c c23 ⟨initE 0 args, [], []⟩ (RetK c rs23 res [])) : Ctr Try.prog 23 args [] res [] [] :=
  ctr_pure Try.func23 ok23 rfl cc23 cr23 Try.ntmps23 hlen hna hnr h
theorem own23 {args : List V} {ins outs : List (Nat × Own)} {res : V} {new : List Nat} (hlen : args.length ≤ 63) (hf : ctrB args ins res outs new = true) (h : ∀ c : Ctx, c.P = Try.prog → c.fn = namesL args ++ ownNames ins → vcC c c23 ⟨initE 0 args, ins, namesL args ++ ownNames ins⟩ (RetK c rs23 res outs)) : Ctr Try.prog 23 args ins res outs new :=
  ctr_own Try.func23 ok23 rfl cc23 cr23 Try.ntmps23 hlen hf h

/-- bordereau/num.even$1 -/
def c24 : C :=
  (.seq (.reg [⟨(some 6), none, .mov (.k (.d (.bool false)))⟩])
  (.seq (.reg [⟨(some 7), none, .mov (.t 1)⟩,
    ⟨(some 8), none, .mov (.t 2)⟩,
    ⟨(some 9), none, .mov (.t 1)⟩,
    ⟨(some 10), none, .bin .sub (.t 8) (.t 9)⟩,
    ⟨(some 11), none, .bin .gtr (.t 7) (.t 10)⟩,
    ⟨(some 12), none, .mov (.t 11)⟩,
    ⟨(some 13), (some (12, false)), .mov (.t 1)⟩,
    ⟨(some 14), (some (12, false)), .mov (.t 2)⟩,
    ⟨(some 15), (some (12, false)), .mov (.t 1)⟩,
    ⟨(some 16), (some (12, false)), .bin .sub (.t 14) (.t 15)⟩,
    ⟨(some 17), (some (12, false)), .bin .eql (.t 13) (.t 16)⟩,
    ⟨(some 18), (some (12, false)), .mov (.t 17)⟩,
    ⟨(some 19), (some (18, true)), .mov (.t 0)⟩,
    ⟨(some 20), (some (18, true)), .bin .rem (.t 19) (.k (.d (.int .u64 2)))⟩,
    ⟨(some 21), (some (18, true)), .bin .eql (.t 20) (.k (.d (.int .u64 1)))⟩,
    ⟨(some 22), (some (12, false)), .pick (.t 18) (.t 21) (.k (.d (.bool false)))⟩,
    ⟨(some 23), none, .pick (.t 12) (.k (.d (.bool true))) (.t 22)⟩,
    ⟨(some 6), none, .mov (.t 23)⟩])
  .ret))
def rs24 : List RV := [.tmp 6]
theorem ok24 : okF Try.prog 24 = true := by kernel_rfl
theorem cc24 : cCode Try.prog Try.f24.ntmps (Try.f24.body.getD .skip) = some c24 := by kernel_rfl
theorem cr24 : cRess Try.prog Try.f24.results.toList = some rs24 := by kernel_rfl
theorem pure24 {args : List V} {res : V} (hlen : args.length ≤ 24) (hna : namesL args = []) (hnr : res.names = []) (h : ∀ c : Ctx, c.P = Try.prog → c.fn = [] → vcC c c24 ⟨initE 0 args, [], []⟩ (RetK c rs24 res [])) : Ctr Try.prog 24 args [] res [] [] :=
  ctr_pure Try.func24 ok24 rfl cc24 cr24 Try.ntmps24 hlen hna hnr h
theorem own24 {args : List V} {ins outs : List (Nat × Own)} {res : V} {new : List Nat} (hlen : args.length ≤ 24) (hf : ctrB args ins res outs new = true) (h : ∀ c : Ctx, c.P = Try.prog → c.fn = namesL args ++ ownNames ins → vcC c c24 ⟨initE 0 args, ins, namesL args ++ ownNames ins⟩ (RetK c rs24 res outs)) : Ctr Try.prog 24 args ins res outs new :=
  ctr_own Try.func24 ok24 rfl cc24 cr24 Try.ntmps24 hlen hf h

/-- math/bits.Mul64 -/
def c25 : C :=
  (.seq (.reg [⟨(some 4), none, .mov (.k (.d (.int .u64 0)))⟩,
    ⟨(some 5), none, .mov (.k (.d (.int .u64 0)))⟩])
  (.seq (.reg [⟨(some 14), none, .mov (.t 0)⟩,
    ⟨(some 15), none, .bin .and (.t 14) (.k (.d (.int .u64 4294967295)))⟩,
    ⟨(some 6), none, .mov (.t 15)⟩])
  (.seq (.reg [⟨(some 16), none, .mov (.t 0)⟩,
    ⟨(some 17), none, .shf false (.t 16) (.k (.d (.int .u64 32)))⟩,
    ⟨(some 7), none, .mov (.t 17)⟩])
  (.seq (.reg [⟨(some 18), none, .mov (.t 1)⟩,
    ⟨(some 19), none, .bin .and (.t 18) (.k (.d (.int .u64 4294967295)))⟩,
    ⟨(some 8), none, .mov (.t 19)⟩])
  (.seq (.reg [⟨(some 20), none, .mov (.t 1)⟩,
    ⟨(some 21), none, .shf false (.t 20) (.k (.d (.int .u64 32)))⟩,
    ⟨(some 9), none, .mov (.t 21)⟩])
  (.seq (.reg [⟨(some 22), none, .mov (.t 6)⟩,
    ⟨(some 23), none, .mov (.t 8)⟩,
    ⟨(some 24), none, .bin .mul (.t 22) (.t 23)⟩,
    ⟨(some 10), none, .mov (.t 24)⟩])
  (.seq (.reg [⟨(some 25), none, .mov (.t 7)⟩,
    ⟨(some 26), none, .mov (.t 8)⟩,
    ⟨(some 27), none, .bin .mul (.t 25) (.t 26)⟩,
    ⟨(some 28), none, .mov (.t 10)⟩,
    ⟨(some 29), none, .shf false (.t 28) (.k (.d (.int .u64 32)))⟩,
    ⟨(some 30), none, .bin .add (.t 27) (.t 29)⟩,
    ⟨(some 11), none, .mov (.t 30)⟩])
  (.seq (.reg [⟨(some 31), none, .mov (.t 11)⟩,
    ⟨(some 32), none, .bin .and (.t 31) (.k (.d (.int .u64 4294967295)))⟩,
    ⟨(some 12), none, .mov (.t 32)⟩])
  (.seq (.reg [⟨(some 33), none, .mov (.t 11)⟩,
    ⟨(some 34), none, .shf false (.t 33) (.k (.d (.int .u64 32)))⟩,
    ⟨(some 13), none, .mov (.t 34)⟩])
  (.seq (.reg [⟨(some 35), none, .mov (.t 12)⟩,
    ⟨(some 36), none, .mov (.t 6)⟩,
    ⟨(some 37), none, .mov (.t 9)⟩,
    ⟨(some 38), none, .bin .mul (.t 36) (.t 37)⟩,
    ⟨(some 39), none, .bin .add (.t 35) (.t 38)⟩,
    ⟨(some 12), none, .mov (.t 39)⟩])
  (.seq (.reg [⟨(some 40), none, .mov (.t 7)⟩,
    ⟨(some 41), none, .mov (.t 9)⟩,
    ⟨(some 42), none, .bin .mul (.t 40) (.t 41)⟩,
    ⟨(some 43), none, .mov (.t 13)⟩,
    ⟨(some 44), none, .bin .add (.t 42) (.t 43)⟩,
    ⟨(some 45), none, .mov (.t 12)⟩,
    ⟨(some 46), none, .shf false (.t 45) (.k (.d (.int .u64 32)))⟩,
    ⟨(some 47), none, .bin .add (.t 44) (.t 46)⟩,
    ⟨(some 4), none, .mov (.t 47)⟩])
  (.seq (.reg [⟨(some 48), none, .mov (.t 0)⟩,
    ⟨(some 49), none, .mov (.t 1)⟩,
    ⟨(some 50), none, .bin .mul (.t 48) (.t 49)⟩,
    ⟨(some 5), none, .mov (.t 50)⟩])
  .ret))))))))))))
def rs25 : List RV := [.tmp 4, .tmp 5]
theorem ok25 : okF Try.prog 25 = true := by kernel_rfl
theorem cc25 : cCode Try.prog Try.f25.ntmps (Try.f25.body.getD .skip) = some c25 := by kernel_rfl
theorem cr25 : cRess Try.prog Try.f25.results.toList = some rs25 := by kernel_rfl
theorem pure25 {args : List V} {res : V} (hlen : args.length ≤ 51) (hna : namesL args = []) (hnr : res.names = []) (h : ∀ c : Ctx, c.P = Try.prog → c.fn = [] → vcC c c25 ⟨initE 0 args, [], []⟩ (RetK c rs25 res [])) : Ctr Try.prog 25 args [] res [] [] :=
  ctr_pure Try.func25 ok25 rfl cc25 cr25 Try.ntmps25 hlen hna hnr h
theorem own25 {args : List V} {ins outs : List (Nat × Own)} {res : V} {new : List Nat} (hlen : args.length ≤ 51) (hf : ctrB args ins res outs new = true) (h : ∀ c : Ctx, c.P = Try.prog → c.fn = namesL args ++ ownNames ins → vcC c c25 ⟨initE 0 args, ins, namesL args ++ ownNames ins⟩ (RetK c rs25 res outs)) : Ctr Try.prog 25 args ins res outs new :=
  ctr_own Try.func25 ok25 rfl cc25 cr25 Try.ntmps25 hlen hf h

/-- math/bits.Div64 -/
def c26 : C :=
  (.seq (.reg [⟨(some 6), none, .mov (.k (.d (.int .u64 0)))⟩,
    ⟨(some 7), none, .mov (.k (.d (.int .u64 0)))⟩])
  (.seq (.seq (.reg [⟨(some 19), none, .mov (.t 2)⟩,
    ⟨(some 20), none, .bin .eql (.t 19) (.k (.d (.int .u64 0)))⟩])
  (.cond (.t 20) .bad
  .skip))
  (.seq (.seq (.reg [⟨(some 22), none, .mov (.t 2)⟩,
    ⟨(some 23), none, .mov (.t 0)⟩,
    ⟨(some 24), none, .bin .leq (.t 22) (.t 23)⟩])
  (.cond (.t 24) .bad
  .skip))
  (.seq (.seq (.reg [⟨(some 26), none, .mov (.t 0)⟩,
    ⟨(some 27), none, .bin .eql (.t 26) (.k (.d (.int .u64 0)))⟩])
  (.cond (.t 27) (.seq (.drw [0, 0, 3, 0, 0, 24, 7, 127]
     [⟨(some 28), none, .mov (.t 1)⟩,
      ⟨(some 29), none, .mov (.t 2)⟩,
      ⟨(some 30), none, .bin .quo (.t 28) (.t 29)⟩,
      ⟨(some 31), none, .mov (.t 1)⟩,
      ⟨(some 32), none, .mov (.t 2)⟩,
      ⟨(some 33), none, .bin .rem (.t 31) (.t 32)⟩,
      ⟨(some 6), none, .mov (.t 30)⟩,
      ⟨(some 7), none, .mov (.t 33)⟩])
    .ret)
  .skip))
  (.seq (.reg [⟨(some 34), none, .mov (.t 2)⟩,
    ⟨(some 35), none, .call 27 [(.t 34)]⟩,
    ⟨(some 36), none, .conv .u64 (.t 35)⟩,
    ⟨(some 8), none, .mov (.t 36)⟩])
  (.seq (.reg [⟨(some 37), none, .mov (.t 2)⟩,
    ⟨(some 38), none, .mov (.t 8)⟩,
    ⟨(some 39), none, .shf true (.t 37) (.t 38)⟩,
    ⟨(some 2), none, .mov (.t 39)⟩])
  (.seq (.reg [⟨(some 40), none, .mov (.t 2)⟩,
    ⟨(some 41), none, .shf false (.t 40) (.k (.d (.int .u64 32)))⟩,
    ⟨(some 9), none, .mov (.t 41)⟩])
  (.seq (.reg [⟨(some 42), none, .mov (.t 2)⟩,
    ⟨(some 43), none, .bin .and (.t 42) (.k (.d (.int .u64 4294967295)))⟩,
    ⟨(some 10), none, .mov (.t 43)⟩])
  (.seq (.reg [⟨(some 44), none, .mov (.t 0)⟩,
    ⟨(some 45), none, .mov (.t 8)⟩,
    ⟨(some 46), none, .shf true (.t 44) (.t 45)⟩,
    ⟨(some 47), none, .mov (.t 1)⟩,
    ⟨(some 48), none, .mov (.t 8)⟩,
    ⟨(some 49), none, .bin .sub (.k (.d (.int .u64 64))) (.t 48)⟩,
    ⟨(some 50), none, .shf false (.t 47) (.t 49)⟩,
    ⟨(some 51), none, .bin .or (.t 46) (.t 50)⟩,
    ⟨(some 11), none, .mov (.t 51)⟩])
  (.seq (.reg [⟨(some 52), none, .mov (.t 1)⟩,
    ⟨(some 53), none, .mov (.t 8)⟩,
    ⟨(some 54), none, .shf true (.t 52) (.t 53)⟩,
    ⟨(some 12), none, .mov (.t 54)⟩])
  (.seq (.reg [⟨(some 55), none, .mov (.t 12)⟩,
    ⟨(some 56), none, .shf false (.t 55) (.k (.d (.int .u64 32)))⟩,
    ⟨(some 13), none, .mov (.t 56)⟩])
  (.seq (.reg [⟨(some 57), none, .mov (.t 12)⟩,
    ⟨(some 58), none, .bin .and (.t 57) (.k (.d (.int .u64 4294967295)))⟩,
    ⟨(some 14), none, .mov (.t 58)⟩])
  (.seq (.reg [⟨(some 59), none, .mov (.t 11)⟩,
    ⟨(some 60), none, .mov (.t 9)⟩,
    ⟨(some 61), none, .bin .quo (.t 59) (.t 60)⟩,
    ⟨(some 15), none, .mov (.t 61)⟩])
  (.seq (.reg [⟨(some 62), none, .mov (.t 11)⟩,
    ⟨(some 63), none, .mov (.t 15)⟩,
    ⟨(some 64), none, .mov (.t 9)⟩,
    ⟨(some 65), none, .bin .mul (.t 63) (.t 64)⟩,
    ⟨(some 66), none, .bin .sub (.t 62) (.t 65)⟩,
    ⟨(some 16), none, .mov (.t 66)⟩])
  (.seq (.block 0 (.loop (.seq (.seq (.reg [⟨(some 67), none, .mov (.t 15)⟩,
        ⟨(some 68), none, .bin .geq (.t 67) (.k (.d (.int .u64 4294967296)))⟩,
        ⟨(some 69), none, .mov (.t 68)⟩,
        ⟨(some 70), (some (69, false)), .mov (.t 15)⟩,
        ⟨(some 71), (some (69, false)), .mov (.t 10)⟩,
        ⟨(some 72), (some (69, false)), .bin .mul (.t 70) (.t 71)⟩,
        ⟨(some 73), (some (69, false)), .mov (.t 16)⟩,
        ⟨(some 74), (some (69, false)), .bin .mul (.k (.d (.int .u64 4294967296))) (.t 73)⟩,
        ⟨(some 75), (some (69, false)), .mov (.t 13)⟩,
        ⟨(some 76), (some (69, false)), .bin .add (.t 74) (.t 75)⟩,
        ⟨(some 77), (some (69, false)), .bin .gtr (.t 72) (.t 76)⟩,
        ⟨(some 78), none, .pick (.t 69) (.k (.d (.bool true))) (.t 77)⟩])
      (.cond (.t 78) .skip
      (.exit 0)))
      (.block 1 (.seq (.reg [⟨(some 79), none, .mov (.t 15)⟩,
          ⟨(some 80), none, .bin .sub (.t 79) (.k (.d (.int .u64 1)))⟩,
          ⟨(some 15), none, .mov (.t 80)⟩])
        (.seq (.reg [⟨(some 81), none, .mov (.t 16)⟩,
          ⟨(some 82), none, .mov (.t 9)⟩,
          ⟨(some 83), none, .bin .add (.t 81) (.t 82)⟩,
          ⟨(some 16), none, .mov (.t 83)⟩])
        (.seq (.reg [⟨(some 84), none, .mov (.t 16)⟩,
          ⟨(some 85), none, .bin .geq (.t 84) (.k (.d (.int .u64 4294967296)))⟩])
        (.cond (.t 85) (.exit 0)
        .skip))))))))
  (.seq (.reg [⟨(some 86), none, .mov (.t 11)⟩,
    ⟨(some 87), none, .bin .mul (.t 86) (.k (.d (.int .u64 4294967296)))⟩,
    ⟨(some 88), none, .mov (.t 13)⟩,
    ⟨(some 89), none, .bin .add (.t 87) (.t 88)⟩,
    ⟨(some 90), none, .mov (.t 15)⟩,
    ⟨(some 91), none, .mov (.t 2)⟩,
    ⟨(some 92), none, .bin .mul (.t 90) (.t 91)⟩,
    ⟨(some 93), none, .bin .sub (.t 89) (.t 92)⟩,
    ⟨(some 17), none, .mov (.t 93)⟩])
  (.seq (.reg [⟨(some 94), none, .mov (.t 17)⟩,
    ⟨(some 95), none, .mov (.t 9)⟩,
    ⟨(some 96), none, .bin .quo (.t 94) (.t 95)⟩,
    ⟨(some 18), none, .mov (.t 96)⟩])
  (.seq (.reg [⟨(some 97), none, .mov (.t 17)⟩,
    ⟨(some 98), none, .mov (.t 18)⟩,
    ⟨(some 99), none, .mov (.t 9)⟩,
    ⟨(some 100), none, .bin .mul (.t 98) (.t 99)⟩,
    ⟨(some 101), none, .bin .sub (.t 97) (.t 100)⟩,
    ⟨(some 16), none, .mov (.t 101)⟩])
  (.seq (.block 2 (.loop (.seq (.seq (.reg [⟨(some 102), none, .mov (.t 18)⟩,
        ⟨(some 103), none, .bin .geq (.t 102) (.k (.d (.int .u64 4294967296)))⟩,
        ⟨(some 104), none, .mov (.t 103)⟩,
        ⟨(some 105), (some (104, false)), .mov (.t 18)⟩,
        ⟨(some 106), (some (104, false)), .mov (.t 10)⟩,
        ⟨(some 107), (some (104, false)), .bin .mul (.t 105) (.t 106)⟩,
        ⟨(some 108), (some (104, false)), .mov (.t 16)⟩,
        ⟨(some 109), (some (104, false)), .bin .mul (.k (.d (.int .u64 4294967296))) (.t 108)⟩,
        ⟨(some 110), (some (104, false)), .mov (.t 14)⟩,
        ⟨(some 111), (some (104, false)), .bin .add (.t 109) (.t 110)⟩,
        ⟨(some 112), (some (104, false)), .bin .gtr (.t 107) (.t 111)⟩,
        ⟨(some 113), none, .pick (.t 104) (.k (.d (.bool true))) (.t 112)⟩])
      (.cond (.t 113) .skip
      (.exit 2)))
      (.block 3 (.seq (.reg [⟨(some 114), none, .mov (.t 18)⟩,
          ⟨(some 115), none, .bin .sub (.t 114) (.k (.d (.int .u64 1)))⟩,
          ⟨(some 18), none, .mov (.t 115)⟩])
        (.seq (.reg [⟨(some 116), none, .mov (.t 16)⟩,
          ⟨(some 117), none, .mov (.t 9)⟩,
          ⟨(some 118), none, .bin .add (.t 116) (.t 117)⟩,
          ⟨(some 16), none, .mov (.t 118)⟩])
        (.seq (.reg [⟨(some 119), none, .mov (.t 16)⟩,
          ⟨(some 120), none, .bin .geq (.t 119) (.k (.d (.int .u64 4294967296)))⟩])
        (.cond (.t 120) (.exit 2)
        .skip))))))))
  (.seq (.reg [⟨(some 121), none, .mov (.t 15)⟩,
    ⟨(some 122), none, .bin .mul (.t 121) (.k (.d (.int .u64 4294967296)))⟩,
    ⟨(some 123), none, .mov (.t 18)⟩,
    ⟨(some 124), none, .bin .add (.t 122) (.t 123)⟩,
    ⟨(some 125), none, .mov (.t 17)⟩,
    ⟨(some 126), none, .bin .mul (.t 125) (.k (.d (.int .u64 4294967296)))⟩,
    ⟨(some 127), none, .mov (.t 14)⟩,
    ⟨(some 128), none, .bin .add (.t 126) (.t 127)⟩,
    ⟨(some 129), none, .mov (.t 18)⟩,
    ⟨(some 130), none, .mov (.t 2)⟩,
    ⟨(some 131), none, .bin .mul (.t 129) (.t 130)⟩,
    ⟨(some 132), none, .bin .sub (.t 128) (.t 131)⟩,
    ⟨(some 133), none, .mov (.t 8)⟩,
    ⟨(some 134), none, .shf false (.t 132) (.t 133)⟩,
    ⟨(some 6), none, .mov (.t 124)⟩,
    ⟨(some 7), none, .mov (.t 134)⟩])
  .ret))))))))))))))))))))
def rs26 : List RV := [.tmp 6, .tmp 7]
theorem ok26 : okF Try.prog 26 = true := by kernel_rfl
theorem cc26 : cCode Try.prog Try.f26.ntmps (Try.f26.body.getD .skip) = some c26 := by kernel_rfl
theorem cr26 : cRess Try.prog Try.f26.results.toList = some rs26 := by kernel_rfl
theorem pure26 {args : List V} {res : V} (hlen : args.length ≤ 135) (hna : namesL args = []) (hnr : res.names = []) (h : ∀ c : Ctx, c.P = Try.prog → c.fn = [] → vcC c c26 ⟨initE 0 args, [], []⟩ (RetK c rs26 res [])) : Ctr Try.prog 26 args [] res [] [] :=
  ctr_pure Try.func26 ok26 rfl cc26 cr26 Try.ntmps26 hlen hna hnr h
theorem own26 {args : List V} {ins outs : List (Nat × Own)} {res : V} {new : List Nat} (hlen : args.length ≤ 135) (hf : ctrB args ins res outs new = true) (h : ∀ c : Ctx, c.P = Try.prog → c.fn = namesL args ++ ownNames ins → vcC c c26 ⟨initE 0 args, ins, namesL args ++ ownNames ins⟩ (RetK c rs26 res outs)) : Ctr Try.prog 26 args ins res outs new :=
  ctr_own Try.func26 ok26 rfl cc26 cr26 Try.ntmps26 hlen hf h

/-- math/bits.LeadingZeros64 -/
def c27 : C :=
  (.seq (.reg [⟨(some 2), none, .mov (.k (.d (.int .i64 0)))⟩])
  (.seq (.reg [⟨(some 3), none, .mov (.t 0)⟩,
    ⟨(some 4), none, .call 28 [(.t 3)]⟩,
    ⟨(some 5), none, .bin .sub (.k (.d (.int .i64 64))) (.t 4)⟩,
    ⟨(some 2), none, .mov (.t 5)⟩])
  .ret))
def rs27 : List RV := [.tmp 2]
theorem ok27 : okF Try.prog 27 = true := by kernel_rfl
theorem cc27 : cCode Try.prog Try.f27.ntmps (Try.f27.body.getD .skip) = some c27 := by kernel_rfl
theorem cr27 : cRess Try.prog Try.f27.results.toList = some rs27 := by kernel_rfl
theorem pure27 {args : List V} {res : V} (hlen : args.length ≤ 6) (hna : namesL args = []) (hnr : res.names = []) (h : ∀ c : Ctx, c.P = Try.prog → c.fn = [] → vcC c c27 ⟨initE 0 args, [], []⟩ (RetK c rs27 res [])) : Ctr Try.prog 27 args [] res [] [] :=
  ctr_pure Try.func27 ok27 rfl cc27 cr27 Try.ntmps27 hlen hna hnr h
theorem own27 {args : List V} {ins outs : List (Nat × Own)} {res : V} {new : List Nat} (hlen : args.length ≤ 6) (hf : ctrB args ins res outs new = true) (h : ∀ c : Ctx, c.P = Try.prog → c.fn = namesL args ++ ownNames ins → vcC c c27 ⟨initE 0 args, ins, namesL args ++ ownNames ins⟩ (RetK c rs27 res outs)) : Ctr Try.prog 27 args ins res outs new :=
  ctr_own Try.func27 ok27 rfl cc27 cr27 Try.ntmps27 hlen hf h

/-- math/bits.Len64 -/
def c28 : C :=
  (.seq (.reg [⟨(some 2), none, .mov (.k (.d (.int .i64 0)))⟩])
  (.seq (.seq (.reg [⟨(some 3), none, .mov (.t 0)⟩,
    ⟨(some 4), none, .bin .geq (.t 3) (.k (.d (.int .u64 4294967296)))⟩])
  (.cond (.t 4) (.seq (.reg [⟨(some 5), none, .mov (.t 0)⟩,
      ⟨(some 6), none, .shf false (.t 5) (.k (.d (.int .u64 32)))⟩,
      ⟨(some 0), none, .mov (.t 6)⟩])
    (.reg [⟨(some 2), none, .mov (.k (.d (.int .i64 32)))⟩]))
  .skip))
  (.seq (.seq (.reg [⟨(some 7), none, .mov (.t 0)⟩,
    ⟨(some 8), none, .bin .geq (.t 7) (.k (.d (.int .u64 65536)))⟩])
  (.cond (.t 8) (.seq (.reg [⟨(some 9), none, .mov (.t 0)⟩,
      ⟨(some 10), none, .shf false (.t 9) (.k (.d (.int .u64 16)))⟩,
      ⟨(some 0), none, .mov (.t 10)⟩])
    (.reg [⟨(some 11), none, .mov (.t 2)⟩,
      ⟨(some 12), none, .bin .add (.t 11) (.k (.d (.int .i64 16)))⟩,
      ⟨(some 2), none, .mov (.t 12)⟩]))
  .skip))
  (.seq (.seq (.reg [⟨(some 13), none, .mov (.t 0)⟩,
    ⟨(some 14), none, .bin .geq (.t 13) (.k (.d (.int .u64 256)))⟩])
  (.cond (.t 14) (.seq (.reg [⟨(some 15), none, .mov (.t 0)⟩,
      ⟨(some 16), none, .shf false (.t 15) (.k (.d (.int .u64 8)))⟩,
      ⟨(some 0), none, .mov (.t 16)⟩])
    (.reg [⟨(some 17), none, .mov (.t 2)⟩,
      ⟨(some 18), none, .bin .add (.t 17) (.k (.d (.int .i64 8)))⟩,
      ⟨(some 2), none, .mov (.t 18)⟩]))
  .skip))
  (.seq (.reg [⟨(some 19), none, .mov (.t 2)⟩,
    ⟨(some 20), none, .mov (.t 0)⟩,
    ⟨(some 21), none, .conv .u8 (.t 20)⟩,
    ⟨(some 22), none, .sidx ⟨#[0, 1, 2, 2, 3, 3, 3, 3, 4, 4, 4, 4, 4, 4, 4, 4, 5, 5, 5, 5, 5, 5, 5, 5, 5, 5, 5, 5, 5, 5, 5, 5, 6, 6, 6, 6, 6, 6, 6, 6, 6, 6, 6, 6, 6, 6, 6, 6, 6, 6, 6, 6, 6, 6, 6, 6, 6, 6, 6, 6, 6, 6, 6, 6, 7, 7, 7, 7, 7, 7, 7, 7, 7, 7, 7, 7, 7, 7, 7, 7, 7, 7, 7, 7, 7, 7, 7, 7, 7, 7, 7, 7, 7, 7, 7, 7, 7, 7, 7, 7, 7, 7, 7, 7, 7, 7, 7, 7, 7, 7, 7, 7, 7, 7, 7, 7, 7, 7, 7, 7, 7, 7, 7, 7, 7, 7, 7, 7, 8, 8, 8, 8, 8, 8, 8, 8, 8, 8, 8, 8, 8, 8, 8, 8, 8, 8, 8, 8, 8, 8, 8, 8, 8, 8, 8, 8, 8, 8, 8, 8, 8, 8, 8, 8, 8, 8, 8, 8, 8, 8, 8, 8, 8, 8, 8, 8, 8, 8, 8, 8, 8, 8, 8, 8, 8, 8, 8, 8, 8, 8, 8, 8, 8, 8, 8, 8, 8, 8, 8, 8, 8, 8, 8, 8, 8, 8, 8, 8, 8, 8, 8, 8, 8, 8, 8, 8, 8, 8, 8, 8, 8, 8, 8, 8, 8, 8, 8, 8, 8, 8, 8, 8, 8, 8, 8, 8, 8, 8, 8, 8, 8, 8, 8, 8, 8, 8, 8, 8, 8, 8, 8, 8, 8, 8, 8, 8]⟩ (.t 21)⟩,
    ⟨(some 23), none, .conv .i64 (.t 22)⟩,
    ⟨(some 24), none, .bin .add (.t 19) (.t 23)⟩,
    ⟨(some 2), none, .mov (.t 24)⟩])
  .ret)))))
def rs28 : List RV := [.tmp 2]
theorem ok28 : okF Try.prog 28 = true := by kernel_rfl
theorem cc28 : cCode Try.prog Try.f28.ntmps (Try.f28.body.getD .skip) = some c28 := by kernel_rfl
theorem cr28 : cRess Try.prog Try.f28.results.toList = some rs28 := by kernel_rfl
theorem pure28 {args : List V} {res : V} (hlen : args.length ≤ 25) (hna : namesL args = []) (hnr : res.names = []) (h : ∀ c : Ctx, c.P = Try.prog → c.fn = [] → vcC c c28 ⟨initE 0 args, [], []⟩ (RetK c rs28 res [])) : Ctr Try.prog 28 args [] res [] [] :=
  ctr_pure Try.func28 ok28 rfl cc28 cr28 Try.ntmps28 hlen hna hnr h
theorem own28 {args : List V} {ins outs : List (Nat × Own)} {res : V} {new : List Nat} (hlen : args.length ≤ 25) (hf : ctrB args ins res outs new = true) (h : ∀ c : Ctx, c.P = Try.prog → c.fn = namesL args ++ ownNames ins → vcC c c28 ⟨initE 0 args, ins, namesL args ++ ownNames ins⟩ (RetK c rs28 res outs)) : Ctr Try.prog 28 args ins res outs new :=
  ctr_own Try.func28 ok28 rfl cc28 cr28 Try.ntmps28 hlen hf h

end Go.Proofs.Ytldfjldgbeeofaa
