/-
  The code of this seat's functions, compiled for the engine (by a program of mine); the theorems say that it is theirs.
-/
import Derived.Test.YtolhfgjekomaaaaRows
import Derived.Test.YtolhfgjekomaaaaEng23
import Derived.KernelRfl
namespace Go.Proofs.Ytolhfgjekomaaaa
open Go.Bx

set_option maxRecDepth 100000

/-- bordereau/bordereaulaw24.LayerTells -/
def c3 : C :=
  (.seq (.reg [⟨(some 3), none, .box 25 (.t 0)⟩,
    ⟨(some 6), none, .mov (.k (.d (.bool false)))⟩])
  (.seq (.reg [⟨(some 12), none, .call 14 []⟩,
    ⟨(some 7), none, .mov (.t 12)⟩])
  (.seq (.seq (.reg [⟨(some 13), none, .mov (.t 2)⟩,
    ⟨(some 14), none, .len (.t 13)⟩,
    ⟨(some 15), none, .bin .gtr (.t 14) (.k (.d (.int .i64 100)))⟩])
  (.cond (.t 15) (.seq (.reg [⟨(some 16), none, .mov (.t 7)⟩,
      ⟨(some 6), none, .mov (.t 16)⟩])
    .ret)
  .skip))
  (.seq (.reg [⟨(some 18), none, .load 9 true (.t 3)⟩,
    ⟨(some 19), none, .mov (.t 2)⟩,
    ⟨(some 20), none, .call 15 [(.t 18), (.t 19)]⟩,
    ⟨(some 17), none, .mov (.t 20)⟩,
    ⟨(some 21), none, .ext 0 (.t 17)⟩,
    ⟨(some 22), none, .ext 1 (.t 17)⟩,
    ⟨(some 8), none, .mov (.t 21)⟩,
    ⟨(some 9), none, .mov (.t 22)⟩])
  (.seq (.reg [⟨(some 24), none, .load 9 true (.t 3)⟩,
    ⟨(some 25), none, .mov (.t 2)⟩,
    ⟨(some 26), none, .call 16 [(.t 24), (.t 25)]⟩,
    ⟨(some 23), none, .mov (.t 26)⟩,
    ⟨(some 27), none, .ext 0 (.t 23)⟩,
    ⟨(some 28), none, .ext 1 (.t 23)⟩,
    ⟨(some 10), none, .mov (.t 27)⟩,
    ⟨(some 11), none, .mov (.t 28)⟩])
  (.seq (.drw [0, 1, 3, 3, 15, 31, 63, 127, 127, 511, 1023, 2047, 4095, 4095, 16383, 4095, 4095, 131071, 262143, 524287, 1048575, 2097151, 4194303, 2097151, 16777215, 33554431, 67108863, 134217727]
   [⟨(some 29), none, .mov (.t 7)⟩,
    ⟨(some 30), none, .mov (.t 29)⟩,
    ⟨(some 31), (some (30, true)), .mov (.t 9)⟩,
    ⟨(some 32), (some (30, true)), .mov (.t 11)⟩,
    ⟨(some 33), (some (30, true)), .bin .eql (.t 31) (.t 32)⟩,
    ⟨(some 34), none, .pick (.t 30) (.t 33) (.k (.d (.bool false)))⟩,
    ⟨(some 35), none, .mov (.t 34)⟩,
    ⟨(some 36), (some (35, true)), .mov (.t 8)⟩,
    ⟨(some 37), (some (35, true)), .mov (.t 10)⟩,
    ⟨(some 38), (some (35, true)), .call 17 [(.t 36), (.t 37)]⟩,
    ⟨(some 39), none, .pick (.t 35) (.t 38) (.k (.d (.bool false)))⟩,
    ⟨(some 40), none, .mov (.t 39)⟩,
    ⟨(some 41), (some (40, true)), .load 9 true (.t 3)⟩,
    ⟨(some 42), (some (40, true)), .mov (.t 1)⟩,
    ⟨(some 43), (some (40, true)), .call 18 [(.t 41), (.t 42)]⟩,
    ⟨(some 44), (some (40, true)), .load 9 true (.t 3)⟩,
    ⟨(some 45), (some (40, true)), .mov (.t 1)⟩,
    ⟨(some 46), (some (40, true)), .call 19 [(.t 44), (.t 45)]⟩,
    ⟨(some 47), (some (40, true)), .bin .eql (.t 43) (.t 46)⟩,
    ⟨(some 48), none, .pick (.t 40) (.t 47) (.k (.d (.bool false)))⟩,
    ⟨(some 49), none, .mov (.t 48)⟩,
    ⟨(some 50), (some (49, true)), .load 9 true (.t 3)⟩,
    ⟨(some 51), (some (49, true)), .call 20 [(.t 50)]⟩,
    ⟨(some 52), (some (49, true)), .load 9 true (.t 3)⟩,
    ⟨(some 53), (some (49, true)), .call 21 [(.t 52)]⟩,
    ⟨(some 54), (some (49, true)), .bin .eql (.t 51) (.t 53)⟩,
    ⟨(some 55), none, .pick (.t 49) (.t 54) (.k (.d (.bool false)))⟩,
    ⟨(some 6), none, .mov (.t 55)⟩])
  .ret))))))
def rs3 : List RV := [.tmp 6]
theorem ok3 : okF Try.prog 3 = true := by kernel_rfl
theorem cc3 : cCode Try.prog Try.f3.ntmps (Try.f3.body.getD .skip) = some c3 := by kernel_rfl
theorem cr3 : cRess Try.prog Try.f3.results.toList = some rs3 := by kernel_rfl
theorem pure3 {args : List V} {res : V} (hlen : args.length ≤ 56) (hna : namesL args = []) (hnr : res.names = []) (h : ∀ c : Ctx, c.P = Try.prog → c.fn = [] → vcC c c3 ⟨initE 0 args, [], []⟩ (RetK c rs3 res [])) : Ctr Try.prog 3 args [] res [] [] :=
  ctr_pure Try.func3 ok3 rfl cc3 cr3 Try.ntmps3 hlen hna hnr h
theorem own3 {args : List V} {ins outs : List (Nat × Own)} {res : V} {new : List Nat} (hlen : args.length ≤ 56) (hf : ctrB args ins res outs new = true) (h : ∀ c : Ctx, c.P = Try.prog → c.fn = namesL args ++ ownNames ins → vcC c c3 ⟨initE 0 args, ins, namesL args ++ ownNames ins⟩ (RetK c rs3 res outs)) : Ctr Try.prog 3 args ins res outs new :=
  ctr_own Try.func3 ok3 rfl cc3 cr3 Try.ntmps3 hlen hf h

/-- bordereau/bordereaulaw24.LayerBounds -/
def c4 : C :=
  (.seq (.reg [⟨(some 2), none, .box 25 (.t 0)⟩,
    ⟨(some 4), none, .mov (.k (.d (.bool false)))⟩])
  (.seq (.reg [⟨(some 9), none, .call 14 []⟩,
    ⟨(some 5), none, .mov (.t 9)⟩])
  (.seq (.seq (.reg [⟨(some 10), none, .mov (.t 1)⟩,
    ⟨(some 11), none, .len (.t 10)⟩,
    ⟨(some 12), none, .bin .gtr (.t 11) (.k (.d (.int .i64 100)))⟩])
  (.cond (.t 12) (.seq (.reg [⟨(some 13), none, .mov (.t 5)⟩,
      ⟨(some 4), none, .mov (.t 13)⟩])
    .ret)
  .skip))
  (.seq (.reg [⟨(some 15), none, .load 9 true (.t 2)⟩,
    ⟨(some 16), none, .mov (.t 1)⟩,
    ⟨(some 17), none, .call 15 [(.t 15), (.t 16)]⟩,
    ⟨(some 14), none, .mov (.t 17)⟩,
    ⟨(some 18), none, .ext 0 (.t 14)⟩,
    ⟨(some 19), none, .ext 1 (.t 14)⟩,
    ⟨(some 6), none, .mov (.t 18)⟩,
    ⟨(some 7), none, .mov (.t 19)⟩])
  (.seq (.seq (.reg [⟨(some 20), none, .mov (.t 7)⟩,
    ⟨(some 21), none, .bin .neq (.t 20) (.k (.d (.int .i64 0)))⟩])
  (.cond (.t 21) (.seq (.reg [⟨(some 22), none, .mov (.t 5)⟩,
      ⟨(some 23), none, .mov (.t 22)⟩,
      ⟨(some 24), (some (23, true)), .mov (.t 6)⟩,
      ⟨(some 25), (some (23, true)), .len (.t 24)⟩,
      ⟨(some 26), (some (23, true)), .bin .eql (.t 25) (.k (.d (.int .i64 0)))⟩,
      ⟨(some 27), none, .pick (.t 23) (.t 26) (.k (.d (.bool false)))⟩,
      ⟨(some 4), none, .mov (.t 27)⟩])
    .ret)
  .skip))
  (.seq (.seq (.drw [0, 1, 0, 4, 15, 31, 63, 127, 63, 511, 1023, 2047]
   [⟨(some 28), none, .mov (.t 6)⟩,
    ⟨(some 29), none, .len (.t 28)⟩,
    ⟨(some 30), none, .mov (.t 1)⟩,
    ⟨(some 31), none, .len (.t 30)⟩,
    ⟨(some 32), none, .bin .neq (.t 29) (.t 31)⟩,
    ⟨(some 33), none, .mov (.t 32)⟩,
    ⟨(some 34), (some (33, false)), .mov (.t 6)⟩,
    ⟨(some 35), (some (33, false)), .call 22 [(.t 34)]⟩,
    ⟨(some 36), (some (33, false)), .load 9 true (.t 2)⟩,
    ⟨(some 37), (some (33, false)), .call 20 [(.t 36)]⟩,
    ⟨(some 38), (some (33, false)), .bin .gtr (.t 35) (.t 37)⟩,
    ⟨(some 39), none, .pick (.t 33) (.k (.d (.bool true))) (.t 38)⟩])
  (.cond (.t 39) (.seq (.reg [⟨(some 4), none, .mov (.k (.d (.bool false)))⟩])
    .ret)
  .skip))
  (.seq (.seq (.reg [⟨(some 8), none, .mov (.k (.d (.int .i64 0)))⟩])
  (.block 0 (.loop (.seq (.seq (.reg [⟨(some 40), none, .mov (.t 8)⟩,
        ⟨(some 41), none, .mov (.t 6)⟩,
        ⟨(some 42), none, .len (.t 41)⟩,
        ⟨(some 43), none, .bin .lss (.t 40) (.t 42)⟩])
      (.cond (.t 43) .skip
      (.exit 0)))
      (.seq (.block 1 (.seq (.drw [0, 0, 3, 7, 15, 31, 63, 63, 255, 511, 63, 1087, 4095, 8191, 16383, 32767, 32767, 131071, 262143, 32767, 32767, 1605631, 3702783, 7897087, 16777215, 33554431, 67108863, 134217727, 134217727, 536870911, 1073741823, 2147483647, 4294967295, 8589934591, 8589934591, 8589934591, 60129542143, 128849018879, 274877906943, 549755813887, 1099511627775, 2199023255551, 2199023255551, 8796093022207, 17592186044415, 35184372088831, 2199023255551, 72567767433215, 281474976710655, 562949953421311, 1125899906842623, 2251799813685247]
         [⟨(some 46), none, .mov (.t 6)⟩,
          ⟨(some 47), none, .mov (.t 8)⟩,
          ⟨(some 48), none, .iadr 1 (.t 46) (.t 47)⟩,
          ⟨(some 49), none, .load 1 false (.t 48)⟩,
          ⟨(some 50), none, .bin .lss (.t 49) (.k (.d (.int .i64 0)))⟩,
          ⟨(some 51), none, .mov (.t 50)⟩,
          ⟨(some 52), (some (51, false)), .mov (.t 6)⟩,
          ⟨(some 53), (some (51, false)), .mov (.t 8)⟩,
          ⟨(some 54), (some (51, false)), .iadr 1 (.t 52) (.t 53)⟩,
          ⟨(some 55), (some (51, false)), .load 1 false (.t 54)⟩,
          ⟨(some 56), (some (51, false)), .fadr 6 (.t 2)⟩,
          ⟨(some 57), (some (51, false)), .load 1 false (.t 56)⟩,
          ⟨(some 58), (some (51, false)), .bin .gtr (.t 55) (.t 57)⟩,
          ⟨(some 59), none, .pick (.t 51) (.k (.d (.bool true))) (.t 58)⟩,
          ⟨(some 60), none, .mov (.t 59)⟩,
          ⟨(some 61), (some (60, false)), .mov (.t 6)⟩,
          ⟨(some 62), (some (60, false)), .mov (.t 8)⟩,
          ⟨(some 63), (some (60, false)), .iadr 1 (.t 61) (.t 62)⟩,
          ⟨(some 64), (some (60, false)), .load 1 false (.t 63)⟩,
          ⟨(some 65), (some (60, false)), .mov (.t 1)⟩,
          ⟨(some 66), (some (60, false)), .mov (.t 8)⟩,
          ⟨(some 67), (some (60, false)), .iadr 5 (.t 65) (.t 66)⟩,
          ⟨(some 68), (some (60, false)), .fadr 4 (.t 67)⟩,
          ⟨(some 69), (some (60, false)), .load 1 false (.t 68)⟩,
          ⟨(some 70), (some (60, false)), .bin .gtr (.t 64) (.t 69)⟩,
          ⟨(some 71), none, .pick (.t 60) (.k (.d (.bool true))) (.t 70)⟩,
          ⟨(some 72), none, .mov (.t 71)⟩,
          ⟨(some 73), (some (72, false)), .mov (.t 6)⟩,
          ⟨(some 74), (some (72, false)), .mov (.t 8)⟩,
          ⟨(some 75), (some (72, false)), .iadr 1 (.t 73) (.t 74)⟩,
          ⟨(some 76), (some (72, false)), .load 1 false (.t 75)⟩,
          ⟨(some 77), (some (72, false)), .bin .gtr (.t 76) (.k (.d (.int .i64 0)))⟩,
          ⟨(some 78), (some (72, false)), .mov (.t 77)⟩,
          ⟨(some 79), (some (78, true)), .load 9 true (.t 2)⟩,
          ⟨(some 80), (some (78, true)), .mov (.t 1)⟩,
          ⟨(some 81), (some (78, true)), .mov (.t 8)⟩,
          ⟨(some 82), (some (78, true)), .iadr 5 (.t 80) (.t 81)⟩,
          ⟨(some 83), (some (78, true)), .load 5 true (.t 82)⟩,
          ⟨(some 84), (some (78, true)), .call 23 [(.t 79), (.t 83)]⟩,
          ⟨(some 85), (some (78, true)), .inv .not (.t 84)⟩,
          ⟨(some 86), (some (78, true)), .mov (.t 85)⟩,
          ⟨(some 87), (some (86, false)), .mov (.t 1)⟩,
          ⟨(some 88), (some (86, false)), .mov (.t 8)⟩,
          ⟨(some 89), (some (86, false)), .iadr 5 (.t 87) (.t 88)⟩,
          ⟨(some 90), (some (86, false)), .fadr 4 (.t 89)⟩,
          ⟨(some 91), (some (86, false)), .load 1 false (.t 90)⟩,
          ⟨(some 92), (some (86, false)), .fadr 5 (.t 2)⟩,
          ⟨(some 93), (some (86, false)), .load 1 false (.t 92)⟩,
          ⟨(some 94), (some (86, false)), .bin .leq (.t 91) (.t 93)⟩,
          ⟨(some 95), (some (78, true)), .pick (.t 86) (.k (.d (.bool true))) (.t 94)⟩,
          ⟨(some 96), (some (72, false)), .pick (.t 78) (.t 95) (.k (.d (.bool false)))⟩,
          ⟨(some 97), none, .pick (.t 72) (.k (.d (.bool true))) (.t 96)⟩])
        (.cond (.t 97) (.seq (.reg [⟨(some 4), none, .mov (.k (.d (.bool false)))⟩])
          .ret)
        .skip)))
      (.reg [⟨(some 44), none, .mov (.t 8)⟩,
        ⟨(some 45), none, .bin .add (.t 44) (.k (.d (.int .i64 1)))⟩,
        ⟨(some 8), none, .mov (.t 45)⟩]))))))
  (.seq (.reg [⟨(some 98), none, .mov (.t 5)⟩,
    ⟨(some 4), none, .mov (.t 98)⟩])
  .ret))))))))
def rs4 : List RV := [.tmp 4]
theorem ok4 : okF Try.prog 4 = true := by kernel_rfl
theorem cc4 : cCode Try.prog Try.f4.ntmps (Try.f4.body.getD .skip) = some c4 := by kernel_rfl
theorem cr4 : cRess Try.prog Try.f4.results.toList = some rs4 := by kernel_rfl
theorem pure4 {args : List V} {res : V} (hlen : args.length ≤ 99) (hna : namesL args = []) (hnr : res.names = []) (h : ∀ c : Ctx, c.P = Try.prog → c.fn = [] → vcC c c4 ⟨initE 0 args, [], []⟩ (RetK c rs4 res [])) : Ctr Try.prog 4 args [] res [] [] :=
  ctr_pure Try.func4 ok4 rfl cc4 cr4 Try.ntmps4 hlen hna hnr h
theorem own4 {args : List V} {ins outs : List (Nat × Own)} {res : V} {new : List Nat} (hlen : args.length ≤ 99) (hf : ctrB args ins res outs new = true) (h : ∀ c : Ctx, c.P = Try.prog → c.fn = namesL args ++ ownNames ins → vcC c c4 ⟨initE 0 args, ins, namesL args ++ ownNames ins⟩ (RetK c rs4 res outs)) : Ctr Try.prog 4 args ins res outs new :=
  ctr_own Try.func4 ok4 rfl cc4 cr4 Try.ntmps4 hlen hf h

/-- bordereau/bordereaulaw24.LayerMore -/
def c5 : C :=
  (.seq (.reg [⟨(some 3), none, .box 25 (.t 0)⟩,
    ⟨(some 5), none, .box 38 (.t 2)⟩,
    ⟨(some 6), none, .mov (.k (.d (.bool false)))⟩])
  (.seq (.reg [⟨(some 14), none, .call 14 []⟩,
    ⟨(some 7), none, .mov (.t 14)⟩])
  (.seq (.seq (.reg [⟨(some 15), none, .mov (.t 1)⟩,
    ⟨(some 16), none, .len (.t 15)⟩,
    ⟨(some 17), none, .bin .gtr (.t 16) (.k (.d (.int .i64 99)))⟩])
  (.cond (.t 17) (.seq (.reg [⟨(some 18), none, .mov (.t 7)⟩,
      ⟨(some 6), none, .mov (.t 18)⟩])
    .ret)
  .skip))
  (.seq (.reg [⟨(some 20), none, .load 9 true (.t 3)⟩,
    ⟨(some 21), none, .mov (.t 1)⟩,
    ⟨(some 22), none, .call 15 [(.t 20), (.t 21)]⟩,
    ⟨(some 19), none, .mov (.t 22)⟩,
    ⟨(some 23), none, .ext 0 (.t 19)⟩,
    ⟨(some 24), none, .ext 1 (.t 19)⟩,
    ⟨(some 8), none, .mov (.t 23)⟩,
    ⟨(some 9), none, .mov (.t 24)⟩])
  (.seq (.drw [0, 0, 0, 6, 0, 16, 62, 127, 255, 511, 511, 1023, 4095]
   [⟨(some 26), none, .load 9 true (.t 3)⟩,
    ⟨(some 27), none, .bslice 38 5 0 []⟩,
    ⟨(some 28), none, .mov (.t 1)⟩,
    ⟨(some 29), none, .app 38 5 40 (.t 27) (.t 28)⟩,
    ⟨(some 30), none, .load 5 true (.t 5)⟩,
    ⟨(some 31), none, .bslice 38 5 1 [(.t 30)]⟩,
    ⟨(some 32), none, .app 38 5 40 (.t 29) (.t 31)⟩,
    ⟨(some 33), none, .call 15 [(.t 26), (.t 32)]⟩,
    ⟨(some 25), none, .mov (.t 33)⟩,
    ⟨(some 34), none, .ext 0 (.t 25)⟩,
    ⟨(some 35), none, .ext 1 (.t 25)⟩,
    ⟨(some 10), none, .mov (.t 34)⟩,
    ⟨(some 11), none, .mov (.t 35)⟩])
  (.seq (.seq (.reg [⟨(some 36), none, .mov (.t 9)⟩,
    ⟨(some 37), none, .bin .neq (.t 36) (.k (.d (.int .i64 0)))⟩,
    ⟨(some 38), none, .mov (.t 37)⟩,
    ⟨(some 39), (some (38, false)), .mov (.t 11)⟩,
    ⟨(some 40), (some (38, false)), .bin .neq (.t 39) (.k (.d (.int .i64 0)))⟩,
    ⟨(some 41), none, .pick (.t 38) (.k (.d (.bool true))) (.t 40)⟩])
  (.cond (.t 41) (.seq (.reg [⟨(some 42), none, .mov (.t 7)⟩,
      ⟨(some 43), none, .mov (.t 42)⟩,
      ⟨(some 44), (some (43, true)), .mov (.t 9)⟩,
      ⟨(some 45), (some (43, true)), .bin .eql (.t 44) (.k (.d (.int .i64 0)))⟩,
      ⟨(some 46), (some (43, true)), .mov (.t 45)⟩,
      ⟨(some 47), (some (46, false)), .mov (.t 11)⟩,
      ⟨(some 48), (some (46, false)), .bin .neq (.t 47) (.k (.d (.int .i64 0)))⟩,
      ⟨(some 49), (some (43, true)), .pick (.t 46) (.k (.d (.bool true))) (.t 48)⟩,
      ⟨(some 50), none, .pick (.t 43) (.t 49) (.k (.d (.bool false)))⟩,
      ⟨(some 6), none, .mov (.t 50)⟩])
    .ret)
  .skip))
  (.seq (.seq (.reg [⟨(some 51), none, .mov (.t 10)⟩,
    ⟨(some 52), none, .len (.t 51)⟩,
    ⟨(some 53), none, .mov (.t 8)⟩,
    ⟨(some 54), none, .len (.t 53)⟩,
    ⟨(some 55), none, .bin .add (.t 54) (.k (.d (.int .i64 1)))⟩,
    ⟨(some 56), none, .bin .neq (.t 52) (.t 55)⟩,
    ⟨(some 57), none, .mov (.t 56)⟩,
    ⟨(some 58), (some (57, false)), .mov (.t 8)⟩,
    ⟨(some 59), (some (57, false)), .mov (.t 10)⟩,
    ⟨(some 60), (some (57, false)), .mov (.t 8)⟩,
    ⟨(some 61), (some (57, false)), .len (.t 60)⟩,
    ⟨(some 62), (some (57, false)), .slc 1 (.t 59) none (some (.t 61)) none⟩,
    ⟨(some 63), (some (57, false)), .call 17 [(.t 58), (.t 62)]⟩,
    ⟨(some 64), (some (57, false)), .inv .not (.t 63)⟩,
    ⟨(some 65), none, .pick (.t 57) (.k (.d (.bool true))) (.t 64)⟩])
  (.cond (.t 65) (.seq (.reg [⟨(some 6), none, .mov (.k (.d (.bool false)))⟩])
    .ret)
  .skip))
  (.seq (.reg [⟨(some 66), none, .load 9 true (.t 3)⟩,
    ⟨(some 67), none, .call 20 [(.t 66)]⟩,
    ⟨(some 68), none, .mov (.t 8)⟩,
    ⟨(some 69), none, .call 22 [(.t 68)]⟩,
    ⟨(some 70), none, .bin .sub (.t 67) (.t 69)⟩,
    ⟨(some 12), none, .mov (.t 70)⟩])
  (.seq (.reg [⟨(some 13), none, .mov (.k (.d (.int .i64 0)))⟩])
  (.seq (.seq (.reg [⟨(some 71), none, .load 9 true (.t 3)⟩,
    ⟨(some 72), none, .load 5 true (.t 5)⟩,
    ⟨(some 73), none, .call 23 [(.t 71), (.t 72)]⟩])
  (.cond (.t 73) (.reg [⟨(some 74), none, .load 9 true (.t 3)⟩,
      ⟨(some 75), none, .fadr 4 (.t 5)⟩,
      ⟨(some 76), none, .load 1 false (.t 75)⟩,
      ⟨(some 77), none, .call 18 [(.t 74), (.t 76)]⟩,
      ⟨(some 78), none, .mov (.t 12)⟩,
      ⟨(some 79), none, .mm false (.t 77) (.t 78)⟩,
      ⟨(some 13), none, .mov (.t 79)⟩])
  .skip))
  (.seq (.reg [⟨(some 80), none, .mov (.t 7)⟩,
    ⟨(some 81), none, .mov (.t 80)⟩,
    ⟨(some 82), (some (81, true)), .mov (.t 10)⟩,
    ⟨(some 83), (some (81, true)), .mov (.t 8)⟩,
    ⟨(some 84), (some (81, true)), .len (.t 83)⟩,
    ⟨(some 85), (some (81, true)), .iadr 1 (.t 82) (.t 84)⟩,
    ⟨(some 86), (some (81, true)), .load 1 false (.t 85)⟩,
    ⟨(some 87), (some (81, true)), .mov (.t 13)⟩,
    ⟨(some 88), (some (81, true)), .bin .eql (.t 86) (.t 87)⟩,
    ⟨(some 89), none, .pick (.t 81) (.t 88) (.k (.d (.bool false)))⟩,
    ⟨(some 6), none, .mov (.t 89)⟩])
  .ret)))))))))))
def rs5 : List RV := [.tmp 6]
theorem ok5 : okF Try.prog 5 = true := by kernel_rfl
theorem cc5 : cCode Try.prog Try.f5.ntmps (Try.f5.body.getD .skip) = some c5 := by kernel_rfl
theorem cr5 : cRess Try.prog Try.f5.results.toList = some rs5 := by kernel_rfl
theorem pure5 {args : List V} {res : V} (hlen : args.length ≤ 90) (hna : namesL args = []) (hnr : res.names = []) (h : ∀ c : Ctx, c.P = Try.prog → c.fn = [] → vcC c c5 ⟨initE 0 args, [], []⟩ (RetK c rs5 res [])) : Ctr Try.prog 5 args [] res [] [] :=
  ctr_pure Try.func5 ok5 rfl cc5 cr5 Try.ntmps5 hlen hna hnr h
theorem own5 {args : List V} {ins outs : List (Nat × Own)} {res : V} {new : List Nat} (hlen : args.length ≤ 90) (hf : ctrB args ins res outs new = true) (h : ∀ c : Ctx, c.P = Try.prog → c.fn = namesL args ++ ownNames ins → vcC c c5 ⟨initE 0 args, ins, namesL args ++ ownNames ins⟩ (RetK c rs5 res outs)) : Ctr Try.prog 5 args ins res outs new :=
  ctr_own Try.func5 ok5 rfl cc5 cr5 Try.ntmps5 hlen hf h

/-- bordereau/bordereaulaw24.LayerOrder -/
def c6 : C :=
  (.seq (.reg [⟨(some 2), none, .box 25 (.t 0)⟩,
    ⟨(some 4), none, .mov (.k (.d (.bool false)))⟩])
  (.seq (.reg [⟨(some 14), none, .call 14 []⟩,
    ⟨(some 5), none, .mov (.t 14)⟩])
  (.seq (.seq (.reg [⟨(some 15), none, .mov (.t 1)⟩,
    ⟨(some 16), none, .len (.t 15)⟩,
    ⟨(some 17), none, .bin .gtr (.t 16) (.k (.d (.int .i64 100)))⟩])
  (.cond (.t 17) (.seq (.reg [⟨(some 18), none, .mov (.t 5)⟩,
      ⟨(some 4), none, .mov (.t 18)⟩])
    .ret)
  .skip))
  (.seq (.reg [⟨(some 6), none, .mov (.k (.d (.sl true 0 0 fun _ => [])))⟩])
  (.seq (.reg [⟨(some 7), none, .mov (.k (.d (.int .i64 0)))⟩])
  (.seq (.seq (.reg [⟨(some 19), none, .mov (.t 1)⟩,
    ⟨(some 20), none, .len (.t 19)⟩,
    ⟨(some 21), none, .bin .sub (.t 20) (.k (.d (.int .i64 1)))⟩,
    ⟨(some 8), none, .mov (.t 21)⟩])
  (.block 0 (.loop (.seq (.seq (.reg [⟨(some 22), none, .mov (.t 8)⟩,
        ⟨(some 23), none, .bin .geq (.t 22) (.k (.d (.int .i64 0)))⟩])
      (.cond (.t 23) .skip
      (.exit 0)))
      (.seq (.block 1 (.reg [⟨(some 26), none, .mov (.t 6)⟩,
          ⟨(some 27), none, .mov (.t 1)⟩,
          ⟨(some 28), none, .mov (.t 8)⟩,
          ⟨(some 29), none, .iadr 5 (.t 27) (.t 28)⟩,
          ⟨(some 30), none, .load 5 true (.t 29)⟩,
          ⟨(some 31), none, .bslice 38 5 1 [(.t 30)]⟩,
          ⟨(some 32), none, .app 38 5 40 (.t 26) (.t 31)⟩,
          ⟨(some 6), none, .mov (.t 32)⟩]))
      (.reg [⟨(some 24), none, .mov (.t 8)⟩,
        ⟨(some 25), none, .bin .sub (.t 24) (.k (.d (.int .i64 1)))⟩,
        ⟨(some 8), none, .mov (.t 25)⟩]))))))
  (.seq (.reg [⟨(some 34), none, .load 9 true (.t 2)⟩,
    ⟨(some 35), none, .mov (.t 1)⟩,
    ⟨(some 36), none, .call 15 [(.t 34), (.t 35)]⟩,
    ⟨(some 33), none, .mov (.t 36)⟩,
    ⟨(some 37), none, .ext 0 (.t 33)⟩,
    ⟨(some 38), none, .ext 1 (.t 33)⟩,
    ⟨(some 9), none, .mov (.t 37)⟩,
    ⟨(some 10), none, .mov (.t 38)⟩])
  (.seq (.reg [⟨(some 40), none, .load 9 true (.t 2)⟩,
    ⟨(some 41), none, .mov (.t 6)⟩,
    ⟨(some 42), none, .call 15 [(.t 40), (.t 41)]⟩,
    ⟨(some 39), none, .mov (.t 42)⟩,
    ⟨(some 43), none, .ext 0 (.t 39)⟩,
    ⟨(some 44), none, .ext 1 (.t 39)⟩,
    ⟨(some 11), none, .mov (.t 43)⟩,
    ⟨(some 12), none, .mov (.t 44)⟩])
  (.seq (.seq (.reg [⟨(some 45), none, .mov (.t 10)⟩,
    ⟨(some 46), none, .bin .neq (.t 45) (.k (.d (.int .i64 0)))⟩])
  (.cond (.t 46) (.seq (.reg [⟨(some 47), none, .mov (.t 5)⟩,
      ⟨(some 48), none, .mov (.t 47)⟩,
      ⟨(some 49), (some (48, true)), .mov (.t 12)⟩,
      ⟨(some 50), (some (48, true)), .mov (.t 10)⟩,
      ⟨(some 51), (some (48, true)), .bin .eql (.t 49) (.t 50)⟩,
      ⟨(some 52), none, .pick (.t 48) (.t 51) (.k (.d (.bool false)))⟩,
      ⟨(some 4), none, .mov (.t 52)⟩])
    .ret)
  .skip))
  (.seq (.seq (.reg [⟨(some 13), none, .mov (.k (.d (.int .i64 0)))⟩])
  (.block 2 (.loop (.seq (.seq (.reg [⟨(some 53), none, .mov (.t 13)⟩,
        ⟨(some 54), none, .mov (.t 1)⟩,
        ⟨(some 55), none, .len (.t 54)⟩,
        ⟨(some 56), none, .bin .lss (.t 53) (.t 55)⟩])
      (.cond (.t 56) .skip
      (.exit 2)))
      (.seq (.block 3 (.seq (.drw [0, 0, 0, 6, 14, 31]
         [⟨(some 59), none, .load 9 true (.t 2)⟩,
          ⟨(some 60), none, .mov (.t 1)⟩,
          ⟨(some 61), none, .mov (.t 13)⟩,
          ⟨(some 62), none, .iadr 5 (.t 60) (.t 61)⟩,
          ⟨(some 63), none, .load 5 true (.t 62)⟩,
          ⟨(some 64), none, .call 23 [(.t 59), (.t 63)]⟩])
        (.cond (.t 64) (.drw [0, 0, 0, 0, 12, 28, 60, 126, 255, 511]
           [⟨(some 65), none, .mov (.t 7)⟩,
            ⟨(some 66), none, .load 9 true (.t 2)⟩,
            ⟨(some 67), none, .mov (.t 1)⟩,
            ⟨(some 68), none, .mov (.t 13)⟩,
            ⟨(some 69), none, .iadr 5 (.t 67) (.t 68)⟩,
            ⟨(some 70), none, .fadr 4 (.t 69)⟩,
            ⟨(some 71), none, .load 1 false (.t 70)⟩,
            ⟨(some 72), none, .call 18 [(.t 66), (.t 71)]⟩,
            ⟨(some 73), none, .bin .add (.t 65) (.t 72)⟩,
            ⟨(some 7), none, .mov (.t 73)⟩])
        .skip)))
      (.reg [⟨(some 57), none, .mov (.t 13)⟩,
        ⟨(some 58), none, .bin .add (.t 57) (.k (.d (.int .i64 1)))⟩,
        ⟨(some 13), none, .mov (.t 58)⟩]))))))
  (.seq (.drw [0, 1, 3, 7, 15, 31, 63, 127, 63, 63, 767, 2047, 4095, 8191, 16383, 32767, 65535, 32767, 262143, 524287, 1048575, 2097151]
   [⟨(some 74), none, .mov (.t 5)⟩,
    ⟨(some 75), none, .mov (.t 74)⟩,
    ⟨(some 76), (some (75, true)), .mov (.t 12)⟩,
    ⟨(some 77), (some (75, true)), .bin .eql (.t 76) (.k (.d (.int .i64 0)))⟩,
    ⟨(some 78), none, .pick (.t 75) (.t 77) (.k (.d (.bool false)))⟩,
    ⟨(some 79), none, .mov (.t 78)⟩,
    ⟨(some 80), (some (79, true)), .mov (.t 9)⟩,
    ⟨(some 81), (some (79, true)), .call 22 [(.t 80)]⟩,
    ⟨(some 82), (some (79, true)), .mov (.t 7)⟩,
    ⟨(some 83), (some (79, true)), .load 9 true (.t 2)⟩,
    ⟨(some 84), (some (79, true)), .call 20 [(.t 83)]⟩,
    ⟨(some 85), (some (79, true)), .mm false (.t 82) (.t 84)⟩,
    ⟨(some 86), (some (79, true)), .bin .eql (.t 81) (.t 85)⟩,
    ⟨(some 87), none, .pick (.t 79) (.t 86) (.k (.d (.bool false)))⟩,
    ⟨(some 88), none, .mov (.t 87)⟩,
    ⟨(some 89), (some (88, true)), .mov (.t 11)⟩,
    ⟨(some 90), (some (88, true)), .call 22 [(.t 89)]⟩,
    ⟨(some 91), (some (88, true)), .mov (.t 9)⟩,
    ⟨(some 92), (some (88, true)), .call 22 [(.t 91)]⟩,
    ⟨(some 93), (some (88, true)), .bin .eql (.t 90) (.t 92)⟩,
    ⟨(some 94), none, .pick (.t 88) (.t 93) (.k (.d (.bool false)))⟩,
    ⟨(some 4), none, .mov (.t 94)⟩])
  .ret)))))))))))
def rs6 : List RV := [.tmp 4]
theorem ok6 : okF Try.prog 6 = true := by kernel_rfl
theorem cc6 : cCode Try.prog Try.f6.ntmps (Try.f6.body.getD .skip) = some c6 := by kernel_rfl
theorem cr6 : cRess Try.prog Try.f6.results.toList = some rs6 := by kernel_rfl
theorem pure6 {args : List V} {res : V} (hlen : args.length ≤ 95) (hna : namesL args = []) (hnr : res.names = []) (h : ∀ c : Ctx, c.P = Try.prog → c.fn = [] → vcC c c6 ⟨initE 0 args, [], []⟩ (RetK c rs6 res [])) : Ctr Try.prog 6 args [] res [] [] :=
  ctr_pure Try.func6 ok6 rfl cc6 cr6 Try.ntmps6 hlen hna hnr h
theorem own6 {args : List V} {ins outs : List (Nat × Own)} {res : V} {new : List Nat} (hlen : args.length ≤ 95) (hf : ctrB args ins res outs new = true) (h : ∀ c : Ctx, c.P = Try.prog → c.fn = namesL args ++ ownNames ins → vcC c c6 ⟨initE 0 args, ins, namesL args ++ ownNames ins⟩ (RetK c rs6 res outs)) : Ctr Try.prog 6 args ins res outs new :=
  ctr_own Try.func6 ok6 rfl cc6 cr6 Try.ntmps6 hlen hf h

/-- bordereau/bordereaulaw24.LayerStacks -/
def c7 : C :=
  (.seq (.reg [⟨(some 10), none, .mov (.k (.d (.bool false)))⟩])
  (.seq (.reg [⟨(some 24), none, .call 14 []⟩,
    ⟨(some 11), none, .mov (.t 24)⟩])
  (.seq (.seq (.reg [⟨(some 25), none, .mov (.t 4)⟩,
    ⟨(some 26), none, .len (.t 25)⟩,
    ⟨(some 27), none, .bin .gtr (.t 26) (.k (.d (.int .i64 100)))⟩])
  (.cond (.t 27) (.seq (.reg [⟨(some 28), none, .mov (.t 11)⟩,
      ⟨(some 10), none, .mov (.t 28)⟩])
    .ret)
  .skip))
  (.seq (.reg [⟨(some 29), none, .build [.d (.int .i64 0), .d (.int .i64 0)] [(0, 1, (.k (.d (.int .i64 1)))), (1, 1, (.k (.d (.int .i64 2))))]⟩,
    ⟨(some 30), none, .mov (.t 0)⟩,
    ⟨(some 31), none, .conv .i64 (.t 30)⟩,
    ⟨(some 32), none, .mov (.t 1)⟩,
    ⟨(some 33), none, .conv .i64 (.t 32)⟩,
    ⟨(some 34), none, .bin .add (.k (.d (.int .i64 1))) (.t 33)⟩,
    ⟨(some 35), none, .build [.d (.int .i64 0), .d (.int .i64 0), .d (.int .i64 0), .d (.int .i64 0), .d (.int .i64 0), .d (.int .i64 0), .d (.int .i64 0), .d (.int .i64 0), .d (.int .i64 0)] [(0, 1, (.k (.d (.int .i64 1)))), (1, 1, (.k (.d (.int .i64 2)))), (2, 2, (.t 29)), (5, 1, (.t 31)), (6, 1, (.t 34)), (7, 1, (.k (.d (.int .i64 100)))), (8, 1, (.k (.d (.int .i64 255))))]⟩,
    ⟨(some 12), none, .alloc 25 [.d (.int .i64 0), .d (.int .i64 0), .d (.int .i64 0), .d (.int .i64 0), .d (.int .i64 0), .d (.int .i64 0), .d (.int .i64 0), .d (.int .i64 0), .d (.int .i64 0)]⟩,
    ⟨none, none, .store 9 (.t 12) (.t 35)⟩])
  (.seq (.reg [⟨(some 36), none, .load 9 true (.t 12)⟩,
    ⟨(some 13), none, .alloc 25 [.d (.int .i64 0), .d (.int .i64 0), .d (.int .i64 0), .d (.int .i64 0), .d (.int .i64 0), .d (.int .i64 0), .d (.int .i64 0), .d (.int .i64 0), .d (.int .i64 0)]⟩,
    ⟨none, none, .store 9 (.t 13) (.t 36)⟩])
  (.seq (.reg [⟨(some 37), none, .fadr 5 (.t 12)⟩,
    ⟨(some 38), none, .load 1 false (.t 37)⟩,
    ⟨(some 39), none, .fadr 6 (.t 12)⟩,
    ⟨(some 40), none, .load 1 false (.t 39)⟩,
    ⟨(some 41), none, .bin .add (.t 38) (.t 40)⟩,
    ⟨(some 42), none, .fadr 5 (.t 13)⟩,
    ⟨none, none, .store 1 (.t 42) (.t 41)⟩])
  (.seq (.reg [⟨(some 43), none, .mov (.t 2)⟩,
    ⟨(some 44), none, .conv .i64 (.t 43)⟩,
    ⟨(some 45), none, .bin .add (.k (.d (.int .i64 1))) (.t 44)⟩,
    ⟨(some 46), none, .fadr 6 (.t 13)⟩,
    ⟨none, none, .store 1 (.t 46) (.t 45)⟩])
  (.seq (.reg [⟨(some 47), none, .load 9 true (.t 12)⟩,
    ⟨(some 14), none, .alloc 25 [.d (.int .i64 0), .d (.int .i64 0), .d (.int .i64 0), .d (.int .i64 0), .d (.int .i64 0), .d (.int .i64 0), .d (.int .i64 0), .d (.int .i64 0), .d (.int .i64 0)]⟩,
    ⟨none, none, .store 9 (.t 14) (.t 47)⟩])
  (.seq (.reg [⟨(some 48), none, .fadr 6 (.t 12)⟩,
    ⟨(some 49), none, .load 1 false (.t 48)⟩,
    ⟨(some 50), none, .fadr 6 (.t 13)⟩,
    ⟨(some 51), none, .load 1 false (.t 50)⟩,
    ⟨(some 52), none, .bin .add (.t 49) (.t 51)⟩,
    ⟨(some 53), none, .fadr 6 (.t 14)⟩,
    ⟨none, none, .store 1 (.t 53) (.t 52)⟩])
  (.seq (.reg [⟨(some 15), none, .mov (.k (.d (.sl true 0 0 fun _ => [])))⟩])
  (.seq (.seq (.reg [⟨(some 16), none, .mov (.k (.d (.int .i64 0)))⟩])
  (.block 0 (.loop (.seq (.seq (.reg [⟨(some 54), none, .mov (.t 16)⟩,
        ⟨(some 55), none, .mov (.t 4)⟩,
        ⟨(some 56), none, .len (.t 55)⟩,
        ⟨(some 57), none, .bin .lss (.t 54) (.t 56)⟩])
      (.cond (.t 57) .skip
      (.exit 0)))
      (.seq (.block 1 (.reg [⟨(some 60), none, .mov (.t 15)⟩,
          ⟨(some 61), none, .mov (.t 4)⟩,
          ⟨(some 62), none, .mov (.t 16)⟩,
          ⟨(some 63), none, .iadr 1 (.t 61) (.t 62)⟩,
          ⟨(some 64), none, .load 1 false (.t 63)⟩,
          ⟨(some 65), none, .bin .rem (.t 64) (.k (.d (.int .u64 20000000000)))⟩,
          ⟨(some 66), none, .conv .i64 (.t 65)⟩,
          ⟨(some 67), none, .call 24 [(.t 66)]⟩,
          ⟨(some 68), none, .bslice 38 5 1 [(.t 67)]⟩,
          ⟨(some 69), none, .app 38 5 40 (.t 60) (.t 68)⟩,
          ⟨(some 15), none, .mov (.t 69)⟩]))
      (.reg [⟨(some 58), none, .mov (.t 16)⟩,
        ⟨(some 59), none, .bin .add (.t 58) (.k (.d (.int .i64 1)))⟩,
        ⟨(some 16), none, .mov (.t 59)⟩]))))))
  (.seq (.reg [⟨(some 71), none, .load 9 true (.t 12)⟩,
    ⟨(some 72), none, .mov (.t 15)⟩,
    ⟨(some 73), none, .call 15 [(.t 71), (.t 72)]⟩,
    ⟨(some 70), none, .mov (.t 73)⟩,
    ⟨(some 74), none, .ext 0 (.t 70)⟩,
    ⟨(some 75), none, .ext 1 (.t 70)⟩,
    ⟨(some 17), none, .mov (.t 74)⟩,
    ⟨(some 18), none, .mov (.t 75)⟩])
  (.seq (.reg [⟨(some 77), none, .load 9 true (.t 13)⟩,
    ⟨(some 78), none, .mov (.t 15)⟩,
    ⟨(some 79), none, .call 15 [(.t 77), (.t 78)]⟩,
    ⟨(some 76), none, .mov (.t 79)⟩,
    ⟨(some 80), none, .ext 0 (.t 76)⟩,
    ⟨(some 81), none, .ext 1 (.t 76)⟩,
    ⟨(some 19), none, .mov (.t 80)⟩,
    ⟨(some 20), none, .mov (.t 81)⟩])
  (.seq (.reg [⟨(some 83), none, .load 9 true (.t 14)⟩,
    ⟨(some 84), none, .mov (.t 15)⟩,
    ⟨(some 85), none, .call 15 [(.t 83), (.t 84)]⟩,
    ⟨(some 82), none, .mov (.t 85)⟩,
    ⟨(some 86), none, .ext 0 (.t 82)⟩,
    ⟨(some 87), none, .ext 1 (.t 82)⟩,
    ⟨(some 21), none, .mov (.t 86)⟩,
    ⟨(some 22), none, .mov (.t 87)⟩])
  (.seq (.seq (.reg [⟨(some 88), none, .mov (.t 18)⟩,
    ⟨(some 89), none, .bin .neq (.t 88) (.k (.d (.int .i64 0)))⟩,
    ⟨(some 90), none, .mov (.t 89)⟩,
    ⟨(some 91), (some (90, false)), .mov (.t 20)⟩,
    ⟨(some 92), (some (90, false)), .bin .neq (.t 91) (.k (.d (.int .i64 0)))⟩,
    ⟨(some 93), none, .pick (.t 90) (.k (.d (.bool true))) (.t 92)⟩,
    ⟨(some 94), none, .mov (.t 93)⟩,
    ⟨(some 95), (some (94, false)), .mov (.t 22)⟩,
    ⟨(some 96), (some (94, false)), .bin .neq (.t 95) (.k (.d (.int .i64 0)))⟩,
    ⟨(some 97), none, .pick (.t 94) (.k (.d (.bool true))) (.t 96)⟩,
    ⟨(some 98), none, .mov (.t 97)⟩,
    ⟨(some 99), (some (98, false)), .mov (.t 17)⟩,
    ⟨(some 100), (some (98, false)), .len (.t 99)⟩,
    ⟨(some 101), (some (98, false)), .mov (.t 4)⟩,
    ⟨(some 102), (some (98, false)), .len (.t 101)⟩,
    ⟨(some 103), (some (98, false)), .bin .neq (.t 100) (.t 102)⟩,
    ⟨(some 104), none, .pick (.t 98) (.k (.d (.bool true))) (.t 103)⟩,
    ⟨(some 105), none, .mov (.t 104)⟩,
    ⟨(some 106), (some (105, false)), .mov (.t 19)⟩,
    ⟨(some 107), (some (105, false)), .len (.t 106)⟩,
    ⟨(some 108), (some (105, false)), .mov (.t 4)⟩,
    ⟨(some 109), (some (105, false)), .len (.t 108)⟩,
    ⟨(some 110), (some (105, false)), .bin .neq (.t 107) (.t 109)⟩,
    ⟨(some 111), none, .pick (.t 105) (.k (.d (.bool true))) (.t 110)⟩,
    ⟨(some 112), none, .mov (.t 111)⟩,
    ⟨(some 113), (some (112, false)), .mov (.t 21)⟩,
    ⟨(some 114), (some (112, false)), .len (.t 113)⟩,
    ⟨(some 115), (some (112, false)), .mov (.t 4)⟩,
    ⟨(some 116), (some (112, false)), .len (.t 115)⟩,
    ⟨(some 117), (some (112, false)), .bin .neq (.t 114) (.t 116)⟩,
    ⟨(some 118), none, .pick (.t 112) (.k (.d (.bool true))) (.t 117)⟩])
  (.cond (.t 118) (.seq (.reg [⟨(some 10), none, .mov (.k (.d (.bool false)))⟩])
    .ret)
  .skip))
  (.seq (.seq (.reg [⟨(some 23), none, .mov (.k (.d (.int .i64 0)))⟩])
  (.block 2 (.loop (.seq (.seq (.reg [⟨(some 119), none, .mov (.t 23)⟩,
        ⟨(some 120), none, .mov (.t 4)⟩,
        ⟨(some 121), none, .len (.t 120)⟩,
        ⟨(some 122), none, .bin .lss (.t 119) (.t 121)⟩])
      (.cond (.t 122) .skip
      (.exit 2)))
      (.seq (.block 3 (.seq (.drw [0, 0, 3, 7, 0, 0, 48, 112, 255, 0, 0, 1536, 3584, 8191, 16383, 32767, 32767, 131071, 262143, 524287, 1048575, 2097151, 2097151, 8388607, 16777215, 2097151, 35651583, 134217727, 268435455, 536870911, 1073741823, 2147483647, 2147483647, 8589934591, 17179869183, 2147483647, 36507222015, 2147483647, 2147483647, 414464344063, 964220157951, 2063731785727, 4365834256383, 8796093022207, 2147483647, 2147483647, 52778705616895, 123147449794559, 263884938149887, 562949953421311, 1125899906842623]
         [⟨(some 125), none, .mov (.t 17)⟩,
          ⟨(some 126), none, .mov (.t 23)⟩,
          ⟨(some 127), none, .iadr 1 (.t 125) (.t 126)⟩,
          ⟨(some 128), none, .load 1 false (.t 127)⟩,
          ⟨(some 129), none, .mov (.t 19)⟩,
          ⟨(some 130), none, .mov (.t 23)⟩,
          ⟨(some 131), none, .iadr 1 (.t 129) (.t 130)⟩,
          ⟨(some 132), none, .load 1 false (.t 131)⟩,
          ⟨(some 133), none, .bin .add (.t 128) (.t 132)⟩,
          ⟨(some 134), none, .mov (.t 21)⟩,
          ⟨(some 135), none, .mov (.t 23)⟩,
          ⟨(some 136), none, .iadr 1 (.t 134) (.t 135)⟩,
          ⟨(some 137), none, .load 1 false (.t 136)⟩,
          ⟨(some 138), none, .bin .neq (.t 133) (.t 137)⟩,
          ⟨(some 139), none, .mov (.t 138)⟩,
          ⟨(some 140), (some (139, false)), .mov (.t 19)⟩,
          ⟨(some 141), (some (139, false)), .mov (.t 23)⟩,
          ⟨(some 142), (some (139, false)), .iadr 1 (.t 140) (.t 141)⟩,
          ⟨(some 143), (some (139, false)), .load 1 false (.t 142)⟩,
          ⟨(some 144), (some (139, false)), .bin .gtr (.t 143) (.k (.d (.int .i64 0)))⟩,
          ⟨(some 145), (some (139, false)), .mov (.t 144)⟩,
          ⟨(some 146), (some (145, true)), .mov (.t 17)⟩,
          ⟨(some 147), (some (145, true)), .mov (.t 23)⟩,
          ⟨(some 148), (some (145, true)), .iadr 1 (.t 146) (.t 147)⟩,
          ⟨(some 149), (some (145, true)), .load 1 false (.t 148)⟩,
          ⟨(some 150), (some (145, true)), .fadr 6 (.t 12)⟩,
          ⟨(some 151), (some (145, true)), .load 1 false (.t 150)⟩,
          ⟨(some 152), (some (145, true)), .bin .neq (.t 149) (.t 151)⟩,
          ⟨(some 153), (some (139, false)), .pick (.t 145) (.t 152) (.k (.d (.bool false)))⟩,
          ⟨(some 154), none, .pick (.t 139) (.k (.d (.bool true))) (.t 153)⟩,
          ⟨(some 155), none, .mov (.t 154)⟩,
          ⟨(some 156), (some (155, false)), .mov (.t 17)⟩,
          ⟨(some 157), (some (155, false)), .mov (.t 23)⟩,
          ⟨(some 158), (some (155, false)), .iadr 1 (.t 156) (.t 157)⟩,
          ⟨(some 159), (some (155, false)), .load 1 false (.t 158)⟩,
          ⟨(some 160), (some (155, false)), .fadr 5 (.t 12)⟩,
          ⟨(some 161), (some (155, false)), .load 1 false (.t 160)⟩,
          ⟨(some 162), (some (155, false)), .mov (.t 15)⟩,
          ⟨(some 163), (some (155, false)), .mov (.t 23)⟩,
          ⟨(some 164), (some (155, false)), .iadr 5 (.t 162) (.t 163)⟩,
          ⟨(some 165), (some (155, false)), .fadr 4 (.t 164)⟩,
          ⟨(some 166), (some (155, false)), .load 1 false (.t 165)⟩,
          ⟨(some 167), (some (155, false)), .mm false (.t 161) (.t 166)⟩,
          ⟨(some 168), (some (155, false)), .bin .add (.t 159) (.t 167)⟩,
          ⟨(some 169), (some (155, false)), .mov (.t 15)⟩,
          ⟨(some 170), (some (155, false)), .mov (.t 23)⟩,
          ⟨(some 171), (some (155, false)), .iadr 5 (.t 169) (.t 170)⟩,
          ⟨(some 172), (some (155, false)), .fadr 4 (.t 171)⟩,
          ⟨(some 173), (some (155, false)), .load 1 false (.t 172)⟩,
          ⟨(some 174), (some (155, false)), .bin .gtr (.t 168) (.t 173)⟩,
          ⟨(some 175), none, .pick (.t 155) (.k (.d (.bool true))) (.t 174)⟩])
        (.cond (.t 175) (.seq (.reg [⟨(some 10), none, .mov (.k (.d (.bool false)))⟩])
          .ret)
        .skip)))
      (.reg [⟨(some 123), none, .mov (.t 23)⟩,
        ⟨(some 124), none, .bin .add (.t 123) (.k (.d (.int .i64 1)))⟩,
        ⟨(some 23), none, .mov (.t 124)⟩]))))))
  (.seq (.reg [⟨(some 176), none, .mov (.t 3)⟩,
    ⟨(some 177), none, .bin .rem (.t 176) (.k (.d (.int .u8 101)))⟩,
    ⟨(some 178), none, .conv .i64 (.t 177)⟩,
    ⟨(some 179), none, .fadr 7 (.t 12)⟩,
    ⟨none, none, .store 1 (.t 179) (.t 178)⟩])
  (.seq (.drw [0, 1, 3, 7, 3, 19, 3, 67, 195, 451, 1011, 2047, 4095, 8191]
   [⟨(some 180), none, .mov (.t 11)⟩,
    ⟨(some 181), none, .mov (.t 180)⟩,
    ⟨(some 182), (some (181, true)), .load 9 true (.t 12)⟩,
    ⟨(some 183), (some (181, true)), .call 20 [(.t 182)]⟩,
    ⟨(some 184), (some (181, true)), .fadr 6 (.t 12)⟩,
    ⟨(some 185), (some (181, true)), .load 1 false (.t 184)⟩,
    ⟨(some 186), (some (181, true)), .mov (.t 3)⟩,
    ⟨(some 187), (some (181, true)), .bin .rem (.t 186) (.k (.d (.int .u8 101)))⟩,
    ⟨(some 188), (some (181, true)), .conv .i64 (.t 187)⟩,
    ⟨(some 189), (some (181, true)), .bin .add (.k (.d (.int .i64 1))) (.t 188)⟩,
    ⟨(some 190), (some (181, true)), .bin .mul (.t 185) (.t 189)⟩,
    ⟨(some 191), (some (181, true)), .bin .eql (.t 183) (.t 190)⟩,
    ⟨(some 192), none, .pick (.t 181) (.t 191) (.k (.d (.bool false)))⟩,
    ⟨(some 10), none, .mov (.t 192)⟩])
  .ret))))))))))))))))))
def rs7 : List RV := [.tmp 10]
theorem ok7 : okF Try.prog 7 = true := by kernel_rfl
theorem cc7 : cCode Try.prog Try.f7.ntmps (Try.f7.body.getD .skip) = some c7 := by kernel_rfl
theorem cr7 : cRess Try.prog Try.f7.results.toList = some rs7 := by kernel_rfl
theorem pure7 {args : List V} {res : V} (hlen : args.length ≤ 193) (hna : namesL args = []) (hnr : res.names = []) (h : ∀ c : Ctx, c.P = Try.prog → c.fn = [] → vcC c c7 ⟨initE 0 args, [], []⟩ (RetK c rs7 res [])) : Ctr Try.prog 7 args [] res [] [] :=
  ctr_pure Try.func7 ok7 rfl cc7 cr7 Try.ntmps7 hlen hna hnr h
theorem own7 {args : List V} {ins outs : List (Nat × Own)} {res : V} {new : List Nat} (hlen : args.length ≤ 193) (hf : ctrB args ins res outs new = true) (h : ∀ c : Ctx, c.P = Try.prog → c.fn = namesL args ++ ownNames ins → vcC c c7 ⟨initE 0 args, ins, namesL args ++ ownNames ins⟩ (RetK c rs7 res outs)) : Ctr Try.prog 7 args ins res outs new :=
  ctr_own Try.func7 ok7 rfl cc7 cr7 Try.ntmps7 hlen hf h

/-- bordereau/bordereaulaw23.QuotaRight -/
def c8 : C :=
  (.seq (.reg [⟨(some 2), none, .box 25 (.t 0)⟩,
    ⟨(some 3), none, .box 38 (.t 1)⟩,
    ⟨(some 4), none, .mov (.k (.d (.bool false)))⟩])
  (.seq (.drw [0, 1, 3, 7, 3, 31, 63, 127, 255, 511, 1023, 511, 4095, 8191, 16383, 32767, 65535, 65535, 262143, 65535, 65535, 2097151, 4194303, 8388607, 16777215]
   [⟨(some 5), none, .call 25 []⟩,
    ⟨(some 6), none, .mov (.t 5)⟩,
    ⟨(some 7), (some (6, true)), .load 9 true (.t 2)⟩,
    ⟨(some 8), (some (6, true)), .call 26 [(.t 7)]⟩,
    ⟨(some 9), (some (6, true)), .load 9 true (.t 2)⟩,
    ⟨(some 10), (some (6, true)), .call 27 [(.t 9)]⟩,
    ⟨(some 11), (some (6, true)), .beq false (.t 8) (.t 10)⟩,
    ⟨(some 12), none, .pick (.t 6) (.t 11) (.k (.d (.bool false)))⟩,
    ⟨(some 13), none, .mov (.t 12)⟩,
    ⟨(some 14), (some (13, true)), .load 5 true (.t 3)⟩,
    ⟨(some 15), (some (13, true)), .call 28 [(.t 14)]⟩,
    ⟨(some 16), (some (13, true)), .load 5 true (.t 3)⟩,
    ⟨(some 17), (some (13, true)), .call 29 [(.t 16)]⟩,
    ⟨(some 18), (some (13, true)), .beq false (.t 15) (.t 17)⟩,
    ⟨(some 19), none, .pick (.t 13) (.t 18) (.k (.d (.bool false)))⟩,
    ⟨(some 20), none, .mov (.t 19)⟩,
    ⟨(some 21), (some (20, true)), .load 9 true (.t 2)⟩,
    ⟨(some 22), (some (20, true)), .load 5 true (.t 3)⟩,
    ⟨(some 23), (some (20, true)), .call 23 [(.t 21), (.t 22)]⟩,
    ⟨(some 24), (some (20, true)), .load 9 true (.t 2)⟩,
    ⟨(some 25), (some (20, true)), .load 5 true (.t 3)⟩,
    ⟨(some 26), (some (20, true)), .call 30 [(.t 24), (.t 25)]⟩,
    ⟨(some 27), (some (20, true)), .beq false (.t 23) (.t 26)⟩,
    ⟨(some 28), none, .pick (.t 20) (.t 27) (.k (.d (.bool false)))⟩,
    ⟨(some 4), none, .mov (.t 28)⟩])
  .ret))
def rs8 : List RV := [.tmp 4]
theorem ok8 : okF Try.prog 8 = true := by kernel_rfl
theorem cc8 : cCode Try.prog Try.f8.ntmps (Try.f8.body.getD .skip) = some c8 := by kernel_rfl
theorem cr8 : cRess Try.prog Try.f8.results.toList = some rs8 := by kernel_rfl
theorem pure8 {args : List V} {res : V} (hlen : args.length ≤ 29) (hna : namesL args = []) (hnr : res.names = []) (h : ∀ c : Ctx, c.P = Try.prog → c.fn = [] → vcC c c8 ⟨initE 0 args, [], []⟩ (RetK c rs8 res [])) : Ctr Try.prog 8 args [] res [] [] :=
  ctr_pure Try.func8 ok8 rfl cc8 cr8 Try.ntmps8 hlen hna hnr h
theorem own8 {args : List V} {ins outs : List (Nat × Own)} {res : V} {new : List Nat} (hlen : args.length ≤ 29) (hf : ctrB args ins res outs new = true) (h : ∀ c : Ctx, c.P = Try.prog → c.fn = namesL args ++ ownNames ins → vcC c c8 ⟨initE 0 args, ins, namesL args ++ ownNames ins⟩ (RetK c rs8 res outs)) : Ctr Try.prog 8 args ins res outs new :=
  ctr_own Try.func8 ok8 rfl cc8 cr8 Try.ntmps8 hlen hf h

/-- bordereau/bordereaulaw23.QuotaBears -/
def c9 : C :=
  (.seq (.reg [⟨(some 2), none, .box 25 (.t 0)⟩,
    ⟨(some 3), none, .box 38 (.t 1)⟩,
    ⟨(some 4), none, .mov (.k (.d (.bool false)))⟩])
  (.seq (.reg [⟨(some 10), none, .load 9 true (.t 2)⟩,
    ⟨(some 11), none, .load 5 true (.t 3)⟩,
    ⟨(some 12), none, .call 31 [(.t 10), (.t 11)]⟩,
    ⟨(some 9), none, .mov (.t 12)⟩,
    ⟨(some 13), none, .ext 0 (.t 9)⟩,
    ⟨(some 14), none, .ext 1 (.t 9)⟩,
    ⟨(some 5), none, .mov (.t 13)⟩,
    ⟨(some 6), none, .mov (.t 14)⟩])
  (.seq (.reg [⟨(some 16), none, .load 9 true (.t 2)⟩,
    ⟨(some 17), none, .load 5 true (.t 3)⟩,
    ⟨(some 18), none, .call 32 [(.t 16), (.t 17)]⟩,
    ⟨(some 15), none, .mov (.t 18)⟩,
    ⟨(some 19), none, .ext 0 (.t 15)⟩,
    ⟨(some 20), none, .ext 1 (.t 15)⟩,
    ⟨(some 7), none, .mov (.t 19)⟩,
    ⟨(some 8), none, .mov (.t 20)⟩])
  (.seq (.reg [⟨(some 21), none, .call 25 []⟩,
    ⟨(some 22), none, .mov (.t 21)⟩,
    ⟨(some 23), (some (22, true)), .mov (.t 5)⟩,
    ⟨(some 24), (some (22, true)), .mov (.t 7)⟩,
    ⟨(some 25), (some (22, true)), .bin .eql (.t 23) (.t 24)⟩,
    ⟨(some 26), none, .pick (.t 22) (.t 25) (.k (.d (.bool false)))⟩,
    ⟨(some 27), none, .mov (.t 26)⟩,
    ⟨(some 28), (some (27, true)), .mov (.t 6)⟩,
    ⟨(some 29), (some (27, true)), .mov (.t 8)⟩,
    ⟨(some 30), (some (27, true)), .beq false (.t 28) (.t 29)⟩,
    ⟨(some 31), none, .pick (.t 27) (.t 30) (.k (.d (.bool false)))⟩,
    ⟨(some 4), none, .mov (.t 31)⟩])
  .ret))))
def rs9 : List RV := [.tmp 4]
theorem ok9 : okF Try.prog 9 = true := by kernel_rfl
theorem cc9 : cCode Try.prog Try.f9.ntmps (Try.f9.body.getD .skip) = some c9 := by kernel_rfl
theorem cr9 : cRess Try.prog Try.f9.results.toList = some rs9 := by kernel_rfl
theorem pure9 {args : List V} {res : V} (hlen : args.length ≤ 32) (hna : namesL args = []) (hnr : res.names = []) (h : ∀ c : Ctx, c.P = Try.prog → c.fn = [] → vcC c c9 ⟨initE 0 args, [], []⟩ (RetK c rs9 res [])) : Ctr Try.prog 9 args [] res [] [] :=
  ctr_pure Try.func9 ok9 rfl cc9 cr9 Try.ntmps9 hlen hna hnr h
theorem own9 {args : List V} {ins outs : List (Nat × Own)} {res : V} {new : List Nat} (hlen : args.length ≤ 32) (hf : ctrB args ins res outs new = true) (h : ∀ c : Ctx, c.P = Try.prog → c.fn = namesL args ++ ownNames ins → vcC c c9 ⟨initE 0 args, ins, namesL args ++ ownNames ins⟩ (RetK c rs9 res outs)) : Ctr Try.prog 9 args ins res outs new :=
  ctr_own Try.func9 ok9 rfl cc9 cr9 Try.ntmps9 hlen hf h

/-- bordereau/bordereaulaw23.QuotaNet -/
def c10 : C :=
  (.seq (.reg [⟨(some 3), none, .box 38 (.t 1)⟩,
    ⟨(some 4), none, .mov (.k (.d (.bool false)))⟩])
  (.seq (.seq (.reg [⟨(some 9), none, .mov (.t 0)⟩,
    ⟨(some 10), none, .len (.t 9)⟩,
    ⟨(some 11), none, .bin .gtr (.t 10) (.k (.d (.int .i64 100)))⟩])
  (.cond (.t 11) (.seq (.reg [⟨(some 12), none, .call 25 []⟩,
      ⟨(some 4), none, .mov (.t 12)⟩])
    .ret)
  .skip))
  (.seq (.reg [⟨(some 14), none, .mov (.t 0)⟩,
    ⟨(some 15), none, .load 5 true (.t 3)⟩,
    ⟨(some 16), none, .call 33 [(.t 14), (.t 15)]⟩,
    ⟨(some 13), none, .mov (.t 16)⟩,
    ⟨(some 17), none, .ext 0 (.t 13)⟩,
    ⟨(some 18), none, .ext 1 (.t 13)⟩,
    ⟨(some 5), none, .mov (.t 17)⟩,
    ⟨(some 6), none, .mov (.t 18)⟩])
  (.seq (.reg [⟨(some 20), none, .mov (.t 0)⟩,
    ⟨(some 21), none, .load 5 true (.t 3)⟩,
    ⟨(some 22), none, .call 34 [(.t 20), (.t 21)]⟩,
    ⟨(some 19), none, .mov (.t 22)⟩,
    ⟨(some 23), none, .ext 0 (.t 19)⟩,
    ⟨(some 24), none, .ext 1 (.t 19)⟩,
    ⟨(some 7), none, .mov (.t 23)⟩,
    ⟨(some 8), none, .mov (.t 24)⟩])
  (.seq (.reg [⟨(some 25), none, .call 25 []⟩,
    ⟨(some 26), none, .mov (.t 25)⟩,
    ⟨(some 27), (some (26, true)), .mov (.t 5)⟩,
    ⟨(some 28), (some (26, true)), .mov (.t 7)⟩,
    ⟨(some 29), (some (26, true)), .bin .eql (.t 27) (.t 28)⟩,
    ⟨(some 30), none, .pick (.t 26) (.t 29) (.k (.d (.bool false)))⟩,
    ⟨(some 31), none, .mov (.t 30)⟩,
    ⟨(some 32), (some (31, true)), .mov (.t 6)⟩,
    ⟨(some 33), (some (31, true)), .mov (.t 8)⟩,
    ⟨(some 34), (some (31, true)), .bin .eql (.t 32) (.t 33)⟩,
    ⟨(some 35), none, .pick (.t 31) (.t 34) (.k (.d (.bool false)))⟩,
    ⟨(some 4), none, .mov (.t 35)⟩])
  .ret)))))
def rs10 : List RV := [.tmp 4]
theorem ok10 : okF Try.prog 10 = true := by kernel_rfl
theorem cc10 : cCode Try.prog Try.f10.ntmps (Try.f10.body.getD .skip) = some c10 := by kernel_rfl
theorem cr10 : cRess Try.prog Try.f10.results.toList = some rs10 := by kernel_rfl
theorem pure10 {args : List V} {res : V} (hlen : args.length ≤ 36) (hna : namesL args = []) (hnr : res.names = []) (h : ∀ c : Ctx, c.P = Try.prog → c.fn = [] → vcC c c10 ⟨initE 0 args, [], []⟩ (RetK c rs10 res [])) : Ctr Try.prog 10 args [] res [] [] :=
  ctr_pure Try.func10 ok10 rfl cc10 cr10 Try.ntmps10 hlen hna hnr h
theorem own10 {args : List V} {ins outs : List (Nat × Own)} {res : V} {new : List Nat} (hlen : args.length ≤ 36) (hf : ctrB args ins res outs new = true) (h : ∀ c : Ctx, c.P = Try.prog → c.fn = namesL args ++ ownNames ins → vcC c c10 ⟨initE 0 args, ins, namesL args ++ ownNames ins⟩ (RetK c rs10 res outs)) : Ctr Try.prog 10 args ins res outs new :=
  ctr_own Try.func10 ok10 rfl cc10 cr10 Try.ntmps10 hlen hf h

/-- bordereau/bordereaulaw23.QuotaMost -/
def c11 : C :=
  (.seq (.reg [⟨(some 2), none, .box 25 (.t 0)⟩,
    ⟨(some 3), none, .box 38 (.t 1)⟩,
    ⟨(some 4), none, .mov (.k (.d (.bool false)))⟩])
  (.seq (.reg [⟨(some 11), none, .load 9 true (.t 2)⟩,
    ⟨(some 12), none, .load 5 true (.t 3)⟩,
    ⟨(some 13), none, .call 31 [(.t 11), (.t 12)]⟩,
    ⟨(some 10), none, .mov (.t 13)⟩,
    ⟨(some 14), none, .ext 0 (.t 10)⟩,
    ⟨(some 15), none, .ext 1 (.t 10)⟩,
    ⟨(some 5), none, .mov (.t 14)⟩,
    ⟨(some 6), none, .mov (.t 15)⟩])
  (.seq (.seq (.reg [⟨(some 16), none, .mov (.t 6)⟩,
    ⟨(some 17), none, .inv .not (.t 16)⟩])
  (.cond (.t 17) (.seq (.reg [⟨(some 18), none, .call 25 []⟩,
      ⟨(some 19), none, .mov (.t 18)⟩,
      ⟨(some 20), (some (19, true)), .mov (.t 5)⟩,
      ⟨(some 21), (some (19, true)), .bin .eql (.t 20) (.k (.d (.int .i64 0)))⟩,
      ⟨(some 22), none, .pick (.t 19) (.t 21) (.k (.d (.bool false)))⟩,
      ⟨(some 4), none, .mov (.t 22)⟩])
    .ret)
  .skip))
  (.seq (.reg [⟨(some 23), none, .load 9 true (.t 2)⟩,
    ⟨(some 7), none, .alloc 25 [.d (.int .i64 0), .d (.int .i64 0), .d (.int .i64 0), .d (.int .i64 0), .d (.int .i64 0), .d (.int .i64 0), .d (.int .i64 0), .d (.int .i64 0), .d (.int .i64 0)]⟩,
    ⟨none, none, .store 9 (.t 7) (.t 23)⟩])
  (.seq (.reg [⟨(some 24), none, .fadr 4 (.t 7)⟩,
    ⟨none, none, .store 1 (.t 24) (.k (.d (.int .i64 10000)))⟩])
  (.seq (.reg [⟨(some 26), none, .load 9 true (.t 7)⟩,
    ⟨(some 27), none, .load 5 true (.t 3)⟩,
    ⟨(some 28), none, .call 31 [(.t 26), (.t 27)]⟩,
    ⟨(some 25), none, .mov (.t 28)⟩,
    ⟨(some 29), none, .ext 0 (.t 25)⟩,
    ⟨(some 30), none, .ext 1 (.t 25)⟩,
    ⟨(some 8), none, .mov (.t 29)⟩,
    ⟨(some 9), none, .mov (.t 30)⟩])
  (.seq (.reg [⟨(some 31), none, .call 25 []⟩,
    ⟨(some 32), none, .mov (.t 31)⟩,
    ⟨(some 33), (some (32, true)), .mov (.t 5)⟩,
    ⟨(some 34), (some (32, true)), .bin .geq (.t 33) (.k (.d (.int .i64 0)))⟩,
    ⟨(some 35), none, .pick (.t 32) (.t 34) (.k (.d (.bool false)))⟩,
    ⟨(some 36), none, .mov (.t 35)⟩,
    ⟨(some 37), (some (36, true)), .mov (.t 5)⟩,
    ⟨(some 38), (some (36, true)), .fadr 4 (.t 3)⟩,
    ⟨(some 39), (some (36, true)), .load 1 false (.t 38)⟩,
    ⟨(some 40), (some (36, true)), .bin .leq (.t 37) (.t 39)⟩,
    ⟨(some 41), none, .pick (.t 36) (.t 40) (.k (.d (.bool false)))⟩,
    ⟨(some 42), none, .mov (.t 41)⟩,
    ⟨(some 43), (some (42, true)), .mov (.t 9)⟩,
    ⟨(some 44), none, .pick (.t 42) (.t 43) (.k (.d (.bool false)))⟩,
    ⟨(some 45), none, .mov (.t 44)⟩,
    ⟨(some 46), (some (45, true)), .mov (.t 8)⟩,
    ⟨(some 47), (some (45, true)), .fadr 4 (.t 3)⟩,
    ⟨(some 48), (some (45, true)), .load 1 false (.t 47)⟩,
    ⟨(some 49), (some (45, true)), .bin .eql (.t 46) (.t 48)⟩,
    ⟨(some 50), none, .pick (.t 45) (.t 49) (.k (.d (.bool false)))⟩,
    ⟨(some 4), none, .mov (.t 50)⟩])
  .ret)))))))
def rs11 : List RV := [.tmp 4]
theorem ok11 : okF Try.prog 11 = true := by kernel_rfl
theorem cc11 : cCode Try.prog Try.f11.ntmps (Try.f11.body.getD .skip) = some c11 := by kernel_rfl
theorem cr11 : cRess Try.prog Try.f11.results.toList = some rs11 := by kernel_rfl
theorem pure11 {args : List V} {res : V} (hlen : args.length ≤ 51) (hna : namesL args = []) (hnr : res.names = []) (h : ∀ c : Ctx, c.P = Try.prog → c.fn = [] → vcC c c11 ⟨initE 0 args, [], []⟩ (RetK c rs11 res [])) : Ctr Try.prog 11 args [] res [] [] :=
  ctr_pure Try.func11 ok11 rfl cc11 cr11 Try.ntmps11 hlen hna hnr h
theorem own11 {args : List V} {ins outs : List (Nat × Own)} {res : V} {new : List Nat} (hlen : args.length ≤ 51) (hf : ctrB args ins res outs new = true) (h : ∀ c : Ctx, c.P = Try.prog → c.fn = namesL args ++ ownNames ins → vcC c c11 ⟨initE 0 args, ins, namesL args ++ ownNames ins⟩ (RetK c rs11 res outs)) : Ctr Try.prog 11 args ins res outs new :=
  ctr_own Try.func11 ok11 rfl cc11 cr11 Try.ntmps11 hlen hf h

/-- bordereau/bordereaulaw23.QuotaMore -/
def c12 : C :=
  (.seq (.reg [⟨(some 3), none, .box 25 (.t 0)⟩,
    ⟨(some 4), none, .box 38 (.t 1)⟩,
    ⟨(some 5), none, .box 55 (.t 2)⟩,
    ⟨(some 6), none, .mov (.k (.d (.bool false)))⟩])
  (.seq (.reg [⟨(some 16), none, .load 9 true (.t 3)⟩,
    ⟨(some 17), none, .load 5 true (.t 4)⟩,
    ⟨(some 18), none, .call 31 [(.t 16), (.t 17)]⟩,
    ⟨(some 15), none, .mov (.t 18)⟩,
    ⟨(some 19), none, .ext 0 (.t 15)⟩,
    ⟨(some 20), none, .ext 1 (.t 15)⟩,
    ⟨(some 7), none, .mov (.t 19)⟩,
    ⟨(some 8), none, .mov (.t 20)⟩])
  (.seq (.drw [0, 0, 0, 0, 13, 31]
   [⟨(some 21), none, .load 5 true (.t 4)⟩,
    ⟨(some 22), none, .load 9 true (.t 3)⟩,
    ⟨(some 9), none, .alloc 38 [.d (.int .i64 0), .d (.int .i64 0), .d (.int .i64 0), .d (.int .i64 0), .d (.int .i64 0)]⟩,
    ⟨(some 10), none, .alloc 25 [.d (.int .i64 0), .d (.int .i64 0), .d (.int .i64 0), .d (.int .i64 0), .d (.int .i64 0), .d (.int .i64 0), .d (.int .i64 0), .d (.int .i64 0), .d (.int .i64 0)]⟩,
    ⟨none, none, .store 5 (.t 9) (.t 21)⟩,
    ⟨none, none, .store 9 (.t 10) (.t 22)⟩])
  (.seq (.drw [0, 1, 0, 4, 15, 0, 32, 0, 128, 480, 31, 1055, 4095, 8191]
   [⟨(some 23), none, .fadr 4 (.t 4)⟩,
    ⟨(some 24), none, .load 1 false (.t 23)⟩,
    ⟨(some 25), none, .aadr 1 2 (.t 5) (.k (.d (.int .i64 0)))⟩,
    ⟨(some 26), none, .load 1 false (.t 25)⟩,
    ⟨(some 27), none, .mm true (.t 24) (.t 26)⟩,
    ⟨(some 28), none, .fadr 4 (.t 3)⟩,
    ⟨(some 29), none, .load 1 false (.t 28)⟩,
    ⟨(some 30), none, .aadr 1 2 (.t 5) (.k (.d (.int .i64 1)))⟩,
    ⟨(some 31), none, .load 1 false (.t 30)⟩,
    ⟨(some 32), none, .mm true (.t 29) (.t 31)⟩,
    ⟨(some 33), none, .fadr 4 (.t 9)⟩,
    ⟨none, none, .store 1 (.t 33) (.t 27)⟩,
    ⟨(some 34), none, .fadr 4 (.t 10)⟩,
    ⟨none, none, .store 1 (.t 34) (.t 32)⟩])
  (.seq (.reg [⟨(some 36), none, .load 9 true (.t 3)⟩,
    ⟨(some 37), none, .load 5 true (.t 9)⟩,
    ⟨(some 38), none, .call 31 [(.t 36), (.t 37)]⟩,
    ⟨(some 35), none, .mov (.t 38)⟩,
    ⟨(some 39), none, .ext 0 (.t 35)⟩,
    ⟨(some 40), none, .ext 1 (.t 35)⟩,
    ⟨(some 11), none, .mov (.t 39)⟩,
    ⟨(some 12), none, .mov (.t 40)⟩])
  (.seq (.reg [⟨(some 42), none, .load 9 true (.t 10)⟩,
    ⟨(some 43), none, .load 5 true (.t 4)⟩,
    ⟨(some 44), none, .call 31 [(.t 42), (.t 43)]⟩,
    ⟨(some 41), none, .mov (.t 44)⟩,
    ⟨(some 45), none, .ext 0 (.t 41)⟩,
    ⟨(some 46), none, .ext 1 (.t 41)⟩,
    ⟨(some 13), none, .mov (.t 45)⟩,
    ⟨(some 14), none, .mov (.t 46)⟩])
  (.seq (.reg [⟨(some 47), none, .call 25 []⟩,
    ⟨(some 48), none, .mov (.t 47)⟩,
    ⟨(some 49), (some (48, true)), .mov (.t 8)⟩,
    ⟨(some 50), (some (48, true)), .inv .not (.t 49)⟩,
    ⟨(some 51), (some (48, true)), .mov (.t 50)⟩,
    ⟨(some 52), (some (51, false)), .mov (.t 12)⟩,
    ⟨(some 53), (some (51, false)), .inv .not (.t 52)⟩,
    ⟨(some 54), (some (48, true)), .pick (.t 51) (.k (.d (.bool true))) (.t 53)⟩,
    ⟨(some 55), (some (48, true)), .mov (.t 54)⟩,
    ⟨(some 56), (some (55, false)), .mov (.t 11)⟩,
    ⟨(some 57), (some (55, false)), .mov (.t 7)⟩,
    ⟨(some 58), (some (55, false)), .bin .geq (.t 56) (.t 57)⟩,
    ⟨(some 59), (some (48, true)), .pick (.t 55) (.k (.d (.bool true))) (.t 58)⟩,
    ⟨(some 60), none, .pick (.t 48) (.t 59) (.k (.d (.bool false)))⟩,
    ⟨(some 61), none, .mov (.t 60)⟩,
    ⟨(some 62), (some (61, true)), .mov (.t 8)⟩,
    ⟨(some 63), (some (61, true)), .inv .not (.t 62)⟩,
    ⟨(some 64), (some (61, true)), .mov (.t 63)⟩,
    ⟨(some 65), (some (64, false)), .mov (.t 14)⟩,
    ⟨(some 66), (some (64, false)), .inv .not (.t 65)⟩,
    ⟨(some 67), (some (61, true)), .pick (.t 64) (.k (.d (.bool true))) (.t 66)⟩,
    ⟨(some 68), (some (61, true)), .mov (.t 67)⟩,
    ⟨(some 69), (some (68, false)), .mov (.t 13)⟩,
    ⟨(some 70), (some (68, false)), .mov (.t 7)⟩,
    ⟨(some 71), (some (68, false)), .bin .geq (.t 69) (.t 70)⟩,
    ⟨(some 72), (some (61, true)), .pick (.t 68) (.k (.d (.bool true))) (.t 71)⟩,
    ⟨(some 73), none, .pick (.t 61) (.t 72) (.k (.d (.bool false)))⟩,
    ⟨(some 6), none, .mov (.t 73)⟩])
  .ret)))))))
def rs12 : List RV := [.tmp 6]
theorem ok12 : okF Try.prog 12 = true := by kernel_rfl
theorem cc12 : cCode Try.prog Try.f12.ntmps (Try.f12.body.getD .skip) = some c12 := by kernel_rfl
theorem cr12 : cRess Try.prog Try.f12.results.toList = some rs12 := by kernel_rfl
theorem pure12 {args : List V} {res : V} (hlen : args.length ≤ 74) (hna : namesL args = []) (hnr : res.names = []) (h : ∀ c : Ctx, c.P = Try.prog → c.fn = [] → vcC c c12 ⟨initE 0 args, [], []⟩ (RetK c rs12 res [])) : Ctr Try.prog 12 args [] res [] [] :=
  ctr_pure Try.func12 ok12 rfl cc12 cr12 Try.ntmps12 hlen hna hnr h
theorem own12 {args : List V} {ins outs : List (Nat × Own)} {res : V} {new : List Nat} (hlen : args.length ≤ 74) (hf : ctrB args ins res outs new = true) (h : ∀ c : Ctx, c.P = Try.prog → c.fn = namesL args ++ ownNames ins → vcC c c12 ⟨initE 0 args, ins, namesL args ++ ownNames ins⟩ (RetK c rs12 res outs)) : Ctr Try.prog 12 args ins res outs new :=
  ctr_own Try.func12 ok12 rfl cc12 cr12 Try.ntmps12 hlen hf h

/-- bordereau/bordereaulaw23.QuotaSums -/
def c13 : C :=
  (.seq (.reg [⟨(some 3), none, .box 38 (.t 1)⟩,
    ⟨(some 4), none, .mov (.k (.d (.bool false)))⟩])
  (.seq (.seq (.reg [⟨(some 13), none, .mov (.t 0)⟩,
    ⟨(some 14), none, .len (.t 13)⟩,
    ⟨(some 15), none, .bin .gtr (.t 14) (.k (.d (.int .i64 100)))⟩])
  (.cond (.t 15) (.seq (.reg [⟨(some 16), none, .call 25 []⟩,
      ⟨(some 4), none, .mov (.t 16)⟩])
    .ret)
  .skip))
  (.seq (.reg [⟨(some 18), none, .mov (.t 0)⟩,
    ⟨(some 19), none, .load 5 true (.t 3)⟩,
    ⟨(some 20), none, .call 33 [(.t 18), (.t 19)]⟩,
    ⟨(some 17), none, .mov (.t 20)⟩,
    ⟨(some 21), none, .ext 0 (.t 17)⟩,
    ⟨(some 22), none, .ext 1 (.t 17)⟩,
    ⟨(some 5), none, .mov (.t 21)⟩,
    ⟨(some 6), none, .mov (.t 22)⟩])
  (.seq (.seq (.reg [⟨(some 23), none, .mov (.t 6)⟩,
    ⟨(some 24), none, .bin .neq (.t 23) (.k (.d (.int .i64 0)))⟩])
  (.cond (.t 24) (.seq (.reg [⟨(some 25), none, .call 25 []⟩,
      ⟨(some 26), none, .mov (.t 25)⟩,
      ⟨(some 27), (some (26, true)), .mov (.t 5)⟩,
      ⟨(some 28), (some (26, true)), .bin .eql (.t 27) (.k (.d (.int .i64 0)))⟩,
      ⟨(some 29), none, .pick (.t 26) (.t 28) (.k (.d (.bool false)))⟩,
      ⟨(some 4), none, .mov (.t 29)⟩])
    .ret)
  .skip))
  (.seq (.reg [⟨(some 30), none, .mov (.t 5)⟩,
    ⟨(some 7), none, .mov (.t 30)⟩,
    ⟨(some 8), none, .mov (.k (.d (.int .i64 0)))⟩])
  (.seq (.seq (.reg [⟨(some 31), none, .mov (.t 0)⟩,
    ⟨(some 32), none, .len (.t 31)⟩,
    ⟨(some 33), none, .mov (.k (.d (.int .i64 0)))⟩])
  (.block 0 (.loop (.seq (.reg [⟨(some 34), none, .bin .lss (.t 33) (.t 32)⟩])
      (.seq (.cond (.t 34) .skip
      (.exit 0))
      (.seq (.block 1 (.seq (.reg [⟨(some 35), none, .iadr 9 (.t 31) (.t 33)⟩,
          ⟨(some 36), none, .load 9 true (.t 35)⟩,
          ⟨(some 10), none, .alloc 25 [.d (.int .i64 0), .d (.int .i64 0), .d (.int .i64 0), .d (.int .i64 0), .d (.int .i64 0), .d (.int .i64 0), .d (.int .i64 0), .d (.int .i64 0), .d (.int .i64 0)]⟩,
          ⟨none, none, .store 9 (.t 10) (.t 36)⟩])
        (.seq (.reg [⟨(some 38), none, .load 9 true (.t 10)⟩,
          ⟨(some 39), none, .load 5 true (.t 3)⟩,
          ⟨(some 40), none, .call 31 [(.t 38), (.t 39)]⟩,
          ⟨(some 37), none, .mov (.t 40)⟩,
          ⟨(some 41), none, .ext 0 (.t 37)⟩,
          ⟨(some 42), none, .ext 1 (.t 37)⟩,
          ⟨(some 11), none, .mov (.t 41)⟩,
          ⟨(some 12), none, .mov (.t 42)⟩])
        (.seq (.reg [⟨(some 43), none, .mov (.t 12)⟩])
        (.cond (.t 43) (.seq (.reg [⟨(some 44), none, .mov (.t 7)⟩,
            ⟨(some 45), none, .mov (.t 11)⟩,
            ⟨(some 46), none, .bin .add (.t 44) (.t 45)⟩,
            ⟨(some 7), none, .mov (.t 46)⟩])
          (.reg [⟨(some 47), none, .mov (.t 8)⟩,
            ⟨(some 48), none, .bin .add (.t 47) (.k (.d (.int .i64 1)))⟩,
            ⟨(some 8), none, .mov (.t 48)⟩]))
        .skip)))))
      (.reg [⟨(some 49), none, .bin .add (.t 33) (.k (.d (.int .i64 1)))⟩,
        ⟨(some 33), none, .mov (.t 49)⟩])))))))
  (.seq (.reg [⟨(some 50), none, .call 25 []⟩,
    ⟨(some 51), none, .mov (.t 50)⟩,
    ⟨(some 52), (some (51, true)), .mov (.t 5)⟩,
    ⟨(some 53), (some (51, true)), .bin .geq (.t 52) (.k (.d (.int .i64 0)))⟩,
    ⟨(some 54), none, .pick (.t 51) (.t 53) (.k (.d (.bool false)))⟩,
    ⟨(some 55), none, .mov (.t 54)⟩,
    ⟨(some 56), (some (55, true)), .mov (.t 7)⟩,
    ⟨(some 57), (some (55, true)), .fadr 4 (.t 3)⟩,
    ⟨(some 58), (some (55, true)), .load 1 false (.t 57)⟩,
    ⟨(some 59), (some (55, true)), .bin .eql (.t 56) (.t 58)⟩,
    ⟨(some 60), (some (55, true)), .mov (.t 59)⟩,
    ⟨(some 61), (some (60, false)), .mov (.t 5)⟩,
    ⟨(some 62), (some (60, false)), .bin .eql (.t 61) (.k (.d (.int .i64 0)))⟩,
    ⟨(some 63), (some (60, false)), .mov (.t 62)⟩,
    ⟨(some 64), (some (63, true)), .mov (.t 7)⟩,
    ⟨(some 65), (some (63, true)), .fadr 4 (.t 3)⟩,
    ⟨(some 66), (some (63, true)), .load 1 false (.t 65)⟩,
    ⟨(some 67), (some (63, true)), .bin .gtr (.t 64) (.t 66)⟩,
    ⟨(some 68), (some (60, false)), .pick (.t 63) (.t 67) (.k (.d (.bool false)))⟩,
    ⟨(some 69), (some (60, false)), .mov (.t 68)⟩,
    ⟨(some 70), (some (69, true)), .mov (.t 7)⟩,
    ⟨(some 71), (some (69, true)), .fadr 4 (.t 3)⟩,
    ⟨(some 72), (some (69, true)), .load 1 false (.t 71)⟩,
    ⟨(some 73), (some (69, true)), .mov (.t 8)⟩,
    ⟨(some 74), (some (69, true)), .bin .add (.t 72) (.t 73)⟩,
    ⟨(some 75), (some (69, true)), .bin .leq (.t 70) (.t 74)⟩,
    ⟨(some 76), (some (60, false)), .pick (.t 69) (.t 75) (.k (.d (.bool false)))⟩,
    ⟨(some 77), (some (55, true)), .pick (.t 60) (.k (.d (.bool true))) (.t 76)⟩,
    ⟨(some 78), none, .pick (.t 55) (.t 77) (.k (.d (.bool false)))⟩,
    ⟨(some 4), none, .mov (.t 78)⟩])
  .ret)))))))
def rs13 : List RV := [.tmp 4]
theorem ok13 : okF Try.prog 13 = true := by kernel_rfl
theorem cc13 : cCode Try.prog Try.f13.ntmps (Try.f13.body.getD .skip) = some c13 := by kernel_rfl
theorem cr13 : cRess Try.prog Try.f13.results.toList = some rs13 := by kernel_rfl
theorem pure13 {args : List V} {res : V} (hlen : args.length ≤ 79) (hna : namesL args = []) (hnr : res.names = []) (h : ∀ c : Ctx, c.P = Try.prog → c.fn = [] → vcC c c13 ⟨initE 0 args, [], []⟩ (RetK c rs13 res [])) : Ctr Try.prog 13 args [] res [] [] :=
  ctr_pure Try.func13 ok13 rfl cc13 cr13 Try.ntmps13 hlen hna hnr h
theorem own13 {args : List V} {ins outs : List (Nat × Own)} {res : V} {new : List Nat} (hlen : args.length ≤ 79) (hf : ctrB args ins res outs new = true) (h : ∀ c : Ctx, c.P = Try.prog → c.fn = namesL args ++ ownNames ins → vcC c c13 ⟨initE 0 args, ins, namesL args ++ ownNames ins⟩ (RetK c rs13 res outs)) : Ctr Try.prog 13 args ins res outs new :=
  ctr_own Try.func13 ok13 rfl cc13 cr13 Try.ntmps13 hlen hf h

/-- bordereau/bordereaulaw24.awake -/
def c14 : C :=
  (.seq (.reg [⟨(some 0), none, .mov (.k (.d (.bool false)))⟩])
  (.seq (.reg [⟨(some 4), none, .build [.d (.int .i64 0), .d (.int .i64 0)] [(0, 1, (.k (.d (.int .i64 1)))), (1, 1, (.k (.d (.int .i64 2))))]⟩,
    ⟨(some 5), none, .build [.d (.int .i64 0), .d (.int .i64 0), .d (.int .i64 0), .d (.int .i64 0), .d (.int .i64 0), .d (.int .i64 0), .d (.int .i64 0), .d (.int .i64 0), .d (.int .i64 0)] [(0, 1, (.k (.d (.int .i64 1)))), (1, 1, (.k (.d (.int .i64 2)))), (2, 2, (.t 4)), (5, 1, (.k (.d (.int .i64 100)))), (6, 1, (.k (.d (.int .i64 50)))), (7, 1, (.k (.d (.int .i64 1)))), (8, 1, (.k (.d (.int .i64 1))))]⟩,
    ⟨(some 1), none, .alloc 25 [.d (.int .i64 0), .d (.int .i64 0), .d (.int .i64 0), .d (.int .i64 0), .d (.int .i64 0), .d (.int .i64 0), .d (.int .i64 0), .d (.int .i64 0), .d (.int .i64 0)]⟩,
    ⟨none, none, .store 9 (.t 1) (.t 5)⟩])
  (.seq (.drw [0, 0, 2, 6, 14, 30, 63, 127, 255, 255, 511, 2047]
   [⟨(some 7), none, .load 9 true (.t 1)⟩,
    ⟨(some 8), none, .call 24 [(.k (.d (.int .i64 120)))]⟩,
    ⟨(some 9), none, .call 24 [(.k (.d (.int .i64 500)))]⟩,
    ⟨(some 10), none, .call 24 [(.k (.d (.int .i64 180)))]⟩,
    ⟨(some 11), none, .call 24 [(.k (.d (.int .i64 200)))]⟩,
    ⟨(some 12), none, .bslice 38 5 4 [(.t 8), (.t 9), (.t 10), (.t 11)]⟩,
    ⟨(some 13), none, .call 15 [(.t 7), (.t 12)]⟩,
    ⟨(some 6), none, .mov (.t 13)⟩,
    ⟨(some 14), none, .ext 0 (.t 6)⟩,
    ⟨(some 15), none, .ext 1 (.t 6)⟩,
    ⟨(some 2), none, .mov (.t 14)⟩,
    ⟨(some 3), none, .mov (.t 15)⟩])
  (.seq (.reg [⟨(some 16), none, .mov (.t 3)⟩,
    ⟨(some 17), none, .bin .eql (.t 16) (.k (.d (.int .i64 0)))⟩,
    ⟨(some 18), none, .mov (.t 17)⟩,
    ⟨(some 19), (some (18, true)), .mov (.t 2)⟩,
    ⟨(some 20), (some (18, true)), .bslice 3 1 4 [(.k (.d (.int .i64 20))), (.k (.d (.int .i64 50))), (.k (.d (.int .i64 30))), (.k (.d (.int .i64 0)))]⟩,
    ⟨(some 21), (some (18, true)), .call 17 [(.t 19), (.t 20)]⟩,
    ⟨(some 22), none, .pick (.t 18) (.t 21) (.k (.d (.bool false)))⟩,
    ⟨(some 23), none, .mov (.t 22)⟩,
    ⟨(some 24), (some (23, true)), .load 9 true (.t 1)⟩,
    ⟨(some 25), (some (23, true)), .call 18 [(.t 24), (.k (.d (.int .i64 120)))]⟩,
    ⟨(some 26), (some (23, true)), .bin .eql (.t 25) (.k (.d (.int .i64 20)))⟩,
    ⟨(some 27), none, .pick (.t 23) (.t 26) (.k (.d (.bool false)))⟩,
    ⟨(some 28), none, .mov (.t 27)⟩,
    ⟨(some 29), (some (28, true)), .load 9 true (.t 1)⟩,
    ⟨(some 30), (some (28, true)), .call 20 [(.t 29)]⟩,
    ⟨(some 31), (some (28, true)), .bin .eql (.t 30) (.k (.d (.int .i64 100)))⟩,
    ⟨(some 32), none, .pick (.t 28) (.t 31) (.k (.d (.bool false)))⟩,
    ⟨(some 0), none, .mov (.t 32)⟩])
  .ret))))
def rs14 : List RV := [.tmp 0]
theorem ok14 : okF Try.prog 14 = true := by kernel_rfl
theorem cc14 : cCode Try.prog Try.f14.ntmps (Try.f14.body.getD .skip) = some c14 := by kernel_rfl
theorem cr14 : cRess Try.prog Try.f14.results.toList = some rs14 := by kernel_rfl
theorem pure14 {args : List V} {res : V} (hlen : args.length ≤ 33) (hna : namesL args = []) (hnr : res.names = []) (h : ∀ c : Ctx, c.P = Try.prog → c.fn = [] → vcC c c14 ⟨initE 0 args, [], []⟩ (RetK c rs14 res [])) : Ctr Try.prog 14 args [] res [] [] :=
  ctr_pure Try.func14 ok14 rfl cc14 cr14 Try.ntmps14 hlen hna hnr h
theorem own14 {args : List V} {ins outs : List (Nat × Own)} {res : V} {new : List Nat} (hlen : args.length ≤ 33) (hf : ctrB args ins res outs new = true) (h : ∀ c : Ctx, c.P = Try.prog → c.fn = namesL args ++ ownNames ins → vcC c c14 ⟨initE 0 args, ins, namesL args ++ ownNames ins⟩ (RetK c rs14 res outs)) : Ctr Try.prog 14 args ins res outs new :=
  ctr_own Try.func14 ok14 rfl cc14 cr14 Try.ntmps14 hlen hf h

/-- bordereau/layer.Bears -/
def c15 : C :=
  (.seq (.reg [⟨(some 2), none, .box 25 (.t 0)⟩,
    ⟨(some 4), none, .mov (.k (.d (.sl true 0 0 fun _ => [])))⟩,
    ⟨(some 5), none, .mov (.k (.d (.int .i64 0)))⟩])
  (.seq (.reg [⟨(some 6), none, .mov (.k (.fn (.func 35) [] []))⟩])
  (.seq (.block 0 (.seq (.reg [⟨(some 12), none, .load 9 true (.t 2)⟩,
      ⟨(some 13), none, .call 26 [(.t 12)]⟩,
      ⟨(some 14), none, .inv .not (.t 13)⟩,
      ⟨(some 15), none, .mov (.t 14)⟩,
      ⟨(some 16), (some (15, false)), .fadr 1 (.t 2)⟩,
      ⟨(some 17), (some (15, false)), .load 1 false (.t 16)⟩,
      ⟨(some 18), (some (15, false)), .bin .neq (.t 17) (.k (.d (.int .i64 2)))⟩,
      ⟨(some 19), none, .pick (.t 15) (.k (.d (.bool true))) (.t 18)⟩,
      ⟨(some 20), none, .mov (.t 19)⟩,
      ⟨(some 21), (some (20, false)), .mov (.t 1)⟩,
      ⟨(some 22), (some (20, false)), .mov (.t 6)⟩,
      ⟨(some 23), (some (20, false)), .call 36 [(.t 21), (.t 22)]⟩,
      ⟨(some 24), none, .pick (.t 20) (.k (.d (.bool true))) (.t 23)⟩,
      ⟨(some 11), none, .mov (.t 24)⟩])
    (.cond (.t 11) (.seq (.reg [⟨(some 4), none, .mov (.k (.d (.sl true 0 0 fun _ => [])))⟩,
        ⟨(some 5), none, .mov (.k (.d (.int .i64 1)))⟩])
      .ret)
    (.seq (.reg [⟨(some 26), none, .mov (.t 1)⟩,
        ⟨(some 27), none, .len (.t 26)⟩,
        ⟨(some 28), none, .bin .gtr (.t 27) (.k (.d (.int .i64 2000)))⟩,
        ⟨(some 25), none, .mov (.t 28)⟩])
      (.cond (.t 25) (.seq (.reg [⟨(some 4), none, .mov (.k (.d (.sl true 0 0 fun _ => [])))⟩,
          ⟨(some 5), none, .mov (.k (.d (.int .i64 2)))⟩])
        .ret)
      .skip)))))
  (.seq (.reg [⟨(some 29), none, .mov (.t 1)⟩,
    ⟨(some 30), none, .len (.t 29)⟩,
    ⟨(some 31), none, .mks 3 1 8 [(.int .i64 0)] (.t 30) (.t 30)⟩,
    ⟨(some 7), none, .mov (.t 31)⟩])
  (.seq (.reg [⟨(some 32), none, .load 9 true (.t 2)⟩,
    ⟨(some 33), none, .call 20 [(.t 32)]⟩,
    ⟨(some 34), none, .build [.d (.int .i64 0)] [(0, 1, (.t 33))]⟩,
    ⟨(some 35), none, .box 61 (.t 34)⟩,
    ⟨(some 36), none, .mkfn (.func 37) [(.t 35)] []⟩,
    ⟨(some 8), none, .mov (.t 36)⟩])
  (.seq (.seq (.reg [⟨(some 37), none, .mov (.t 1)⟩,
    ⟨(some 38), none, .len (.t 37)⟩,
    ⟨(some 39), none, .mov (.k (.d (.int .i64 0)))⟩])
  (.block 1 (.loop (.seq (.reg [⟨(some 40), none, .bin .lss (.t 39) (.t 38)⟩])
      (.seq (.cond (.t 40) .skip
      (.exit 1))
      (.seq (.block 2 (.seq (.reg [⟨(some 41), none, .mov (.t 39)⟩,
          ⟨(some 42), none, .iadr 5 (.t 37) (.t 39)⟩,
          ⟨(some 43), none, .load 5 true (.t 42)⟩,
          ⟨(some 10), none, .alloc 38 [.d (.int .i64 0), .d (.int .i64 0), .d (.int .i64 0), .d (.int .i64 0), .d (.int .i64 0)]⟩,
          ⟨(some 9), none, .mov (.t 41)⟩,
          ⟨none, none, .store 5 (.t 10) (.t 43)⟩])
        (.seq (.reg [⟨(some 44), none, .load 9 true (.t 2)⟩,
          ⟨(some 45), none, .load 5 true (.t 10)⟩,
          ⟨(some 46), none, .call 23 [(.t 44), (.t 45)]⟩])
        (.cond (.t 46) (.reg [⟨(some 47), none, .mov (.t 7)⟩,
            ⟨(some 48), none, .mov (.t 9)⟩,
            ⟨(some 49), none, .mov (.t 8)⟩,
            ⟨(some 50), none, .load 9 true (.t 2)⟩,
            ⟨(some 51), none, .fadr 4 (.t 10)⟩,
            ⟨(some 52), none, .load 1 false (.t 51)⟩,
            ⟨(some 53), none, .call 18 [(.t 50), (.t 52)]⟩,
            ⟨(some 54), none, .callv (.t 49) [(.t 53)]⟩,
            ⟨(some 55), none, .iadr 1 (.t 47) (.t 48)⟩,
            ⟨none, none, .store 1 (.t 55) (.t 54)⟩])
        .skip))))
      (.reg [⟨(some 56), none, .bin .add (.t 39) (.k (.d (.int .i64 1)))⟩,
        ⟨(some 39), none, .mov (.t 56)⟩])))))))
  (.seq (.reg [⟨(some 57), none, .mov (.t 7)⟩,
    ⟨(some 4), none, .mov (.t 57)⟩,
    ⟨(some 5), none, .mov (.k (.d (.int .i64 0)))⟩])
  .ret)))))))
def rs15 : List RV := [.tmp 4, .tmp 5]
theorem ok15 : okF Try.prog 15 = true := by kernel_rfl
theorem cc15 : cCode Try.prog Try.f15.ntmps (Try.f15.body.getD .skip) = some c15 := by kernel_rfl
theorem cr15 : cRess Try.prog Try.f15.results.toList = some rs15 := by kernel_rfl
theorem pure15 {args : List V} {res : V} (hlen : args.length ≤ 58) (hna : namesL args = []) (hnr : res.names = []) (h : ∀ c : Ctx, c.P = Try.prog → c.fn = [] → vcC c c15 ⟨initE 0 args, [], []⟩ (RetK c rs15 res [])) : Ctr Try.prog 15 args [] res [] [] :=
  ctr_pure Try.func15 ok15 rfl cc15 cr15 Try.ntmps15 hlen hna hnr h
theorem own15 {args : List V} {ins outs : List (Nat × Own)} {res : V} {new : List Nat} (hlen : args.length ≤ 58) (hf : ctrB args ins res outs new = true) (h : ∀ c : Ctx, c.P = Try.prog → c.fn = namesL args ++ ownNames ins → vcC c c15 ⟨initE 0 args, ins, namesL args ++ ownNames ins⟩ (RetK c rs15 res outs)) : Ctr Try.prog 15 args ins res outs new :=
  ctr_own Try.func15 ok15 rfl cc15 cr15 Try.ntmps15 hlen hf h

/-- bordereau/bordereauref24.Bears -/
def c16 : C :=
  (.seq (.reg [⟨(some 2), none, .box 25 (.t 0)⟩,
    ⟨(some 4), none, .mov (.k (.d (.sl true 0 0 fun _ => [])))⟩,
    ⟨(some 5), none, .mov (.k (.d (.int .i64 0)))⟩])
  (.seq (.reg [⟨(some 14), none, .load 9 true (.t 2)⟩,
    ⟨(some 15), none, .call 27 [(.t 14)]⟩,
    ⟨(some 6), none, .mov (.t 15)⟩])
  (.seq (.seq (.reg [⟨(some 16), none, .mov (.t 6)⟩,
    ⟨(some 17), none, .inv .not (.t 16)⟩,
    ⟨(some 18), none, .mov (.t 17)⟩,
    ⟨(some 19), (some (18, false)), .fadr 1 (.t 2)⟩,
    ⟨(some 20), (some (18, false)), .load 1 false (.t 19)⟩,
    ⟨(some 21), (some (18, false)), .bin .neq (.t 20) (.k (.d (.int .i64 2)))⟩,
    ⟨(some 22), none, .pick (.t 18) (.k (.d (.bool true))) (.t 21)⟩])
  (.cond (.t 22) (.seq (.reg [⟨(some 4), none, .mov (.k (.d (.sl true 0 0 fun _ => [])))⟩,
      ⟨(some 5), none, .mov (.k (.d (.int .i64 1)))⟩])
    .ret)
  .skip))
  (.seq (.seq (.reg [⟨(some 7), none, .mov (.k (.d (.int .i64 0)))⟩])
  (.block 0 (.loop (.seq (.seq (.reg [⟨(some 23), none, .mov (.t 7)⟩,
        ⟨(some 24), none, .mov (.t 1)⟩,
        ⟨(some 25), none, .len (.t 24)⟩,
        ⟨(some 26), none, .bin .lss (.t 23) (.t 25)⟩])
      (.cond (.t 26) .skip
      (.exit 0)))
      (.seq (.block 1 (.seq (.reg [⟨(some 29), none, .mov (.t 1)⟩,
          ⟨(some 30), none, .mov (.t 7)⟩,
          ⟨(some 31), none, .iadr 5 (.t 29) (.t 30)⟩,
          ⟨(some 32), none, .load 5 true (.t 31)⟩,
          ⟨(some 33), none, .call 29 [(.t 32)]⟩,
          ⟨(some 8), none, .mov (.t 33)⟩])
        (.seq (.reg [⟨(some 34), none, .mov (.t 8)⟩,
          ⟨(some 35), none, .inv .not (.t 34)⟩])
        (.cond (.t 35) (.seq (.reg [⟨(some 4), none, .mov (.k (.d (.sl true 0 0 fun _ => [])))⟩,
            ⟨(some 5), none, .mov (.k (.d (.int .i64 1)))⟩])
          .ret)
        .skip))))
      (.reg [⟨(some 27), none, .mov (.t 7)⟩,
        ⟨(some 28), none, .bin .add (.t 27) (.k (.d (.int .i64 1)))⟩,
        ⟨(some 7), none, .mov (.t 28)⟩]))))))
  (.seq (.seq (.reg [⟨(some 36), none, .mov (.t 1)⟩,
    ⟨(some 37), none, .len (.t 36)⟩,
    ⟨(some 38), none, .bin .gtr (.t 37) (.k (.d (.int .i64 2000)))⟩])
  (.cond (.t 38) (.seq (.reg [⟨(some 4), none, .mov (.k (.d (.sl true 0 0 fun _ => [])))⟩,
      ⟨(some 5), none, .mov (.k (.d (.int .i64 2)))⟩])
    .ret)
  .skip))
  (.seq (.reg [⟨(some 9), none, .mov (.k (.d (.int .i64 0)))⟩])
  (.seq (.reg [⟨(some 10), none, .mov (.k (.d (.sl true 0 0 fun _ => [])))⟩])
  (.seq (.seq (.reg [⟨(some 11), none, .mov (.k (.d (.int .i64 0)))⟩])
  (.block 2 (.loop (.seq (.seq (.reg [⟨(some 39), none, .mov (.t 11)⟩,
        ⟨(some 40), none, .mov (.t 1)⟩,
        ⟨(some 41), none, .len (.t 40)⟩,
        ⟨(some 42), none, .bin .lss (.t 39) (.t 41)⟩])
      (.cond (.t 42) .skip
      (.exit 2)))
      (.seq (.block 3 (.seq (.reg [⟨(some 12), none, .mov (.k (.d (.int .i64 0)))⟩])
        (.seq (.drw [0, 0, 0, 6, 14, 31, 63]
         [⟨(some 45), none, .load 9 true (.t 2)⟩,
          ⟨(some 46), none, .mov (.t 1)⟩,
          ⟨(some 47), none, .mov (.t 11)⟩,
          ⟨(some 48), none, .iadr 5 (.t 46) (.t 47)⟩,
          ⟨(some 49), none, .load 5 true (.t 48)⟩,
          ⟨(some 50), none, .call 30 [(.t 45), (.t 49)]⟩,
          ⟨(some 13), none, .mov (.t 50)⟩])
        (.seq (.seq (.reg [⟨(some 51), none, .mov (.t 13)⟩])
        (.cond (.t 51) (.drw [0, 0, 0, 6, 14, 30, 63, 0, 255, 0, 1023, 2047, 4095]
           [⟨(some 52), none, .load 9 true (.t 2)⟩,
            ⟨(some 53), none, .mov (.t 1)⟩,
            ⟨(some 54), none, .mov (.t 11)⟩,
            ⟨(some 55), none, .iadr 5 (.t 53) (.t 54)⟩,
            ⟨(some 56), none, .fadr 4 (.t 55)⟩,
            ⟨(some 57), none, .load 1 false (.t 56)⟩,
            ⟨(some 58), none, .call 19 [(.t 52), (.t 57)]⟩,
            ⟨(some 59), none, .load 9 true (.t 2)⟩,
            ⟨(some 60), none, .call 21 [(.t 59)]⟩,
            ⟨(some 61), none, .mov (.t 9)⟩,
            ⟨(some 62), none, .bin .sub (.t 60) (.t 61)⟩,
            ⟨(some 63), none, .mm false (.t 58) (.t 62)⟩,
            ⟨(some 12), none, .mov (.t 63)⟩])
        .skip))
        (.seq (.reg [⟨(some 64), none, .mov (.t 9)⟩,
          ⟨(some 65), none, .mov (.t 12)⟩,
          ⟨(some 66), none, .bin .add (.t 64) (.t 65)⟩,
          ⟨(some 9), none, .mov (.t 66)⟩])
        (.reg [⟨(some 67), none, .mov (.t 10)⟩,
          ⟨(some 68), none, .mov (.t 12)⟩,
          ⟨(some 69), none, .bslice 3 1 1 [(.t 68)]⟩,
          ⟨(some 70), none, .app 3 1 8 (.t 67) (.t 69)⟩,
          ⟨(some 10), none, .mov (.t 70)⟩]))))))
      (.reg [⟨(some 43), none, .mov (.t 11)⟩,
        ⟨(some 44), none, .bin .add (.t 43) (.k (.d (.int .i64 1)))⟩,
        ⟨(some 11), none, .mov (.t 44)⟩]))))))
  (.seq (.reg [⟨(some 71), none, .mov (.t 10)⟩,
    ⟨(some 4), none, .mov (.t 71)⟩,
    ⟨(some 5), none, .mov (.k (.d (.int .i64 0)))⟩])
  .ret)))))))))
def rs16 : List RV := [.tmp 4, .tmp 5]
theorem ok16 : okF Try.prog 16 = true := by kernel_rfl
theorem cc16 : cCode Try.prog Try.f16.ntmps (Try.f16.body.getD .skip) = some c16 := by kernel_rfl
theorem cr16 : cRess Try.prog Try.f16.results.toList = some rs16 := by kernel_rfl
theorem pure16 {args : List V} {res : V} (hlen : args.length ≤ 72) (hna : namesL args = []) (hnr : res.names = []) (h : ∀ c : Ctx, c.P = Try.prog → c.fn = [] → vcC c c16 ⟨initE 0 args, [], []⟩ (RetK c rs16 res [])) : Ctr Try.prog 16 args [] res [] [] :=
  ctr_pure Try.func16 ok16 rfl cc16 cr16 Try.ntmps16 hlen hna hnr h
theorem own16 {args : List V} {ins outs : List (Nat × Own)} {res : V} {new : List Nat} (hlen : args.length ≤ 72) (hf : ctrB args ins res outs new = true) (h : ∀ c : Ctx, c.P = Try.prog → c.fn = namesL args ++ ownNames ins → vcC c c16 ⟨initE 0 args, ins, namesL args ++ ownNames ins⟩ (RetK c rs16 res outs)) : Ctr Try.prog 16 args ins res outs new :=
  ctr_own Try.func16 ok16 rfl cc16 cr16 Try.ntmps16 hlen hf h

/-- bordereau/bordereauref01.Same -/
def c17 : C :=
  (.seq (.reg [⟨(some 4), none, .mov (.k (.d (.bool false)))⟩])
  (.seq (.seq (.reg [⟨(some 6), none, .mov (.t 0)⟩,
    ⟨(some 7), none, .len (.t 6)⟩,
    ⟨(some 8), none, .mov (.t 1)⟩,
    ⟨(some 9), none, .len (.t 8)⟩,
    ⟨(some 10), none, .bin .neq (.t 7) (.t 9)⟩])
  (.cond (.t 10) (.seq (.reg [⟨(some 4), none, .mov (.k (.d (.bool false)))⟩])
    .ret)
  .skip))
  (.seq (.seq (.reg [⟨(some 5), none, .mov (.k (.d (.int .i64 0)))⟩])
  (.block 0 (.loop (.seq (.seq (.reg [⟨(some 11), none, .mov (.t 5)⟩,
        ⟨(some 12), none, .mov (.t 0)⟩,
        ⟨(some 13), none, .len (.t 12)⟩,
        ⟨(some 14), none, .bin .lss (.t 11) (.t 13)⟩])
      (.cond (.t 14) .skip
      (.exit 0)))
      (.seq (.block 1 (.seq (.drw [0, 0, 3, 7, 0, 0, 48, 112, 255]
         [⟨(some 17), none, .mov (.t 0)⟩,
          ⟨(some 18), none, .mov (.t 5)⟩,
          ⟨(some 19), none, .iadr 1 (.t 17) (.t 18)⟩,
          ⟨(some 20), none, .load 1 false (.t 19)⟩,
          ⟨(some 21), none, .mov (.t 1)⟩,
          ⟨(some 22), none, .mov (.t 5)⟩,
          ⟨(some 23), none, .iadr 1 (.t 21) (.t 22)⟩,
          ⟨(some 24), none, .load 1 false (.t 23)⟩,
          ⟨(some 25), none, .bin .neq (.t 20) (.t 24)⟩])
        (.cond (.t 25) (.seq (.reg [⟨(some 4), none, .mov (.k (.d (.bool false)))⟩])
          .ret)
        .skip)))
      (.reg [⟨(some 15), none, .mov (.t 5)⟩,
        ⟨(some 16), none, .bin .add (.t 15) (.k (.d (.int .i64 1)))⟩,
        ⟨(some 5), none, .mov (.t 16)⟩]))))))
  (.seq (.reg [⟨(some 4), none, .mov (.k (.d (.bool true)))⟩])
  .ret))))
def rs17 : List RV := [.tmp 4]
theorem ok17 : okF Try.prog 17 = true := by kernel_rfl
theorem cc17 : cCode Try.prog Try.f17.ntmps (Try.f17.body.getD .skip) = some c17 := by kernel_rfl
theorem cr17 : cRess Try.prog Try.f17.results.toList = some rs17 := by kernel_rfl
theorem pure17 {args : List V} {res : V} (hlen : args.length ≤ 26) (hna : namesL args = []) (hnr : res.names = []) (h : ∀ c : Ctx, c.P = Try.prog → c.fn = [] → vcC c c17 ⟨initE 0 args, [], []⟩ (RetK c rs17 res [])) : Ctr Try.prog 17 args [] res [] [] :=
  ctr_pure Try.func17 ok17 rfl cc17 cr17 Try.ntmps17 hlen hna hnr h
theorem own17 {args : List V} {ins outs : List (Nat × Own)} {res : V} {new : List Nat} (hlen : args.length ≤ 26) (hf : ctrB args ins res outs new = true) (h : ∀ c : Ctx, c.P = Try.prog → c.fn = namesL args ++ ownNames ins → vcC c c17 ⟨initE 0 args, ins, namesL args ++ ownNames ins⟩ (RetK c rs17 res outs)) : Ctr Try.prog 17 args ins res outs new :=
  ctr_own Try.func17 ok17 rfl cc17 cr17 Try.ntmps17 hlen hf h

/-- bordereau/layer.Part -/
def c18 : C :=
  (.seq (.reg [⟨(some 2), none, .box 25 (.t 0)⟩,
    ⟨(some 4), none, .mov (.k (.d (.int .i64 0)))⟩])
  (.seq (.seq (.reg [⟨(some 5), none, .load 9 true (.t 2)⟩,
    ⟨(some 6), none, .call 38 [(.t 5)]⟩,
    ⟨(some 7), none, .inv .not (.t 6)⟩,
    ⟨(some 8), none, .mov (.t 7)⟩,
    ⟨(some 9), (some (8, false)), .mov (.t 1)⟩,
    ⟨(some 10), (some (8, false)), .fadr 5 (.t 2)⟩,
    ⟨(some 11), (some (8, false)), .load 1 false (.t 10)⟩,
    ⟨(some 12), (some (8, false)), .bin .leq (.t 9) (.t 11)⟩,
    ⟨(some 13), none, .pick (.t 8) (.k (.d (.bool true))) (.t 12)⟩])
  (.cond (.t 13) (.seq (.reg [⟨(some 4), none, .mov (.k (.d (.int .i64 0)))⟩])
    .ret)
  .skip))
  (.seq (.reg [⟨(some 14), none, .fadr 6 (.t 2)⟩,
    ⟨(some 15), none, .load 1 false (.t 14)⟩,
    ⟨(some 16), none, .mov (.t 1)⟩,
    ⟨(some 17), none, .fadr 5 (.t 2)⟩,
    ⟨(some 18), none, .load 1 false (.t 17)⟩,
    ⟨(some 19), none, .bin .sub (.t 16) (.t 18)⟩,
    ⟨(some 20), none, .mm false (.t 15) (.t 19)⟩,
    ⟨(some 4), none, .mov (.t 20)⟩])
  .ret)))
def rs18 : List RV := [.tmp 4]
theorem ok18 : okF Try.prog 18 = true := by kernel_rfl
theorem cc18 : cCode Try.prog Try.f18.ntmps (Try.f18.body.getD .skip) = some c18 := by kernel_rfl
theorem cr18 : cRess Try.prog Try.f18.results.toList = some rs18 := by kernel_rfl
theorem pure18 {args : List V} {res : V} (hlen : args.length ≤ 21) (hna : namesL args = []) (hnr : res.names = []) (h : ∀ c : Ctx, c.P = Try.prog → c.fn = [] → vcC c c18 ⟨initE 0 args, [], []⟩ (RetK c rs18 res [])) : Ctr Try.prog 18 args [] res [] [] :=
  ctr_pure Try.func18 ok18 rfl cc18 cr18 Try.ntmps18 hlen hna hnr h
theorem own18 {args : List V} {ins outs : List (Nat × Own)} {res : V} {new : List Nat} (hlen : args.length ≤ 21) (hf : ctrB args ins res outs new = true) (h : ∀ c : Ctx, c.P = Try.prog → c.fn = namesL args ++ ownNames ins → vcC c c18 ⟨initE 0 args, ins, namesL args ++ ownNames ins⟩ (RetK c rs18 res outs)) : Ctr Try.prog 18 args ins res outs new :=
  ctr_own Try.func18 ok18 rfl cc18 cr18 Try.ntmps18 hlen hf h

/-- bordereau/bordereauref24.Part -/
def c19 : C :=
  (.seq (.reg [⟨(some 2), none, .box 25 (.t 0)⟩,
    ⟨(some 4), none, .mov (.k (.d (.int .i64 0)))⟩])
  (.seq (.reg [⟨(some 6), none, .load 9 true (.t 2)⟩,
    ⟨(some 7), none, .call 27 [(.t 6)]⟩,
    ⟨(some 5), none, .mov (.t 7)⟩])
  (.seq (.seq (.reg [⟨(some 8), none, .mov (.t 5)⟩,
    ⟨(some 9), none, .inv .not (.t 8)⟩,
    ⟨(some 10), none, .mov (.t 9)⟩,
    ⟨(some 11), (some (10, false)), .fadr 1 (.t 2)⟩,
    ⟨(some 12), (some (10, false)), .load 1 false (.t 11)⟩,
    ⟨(some 13), (some (10, false)), .bin .eql (.t 12) (.k (.d (.int .i64 1)))⟩,
    ⟨(some 14), none, .pick (.t 10) (.k (.d (.bool true))) (.t 13)⟩,
    ⟨(some 15), none, .mov (.t 14)⟩,
    ⟨(some 16), (some (15, false)), .mov (.t 1)⟩,
    ⟨(some 17), (some (15, false)), .fadr 5 (.t 2)⟩,
    ⟨(some 18), (some (15, false)), .load 1 false (.t 17)⟩,
    ⟨(some 19), (some (15, false)), .bin .leq (.t 16) (.t 18)⟩,
    ⟨(some 20), none, .pick (.t 15) (.k (.d (.bool true))) (.t 19)⟩])
  (.cond (.t 20) (.seq (.reg [⟨(some 4), none, .mov (.k (.d (.int .i64 0)))⟩])
    .ret)
  .skip))
  (.seq (.seq (.reg [⟨(some 21), none, .mov (.t 1)⟩,
    ⟨(some 22), none, .fadr 5 (.t 2)⟩,
    ⟨(some 23), none, .load 1 false (.t 22)⟩,
    ⟨(some 24), none, .bin .sub (.t 21) (.t 23)⟩,
    ⟨(some 25), none, .fadr 6 (.t 2)⟩,
    ⟨(some 26), none, .load 1 false (.t 25)⟩,
    ⟨(some 27), none, .bin .gtr (.t 24) (.t 26)⟩])
  (.cond (.t 27) (.seq (.reg [⟨(some 28), none, .fadr 6 (.t 2)⟩,
      ⟨(some 29), none, .load 1 false (.t 28)⟩,
      ⟨(some 4), none, .mov (.t 29)⟩])
    .ret)
  .skip))
  (.seq (.reg [⟨(some 30), none, .mov (.t 1)⟩,
    ⟨(some 31), none, .fadr 5 (.t 2)⟩,
    ⟨(some 32), none, .load 1 false (.t 31)⟩,
    ⟨(some 33), none, .bin .sub (.t 30) (.t 32)⟩,
    ⟨(some 4), none, .mov (.t 33)⟩])
  .ret)))))
def rs19 : List RV := [.tmp 4]
theorem ok19 : okF Try.prog 19 = true := by kernel_rfl
theorem cc19 : cCode Try.prog Try.f19.ntmps (Try.f19.body.getD .skip) = some c19 := by kernel_rfl
theorem cr19 : cRess Try.prog Try.f19.results.toList = some rs19 := by kernel_rfl
theorem pure19 {args : List V} {res : V} (hlen : args.length ≤ 34) (hna : namesL args = []) (hnr : res.names = []) (h : ∀ c : Ctx, c.P = Try.prog → c.fn = [] → vcC c c19 ⟨initE 0 args, [], []⟩ (RetK c rs19 res [])) : Ctr Try.prog 19 args [] res [] [] :=
  ctr_pure Try.func19 ok19 rfl cc19 cr19 Try.ntmps19 hlen hna hnr h
theorem own19 {args : List V} {ins outs : List (Nat × Own)} {res : V} {new : List Nat} (hlen : args.length ≤ 34) (hf : ctrB args ins res outs new = true) (h : ∀ c : Ctx, c.P = Try.prog → c.fn = namesL args ++ ownNames ins → vcC c c19 ⟨initE 0 args, ins, namesL args ++ ownNames ins⟩ (RetK c rs19 res outs)) : Ctr Try.prog 19 args ins res outs new :=
  ctr_own Try.func19 ok19 rfl cc19 cr19 Try.ntmps19 hlen hf h

/-- bordereau/layer.Room -/
def c20 : C :=
  (.seq (.reg [⟨(some 1), none, .box 25 (.t 0)⟩,
    ⟨(some 2), none, .mov (.k (.d (.int .i64 0)))⟩])
  (.seq (.seq (.reg [⟨(some 3), none, .load 9 true (.t 1)⟩,
    ⟨(some 4), none, .call 38 [(.t 3)]⟩,
    ⟨(some 5), none, .inv .not (.t 4)⟩])
  (.cond (.t 5) (.seq (.reg [⟨(some 2), none, .mov (.k (.d (.int .i64 0)))⟩])
    .ret)
  .skip))
  (.seq (.reg [⟨(some 6), none, .fadr 6 (.t 1)⟩,
    ⟨(some 7), none, .load 1 false (.t 6)⟩,
    ⟨(some 8), none, .fadr 7 (.t 1)⟩,
    ⟨(some 9), none, .load 1 false (.t 8)⟩,
    ⟨(some 10), none, .bin .add (.k (.d (.int .i64 1))) (.t 9)⟩,
    ⟨(some 11), none, .bin .mul (.t 7) (.t 10)⟩,
    ⟨(some 2), none, .mov (.t 11)⟩])
  .ret)))
def rs20 : List RV := [.tmp 2]
theorem ok20 : okF Try.prog 20 = true := by kernel_rfl
theorem cc20 : cCode Try.prog Try.f20.ntmps (Try.f20.body.getD .skip) = some c20 := by kernel_rfl
theorem cr20 : cRess Try.prog Try.f20.results.toList = some rs20 := by kernel_rfl
theorem pure20 {args : List V} {res : V} (hlen : args.length ≤ 12) (hna : namesL args = []) (hnr : res.names = []) (h : ∀ c : Ctx, c.P = Try.prog → c.fn = [] → vcC c c20 ⟨initE 0 args, [], []⟩ (RetK c rs20 res [])) : Ctr Try.prog 20 args [] res [] [] :=
  ctr_pure Try.func20 ok20 rfl cc20 cr20 Try.ntmps20 hlen hna hnr h
theorem own20 {args : List V} {ins outs : List (Nat × Own)} {res : V} {new : List Nat} (hlen : args.length ≤ 12) (hf : ctrB args ins res outs new = true) (h : ∀ c : Ctx, c.P = Try.prog → c.fn = namesL args ++ ownNames ins → vcC c c20 ⟨initE 0 args, ins, namesL args ++ ownNames ins⟩ (RetK c rs20 res outs)) : Ctr Try.prog 20 args ins res outs new :=
  ctr_own Try.func20 ok20 rfl cc20 cr20 Try.ntmps20 hlen hf h

/-- bordereau/bordereauref24.Room -/
def c21 : C :=
  (.seq (.reg [⟨(some 1), none, .box 25 (.t 0)⟩,
    ⟨(some 2), none, .mov (.k (.d (.int .i64 0)))⟩])
  (.seq (.reg [⟨(some 4), none, .load 9 true (.t 1)⟩,
    ⟨(some 5), none, .call 27 [(.t 4)]⟩,
    ⟨(some 3), none, .mov (.t 5)⟩])
  (.seq (.seq (.reg [⟨(some 6), none, .mov (.t 3)⟩,
    ⟨(some 7), none, .inv .not (.t 6)⟩,
    ⟨(some 8), none, .mov (.t 7)⟩,
    ⟨(some 9), (some (8, false)), .fadr 1 (.t 1)⟩,
    ⟨(some 10), (some (8, false)), .load 1 false (.t 9)⟩,
    ⟨(some 11), (some (8, false)), .bin .eql (.t 10) (.k (.d (.int .i64 1)))⟩,
    ⟨(some 12), none, .pick (.t 8) (.k (.d (.bool true))) (.t 11)⟩])
  (.cond (.t 12) (.seq (.reg [⟨(some 2), none, .mov (.k (.d (.int .i64 0)))⟩])
    .ret)
  .skip))
  (.seq (.reg [⟨(some 13), none, .fadr 6 (.t 1)⟩,
    ⟨(some 14), none, .load 1 false (.t 13)⟩,
    ⟨(some 15), none, .fadr 6 (.t 1)⟩,
    ⟨(some 16), none, .load 1 false (.t 15)⟩,
    ⟨(some 17), none, .fadr 7 (.t 1)⟩,
    ⟨(some 18), none, .load 1 false (.t 17)⟩,
    ⟨(some 19), none, .bin .mul (.t 16) (.t 18)⟩,
    ⟨(some 20), none, .bin .add (.t 14) (.t 19)⟩,
    ⟨(some 2), none, .mov (.t 20)⟩])
  .ret))))
def rs21 : List RV := [.tmp 2]
theorem ok21 : okF Try.prog 21 = true := by kernel_rfl
theorem cc21 : cCode Try.prog Try.f21.ntmps (Try.f21.body.getD .skip) = some c21 := by kernel_rfl
theorem cr21 : cRess Try.prog Try.f21.results.toList = some rs21 := by kernel_rfl
theorem pure21 {args : List V} {res : V} (hlen : args.length ≤ 21) (hna : namesL args = []) (hnr : res.names = []) (h : ∀ c : Ctx, c.P = Try.prog → c.fn = [] → vcC c c21 ⟨initE 0 args, [], []⟩ (RetK c rs21 res [])) : Ctr Try.prog 21 args [] res [] [] :=
  ctr_pure Try.func21 ok21 rfl cc21 cr21 Try.ntmps21 hlen hna hnr h
theorem own21 {args : List V} {ins outs : List (Nat × Own)} {res : V} {new : List Nat} (hlen : args.length ≤ 21) (hf : ctrB args ins res outs new = true) (h : ∀ c : Ctx, c.P = Try.prog → c.fn = namesL args ++ ownNames ins → vcC c c21 ⟨initE 0 args, ins, namesL args ++ ownNames ins⟩ (RetK c rs21 res outs)) : Ctr Try.prog 21 args ins res outs new :=
  ctr_own Try.func21 ok21 rfl cc21 cr21 Try.ntmps21 hlen hf h

/-- bordereau/bordereauref24.Sum -/
def c22 : C :=
  (.seq (.reg [⟨(some 2), none, .mov (.k (.d (.int .i64 0)))⟩])
  (.seq (.reg [⟨(some 3), none, .mov (.k (.d (.int .i64 0)))⟩])
  (.seq (.seq (.reg [⟨(some 4), none, .mov (.k (.d (.int .i64 0)))⟩])
  (.block 0 (.loop (.seq (.seq (.reg [⟨(some 5), none, .mov (.t 4)⟩,
        ⟨(some 6), none, .mov (.t 0)⟩,
        ⟨(some 7), none, .len (.t 6)⟩,
        ⟨(some 8), none, .bin .lss (.t 5) (.t 7)⟩])
      (.cond (.t 8) .skip
      (.exit 0)))
      (.seq (.block 1 (.reg [⟨(some 11), none, .mov (.t 3)⟩,
          ⟨(some 12), none, .mov (.t 0)⟩,
          ⟨(some 13), none, .mov (.t 4)⟩,
          ⟨(some 14), none, .iadr 1 (.t 12) (.t 13)⟩,
          ⟨(some 15), none, .load 1 false (.t 14)⟩,
          ⟨(some 16), none, .bin .add (.t 11) (.t 15)⟩,
          ⟨(some 3), none, .mov (.t 16)⟩]))
      (.reg [⟨(some 9), none, .mov (.t 4)⟩,
        ⟨(some 10), none, .bin .add (.t 9) (.k (.d (.int .i64 1)))⟩,
        ⟨(some 4), none, .mov (.t 10)⟩]))))))
  (.seq (.reg [⟨(some 17), none, .mov (.t 3)⟩,
    ⟨(some 2), none, .mov (.t 17)⟩])
  .ret))))
def rs22 : List RV := [.tmp 2]
theorem ok22 : okF Try.prog 22 = true := by kernel_rfl
theorem cc22 : cCode Try.prog Try.f22.ntmps (Try.f22.body.getD .skip) = some c22 := by kernel_rfl
theorem cr22 : cRess Try.prog Try.f22.results.toList = some rs22 := by kernel_rfl
theorem pure22 {args : List V} {res : V} (hlen : args.length ≤ 18) (hna : namesL args = []) (hnr : res.names = []) (h : ∀ c : Ctx, c.P = Try.prog → c.fn = [] → vcC c c22 ⟨initE 0 args, [], []⟩ (RetK c rs22 res [])) : Ctr Try.prog 22 args [] res [] [] :=
  ctr_pure Try.func22 ok22 rfl cc22 cr22 Try.ntmps22 hlen hna hnr h
theorem own22 {args : List V} {ins outs : List (Nat × Own)} {res : V} {new : List Nat} (hlen : args.length ≤ 18) (hf : ctrB args ins res outs new = true) (h : ∀ c : Ctx, c.P = Try.prog → c.fn = namesL args ++ ownNames ins → vcC c c22 ⟨initE 0 args, ins, namesL args ++ ownNames ins⟩ (RetK c rs22 res outs)) : Ctr Try.prog 22 args ins res outs new :=
  ctr_own Try.func22 ok22 rfl cc22 cr22 Try.ntmps22 hlen hf h

/-- bordereau/quota.Takes -/
def c23 : C :=
  (.seq (.reg [⟨(some 2), none, .box 25 (.t 0)⟩,
    ⟨(some 3), none, .box 38 (.t 1)⟩,
    ⟨(some 4), none, .mov (.k (.d (.bool false)))⟩])
  (.seq (.reg [⟨(some 5), none, .load 9 true (.t 2)⟩,
    ⟨(some 6), none, .call 26 [(.t 5)]⟩,
    ⟨(some 7), none, .mov (.t 6)⟩,
    ⟨(some 8), (some (7, true)), .load 5 true (.t 3)⟩,
    ⟨(some 9), (some (7, true)), .call 28 [(.t 8)]⟩,
    ⟨(some 10), none, .pick (.t 7) (.t 9) (.k (.d (.bool false)))⟩,
    ⟨(some 11), none, .mov (.t 10)⟩,
    ⟨(some 12), (some (11, true)), .fadr 2 (.t 2)⟩,
    ⟨(some 13), (some (11, true)), .load 2 true (.t 12)⟩,
    ⟨(some 14), (some (11, true)), .fadr 2 (.t 3)⟩,
    ⟨(some 15), (some (11, true)), .load 1 false (.t 14)⟩,
    ⟨(some 16), (some (11, true)), .call 39 [(.t 13), (.t 15)]⟩,
    ⟨(some 17), none, .pick (.t 11) (.t 16) (.k (.d (.bool false)))⟩,
    ⟨(some 18), none, .mov (.t 17)⟩,
    ⟨(some 19), (some (18, true)), .fadr 8 (.t 2)⟩,
    ⟨(some 20), (some (18, true)), .load 1 false (.t 19)⟩,
    ⟨(some 21), (some (18, true)), .fadr 3 (.t 3)⟩,
    ⟨(some 22), (some (18, true)), .load 1 false (.t 21)⟩,
    ⟨(some 23), (some (18, true)), .shf false (.t 20) (.t 22)⟩,
    ⟨(some 24), (some (18, true)), .bin .and (.t 23) (.k (.d (.int .i64 1)))⟩,
    ⟨(some 25), (some (18, true)), .bin .eql (.t 24) (.k (.d (.int .i64 1)))⟩,
    ⟨(some 26), none, .pick (.t 18) (.t 25) (.k (.d (.bool false)))⟩,
    ⟨(some 4), none, .mov (.t 26)⟩])
  .ret))
def rs23 : List RV := [.tmp 4]
theorem ok23 : okF Try.prog 23 = true := by kernel_rfl
theorem cc23 : cCode Try.prog Try.f23.ntmps (Try.f23.body.getD .skip) = some c23 := by kernel_rfl
theorem cr23 : cRess Try.prog Try.f23.results.toList = some rs23 := by kernel_rfl
theorem pure23 {args : List V} {res : V} (hlen : args.length ≤ 27) (hna : namesL args = []) (hnr : res.names = []) (h : ∀ c : Ctx, c.P = Try.prog → c.fn = [] → vcC c c23 ⟨initE 0 args, [], []⟩ (RetK c rs23 res [])) : Ctr Try.prog 23 args [] res [] [] :=
  ctr_pure Try.func23 ok23 rfl cc23 cr23 Try.ntmps23 hlen hna hnr h
theorem own23 {args : List V} {ins outs : List (Nat × Own)} {res : V} {new : List Nat} (hlen : args.length ≤ 27) (hf : ctrB args ins res outs new = true) (h : ∀ c : Ctx, c.P = Try.prog → c.fn = namesL args ++ ownNames ins → vcC c c23 ⟨initE 0 args, ins, namesL args ++ ownNames ins⟩ (RetK c rs23 res outs)) : Ctr Try.prog 23 args ins res outs new :=
  ctr_own Try.func23 ok23 rfl cc23 cr23 Try.ntmps23 hlen hf h

/-- bordereau/bordereaulaw24.loss -/
def c24 : C :=
  (.seq (.reg [⟨(some 2), none, .alloc 38 [.d (.int .i64 0), .d (.int .i64 0), .d (.int .i64 0), .d (.int .i64 0), .d (.int .i64 0)]⟩])
  (.seq (.reg [⟨(some 3), none, .mov (.t 0)⟩,
    ⟨(some 4), none, .build [.d (.int .i64 0), .d (.int .i64 0), .d (.int .i64 0), .d (.int .i64 0), .d (.int .i64 0)] [(0, 1, (.k (.d (.int .i64 1)))), (2, 1, (.k (.d (.int .i64 1)))), (4, 1, (.t 3))]⟩,
    ⟨none, none, .store 5 (.t 2) (.t 4)⟩])
  .ret))
def rs24 : List RV := [.cell 2 5 true]
theorem ok24 : okF Try.prog 24 = true := by kernel_rfl
theorem cc24 : cCode Try.prog Try.f24.ntmps (Try.f24.body.getD .skip) = some c24 := by kernel_rfl
theorem cr24 : cRess Try.prog Try.f24.results.toList = some rs24 := by kernel_rfl
theorem pure24 {args : List V} {res : V} (hlen : args.length ≤ 5) (hna : namesL args = []) (hnr : res.names = []) (h : ∀ c : Ctx, c.P = Try.prog → c.fn = [] → vcC c c24 ⟨initE 0 args, [], []⟩ (RetK c rs24 res [])) : Ctr Try.prog 24 args [] res [] [] :=
  ctr_pure Try.func24 ok24 rfl cc24 cr24 Try.ntmps24 hlen hna hnr h
theorem own24 {args : List V} {ins outs : List (Nat × Own)} {res : V} {new : List Nat} (hlen : args.length ≤ 5) (hf : ctrB args ins res outs new = true) (h : ∀ c : Ctx, c.P = Try.prog → c.fn = namesL args ++ ownNames ins → vcC c c24 ⟨initE 0 args, ins, namesL args ++ ownNames ins⟩ (RetK c rs24 res outs)) : Ctr Try.prog 24 args ins res outs new :=
  ctr_own Try.func24 ok24 rfl cc24 cr24 Try.ntmps24 hlen hf h

/-- bordereau/bordereaulaw23.alive -/
def c25 : C :=
  (.seq (.reg [⟨(some 0), none, .mov (.k (.d (.bool false)))⟩])
  (.seq (.reg [⟨(some 12), none, .build [.d (.int .i64 0), .d (.int .i64 0), .d (.int .i64 0), .d (.int .i64 0), .d (.int .i64 0)] [(0, 1, (.k (.d (.int .i64 1)))), (2, 1, (.k (.d (.int .i64 5)))), (3, 1, (.k (.d (.int .i64 2)))), (4, 1, (.k (.d (.int .i64 1001))))]⟩,
    ⟨(some 1), none, .alloc 38 [.d (.int .i64 0), .d (.int .i64 0), .d (.int .i64 0), .d (.int .i64 0), .d (.int .i64 0)]⟩,
    ⟨none, none, .store 5 (.t 1) (.t 12)⟩])
  (.seq (.drw [0, 0, 3, 7, 15, 15, 31, 127]
   [⟨(some 14), none, .call 40 [(.k (.d (.int .i64 2500))), (.k (.d (.int .i64 4)))]⟩,
    ⟨(some 15), none, .load 5 true (.t 1)⟩,
    ⟨(some 16), none, .call 31 [(.t 14), (.t 15)]⟩,
    ⟨(some 13), none, .mov (.t 16)⟩,
    ⟨(some 17), none, .ext 0 (.t 13)⟩,
    ⟨(some 18), none, .ext 1 (.t 13)⟩,
    ⟨(some 2), none, .mov (.t 17)⟩,
    ⟨(some 3), none, .mov (.t 18)⟩])
  (.seq (.drw [0, 0, 3, 7, 15, 15, 31, 127]
   [⟨(some 20), none, .call 40 [(.k (.d (.int .i64 2500))), (.k (.d (.int .i64 3)))]⟩,
    ⟨(some 21), none, .load 5 true (.t 1)⟩,
    ⟨(some 22), none, .call 31 [(.t 20), (.t 21)]⟩,
    ⟨(some 19), none, .mov (.t 22)⟩,
    ⟨(some 23), none, .ext 0 (.t 19)⟩,
    ⟨(some 24), none, .ext 1 (.t 19)⟩,
    ⟨(some 4), none, .mov (.t 23)⟩,
    ⟨(some 5), none, .mov (.t 24)⟩])
  (.seq (.drw [0, 1, 3, 7, 0, 31, 63, 127, 127, 255, 1023]
   [⟨(some 26), none, .call 40 [(.k (.d (.int .i64 2500))), (.k (.d (.int .i64 4)))]⟩,
    ⟨(some 27), none, .call 40 [(.k (.d (.int .i64 5000))), (.k (.d (.int .i64 255)))]⟩,
    ⟨(some 28), none, .call 40 [(.k (.d (.int .i64 9000))), (.k (.d (.int .i64 3)))]⟩,
    ⟨(some 29), none, .bslice 25 9 3 [(.t 26), (.t 27), (.t 28)]⟩,
    ⟨(some 30), none, .load 5 true (.t 1)⟩,
    ⟨(some 31), none, .call 33 [(.t 29), (.t 30)]⟩,
    ⟨(some 25), none, .mov (.t 31)⟩,
    ⟨(some 32), none, .ext 0 (.t 25)⟩,
    ⟨(some 33), none, .ext 1 (.t 25)⟩,
    ⟨(some 6), none, .mov (.t 32)⟩,
    ⟨(some 7), none, .mov (.t 33)⟩])
  (.seq (.drw [0, 1, 3, 0, 15, 31, 63, 63, 127, 511]
   [⟨(some 35), none, .call 40 [(.k (.d (.int .i64 5001))), (.k (.d (.int .i64 4)))]⟩,
    ⟨(some 36), none, .call 40 [(.k (.d (.int .i64 5000))), (.k (.d (.int .i64 255)))]⟩,
    ⟨(some 37), none, .bslice 25 9 2 [(.t 35), (.t 36)]⟩,
    ⟨(some 38), none, .load 5 true (.t 1)⟩,
    ⟨(some 39), none, .call 33 [(.t 37), (.t 38)]⟩,
    ⟨(some 34), none, .mov (.t 39)⟩,
    ⟨(some 40), none, .ext 0 (.t 34)⟩,
    ⟨(some 41), none, .ext 1 (.t 34)⟩,
    ⟨(some 8), none, .mov (.t 40)⟩,
    ⟨(some 9), none, .mov (.t 41)⟩])
  (.seq (.reg [⟨(some 43), none, .build [.d (.int .i64 0), .d (.int .i64 0), .d (.int .i64 0), .d (.int .i64 0), .d (.int .i64 0)] []⟩,
    ⟨(some 44), none, .call 33 [(.k (.d (.sl true 0 0 fun _ => []))), (.t 43)]⟩,
    ⟨(some 42), none, .mov (.t 44)⟩,
    ⟨(some 45), none, .ext 0 (.t 42)⟩,
    ⟨(some 46), none, .ext 1 (.t 42)⟩,
    ⟨(some 10), none, .mov (.t 45)⟩,
    ⟨(some 11), none, .mov (.t 46)⟩])
  (.seq (.drw [0, 1, 3, 7, 15, 31, 63, 127, 255, 511, 1023, 2047, 4095, 8191, 16383, 32767, 65535, 131071, 262143, 524287, 1048575, 2097151, 4194303, 8388607, 16777215, 33554431, 67108863, 134217727, 268435455, 536870911, 1073741823, 2147483647, 4294967295, 8589934591, 17179869183, 34359738367, 68719476735, 137438953471, 274877906943, 549755813887, 1099511627775, 2199023255551, 4398046511103, 8796093022207, 8796093022207, 35184372088831, 70368744177663, 140737488355327, 281474976710655, 281474976710655, 1125899906842623, 2251799813685247, 4503599627370495, 9007199254740991]
   [⟨(some 47), none, .mov (.t 2)⟩,
    ⟨(some 48), none, .bin .eql (.t 47) (.k (.d (.int .i64 250)))⟩,
    ⟨(some 49), none, .mov (.t 48)⟩,
    ⟨(some 50), (some (49, true)), .mov (.t 3)⟩,
    ⟨(some 51), none, .pick (.t 49) (.t 50) (.k (.d (.bool false)))⟩,
    ⟨(some 52), none, .mov (.t 51)⟩,
    ⟨(some 53), (some (52, true)), .mov (.t 4)⟩,
    ⟨(some 54), (some (52, true)), .bin .eql (.t 53) (.k (.d (.int .i64 0)))⟩,
    ⟨(some 55), none, .pick (.t 52) (.t 54) (.k (.d (.bool false)))⟩,
    ⟨(some 56), none, .mov (.t 55)⟩,
    ⟨(some 57), (some (56, true)), .mov (.t 5)⟩,
    ⟨(some 58), (some (56, true)), .inv .not (.t 57)⟩,
    ⟨(some 59), none, .pick (.t 56) (.t 58) (.k (.d (.bool false)))⟩,
    ⟨(some 60), none, .mov (.t 59)⟩,
    ⟨(some 61), (some (60, true)), .mov (.t 6)⟩,
    ⟨(some 62), (some (60, true)), .bin .eql (.t 61) (.k (.d (.int .i64 251)))⟩,
    ⟨(some 63), none, .pick (.t 60) (.t 62) (.k (.d (.bool false)))⟩,
    ⟨(some 64), none, .mov (.t 63)⟩,
    ⟨(some 65), (some (64, true)), .mov (.t 7)⟩,
    ⟨(some 66), (some (64, true)), .bin .eql (.t 65) (.k (.d (.int .i64 0)))⟩,
    ⟨(some 67), none, .pick (.t 64) (.t 66) (.k (.d (.bool false)))⟩,
    ⟨(some 68), none, .mov (.t 67)⟩,
    ⟨(some 69), (some (68, true)), .mov (.t 9)⟩,
    ⟨(some 70), (some (68, true)), .bin .eql (.t 69) (.k (.d (.int .i64 13)))⟩,
    ⟨(some 71), none, .pick (.t 68) (.t 70) (.k (.d (.bool false)))⟩,
    ⟨(some 72), none, .mov (.t 71)⟩,
    ⟨(some 73), (some (72, true)), .mov (.t 11)⟩,
    ⟨(some 74), (some (72, true)), .bin .eql (.t 73) (.k (.d (.int .i64 1)))⟩,
    ⟨(some 75), none, .pick (.t 72) (.t 74) (.k (.d (.bool false)))⟩,
    ⟨(some 76), none, .mov (.t 75)⟩,
    ⟨(some 77), (some (76, true)), .call 40 [(.k (.d (.int .i64 1))), (.k (.d (.int .i64 1)))]⟩,
    ⟨(some 78), (some (76, true)), .call 26 [(.t 77)]⟩,
    ⟨(some 79), none, .pick (.t 76) (.t 78) (.k (.d (.bool false)))⟩,
    ⟨(some 80), none, .mov (.t 79)⟩,
    ⟨(some 81), (some (80, true)), .call 40 [(.k (.d (.int .i64 0))), (.k (.d (.int .i64 1)))]⟩,
    ⟨(some 82), (some (80, true)), .call 26 [(.t 81)]⟩,
    ⟨(some 83), (some (80, true)), .inv .not (.t 82)⟩,
    ⟨(some 84), none, .pick (.t 80) (.t 83) (.k (.d (.bool false)))⟩,
    ⟨(some 85), none, .mov (.t 84)⟩,
    ⟨(some 86), (some (85, true)), .load 5 true (.t 1)⟩,
    ⟨(some 87), (some (85, true)), .call 28 [(.t 86)]⟩,
    ⟨(some 88), none, .pick (.t 85) (.t 87) (.k (.d (.bool false)))⟩,
    ⟨(some 89), none, .mov (.t 88)⟩,
    ⟨(some 90), (some (89, true)), .call 40 [(.k (.d (.int .i64 1))), (.k (.d (.int .i64 4)))]⟩,
    ⟨(some 91), (some (89, true)), .load 5 true (.t 1)⟩,
    ⟨(some 92), (some (89, true)), .call 23 [(.t 90), (.t 91)]⟩,
    ⟨(some 93), none, .pick (.t 89) (.t 92) (.k (.d (.bool false)))⟩,
    ⟨(some 94), none, .mov (.t 93)⟩,
    ⟨(some 95), (some (94, true)), .call 40 [(.k (.d (.int .i64 1))), (.k (.d (.int .i64 4)))]⟩,
    ⟨(some 96), (some (94, true)), .build [.d (.int .i64 0), .d (.int .i64 0), .d (.int .i64 0), .d (.int .i64 0), .d (.int .i64 0)] [(0, 1, (.k (.d (.int .i64 1)))), (2, 1, (.k (.d (.int .i64 100)))), (3, 1, (.k (.d (.int .i64 2))))]⟩,
    ⟨(some 97), (some (94, true)), .call 23 [(.t 95), (.t 96)]⟩,
    ⟨(some 98), (some (94, true)), .inv .not (.t 97)⟩,
    ⟨(some 99), none, .pick (.t 94) (.t 98) (.k (.d (.bool false)))⟩,
    ⟨(some 0), none, .mov (.t 99)⟩])
  .ret))))))))
def rs25 : List RV := [.tmp 0]
theorem ok25 : okF Try.prog 25 = true := by kernel_rfl
theorem cc25 : cCode Try.prog Try.f25.ntmps (Try.f25.body.getD .skip) = some c25 := by kernel_rfl
theorem cr25 : cRess Try.prog Try.f25.results.toList = some rs25 := by kernel_rfl
theorem pure25 {args : List V} {res : V} (hlen : args.length ≤ 100) (hna : namesL args = []) (hnr : res.names = []) (h : ∀ c : Ctx, c.P = Try.prog → c.fn = [] → vcC c c25 ⟨initE 0 args, [], []⟩ (RetK c rs25 res [])) : Ctr Try.prog 25 args [] res [] [] :=
  ctr_pure Try.func25 ok25 rfl cc25 cr25 Try.ntmps25 hlen hna hnr h
theorem own25 {args : List V} {ins outs : List (Nat × Own)} {res : V} {new : List Nat} (hlen : args.length ≤ 100) (hf : ctrB args ins res outs new = true) (h : ∀ c : Ctx, c.P = Try.prog → c.fn = namesL args ++ ownNames ins → vcC c c25 ⟨initE 0 args, ins, namesL args ++ ownNames ins⟩ (RetK c rs25 res outs)) : Ctr Try.prog 25 args ins res outs new :=
  ctr_own Try.func25 ok25 rfl cc25 cr25 Try.ntmps25 hlen hf h

/-- bordereau/quota.Right -/
def c26 : C :=
  (.seq (.reg [⟨(some 1), none, .box 25 (.t 0)⟩,
    ⟨(some 2), none, .mov (.k (.d (.bool false)))⟩])
  (.seq (.seq (.reg [⟨(some 3), none, .build [.d (.int .i64 0), .d (.int .i64 0)] [(0, 1, (.k (.d (.int .i64 1)))), (1, 1, (.k (.d (.int .i64 1000000000))))]⟩,
    ⟨(some 4), none, .fadr 0 (.t 1)⟩,
    ⟨(some 5), none, .load 1 false (.t 4)⟩,
    ⟨(some 6), none, .bslice 3 1 1 [(.t 5)]⟩,
    ⟨(some 7), none, .call 41 [(.t 3), (.t 6)]⟩,
    ⟨(some 8), none, .inv .not (.t 7)⟩,
    ⟨(some 9), none, .mov (.t 8)⟩,
    ⟨(some 10), (some (9, false)), .fadr 2 (.t 1)⟩,
    ⟨(some 11), (some (9, false)), .load 2 true (.t 10)⟩,
    ⟨(some 12), (some (9, false)), .call 42 [(.t 11)]⟩,
    ⟨(some 13), (some (9, false)), .bin .eql (.t 12) (.k (.d (.int .i64 0)))⟩,
    ⟨(some 14), none, .pick (.t 9) (.k (.d (.bool true))) (.t 13)⟩,
    ⟨(some 15), none, .mov (.t 14)⟩,
    ⟨(some 16), (some (15, false)), .build [.d (.int .i64 0), .d (.int .i64 0)] [(0, 1, (.k (.d (.int .i64 1)))), (1, 1, (.k (.d (.int .i64 255))))]⟩,
    ⟨(some 17), (some (15, false)), .fadr 8 (.t 1)⟩,
    ⟨(some 18), (some (15, false)), .load 1 false (.t 17)⟩,
    ⟨(some 19), (some (15, false)), .bslice 3 1 1 [(.t 18)]⟩,
    ⟨(some 20), (some (15, false)), .call 41 [(.t 16), (.t 19)]⟩,
    ⟨(some 21), (some (15, false)), .inv .not (.t 20)⟩,
    ⟨(some 22), none, .pick (.t 15) (.k (.d (.bool true))) (.t 21)⟩])
  (.cond (.t 22) (.seq (.reg [⟨(some 2), none, .mov (.k (.d (.bool false)))⟩])
    .ret)
  .skip))
  (.seq (.seq (.reg [⟨(some 23), none, .fadr 1 (.t 1)⟩,
    ⟨(some 24), none, .load 1 false (.t 23)⟩])
  (.block 0 (.seq (.reg [⟨(some 26), none, .bin .eql (.t 24) (.k (.d (.int .i64 1)))⟩,
      ⟨(some 25), none, .mov (.t 26)⟩])
    (.cond (.t 25) (.seq (.reg [⟨(some 27), none, .build [.d (.int .i64 0), .d (.int .i64 0)] [(0, 1, (.k (.d (.int .i64 1)))), (1, 1, (.k (.d (.int .i64 10000))))]⟩,
        ⟨(some 28), none, .fadr 4 (.t 1)⟩,
        ⟨(some 29), none, .load 1 false (.t 28)⟩,
        ⟨(some 30), none, .bslice 3 1 1 [(.t 29)]⟩,
        ⟨(some 31), none, .call 41 [(.t 27), (.t 30)]⟩,
        ⟨(some 32), none, .mov (.t 31)⟩,
        ⟨(some 33), (some (32, true)), .build [.d (.int .i64 0), .d (.int .i64 0)] []⟩,
        ⟨(some 34), (some (32, true)), .fadr 5 (.t 1)⟩,
        ⟨(some 35), (some (32, true)), .load 1 false (.t 34)⟩,
        ⟨(some 36), (some (32, true)), .fadr 6 (.t 1)⟩,
        ⟨(some 37), (some (32, true)), .load 1 false (.t 36)⟩,
        ⟨(some 38), (some (32, true)), .fadr 7 (.t 1)⟩,
        ⟨(some 39), (some (32, true)), .load 1 false (.t 38)⟩,
        ⟨(some 40), (some (32, true)), .bslice 3 1 3 [(.t 35), (.t 37), (.t 39)]⟩,
        ⟨(some 41), (some (32, true)), .call 41 [(.t 33), (.t 40)]⟩,
        ⟨(some 42), none, .pick (.t 32) (.t 41) (.k (.d (.bool false)))⟩,
        ⟨(some 2), none, .mov (.t 42)⟩])
      .ret)
    (.seq (.seq (.reg [⟨(some 44), none, .bin .eql (.t 24) (.k (.d (.int .i64 2)))⟩,
        ⟨(some 43), none, .mov (.t 44)⟩])
      (.cond (.t 43) .skip
      (.reg [⟨(some 45), none, .bin .eql (.t 24) (.k (.d (.int .i64 3)))⟩,
          ⟨(some 43), none, .mov (.t 45)⟩])))
      (.cond (.t 43) (.seq (.reg [⟨(some 46), none, .fadr 4 (.t 1)⟩,
          ⟨(some 47), none, .load 1 false (.t 46)⟩,
          ⟨(some 48), none, .bin .eql (.t 47) (.k (.d (.int .i64 0)))⟩,
          ⟨(some 49), none, .mov (.t 48)⟩,
          ⟨(some 50), (some (49, true)), .build [.d (.int .i64 0), .d (.int .i64 0)] [(0, 1, (.k (.d (.int .i64 0)))), (1, 1, (.k (.d (.int .i64 1000000000000000))))]⟩,
          ⟨(some 51), (some (49, true)), .fadr 5 (.t 1)⟩,
          ⟨(some 52), (some (49, true)), .load 1 false (.t 51)⟩,
          ⟨(some 53), (some (49, true)), .fadr 6 (.t 1)⟩,
          ⟨(some 54), (some (49, true)), .load 1 false (.t 53)⟩,
          ⟨(some 55), (some (49, true)), .bslice 3 1 2 [(.t 52), (.t 54)]⟩,
          ⟨(some 56), (some (49, true)), .call 41 [(.t 50), (.t 55)]⟩,
          ⟨(some 57), none, .pick (.t 49) (.t 56) (.k (.d (.bool false)))⟩,
          ⟨(some 58), none, .mov (.t 57)⟩,
          ⟨(some 59), (some (58, true)), .fadr 6 (.t 1)⟩,
          ⟨(some 60), (some (58, true)), .load 1 false (.t 59)⟩,
          ⟨(some 61), (some (58, true)), .bin .gtr (.t 60) (.k (.d (.int .i64 0)))⟩,
          ⟨(some 62), none, .pick (.t 58) (.t 61) (.k (.d (.bool false)))⟩,
          ⟨(some 63), none, .mov (.t 62)⟩,
          ⟨(some 64), (some (63, true)), .build [.d (.int .i64 0), .d (.int .i64 0)] [(0, 1, (.k (.d (.int .i64 0)))), (1, 1, (.k (.d (.int .i64 100))))]⟩,
          ⟨(some 65), (some (63, true)), .fadr 7 (.t 1)⟩,
          ⟨(some 66), (some (63, true)), .load 1 false (.t 65)⟩,
          ⟨(some 67), (some (63, true)), .bslice 3 1 1 [(.t 66)]⟩,
          ⟨(some 68), (some (63, true)), .call 41 [(.t 64), (.t 67)]⟩,
          ⟨(some 69), none, .pick (.t 63) (.t 68) (.k (.d (.bool false)))⟩,
          ⟨(some 2), none, .mov (.t 69)⟩])
        .ret)
      .skip))))))
  (.seq (.reg [⟨(some 2), none, .mov (.k (.d (.bool false)))⟩])
  .ret))))
def rs26 : List RV := [.tmp 2]
theorem ok26 : okF Try.prog 26 = true := by kernel_rfl
theorem cc26 : cCode Try.prog Try.f26.ntmps (Try.f26.body.getD .skip) = some c26 := by kernel_rfl
theorem cr26 : cRess Try.prog Try.f26.results.toList = some rs26 := by kernel_rfl
theorem pure26 {args : List V} {res : V} (hlen : args.length ≤ 70) (hna : namesL args = []) (hnr : res.names = []) (h : ∀ c : Ctx, c.P = Try.prog → c.fn = [] → vcC c c26 ⟨initE 0 args, [], []⟩ (RetK c rs26 res [])) : Ctr Try.prog 26 args [] res [] [] :=
  ctr_pure Try.func26 ok26 rfl cc26 cr26 Try.ntmps26 hlen hna hnr h
theorem own26 {args : List V} {ins outs : List (Nat × Own)} {res : V} {new : List Nat} (hlen : args.length ≤ 70) (hf : ctrB args ins res outs new = true) (h : ∀ c : Ctx, c.P = Try.prog → c.fn = namesL args ++ ownNames ins → vcC c c26 ⟨initE 0 args, ins, namesL args ++ ownNames ins⟩ (RetK c rs26 res outs)) : Ctr Try.prog 26 args ins res outs new :=
  ctr_own Try.func26 ok26 rfl cc26 cr26 Try.ntmps26 hlen hf h

/-- bordereau/bordereauref23.Right -/
def c27 : C :=
  (.seq (.reg [⟨(some 1), none, .box 25 (.t 0)⟩,
    ⟨(some 2), none, .mov (.k (.d (.bool false)))⟩])
  (.seq (.seq (.reg [⟨(some 3), none, .fadr 0 (.t 1)⟩,
    ⟨(some 4), none, .load 1 false (.t 3)⟩,
    ⟨(some 5), none, .call 43 [(.t 4), (.k (.d (.int .i64 1))), (.k (.d (.int .i64 1000000000)))]⟩,
    ⟨(some 6), none, .inv .not (.t 5)⟩,
    ⟨(some 7), none, .mov (.t 6)⟩,
    ⟨(some 8), (some (7, false)), .fadr 2 (.t 1)⟩,
    ⟨(some 9), (some (7, false)), .load 2 true (.t 8)⟩,
    ⟨(some 10), (some (7, false)), .call 44 [(.t 9)]⟩,
    ⟨(some 11), (some (7, false)), .bin .eql (.t 10) (.k (.d (.int .i64 0)))⟩,
    ⟨(some 12), none, .pick (.t 7) (.k (.d (.bool true))) (.t 11)⟩,
    ⟨(some 13), none, .mov (.t 12)⟩,
    ⟨(some 14), (some (13, false)), .fadr 8 (.t 1)⟩,
    ⟨(some 15), (some (13, false)), .load 1 false (.t 14)⟩,
    ⟨(some 16), (some (13, false)), .call 43 [(.t 15), (.k (.d (.int .i64 1))), (.k (.d (.int .i64 255)))]⟩,
    ⟨(some 17), (some (13, false)), .inv .not (.t 16)⟩,
    ⟨(some 18), none, .pick (.t 13) (.k (.d (.bool true))) (.t 17)⟩])
  (.cond (.t 18) (.seq (.reg [⟨(some 2), none, .mov (.k (.d (.bool false)))⟩])
    .ret)
  .skip))
  (.seq (.seq (.reg [⟨(some 19), none, .fadr 1 (.t 1)⟩,
    ⟨(some 20), none, .load 1 false (.t 19)⟩,
    ⟨(some 21), none, .bin .eql (.t 20) (.k (.d (.int .i64 1)))⟩])
  (.cond (.t 21) (.seq (.reg [⟨(some 22), none, .fadr 4 (.t 1)⟩,
      ⟨(some 23), none, .load 1 false (.t 22)⟩,
      ⟨(some 24), none, .call 43 [(.t 23), (.k (.d (.int .i64 1))), (.k (.d (.int .i64 10000)))]⟩,
      ⟨(some 25), none, .mov (.t 24)⟩,
      ⟨(some 26), (some (25, true)), .fadr 5 (.t 1)⟩,
      ⟨(some 27), (some (25, true)), .load 1 false (.t 26)⟩,
      ⟨(some 28), (some (25, true)), .bin .eql (.t 27) (.k (.d (.int .i64 0)))⟩,
      ⟨(some 29), none, .pick (.t 25) (.t 28) (.k (.d (.bool false)))⟩,
      ⟨(some 30), none, .mov (.t 29)⟩,
      ⟨(some 31), (some (30, true)), .fadr 6 (.t 1)⟩,
      ⟨(some 32), (some (30, true)), .load 1 false (.t 31)⟩,
      ⟨(some 33), (some (30, true)), .bin .eql (.t 32) (.k (.d (.int .i64 0)))⟩,
      ⟨(some 34), none, .pick (.t 30) (.t 33) (.k (.d (.bool false)))⟩,
      ⟨(some 35), none, .mov (.t 34)⟩,
      ⟨(some 36), (some (35, true)), .fadr 7 (.t 1)⟩,
      ⟨(some 37), (some (35, true)), .load 1 false (.t 36)⟩,
      ⟨(some 38), (some (35, true)), .bin .eql (.t 37) (.k (.d (.int .i64 0)))⟩,
      ⟨(some 39), none, .pick (.t 35) (.t 38) (.k (.d (.bool false)))⟩,
      ⟨(some 2), none, .mov (.t 39)⟩])
    .ret)
  .skip))
  (.seq (.seq (.reg [⟨(some 40), none, .fadr 1 (.t 1)⟩,
    ⟨(some 41), none, .load 1 false (.t 40)⟩,
    ⟨(some 42), none, .bin .neq (.t 41) (.k (.d (.int .i64 2)))⟩,
    ⟨(some 43), none, .mov (.t 42)⟩,
    ⟨(some 44), (some (43, true)), .fadr 1 (.t 1)⟩,
    ⟨(some 45), (some (43, true)), .load 1 false (.t 44)⟩,
    ⟨(some 46), (some (43, true)), .bin .neq (.t 45) (.k (.d (.int .i64 3)))⟩,
    ⟨(some 47), none, .pick (.t 43) (.t 46) (.k (.d (.bool false)))⟩])
  (.cond (.t 47) (.seq (.reg [⟨(some 2), none, .mov (.k (.d (.bool false)))⟩])
    .ret)
  .skip))
  (.seq (.reg [⟨(some 48), none, .fadr 4 (.t 1)⟩,
    ⟨(some 49), none, .load 1 false (.t 48)⟩,
    ⟨(some 50), none, .bin .eql (.t 49) (.k (.d (.int .i64 0)))⟩,
    ⟨(some 51), none, .mov (.t 50)⟩,
    ⟨(some 52), (some (51, true)), .fadr 5 (.t 1)⟩,
    ⟨(some 53), (some (51, true)), .load 1 false (.t 52)⟩,
    ⟨(some 54), (some (51, true)), .call 43 [(.t 53), (.k (.d (.int .i64 0))), (.k (.d (.int .i64 1000000000000000)))]⟩,
    ⟨(some 55), none, .pick (.t 51) (.t 54) (.k (.d (.bool false)))⟩,
    ⟨(some 56), none, .mov (.t 55)⟩,
    ⟨(some 57), (some (56, true)), .fadr 6 (.t 1)⟩,
    ⟨(some 58), (some (56, true)), .load 1 false (.t 57)⟩,
    ⟨(some 59), (some (56, true)), .call 43 [(.t 58), (.k (.d (.int .i64 1))), (.k (.d (.int .i64 1000000000000000)))]⟩,
    ⟨(some 60), none, .pick (.t 56) (.t 59) (.k (.d (.bool false)))⟩,
    ⟨(some 61), none, .mov (.t 60)⟩,
    ⟨(some 62), (some (61, true)), .fadr 7 (.t 1)⟩,
    ⟨(some 63), (some (61, true)), .load 1 false (.t 62)⟩,
    ⟨(some 64), (some (61, true)), .call 43 [(.t 63), (.k (.d (.int .i64 0))), (.k (.d (.int .i64 100)))]⟩,
    ⟨(some 65), none, .pick (.t 61) (.t 64) (.k (.d (.bool false)))⟩,
    ⟨(some 2), none, .mov (.t 65)⟩])
  .ret)))))
def rs27 : List RV := [.tmp 2]
theorem ok27 : okF Try.prog 27 = true := by kernel_rfl
theorem cc27 : cCode Try.prog Try.f27.ntmps (Try.f27.body.getD .skip) = some c27 := by kernel_rfl
theorem cr27 : cRess Try.prog Try.f27.results.toList = some rs27 := by kernel_rfl
theorem pure27 {args : List V} {res : V} (hlen : args.length ≤ 66) (hna : namesL args = []) (hnr : res.names = []) (h : ∀ c : Ctx, c.P = Try.prog → c.fn = [] → vcC c c27 ⟨initE 0 args, [], []⟩ (RetK c rs27 res [])) : Ctr Try.prog 27 args [] res [] [] :=
  ctr_pure Try.func27 ok27 rfl cc27 cr27 Try.ntmps27 hlen hna hnr h
theorem own27 {args : List V} {ins outs : List (Nat × Own)} {res : V} {new : List Nat} (hlen : args.length ≤ 66) (hf : ctrB args ins res outs new = true) (h : ∀ c : Ctx, c.P = Try.prog → c.fn = namesL args ++ ownNames ins → vcC c c27 ⟨initE 0 args, ins, namesL args ++ ownNames ins⟩ (RetK c rs27 res outs)) : Ctr Try.prog 27 args ins res outs new :=
  ctr_own Try.func27 ok27 rfl cc27 cr27 Try.ntmps27 hlen hf h

/-- bordereau/quota.Loss -/
def c28 : C :=
  (.seq (.reg [⟨(some 1), none, .box 38 (.t 0)⟩,
    ⟨(some 2), none, .mov (.k (.d (.bool false)))⟩])
  (.seq (.reg [⟨(some 3), none, .build [.d (.int .i64 0), .d (.int .i64 0)] [(0, 1, (.k (.d (.int .i64 1)))), (1, 1, (.k (.d (.int .i64 1000000000))))]⟩,
    ⟨(some 4), none, .fadr 0 (.t 1)⟩,
    ⟨(some 5), none, .load 1 false (.t 4)⟩,
    ⟨(some 6), none, .bslice 3 1 1 [(.t 5)]⟩,
    ⟨(some 7), none, .call 41 [(.t 3), (.t 6)]⟩,
    ⟨(some 8), none, .mov (.t 7)⟩,
    ⟨(some 9), (some (8, true)), .build [.d (.int .i64 0), .d (.int .i64 0)] [(0, 1, (.k (.d (.int .i64 0)))), (1, 1, (.k (.d (.int .i64 1000000000))))]⟩,
    ⟨(some 10), (some (8, true)), .fadr 1 (.t 1)⟩,
    ⟨(some 11), (some (8, true)), .load 1 false (.t 10)⟩,
    ⟨(some 12), (some (8, true)), .bslice 3 1 1 [(.t 11)]⟩,
    ⟨(some 13), (some (8, true)), .call 41 [(.t 9), (.t 12)]⟩,
    ⟨(some 14), none, .pick (.t 8) (.t 13) (.k (.d (.bool false)))⟩,
    ⟨(some 15), none, .mov (.t 14)⟩,
    ⟨(some 16), (some (15, true)), .build [.d (.int .i64 0), .d (.int .i64 0)] [(0, 1, (.k (.d (.int .i64 1)))), (1, 1, (.k (.d (.int .i64 292194))))]⟩,
    ⟨(some 17), (some (15, true)), .fadr 2 (.t 1)⟩,
    ⟨(some 18), (some (15, true)), .load 1 false (.t 17)⟩,
    ⟨(some 19), (some (15, true)), .bslice 3 1 1 [(.t 18)]⟩,
    ⟨(some 20), (some (15, true)), .call 41 [(.t 16), (.t 19)]⟩,
    ⟨(some 21), none, .pick (.t 15) (.t 20) (.k (.d (.bool false)))⟩,
    ⟨(some 22), none, .mov (.t 21)⟩,
    ⟨(some 23), (some (22, true)), .build [.d (.int .i64 0), .d (.int .i64 0)] [(0, 1, (.k (.d (.int .i64 0)))), (1, 1, (.k (.d (.int .i64 7))))]⟩,
    ⟨(some 24), (some (22, true)), .fadr 3 (.t 1)⟩,
    ⟨(some 25), (some (22, true)), .load 1 false (.t 24)⟩,
    ⟨(some 26), (some (22, true)), .bslice 3 1 1 [(.t 25)]⟩,
    ⟨(some 27), (some (22, true)), .call 41 [(.t 23), (.t 26)]⟩,
    ⟨(some 28), none, .pick (.t 22) (.t 27) (.k (.d (.bool false)))⟩,
    ⟨(some 29), none, .mov (.t 28)⟩,
    ⟨(some 30), (some (29, true)), .build [.d (.int .i64 0), .d (.int .i64 0)] [(0, 1, (.k (.d (.int .i64 0)))), (1, 1, (.k (.d (.int .i64 1000000000000000))))]⟩,
    ⟨(some 31), (some (29, true)), .fadr 4 (.t 1)⟩,
    ⟨(some 32), (some (29, true)), .load 1 false (.t 31)⟩,
    ⟨(some 33), (some (29, true)), .bslice 3 1 1 [(.t 32)]⟩,
    ⟨(some 34), (some (29, true)), .call 41 [(.t 30), (.t 33)]⟩,
    ⟨(some 35), none, .pick (.t 29) (.t 34) (.k (.d (.bool false)))⟩,
    ⟨(some 2), none, .mov (.t 35)⟩])
  .ret))
def rs28 : List RV := [.tmp 2]
theorem ok28 : okF Try.prog 28 = true := by kernel_rfl
theorem cc28 : cCode Try.prog Try.f28.ntmps (Try.f28.body.getD .skip) = some c28 := by kernel_rfl
theorem cr28 : cRess Try.prog Try.f28.results.toList = some rs28 := by kernel_rfl
theorem pure28 {args : List V} {res : V} (hlen : args.length ≤ 36) (hna : namesL args = []) (hnr : res.names = []) (h : ∀ c : Ctx, c.P = Try.prog → c.fn = [] → vcC c c28 ⟨initE 0 args, [], []⟩ (RetK c rs28 res [])) : Ctr Try.prog 28 args [] res [] [] :=
  ctr_pure Try.func28 ok28 rfl cc28 cr28 Try.ntmps28 hlen hna hnr h
theorem own28 {args : List V} {ins outs : List (Nat × Own)} {res : V} {new : List Nat} (hlen : args.length ≤ 36) (hf : ctrB args ins res outs new = true) (h : ∀ c : Ctx, c.P = Try.prog → c.fn = namesL args ++ ownNames ins → vcC c c28 ⟨initE 0 args, ins, namesL args ++ ownNames ins⟩ (RetK c rs28 res outs)) : Ctr Try.prog 28 args ins res outs new :=
  ctr_own Try.func28 ok28 rfl cc28 cr28 Try.ntmps28 hlen hf h

/-- bordereau/bordereauref23.Loss -/
def c29 : C :=
  (.seq (.reg [⟨(some 1), none, .box 38 (.t 0)⟩,
    ⟨(some 2), none, .mov (.k (.d (.bool false)))⟩])
  (.seq (.reg [⟨(some 3), none, .fadr 0 (.t 1)⟩,
    ⟨(some 4), none, .load 1 false (.t 3)⟩,
    ⟨(some 5), none, .call 43 [(.t 4), (.k (.d (.int .i64 1))), (.k (.d (.int .i64 1000000000)))]⟩,
    ⟨(some 6), none, .mov (.t 5)⟩,
    ⟨(some 7), (some (6, true)), .fadr 1 (.t 1)⟩,
    ⟨(some 8), (some (6, true)), .load 1 false (.t 7)⟩,
    ⟨(some 9), (some (6, true)), .call 43 [(.t 8), (.k (.d (.int .i64 0))), (.k (.d (.int .i64 1000000000)))]⟩,
    ⟨(some 10), none, .pick (.t 6) (.t 9) (.k (.d (.bool false)))⟩,
    ⟨(some 11), none, .mov (.t 10)⟩,
    ⟨(some 12), (some (11, true)), .fadr 2 (.t 1)⟩,
    ⟨(some 13), (some (11, true)), .load 1 false (.t 12)⟩,
    ⟨(some 14), (some (11, true)), .call 43 [(.t 13), (.k (.d (.int .i64 1))), (.k (.d (.int .i64 292194)))]⟩,
    ⟨(some 15), none, .pick (.t 11) (.t 14) (.k (.d (.bool false)))⟩,
    ⟨(some 16), none, .mov (.t 15)⟩,
    ⟨(some 17), (some (16, true)), .fadr 3 (.t 1)⟩,
    ⟨(some 18), (some (16, true)), .load 1 false (.t 17)⟩,
    ⟨(some 19), (some (16, true)), .call 43 [(.t 18), (.k (.d (.int .i64 0))), (.k (.d (.int .i64 7)))]⟩,
    ⟨(some 20), none, .pick (.t 16) (.t 19) (.k (.d (.bool false)))⟩,
    ⟨(some 21), none, .mov (.t 20)⟩,
    ⟨(some 22), (some (21, true)), .fadr 4 (.t 1)⟩,
    ⟨(some 23), (some (21, true)), .load 1 false (.t 22)⟩,
    ⟨(some 24), (some (21, true)), .call 43 [(.t 23), (.k (.d (.int .i64 0))), (.k (.d (.int .i64 1000000000000000)))]⟩,
    ⟨(some 25), none, .pick (.t 21) (.t 24) (.k (.d (.bool false)))⟩,
    ⟨(some 2), none, .mov (.t 25)⟩])
  .ret))
def rs29 : List RV := [.tmp 2]
theorem ok29 : okF Try.prog 29 = true := by kernel_rfl
theorem cc29 : cCode Try.prog Try.f29.ntmps (Try.f29.body.getD .skip) = some c29 := by kernel_rfl
theorem cr29 : cRess Try.prog Try.f29.results.toList = some rs29 := by kernel_rfl
theorem pure29 {args : List V} {res : V} (hlen : args.length ≤ 26) (hna : namesL args = []) (hnr : res.names = []) (h : ∀ c : Ctx, c.P = Try.prog → c.fn = [] → vcC c c29 ⟨initE 0 args, [], []⟩ (RetK c rs29 res [])) : Ctr Try.prog 29 args [] res [] [] :=
  ctr_pure Try.func29 ok29 rfl cc29 cr29 Try.ntmps29 hlen hna hnr h
theorem own29 {args : List V} {ins outs : List (Nat × Own)} {res : V} {new : List Nat} (hlen : args.length ≤ 26) (hf : ctrB args ins res outs new = true) (h : ∀ c : Ctx, c.P = Try.prog → c.fn = namesL args ++ ownNames ins → vcC c c29 ⟨initE 0 args, ins, namesL args ++ ownNames ins⟩ (RetK c rs29 res outs)) : Ctr Try.prog 29 args ins res outs new :=
  ctr_own Try.func29 ok29 rfl cc29 cr29 Try.ntmps29 hlen hf h

/-- bordereau/bordereauref23.Takes -/
def c30 : C :=
  (.seq (.reg [⟨(some 2), none, .box 25 (.t 0)⟩,
    ⟨(some 3), none, .box 38 (.t 1)⟩,
    ⟨(some 4), none, .mov (.k (.d (.bool false)))⟩])
  (.seq (.reg [⟨(some 5), none, .load 9 true (.t 2)⟩,
    ⟨(some 6), none, .call 27 [(.t 5)]⟩,
    ⟨(some 7), none, .mov (.t 6)⟩,
    ⟨(some 8), (some (7, true)), .load 5 true (.t 3)⟩,
    ⟨(some 9), (some (7, true)), .call 29 [(.t 8)]⟩,
    ⟨(some 10), none, .pick (.t 7) (.t 9) (.k (.d (.bool false)))⟩,
    ⟨(some 11), none, .mov (.t 10)⟩,
    ⟨(some 12), (some (11, true)), .fadr 2 (.t 2)⟩,
    ⟨(some 13), (some (11, true)), .load 2 true (.t 12)⟩,
    ⟨(some 14), (some (11, true)), .fadr 2 (.t 3)⟩,
    ⟨(some 15), (some (11, true)), .load 1 false (.t 14)⟩,
    ⟨(some 16), (some (11, true)), .call 45 [(.t 13), (.t 15)]⟩,
    ⟨(some 17), none, .pick (.t 11) (.t 16) (.k (.d (.bool false)))⟩,
    ⟨(some 18), none, .mov (.t 17)⟩,
    ⟨(some 19), (some (18, true)), .fadr 8 (.t 2)⟩,
    ⟨(some 20), (some (18, true)), .load 1 false (.t 19)⟩,
    ⟨(some 21), (some (18, true)), .fadr 3 (.t 3)⟩,
    ⟨(some 22), (some (18, true)), .load 1 false (.t 21)⟩,
    ⟨(some 23), (some (18, true)), .call 46 [(.t 20), (.t 22)]⟩,
    ⟨(some 24), none, .pick (.t 18) (.t 23) (.k (.d (.bool false)))⟩,
    ⟨(some 4), none, .mov (.t 24)⟩])
  .ret))
def rs30 : List RV := [.tmp 4]
theorem ok30 : okF Try.prog 30 = true := by kernel_rfl
theorem cc30 : cCode Try.prog Try.f30.ntmps (Try.f30.body.getD .skip) = some c30 := by kernel_rfl
theorem cr30 : cRess Try.prog Try.f30.results.toList = some rs30 := by kernel_rfl
theorem pure30 {args : List V} {res : V} (hlen : args.length ≤ 25) (hna : namesL args = []) (hnr : res.names = []) (h : ∀ c : Ctx, c.P = Try.prog → c.fn = [] → vcC c c30 ⟨initE 0 args, [], []⟩ (RetK c rs30 res [])) : Ctr Try.prog 30 args [] res [] [] :=
  ctr_pure Try.func30 ok30 rfl cc30 cr30 Try.ntmps30 hlen hna hnr h
theorem own30 {args : List V} {ins outs : List (Nat × Own)} {res : V} {new : List Nat} (hlen : args.length ≤ 25) (hf : ctrB args ins res outs new = true) (h : ∀ c : Ctx, c.P = Try.prog → c.fn = namesL args ++ ownNames ins → vcC c c30 ⟨initE 0 args, ins, namesL args ++ ownNames ins⟩ (RetK c rs30 res outs)) : Ctr Try.prog 30 args ins res outs new :=
  ctr_own Try.func30 ok30 rfl cc30 cr30 Try.ntmps30 hlen hf h

/-- bordereau/quota.Bears -/
def c31 : C :=
  (.seq (.reg [⟨(some 2), none, .box 25 (.t 0)⟩,
    ⟨(some 3), none, .box 38 (.t 1)⟩,
    ⟨(some 4), none, .mov (.k (.d (.int .i64 0)))⟩,
    ⟨(some 5), none, .mov (.k (.d (.bool false)))⟩])
  (.seq (.seq (.reg [⟨(some 8), none, .fadr 1 (.t 2)⟩,
    ⟨(some 9), none, .load 1 false (.t 8)⟩,
    ⟨(some 10), none, .bin .neq (.t 9) (.k (.d (.int .i64 1)))⟩,
    ⟨(some 11), none, .mov (.t 10)⟩,
    ⟨(some 12), (some (11, false)), .load 9 true (.t 2)⟩,
    ⟨(some 13), (some (11, false)), .load 5 true (.t 3)⟩,
    ⟨(some 14), (some (11, false)), .call 23 [(.t 12), (.t 13)]⟩,
    ⟨(some 15), (some (11, false)), .inv .not (.t 14)⟩,
    ⟨(some 16), none, .pick (.t 11) (.k (.d (.bool true))) (.t 15)⟩])
  (.cond (.t 16) (.seq (.reg [⟨(some 4), none, .mov (.k (.d (.int .i64 0)))⟩,
      ⟨(some 5), none, .mov (.k (.d (.bool false)))⟩])
    .ret)
  .skip))
  (.seq (.reg [⟨(some 18), none, .fadr 4 (.t 3)⟩,
    ⟨(some 19), none, .load 1 false (.t 18)⟩,
    ⟨(some 20), none, .fadr 4 (.t 2)⟩,
    ⟨(some 21), none, .load 1 false (.t 20)⟩,
    ⟨(some 22), none, .call 47 [(.t 19), (.t 21)]⟩,
    ⟨(some 17), none, .mov (.t 22)⟩,
    ⟨(some 23), none, .ext 0 (.t 17)⟩,
    ⟨(some 24), none, .ext 1 (.t 17)⟩,
    ⟨(some 6), none, .mov (.t 23)⟩,
    ⟨(some 7), none, .mov (.t 24)⟩])
  (.seq (.reg [⟨(some 25), none, .mov (.t 6)⟩,
    ⟨(some 4), none, .mov (.t 25)⟩,
    ⟨(some 5), none, .mov (.k (.d (.bool true)))⟩])
  .ret))))
def rs31 : List RV := [.tmp 4, .tmp 5]
theorem ok31 : okF Try.prog 31 = true := by kernel_rfl
theorem cc31 : cCode Try.prog Try.f31.ntmps (Try.f31.body.getD .skip) = some c31 := by kernel_rfl
theorem cr31 : cRess Try.prog Try.f31.results.toList = some rs31 := by kernel_rfl
theorem pure31 {args : List V} {res : V} (hlen : args.length ≤ 26) (hna : namesL args = []) (hnr : res.names = []) (h : ∀ c : Ctx, c.P = Try.prog → c.fn = [] → vcC c c31 ⟨initE 0 args, [], []⟩ (RetK c rs31 res [])) : Ctr Try.prog 31 args [] res [] [] :=
  ctr_pure Try.func31 ok31 rfl cc31 cr31 Try.ntmps31 hlen hna hnr h
theorem own31 {args : List V} {ins outs : List (Nat × Own)} {res : V} {new : List Nat} (hlen : args.length ≤ 26) (hf : ctrB args ins res outs new = true) (h : ∀ c : Ctx, c.P = Try.prog → c.fn = namesL args ++ ownNames ins → vcC c c31 ⟨initE 0 args, ins, namesL args ++ ownNames ins⟩ (RetK c rs31 res outs)) : Ctr Try.prog 31 args ins res outs new :=
  ctr_own Try.func31 ok31 rfl cc31 cr31 Try.ntmps31 hlen hf h

/-- bordereau/bordereauref23.Bears -/
def c32 : C :=
  (.seq (.reg [⟨(some 2), none, .box 25 (.t 0)⟩,
    ⟨(some 3), none, .box 38 (.t 1)⟩,
    ⟨(some 4), none, .mov (.k (.d (.int .i64 0)))⟩,
    ⟨(some 5), none, .mov (.k (.d (.bool false)))⟩])
  (.seq (.seq (.reg [⟨(some 8), none, .fadr 1 (.t 2)⟩,
    ⟨(some 9), none, .load 1 false (.t 8)⟩,
    ⟨(some 10), none, .bin .neq (.t 9) (.k (.d (.int .i64 1)))⟩,
    ⟨(some 11), none, .mov (.t 10)⟩,
    ⟨(some 12), (some (11, false)), .load 9 true (.t 2)⟩,
    ⟨(some 13), (some (11, false)), .load 5 true (.t 3)⟩,
    ⟨(some 14), (some (11, false)), .call 30 [(.t 12), (.t 13)]⟩,
    ⟨(some 15), (some (11, false)), .inv .not (.t 14)⟩,
    ⟨(some 16), none, .pick (.t 11) (.k (.d (.bool true))) (.t 15)⟩])
  (.cond (.t 16) (.seq (.reg [⟨(some 4), none, .mov (.k (.d (.int .i64 0)))⟩,
      ⟨(some 5), none, .mov (.k (.d (.bool false)))⟩])
    .ret)
  .skip))
  (.seq (.reg [⟨(some 18), none, .fadr 4 (.t 3)⟩,
    ⟨(some 19), none, .load 1 false (.t 18)⟩,
    ⟨(some 20), none, .fadr 4 (.t 2)⟩,
    ⟨(some 21), none, .load 1 false (.t 20)⟩,
    ⟨(some 22), none, .call 48 [(.t 19), (.t 21)]⟩,
    ⟨(some 17), none, .mov (.t 22)⟩,
    ⟨(some 23), none, .ext 0 (.t 17)⟩,
    ⟨(some 24), none, .ext 1 (.t 17)⟩,
    ⟨(some 6), none, .mov (.t 23)⟩,
    ⟨(some 7), none, .mov (.t 24)⟩])
  (.seq (.reg [⟨(some 25), none, .mov (.t 6)⟩,
    ⟨(some 4), none, .mov (.t 25)⟩,
    ⟨(some 5), none, .mov (.k (.d (.bool true)))⟩])
  .ret))))
def rs32 : List RV := [.tmp 4, .tmp 5]
theorem ok32 : okF Try.prog 32 = true := by kernel_rfl
theorem cc32 : cCode Try.prog Try.f32.ntmps (Try.f32.body.getD .skip) = some c32 := by kernel_rfl
theorem cr32 : cRess Try.prog Try.f32.results.toList = some rs32 := by kernel_rfl
theorem pure32 {args : List V} {res : V} (hlen : args.length ≤ 26) (hna : namesL args = []) (hnr : res.names = []) (h : ∀ c : Ctx, c.P = Try.prog → c.fn = [] → vcC c c32 ⟨initE 0 args, [], []⟩ (RetK c rs32 res [])) : Ctr Try.prog 32 args [] res [] [] :=
  ctr_pure Try.func32 ok32 rfl cc32 cr32 Try.ntmps32 hlen hna hnr h
theorem own32 {args : List V} {ins outs : List (Nat × Own)} {res : V} {new : List Nat} (hlen : args.length ≤ 26) (hf : ctrB args ins res outs new = true) (h : ∀ c : Ctx, c.P = Try.prog → c.fn = namesL args ++ ownNames ins → vcC c c32 ⟨initE 0 args, ins, namesL args ++ ownNames ins⟩ (RetK c rs32 res outs)) : Ctr Try.prog 32 args ins res outs new :=
  ctr_own Try.func32 ok32 rfl cc32 cr32 Try.ntmps32 hlen hf h

/-- bordereau/quota.Net -/
def c33 : C :=
  (.seq (.reg [⟨(some 3), none, .box 38 (.t 1)⟩,
    ⟨(some 4), none, .mov (.k (.d (.int .i64 0)))⟩,
    ⟨(some 5), none, .mov (.k (.d (.int .i64 0)))⟩])
  (.seq (.reg [⟨(some 6), none, .mov (.k (.d (.sl true 0 0 fun _ => [])))⟩,
    ⟨(some 7), none, .mov (.k (.d (.sl true 0 0 fun _ => [])))⟩])
  (.seq (.seq (.reg [⟨(some 12), none, .mov (.t 0)⟩,
    ⟨(some 13), none, .len (.t 12)⟩,
    ⟨(some 14), none, .mov (.k (.d (.int .i64 0)))⟩])
  (.block 0 (.loop (.seq (.reg [⟨(some 15), none, .bin .lss (.t 14) (.t 13)⟩])
      (.seq (.cond (.t 15) .skip
      (.exit 0))
      (.seq (.block 1 (.seq (.reg [⟨(some 16), none, .iadr 9 (.t 12) (.t 14)⟩,
          ⟨(some 17), none, .load 9 true (.t 16)⟩,
          ⟨(some 9), none, .alloc 25 [.d (.int .i64 0), .d (.int .i64 0), .d (.int .i64 0), .d (.int .i64 0), .d (.int .i64 0), .d (.int .i64 0), .d (.int .i64 0), .d (.int .i64 0), .d (.int .i64 0)]⟩,
          ⟨none, none, .store 9 (.t 9) (.t 17)⟩])
        (.seq (.seq (.reg [⟨(some 18), none, .fadr 1 (.t 9)⟩,
          ⟨(some 19), none, .load 1 false (.t 18)⟩,
          ⟨(some 20), none, .bin .neq (.t 19) (.k (.d (.int .i64 1)))⟩,
          ⟨(some 21), none, .mov (.t 20)⟩,
          ⟨(some 22), (some (21, false)), .load 9 true (.t 9)⟩,
          ⟨(some 23), (some (21, false)), .call 26 [(.t 22)]⟩,
          ⟨(some 24), (some (21, false)), .inv .not (.t 23)⟩,
          ⟨(some 25), none, .pick (.t 21) (.k (.d (.bool true))) (.t 24)⟩])
        (.cond (.t 25) (.seq (.reg [⟨(some 4), none, .mov (.k (.d (.int .i64 0)))⟩,
            ⟨(some 5), none, .mov (.k (.d (.int .i64 1)))⟩])
          .ret)
        .skip))
        (.seq (.reg [⟨(some 27), none, .load 9 true (.t 9)⟩,
          ⟨(some 28), none, .load 5 true (.t 3)⟩,
          ⟨(some 29), none, .call 31 [(.t 27), (.t 28)]⟩,
          ⟨(some 26), none, .mov (.t 29)⟩,
          ⟨(some 30), none, .ext 0 (.t 26)⟩,
          ⟨(some 31), none, .ext 1 (.t 26)⟩,
          ⟨(some 10), none, .mov (.t 30)⟩,
          ⟨(some 11), none, .mov (.t 31)⟩])
        (.seq (.reg [⟨(some 32), none, .mov (.t 11)⟩])
        (.cond (.t 32) (.reg [⟨(some 33), none, .mov (.t 6)⟩,
            ⟨(some 34), none, .fadr 4 (.t 9)⟩,
            ⟨(some 35), none, .load 1 false (.t 34)⟩,
            ⟨(some 36), none, .bslice 3 1 1 [(.t 35)]⟩,
            ⟨(some 37), none, .app 3 1 8 (.t 33) (.t 36)⟩,
            ⟨(some 38), none, .mov (.t 7)⟩,
            ⟨(some 39), none, .mov (.t 10)⟩,
            ⟨(some 40), none, .bslice 3 1 1 [(.t 39)]⟩,
            ⟨(some 41), none, .app 3 1 8 (.t 38) (.t 40)⟩,
            ⟨(some 6), none, .mov (.t 37)⟩,
            ⟨(some 7), none, .mov (.t 41)⟩])
        .skip))))))
      (.reg [⟨(some 42), none, .bin .add (.t 14) (.k (.d (.int .i64 1)))⟩,
        ⟨(some 14), none, .mov (.t 42)⟩])))))))
  (.seq (.block 2 (.seq (.reg [⟨(some 44), none, .load 5 true (.t 3)⟩,
      ⟨(some 45), none, .call 28 [(.t 44)]⟩,
      ⟨(some 46), none, .inv .not (.t 45)⟩,
      ⟨(some 43), none, .mov (.t 46)⟩])
    (.cond (.t 43) (.seq (.reg [⟨(some 4), none, .mov (.k (.d (.int .i64 0)))⟩,
        ⟨(some 5), none, .mov (.k (.d (.int .i64 1)))⟩])
      .ret)
    (.seq (.reg [⟨(some 48), none, .mov (.t 6)⟩,
        ⟨(some 49), none, .call 49 [(.t 48)]⟩,
        ⟨(some 50), none, .bin .gtr (.t 49) (.k (.d (.int .i64 10000)))⟩,
        ⟨(some 47), none, .mov (.t 50)⟩])
      (.cond (.t 47) (.seq (.reg [⟨(some 4), none, .mov (.k (.d (.int .i64 0)))⟩,
          ⟨(some 5), none, .mov (.k (.d (.int .i64 13)))⟩])
        .ret)
      .skip)))))
  (.seq (.drw [0, 1, 0, 4, 15, 31, 63, 127]
   [⟨(some 51), none, .fadr 4 (.t 3)⟩,
    ⟨(some 52), none, .load 1 false (.t 51)⟩,
    ⟨(some 53), none, .mov (.t 7)⟩,
    ⟨(some 54), none, .call 49 [(.t 53)]⟩,
    ⟨(some 55), none, .bin .sub (.t 52) (.t 54)⟩,
    ⟨(some 56), none, .mm true (.k (.d (.int .i64 0))) (.t 55)⟩,
    ⟨(some 4), none, .mov (.t 56)⟩,
    ⟨(some 5), none, .mov (.k (.d (.int .i64 0)))⟩])
  .ret)))))
def rs33 : List RV := [.tmp 4, .tmp 5]
theorem ok33 : okF Try.prog 33 = true := by kernel_rfl
theorem cc33 : cCode Try.prog Try.f33.ntmps (Try.f33.body.getD .skip) = some c33 := by kernel_rfl
theorem cr33 : cRess Try.prog Try.f33.results.toList = some rs33 := by kernel_rfl
theorem pure33 {args : List V} {res : V} (hlen : args.length ≤ 57) (hna : namesL args = []) (hnr : res.names = []) (h : ∀ c : Ctx, c.P = Try.prog → c.fn = [] → vcC c c33 ⟨initE 0 args, [], []⟩ (RetK c rs33 res [])) : Ctr Try.prog 33 args [] res [] [] :=
  ctr_pure Try.func33 ok33 rfl cc33 cr33 Try.ntmps33 hlen hna hnr h
theorem own33 {args : List V} {ins outs : List (Nat × Own)} {res : V} {new : List Nat} (hlen : args.length ≤ 57) (hf : ctrB args ins res outs new = true) (h : ∀ c : Ctx, c.P = Try.prog → c.fn = namesL args ++ ownNames ins → vcC c c33 ⟨initE 0 args, ins, namesL args ++ ownNames ins⟩ (RetK c rs33 res outs)) : Ctr Try.prog 33 args ins res outs new :=
  ctr_own Try.func33 ok33 rfl cc33 cr33 Try.ntmps33 hlen hf h

/-- bordereau/bordereauref23.Net -/
def c34 : C :=
  (.seq (.reg [⟨(some 3), none, .box 38 (.t 1)⟩,
    ⟨(some 4), none, .mov (.k (.d (.int .i64 0)))⟩,
    ⟨(some 5), none, .mov (.k (.d (.int .i64 0)))⟩])
  (.seq (.reg [⟨(some 6), none, .mov (.k (.d (.int .i64 0)))⟩])
  (.seq (.reg [⟨(some 11), none, .fadr 4 (.t 3)⟩,
    ⟨(some 12), none, .load 1 false (.t 11)⟩,
    ⟨(some 7), none, .mov (.t 12)⟩])
  (.seq (.seq (.reg [⟨(some 8), none, .mov (.k (.d (.int .i64 0)))⟩])
  (.block 0 (.loop (.seq (.seq (.reg [⟨(some 13), none, .mov (.t 8)⟩,
        ⟨(some 14), none, .mov (.t 0)⟩,
        ⟨(some 15), none, .len (.t 14)⟩,
        ⟨(some 16), none, .bin .lss (.t 13) (.t 15)⟩])
      (.cond (.t 16) .skip
      (.exit 0)))
      (.seq (.block 1 (.seq (.seq (.reg [⟨(some 19), none, .mov (.t 0)⟩,
          ⟨(some 20), none, .mov (.t 8)⟩,
          ⟨(some 21), none, .iadr 9 (.t 19) (.t 20)⟩,
          ⟨(some 22), none, .fadr 1 (.t 21)⟩,
          ⟨(some 23), none, .load 1 false (.t 22)⟩,
          ⟨(some 24), none, .bin .neq (.t 23) (.k (.d (.int .i64 1)))⟩,
          ⟨(some 25), none, .mov (.t 24)⟩,
          ⟨(some 26), (some (25, false)), .mov (.t 0)⟩,
          ⟨(some 27), (some (25, false)), .mov (.t 8)⟩,
          ⟨(some 28), (some (25, false)), .iadr 9 (.t 26) (.t 27)⟩,
          ⟨(some 29), (some (25, false)), .load 9 true (.t 28)⟩,
          ⟨(some 30), (some (25, false)), .call 27 [(.t 29)]⟩,
          ⟨(some 31), (some (25, false)), .inv .not (.t 30)⟩,
          ⟨(some 32), none, .pick (.t 25) (.k (.d (.bool true))) (.t 31)⟩])
        (.cond (.t 32) (.seq (.reg [⟨(some 4), none, .mov (.k (.d (.int .i64 0)))⟩,
            ⟨(some 5), none, .mov (.k (.d (.int .i64 1)))⟩])
          .ret)
        .skip))
        (.seq (.drw [0, 0, 3, 7, 0, 31, 63, 127, 127, 255, 1023]
         [⟨(some 34), none, .mov (.t 0)⟩,
          ⟨(some 35), none, .mov (.t 8)⟩,
          ⟨(some 36), none, .iadr 9 (.t 34) (.t 35)⟩,
          ⟨(some 37), none, .load 9 true (.t 36)⟩,
          ⟨(some 38), none, .load 5 true (.t 3)⟩,
          ⟨(some 39), none, .call 32 [(.t 37), (.t 38)]⟩,
          ⟨(some 33), none, .mov (.t 39)⟩,
          ⟨(some 40), none, .ext 0 (.t 33)⟩,
          ⟨(some 41), none, .ext 1 (.t 33)⟩,
          ⟨(some 9), none, .mov (.t 40)⟩,
          ⟨(some 10), none, .mov (.t 41)⟩])
        (.seq (.reg [⟨(some 42), none, .mov (.t 10)⟩])
        (.cond (.t 42) (.seq (.reg [⟨(some 43), none, .mov (.t 6)⟩,
            ⟨(some 44), none, .mov (.t 0)⟩,
            ⟨(some 45), none, .mov (.t 8)⟩,
            ⟨(some 46), none, .iadr 9 (.t 44) (.t 45)⟩,
            ⟨(some 47), none, .fadr 4 (.t 46)⟩,
            ⟨(some 48), none, .load 1 false (.t 47)⟩,
            ⟨(some 49), none, .bin .add (.t 43) (.t 48)⟩,
            ⟨(some 6), none, .mov (.t 49)⟩])
          (.reg [⟨(some 50), none, .mov (.t 7)⟩,
            ⟨(some 51), none, .mov (.t 9)⟩,
            ⟨(some 52), none, .bin .sub (.t 50) (.t 51)⟩,
            ⟨(some 7), none, .mov (.t 52)⟩]))
        .skip)))))
      (.reg [⟨(some 17), none, .mov (.t 8)⟩,
        ⟨(some 18), none, .bin .add (.t 17) (.k (.d (.int .i64 1)))⟩,
        ⟨(some 8), none, .mov (.t 18)⟩]))))))
  (.seq (.seq (.reg [⟨(some 53), none, .load 5 true (.t 3)⟩,
    ⟨(some 54), none, .call 29 [(.t 53)]⟩,
    ⟨(some 55), none, .inv .not (.t 54)⟩])
  (.cond (.t 55) (.seq (.reg [⟨(some 4), none, .mov (.k (.d (.int .i64 0)))⟩,
      ⟨(some 5), none, .mov (.k (.d (.int .i64 1)))⟩])
    .ret)
  .skip))
  (.seq (.seq (.reg [⟨(some 56), none, .mov (.t 6)⟩,
    ⟨(some 57), none, .bin .gtr (.t 56) (.k (.d (.int .i64 10000)))⟩])
  (.cond (.t 57) (.seq (.reg [⟨(some 4), none, .mov (.k (.d (.int .i64 0)))⟩,
      ⟨(some 5), none, .mov (.k (.d (.int .i64 13)))⟩])
    .ret)
  .skip))
  (.seq (.seq (.reg [⟨(some 58), none, .mov (.t 7)⟩,
    ⟨(some 59), none, .bin .lss (.t 58) (.k (.d (.int .i64 0)))⟩])
  (.cond (.t 59) (.reg [⟨(some 7), none, .mov (.k (.d (.int .i64 0)))⟩])
  .skip))
  (.seq (.reg [⟨(some 60), none, .mov (.t 7)⟩,
    ⟨(some 4), none, .mov (.t 60)⟩,
    ⟨(some 5), none, .mov (.k (.d (.int .i64 0)))⟩])
  .ret))))))))
def rs34 : List RV := [.tmp 4, .tmp 5]
theorem ok34 : okF Try.prog 34 = true := by kernel_rfl
theorem cc34 : cCode Try.prog Try.f34.ntmps (Try.f34.body.getD .skip) = some c34 := by kernel_rfl
theorem cr34 : cRess Try.prog Try.f34.results.toList = some rs34 := by kernel_rfl
theorem pure34 {args : List V} {res : V} (hlen : args.length ≤ 61) (hna : namesL args = []) (hnr : res.names = []) (h : ∀ c : Ctx, c.P = Try.prog → c.fn = [] → vcC c c34 ⟨initE 0 args, [], []⟩ (RetK c rs34 res [])) : Ctr Try.prog 34 args [] res [] [] :=
  ctr_pure Try.func34 ok34 rfl cc34 cr34 Try.ntmps34 hlen hna hnr h
theorem own34 {args : List V} {ins outs : List (Nat × Own)} {res : V} {new : List Nat} (hlen : args.length ≤ 61) (hf : ctrB args ins res outs new = true) (h : ∀ c : Ctx, c.P = Try.prog → c.fn = namesL args ++ ownNames ins → vcC c c34 ⟨initE 0 args, ins, namesL args ++ ownNames ins⟩ (RetK c rs34 res outs)) : Ctr Try.prog 34 args ins res outs new :=
  ctr_own Try.func34 ok34 rfl cc34 cr34 Try.ntmps34 hlen hf h

/-- bordereau/layer.Bears$1 -/
def c35 : C :=
  (.seq (.reg [⟨(some 1), none, .box 38 (.t 0)⟩,
    ⟨(some 2), none, .mov (.k (.d (.bool false)))⟩])
  (.seq (.reg [⟨(some 3), none, .load 5 true (.t 1)⟩,
    ⟨(some 4), none, .call 28 [(.t 3)]⟩,
    ⟨(some 5), none, .inv .not (.t 4)⟩,
    ⟨(some 2), none, .mov (.t 5)⟩])
  .ret))
def rs35 : List RV := [.tmp 2]
theorem ok35 : okF Try.prog 35 = true := by kernel_rfl
theorem cc35 : cCode Try.prog Try.f35.ntmps (Try.f35.body.getD .skip) = some c35 := by kernel_rfl
theorem cr35 : cRess Try.prog Try.f35.results.toList = some rs35 := by kernel_rfl
theorem pure35 {args : List V} {res : V} (hlen : args.length ≤ 6) (hna : namesL args = []) (hnr : res.names = []) (h : ∀ c : Ctx, c.P = Try.prog → c.fn = [] → vcC c c35 ⟨initE 0 args, [], []⟩ (RetK c rs35 res [])) : Ctr Try.prog 35 args [] res [] [] :=
  ctr_pure Try.func35 ok35 rfl cc35 cr35 Try.ntmps35 hlen hna hnr h
theorem own35 {args : List V} {ins outs : List (Nat × Own)} {res : V} {new : List Nat} (hlen : args.length ≤ 6) (hf : ctrB args ins res outs new = true) (h : ∀ c : Ctx, c.P = Try.prog → c.fn = namesL args ++ ownNames ins → vcC c c35 ⟨initE 0 args, ins, namesL args ++ ownNames ins⟩ (RetK c rs35 res outs)) : Ctr Try.prog 35 args ins res outs new :=
  ctr_own Try.func35 ok35 rfl cc35 cr35 Try.ntmps35 hlen hf h

/-- slices.ContainsFunc[[]bordereau/api.Loss,bordereau/api.Loss] -/
def c36 : C :=
  (.seq (.reg [⟨(some 4), none, .mov (.k (.d (.bool false)))⟩])
  (.seq (.reg [⟨(some 5), none, .mov (.t 0)⟩,
    ⟨(some 6), none, .mov (.t 1)⟩,
    ⟨(some 7), none, .call 50 [(.t 5), (.t 6)]⟩,
    ⟨(some 8), none, .bin .geq (.t 7) (.k (.d (.int .i64 0)))⟩,
    ⟨(some 4), none, .mov (.t 8)⟩])
  .ret))
def rs36 : List RV := [.tmp 4]
theorem ok36 : okF Try.prog 36 = true := by kernel_rfl
theorem cc36 : cCode Try.prog Try.f36.ntmps (Try.f36.body.getD .skip) = some c36 := by kernel_rfl
theorem cr36 : cRess Try.prog Try.f36.results.toList = some rs36 := by kernel_rfl
theorem pure36 {args : List V} {res : V} (hlen : args.length ≤ 9) (hna : namesL args = []) (hnr : res.names = []) (h : ∀ c : Ctx, c.P = Try.prog → c.fn = [] → vcC c c36 ⟨initE 0 args, [], []⟩ (RetK c rs36 res [])) : Ctr Try.prog 36 args [] res [] [] :=
  ctr_pure Try.func36 ok36 rfl cc36 cr36 Try.ntmps36 hlen hna hnr h
theorem own36 {args : List V} {ins outs : List (Nat × Own)} {res : V} {new : List Nat} (hlen : args.length ≤ 9) (hf : ctrB args ins res outs new = true) (h : ∀ c : Ctx, c.P = Try.prog → c.fn = namesL args ++ ownNames ins → vcC c c36 ⟨initE 0 args, ins, namesL args ++ ownNames ins⟩ (RetK c rs36 res outs)) : Ctr Try.prog 36 args ins res outs new :=
  ctr_own Try.func36 ok36 rfl cc36 cr36 Try.ntmps36 hlen hf h

/-- (*bordereau/layer.room).take -/
def c37 : C :=
  (.seq (.reg [⟨(some 4), none, .mov (.k (.d (.int .i64 0)))⟩])
  (.seq (.reg [⟨(some 6), none, .mov (.t 1)⟩,
    ⟨(some 7), none, .mov (.t 0)⟩,
    ⟨(some 8), none, .nilc (.t 7)⟩,
    ⟨(some 9), none, .fadr 0 (.t 8)⟩,
    ⟨(some 10), none, .load 1 false (.t 9)⟩,
    ⟨(some 11), none, .mm false (.t 6) (.t 10)⟩,
    ⟨(some 5), none, .mov (.t 11)⟩])
  (.seq (.reg [⟨(some 12), none, .mov (.t 0)⟩,
    ⟨(some 13), none, .nilc (.t 12)⟩,
    ⟨(some 14), none, .fadr 0 (.t 13)⟩,
    ⟨(some 15), none, .load 1 false (.t 14)⟩,
    ⟨(some 16), none, .mov (.t 5)⟩,
    ⟨(some 17), none, .bin .sub (.t 15) (.t 16)⟩,
    ⟨(some 18), none, .nilc (.t 12)⟩,
    ⟨(some 19), none, .fadr 0 (.t 18)⟩,
    ⟨none, none, .store 1 (.t 19) (.t 17)⟩])
  (.seq (.reg [⟨(some 20), none, .mov (.t 5)⟩,
    ⟨(some 4), none, .mov (.t 20)⟩])
  .ret))))
def rs37 : List RV := [.tmp 4]
theorem ok37 : okF Try.prog 37 = true := by kernel_rfl
theorem cc37 : cCode Try.prog Try.f37.ntmps (Try.f37.body.getD .skip) = some c37 := by kernel_rfl
theorem cr37 : cRess Try.prog Try.f37.results.toList = some rs37 := by kernel_rfl
theorem pure37 {args : List V} {res : V} (hlen : args.length ≤ 21) (hna : namesL args = []) (hnr : res.names = []) (h : ∀ c : Ctx, c.P = Try.prog → c.fn = [] → vcC c c37 ⟨initE 0 args, [], []⟩ (RetK c rs37 res [])) : Ctr Try.prog 37 args [] res [] [] :=
  ctr_pure Try.func37 ok37 rfl cc37 cr37 Try.ntmps37 hlen hna hnr h
theorem own37 {args : List V} {ins outs : List (Nat × Own)} {res : V} {new : List Nat} (hlen : args.length ≤ 21) (hf : ctrB args ins res outs new = true) (h : ∀ c : Ctx, c.P = Try.prog → c.fn = namesL args ++ ownNames ins → vcC c c37 ⟨initE 0 args, ins, namesL args ++ ownNames ins⟩ (RetK c rs37 res outs)) : Ctr Try.prog 37 args ins res outs new :=
  ctr_own Try.func37 ok37 rfl cc37 cr37 Try.ntmps37 hlen hf h

/-- bordereau/layer.high -/
def c38 : C :=
  (.seq (.reg [⟨(some 1), none, .box 25 (.t 0)⟩,
    ⟨(some 2), none, .mov (.k (.d (.bool false)))⟩])
  (.seq (.reg [⟨(some 3), none, .load 9 true (.t 1)⟩,
    ⟨(some 4), none, .call 26 [(.t 3)]⟩,
    ⟨(some 5), none, .mov (.t 4)⟩,
    ⟨(some 6), (some (5, true)), .fadr 1 (.t 1)⟩,
    ⟨(some 7), (some (5, true)), .load 1 false (.t 6)⟩,
    ⟨(some 8), (some (5, true)), .bin .neq (.t 7) (.k (.d (.int .i64 1)))⟩,
    ⟨(some 9), none, .pick (.t 5) (.t 8) (.k (.d (.bool false)))⟩,
    ⟨(some 2), none, .mov (.t 9)⟩])
  .ret))
def rs38 : List RV := [.tmp 2]
theorem ok38 : okF Try.prog 38 = true := by kernel_rfl
theorem cc38 : cCode Try.prog Try.f38.ntmps (Try.f38.body.getD .skip) = some c38 := by kernel_rfl
theorem cr38 : cRess Try.prog Try.f38.results.toList = some rs38 := by kernel_rfl
theorem pure38 {args : List V} {res : V} (hlen : args.length ≤ 10) (hna : namesL args = []) (hnr : res.names = []) (h : ∀ c : Ctx, c.P = Try.prog → c.fn = [] → vcC c c38 ⟨initE 0 args, [], []⟩ (RetK c rs38 res [])) : Ctr Try.prog 38 args [] res [] [] :=
  ctr_pure Try.func38 ok38 rfl cc38 cr38 Try.ntmps38 hlen hna hnr h
theorem own38 {args : List V} {ins outs : List (Nat × Own)} {res : V} {new : List Nat} (hlen : args.length ≤ 10) (hf : ctrB args ins res outs new = true) (h : ∀ c : Ctx, c.P = Try.prog → c.fn = namesL args ++ ownNames ins → vcC c c38 ⟨initE 0 args, ins, namesL args ++ ownNames ins⟩ (RetK c rs38 res outs)) : Ctr Try.prog 38 args ins res outs new :=
  ctr_own Try.func38 ok38 rfl cc38 cr38 Try.ntmps38 hlen hf h

/-- bordereau/span.In -/
def c39 : C :=
  (.seq (.reg [⟨(some 2), none, .box 23 (.t 0)⟩,
    ⟨(some 4), none, .mov (.k (.d (.bool false)))⟩])
  (.seq (.reg [⟨(some 5), none, .load 2 true (.t 2)⟩,
    ⟨(some 6), none, .call 51 [(.t 5)]⟩,
    ⟨none, none, .store 2 (.t 2) (.t 6)⟩])
  (.seq (.reg [⟨(some 7), none, .mov (.t 1)⟩,
    ⟨(some 8), none, .fadr 0 (.t 2)⟩,
    ⟨(some 9), none, .load 1 false (.t 8)⟩,
    ⟨(some 10), none, .bin .geq (.t 7) (.t 9)⟩,
    ⟨(some 11), none, .mov (.t 10)⟩,
    ⟨(some 12), (some (11, true)), .mov (.t 1)⟩,
    ⟨(some 13), (some (11, true)), .fadr 1 (.t 2)⟩,
    ⟨(some 14), (some (11, true)), .load 1 false (.t 13)⟩,
    ⟨(some 15), (some (11, true)), .bin .lss (.t 12) (.t 14)⟩,
    ⟨(some 16), none, .pick (.t 11) (.t 15) (.k (.d (.bool false)))⟩,
    ⟨(some 4), none, .mov (.t 16)⟩])
  .ret)))
def rs39 : List RV := [.tmp 4]
theorem ok39 : okF Try.prog 39 = true := by kernel_rfl
theorem cc39 : cCode Try.prog Try.f39.ntmps (Try.f39.body.getD .skip) = some c39 := by kernel_rfl
theorem cr39 : cRess Try.prog Try.f39.results.toList = some rs39 := by kernel_rfl
theorem pure39 {args : List V} {res : V} (hlen : args.length ≤ 17) (hna : namesL args = []) (hnr : res.names = []) (h : ∀ c : Ctx, c.P = Try.prog → c.fn = [] → vcC c c39 ⟨initE 0 args, [], []⟩ (RetK c rs39 res [])) : Ctr Try.prog 39 args [] res [] [] :=
  ctr_pure Try.func39 ok39 rfl cc39 cr39 Try.ntmps39 hlen hna hnr h
theorem own39 {args : List V} {ins outs : List (Nat × Own)} {res : V} {new : List Nat} (hlen : args.length ≤ 17) (hf : ctrB args ins res outs new = true) (h : ∀ c : Ctx, c.P = Try.prog → c.fn = namesL args ++ ownNames ins → vcC c c39 ⟨initE 0 args, ins, namesL args ++ ownNames ins⟩ (RetK c rs39 res outs)) : Ctr Try.prog 39 args ins res outs new :=
  ctr_own Try.func39 ok39 rfl cc39 cr39 Try.ntmps39 hlen hf h

/-- bordereau/bordereaulaw23.of -/
def c40 : C :=
  (.seq (.reg [⟨(some 4), none, .alloc 25 [.d (.int .i64 0), .d (.int .i64 0), .d (.int .i64 0), .d (.int .i64 0), .d (.int .i64 0), .d (.int .i64 0), .d (.int .i64 0), .d (.int .i64 0), .d (.int .i64 0)]⟩])
  (.seq (.reg [⟨(some 5), none, .build [.d (.int .i64 0), .d (.int .i64 0)] [(0, 1, (.k (.d (.int .i64 1)))), (1, 1, (.k (.d (.int .i64 100))))]⟩,
    ⟨(some 6), none, .mov (.t 0)⟩,
    ⟨(some 7), none, .mov (.t 1)⟩,
    ⟨(some 8), none, .build [.d (.int .i64 0), .d (.int .i64 0), .d (.int .i64 0), .d (.int .i64 0), .d (.int .i64 0), .d (.int .i64 0), .d (.int .i64 0), .d (.int .i64 0), .d (.int .i64 0)] [(0, 1, (.k (.d (.int .i64 1)))), (1, 1, (.k (.d (.int .i64 1)))), (2, 2, (.t 5)), (4, 1, (.t 6)), (8, 1, (.t 7))]⟩,
    ⟨none, none, .store 9 (.t 4) (.t 8)⟩])
  .ret))
def rs40 : List RV := [.cell 4 9 true]
theorem ok40 : okF Try.prog 40 = true := by kernel_rfl
theorem cc40 : cCode Try.prog Try.f40.ntmps (Try.f40.body.getD .skip) = some c40 := by kernel_rfl
theorem cr40 : cRess Try.prog Try.f40.results.toList = some rs40 := by kernel_rfl
theorem pure40 {args : List V} {res : V} (hlen : args.length ≤ 9) (hna : namesL args = []) (hnr : res.names = []) (h : ∀ c : Ctx, c.P = Try.prog → c.fn = [] → vcC c c40 ⟨initE 0 args, [], []⟩ (RetK c rs40 res [])) : Ctr Try.prog 40 args [] res [] [] :=
  ctr_pure Try.func40 ok40 rfl cc40 cr40 Try.ntmps40 hlen hna hnr h
theorem own40 {args : List V} {ins outs : List (Nat × Own)} {res : V} {new : List Nat} (hlen : args.length ≤ 9) (hf : ctrB args ins res outs new = true) (h : ∀ c : Ctx, c.P = Try.prog → c.fn = namesL args ++ ownNames ins → vcC c c40 ⟨initE 0 args, ins, namesL args ++ ownNames ins⟩ (RetK c rs40 res outs)) : Ctr Try.prog 40 args ins res outs new :=
  ctr_own Try.func40 ok40 rfl cc40 cr40 Try.ntmps40 hlen hf h

/-- (bordereau/quota.within[int]).has -/
def c41 : C :=
  (.seq (.reg [⟨(some 2), none, .box 65 (.t 0)⟩,
    ⟨(some 4), none, .mov (.k (.d (.bool false)))⟩])
  (.seq (.seq (.reg [⟨(some 7), none, .mov (.t 1)⟩,
    ⟨(some 8), none, .len (.t 7)⟩,
    ⟨(some 9), none, .mov (.k (.d (.int .i64 0)))⟩])
  (.block 0 (.loop (.seq (.reg [⟨(some 10), none, .bin .lss (.t 9) (.t 8)⟩])
      (.seq (.cond (.t 10) .skip
      (.exit 0))
      (.seq (.block 1 (.seq (.reg [⟨(some 11), none, .iadr 1 (.t 7) (.t 9)⟩,
          ⟨(some 12), none, .load 1 false (.t 11)⟩,
          ⟨(some 6), none, .mov (.t 12)⟩])
        (.seq (.reg [⟨(some 13), none, .mov (.t 6)⟩,
          ⟨(some 14), none, .fadr 0 (.t 2)⟩,
          ⟨(some 15), none, .load 1 false (.t 14)⟩,
          ⟨(some 16), none, .bin .lss (.t 13) (.t 15)⟩,
          ⟨(some 17), none, .mov (.t 16)⟩,
          ⟨(some 18), (some (17, false)), .mov (.t 6)⟩,
          ⟨(some 19), (some (17, false)), .fadr 1 (.t 2)⟩,
          ⟨(some 20), (some (17, false)), .load 1 false (.t 19)⟩,
          ⟨(some 21), (some (17, false)), .bin .gtr (.t 18) (.t 20)⟩,
          ⟨(some 22), none, .pick (.t 17) (.k (.d (.bool true))) (.t 21)⟩])
        (.cond (.t 22) (.seq (.reg [⟨(some 4), none, .mov (.k (.d (.bool false)))⟩])
          .ret)
        .skip))))
      (.reg [⟨(some 23), none, .bin .add (.t 9) (.k (.d (.int .i64 1)))⟩,
        ⟨(some 9), none, .mov (.t 23)⟩])))))))
  (.seq (.reg [⟨(some 4), none, .mov (.k (.d (.bool true)))⟩])
  .ret)))
def rs41 : List RV := [.tmp 4]
theorem ok41 : okF Try.prog 41 = true := by kernel_rfl
theorem cc41 : cCode Try.prog Try.f41.ntmps (Try.f41.body.getD .skip) = some c41 := by kernel_rfl
theorem cr41 : cRess Try.prog Try.f41.results.toList = some rs41 := by kernel_rfl
theorem pure41 {args : List V} {res : V} (hlen : args.length ≤ 24) (hna : namesL args = []) (hnr : res.names = []) (h : ∀ c : Ctx, c.P = Try.prog → c.fn = [] → vcC c c41 ⟨initE 0 args, [], []⟩ (RetK c rs41 res [])) : Ctr Try.prog 41 args [] res [] [] :=
  ctr_pure Try.func41 ok41 rfl cc41 cr41 Try.ntmps41 hlen hna hnr h
theorem own41 {args : List V} {ins outs : List (Nat × Own)} {res : V} {new : List Nat} (hlen : args.length ≤ 24) (hf : ctrB args ins res outs new = true) (h : ∀ c : Ctx, c.P = Try.prog → c.fn = namesL args ++ ownNames ins → vcC c c41 ⟨initE 0 args, ins, namesL args ++ ownNames ins⟩ (RetK c rs41 res outs)) : Ctr Try.prog 41 args ins res outs new :=
  ctr_own Try.func41 ok41 rfl cc41 cr41 Try.ntmps41 hlen hf h

/-- bordereau/span.Many -/
def c42 : C :=
  (.seq (.reg [⟨(some 1), none, .box 23 (.t 0)⟩,
    ⟨(some 2), none, .mov (.k (.d (.int .i64 0)))⟩])
  (.seq (.reg [⟨(some 3), none, .load 2 true (.t 1)⟩,
    ⟨(some 4), none, .call 51 [(.t 3)]⟩,
    ⟨none, none, .store 2 (.t 1) (.t 4)⟩])
  (.seq (.reg [⟨(some 5), none, .fadr 1 (.t 1)⟩,
    ⟨(some 6), none, .load 1 false (.t 5)⟩,
    ⟨(some 7), none, .fadr 0 (.t 1)⟩,
    ⟨(some 8), none, .load 1 false (.t 7)⟩,
    ⟨(some 9), none, .bin .sub (.t 6) (.t 8)⟩,
    ⟨(some 2), none, .mov (.t 9)⟩])
  .ret)))
def rs42 : List RV := [.tmp 2]
theorem ok42 : okF Try.prog 42 = true := by kernel_rfl
theorem cc42 : cCode Try.prog Try.f42.ntmps (Try.f42.body.getD .skip) = some c42 := by kernel_rfl
theorem cr42 : cRess Try.prog Try.f42.results.toList = some rs42 := by kernel_rfl
theorem pure42 {args : List V} {res : V} (hlen : args.length ≤ 10) (hna : namesL args = []) (hnr : res.names = []) (h : ∀ c : Ctx, c.P = Try.prog → c.fn = [] → vcC c c42 ⟨initE 0 args, [], []⟩ (RetK c rs42 res [])) : Ctr Try.prog 42 args [] res [] [] :=
  ctr_pure Try.func42 ok42 rfl cc42 cr42 Try.ntmps42 hlen hna hnr h
theorem own42 {args : List V} {ins outs : List (Nat × Own)} {res : V} {new : List Nat} (hlen : args.length ≤ 10) (hf : ctrB args ins res outs new = true) (h : ∀ c : Ctx, c.P = Try.prog → c.fn = namesL args ++ ownNames ins → vcC c c42 ⟨initE 0 args, ins, namesL args ++ ownNames ins⟩ (RetK c rs42 res outs)) : Ctr Try.prog 42 args ins res outs new :=
  ctr_own Try.func42 ok42 rfl cc42 cr42 Try.ntmps42 hlen hf h

/-- bordereau/bordereauref23.in -/
def c43 : C :=
  (.seq (.reg [⟨(some 6), none, .mov (.k (.d (.bool false)))⟩])
  (.seq (.reg [⟨(some 7), none, .mov (.t 0)⟩,
    ⟨(some 8), none, .mov (.t 1)⟩,
    ⟨(some 9), none, .bin .geq (.t 7) (.t 8)⟩,
    ⟨(some 10), none, .mov (.t 9)⟩,
    ⟨(some 11), (some (10, true)), .mov (.t 0)⟩,
    ⟨(some 12), (some (10, true)), .mov (.t 2)⟩,
    ⟨(some 13), (some (10, true)), .bin .leq (.t 11) (.t 12)⟩,
    ⟨(some 14), none, .pick (.t 10) (.t 13) (.k (.d (.bool false)))⟩,
    ⟨(some 6), none, .mov (.t 14)⟩])
  .ret))
def rs43 : List RV := [.tmp 6]
theorem ok43 : okF Try.prog 43 = true := by kernel_rfl
theorem cc43 : cCode Try.prog Try.f43.ntmps (Try.f43.body.getD .skip) = some c43 := by kernel_rfl
theorem cr43 : cRess Try.prog Try.f43.results.toList = some rs43 := by kernel_rfl
theorem pure43 {args : List V} {res : V} (hlen : args.length ≤ 15) (hna : namesL args = []) (hnr : res.names = []) (h : ∀ c : Ctx, c.P = Try.prog → c.fn = [] → vcC c c43 ⟨initE 0 args, [], []⟩ (RetK c rs43 res [])) : Ctr Try.prog 43 args [] res [] [] :=
  ctr_pure Try.func43 ok43 rfl cc43 cr43 Try.ntmps43 hlen hna hnr h
theorem own43 {args : List V} {ins outs : List (Nat × Own)} {res : V} {new : List Nat} (hlen : args.length ≤ 15) (hf : ctrB args ins res outs new = true) (h : ∀ c : Ctx, c.P = Try.prog → c.fn = namesL args ++ ownNames ins → vcC c c43 ⟨initE 0 args, ins, namesL args ++ ownNames ins⟩ (RetK c rs43 res outs)) : Ctr Try.prog 43 args ins res outs new :=
  ctr_own Try.func43 ok43 rfl cc43 cr43 Try.ntmps43 hlen hf h

/-- bordereau/bordereauref03.Many -/
def c44 : C :=
  (.seq (.reg [⟨(some 1), none, .box 23 (.t 0)⟩,
    ⟨(some 2), none, .mov (.k (.d (.int .i64 0)))⟩])
  (.seq (.seq (.reg [⟨(some 3), none, .load 2 true (.t 1)⟩,
    ⟨(some 4), none, .call 52 [(.t 3)]⟩,
    ⟨(some 5), none, .inv .not (.t 4)⟩])
  (.cond (.t 5) (.seq (.reg [⟨(some 2), none, .mov (.k (.d (.int .i64 0)))⟩])
    .ret)
  .skip))
  (.seq (.reg [⟨(some 6), none, .fadr 1 (.t 1)⟩,
    ⟨(some 7), none, .load 1 false (.t 6)⟩,
    ⟨(some 8), none, .fadr 0 (.t 1)⟩,
    ⟨(some 9), none, .load 1 false (.t 8)⟩,
    ⟨(some 10), none, .bin .sub (.t 7) (.t 9)⟩,
    ⟨(some 2), none, .mov (.t 10)⟩])
  .ret)))
def rs44 : List RV := [.tmp 2]
theorem ok44 : okF Try.prog 44 = true := by kernel_rfl
theorem cc44 : cCode Try.prog Try.f44.ntmps (Try.f44.body.getD .skip) = some c44 := by kernel_rfl
theorem cr44 : cRess Try.prog Try.f44.results.toList = some rs44 := by kernel_rfl
theorem pure44 {args : List V} {res : V} (hlen : args.length ≤ 11) (hna : namesL args = []) (hnr : res.names = []) (h : ∀ c : Ctx, c.P = Try.prog → c.fn = [] → vcC c c44 ⟨initE 0 args, [], []⟩ (RetK c rs44 res [])) : Ctr Try.prog 44 args [] res [] [] :=
  ctr_pure Try.func44 ok44 rfl cc44 cr44 Try.ntmps44 hlen hna hnr h
theorem own44 {args : List V} {ins outs : List (Nat × Own)} {res : V} {new : List Nat} (hlen : args.length ≤ 11) (hf : ctrB args ins res outs new = true) (h : ∀ c : Ctx, c.P = Try.prog → c.fn = namesL args ++ ownNames ins → vcC c c44 ⟨initE 0 args, ins, namesL args ++ ownNames ins⟩ (RetK c rs44 res outs)) : Ctr Try.prog 44 args ins res outs new :=
  ctr_own Try.func44 ok44 rfl cc44 cr44 Try.ntmps44 hlen hf h

/-- bordereau/bordereauref03.In -/
def c45 : C :=
  (.seq (.reg [⟨(some 2), none, .box 23 (.t 0)⟩,
    ⟨(some 4), none, .mov (.k (.d (.bool false)))⟩])
  (.seq (.reg [⟨(some 5), none, .load 2 true (.t 2)⟩,
    ⟨(some 6), none, .call 52 [(.t 5)]⟩,
    ⟨(some 7), none, .mov (.t 6)⟩,
    ⟨(some 8), (some (7, true)), .fadr 0 (.t 2)⟩,
    ⟨(some 9), (some (7, true)), .load 1 false (.t 8)⟩,
    ⟨(some 10), (some (7, true)), .mov (.t 1)⟩,
    ⟨(some 11), (some (7, true)), .bin .leq (.t 9) (.t 10)⟩,
    ⟨(some 12), none, .pick (.t 7) (.t 11) (.k (.d (.bool false)))⟩,
    ⟨(some 13), none, .mov (.t 12)⟩,
    ⟨(some 14), (some (13, true)), .mov (.t 1)⟩,
    ⟨(some 15), (some (13, true)), .fadr 1 (.t 2)⟩,
    ⟨(some 16), (some (13, true)), .load 1 false (.t 15)⟩,
    ⟨(some 17), (some (13, true)), .bin .lss (.t 14) (.t 16)⟩,
    ⟨(some 18), none, .pick (.t 13) (.t 17) (.k (.d (.bool false)))⟩,
    ⟨(some 4), none, .mov (.t 18)⟩])
  .ret))
def rs45 : List RV := [.tmp 4]
theorem ok45 : okF Try.prog 45 = true := by kernel_rfl
theorem cc45 : cCode Try.prog Try.f45.ntmps (Try.f45.body.getD .skip) = some c45 := by kernel_rfl
theorem cr45 : cRess Try.prog Try.f45.results.toList = some rs45 := by kernel_rfl
theorem pure45 {args : List V} {res : V} (hlen : args.length ≤ 19) (hna : namesL args = []) (hnr : res.names = []) (h : ∀ c : Ctx, c.P = Try.prog → c.fn = [] → vcC c c45 ⟨initE 0 args, [], []⟩ (RetK c rs45 res [])) : Ctr Try.prog 45 args [] res [] [] :=
  ctr_pure Try.func45 ok45 rfl cc45 cr45 Try.ntmps45 hlen hna hnr h
theorem own45 {args : List V} {ins outs : List (Nat × Own)} {res : V} {new : List Nat} (hlen : args.length ≤ 19) (hf : ctrB args ins res outs new = true) (h : ∀ c : Ctx, c.P = Try.prog → c.fn = namesL args ++ ownNames ins → vcC c c45 ⟨initE 0 args, ins, namesL args ++ ownNames ins⟩ (RetK c rs45 res outs)) : Ctr Try.prog 45 args ins res outs new :=
  ctr_own Try.func45 ok45 rfl cc45 cr45 Try.ntmps45 hlen hf h

/-- bordereau/bordereauref23.peril -/
def c46 : C :=
  (.seq (.reg [⟨(some 4), none, .mov (.k (.d (.bool false)))⟩])
  (.seq (.seq (.reg [⟨(some 5), none, .mov (.k (.d (.int .i64 0)))⟩])
  (.block 0 (.loop (.seq (.seq (.reg [⟨(some 6), none, .mov (.t 5)⟩,
        ⟨(some 7), none, .mov (.t 1)⟩,
        ⟨(some 8), none, .bin .lss (.t 6) (.t 7)⟩])
      (.cond (.t 8) .skip
      (.exit 0)))
      (.seq (.block 1 (.reg [⟨(some 11), none, .mov (.t 0)⟩,
          ⟨(some 12), none, .bin .quo (.t 11) (.k (.d (.int .i64 2)))⟩,
          ⟨(some 0), none, .mov (.t 12)⟩]))
      (.reg [⟨(some 9), none, .mov (.t 5)⟩,
        ⟨(some 10), none, .bin .add (.t 9) (.k (.d (.int .i64 1)))⟩,
        ⟨(some 5), none, .mov (.t 10)⟩]))))))
  (.seq (.reg [⟨(some 13), none, .mov (.t 0)⟩,
    ⟨(some 14), none, .bin .rem (.t 13) (.k (.d (.int .i64 2)))⟩,
    ⟨(some 15), none, .bin .eql (.t 14) (.k (.d (.int .i64 1)))⟩,
    ⟨(some 4), none, .mov (.t 15)⟩])
  .ret)))
def rs46 : List RV := [.tmp 4]
theorem ok46 : okF Try.prog 46 = true := by kernel_rfl
theorem cc46 : cCode Try.prog Try.f46.ntmps (Try.f46.body.getD .skip) = some c46 := by kernel_rfl
theorem cr46 : cRess Try.prog Try.f46.results.toList = some rs46 := by kernel_rfl
theorem pure46 {args : List V} {res : V} (hlen : args.length ≤ 16) (hna : namesL args = []) (hnr : res.names = []) (h : ∀ c : Ctx, c.P = Try.prog → c.fn = [] → vcC c c46 ⟨initE 0 args, [], []⟩ (RetK c rs46 res [])) : Ctr Try.prog 46 args [] res [] [] :=
  ctr_pure Try.func46 ok46 rfl cc46 cr46 Try.ntmps46 hlen hna hnr h
theorem own46 {args : List V} {ins outs : List (Nat × Own)} {res : V} {new : List Nat} (hlen : args.length ≤ 16) (hf : ctrB args ins res outs new = true) (h : ∀ c : Ctx, c.P = Try.prog → c.fn = namesL args ++ ownNames ins → vcC c c46 ⟨initE 0 args, ins, namesL args ++ ownNames ins⟩ (RetK c rs46 res outs)) : Ctr Try.prog 46 args ins res outs new :=
  ctr_own Try.func46 ok46 rfl cc46 cr46 Try.ntmps46 hlen hf h

/-- bordereau/num.Bp -/
def c47 : C :=
  (.seq (.reg [⟨(some 4), none, .mov (.k (.d (.int .i64 0)))⟩,
    ⟨(some 5), none, .mov (.k (.d (.int .i64 0)))⟩])
  (.seq (.reg [⟨(some 6), none, .mov (.t 0)⟩,
    ⟨(some 7), none, .mov (.t 1)⟩,
    ⟨(some 8), none, .call 53 [(.t 6), (.t 7), (.k (.d (.int .i64 10000)))]⟩,
    ⟨(some 9), none, .ext 0 (.t 8)⟩,
    ⟨(some 10), none, .ext 1 (.t 8)⟩,
    ⟨(some 4), none, .mov (.t 9)⟩,
    ⟨(some 5), none, .mov (.t 10)⟩])
  .ret))
def rs47 : List RV := [.tmp 4, .tmp 5]
theorem ok47 : okF Try.prog 47 = true := by kernel_rfl
theorem cc47 : cCode Try.prog Try.f47.ntmps (Try.f47.body.getD .skip) = some c47 := by kernel_rfl
theorem cr47 : cRess Try.prog Try.f47.results.toList = some rs47 := by kernel_rfl
theorem pure47 {args : List V} {res : V} (hlen : args.length ≤ 11) (hna : namesL args = []) (hnr : res.names = []) (h : ∀ c : Ctx, c.P = Try.prog → c.fn = [] → vcC c c47 ⟨initE 0 args, [], []⟩ (RetK c rs47 res [])) : Ctr Try.prog 47 args [] res [] [] :=
  ctr_pure Try.func47 ok47 rfl cc47 cr47 Try.ntmps47 hlen hna hnr h
theorem own47 {args : List V} {ins outs : List (Nat × Own)} {res : V} {new : List Nat} (hlen : args.length ≤ 11) (hf : ctrB args ins res outs new = true) (h : ∀ c : Ctx, c.P = Try.prog → c.fn = namesL args ++ ownNames ins → vcC c c47 ⟨initE 0 args, ins, namesL args ++ ownNames ins⟩ (RetK c rs47 res outs)) : Ctr Try.prog 47 args ins res outs new :=
  ctr_own Try.func47 ok47 rfl cc47 cr47 Try.ntmps47 hlen hf h

/-- bordereau/bordereauref01.Bp -/
def c48 : C :=
  (.seq (.reg [⟨(some 4), none, .mov (.k (.d (.int .i64 0)))⟩,
    ⟨(some 5), none, .mov (.k (.d (.int .i64 0)))⟩])
  (.seq (.reg [⟨(some 6), none, .mov (.t 0)⟩,
    ⟨(some 7), none, .mov (.t 1)⟩,
    ⟨(some 8), none, .call 54 [(.t 6), (.t 7), (.k (.d (.int .i64 10000)))]⟩,
    ⟨(some 9), none, .ext 0 (.t 8)⟩,
    ⟨(some 10), none, .ext 1 (.t 8)⟩,
    ⟨(some 4), none, .mov (.t 9)⟩,
    ⟨(some 5), none, .mov (.t 10)⟩])
  .ret))
def rs48 : List RV := [.tmp 4, .tmp 5]
theorem ok48 : okF Try.prog 48 = true := by kernel_rfl
theorem cc48 : cCode Try.prog Try.f48.ntmps (Try.f48.body.getD .skip) = some c48 := by kernel_rfl
theorem cr48 : cRess Try.prog Try.f48.results.toList = some rs48 := by kernel_rfl
theorem pure48 {args : List V} {res : V} (hlen : args.length ≤ 11) (hna : namesL args = []) (hnr : res.names = []) (h : ∀ c : Ctx, c.P = Try.prog → c.fn = [] → vcC c c48 ⟨initE 0 args, [], []⟩ (RetK c rs48 res [])) : Ctr Try.prog 48 args [] res [] [] :=
  ctr_pure Try.func48 ok48 rfl cc48 cr48 Try.ntmps48 hlen hna hnr h
theorem own48 {args : List V} {ins outs : List (Nat × Own)} {res : V} {new : List Nat} (hlen : args.length ≤ 11) (hf : ctrB args ins res outs new = true) (h : ∀ c : Ctx, c.P = Try.prog → c.fn = namesL args ++ ownNames ins → vcC c c48 ⟨initE 0 args, ins, namesL args ++ ownNames ins⟩ (RetK c rs48 res outs)) : Ctr Try.prog 48 args ins res outs new :=
  ctr_own Try.func48 ok48 rfl cc48 cr48 Try.ntmps48 hlen hf h

/-- bordereau/quota.added -/
def c49 : C :=
  (.seq (.reg [⟨(some 2), none, .mov (.k (.d (.int .i64 0)))⟩])
  (.seq (.reg [⟨(some 3), none, .mov (.k (.d (.int .i64 0)))⟩])
  (.seq (.seq (.reg [⟨(some 6), none, .mov (.t 0)⟩,
    ⟨(some 7), none, .len (.t 6)⟩,
    ⟨(some 8), none, .mov (.k (.d (.int .i64 0)))⟩])
  (.block 0 (.loop (.seq (.reg [⟨(some 9), none, .bin .lss (.t 8) (.t 7)⟩])
      (.seq (.cond (.t 9) .skip
      (.exit 0))
      (.seq (.block 1 (.seq (.reg [⟨(some 10), none, .iadr 1 (.t 6) (.t 8)⟩,
          ⟨(some 11), none, .load 1 false (.t 10)⟩,
          ⟨(some 5), none, .mov (.t 11)⟩])
        (.reg [⟨(some 12), none, .mov (.t 3)⟩,
          ⟨(some 13), none, .mov (.t 5)⟩,
          ⟨(some 14), none, .bin .add (.t 12) (.t 13)⟩,
          ⟨(some 3), none, .mov (.t 14)⟩])))
      (.reg [⟨(some 15), none, .bin .add (.t 8) (.k (.d (.int .i64 1)))⟩,
        ⟨(some 8), none, .mov (.t 15)⟩])))))))
  (.seq (.reg [⟨(some 16), none, .mov (.t 3)⟩,
    ⟨(some 2), none, .mov (.t 16)⟩])
  .ret))))
def rs49 : List RV := [.tmp 2]
theorem ok49 : okF Try.prog 49 = true := by kernel_rfl
theorem cc49 : cCode Try.prog Try.f49.ntmps (Try.f49.body.getD .skip) = some c49 := by kernel_rfl
theorem cr49 : cRess Try.prog Try.f49.results.toList = some rs49 := by kernel_rfl
theorem pure49 {args : List V} {res : V} (hlen : args.length ≤ 17) (hna : namesL args = []) (hnr : res.names = []) (h : ∀ c : Ctx, c.P = Try.prog → c.fn = [] → vcC c c49 ⟨initE 0 args, [], []⟩ (RetK c rs49 res [])) : Ctr Try.prog 49 args [] res [] [] :=
  ctr_pure Try.func49 ok49 rfl cc49 cr49 Try.ntmps49 hlen hna hnr h
theorem own49 {args : List V} {ins outs : List (Nat × Own)} {res : V} {new : List Nat} (hlen : args.length ≤ 17) (hf : ctrB args ins res outs new = true) (h : ∀ c : Ctx, c.P = Try.prog → c.fn = namesL args ++ ownNames ins → vcC c c49 ⟨initE 0 args, ins, namesL args ++ ownNames ins⟩ (RetK c rs49 res outs)) : Ctr Try.prog 49 args ins res outs new :=
  ctr_own Try.func49 ok49 rfl cc49 cr49 Try.ntmps49 hlen hf h

/-- slices.IndexFunc[[]bordereau/api.Loss,bordereau/api.Loss] -/
def c50 : C :=
  (.seq (.reg [⟨(some 4), none, .mov (.k (.d (.int .i64 0)))⟩])
  (.seq (.seq (.reg [⟨(some 6), none, .mov (.t 0)⟩,
    ⟨(some 7), none, .len (.t 6)⟩,
    ⟨(some 8), none, .mov (.k (.d (.int .i64 0)))⟩])
  (.block 0 (.loop (.seq (.reg [⟨(some 9), none, .bin .lss (.t 8) (.t 7)⟩])
      (.seq (.cond (.t 9) .skip
      (.exit 0))
      (.seq (.block 1 (.seq (.reg [⟨(some 10), none, .mov (.t 8)⟩,
          ⟨(some 5), none, .mov (.t 10)⟩])
        (.seq (.reg [⟨(some 11), none, .mov (.t 1)⟩,
          ⟨(some 12), none, .mov (.t 0)⟩,
          ⟨(some 13), none, .mov (.t 5)⟩,
          ⟨(some 14), none, .iadr 5 (.t 12) (.t 13)⟩,
          ⟨(some 15), none, .load 5 true (.t 14)⟩,
          ⟨(some 16), none, .callv (.t 11) [(.t 15)]⟩])
        (.cond (.t 16) (.seq (.reg [⟨(some 17), none, .mov (.t 5)⟩,
            ⟨(some 4), none, .mov (.t 17)⟩])
          .ret)
        .skip))))
      (.reg [⟨(some 18), none, .bin .add (.t 8) (.k (.d (.int .i64 1)))⟩,
        ⟨(some 8), none, .mov (.t 18)⟩])))))))
  (.seq (.reg [⟨(some 4), none, .mov (.k (.d (.int .i64 (-1))))⟩])
  .ret)))
def rs50 : List RV := [.tmp 4]
theorem ok50 : okF Try.prog 50 = true := by kernel_rfl
theorem cc50 : cCode Try.prog Try.f50.ntmps (Try.f50.body.getD .skip) = some c50 := by kernel_rfl
theorem cr50 : cRess Try.prog Try.f50.results.toList = some rs50 := by kernel_rfl
theorem pure50 {args : List V} {res : V} (hlen : args.length ≤ 19) (hna : namesL args = []) (hnr : res.names = []) (h : ∀ c : Ctx, c.P = Try.prog → c.fn = [] → vcC c c50 ⟨initE 0 args, [], []⟩ (RetK c rs50 res [])) : Ctr Try.prog 50 args [] res [] [] :=
  ctr_pure Try.func50 ok50 rfl cc50 cr50 Try.ntmps50 hlen hna hnr h
theorem own50 {args : List V} {ins outs : List (Nat × Own)} {res : V} {new : List Nat} (hlen : args.length ≤ 19) (hf : ctrB args ins res outs new = true) (h : ∀ c : Ctx, c.P = Try.prog → c.fn = namesL args ++ ownNames ins → vcC c c50 ⟨initE 0 args, ins, namesL args ++ ownNames ins⟩ (RetK c rs50 res outs)) : Ctr Try.prog 50 args ins res outs new :=
  ctr_own Try.func50 ok50 rfl cc50 cr50 Try.ntmps50 hlen hf h

/-- bordereau/span.kept -/
def c51 : C :=
  (.seq (.reg [⟨(some 1), none, .box 23 (.t 0)⟩,
    ⟨(some 2), none, .alloc 23 [.d (.int .i64 0), .d (.int .i64 0)]⟩])
  (.seq (.seq (.reg [⟨(some 3), none, .load 2 true (.t 1)⟩,
    ⟨(some 4), none, .call 55 [(.t 3)]⟩,
    ⟨(some 5), none, .inv .not (.t 4)⟩,
    ⟨(some 6), none, .mov (.t 5)⟩,
    ⟨(some 7), (some (6, false)), .fadr 0 (.t 1)⟩,
    ⟨(some 8), (some (6, false)), .load 1 false (.t 7)⟩,
    ⟨(some 9), (some (6, false)), .fadr 1 (.t 1)⟩,
    ⟨(some 10), (some (6, false)), .load 1 false (.t 9)⟩,
    ⟨(some 11), (some (6, false)), .bin .eql (.t 8) (.t 10)⟩,
    ⟨(some 12), none, .pick (.t 6) (.k (.d (.bool true))) (.t 11)⟩])
  (.cond (.t 12) (.seq (.reg [⟨(some 13), none, .build [.d (.int .i64 0), .d (.int .i64 0)] []⟩,
      ⟨none, none, .store 2 (.t 2) (.t 13)⟩])
    .ret)
  .skip))
  (.seq (.reg [⟨(some 14), none, .load 2 true (.t 1)⟩,
    ⟨none, none, .store 2 (.t 2) (.t 14)⟩])
  .ret)))
def rs51 : List RV := [.cell 2 2 true]
theorem ok51 : okF Try.prog 51 = true := by kernel_rfl
theorem cc51 : cCode Try.prog Try.f51.ntmps (Try.f51.body.getD .skip) = some c51 := by kernel_rfl
theorem cr51 : cRess Try.prog Try.f51.results.toList = some rs51 := by kernel_rfl
theorem pure51 {args : List V} {res : V} (hlen : args.length ≤ 15) (hna : namesL args = []) (hnr : res.names = []) (h : ∀ c : Ctx, c.P = Try.prog → c.fn = [] → vcC c c51 ⟨initE 0 args, [], []⟩ (RetK c rs51 res [])) : Ctr Try.prog 51 args [] res [] [] :=
  ctr_pure Try.func51 ok51 rfl cc51 cr51 Try.ntmps51 hlen hna hnr h
theorem own51 {args : List V} {ins outs : List (Nat × Own)} {res : V} {new : List Nat} (hlen : args.length ≤ 15) (hf : ctrB args ins res outs new = true) (h : ∀ c : Ctx, c.P = Try.prog → c.fn = namesL args ++ ownNames ins → vcC c c51 ⟨initE 0 args, ins, namesL args ++ ownNames ins⟩ (RetK c rs51 res outs)) : Ctr Try.prog 51 args ins res outs new :=
  ctr_own Try.func51 ok51 rfl cc51 cr51 Try.ntmps51 hlen hf h

/-- bordereau/bordereauref03.Right -/
def c52 : C :=
  (.seq (.reg [⟨(some 1), none, .box 23 (.t 0)⟩,
    ⟨(some 2), none, .mov (.k (.d (.bool false)))⟩])
  (.seq (.reg [⟨(some 3), none, .fadr 0 (.t 1)⟩,
    ⟨(some 4), none, .load 1 false (.t 3)⟩,
    ⟨(some 5), none, .bin .geq (.t 4) (.k (.d (.int .i64 1)))⟩,
    ⟨(some 6), none, .mov (.t 5)⟩,
    ⟨(some 7), (some (6, true)), .fadr 0 (.t 1)⟩,
    ⟨(some 8), (some (6, true)), .load 1 false (.t 7)⟩,
    ⟨(some 9), (some (6, true)), .fadr 1 (.t 1)⟩,
    ⟨(some 10), (some (6, true)), .load 1 false (.t 9)⟩,
    ⟨(some 11), (some (6, true)), .bin .leq (.t 8) (.t 10)⟩,
    ⟨(some 12), none, .pick (.t 6) (.t 11) (.k (.d (.bool false)))⟩,
    ⟨(some 13), none, .mov (.t 12)⟩,
    ⟨(some 14), (some (13, true)), .fadr 1 (.t 1)⟩,
    ⟨(some 15), (some (13, true)), .load 1 false (.t 14)⟩,
    ⟨(some 16), (some (13, true)), .bin .leq (.t 15) (.k (.d (.int .i64 292195)))⟩,
    ⟨(some 17), none, .pick (.t 13) (.t 16) (.k (.d (.bool false)))⟩,
    ⟨(some 2), none, .mov (.t 17)⟩])
  .ret))
def rs52 : List RV := [.tmp 2]
theorem ok52 : okF Try.prog 52 = true := by kernel_rfl
theorem cc52 : cCode Try.prog Try.f52.ntmps (Try.f52.body.getD .skip) = some c52 := by kernel_rfl
theorem cr52 : cRess Try.prog Try.f52.results.toList = some rs52 := by kernel_rfl
theorem pure52 {args : List V} {res : V} (hlen : args.length ≤ 18) (hna : namesL args = []) (hnr : res.names = []) (h : ∀ c : Ctx, c.P = Try.prog → c.fn = [] → vcC c c52 ⟨initE 0 args, [], []⟩ (RetK c rs52 res [])) : Ctr Try.prog 52 args [] res [] [] :=
  ctr_pure Try.func52 ok52 rfl cc52 cr52 Try.ntmps52 hlen hna hnr h
theorem own52 {args : List V} {ins outs : List (Nat × Own)} {res : V} {new : List Nat} (hlen : args.length ≤ 18) (hf : ctrB args ins res outs new = true) (h : ∀ c : Ctx, c.P = Try.prog → c.fn = namesL args ++ ownNames ins → vcC c c52 ⟨initE 0 args, ins, namesL args ++ ownNames ins⟩ (RetK c rs52 res outs)) : Ctr Try.prog 52 args ins res outs new :=
  ctr_own Try.func52 ok52 rfl cc52 cr52 Try.ntmps52 hlen hf h

/-- bordereau/num.Even -/
def c53 : C :=
  (.seq (.reg [⟨(some 6), none, .mov (.k (.d (.int .i64 0)))⟩,
    ⟨(some 7), none, .mov (.k (.d (.int .i64 0)))⟩])
  (.seq (.reg [⟨(some 8), none, .call 56 []⟩,
    ⟨(some 9), none, .mov (.t 0)⟩,
    ⟨(some 10), none, .mov (.t 1)⟩,
    ⟨(some 11), none, .mov (.t 2)⟩,
    ⟨(some 12), none, .call 57 [(.t 8), (.t 9), (.t 10), (.t 11)]⟩,
    ⟨(some 13), none, .ext 0 (.t 12)⟩,
    ⟨(some 14), none, .ext 1 (.t 12)⟩,
    ⟨(some 6), none, .mov (.t 13)⟩,
    ⟨(some 7), none, .mov (.t 14)⟩])
  .ret))
def rs53 : List RV := [.tmp 6, .tmp 7]
theorem ok53 : okF Try.prog 53 = true := by kernel_rfl
theorem cc53 : cCode Try.prog Try.f53.ntmps (Try.f53.body.getD .skip) = some c53 := by kernel_rfl
theorem cr53 : cRess Try.prog Try.f53.results.toList = some rs53 := by kernel_rfl
theorem pure53 {args : List V} {res : V} (hlen : args.length ≤ 15) (hna : namesL args = []) (hnr : res.names = []) (h : ∀ c : Ctx, c.P = Try.prog → c.fn = [] → vcC c c53 ⟨initE 0 args, [], []⟩ (RetK c rs53 res [])) : Ctr Try.prog 53 args [] res [] [] :=
  ctr_pure Try.func53 ok53 rfl cc53 cr53 Try.ntmps53 hlen hna hnr h
theorem own53 {args : List V} {ins outs : List (Nat × Own)} {res : V} {new : List Nat} (hlen : args.length ≤ 15) (hf : ctrB args ins res outs new = true) (h : ∀ c : Ctx, c.P = Try.prog → c.fn = namesL args ++ ownNames ins → vcC c c53 ⟨initE 0 args, ins, namesL args ++ ownNames ins⟩ (RetK c rs53 res outs)) : Ctr Try.prog 53 args ins res outs new :=
  ctr_own Try.func53 ok53 rfl cc53 cr53 Try.ntmps53 hlen hf h

/-- bordereau/bordereauref01.Even -/
def c54 : C :=
  (.seq (.reg [⟨(some 6), none, .mov (.k (.d (.int .i64 0)))⟩,
    ⟨(some 7), none, .mov (.k (.d (.int .i64 0)))⟩])
  (.seq (.reg [⟨(some 12), none, .mov (.t 0)⟩,
    ⟨(some 13), none, .mov (.t 1)⟩,
    ⟨(some 14), none, .mov (.t 2)⟩,
    ⟨(some 15), none, .call 58 [(.t 12), (.t 13), (.t 14)]⟩,
    ⟨(some 8), none, .mov (.t 15)⟩])
  (.seq (.seq (.reg [⟨(some 16), none, .mov (.t 8)⟩,
    ⟨(some 17), none, .bin .neq (.t 16) (.k (.d (.int .i64 0)))⟩])
  (.cond (.t 17) (.seq (.reg [⟨(some 18), none, .mov (.t 8)⟩,
      ⟨(some 6), none, .mov (.k (.d (.int .i64 0)))⟩,
      ⟨(some 7), none, .mov (.t 18)⟩])
    .ret)
  .skip))
  (.seq (.reg [⟨(some 20), none, .mov (.t 0)⟩,
    ⟨(some 21), none, .mov (.t 1)⟩,
    ⟨(some 22), none, .mov (.t 2)⟩,
    ⟨(some 23), none, .call 59 [(.t 20), (.t 21), (.t 22)]⟩,
    ⟨(some 19), none, .mov (.t 23)⟩,
    ⟨(some 24), none, .ext 0 (.t 19)⟩,
    ⟨(some 25), none, .ext 1 (.t 19)⟩,
    ⟨(some 26), none, .ext 2 (.t 19)⟩,
    ⟨(some 9), none, .mov (.t 24)⟩,
    ⟨(some 10), none, .mov (.t 25)⟩,
    ⟨(some 11), none, .mov (.t 26)⟩])
  (.seq (.seq (.reg [⟨(some 27), none, .mov (.t 11)⟩,
    ⟨(some 28), none, .mov (.t 27)⟩,
    ⟨(some 29), (some (28, true)), .mov (.t 10)⟩,
    ⟨(some 30), (some (28, true)), .mov (.t 2)⟩,
    ⟨(some 31), (some (28, true)), .mov (.t 10)⟩,
    ⟨(some 32), (some (28, true)), .bin .sub (.t 30) (.t 31)⟩,
    ⟨(some 33), (some (28, true)), .bin .gtr (.t 29) (.t 32)⟩,
    ⟨(some 34), (some (28, true)), .mov (.t 33)⟩,
    ⟨(some 35), (some (34, false)), .mov (.t 10)⟩,
    ⟨(some 36), (some (34, false)), .mov (.t 2)⟩,
    ⟨(some 37), (some (34, false)), .mov (.t 10)⟩,
    ⟨(some 38), (some (34, false)), .bin .sub (.t 36) (.t 37)⟩,
    ⟨(some 39), (some (34, false)), .bin .eql (.t 35) (.t 38)⟩,
    ⟨(some 40), (some (34, false)), .mov (.t 39)⟩,
    ⟨(some 41), (some (40, true)), .mov (.t 9)⟩,
    ⟨(some 42), (some (40, true)), .bin .rem (.t 41) (.k (.d (.int .i64 2)))⟩,
    ⟨(some 43), (some (40, true)), .bin .eql (.t 42) (.k (.d (.int .i64 1)))⟩,
    ⟨(some 44), (some (34, false)), .pick (.t 40) (.t 43) (.k (.d (.bool false)))⟩,
    ⟨(some 45), (some (28, true)), .pick (.t 34) (.k (.d (.bool true))) (.t 44)⟩,
    ⟨(some 46), none, .pick (.t 28) (.t 45) (.k (.d (.bool false)))⟩])
  (.cond (.t 46) (.reg [⟨(some 47), none, .mov (.t 9)⟩,
      ⟨(some 48), none, .bin .add (.t 47) (.k (.d (.int .i64 1)))⟩,
      ⟨(some 9), none, .mov (.t 48)⟩])
  .skip))
  (.seq (.seq (.reg [⟨(some 49), none, .mov (.t 11)⟩,
    ⟨(some 50), none, .inv .not (.t 49)⟩,
    ⟨(some 51), none, .mov (.t 50)⟩,
    ⟨(some 52), (some (51, false)), .mov (.t 9)⟩,
    ⟨(some 53), (some (51, false)), .bin .gtr (.t 52) (.k (.d (.int .i64 4000000000000000000)))⟩,
    ⟨(some 54), none, .pick (.t 51) (.k (.d (.bool true))) (.t 53)⟩])
  (.cond (.t 54) (.seq (.reg [⟨(some 6), none, .mov (.k (.d (.int .i64 0)))⟩,
      ⟨(some 7), none, .mov (.k (.d (.int .i64 5)))⟩])
    .ret)
  .skip))
  (.seq (.reg [⟨(some 55), none, .mov (.t 9)⟩,
    ⟨(some 6), none, .mov (.t 55)⟩,
    ⟨(some 7), none, .mov (.k (.d (.int .i64 0)))⟩])
  .ret)))))))
def rs54 : List RV := [.tmp 6, .tmp 7]
theorem ok54 : okF Try.prog 54 = true := by kernel_rfl
theorem cc54 : cCode Try.prog Try.f54.ntmps (Try.f54.body.getD .skip) = some c54 := by kernel_rfl
theorem cr54 : cRess Try.prog Try.f54.results.toList = some rs54 := by kernel_rfl
theorem pure54 {args : List V} {res : V} (hlen : args.length ≤ 56) (hna : namesL args = []) (hnr : res.names = []) (h : ∀ c : Ctx, c.P = Try.prog → c.fn = [] → vcC c c54 ⟨initE 0 args, [], []⟩ (RetK c rs54 res [])) : Ctr Try.prog 54 args [] res [] [] :=
  ctr_pure Try.func54 ok54 rfl cc54 cr54 Try.ntmps54 hlen hna hnr h
theorem own54 {args : List V} {ins outs : List (Nat × Own)} {res : V} {new : List Nat} (hlen : args.length ≤ 56) (hf : ctrB args ins res outs new = true) (h : ∀ c : Ctx, c.P = Try.prog → c.fn = namesL args ++ ownNames ins → vcC c c54 ⟨initE 0 args, ins, namesL args ++ ownNames ins⟩ (RetK c rs54 res outs)) : Ctr Try.prog 54 args ins res outs new :=
  ctr_own Try.func54 ok54 rfl cc54 cr54 Try.ntmps54 hlen hf h

/-- bordereau/span.Right -/
def c55 : C :=
  (.seq (.reg [⟨(some 1), none, .box 23 (.t 0)⟩,
    ⟨(some 2), none, .mov (.k (.d (.bool false)))⟩])
  (.seq (.reg [⟨(some 3), none, .fadr 0 (.t 1)⟩,
    ⟨(some 4), none, .load 1 false (.t 3)⟩,
    ⟨(some 5), none, .bin .geq (.t 4) (.k (.d (.int .i64 1)))⟩,
    ⟨(some 6), none, .mov (.t 5)⟩,
    ⟨(some 7), (some (6, true)), .fadr 0 (.t 1)⟩,
    ⟨(some 8), (some (6, true)), .load 1 false (.t 7)⟩,
    ⟨(some 9), (some (6, true)), .fadr 1 (.t 1)⟩,
    ⟨(some 10), (some (6, true)), .load 1 false (.t 9)⟩,
    ⟨(some 11), (some (6, true)), .bin .leq (.t 8) (.t 10)⟩,
    ⟨(some 12), none, .pick (.t 6) (.t 11) (.k (.d (.bool false)))⟩,
    ⟨(some 13), none, .mov (.t 12)⟩,
    ⟨(some 14), (some (13, true)), .fadr 1 (.t 1)⟩,
    ⟨(some 15), (some (13, true)), .load 1 false (.t 14)⟩,
    ⟨(some 16), (some (13, true)), .bin .leq (.t 15) (.k (.d (.int .i64 292195)))⟩,
    ⟨(some 17), none, .pick (.t 13) (.t 16) (.k (.d (.bool false)))⟩,
    ⟨(some 2), none, .mov (.t 17)⟩])
  .ret))
def rs55 : List RV := [.tmp 2]
theorem ok55 : okF Try.prog 55 = true := by kernel_rfl
theorem cc55 : cCode Try.prog Try.f55.ntmps (Try.f55.body.getD .skip) = some c55 := by kernel_rfl
theorem cr55 : cRess Try.prog Try.f55.results.toList = some rs55 := by kernel_rfl
theorem pure55 {args : List V} {res : V} (hlen : args.length ≤ 18) (hna : namesL args = []) (hnr : res.names = []) (h : ∀ c : Ctx, c.P = Try.prog → c.fn = [] → vcC c c55 ⟨initE 0 args, [], []⟩ (RetK c rs55 res [])) : Ctr Try.prog 55 args [] res [] [] :=
  ctr_pure Try.func55 ok55 rfl cc55 cr55 Try.ntmps55 hlen hna hnr h
theorem own55 {args : List V} {ins outs : List (Nat × Own)} {res : V} {new : List Nat} (hlen : args.length ≤ 18) (hf : ctrB args ins res outs new = true) (h : ∀ c : Ctx, c.P = Try.prog → c.fn = namesL args ++ ownNames ins → vcC c c55 ⟨initE 0 args, ins, namesL args ++ ownNames ins⟩ (RetK c rs55 res outs)) : Ctr Try.prog 55 args ins res outs new :=
  ctr_own Try.func55 ok55 rfl cc55 cr55 Try.ntmps55 hlen hf h

/-- bordereau/num.even -/
def c56 : C :=
  (.seq (.reg [⟨(some 0), none, .alloc 78 [.d (.raw .nilFunc)]⟩])
  (.seq (.reg [⟨(some 1), none, .build [.d (.raw .nilFunc)] [(0, 1, (.k (.fn (.func 60) [] [])))]⟩,
    ⟨none, none, .store 1 (.t 0) (.t 1)⟩])
  .ret))
def rs56 : List RV := [.cell 0 1 true]
theorem ok56 : okF Try.prog 56 = true := by kernel_rfl
theorem cc56 : cCode Try.prog Try.f56.ntmps (Try.f56.body.getD .skip) = some c56 := by kernel_rfl
theorem cr56 : cRess Try.prog Try.f56.results.toList = some rs56 := by kernel_rfl
theorem pure56 {args : List V} {res : V} (hlen : args.length ≤ 2) (hna : namesL args = []) (hnr : res.names = []) (h : ∀ c : Ctx, c.P = Try.prog → c.fn = [] → vcC c c56 ⟨initE 0 args, [], []⟩ (RetK c rs56 res [])) : Ctr Try.prog 56 args [] res [] [] :=
  ctr_pure Try.func56 ok56 rfl cc56 cr56 Try.ntmps56 hlen hna hnr h
theorem own56 {args : List V} {ins outs : List (Nat × Own)} {res : V} {new : List Nat} (hlen : args.length ≤ 2) (hf : ctrB args ins res outs new = true) (h : ∀ c : Ctx, c.P = Try.prog → c.fn = namesL args ++ ownNames ins → vcC c c56 ⟨initE 0 args, ins, namesL args ++ ownNames ins⟩ (RetK c rs56 res outs)) : Ctr Try.prog 56 args ins res outs new :=
  ctr_own Try.func56 ok56 rfl cc56 cr56 Try.ntmps56 hlen hf h

/-- (bordereau/num.rounding).of -/
def c57 : C :=
  (.seq (.reg [⟨(some 4), none, .box 78 (.t 0)⟩,
    ⟨(some 8), none, .mov (.k (.d (.int .i64 0)))⟩,
    ⟨(some 9), none, .mov (.k (.d (.int .i64 0)))⟩])
  (.seq (.block 0 (.seq (.reg [⟨(some 15), none, .mov (.t 1)⟩,
      ⟨(some 16), none, .bin .lss (.t 15) (.k (.d (.int .i64 0)))⟩,
      ⟨(some 17), none, .mov (.t 16)⟩,
      ⟨(some 18), (some (17, false)), .mov (.t 2)⟩,
      ⟨(some 19), (some (17, false)), .bin .lss (.t 18) (.k (.d (.int .i64 0)))⟩,
      ⟨(some 20), none, .pick (.t 17) (.k (.d (.bool true))) (.t 19)⟩,
      ⟨(some 21), none, .mov (.t 20)⟩,
      ⟨(some 22), (some (21, false)), .mov (.t 3)⟩,
      ⟨(some 23), (some (21, false)), .bin .lss (.t 22) (.k (.d (.int .i64 0)))⟩,
      ⟨(some 24), none, .pick (.t 21) (.k (.d (.bool true))) (.t 23)⟩,
      ⟨(some 14), none, .mov (.t 24)⟩])
    (.cond (.t 14) (.seq (.reg [⟨(some 8), none, .mov (.k (.d (.int .i64 0)))⟩,
        ⟨(some 9), none, .mov (.k (.d (.int .i64 1)))⟩])
      .ret)
    (.seq (.reg [⟨(some 26), none, .mov (.t 3)⟩,
        ⟨(some 27), none, .bin .eql (.t 26) (.k (.d (.int .i64 0)))⟩,
        ⟨(some 25), none, .mov (.t 27)⟩])
      (.cond (.t 25) (.seq (.reg [⟨(some 8), none, .mov (.k (.d (.int .i64 0)))⟩,
          ⟨(some 9), none, .mov (.k (.d (.int .i64 6)))⟩])
        .ret)
      .skip)))))
  (.seq (.reg [⟨(some 29), none, .mov (.t 1)⟩,
    ⟨(some 30), none, .conv .u64 (.t 29)⟩,
    ⟨(some 31), none, .mov (.t 2)⟩,
    ⟨(some 32), none, .conv .u64 (.t 31)⟩,
    ⟨(some 33), none, .call 61 [(.t 30), (.t 32)]⟩,
    ⟨(some 28), none, .mov (.t 33)⟩,
    ⟨(some 34), none, .ext 0 (.t 28)⟩,
    ⟨(some 35), none, .ext 1 (.t 28)⟩,
    ⟨(some 10), none, .mov (.t 34)⟩,
    ⟨(some 11), none, .mov (.t 35)⟩])
  (.seq (.seq (.reg [⟨(some 36), none, .mov (.t 10)⟩,
    ⟨(some 37), none, .mov (.t 3)⟩,
    ⟨(some 38), none, .conv .u64 (.t 37)⟩,
    ⟨(some 39), none, .bin .geq (.t 36) (.t 38)⟩])
  (.cond (.t 39) (.seq (.reg [⟨(some 8), none, .mov (.k (.d (.int .i64 0)))⟩,
      ⟨(some 9), none, .mov (.k (.d (.int .i64 5)))⟩])
    .ret)
  .skip))
  (.seq (.reg [⟨(some 41), none, .mov (.t 10)⟩,
    ⟨(some 42), none, .mov (.t 11)⟩,
    ⟨(some 43), none, .mov (.t 3)⟩,
    ⟨(some 44), none, .conv .u64 (.t 43)⟩,
    ⟨(some 45), none, .call 62 [(.t 41), (.t 42), (.t 44)]⟩,
    ⟨(some 40), none, .mov (.t 45)⟩,
    ⟨(some 46), none, .ext 0 (.t 40)⟩,
    ⟨(some 47), none, .ext 1 (.t 40)⟩,
    ⟨(some 12), none, .mov (.t 46)⟩,
    ⟨(some 13), none, .mov (.t 47)⟩])
  (.seq (.seq (.reg [⟨(some 48), none, .mov (.t 12)⟩,
    ⟨(some 49), none, .bin .gtr (.t 48) (.k (.d (.int .u64 4000000000000000000)))⟩])
  (.cond (.t 49) (.seq (.reg [⟨(some 8), none, .mov (.k (.d (.int .i64 0)))⟩,
      ⟨(some 9), none, .mov (.k (.d (.int .i64 5)))⟩])
    .ret)
  .skip))
  (.seq (.seq (.reg [⟨(some 50), none, .fadr 0 (.t 4)⟩,
    ⟨(some 51), none, .load 1 false (.t 50)⟩,
    ⟨(some 52), none, .mov (.t 12)⟩,
    ⟨(some 53), none, .mov (.t 13)⟩,
    ⟨(some 54), none, .mov (.t 3)⟩,
    ⟨(some 55), none, .conv .u64 (.t 54)⟩,
    ⟨(some 56), none, .callv (.t 51) [(.t 52), (.t 53), (.t 55)]⟩])
  (.cond (.t 56) (.reg [⟨(some 57), none, .mov (.t 12)⟩,
      ⟨(some 58), none, .bin .add (.t 57) (.k (.d (.int .u64 1)))⟩,
      ⟨(some 12), none, .mov (.t 58)⟩])
  .skip))
  (.seq (.seq (.reg [⟨(some 59), none, .mov (.t 12)⟩,
    ⟨(some 60), none, .bin .gtr (.t 59) (.k (.d (.int .u64 4000000000000000000)))⟩])
  (.cond (.t 60) (.seq (.reg [⟨(some 8), none, .mov (.k (.d (.int .i64 0)))⟩,
      ⟨(some 9), none, .mov (.k (.d (.int .i64 5)))⟩])
    .ret)
  .skip))
  (.seq (.reg [⟨(some 61), none, .mov (.t 12)⟩,
    ⟨(some 62), none, .conv .i64 (.t 61)⟩,
    ⟨(some 8), none, .mov (.t 62)⟩,
    ⟨(some 9), none, .mov (.k (.d (.int .i64 0)))⟩])
  .ret)))))))))
def rs57 : List RV := [.tmp 8, .tmp 9]
theorem ok57 : okF Try.prog 57 = true := by kernel_rfl
theorem cc57 : cCode Try.prog Try.f57.ntmps (Try.f57.body.getD .skip) = some c57 := by kernel_rfl
theorem cr57 : cRess Try.prog Try.f57.results.toList = some rs57 := by kernel_rfl
theorem pure57 {args : List V} {res : V} (hlen : args.length ≤ 63) (hna : namesL args = []) (hnr : res.names = []) (h : ∀ c : Ctx, c.P = Try.prog → c.fn = [] → vcC c c57 ⟨initE 0 args, [], []⟩ (RetK c rs57 res [])) : Ctr Try.prog 57 args [] res [] [] :=
  ctr_pure Try.func57 ok57 rfl cc57 cr57 Try.ntmps57 hlen hna hnr h
theorem own57 {args : List V} {ins outs : List (Nat × Own)} {res : V} {new : List Nat} (hlen : args.length ≤ 63) (hf : ctrB args ins res outs new = true) (h : ∀ c : Ctx, c.P = Try.prog → c.fn = namesL args ++ ownNames ins → vcC c c57 ⟨initE 0 args, ins, namesL args ++ ownNames ins⟩ (RetK c rs57 res outs)) : Ctr Try.prog 57 args ins res outs new :=
  ctr_own Try.func57 ok57 rfl cc57 cr57 Try.ntmps57 hlen hf h

/-- bordereau/bordereauref01.check -/
def c58 : C :=
  (.seq (.reg [⟨(some 6), none, .mov (.k (.d (.int .i64 0)))⟩])
  (.seq (.seq (.reg [⟨(some 7), none, .mov (.t 0)⟩,
    ⟨(some 8), none, .bin .lss (.t 7) (.k (.d (.int .i64 0)))⟩,
    ⟨(some 9), none, .mov (.t 8)⟩,
    ⟨(some 10), (some (9, false)), .mov (.t 1)⟩,
    ⟨(some 11), (some (9, false)), .bin .lss (.t 10) (.k (.d (.int .i64 0)))⟩,
    ⟨(some 12), none, .pick (.t 9) (.k (.d (.bool true))) (.t 11)⟩,
    ⟨(some 13), none, .mov (.t 12)⟩,
    ⟨(some 14), (some (13, false)), .mov (.t 2)⟩,
    ⟨(some 15), (some (13, false)), .bin .lss (.t 14) (.k (.d (.int .i64 0)))⟩,
    ⟨(some 16), none, .pick (.t 13) (.k (.d (.bool true))) (.t 15)⟩])
  (.cond (.t 16) (.seq (.reg [⟨(some 6), none, .mov (.k (.d (.int .i64 1)))⟩])
    .ret)
  .skip))
  (.seq (.seq (.reg [⟨(some 17), none, .mov (.t 2)⟩,
    ⟨(some 18), none, .bin .eql (.t 17) (.k (.d (.int .i64 0)))⟩])
  (.cond (.t 18) (.seq (.reg [⟨(some 6), none, .mov (.k (.d (.int .i64 6)))⟩])
    .ret)
  .skip))
  (.seq (.reg [⟨(some 6), none, .mov (.k (.d (.int .i64 0)))⟩])
  .ret))))
def rs58 : List RV := [.tmp 6]
theorem ok58 : okF Try.prog 58 = true := by kernel_rfl
theorem cc58 : cCode Try.prog Try.f58.ntmps (Try.f58.body.getD .skip) = some c58 := by kernel_rfl
theorem cr58 : cRess Try.prog Try.f58.results.toList = some rs58 := by kernel_rfl
theorem pure58 {args : List V} {res : V} (hlen : args.length ≤ 19) (hna : namesL args = []) (hnr : res.names = []) (h : ∀ c : Ctx, c.P = Try.prog → c.fn = [] → vcC c c58 ⟨initE 0 args, [], []⟩ (RetK c rs58 res [])) : Ctr Try.prog 58 args [] res [] [] :=
  ctr_pure Try.func58 ok58 rfl cc58 cr58 Try.ntmps58 hlen hna hnr h
theorem own58 {args : List V} {ins outs : List (Nat × Own)} {res : V} {new : List Nat} (hlen : args.length ≤ 19) (hf : ctrB args ins res outs new = true) (h : ∀ c : Ctx, c.P = Try.prog → c.fn = namesL args ++ ownNames ins → vcC c c58 ⟨initE 0 args, ins, namesL args ++ ownNames ins⟩ (RetK c rs58 res outs)) : Ctr Try.prog 58 args ins res outs new :=
  ctr_own Try.func58 ok58 rfl cc58 cr58 Try.ntmps58 hlen hf h

/-- bordereau/bordereauref01.Two -/
def c59 : C :=
  (.seq (.reg [⟨(some 6), none, .mov (.k (.d (.int .i64 0)))⟩,
    ⟨(some 7), none, .mov (.k (.d (.int .i64 0)))⟩,
    ⟨(some 8), none, .mov (.k (.d (.bool false)))⟩])
  (.seq (.reg [⟨(some 9), none, .mov (.k (.d (.int .u64 0)))⟩])
  (.seq (.reg [⟨(some 10), none, .mov (.k (.d (.int .u64 0)))⟩])
  (.seq (.reg [⟨(some 15), none, .mov (.t 2)⟩,
    ⟨(some 16), none, .conv .u64 (.t 15)⟩,
    ⟨(some 11), none, .mov (.t 16)⟩])
  (.seq (.reg [⟨(some 17), none, .mov (.t 1)⟩,
    ⟨(some 18), none, .conv .u64 (.t 17)⟩,
    ⟨(some 19), none, .mov (.t 11)⟩,
    ⟨(some 20), none, .bin .quo (.t 18) (.t 19)⟩,
    ⟨(some 12), none, .mov (.t 20)⟩])
  (.seq (.reg [⟨(some 21), none, .mov (.t 1)⟩,
    ⟨(some 22), none, .conv .u64 (.t 21)⟩,
    ⟨(some 23), none, .mov (.t 11)⟩,
    ⟨(some 24), none, .bin .rem (.t 22) (.t 23)⟩,
    ⟨(some 13), none, .mov (.t 24)⟩])
  (.seq (.seq (.reg [⟨(some 14), none, .mov (.k (.d (.int .i64 62)))⟩])
  (.block 0 (.loop (.seq (.seq (.reg [⟨(some 25), none, .mov (.t 14)⟩,
        ⟨(some 26), none, .bin .geq (.t 25) (.k (.d (.int .i64 0)))⟩])
      (.cond (.t 26) .skip
      (.exit 0)))
      (.seq (.block 1 (.seq (.reg [⟨(some 29), none, .mov (.t 9)⟩,
          ⟨(some 30), none, .bin .mul (.k (.d (.int .u64 2))) (.t 29)⟩,
          ⟨(some 9), none, .mov (.t 30)⟩])
        (.seq (.reg [⟨(some 31), none, .mov (.t 10)⟩,
          ⟨(some 32), none, .bin .mul (.k (.d (.int .u64 2))) (.t 31)⟩,
          ⟨(some 10), none, .mov (.t 32)⟩])
        (.seq (.seq (.reg [⟨(some 33), none, .mov (.t 10)⟩,
          ⟨(some 34), none, .mov (.t 11)⟩,
          ⟨(some 35), none, .bin .geq (.t 33) (.t 34)⟩])
        (.cond (.t 35) (.seq (.reg [⟨(some 36), none, .mov (.t 10)⟩,
            ⟨(some 37), none, .mov (.t 11)⟩,
            ⟨(some 38), none, .bin .sub (.t 36) (.t 37)⟩,
            ⟨(some 10), none, .mov (.t 38)⟩])
          (.reg [⟨(some 39), none, .mov (.t 9)⟩,
            ⟨(some 40), none, .bin .add (.t 39) (.k (.d (.int .u64 1)))⟩,
            ⟨(some 9), none, .mov (.t 40)⟩]))
        .skip))
        (.seq (.seq (.reg [⟨(some 41), none, .mov (.t 0)⟩,
          ⟨(some 42), none, .mov (.t 14)⟩,
          ⟨(some 43), none, .shf false (.t 41) (.t 42)⟩,
          ⟨(some 44), none, .bin .rem (.t 43) (.k (.d (.int .i64 2)))⟩,
          ⟨(some 45), none, .bin .eql (.t 44) (.k (.d (.int .i64 1)))⟩])
        (.cond (.t 45) (.seq (.reg [⟨(some 46), none, .mov (.t 9)⟩,
            ⟨(some 47), none, .mov (.t 12)⟩,
            ⟨(some 48), none, .bin .add (.t 46) (.t 47)⟩,
            ⟨(some 9), none, .mov (.t 48)⟩])
          (.seq (.reg [⟨(some 49), none, .mov (.t 10)⟩,
            ⟨(some 50), none, .mov (.t 13)⟩,
            ⟨(some 51), none, .bin .add (.t 49) (.t 50)⟩,
            ⟨(some 10), none, .mov (.t 51)⟩])
          (.seq (.reg [⟨(some 52), none, .mov (.t 10)⟩,
            ⟨(some 53), none, .mov (.t 11)⟩,
            ⟨(some 54), none, .bin .geq (.t 52) (.t 53)⟩])
          (.cond (.t 54) (.seq (.reg [⟨(some 55), none, .mov (.t 10)⟩,
              ⟨(some 56), none, .mov (.t 11)⟩,
              ⟨(some 57), none, .bin .sub (.t 55) (.t 56)⟩,
              ⟨(some 10), none, .mov (.t 57)⟩])
            (.reg [⟨(some 58), none, .mov (.t 9)⟩,
              ⟨(some 59), none, .bin .add (.t 58) (.k (.d (.int .u64 1)))⟩,
              ⟨(some 9), none, .mov (.t 59)⟩]))
          .skip))))
        .skip))
        (.seq (.reg [⟨(some 60), none, .mov (.t 9)⟩,
          ⟨(some 61), none, .bin .gtr (.t 60) (.k (.d (.int .u64 4000000000000000000)))⟩])
        (.cond (.t 61) (.seq (.reg [⟨(some 6), none, .mov (.k (.d (.int .i64 0)))⟩,
            ⟨(some 7), none, .mov (.k (.d (.int .i64 0)))⟩,
            ⟨(some 8), none, .mov (.k (.d (.bool false)))⟩])
          .ret)
        .skip)))))))
      (.reg [⟨(some 27), none, .mov (.t 14)⟩,
        ⟨(some 28), none, .bin .sub (.t 27) (.k (.d (.int .i64 1)))⟩,
        ⟨(some 14), none, .mov (.t 28)⟩]))))))
  (.seq (.reg [⟨(some 62), none, .mov (.t 9)⟩,
    ⟨(some 63), none, .conv .i64 (.t 62)⟩,
    ⟨(some 64), none, .mov (.t 10)⟩,
    ⟨(some 65), none, .conv .i64 (.t 64)⟩,
    ⟨(some 6), none, .mov (.t 63)⟩,
    ⟨(some 7), none, .mov (.t 65)⟩,
    ⟨(some 8), none, .mov (.k (.d (.bool true)))⟩])
  .ret))))))))
def rs59 : List RV := [.tmp 6, .tmp 7, .tmp 8]
theorem ok59 : okF Try.prog 59 = true := by kernel_rfl
theorem cc59 : cCode Try.prog Try.f59.ntmps (Try.f59.body.getD .skip) = some c59 := by kernel_rfl
theorem cr59 : cRess Try.prog Try.f59.results.toList = some rs59 := by kernel_rfl
theorem pure59 {args : List V} {res : V} (hlen : args.length ≤ 66) (hna : namesL args = []) (hnr : res.names = []) (h : ∀ c : Ctx, c.P = Try.prog → c.fn = [] → vcC c c59 ⟨initE 0 args, [], []⟩ (RetK c rs59 res [])) : Ctr Try.prog 59 args [] res [] [] :=
  ctr_pure Try.func59 ok59 rfl cc59 cr59 Try.ntmps59 hlen hna hnr h
theorem own59 {args : List V} {ins outs : List (Nat × Own)} {res : V} {new : List Nat} (hlen : args.length ≤ 66) (hf : ctrB args ins res outs new = true) (h : ∀ c : Ctx, c.P = Try.prog → c.fn = namesL args ++ ownNames ins → vcC c c59 ⟨initE 0 args, ins, namesL args ++ ownNames ins⟩ (RetK c rs59 res outs)) : Ctr Try.prog 59 args ins res outs new :=
  ctr_own Try.func59 ok59 rfl cc59 cr59 Try.ntmps59 hlen hf h

/-- bordereau/num.even$1 -/
def c60 : C :=
  (.seq (.reg [⟨(some 6), none, .mov (.k (.d (.bool false)))⟩])
  (.seq (.reg [⟨(some 7), none, .mov (.t 1)⟩,
    ⟨(some 8), none, .mov (.t 2)⟩,
    ⟨(some 9), none, .mov (.t 1)⟩,
    ⟨(some 10), none, .bin .sub (.t 8) (.t 9)⟩,
    ⟨(some 11), none, .bin .gtr (.t 7) (.t 10)⟩,
    ⟨(some 12), none, .mov (.t 11)⟩,
    ⟨(some 13), (some (12, false)), .mov (.t 1)⟩,
    ⟨(some 14), (some (12, false)), .mov (.t 2)⟩,
    ⟨(some 15), (some (12, false)), .mov (.t 1)⟩,
    ⟨(some 16), (some (12, false)), .bin .sub (.t 14) (.t 15)⟩,
    ⟨(some 17), (some (12, false)), .bin .eql (.t 13) (.t 16)⟩,
    ⟨(some 18), (some (12, false)), .mov (.t 17)⟩,
    ⟨(some 19), (some (18, true)), .mov (.t 0)⟩,
    ⟨(some 20), (some (18, true)), .bin .rem (.t 19) (.k (.d (.int .u64 2)))⟩,
    ⟨(some 21), (some (18, true)), .bin .eql (.t 20) (.k (.d (.int .u64 1)))⟩,
    ⟨(some 22), (some (12, false)), .pick (.t 18) (.t 21) (.k (.d (.bool false)))⟩,
    ⟨(some 23), none, .pick (.t 12) (.k (.d (.bool true))) (.t 22)⟩,
    ⟨(some 6), none, .mov (.t 23)⟩])
  .ret))
def rs60 : List RV := [.tmp 6]
theorem ok60 : okF Try.prog 60 = true := by kernel_rfl
theorem cc60 : cCode Try.prog Try.f60.ntmps (Try.f60.body.getD .skip) = some c60 := by kernel_rfl
theorem cr60 : cRess Try.prog Try.f60.results.toList = some rs60 := by kernel_rfl
theorem pure60 {args : List V} {res : V} (hlen : args.length ≤ 24) (hna : namesL args = []) (hnr : res.names = []) (h : ∀ c : Ctx, c.P = Try.prog → c.fn = [] → vcC c c60 ⟨initE 0 args, [], []⟩ (RetK c rs60 res [])) : Ctr Try.prog 60 args [] res [] [] :=
  ctr_pure Try.func60 ok60 rfl cc60 cr60 Try.ntmps60 hlen hna hnr h
theorem own60 {args : List V} {ins outs : List (Nat × Own)} {res : V} {new : List Nat} (hlen : args.length ≤ 24) (hf : ctrB args ins res outs new = true) (h : ∀ c : Ctx, c.P = Try.prog → c.fn = namesL args ++ ownNames ins → vcC c c60 ⟨initE 0 args, ins, namesL args ++ ownNames ins⟩ (RetK c rs60 res outs)) : Ctr Try.prog 60 args ins res outs new :=
  ctr_own Try.func60 ok60 rfl cc60 cr60 Try.ntmps60 hlen hf h

/-- math/bits.Mul64 -/
def c61 : C :=
  (.seq (.reg [⟨(some 4), none, .mov (.k (.d (.int .u64 0)))⟩,
    ⟨(some 5), none, .mov (.k (.d (.int .u64 0)))⟩])
  (.seq (.reg [⟨(some 14), none, .mov (.t 0)⟩,
    ⟨(some 15), none, .bin .and (.t 14) (.k (.d (.int .u64 4294967295)))⟩,
    ⟨(some 6), none, .mov (.t 15)⟩])
  (.seq (.reg [⟨(some 16), none, .mov (.t 0)⟩,
    ⟨(some 17), none, .shf false (.t 16) (.k (.d (.int .u64 32)))⟩,
    ⟨(some 7), none, .mov (.t 17)⟩])
  (.seq (.reg [⟨(some 18), none, .mov (.t 1)⟩,
    ⟨(some 19), none, .bin .and (.t 18) (.k (.d (.int .u64 4294967295)))⟩,
    ⟨(some 8), none, .mov (.t 19)⟩])
  (.seq (.reg [⟨(some 20), none, .mov (.t 1)⟩,
    ⟨(some 21), none, .shf false (.t 20) (.k (.d (.int .u64 32)))⟩,
    ⟨(some 9), none, .mov (.t 21)⟩])
  (.seq (.reg [⟨(some 22), none, .mov (.t 6)⟩,
    ⟨(some 23), none, .mov (.t 8)⟩,
    ⟨(some 24), none, .bin .mul (.t 22) (.t 23)⟩,
    ⟨(some 10), none, .mov (.t 24)⟩])
  (.seq (.reg [⟨(some 25), none, .mov (.t 7)⟩,
    ⟨(some 26), none, .mov (.t 8)⟩,
    ⟨(some 27), none, .bin .mul (.t 25) (.t 26)⟩,
    ⟨(some 28), none, .mov (.t 10)⟩,
    ⟨(some 29), none, .shf false (.t 28) (.k (.d (.int .u64 32)))⟩,
    ⟨(some 30), none, .bin .add (.t 27) (.t 29)⟩,
    ⟨(some 11), none, .mov (.t 30)⟩])
  (.seq (.reg [⟨(some 31), none, .mov (.t 11)⟩,
    ⟨(some 32), none, .bin .and (.t 31) (.k (.d (.int .u64 4294967295)))⟩,
    ⟨(some 12), none, .mov (.t 32)⟩])
  (.seq (.reg [⟨(some 33), none, .mov (.t 11)⟩,
    ⟨(some 34), none, .shf false (.t 33) (.k (.d (.int .u64 32)))⟩,
    ⟨(some 13), none, .mov (.t 34)⟩])
  (.seq (.reg [⟨(some 35), none, .mov (.t 12)⟩,
    ⟨(some 36), none, .mov (.t 6)⟩,
    ⟨(some 37), none, .mov (.t 9)⟩,
    ⟨(some 38), none, .bin .mul (.t 36) (.t 37)⟩,
    ⟨(some 39), none, .bin .add (.t 35) (.t 38)⟩,
    ⟨(some 12), none, .mov (.t 39)⟩])
  (.seq (.reg [⟨(some 40), none, .mov (.t 7)⟩,
    ⟨(some 41), none, .mov (.t 9)⟩,
    ⟨(some 42), none, .bin .mul (.t 40) (.t 41)⟩,
    ⟨(some 43), none, .mov (.t 13)⟩,
    ⟨(some 44), none, .bin .add (.t 42) (.t 43)⟩,
    ⟨(some 45), none, .mov (.t 12)⟩,
    ⟨(some 46), none, .shf false (.t 45) (.k (.d (.int .u64 32)))⟩,
    ⟨(some 47), none, .bin .add (.t 44) (.t 46)⟩,
    ⟨(some 4), none, .mov (.t 47)⟩])
  (.seq (.reg [⟨(some 48), none, .mov (.t 0)⟩,
    ⟨(some 49), none, .mov (.t 1)⟩,
    ⟨(some 50), none, .bin .mul (.t 48) (.t 49)⟩,
    ⟨(some 5), none, .mov (.t 50)⟩])
  .ret))))))))))))
def rs61 : List RV := [.tmp 4, .tmp 5]
theorem ok61 : okF Try.prog 61 = true := by kernel_rfl
theorem cc61 : cCode Try.prog Try.f61.ntmps (Try.f61.body.getD .skip) = some c61 := by kernel_rfl
theorem cr61 : cRess Try.prog Try.f61.results.toList = some rs61 := by kernel_rfl
theorem pure61 {args : List V} {res : V} (hlen : args.length ≤ 51) (hna : namesL args = []) (hnr : res.names = []) (h : ∀ c : Ctx, c.P = Try.prog → c.fn = [] → vcC c c61 ⟨initE 0 args, [], []⟩ (RetK c rs61 res [])) : Ctr Try.prog 61 args [] res [] [] :=
  ctr_pure Try.func61 ok61 rfl cc61 cr61 Try.ntmps61 hlen hna hnr h
theorem own61 {args : List V} {ins outs : List (Nat × Own)} {res : V} {new : List Nat} (hlen : args.length ≤ 51) (hf : ctrB args ins res outs new = true) (h : ∀ c : Ctx, c.P = Try.prog → c.fn = namesL args ++ ownNames ins → vcC c c61 ⟨initE 0 args, ins, namesL args ++ ownNames ins⟩ (RetK c rs61 res outs)) : Ctr Try.prog 61 args ins res outs new :=
  ctr_own Try.func61 ok61 rfl cc61 cr61 Try.ntmps61 hlen hf h

/-- math/bits.Div64 -/
def c62 : C :=
  (.seq (.reg [⟨(some 6), none, .mov (.k (.d (.int .u64 0)))⟩,
    ⟨(some 7), none, .mov (.k (.d (.int .u64 0)))⟩])
  (.seq (.seq (.reg [⟨(some 19), none, .mov (.t 2)⟩,
    ⟨(some 20), none, .bin .eql (.t 19) (.k (.d (.int .u64 0)))⟩])
  (.cond (.t 20) .bad
  .skip))
  (.seq (.seq (.reg [⟨(some 22), none, .mov (.t 2)⟩,
    ⟨(some 23), none, .mov (.t 0)⟩,
    ⟨(some 24), none, .bin .leq (.t 22) (.t 23)⟩])
  (.cond (.t 24) .bad
  .skip))
  (.seq (.seq (.reg [⟨(some 26), none, .mov (.t 0)⟩,
    ⟨(some 27), none, .bin .eql (.t 26) (.k (.d (.int .u64 0)))⟩])
  (.cond (.t 27) (.seq (.drw [0, 0, 3, 0, 0, 24, 7, 127]
     [⟨(some 28), none, .mov (.t 1)⟩,
      ⟨(some 29), none, .mov (.t 2)⟩,
      ⟨(some 30), none, .bin .quo (.t 28) (.t 29)⟩,
      ⟨(some 31), none, .mov (.t 1)⟩,
      ⟨(some 32), none, .mov (.t 2)⟩,
      ⟨(some 33), none, .bin .rem (.t 31) (.t 32)⟩,
      ⟨(some 6), none, .mov (.t 30)⟩,
      ⟨(some 7), none, .mov (.t 33)⟩])
    .ret)
  .skip))
  (.seq (.reg [⟨(some 34), none, .mov (.t 2)⟩,
    ⟨(some 35), none, .call 63 [(.t 34)]⟩,
    ⟨(some 36), none, .conv .u64 (.t 35)⟩,
    ⟨(some 8), none, .mov (.t 36)⟩])
  (.seq (.reg [⟨(some 37), none, .mov (.t 2)⟩,
    ⟨(some 38), none, .mov (.t 8)⟩,
    ⟨(some 39), none, .shf true (.t 37) (.t 38)⟩,
    ⟨(some 2), none, .mov (.t 39)⟩])
  (.seq (.reg [⟨(some 40), none, .mov (.t 2)⟩,
    ⟨(some 41), none, .shf false (.t 40) (.k (.d (.int .u64 32)))⟩,
    ⟨(some 9), none, .mov (.t 41)⟩])
  (.seq (.reg [⟨(some 42), none, .mov (.t 2)⟩,
    ⟨(some 43), none, .bin .and (.t 42) (.k (.d (.int .u64 4294967295)))⟩,
    ⟨(some 10), none, .mov (.t 43)⟩])
  (.seq (.reg [⟨(some 44), none, .mov (.t 0)⟩,
    ⟨(some 45), none, .mov (.t 8)⟩,
    ⟨(some 46), none, .shf true (.t 44) (.t 45)⟩,
    ⟨(some 47), none, .mov (.t 1)⟩,
    ⟨(some 48), none, .mov (.t 8)⟩,
    ⟨(some 49), none, .bin .sub (.k (.d (.int .u64 64))) (.t 48)⟩,
    ⟨(some 50), none, .shf false (.t 47) (.t 49)⟩,
    ⟨(some 51), none, .bin .or (.t 46) (.t 50)⟩,
    ⟨(some 11), none, .mov (.t 51)⟩])
  (.seq (.reg [⟨(some 52), none, .mov (.t 1)⟩,
    ⟨(some 53), none, .mov (.t 8)⟩,
    ⟨(some 54), none, .shf true (.t 52) (.t 53)⟩,
    ⟨(some 12), none, .mov (.t 54)⟩])
  (.seq (.reg [⟨(some 55), none, .mov (.t 12)⟩,
    ⟨(some 56), none, .shf false (.t 55) (.k (.d (.int .u64 32)))⟩,
    ⟨(some 13), none, .mov (.t 56)⟩])
  (.seq (.reg [⟨(some 57), none, .mov (.t 12)⟩,
    ⟨(some 58), none, .bin .and (.t 57) (.k (.d (.int .u64 4294967295)))⟩,
    ⟨(some 14), none, .mov (.t 58)⟩])
  (.seq (.reg [⟨(some 59), none, .mov (.t 11)⟩,
    ⟨(some 60), none, .mov (.t 9)⟩,
    ⟨(some 61), none, .bin .quo (.t 59) (.t 60)⟩,
    ⟨(some 15), none, .mov (.t 61)⟩])
  (.seq (.reg [⟨(some 62), none, .mov (.t 11)⟩,
    ⟨(some 63), none, .mov (.t 15)⟩,
    ⟨(some 64), none, .mov (.t 9)⟩,
    ⟨(some 65), none, .bin .mul (.t 63) (.t 64)⟩,
    ⟨(some 66), none, .bin .sub (.t 62) (.t 65)⟩,
    ⟨(some 16), none, .mov (.t 66)⟩])
  (.seq (.block 0 (.loop (.seq (.seq (.reg [⟨(some 67), none, .mov (.t 15)⟩,
        ⟨(some 68), none, .bin .geq (.t 67) (.k (.d (.int .u64 4294967296)))⟩,
        ⟨(some 69), none, .mov (.t 68)⟩,
        ⟨(some 70), (some (69, false)), .mov (.t 15)⟩,
        ⟨(some 71), (some (69, false)), .mov (.t 10)⟩,
        ⟨(some 72), (some (69, false)), .bin .mul (.t 70) (.t 71)⟩,
        ⟨(some 73), (some (69, false)), .mov (.t 16)⟩,
        ⟨(some 74), (some (69, false)), .bin .mul (.k (.d (.int .u64 4294967296))) (.t 73)⟩,
        ⟨(some 75), (some (69, false)), .mov (.t 13)⟩,
        ⟨(some 76), (some (69, false)), .bin .add (.t 74) (.t 75)⟩,
        ⟨(some 77), (some (69, false)), .bin .gtr (.t 72) (.t 76)⟩,
        ⟨(some 78), none, .pick (.t 69) (.k (.d (.bool true))) (.t 77)⟩])
      (.cond (.t 78) .skip
      (.exit 0)))
      (.block 1 (.seq (.reg [⟨(some 79), none, .mov (.t 15)⟩,
          ⟨(some 80), none, .bin .sub (.t 79) (.k (.d (.int .u64 1)))⟩,
          ⟨(some 15), none, .mov (.t 80)⟩])
        (.seq (.reg [⟨(some 81), none, .mov (.t 16)⟩,
          ⟨(some 82), none, .mov (.t 9)⟩,
          ⟨(some 83), none, .bin .add (.t 81) (.t 82)⟩,
          ⟨(some 16), none, .mov (.t 83)⟩])
        (.seq (.reg [⟨(some 84), none, .mov (.t 16)⟩,
          ⟨(some 85), none, .bin .geq (.t 84) (.k (.d (.int .u64 4294967296)))⟩])
        (.cond (.t 85) (.exit 0)
        .skip))))))))
  (.seq (.reg [⟨(some 86), none, .mov (.t 11)⟩,
    ⟨(some 87), none, .bin .mul (.t 86) (.k (.d (.int .u64 4294967296)))⟩,
    ⟨(some 88), none, .mov (.t 13)⟩,
    ⟨(some 89), none, .bin .add (.t 87) (.t 88)⟩,
    ⟨(some 90), none, .mov (.t 15)⟩,
    ⟨(some 91), none, .mov (.t 2)⟩,
    ⟨(some 92), none, .bin .mul (.t 90) (.t 91)⟩,
    ⟨(some 93), none, .bin .sub (.t 89) (.t 92)⟩,
    ⟨(some 17), none, .mov (.t 93)⟩])
  (.seq (.reg [⟨(some 94), none, .mov (.t 17)⟩,
    ⟨(some 95), none, .mov (.t 9)⟩,
    ⟨(some 96), none, .bin .quo (.t 94) (.t 95)⟩,
    ⟨(some 18), none, .mov (.t 96)⟩])
  (.seq (.reg [⟨(some 97), none, .mov (.t 17)⟩,
    ⟨(some 98), none, .mov (.t 18)⟩,
    ⟨(some 99), none, .mov (.t 9)⟩,
    ⟨(some 100), none, .bin .mul (.t 98) (.t 99)⟩,
    ⟨(some 101), none, .bin .sub (.t 97) (.t 100)⟩,
    ⟨(some 16), none, .mov (.t 101)⟩])
  (.seq (.block 2 (.loop (.seq (.seq (.reg [⟨(some 102), none, .mov (.t 18)⟩,
        ⟨(some 103), none, .bin .geq (.t 102) (.k (.d (.int .u64 4294967296)))⟩,
        ⟨(some 104), none, .mov (.t 103)⟩,
        ⟨(some 105), (some (104, false)), .mov (.t 18)⟩,
        ⟨(some 106), (some (104, false)), .mov (.t 10)⟩,
        ⟨(some 107), (some (104, false)), .bin .mul (.t 105) (.t 106)⟩,
        ⟨(some 108), (some (104, false)), .mov (.t 16)⟩,
        ⟨(some 109), (some (104, false)), .bin .mul (.k (.d (.int .u64 4294967296))) (.t 108)⟩,
        ⟨(some 110), (some (104, false)), .mov (.t 14)⟩,
        ⟨(some 111), (some (104, false)), .bin .add (.t 109) (.t 110)⟩,
        ⟨(some 112), (some (104, false)), .bin .gtr (.t 107) (.t 111)⟩,
        ⟨(some 113), none, .pick (.t 104) (.k (.d (.bool true))) (.t 112)⟩])
      (.cond (.t 113) .skip
      (.exit 2)))
      (.block 3 (.seq (.reg [⟨(some 114), none, .mov (.t 18)⟩,
          ⟨(some 115), none, .bin .sub (.t 114) (.k (.d (.int .u64 1)))⟩,
          ⟨(some 18), none, .mov (.t 115)⟩])
        (.seq (.reg [⟨(some 116), none, .mov (.t 16)⟩,
          ⟨(some 117), none, .mov (.t 9)⟩,
          ⟨(some 118), none, .bin .add (.t 116) (.t 117)⟩,
          ⟨(some 16), none, .mov (.t 118)⟩])
        (.seq (.reg [⟨(some 119), none, .mov (.t 16)⟩,
          ⟨(some 120), none, .bin .geq (.t 119) (.k (.d (.int .u64 4294967296)))⟩])
        (.cond (.t 120) (.exit 2)
        .skip))))))))
  (.seq (.reg [⟨(some 121), none, .mov (.t 15)⟩,
    ⟨(some 122), none, .bin .mul (.t 121) (.k (.d (.int .u64 4294967296)))⟩,
    ⟨(some 123), none, .mov (.t 18)⟩,
    ⟨(some 124), none, .bin .add (.t 122) (.t 123)⟩,
    ⟨(some 125), none, .mov (.t 17)⟩,
    ⟨(some 126), none, .bin .mul (.t 125) (.k (.d (.int .u64 4294967296)))⟩,
    ⟨(some 127), none, .mov (.t 14)⟩,
    ⟨(some 128), none, .bin .add (.t 126) (.t 127)⟩,
    ⟨(some 129), none, .mov (.t 18)⟩,
    ⟨(some 130), none, .mov (.t 2)⟩,
    ⟨(some 131), none, .bin .mul (.t 129) (.t 130)⟩,
    ⟨(some 132), none, .bin .sub (.t 128) (.t 131)⟩,
    ⟨(some 133), none, .mov (.t 8)⟩,
    ⟨(some 134), none, .shf false (.t 132) (.t 133)⟩,
    ⟨(some 6), none, .mov (.t 124)⟩,
    ⟨(some 7), none, .mov (.t 134)⟩])
  .ret))))))))))))))))))))
def rs62 : List RV := [.tmp 6, .tmp 7]
theorem ok62 : okF Try.prog 62 = true := by kernel_rfl
theorem cc62 : cCode Try.prog Try.f62.ntmps (Try.f62.body.getD .skip) = some c62 := by kernel_rfl
theorem cr62 : cRess Try.prog Try.f62.results.toList = some rs62 := by kernel_rfl
theorem pure62 {args : List V} {res : V} (hlen : args.length ≤ 135) (hna : namesL args = []) (hnr : res.names = []) (h : ∀ c : Ctx, c.P = Try.prog → c.fn = [] → vcC c c62 ⟨initE 0 args, [], []⟩ (RetK c rs62 res [])) : Ctr Try.prog 62 args [] res [] [] :=
  ctr_pure Try.func62 ok62 rfl cc62 cr62 Try.ntmps62 hlen hna hnr h
theorem own62 {args : List V} {ins outs : List (Nat × Own)} {res : V} {new : List Nat} (hlen : args.length ≤ 135) (hf : ctrB args ins res outs new = true) (h : ∀ c : Ctx, c.P = Try.prog → c.fn = namesL args ++ ownNames ins → vcC c c62 ⟨initE 0 args, ins, namesL args ++ ownNames ins⟩ (RetK c rs62 res outs)) : Ctr Try.prog 62 args ins res outs new :=
  ctr_own Try.func62 ok62 rfl cc62 cr62 Try.ntmps62 hlen hf h

/-- math/bits.LeadingZeros64 -/
def c63 : C :=
  (.seq (.reg [⟨(some 2), none, .mov (.k (.d (.int .i64 0)))⟩])
  (.seq (.reg [⟨(some 3), none, .mov (.t 0)⟩,
    ⟨(some 4), none, .call 64 [(.t 3)]⟩,
    ⟨(some 5), none, .bin .sub (.k (.d (.int .i64 64))) (.t 4)⟩,
    ⟨(some 2), none, .mov (.t 5)⟩])
  .ret))
def rs63 : List RV := [.tmp 2]
theorem ok63 : okF Try.prog 63 = true := by kernel_rfl
theorem cc63 : cCode Try.prog Try.f63.ntmps (Try.f63.body.getD .skip) = some c63 := by kernel_rfl
theorem cr63 : cRess Try.prog Try.f63.results.toList = some rs63 := by kernel_rfl
theorem pure63 {args : List V} {res : V} (hlen : args.length ≤ 6) (hna : namesL args = []) (hnr : res.names = []) (h : ∀ c : Ctx, c.P = Try.prog → c.fn = [] → vcC c c63 ⟨initE 0 args, [], []⟩ (RetK c rs63 res [])) : Ctr Try.prog 63 args [] res [] [] :=
  ctr_pure Try.func63 ok63 rfl cc63 cr63 Try.ntmps63 hlen hna hnr h
theorem own63 {args : List V} {ins outs : List (Nat × Own)} {res : V} {new : List Nat} (hlen : args.length ≤ 6) (hf : ctrB args ins res outs new = true) (h : ∀ c : Ctx, c.P = Try.prog → c.fn = namesL args ++ ownNames ins → vcC c c63 ⟨initE 0 args, ins, namesL args ++ ownNames ins⟩ (RetK c rs63 res outs)) : Ctr Try.prog 63 args ins res outs new :=
  ctr_own Try.func63 ok63 rfl cc63 cr63 Try.ntmps63 hlen hf h

/-- math/bits.Len64 -/
def c64 : C :=
  (.seq (.reg [⟨(some 2), none, .mov (.k (.d (.int .i64 0)))⟩])
  (.seq (.seq (.reg [⟨(some 3), none, .mov (.t 0)⟩,
    ⟨(some 4), none, .bin .geq (.t 3) (.k (.d (.int .u64 4294967296)))⟩])
  (.cond (.t 4) (.seq (.reg [⟨(some 5), none, .mov (.t 0)⟩,
      ⟨(some 6), none, .shf false (.t 5) (.k (.d (.int .u64 32)))⟩,
      ⟨(some 0), none, .mov (.t 6)⟩])
    (.reg [⟨(some 2), none, .mov (.k (.d (.int .i64 32)))⟩]))
  .skip))
  (.seq (.seq (.reg [⟨(some 7), none, .mov (.t 0)⟩,
    ⟨(some 8), none, .bin .geq (.t 7) (.k (.d (.int .u64 65536)))⟩])
  (.cond (.t 8) (.seq (.reg [⟨(some 9), none, .mov (.t 0)⟩,
      ⟨(some 10), none, .shf false (.t 9) (.k (.d (.int .u64 16)))⟩,
      ⟨(some 0), none, .mov (.t 10)⟩])
    (.reg [⟨(some 11), none, .mov (.t 2)⟩,
      ⟨(some 12), none, .bin .add (.t 11) (.k (.d (.int .i64 16)))⟩,
      ⟨(some 2), none, .mov (.t 12)⟩]))
  .skip))
  (.seq (.seq (.reg [⟨(some 13), none, .mov (.t 0)⟩,
    ⟨(some 14), none, .bin .geq (.t 13) (.k (.d (.int .u64 256)))⟩])
  (.cond (.t 14) (.seq (.reg [⟨(some 15), none, .mov (.t 0)⟩,
      ⟨(some 16), none, .shf false (.t 15) (.k (.d (.int .u64 8)))⟩,
      ⟨(some 0), none, .mov (.t 16)⟩])
    (.reg [⟨(some 17), none, .mov (.t 2)⟩,
      ⟨(some 18), none, .bin .add (.t 17) (.k (.d (.int .i64 8)))⟩,
      ⟨(some 2), none, .mov (.t 18)⟩]))
  .skip))
  (.seq (.reg [⟨(some 19), none, .mov (.t 2)⟩,
    ⟨(some 20), none, .mov (.t 0)⟩,
    ⟨(some 21), none, .conv .u8 (.t 20)⟩,
    ⟨(some 22), none, .sidx ⟨#[0, 1, 2, 2, 3, 3, 3, 3, 4, 4, 4, 4, 4, 4, 4, 4, 5, 5, 5, 5, 5, 5, 5, 5, 5, 5, 5, 5, 5, 5, 5, 5, 6, 6, 6, 6, 6, 6, 6, 6, 6, 6, 6, 6, 6, 6, 6, 6, 6, 6, 6, 6, 6, 6, 6, 6, 6, 6, 6, 6, 6, 6, 6, 6, 7, 7, 7, 7, 7, 7, 7, 7, 7, 7, 7, 7, 7, 7, 7, 7, 7, 7, 7, 7, 7, 7, 7, 7, 7, 7, 7, 7, 7, 7, 7, 7, 7, 7, 7, 7, 7, 7, 7, 7, 7, 7, 7, 7, 7, 7, 7, 7, 7, 7, 7, 7, 7, 7, 7, 7, 7, 7, 7, 7, 7, 7, 7, 7, 8, 8, 8, 8, 8, 8, 8, 8, 8, 8, 8, 8, 8, 8, 8, 8, 8, 8, 8, 8, 8, 8, 8, 8, 8, 8, 8, 8, 8, 8, 8, 8, 8, 8, 8, 8, 8, 8, 8, 8, 8, 8, 8, 8, 8, 8, 8, 8, 8, 8, 8, 8, 8, 8, 8, 8, 8, 8, 8, 8, 8, 8, 8, 8, 8, 8, 8, 8, 8, 8, 8, 8, 8, 8, 8, 8, 8, 8, 8, 8, 8, 8, 8, 8, 8, 8, 8, 8, 8, 8, 8, 8, 8, 8, 8, 8, 8, 8, 8, 8, 8, 8, 8, 8, 8, 8, 8, 8, 8, 8, 8, 8, 8, 8, 8, 8, 8, 8, 8, 8, 8, 8, 8, 8, 8, 8, 8, 8]⟩ (.t 21)⟩,
    ⟨(some 23), none, .conv .i64 (.t 22)⟩,
    ⟨(some 24), none, .bin .add (.t 19) (.t 23)⟩,
    ⟨(some 2), none, .mov (.t 24)⟩])
  .ret)))))
def rs64 : List RV := [.tmp 2]
theorem ok64 : okF Try.prog 64 = true := by kernel_rfl
theorem cc64 : cCode Try.prog Try.f64.ntmps (Try.f64.body.getD .skip) = some c64 := by kernel_rfl
theorem cr64 : cRess Try.prog Try.f64.results.toList = some rs64 := by kernel_rfl
theorem pure64 {args : List V} {res : V} (hlen : args.length ≤ 25) (hna : namesL args = []) (hnr : res.names = []) (h : ∀ c : Ctx, c.P = Try.prog → c.fn = [] → vcC c c64 ⟨initE 0 args, [], []⟩ (RetK c rs64 res [])) : Ctr Try.prog 64 args [] res [] [] :=
  ctr_pure Try.func64 ok64 rfl cc64 cr64 Try.ntmps64 hlen hna hnr h
theorem own64 {args : List V} {ins outs : List (Nat × Own)} {res : V} {new : List Nat} (hlen : args.length ≤ 25) (hf : ctrB args ins res outs new = true) (h : ∀ c : Ctx, c.P = Try.prog → c.fn = namesL args ++ ownNames ins → vcC c c64 ⟨initE 0 args, ins, namesL args ++ ownNames ins⟩ (RetK c rs64 res outs)) : Ctr Try.prog 64 args ins res outs new :=
  ctr_own Try.func64 ok64 rfl cc64 cr64 Try.ntmps64 hlen hf h

end Go.Proofs.Ytolhfgjekomaaaa
