/-
  The code of this seat's functions, compiled for the engine (by a program of mine); the theorems say that it is theirs.
-/
import Derived.Test.YthkfedghiklmeaaRows
import Derived.Test.YthkfedghiklmeaaEng24
import Derived.KernelRfl
namespace Go.Proofs.Ythkfedghiklmeaa
open Go.Bx

set_option maxRecDepth 100000

/-- bordereau/bordereaulaw16.BillPlans -/
def c3 : C :=
  (.seq (.reg [⟨(some 4), none, .box 23 (.t 1)⟩,
    ⟨(some 6), none, .mov (.k (.d (.bool false)))⟩])
  (.seq (.reg [⟨(some 12), none, .call 11 []⟩,
    ⟨(some 7), none, .mov (.t 12)⟩])
  (.seq (.reg [⟨(some 14), none, .mov (.t 0)⟩,
    ⟨(some 15), none, .load 2 true (.t 4)⟩,
    ⟨(some 16), none, .mov (.t 2)⟩,
    ⟨(some 17), none, .call 12 [(.t 14), (.t 15), (.t 16)]⟩,
    ⟨(some 13), none, .mov (.t 17)⟩,
    ⟨(some 18), none, .ext 0 (.t 13)⟩,
    ⟨(some 19), none, .ext 1 (.t 13)⟩,
    ⟨(some 8), none, .mov (.t 18)⟩,
    ⟨(some 9), none, .mov (.t 19)⟩])
  (.seq (.reg [⟨(some 21), none, .mov (.t 0)⟩,
    ⟨(some 22), none, .load 2 true (.t 4)⟩,
    ⟨(some 23), none, .mov (.t 2)⟩,
    ⟨(some 24), none, .call 13 [(.t 21), (.t 22), (.t 23)]⟩,
    ⟨(some 20), none, .mov (.t 24)⟩,
    ⟨(some 25), none, .ext 0 (.t 20)⟩,
    ⟨(some 26), none, .ext 1 (.t 20)⟩,
    ⟨(some 10), none, .mov (.t 25)⟩,
    ⟨(some 11), none, .mov (.t 26)⟩])
  (.seq (.reg [⟨(some 27), none, .mov (.t 7)⟩,
    ⟨(some 28), none, .mov (.t 27)⟩,
    ⟨(some 29), (some (28, true)), .mov (.t 9)⟩,
    ⟨(some 30), (some (28, true)), .mov (.t 11)⟩,
    ⟨(some 31), (some (28, true)), .bin .eql (.t 29) (.t 30)⟩,
    ⟨(some 32), none, .pick (.t 28) (.t 31) (.k (.d (.bool false)))⟩,
    ⟨(some 33), none, .mov (.t 32)⟩,
    ⟨(some 34), (some (33, true)), .mov (.t 8)⟩,
    ⟨(some 35), (some (33, true)), .mov (.t 10)⟩,
    ⟨(some 36), (some (33, true)), .call 14 [(.t 34), (.t 35)]⟩,
    ⟨(some 37), none, .pick (.t 33) (.t 36) (.k (.d (.bool false)))⟩,
    ⟨(some 6), none, .mov (.t 37)⟩])
  .ret)))))
def rs3 : List RV := [.tmp 6]
theorem ok3 : okF Try.prog 3 = true := by kernel_rfl
theorem cc3 : cCode Try.prog Try.f3.ntmps (Try.f3.body.getD .skip) = some c3 := by kernel_rfl
theorem cr3 : cRess Try.prog Try.f3.results.toList = some rs3 := by kernel_rfl
theorem pure3 {args : List V} {res : V} (hlen : args.length ≤ 38) (hna : namesL args = []) (hnr : res.names = []) (h : ∀ c : Ctx, c.P = Try.prog → c.fn = [] → vcC c c3 ⟨initE 0 args, [], []⟩ (RetK c rs3 res [])) : Ctr Try.prog 3 args [] res [] [] :=
  ctr_pure Try.func3 ok3 rfl cc3 cr3 Try.ntmps3 hlen hna hnr h
theorem own3 {args : List V} {ins outs : List (Nat × Own)} {res : V} {new : List Nat} (hlen : args.length ≤ 38) (hf : ctrB args ins res outs new = true) (h : ∀ c : Ctx, c.P = Try.prog → c.fn = namesL args ++ ownNames ins → vcC c c3 ⟨initE 0 args, ins, namesL args ++ ownNames ins⟩ (RetK c rs3 res outs)) : Ctr Try.prog 3 args ins res outs new :=
  ctr_own Try.func3 ok3 rfl cc3 cr3 Try.ntmps3 hlen hf h

/-- bordereau/bordereaulaw16.BillPays -/
def c4 : C :=
  (.seq (.reg [⟨(some 6), none, .mov (.k (.d (.bool false)))⟩])
  (.seq (.reg [⟨(some 12), none, .call 11 []⟩,
    ⟨(some 7), none, .mov (.t 12)⟩])
  (.seq (.seq (.reg [⟨(some 13), none, .mov (.t 0)⟩,
    ⟨(some 14), none, .len (.t 13)⟩,
    ⟨(some 15), none, .bin .gtr (.t 14) (.k (.d (.int .i64 200)))⟩])
  (.cond (.t 15) (.seq (.reg [⟨(some 16), none, .mov (.t 7)⟩,
      ⟨(some 6), none, .mov (.t 16)⟩])
    .ret)
  .skip))
  (.seq (.reg [⟨(some 18), none, .mov (.t 0)⟩,
    ⟨(some 19), none, .mov (.t 1)⟩,
    ⟨(some 20), none, .call 15 [(.t 18), (.t 19)]⟩,
    ⟨(some 17), none, .mov (.t 20)⟩,
    ⟨(some 21), none, .ext 0 (.t 17)⟩,
    ⟨(some 22), none, .ext 1 (.t 17)⟩,
    ⟨(some 8), none, .mov (.t 21)⟩,
    ⟨(some 9), none, .mov (.t 22)⟩])
  (.seq (.reg [⟨(some 24), none, .mov (.t 0)⟩,
    ⟨(some 25), none, .mov (.t 1)⟩,
    ⟨(some 26), none, .call 16 [(.t 24), (.t 25)]⟩,
    ⟨(some 23), none, .mov (.t 26)⟩,
    ⟨(some 27), none, .ext 0 (.t 23)⟩,
    ⟨(some 28), none, .ext 1 (.t 23)⟩,
    ⟨(some 10), none, .mov (.t 27)⟩,
    ⟨(some 11), none, .mov (.t 28)⟩])
  (.seq (.reg [⟨(some 29), none, .mov (.t 7)⟩,
    ⟨(some 30), none, .mov (.t 29)⟩,
    ⟨(some 31), (some (30, true)), .mov (.t 0)⟩,
    ⟨(some 32), (some (30, true)), .call 17 [(.t 31)]⟩,
    ⟨(some 33), (some (30, true)), .mov (.t 0)⟩,
    ⟨(some 34), (some (30, true)), .call 18 [(.t 33)]⟩,
    ⟨(some 35), (some (30, true)), .beq false (.t 32) (.t 34)⟩,
    ⟨(some 36), none, .pick (.t 30) (.t 35) (.k (.d (.bool false)))⟩,
    ⟨(some 37), none, .mov (.t 36)⟩,
    ⟨(some 38), (some (37, true)), .mov (.t 9)⟩,
    ⟨(some 39), (some (37, true)), .mov (.t 11)⟩,
    ⟨(some 40), (some (37, true)), .bin .eql (.t 38) (.t 39)⟩,
    ⟨(some 41), none, .pick (.t 37) (.t 40) (.k (.d (.bool false)))⟩,
    ⟨(some 42), none, .mov (.t 41)⟩,
    ⟨(some 43), (some (42, true)), .mov (.t 8)⟩,
    ⟨(some 44), (some (42, true)), .mov (.t 10)⟩,
    ⟨(some 45), (some (42, true)), .call 14 [(.t 43), (.t 44)]⟩,
    ⟨(some 46), none, .pick (.t 42) (.t 45) (.k (.d (.bool false)))⟩,
    ⟨(some 47), none, .mov (.t 46)⟩,
    ⟨(some 48), (some (47, true)), .mov (.t 0)⟩,
    ⟨(some 49), (some (47, true)), .mov (.t 2)⟩,
    ⟨(some 50), (some (47, true)), .call 19 [(.t 48), (.t 49)]⟩,
    ⟨(some 51), (some (47, true)), .mov (.t 0)⟩,
    ⟨(some 52), (some (47, true)), .mov (.t 2)⟩,
    ⟨(some 53), (some (47, true)), .call 20 [(.t 51), (.t 52)]⟩,
    ⟨(some 54), (some (47, true)), .bin .eql (.t 50) (.t 53)⟩,
    ⟨(some 55), none, .pick (.t 47) (.t 54) (.k (.d (.bool false)))⟩,
    ⟨(some 6), none, .mov (.t 55)⟩])
  .ret))))))
def rs4 : List RV := [.tmp 6]
theorem ok4 : okF Try.prog 4 = true := by kernel_rfl
theorem cc4 : cCode Try.prog Try.f4.ntmps (Try.f4.body.getD .skip) = some c4 := by kernel_rfl
theorem cr4 : cRess Try.prog Try.f4.results.toList = some rs4 := by kernel_rfl
theorem pure4 {args : List V} {res : V} (hlen : args.length ≤ 56) (hna : namesL args = []) (hnr : res.names = []) (h : ∀ c : Ctx, c.P = Try.prog → c.fn = [] → vcC c c4 ⟨initE 0 args, [], []⟩ (RetK c rs4 res [])) : Ctr Try.prog 4 args [] res [] [] :=
  ctr_pure Try.func4 ok4 rfl cc4 cr4 Try.ntmps4 hlen hna hnr h
theorem own4 {args : List V} {ins outs : List (Nat × Own)} {res : V} {new : List Nat} (hlen : args.length ≤ 56) (hf : ctrB args ins res outs new = true) (h : ∀ c : Ctx, c.P = Try.prog → c.fn = namesL args ++ ownNames ins → vcC c c4 ⟨initE 0 args, ins, namesL args ++ ownNames ins⟩ (RetK c rs4 res outs)) : Ctr Try.prog 4 args ins res outs new :=
  ctr_own Try.func4 ok4 rfl cc4 cr4 Try.ntmps4 hlen hf h

/-- bordereau/bordereaulaw16.BillWhole -/
def c5 : C :=
  (.seq (.reg [⟨(some 4), none, .box 23 (.t 1)⟩,
    ⟨(some 6), none, .mov (.k (.d (.bool false)))⟩])
  (.seq (.reg [⟨(some 15), none, .call 11 []⟩,
    ⟨(some 7), none, .mov (.t 15)⟩])
  (.seq (.reg [⟨(some 17), none, .mov (.t 0)⟩,
    ⟨(some 18), none, .load 2 true (.t 4)⟩,
    ⟨(some 19), none, .mov (.t 2)⟩,
    ⟨(some 20), none, .call 12 [(.t 17), (.t 18), (.t 19)]⟩,
    ⟨(some 16), none, .mov (.t 20)⟩,
    ⟨(some 21), none, .ext 0 (.t 16)⟩,
    ⟨(some 22), none, .ext 1 (.t 16)⟩,
    ⟨(some 8), none, .mov (.t 21)⟩,
    ⟨(some 9), none, .mov (.t 22)⟩])
  (.seq (.seq (.reg [⟨(some 23), none, .mov (.t 9)⟩,
    ⟨(some 24), none, .bin .neq (.t 23) (.k (.d (.int .i64 0)))⟩])
  (.cond (.t 24) (.seq (.reg [⟨(some 25), none, .mov (.t 7)⟩,
      ⟨(some 26), none, .mov (.t 25)⟩,
      ⟨(some 27), (some (26, true)), .mov (.t 8)⟩,
      ⟨(some 28), (some (26, true)), .len (.t 27)⟩,
      ⟨(some 29), (some (26, true)), .bin .eql (.t 28) (.k (.d (.int .i64 0)))⟩,
      ⟨(some 30), none, .pick (.t 26) (.t 29) (.k (.d (.bool false)))⟩,
      ⟨(some 6), none, .mov (.t 30)⟩])
    .ret)
  .skip))
  (.seq (.reg [⟨(some 32), none, .mov (.t 8)⟩,
    ⟨(some 33), none, .call 21 [(.t 32)]⟩,
    ⟨(some 31), none, .mov (.t 33)⟩,
    ⟨(some 34), none, .ext 0 (.t 31)⟩,
    ⟨(some 35), none, .ext 1 (.t 31)⟩,
    ⟨(some 10), none, .mov (.t 34)⟩,
    ⟨(some 11), none, .mov (.t 35)⟩])
  (.seq (.seq (.reg [⟨(some 36), none, .mov (.t 8)⟩,
    ⟨(some 37), none, .len (.t 36)⟩,
    ⟨(some 38), none, .mov (.t 2)⟩,
    ⟨(some 39), none, .bin .neq (.t 37) (.t 38)⟩,
    ⟨(some 40), none, .mov (.t 39)⟩,
    ⟨(some 41), (some (40, false)), .mov (.t 10)⟩,
    ⟨(some 42), (some (40, false)), .mov (.t 0)⟩,
    ⟨(some 43), (some (40, false)), .bin .neq (.t 41) (.t 42)⟩,
    ⟨(some 44), none, .pick (.t 40) (.k (.d (.bool true))) (.t 43)⟩,
    ⟨(some 45), none, .mov (.t 44)⟩,
    ⟨(some 46), (some (45, false)), .mov (.t 11)⟩,
    ⟨(some 47), (some (45, false)), .bin .neq (.t 46) (.k (.d (.int .i64 0)))⟩,
    ⟨(some 48), none, .pick (.t 45) (.k (.d (.bool true))) (.t 47)⟩,
    ⟨(some 49), none, .mov (.t 48)⟩,
    ⟨(some 50), (some (49, false)), .mov (.t 8)⟩,
    ⟨(some 51), (some (49, false)), .call 17 [(.t 50)]⟩,
    ⟨(some 52), (some (49, false)), .inv .not (.t 51)⟩,
    ⟨(some 53), none, .pick (.t 49) (.k (.d (.bool true))) (.t 52)⟩,
    ⟨(some 54), none, .mov (.t 53)⟩,
    ⟨(some 55), (some (54, false)), .mov (.t 8)⟩,
    ⟨(some 56), (some (54, false)), .len (.t 55)⟩,
    ⟨(some 57), (some (54, false)), .bin .eql (.t 56) (.k (.d (.int .i64 0)))⟩,
    ⟨(some 58), none, .pick (.t 54) (.k (.d (.bool true))) (.t 57)⟩])
  (.cond (.t 58) (.seq (.reg [⟨(some 6), none, .mov (.k (.d (.bool false)))⟩])
    .ret)
  .skip))
  (.seq (.seq (.reg [⟨(some 12), none, .mov (.k (.d (.int .i64 0)))⟩])
  (.block 0 (.loop (.seq (.seq (.reg [⟨(some 59), none, .mov (.t 12)⟩,
        ⟨(some 60), none, .mov (.t 8)⟩,
        ⟨(some 61), none, .len (.t 60)⟩,
        ⟨(some 62), none, .bin .lss (.t 59) (.t 61)⟩])
      (.cond (.t 62) .skip
      (.exit 0)))
      (.seq (.block 2 (.seq (.drw [0, 1, 0, 4, 0, 16, 60, 127, 255, 511, 511, 1023, 4095]
         [⟨(some 66), none, .fadr 0 (.t 4)⟩,
          ⟨(some 67), none, .load 1 false (.t 66)⟩,
          ⟨(some 68), none, .mov (.t 12)⟩,
          ⟨(some 69), none, .bin .mul (.t 68) (.k (.d (.int .i64 12)))⟩,
          ⟨(some 70), none, .mov (.t 8)⟩,
          ⟨(some 71), none, .len (.t 70)⟩,
          ⟨(some 72), none, .bin .quo (.t 69) (.t 71)⟩,
          ⟨(some 73), none, .call 22 [(.t 67), (.t 72)]⟩,
          ⟨(some 65), none, .mov (.t 73)⟩,
          ⟨(some 74), none, .ext 0 (.t 65)⟩,
          ⟨(some 75), none, .ext 1 (.t 65)⟩,
          ⟨(some 13), none, .mov (.t 74)⟩,
          ⟨(some 14), none, .mov (.t 75)⟩])
        (.seq (.drw [0, 1, 3, 7, 7, 31, 63, 127, 7, 511, 1023, 2047, 4095, 4095, 16383, 32767, 65535, 4095, 4095, 266239, 921599, 2097151, 4194303, 8388607, 16777215, 16777215, 67108863, 134217727, 268435455, 16777215, 16777215, 1090519039, 3774873599, 8069840895, 17179869183, 34359738367]
         [⟨(some 76), none, .mov (.t 14)⟩,
          ⟨(some 77), none, .bin .neq (.t 76) (.k (.d (.int .i64 0)))⟩,
          ⟨(some 78), none, .mov (.t 77)⟩,
          ⟨(some 79), (some (78, false)), .mov (.t 8)⟩,
          ⟨(some 80), (some (78, false)), .mov (.t 12)⟩,
          ⟨(some 81), (some (78, false)), .iadr 3 (.t 79) (.t 80)⟩,
          ⟨(some 82), (some (78, false)), .fadr 0 (.t 81)⟩,
          ⟨(some 83), (some (78, false)), .load 1 false (.t 82)⟩,
          ⟨(some 84), (some (78, false)), .mov (.t 13)⟩,
          ⟨(some 85), (some (78, false)), .bin .neq (.t 83) (.t 84)⟩,
          ⟨(some 86), none, .pick (.t 78) (.k (.d (.bool true))) (.t 85)⟩,
          ⟨(some 87), none, .mov (.t 86)⟩,
          ⟨(some 88), (some (87, false)), .mov (.t 8)⟩,
          ⟨(some 89), (some (87, false)), .mov (.t 12)⟩,
          ⟨(some 90), (some (87, false)), .iadr 3 (.t 88) (.t 89)⟩,
          ⟨(some 91), (some (87, false)), .fadr 1 (.t 90)⟩,
          ⟨(some 92), (some (87, false)), .load 1 false (.t 91)⟩,
          ⟨(some 93), (some (87, false)), .mov (.t 0)⟩,
          ⟨(some 94), (some (87, false)), .mov (.t 8)⟩,
          ⟨(some 95), (some (87, false)), .len (.t 94)⟩,
          ⟨(some 96), (some (87, false)), .bin .quo (.t 93) (.t 95)⟩,
          ⟨(some 97), (some (87, false)), .bin .lss (.t 92) (.t 96)⟩,
          ⟨(some 98), none, .pick (.t 87) (.k (.d (.bool true))) (.t 97)⟩,
          ⟨(some 99), none, .mov (.t 98)⟩,
          ⟨(some 100), (some (99, false)), .mov (.t 8)⟩,
          ⟨(some 101), (some (99, false)), .mov (.t 12)⟩,
          ⟨(some 102), (some (99, false)), .iadr 3 (.t 100) (.t 101)⟩,
          ⟨(some 103), (some (99, false)), .fadr 1 (.t 102)⟩,
          ⟨(some 104), (some (99, false)), .load 1 false (.t 103)⟩,
          ⟨(some 105), (some (99, false)), .mov (.t 0)⟩,
          ⟨(some 106), (some (99, false)), .mov (.t 8)⟩,
          ⟨(some 107), (some (99, false)), .len (.t 106)⟩,
          ⟨(some 108), (some (99, false)), .bin .quo (.t 105) (.t 107)⟩,
          ⟨(some 109), (some (99, false)), .bin .add (.t 108) (.k (.d (.int .i64 1)))⟩,
          ⟨(some 110), (some (99, false)), .bin .gtr (.t 104) (.t 109)⟩,
          ⟨(some 111), none, .pick (.t 99) (.k (.d (.bool true))) (.t 110)⟩])
        (.cond (.t 111) (.seq (.reg [⟨(some 6), none, .mov (.k (.d (.bool false)))⟩])
          .ret)
        .skip))))
      (.reg [⟨(some 63), none, .mov (.t 12)⟩,
        ⟨(some 64), none, .bin .add (.t 63) (.k (.d (.int .i64 1)))⟩,
        ⟨(some 12), none, .mov (.t 64)⟩]))))))
  (.seq (.drw [0, 1, 3, 7, 15, 31, 3, 67, 255, 511, 1023]
   [⟨(some 112), none, .mov (.t 7)⟩,
    ⟨(some 113), none, .mov (.t 112)⟩,
    ⟨(some 114), (some (113, true)), .mov (.t 8)⟩,
    ⟨(some 115), (some (113, true)), .iadr 3 (.t 114) (.k (.d (.int .i64 0)))⟩,
    ⟨(some 116), (some (113, true)), .fadr 0 (.t 115)⟩,
    ⟨(some 117), (some (113, true)), .load 1 false (.t 116)⟩,
    ⟨(some 118), (some (113, true)), .fadr 0 (.t 4)⟩,
    ⟨(some 119), (some (113, true)), .load 1 false (.t 118)⟩,
    ⟨(some 120), (some (113, true)), .bin .eql (.t 117) (.t 119)⟩,
    ⟨(some 121), none, .pick (.t 113) (.t 120) (.k (.d (.bool false)))⟩,
    ⟨(some 6), none, .mov (.t 121)⟩])
  .ret))))))))
def rs5 : List RV := [.tmp 6]
theorem ok5 : okF Try.prog 5 = true := by kernel_rfl
theorem cc5 : cCode Try.prog Try.f5.ntmps (Try.f5.body.getD .skip) = some c5 := by kernel_rfl
theorem cr5 : cRess Try.prog Try.f5.results.toList = some rs5 := by kernel_rfl
theorem pure5 {args : List V} {res : V} (hlen : args.length ≤ 122) (hna : namesL args = []) (hnr : res.names = []) (h : ∀ c : Ctx, c.P = Try.prog → c.fn = [] → vcC c c5 ⟨initE 0 args, [], []⟩ (RetK c rs5 res [])) : Ctr Try.prog 5 args [] res [] [] :=
  ctr_pure Try.func5 ok5 rfl cc5 cr5 Try.ntmps5 hlen hna hnr h
theorem own5 {args : List V} {ins outs : List (Nat × Own)} {res : V} {new : List Nat} (hlen : args.length ≤ 122) (hf : ctrB args ins res outs new = true) (h : ∀ c : Ctx, c.P = Try.prog → c.fn = namesL args ++ ownNames ins → vcC c c5 ⟨initE 0 args, ins, namesL args ++ ownNames ins⟩ (RetK c rs5 res outs)) : Ctr Try.prog 5 args ins res outs new :=
  ctr_own Try.func5 ok5 rfl cc5 cr5 Try.ntmps5 hlen hf h

/-- bordereau/bordereaulaw16.BillOldest -/
def c6 : C :=
  (.seq (.reg [⟨(some 4), none, .mov (.k (.d (.bool false)))⟩])
  (.seq (.reg [⟨(some 14), none, .call 11 []⟩,
    ⟨(some 5), none, .mov (.t 14)⟩])
  (.seq (.seq (.reg [⟨(some 15), none, .mov (.t 0)⟩,
    ⟨(some 16), none, .len (.t 15)⟩,
    ⟨(some 17), none, .bin .gtr (.t 16) (.k (.d (.int .i64 200)))⟩,
    ⟨(some 18), none, .mov (.t 17)⟩,
    ⟨(some 19), (some (18, false)), .mov (.t 0)⟩,
    ⟨(some 20), (some (18, false)), .call 17 [(.t 19)]⟩,
    ⟨(some 21), (some (18, false)), .inv .not (.t 20)⟩,
    ⟨(some 22), none, .pick (.t 18) (.k (.d (.bool true))) (.t 21)⟩,
    ⟨(some 23), none, .mov (.t 22)⟩,
    ⟨(some 24), (some (23, false)), .mov (.t 1)⟩,
    ⟨(some 25), (some (23, false)), .bin .lss (.t 24) (.k (.d (.int .i64 0)))⟩,
    ⟨(some 26), none, .pick (.t 23) (.k (.d (.bool true))) (.t 25)⟩,
    ⟨(some 27), none, .mov (.t 26)⟩,
    ⟨(some 28), (some (27, false)), .mov (.t 1)⟩,
    ⟨(some 29), (some (27, false)), .bin .gtr (.t 28) (.k (.d (.int .i64 4000000000000000000)))⟩,
    ⟨(some 30), none, .pick (.t 27) (.k (.d (.bool true))) (.t 29)⟩])
  (.cond (.t 30) (.seq (.reg [⟨(some 31), none, .mov (.t 5)⟩,
      ⟨(some 4), none, .mov (.t 31)⟩])
    .ret)
  .skip))
  (.seq (.reg [⟨(some 33), none, .mov (.t 0)⟩,
    ⟨(some 34), none, .mov (.t 1)⟩,
    ⟨(some 35), none, .call 15 [(.t 33), (.t 34)]⟩,
    ⟨(some 32), none, .mov (.t 35)⟩,
    ⟨(some 36), none, .ext 0 (.t 32)⟩,
    ⟨(some 37), none, .ext 1 (.t 32)⟩,
    ⟨(some 6), none, .mov (.t 36)⟩,
    ⟨(some 7), none, .mov (.t 37)⟩])
  (.seq (.seq (.reg [⟨(some 38), none, .mov (.t 6)⟩,
    ⟨(some 39), none, .len (.t 38)⟩,
    ⟨(some 40), none, .mov (.t 0)⟩,
    ⟨(some 41), none, .len (.t 40)⟩,
    ⟨(some 42), none, .bin .neq (.t 39) (.t 41)⟩,
    ⟨(some 43), none, .mov (.t 42)⟩,
    ⟨(some 44), (some (43, false)), .mov (.t 7)⟩,
    ⟨(some 45), (some (43, false)), .bin .lss (.t 44) (.k (.d (.int .i64 0)))⟩,
    ⟨(some 46), none, .pick (.t 43) (.k (.d (.bool true))) (.t 45)⟩,
    ⟨(some 47), none, .mov (.t 46)⟩,
    ⟨(some 48), (some (47, false)), .mov (.t 6)⟩,
    ⟨(some 49), (some (47, false)), .call 17 [(.t 48)]⟩,
    ⟨(some 50), (some (47, false)), .inv .not (.t 49)⟩,
    ⟨(some 51), none, .pick (.t 47) (.k (.d (.bool true))) (.t 50)⟩])
  (.cond (.t 51) (.seq (.reg [⟨(some 4), none, .mov (.k (.d (.bool false)))⟩])
    .ret)
  .skip))
  (.seq (.reg [⟨(some 53), none, .mov (.t 0)⟩,
    ⟨(some 54), none, .call 21 [(.t 53)]⟩,
    ⟨(some 52), none, .mov (.t 54)⟩,
    ⟨(some 55), none, .ext 0 (.t 52)⟩,
    ⟨(some 56), none, .ext 1 (.t 52)⟩,
    ⟨(some 8), none, .mov (.t 55)⟩,
    ⟨(some 9), none, .mov (.t 56)⟩])
  (.seq (.reg [⟨(some 58), none, .mov (.t 6)⟩,
    ⟨(some 59), none, .call 21 [(.t 58)]⟩,
    ⟨(some 57), none, .mov (.t 59)⟩,
    ⟨(some 60), none, .ext 0 (.t 57)⟩,
    ⟨(some 61), none, .ext 1 (.t 57)⟩,
    ⟨(some 10), none, .mov (.t 60)⟩,
    ⟨(some 11), none, .mov (.t 61)⟩])
  (.seq (.reg [⟨(some 12), none, .mov (.k (.d (.bool false)))⟩])
  (.seq (.seq (.reg [⟨(some 13), none, .mov (.k (.d (.int .i64 0)))⟩])
  (.block 0 (.loop (.seq (.seq (.reg [⟨(some 62), none, .mov (.t 13)⟩,
        ⟨(some 63), none, .mov (.t 6)⟩,
        ⟨(some 64), none, .len (.t 63)⟩,
        ⟨(some 65), none, .bin .lss (.t 62) (.t 64)⟩])
      (.cond (.t 65) .skip
      (.exit 0)))
      (.seq (.block 2 (.seq (.seq (.drw [0, 0, 3, 7, 15, 0, 0, 96, 224, 480, 1023, 2047, 4095, 4095, 16383, 32767, 65535, 4095, 4095, 397311, 921599, 1970175, 4194303, 8388607, 16777215, 33554431, 33554431, 134217727, 268435455, 536870911, 33554431, 33554431, 3254779903, 7549747199, 16139681791, 34359738367, 68719476735, 137438953471, 274877906943, 549755813887, 1099511627775, 1099511627775, 4398046511103, 8796093022207, 17592186044415, 1099511627775, 1099511627775, 106652627894271, 247390116249599, 528865092960255, 1125899906842623, 2251799813685247, 4503599627370495]
         [⟨(some 68), none, .mov (.t 6)⟩,
          ⟨(some 69), none, .mov (.t 13)⟩,
          ⟨(some 70), none, .iadr 3 (.t 68) (.t 69)⟩,
          ⟨(some 71), none, .fadr 0 (.t 70)⟩,
          ⟨(some 72), none, .load 1 false (.t 71)⟩,
          ⟨(some 73), none, .mov (.t 0)⟩,
          ⟨(some 74), none, .mov (.t 13)⟩,
          ⟨(some 75), none, .iadr 3 (.t 73) (.t 74)⟩,
          ⟨(some 76), none, .fadr 0 (.t 75)⟩,
          ⟨(some 77), none, .load 1 false (.t 76)⟩,
          ⟨(some 78), none, .bin .neq (.t 72) (.t 77)⟩,
          ⟨(some 79), none, .mov (.t 78)⟩,
          ⟨(some 80), (some (79, false)), .mov (.t 6)⟩,
          ⟨(some 81), (some (79, false)), .mov (.t 13)⟩,
          ⟨(some 82), (some (79, false)), .iadr 3 (.t 80) (.t 81)⟩,
          ⟨(some 83), (some (79, false)), .fadr 1 (.t 82)⟩,
          ⟨(some 84), (some (79, false)), .load 1 false (.t 83)⟩,
          ⟨(some 85), (some (79, false)), .mov (.t 0)⟩,
          ⟨(some 86), (some (79, false)), .mov (.t 13)⟩,
          ⟨(some 87), (some (79, false)), .iadr 3 (.t 85) (.t 86)⟩,
          ⟨(some 88), (some (79, false)), .fadr 1 (.t 87)⟩,
          ⟨(some 89), (some (79, false)), .load 1 false (.t 88)⟩,
          ⟨(some 90), (some (79, false)), .bin .neq (.t 84) (.t 89)⟩,
          ⟨(some 91), none, .pick (.t 79) (.k (.d (.bool true))) (.t 90)⟩,
          ⟨(some 92), none, .mov (.t 91)⟩,
          ⟨(some 93), (some (92, false)), .mov (.t 6)⟩,
          ⟨(some 94), (some (92, false)), .mov (.t 13)⟩,
          ⟨(some 95), (some (92, false)), .iadr 3 (.t 93) (.t 94)⟩,
          ⟨(some 96), (some (92, false)), .fadr 2 (.t 95)⟩,
          ⟨(some 97), (some (92, false)), .load 1 false (.t 96)⟩,
          ⟨(some 98), (some (92, false)), .mov (.t 0)⟩,
          ⟨(some 99), (some (92, false)), .mov (.t 13)⟩,
          ⟨(some 100), (some (92, false)), .iadr 3 (.t 98) (.t 99)⟩,
          ⟨(some 101), (some (92, false)), .fadr 2 (.t 100)⟩,
          ⟨(some 102), (some (92, false)), .load 1 false (.t 101)⟩,
          ⟨(some 103), (some (92, false)), .bin .lss (.t 97) (.t 102)⟩,
          ⟨(some 104), none, .pick (.t 92) (.k (.d (.bool true))) (.t 103)⟩,
          ⟨(some 105), none, .mov (.t 104)⟩,
          ⟨(some 106), (some (105, false)), .mov (.t 12)⟩,
          ⟨(some 107), (some (105, false)), .mov (.t 106)⟩,
          ⟨(some 108), (some (107, true)), .mov (.t 6)⟩,
          ⟨(some 109), (some (107, true)), .mov (.t 13)⟩,
          ⟨(some 110), (some (107, true)), .iadr 3 (.t 108) (.t 109)⟩,
          ⟨(some 111), (some (107, true)), .fadr 2 (.t 110)⟩,
          ⟨(some 112), (some (107, true)), .load 1 false (.t 111)⟩,
          ⟨(some 113), (some (107, true)), .mov (.t 0)⟩,
          ⟨(some 114), (some (107, true)), .mov (.t 13)⟩,
          ⟨(some 115), (some (107, true)), .iadr 3 (.t 113) (.t 114)⟩,
          ⟨(some 116), (some (107, true)), .fadr 2 (.t 115)⟩,
          ⟨(some 117), (some (107, true)), .load 1 false (.t 116)⟩,
          ⟨(some 118), (some (107, true)), .bin .neq (.t 112) (.t 117)⟩,
          ⟨(some 119), (some (105, false)), .pick (.t 107) (.t 118) (.k (.d (.bool false)))⟩,
          ⟨(some 120), none, .pick (.t 105) (.k (.d (.bool true))) (.t 119)⟩])
        (.cond (.t 120) (.seq (.reg [⟨(some 4), none, .mov (.k (.d (.bool false)))⟩])
          .ret)
        .skip))
        (.seq (.drw [0, 0, 3, 7, 15, 0, 0, 96, 224, 480, 1023]
         [⟨(some 121), none, .mov (.t 6)⟩,
          ⟨(some 122), none, .mov (.t 13)⟩,
          ⟨(some 123), none, .iadr 3 (.t 121) (.t 122)⟩,
          ⟨(some 124), none, .fadr 2 (.t 123)⟩,
          ⟨(some 125), none, .load 1 false (.t 124)⟩,
          ⟨(some 126), none, .mov (.t 6)⟩,
          ⟨(some 127), none, .mov (.t 13)⟩,
          ⟨(some 128), none, .iadr 3 (.t 126) (.t 127)⟩,
          ⟨(some 129), none, .fadr 1 (.t 128)⟩,
          ⟨(some 130), none, .load 1 false (.t 129)⟩,
          ⟨(some 131), none, .bin .lss (.t 125) (.t 130)⟩])
        (.cond (.t 131) (.reg [⟨(some 12), none, .mov (.k (.d (.bool true)))⟩])
        .skip))))
      (.reg [⟨(some 66), none, .mov (.t 13)⟩,
        ⟨(some 67), none, .bin .add (.t 66) (.k (.d (.int .i64 1)))⟩,
        ⟨(some 13), none, .mov (.t 67)⟩]))))))
  (.seq (.reg [⟨(some 132), none, .mov (.t 5)⟩,
    ⟨(some 133), none, .mov (.t 132)⟩,
    ⟨(some 134), (some (133, true)), .mov (.t 8)⟩,
    ⟨(some 135), (some (133, true)), .mov (.t 10)⟩,
    ⟨(some 136), (some (133, true)), .bin .eql (.t 134) (.t 135)⟩,
    ⟨(some 137), none, .pick (.t 133) (.t 136) (.k (.d (.bool false)))⟩,
    ⟨(some 138), none, .mov (.t 137)⟩,
    ⟨(some 139), (some (138, true)), .mov (.t 11)⟩,
    ⟨(some 140), (some (138, true)), .mov (.t 9)⟩,
    ⟨(some 141), (some (138, true)), .bin .sub (.t 139) (.t 140)⟩,
    ⟨(some 142), (some (138, true)), .mov (.t 1)⟩,
    ⟨(some 143), (some (138, true)), .mov (.t 7)⟩,
    ⟨(some 144), (some (138, true)), .bin .sub (.t 142) (.t 143)⟩,
    ⟨(some 145), (some (138, true)), .bin .eql (.t 141) (.t 144)⟩,
    ⟨(some 146), none, .pick (.t 138) (.t 145) (.k (.d (.bool false)))⟩,
    ⟨(some 147), none, .mov (.t 146)⟩,
    ⟨(some 148), (some (147, true)), .mov (.t 7)⟩,
    ⟨(some 149), (some (147, true)), .bin .eql (.t 148) (.k (.d (.int .i64 0)))⟩,
    ⟨(some 150), (some (147, true)), .mov (.t 149)⟩,
    ⟨(some 151), (some (150, false)), .mov (.t 11)⟩,
    ⟨(some 152), (some (150, false)), .mov (.t 10)⟩,
    ⟨(some 153), (some (150, false)), .bin .eql (.t 151) (.t 152)⟩,
    ⟨(some 154), (some (147, true)), .pick (.t 150) (.k (.d (.bool true))) (.t 153)⟩,
    ⟨(some 155), none, .pick (.t 147) (.t 154) (.k (.d (.bool false)))⟩,
    ⟨(some 4), none, .mov (.t 155)⟩])
  .ret))))))))))
def rs6 : List RV := [.tmp 4]
theorem ok6 : okF Try.prog 6 = true := by kernel_rfl
theorem cc6 : cCode Try.prog Try.f6.ntmps (Try.f6.body.getD .skip) = some c6 := by kernel_rfl
theorem cr6 : cRess Try.prog Try.f6.results.toList = some rs6 := by kernel_rfl
theorem pure6 {args : List V} {res : V} (hlen : args.length ≤ 156) (hna : namesL args = []) (hnr : res.names = []) (h : ∀ c : Ctx, c.P = Try.prog → c.fn = [] → vcC c c6 ⟨initE 0 args, [], []⟩ (RetK c rs6 res [])) : Ctr Try.prog 6 args [] res [] [] :=
  ctr_pure Try.func6 ok6 rfl cc6 cr6 Try.ntmps6 hlen hna hnr h
theorem own6 {args : List V} {ins outs : List (Nat × Own)} {res : V} {new : List Nat} (hlen : args.length ≤ 156) (hf : ctrB args ins res outs new = true) (h : ∀ c : Ctx, c.P = Try.prog → c.fn = namesL args ++ ownNames ins → vcC c c6 ⟨initE 0 args, ins, namesL args ++ ownNames ins⟩ (RetK c rs6 res outs)) : Ctr Try.prog 6 args ins res outs new :=
  ctr_own Try.func6 ok6 rfl cc6 cr6 Try.ntmps6 hlen hf h

/-- bordereau/bordereaulaw16.BillTwice -/
def c7 : C :=
  (.seq (.reg [⟨(some 6), none, .mov (.k (.d (.bool false)))⟩])
  (.seq (.reg [⟨(some 14), none, .call 11 []⟩,
    ⟨(some 7), none, .mov (.t 14)⟩])
  (.seq (.seq (.reg [⟨(some 15), none, .mov (.t 0)⟩,
    ⟨(some 16), none, .len (.t 15)⟩,
    ⟨(some 17), none, .bin .gtr (.t 16) (.k (.d (.int .i64 200)))⟩,
    ⟨(some 18), none, .mov (.t 17)⟩,
    ⟨(some 19), (some (18, false)), .mov (.t 0)⟩,
    ⟨(some 20), (some (18, false)), .call 17 [(.t 19)]⟩,
    ⟨(some 21), (some (18, false)), .inv .not (.t 20)⟩,
    ⟨(some 22), none, .pick (.t 18) (.k (.d (.bool true))) (.t 21)⟩,
    ⟨(some 23), none, .mov (.t 22)⟩,
    ⟨(some 24), (some (23, false)), .mov (.t 1)⟩,
    ⟨(some 25), (some (23, false)), .bin .lss (.t 24) (.k (.d (.int .i64 0)))⟩,
    ⟨(some 26), none, .pick (.t 23) (.k (.d (.bool true))) (.t 25)⟩,
    ⟨(some 27), none, .mov (.t 26)⟩,
    ⟨(some 28), (some (27, false)), .mov (.t 2)⟩,
    ⟨(some 29), (some (27, false)), .bin .lss (.t 28) (.k (.d (.int .i64 0)))⟩,
    ⟨(some 30), none, .pick (.t 27) (.k (.d (.bool true))) (.t 29)⟩,
    ⟨(some 31), none, .mov (.t 30)⟩,
    ⟨(some 32), (some (31, false)), .mov (.t 1)⟩,
    ⟨(some 33), (some (31, false)), .bin .gtr (.t 32) (.k (.d (.int .i64 4000000000000000000)))⟩,
    ⟨(some 34), none, .pick (.t 31) (.k (.d (.bool true))) (.t 33)⟩,
    ⟨(some 35), none, .mov (.t 34)⟩,
    ⟨(some 36), (some (35, false)), .mov (.t 2)⟩,
    ⟨(some 37), (some (35, false)), .bin .gtr (.t 36) (.k (.d (.int .i64 4000000000000000000)))⟩,
    ⟨(some 38), none, .pick (.t 35) (.k (.d (.bool true))) (.t 37)⟩])
  (.cond (.t 38) (.seq (.reg [⟨(some 39), none, .mov (.t 7)⟩,
      ⟨(some 6), none, .mov (.t 39)⟩])
    .ret)
  .skip))
  (.seq (.reg [⟨(some 41), none, .mov (.t 0)⟩,
    ⟨(some 42), none, .mov (.t 1)⟩,
    ⟨(some 43), none, .call 15 [(.t 41), (.t 42)]⟩,
    ⟨(some 40), none, .mov (.t 43)⟩,
    ⟨(some 44), none, .ext 0 (.t 40)⟩,
    ⟨(some 45), none, .ext 1 (.t 40)⟩,
    ⟨(some 8), none, .mov (.t 44)⟩,
    ⟨(some 9), none, .mov (.t 45)⟩])
  (.seq (.reg [⟨(some 47), none, .mov (.t 8)⟩,
    ⟨(some 48), none, .mov (.t 2)⟩,
    ⟨(some 49), none, .call 15 [(.t 47), (.t 48)]⟩,
    ⟨(some 46), none, .mov (.t 49)⟩,
    ⟨(some 50), none, .ext 0 (.t 46)⟩,
    ⟨(some 51), none, .ext 1 (.t 46)⟩,
    ⟨(some 10), none, .mov (.t 50)⟩,
    ⟨(some 11), none, .mov (.t 51)⟩])
  (.seq (.reg [⟨(some 53), none, .mov (.t 0)⟩,
    ⟨(some 54), none, .mov (.t 1)⟩,
    ⟨(some 55), none, .mov (.t 2)⟩,
    ⟨(some 56), none, .bin .add (.t 54) (.t 55)⟩,
    ⟨(some 57), none, .call 15 [(.t 53), (.t 56)]⟩,
    ⟨(some 52), none, .mov (.t 57)⟩,
    ⟨(some 58), none, .ext 0 (.t 52)⟩,
    ⟨(some 59), none, .ext 1 (.t 52)⟩,
    ⟨(some 12), none, .mov (.t 58)⟩,
    ⟨(some 13), none, .mov (.t 59)⟩])
  (.seq (.reg [⟨(some 60), none, .mov (.t 7)⟩,
    ⟨(some 61), none, .mov (.t 60)⟩,
    ⟨(some 62), (some (61, true)), .mov (.t 10)⟩,
    ⟨(some 63), (some (61, true)), .mov (.t 12)⟩,
    ⟨(some 64), (some (61, true)), .call 14 [(.t 62), (.t 63)]⟩,
    ⟨(some 65), none, .pick (.t 61) (.t 64) (.k (.d (.bool false)))⟩,
    ⟨(some 66), none, .mov (.t 65)⟩,
    ⟨(some 67), (some (66, true)), .mov (.t 9)⟩,
    ⟨(some 68), (some (66, true)), .mov (.t 11)⟩,
    ⟨(some 69), (some (66, true)), .bin .add (.t 67) (.t 68)⟩,
    ⟨(some 70), (some (66, true)), .mov (.t 13)⟩,
    ⟨(some 71), (some (66, true)), .bin .eql (.t 69) (.t 70)⟩,
    ⟨(some 72), none, .pick (.t 66) (.t 71) (.k (.d (.bool false)))⟩,
    ⟨(some 6), none, .mov (.t 72)⟩])
  .ret)))))))
def rs7 : List RV := [.tmp 6]
theorem ok7 : okF Try.prog 7 = true := by kernel_rfl
theorem cc7 : cCode Try.prog Try.f7.ntmps (Try.f7.body.getD .skip) = some c7 := by kernel_rfl
theorem cr7 : cRess Try.prog Try.f7.results.toList = some rs7 := by kernel_rfl
theorem pure7 {args : List V} {res : V} (hlen : args.length ≤ 73) (hna : namesL args = []) (hnr : res.names = []) (h : ∀ c : Ctx, c.P = Try.prog → c.fn = [] → vcC c c7 ⟨initE 0 args, [], []⟩ (RetK c rs7 res [])) : Ctr Try.prog 7 args [] res [] [] :=
  ctr_pure Try.func7 ok7 rfl cc7 cr7 Try.ntmps7 hlen hna hnr h
theorem own7 {args : List V} {ins outs : List (Nat × Own)} {res : V} {new : List Nat} (hlen : args.length ≤ 73) (hf : ctrB args ins res outs new = true) (h : ∀ c : Ctx, c.P = Try.prog → c.fn = namesL args ++ ownNames ins → vcC c c7 ⟨initE 0 args, ins, namesL args ++ ownNames ins⟩ (RetK c rs7 res outs)) : Ctr Try.prog 7 args ins res outs new :=
  ctr_own Try.func7 ok7 rfl cc7 cr7 Try.ntmps7 hlen hf h

/-- bordereau/bordereaulaw16.BillOpens -/
def c8 : C :=
  (.seq (.reg [⟨(some 8), none, .mov (.k (.d (.bool false)))⟩])
  (.seq (.reg [⟨(some 18), none, .call 11 []⟩,
    ⟨(some 9), none, .mov (.t 18)⟩])
  (.seq (.seq (.reg [⟨(some 19), none, .mov (.t 0)⟩,
    ⟨(some 20), none, .len (.t 19)⟩,
    ⟨(some 21), none, .bin .gtr (.t 20) (.k (.d (.int .i64 200)))⟩,
    ⟨(some 22), none, .mov (.t 21)⟩,
    ⟨(some 23), (some (22, false)), .mov (.t 0)⟩,
    ⟨(some 24), (some (22, false)), .call 17 [(.t 23)]⟩,
    ⟨(some 25), (some (22, false)), .inv .not (.t 24)⟩,
    ⟨(some 26), none, .pick (.t 22) (.k (.d (.bool true))) (.t 25)⟩,
    ⟨(some 27), none, .mov (.t 26)⟩,
    ⟨(some 28), (some (27, false)), .mov (.t 1)⟩,
    ⟨(some 29), (some (27, false)), .mov (.t 2)⟩,
    ⟨(some 30), (some (27, false)), .bin .gtr (.t 28) (.t 29)⟩,
    ⟨(some 31), none, .pick (.t 27) (.k (.d (.bool true))) (.t 30)⟩,
    ⟨(some 32), none, .mov (.t 31)⟩,
    ⟨(some 33), (some (32, false)), .mov (.t 3)⟩,
    ⟨(some 34), (some (32, false)), .bin .lss (.t 33) (.k (.d (.int .i64 0)))⟩,
    ⟨(some 35), none, .pick (.t 32) (.k (.d (.bool true))) (.t 34)⟩,
    ⟨(some 36), none, .mov (.t 35)⟩,
    ⟨(some 37), (some (36, false)), .mov (.t 3)⟩,
    ⟨(some 38), (some (36, false)), .bin .gtr (.t 37) (.k (.d (.int .i64 4000000000000000000)))⟩,
    ⟨(some 39), none, .pick (.t 36) (.k (.d (.bool true))) (.t 38)⟩])
  (.cond (.t 39) (.seq (.reg [⟨(some 40), none, .mov (.t 9)⟩,
      ⟨(some 8), none, .mov (.t 40)⟩])
    .ret)
  .skip))
  (.seq (.reg [⟨(some 41), none, .mov (.t 0)⟩,
    ⟨(some 42), none, .mov (.t 1)⟩,
    ⟨(some 43), none, .call 19 [(.t 41), (.t 42)]⟩,
    ⟨(some 10), none, .mov (.t 43)⟩])
  (.seq (.reg [⟨(some 44), none, .mov (.t 0)⟩,
    ⟨(some 45), none, .mov (.t 2)⟩,
    ⟨(some 46), none, .call 19 [(.t 44), (.t 45)]⟩,
    ⟨(some 11), none, .mov (.t 46)⟩])
  (.seq (.reg [⟨(some 48), none, .mov (.t 0)⟩,
    ⟨(some 49), none, .mov (.t 3)⟩,
    ⟨(some 50), none, .call 15 [(.t 48), (.t 49)]⟩,
    ⟨(some 47), none, .mov (.t 50)⟩,
    ⟨(some 51), none, .ext 0 (.t 47)⟩,
    ⟨(some 52), none, .ext 1 (.t 47)⟩,
    ⟨(some 12), none, .mov (.t 51)⟩,
    ⟨(some 13), none, .mov (.t 52)⟩])
  (.seq (.reg [⟨(some 53), none, .mov (.t 12)⟩,
    ⟨(some 54), none, .mov (.t 1)⟩,
    ⟨(some 55), none, .call 19 [(.t 53), (.t 54)]⟩,
    ⟨(some 14), none, .mov (.t 55)⟩])
  (.seq (.reg [⟨(some 57), none, .mov (.t 0)⟩,
    ⟨(some 58), none, .mov (.t 10)⟩,
    ⟨(some 59), none, .call 15 [(.t 57), (.t 58)]⟩,
    ⟨(some 56), none, .mov (.t 59)⟩,
    ⟨(some 60), none, .ext 0 (.t 56)⟩,
    ⟨(some 61), none, .ext 1 (.t 56)⟩,
    ⟨(some 15), none, .mov (.t 60)⟩,
    ⟨(some 16), none, .mov (.t 61)⟩])
  (.seq (.seq (.reg [⟨(some 62), none, .mov (.t 10)⟩,
    ⟨(some 63), none, .bin .lss (.t 62) (.k (.d (.int .i64 0)))⟩,
    ⟨(some 64), none, .mov (.t 63)⟩,
    ⟨(some 65), (some (64, false)), .mov (.t 10)⟩,
    ⟨(some 66), (some (64, false)), .mov (.t 11)⟩,
    ⟨(some 67), (some (64, false)), .bin .gtr (.t 65) (.t 66)⟩,
    ⟨(some 68), none, .pick (.t 64) (.k (.d (.bool true))) (.t 67)⟩,
    ⟨(some 69), none, .mov (.t 68)⟩,
    ⟨(some 70), (some (69, false)), .mov (.t 14)⟩,
    ⟨(some 71), (some (69, false)), .mov (.t 10)⟩,
    ⟨(some 72), (some (69, false)), .bin .gtr (.t 70) (.t 71)⟩,
    ⟨(some 73), none, .pick (.t 69) (.k (.d (.bool true))) (.t 72)⟩,
    ⟨(some 74), none, .mov (.t 73)⟩,
    ⟨(some 75), (some (74, false)), .mov (.t 10)⟩,
    ⟨(some 76), (some (74, false)), .mov (.t 14)⟩,
    ⟨(some 77), (some (74, false)), .bin .sub (.t 75) (.t 76)⟩,
    ⟨(some 78), (some (74, false)), .mov (.t 3)⟩,
    ⟨(some 79), (some (74, false)), .bin .gtr (.t 77) (.t 78)⟩,
    ⟨(some 80), none, .pick (.t 74) (.k (.d (.bool true))) (.t 79)⟩,
    ⟨(some 81), none, .mov (.t 80)⟩,
    ⟨(some 82), (some (81, false)), .mov (.t 14)⟩,
    ⟨(some 83), (some (81, false)), .bin .lss (.t 82) (.k (.d (.int .i64 0)))⟩,
    ⟨(some 84), none, .pick (.t 81) (.k (.d (.bool true))) (.t 83)⟩])
  (.cond (.t 84) (.seq (.reg [⟨(some 8), none, .mov (.k (.d (.bool false)))⟩])
    .ret)
  .skip))
  (.seq (.seq (.reg [⟨(some 85), none, .mov (.t 15)⟩,
    ⟨(some 86), none, .len (.t 85)⟩,
    ⟨(some 87), none, .mov (.t 0)⟩,
    ⟨(some 88), none, .len (.t 87)⟩,
    ⟨(some 89), none, .bin .neq (.t 86) (.t 88)⟩])
  (.cond (.t 89) (.seq (.reg [⟨(some 8), none, .mov (.k (.d (.bool false)))⟩])
    .ret)
  .skip))
  (.seq (.seq (.reg [⟨(some 17), none, .mov (.k (.d (.int .i64 0)))⟩])
  (.block 0 (.loop (.seq (.seq (.reg [⟨(some 90), none, .mov (.t 17)⟩,
        ⟨(some 91), none, .mov (.t 0)⟩,
        ⟨(some 92), none, .len (.t 91)⟩,
        ⟨(some 93), none, .bin .lss (.t 90) (.t 92)⟩])
      (.cond (.t 93) .skip
      (.exit 0)))
      (.seq (.block 2 (.seq (.drw [0, 0, 3, 7, 15, 0, 63, 127, 255, 255, 1023, 2047, 255, 255, 12543, 28927, 65535, 131071]
         [⟨(some 96), none, .mov (.t 0)⟩,
          ⟨(some 97), none, .mov (.t 17)⟩,
          ⟨(some 98), none, .iadr 3 (.t 96) (.t 97)⟩,
          ⟨(some 99), none, .fadr 0 (.t 98)⟩,
          ⟨(some 100), none, .load 1 false (.t 99)⟩,
          ⟨(some 101), none, .mov (.t 1)⟩,
          ⟨(some 102), none, .bin .gtr (.t 100) (.t 101)⟩,
          ⟨(some 103), none, .mov (.t 102)⟩,
          ⟨(some 104), (some (103, true)), .mov (.t 15)⟩,
          ⟨(some 105), (some (103, true)), .mov (.t 17)⟩,
          ⟨(some 106), (some (103, true)), .iadr 3 (.t 104) (.t 105)⟩,
          ⟨(some 107), (some (103, true)), .load 3 true (.t 106)⟩,
          ⟨(some 108), (some (103, true)), .mov (.t 0)⟩,
          ⟨(some 109), (some (103, true)), .mov (.t 17)⟩,
          ⟨(some 110), (some (103, true)), .iadr 3 (.t 108) (.t 109)⟩,
          ⟨(some 111), (some (103, true)), .load 3 true (.t 110)⟩,
          ⟨(some 112), (some (103, true)), .eqa true 3 [(0, some .i64), (1, some .i64), (2, some .i64)] (.t 107) (.t 111)⟩,
          ⟨(some 113), none, .pick (.t 103) (.t 112) (.k (.d (.bool false)))⟩])
        (.cond (.t 113) (.seq (.reg [⟨(some 8), none, .mov (.k (.d (.bool false)))⟩])
          .ret)
        .skip)))
      (.reg [⟨(some 94), none, .mov (.t 17)⟩,
        ⟨(some 95), none, .bin .add (.t 94) (.k (.d (.int .i64 1)))⟩,
        ⟨(some 17), none, .mov (.t 95)⟩]))))))
  (.seq (.reg [⟨(some 114), none, .mov (.t 9)⟩,
    ⟨(some 115), none, .mov (.t 114)⟩,
    ⟨(some 116), (some (115, true)), .mov (.t 16)⟩,
    ⟨(some 117), (some (115, true)), .bin .eql (.t 116) (.k (.d (.int .i64 0)))⟩,
    ⟨(some 118), none, .pick (.t 115) (.t 117) (.k (.d (.bool false)))⟩,
    ⟨(some 119), none, .mov (.t 118)⟩,
    ⟨(some 120), (some (119, true)), .mov (.t 15)⟩,
    ⟨(some 121), (some (119, true)), .mov (.t 1)⟩,
    ⟨(some 122), (some (119, true)), .call 19 [(.t 120), (.t 121)]⟩,
    ⟨(some 123), (some (119, true)), .bin .eql (.t 122) (.k (.d (.int .i64 0)))⟩,
    ⟨(some 124), none, .pick (.t 119) (.t 123) (.k (.d (.bool false)))⟩,
    ⟨(some 8), none, .mov (.t 124)⟩])
  .ret))))))))))))
def rs8 : List RV := [.tmp 8]
theorem ok8 : okF Try.prog 8 = true := by kernel_rfl
theorem cc8 : cCode Try.prog Try.f8.ntmps (Try.f8.body.getD .skip) = some c8 := by kernel_rfl
theorem cr8 : cRess Try.prog Try.f8.results.toList = some rs8 := by kernel_rfl
theorem pure8 {args : List V} {res : V} (hlen : args.length ≤ 125) (hna : namesL args = []) (hnr : res.names = []) (h : ∀ c : Ctx, c.P = Try.prog → c.fn = [] → vcC c c8 ⟨initE 0 args, [], []⟩ (RetK c rs8 res [])) : Ctr Try.prog 8 args [] res [] [] :=
  ctr_pure Try.func8 ok8 rfl cc8 cr8 Try.ntmps8 hlen hna hnr h
theorem own8 {args : List V} {ins outs : List (Nat × Own)} {res : V} {new : List Nat} (hlen : args.length ≤ 125) (hf : ctrB args ins res outs new = true) (h : ∀ c : Ctx, c.P = Try.prog → c.fn = namesL args ++ ownNames ins → vcC c c8 ⟨initE 0 args, ins, namesL args ++ ownNames ins⟩ (RetK c rs8 res outs)) : Ctr Try.prog 8 args ins res outs new :=
  ctr_own Try.func8 ok8 rfl cc8 cr8 Try.ntmps8 hlen hf h

/-- bordereau/bordereaulaw16.BillTurns -/
def c9 : C :=
  (.seq (.reg [⟨(some 6), none, .mov (.k (.d (.bool false)))⟩])
  (.seq (.reg [⟨(some 12), none, .call 11 []⟩,
    ⟨(some 7), none, .mov (.t 12)⟩])
  (.seq (.seq (.reg [⟨(some 13), none, .mov (.t 0)⟩,
    ⟨(some 14), none, .len (.t 13)⟩,
    ⟨(some 15), none, .bin .gtr (.t 14) (.k (.d (.int .i64 200)))⟩])
  (.cond (.t 15) (.seq (.reg [⟨(some 16), none, .mov (.t 7)⟩,
      ⟨(some 6), none, .mov (.t 16)⟩])
    .ret)
  .skip))
  (.seq (.reg [⟨(some 18), none, .mov (.t 0)⟩,
    ⟨(some 19), none, .mov (.t 1)⟩,
    ⟨(some 20), none, .mov (.t 2)⟩,
    ⟨(some 21), none, .call 23 [(.t 18), (.t 19), (.t 20)]⟩,
    ⟨(some 17), none, .mov (.t 21)⟩,
    ⟨(some 22), none, .ext 0 (.t 17)⟩,
    ⟨(some 23), none, .ext 1 (.t 17)⟩,
    ⟨(some 8), none, .mov (.t 22)⟩,
    ⟨(some 9), none, .mov (.t 23)⟩])
  (.seq (.reg [⟨(some 25), none, .mov (.t 0)⟩,
    ⟨(some 26), none, .mov (.t 1)⟩,
    ⟨(some 27), none, .mov (.t 2)⟩,
    ⟨(some 28), none, .call 24 [(.t 25), (.t 26), (.t 27)]⟩,
    ⟨(some 24), none, .mov (.t 28)⟩,
    ⟨(some 29), none, .ext 0 (.t 24)⟩,
    ⟨(some 30), none, .ext 1 (.t 24)⟩,
    ⟨(some 10), none, .mov (.t 29)⟩,
    ⟨(some 11), none, .mov (.t 30)⟩])
  (.seq (.reg [⟨(some 31), none, .mov (.t 7)⟩,
    ⟨(some 32), none, .mov (.t 31)⟩,
    ⟨(some 33), (some (32, true)), .mov (.t 9)⟩,
    ⟨(some 34), (some (32, true)), .mov (.t 11)⟩,
    ⟨(some 35), (some (32, true)), .bin .eql (.t 33) (.t 34)⟩,
    ⟨(some 36), none, .pick (.t 32) (.t 35) (.k (.d (.bool false)))⟩,
    ⟨(some 37), none, .mov (.t 36)⟩,
    ⟨(some 38), (some (37, true)), .mov (.t 8)⟩,
    ⟨(some 39), (some (37, true)), .mov (.t 10)⟩,
    ⟨(some 40), (some (37, true)), .call 14 [(.t 38), (.t 39)]⟩,
    ⟨(some 41), none, .pick (.t 37) (.t 40) (.k (.d (.bool false)))⟩,
    ⟨(some 6), none, .mov (.t 41)⟩])
  .ret))))))
def rs9 : List RV := [.tmp 6]
theorem ok9 : okF Try.prog 9 = true := by kernel_rfl
theorem cc9 : cCode Try.prog Try.f9.ntmps (Try.f9.body.getD .skip) = some c9 := by kernel_rfl
theorem cr9 : cRess Try.prog Try.f9.results.toList = some rs9 := by kernel_rfl
theorem pure9 {args : List V} {res : V} (hlen : args.length ≤ 42) (hna : namesL args = []) (hnr : res.names = []) (h : ∀ c : Ctx, c.P = Try.prog → c.fn = [] → vcC c c9 ⟨initE 0 args, [], []⟩ (RetK c rs9 res [])) : Ctr Try.prog 9 args [] res [] [] :=
  ctr_pure Try.func9 ok9 rfl cc9 cr9 Try.ntmps9 hlen hna hnr h
theorem own9 {args : List V} {ins outs : List (Nat × Own)} {res : V} {new : List Nat} (hlen : args.length ≤ 42) (hf : ctrB args ins res outs new = true) (h : ∀ c : Ctx, c.P = Try.prog → c.fn = namesL args ++ ownNames ins → vcC c c9 ⟨initE 0 args, ins, namesL args ++ ownNames ins⟩ (RetK c rs9 res outs)) : Ctr Try.prog 9 args ins res outs new :=
  ctr_own Try.func9 ok9 rfl cc9 cr9 Try.ntmps9 hlen hf h

/-- bordereau/bordereaulaw16.BillSum -/
def c10 : C :=
  (.seq (.reg [⟨(some 10), none, .box 23 (.t 4)⟩,
    ⟨(some 12), none, .mov (.k (.d (.bool false)))⟩])
  (.seq (.reg [⟨(some 29), none, .call 11 []⟩,
    ⟨(some 13), none, .mov (.t 29)⟩])
  (.seq (.seq (.reg [⟨(some 30), none, .mov (.t 0)⟩,
    ⟨(some 31), none, .len (.t 30)⟩,
    ⟨(some 32), none, .bin .gtr (.t 31) (.k (.d (.int .i64 200)))⟩,
    ⟨(some 33), none, .mov (.t 32)⟩,
    ⟨(some 34), (some (33, false)), .mov (.t 0)⟩,
    ⟨(some 35), (some (33, false)), .call 17 [(.t 34)]⟩,
    ⟨(some 36), (some (33, false)), .inv .not (.t 35)⟩,
    ⟨(some 37), none, .pick (.t 33) (.k (.d (.bool true))) (.t 36)⟩])
  (.cond (.t 37) (.seq (.reg [⟨(some 38), none, .mov (.t 13)⟩,
      ⟨(some 12), none, .mov (.t 38)⟩])
    .ret)
  .skip))
  (.seq (.reg [⟨(some 40), none, .mov (.t 0)⟩,
    ⟨(some 41), none, .mov (.t 1)⟩,
    ⟨(some 42), none, .mov (.t 2)⟩,
    ⟨(some 43), none, .call 23 [(.t 40), (.t 41), (.t 42)]⟩,
    ⟨(some 39), none, .mov (.t 43)⟩,
    ⟨(some 44), none, .ext 0 (.t 39)⟩,
    ⟨(some 45), none, .ext 1 (.t 39)⟩,
    ⟨(some 14), none, .mov (.t 44)⟩,
    ⟨(some 15), none, .mov (.t 45)⟩])
  (.seq (.seq (.reg [⟨(some 46), none, .mov (.t 15)⟩,
    ⟨(some 47), none, .bin .eql (.t 46) (.k (.d (.int .i64 0)))⟩])
  (.cond (.t 47) (.seq (.reg [⟨(some 49), none, .mov (.t 14)⟩,
      ⟨(some 50), none, .call 21 [(.t 49)]⟩,
      ⟨(some 48), none, .mov (.t 50)⟩,
      ⟨(some 51), none, .ext 0 (.t 48)⟩,
      ⟨(some 52), none, .ext 1 (.t 48)⟩,
      ⟨(some 16), none, .mov (.t 51)⟩,
      ⟨(some 17), none, .mov (.t 52)⟩])
    (.seq (.reg [⟨(some 54), none, .mov (.t 0)⟩,
      ⟨(some 55), none, .call 21 [(.t 54)]⟩,
      ⟨(some 53), none, .mov (.t 55)⟩,
      ⟨(some 56), none, .ext 0 (.t 53)⟩,
      ⟨(some 57), none, .ext 1 (.t 53)⟩,
      ⟨(some 18), none, .mov (.t 56)⟩,
      ⟨(some 19), none, .mov (.t 57)⟩])
    (.seq (.seq (.reg [⟨(some 58), none, .mov (.t 16)⟩,
      ⟨(some 59), none, .mov (.t 1)⟩,
      ⟨(some 60), none, .bin .neq (.t 58) (.t 59)⟩,
      ⟨(some 61), none, .mov (.t 60)⟩,
      ⟨(some 62), (some (61, false)), .mov (.t 17)⟩,
      ⟨(some 63), (some (61, false)), .mov (.t 19)⟩,
      ⟨(some 64), (some (61, false)), .bin .neq (.t 62) (.t 63)⟩,
      ⟨(some 65), none, .pick (.t 61) (.k (.d (.bool true))) (.t 64)⟩,
      ⟨(some 66), none, .mov (.t 65)⟩,
      ⟨(some 67), (some (66, false)), .mov (.t 14)⟩,
      ⟨(some 68), (some (66, false)), .len (.t 67)⟩,
      ⟨(some 69), (some (66, false)), .mov (.t 0)⟩,
      ⟨(some 70), (some (66, false)), .len (.t 69)⟩,
      ⟨(some 71), (some (66, false)), .bin .neq (.t 68) (.t 70)⟩,
      ⟨(some 72), none, .pick (.t 66) (.k (.d (.bool true))) (.t 71)⟩,
      ⟨(some 73), none, .mov (.t 72)⟩,
      ⟨(some 74), (some (73, false)), .mov (.t 14)⟩,
      ⟨(some 75), (some (73, false)), .call 17 [(.t 74)]⟩,
      ⟨(some 76), (some (73, false)), .inv .not (.t 75)⟩,
      ⟨(some 77), none, .pick (.t 73) (.k (.d (.bool true))) (.t 76)⟩])
    (.cond (.t 77) (.seq (.reg [⟨(some 12), none, .mov (.k (.d (.bool false)))⟩])
      .ret)
    .skip))
    (.seq (.reg [⟨(some 20), none, .mov (.k (.d (.int .i64 0)))⟩])
    (.block 0 (.loop (.seq (.seq (.reg [⟨(some 78), none, .mov (.t 20)⟩,
          ⟨(some 79), none, .mov (.t 14)⟩,
          ⟨(some 80), none, .len (.t 79)⟩,
          ⟨(some 81), none, .bin .lss (.t 78) (.t 80)⟩])
        (.cond (.t 81) .skip
        (.exit 0)))
        (.seq (.block 2 (.seq (.drw [0, 0, 3, 7, 15, 0, 0, 96, 224, 480, 1023, 2047, 4095, 4095, 16383, 32767, 65535, 4095, 4095, 397311, 921599, 1970175, 4194303, 8388607, 16777215, 33554431, 33554431, 134217727, 268435455, 536870911, 33554431, 2147483647, 4294967295, 8589934591, 8589934591, 34359738367, 68719476735, 8589934591, 8589934591, 420906795007, 970662608895, 2199023255551, 4398046511103, 8796093022207]
           [⟨(some 84), none, .mov (.t 14)⟩,
            ⟨(some 85), none, .mov (.t 20)⟩,
            ⟨(some 86), none, .iadr 3 (.t 84) (.t 85)⟩,
            ⟨(some 87), none, .fadr 0 (.t 86)⟩,
            ⟨(some 88), none, .load 1 false (.t 87)⟩,
            ⟨(some 89), none, .mov (.t 0)⟩,
            ⟨(some 90), none, .mov (.t 20)⟩,
            ⟨(some 91), none, .iadr 3 (.t 89) (.t 90)⟩,
            ⟨(some 92), none, .fadr 0 (.t 91)⟩,
            ⟨(some 93), none, .load 1 false (.t 92)⟩,
            ⟨(some 94), none, .bin .neq (.t 88) (.t 93)⟩,
            ⟨(some 95), none, .mov (.t 94)⟩,
            ⟨(some 96), (some (95, false)), .mov (.t 14)⟩,
            ⟨(some 97), (some (95, false)), .mov (.t 20)⟩,
            ⟨(some 98), (some (95, false)), .iadr 3 (.t 96) (.t 97)⟩,
            ⟨(some 99), (some (95, false)), .fadr 2 (.t 98)⟩,
            ⟨(some 100), (some (95, false)), .load 1 false (.t 99)⟩,
            ⟨(some 101), (some (95, false)), .mov (.t 0)⟩,
            ⟨(some 102), (some (95, false)), .mov (.t 20)⟩,
            ⟨(some 103), (some (95, false)), .iadr 3 (.t 101) (.t 102)⟩,
            ⟨(some 104), (some (95, false)), .fadr 2 (.t 103)⟩,
            ⟨(some 105), (some (95, false)), .load 1 false (.t 104)⟩,
            ⟨(some 106), (some (95, false)), .bin .neq (.t 100) (.t 105)⟩,
            ⟨(some 107), none, .pick (.t 95) (.k (.d (.bool true))) (.t 106)⟩,
            ⟨(some 108), none, .mov (.t 107)⟩,
            ⟨(some 109), (some (108, false)), .mov (.t 0)⟩,
            ⟨(some 110), (some (108, false)), .mov (.t 20)⟩,
            ⟨(some 111), (some (108, false)), .iadr 3 (.t 109) (.t 110)⟩,
            ⟨(some 112), (some (108, false)), .fadr 0 (.t 111)⟩,
            ⟨(some 113), (some (108, false)), .load 1 false (.t 112)⟩,
            ⟨(some 114), (some (108, false)), .mov (.t 2)⟩,
            ⟨(some 115), (some (108, false)), .bin .leq (.t 113) (.t 114)⟩,
            ⟨(some 116), (some (108, false)), .mov (.t 115)⟩,
            ⟨(some 117), (some (116, true)), .mov (.t 14)⟩,
            ⟨(some 118), (some (116, true)), .mov (.t 20)⟩,
            ⟨(some 119), (some (116, true)), .iadr 3 (.t 117) (.t 118)⟩,
            ⟨(some 120), (some (116, true)), .load 3 true (.t 119)⟩,
            ⟨(some 121), (some (116, true)), .mov (.t 0)⟩,
            ⟨(some 122), (some (116, true)), .mov (.t 20)⟩,
            ⟨(some 123), (some (116, true)), .iadr 3 (.t 121) (.t 122)⟩,
            ⟨(some 124), (some (116, true)), .load 3 true (.t 123)⟩,
            ⟨(some 125), (some (116, true)), .eqa true 3 [(0, some .i64), (1, some .i64), (2, some .i64)] (.t 120) (.t 124)⟩,
            ⟨(some 126), (some (108, false)), .pick (.t 116) (.t 125) (.k (.d (.bool false)))⟩,
            ⟨(some 127), none, .pick (.t 108) (.k (.d (.bool true))) (.t 126)⟩])
          (.cond (.t 127) (.seq (.reg [⟨(some 12), none, .mov (.k (.d (.bool false)))⟩])
            .ret)
          .skip)))
        (.reg [⟨(some 82), none, .mov (.t 20)⟩,
          ⟨(some 83), none, .bin .add (.t 82) (.k (.d (.int .i64 1)))⟩,
          ⟨(some 20), none, .mov (.t 83)⟩])))))))))
  .skip))
  (.seq (.reg [⟨(some 129), none, .mov (.t 3)⟩,
    ⟨(some 130), none, .load 2 true (.t 10)⟩,
    ⟨(some 131), none, .mov (.t 5)⟩,
    ⟨(some 132), none, .call 12 [(.t 129), (.t 130), (.t 131)]⟩,
    ⟨(some 128), none, .mov (.t 132)⟩,
    ⟨(some 133), none, .ext 0 (.t 128)⟩,
    ⟨(some 134), none, .ext 1 (.t 128)⟩,
    ⟨(some 21), none, .mov (.t 133)⟩,
    ⟨(some 22), none, .mov (.t 134)⟩])
  (.seq (.seq (.reg [⟨(some 135), none, .mov (.t 22)⟩,
    ⟨(some 136), none, .bin .neq (.t 135) (.k (.d (.int .i64 0)))⟩])
  (.cond (.t 136) (.seq (.reg [⟨(some 137), none, .mov (.t 13)⟩,
      ⟨(some 12), none, .mov (.t 137)⟩])
    .ret)
  .skip))
  (.seq (.reg [⟨(some 139), none, .mov (.t 21)⟩,
    ⟨(some 140), none, .mov (.t 1)⟩,
    ⟨(some 141), none, .fadr 0 (.t 10)⟩,
    ⟨(some 142), none, .load 1 false (.t 141)⟩,
    ⟨(some 143), none, .bin .sub (.t 142) (.k (.d (.int .i64 1)))⟩,
    ⟨(some 144), none, .call 23 [(.t 139), (.t 140), (.t 143)]⟩,
    ⟨(some 138), none, .mov (.t 144)⟩,
    ⟨(some 145), none, .ext 0 (.t 138)⟩,
    ⟨(some 146), none, .ext 1 (.t 138)⟩,
    ⟨(some 23), none, .mov (.t 145)⟩,
    ⟨(some 24), none, .mov (.t 146)⟩])
  (.seq (.seq (.reg [⟨(some 147), none, .mov (.t 24)⟩,
    ⟨(some 148), none, .bin .neq (.t 147) (.k (.d (.int .i64 0)))⟩])
  (.cond (.t 148) (.seq (.reg [⟨(some 149), none, .mov (.t 13)⟩,
      ⟨(some 150), none, .mov (.t 149)⟩,
      ⟨(some 151), (some (150, true)), .mov (.t 1)⟩,
      ⟨(some 152), (some (150, true)), .bin .lss (.t 151) (.k (.d (.int .i64 0)))⟩,
      ⟨(some 153), (some (150, true)), .mov (.t 152)⟩,
      ⟨(some 154), (some (153, false)), .mov (.t 1)⟩,
      ⟨(some 155), (some (153, false)), .bin .gtr (.t 154) (.k (.d (.int .i64 4000000000000000000)))⟩,
      ⟨(some 156), (some (150, true)), .pick (.t 153) (.k (.d (.bool true))) (.t 155)⟩,
      ⟨(some 157), none, .pick (.t 150) (.t 156) (.k (.d (.bool false)))⟩,
      ⟨(some 12), none, .mov (.t 157)⟩])
    .ret)
  .skip))
  (.seq (.reg [⟨(some 159), none, .mov (.t 23)⟩,
    ⟨(some 160), none, .mov (.t 3)⟩,
    ⟨(some 161), none, .fadr 0 (.t 10)⟩,
    ⟨(some 162), none, .load 1 false (.t 161)⟩,
    ⟨(some 163), none, .bin .sub (.t 162) (.k (.d (.int .i64 1)))⟩,
    ⟨(some 164), none, .call 23 [(.t 159), (.t 160), (.t 163)]⟩,
    ⟨(some 158), none, .mov (.t 164)⟩,
    ⟨(some 165), none, .ext 0 (.t 158)⟩,
    ⟨(some 166), none, .ext 1 (.t 158)⟩,
    ⟨(some 25), none, .mov (.t 165)⟩,
    ⟨(some 26), none, .mov (.t 166)⟩])
  (.seq (.reg [⟨(some 168), none, .mov (.t 1)⟩,
    ⟨(some 169), none, .load 2 true (.t 10)⟩,
    ⟨(some 170), none, .mov (.t 5)⟩,
    ⟨(some 171), none, .call 12 [(.t 168), (.t 169), (.t 170)]⟩,
    ⟨(some 167), none, .mov (.t 171)⟩,
    ⟨(some 172), none, .ext 0 (.t 167)⟩,
    ⟨(some 173), none, .ext 1 (.t 167)⟩,
    ⟨(some 27), none, .mov (.t 172)⟩,
    ⟨(some 28), none, .mov (.t 173)⟩])
  (.seq (.reg [⟨(some 174), none, .mov (.t 13)⟩,
    ⟨(some 175), none, .mov (.t 174)⟩,
    ⟨(some 176), (some (175, true)), .mov (.t 26)⟩,
    ⟨(some 177), (some (175, true)), .bin .eql (.t 176) (.k (.d (.int .i64 0)))⟩,
    ⟨(some 178), none, .pick (.t 175) (.t 177) (.k (.d (.bool false)))⟩,
    ⟨(some 179), none, .mov (.t 178)⟩,
    ⟨(some 180), (some (179, true)), .mov (.t 25)⟩,
    ⟨(some 181), (some (179, true)), .mov (.t 21)⟩,
    ⟨(some 182), (some (179, true)), .call 14 [(.t 180), (.t 181)]⟩,
    ⟨(some 183), none, .pick (.t 179) (.t 182) (.k (.d (.bool false)))⟩,
    ⟨(some 184), none, .mov (.t 183)⟩,
    ⟨(some 185), (some (184, true)), .mov (.t 28)⟩,
    ⟨(some 186), (some (184, true)), .bin .eql (.t 185) (.k (.d (.int .i64 0)))⟩,
    ⟨(some 187), none, .pick (.t 184) (.t 186) (.k (.d (.bool false)))⟩,
    ⟨(some 188), none, .mov (.t 187)⟩,
    ⟨(some 189), (some (188, true)), .mov (.t 23)⟩,
    ⟨(some 190), (some (188, true)), .mov (.t 27)⟩,
    ⟨(some 191), (some (188, true)), .call 14 [(.t 189), (.t 190)]⟩,
    ⟨(some 192), none, .pick (.t 188) (.t 191) (.k (.d (.bool false)))⟩,
    ⟨(some 12), none, .mov (.t 192)⟩])
  .ret))))))))))))
def rs10 : List RV := [.tmp 12]
theorem ok10 : okF Try.prog 10 = true := by kernel_rfl
theorem cc10 : cCode Try.prog Try.f10.ntmps (Try.f10.body.getD .skip) = some c10 := by kernel_rfl
theorem cr10 : cRess Try.prog Try.f10.results.toList = some rs10 := by kernel_rfl
theorem pure10 {args : List V} {res : V} (hlen : args.length ≤ 193) (hna : namesL args = []) (hnr : res.names = []) (h : ∀ c : Ctx, c.P = Try.prog → c.fn = [] → vcC c c10 ⟨initE 0 args, [], []⟩ (RetK c rs10 res [])) : Ctr Try.prog 10 args [] res [] [] :=
  ctr_pure Try.func10 ok10 rfl cc10 cr10 Try.ntmps10 hlen hna hnr h
theorem own10 {args : List V} {ins outs : List (Nat × Own)} {res : V} {new : List Nat} (hlen : args.length ≤ 193) (hf : ctrB args ins res outs new = true) (h : ∀ c : Ctx, c.P = Try.prog → c.fn = namesL args ++ ownNames ins → vcC c c10 ⟨initE 0 args, ins, namesL args ++ ownNames ins⟩ (RetK c rs10 res outs)) : Ctr Try.prog 10 args ins res outs new :=
  ctr_own Try.func10 ok10 rfl cc10 cr10 Try.ntmps10 hlen hf h

/-- bordereau/bordereaulaw16.awake -/
def c11 : C :=
  (.seq (.reg [⟨(some 0), none, .mov (.k (.d (.bool false)))⟩])
  (.seq (.reg [⟨(some 6), none, .build [.d (.int .i64 0), .d (.int .i64 0)] [(0, 1, (.k (.d (.int .i64 1)))), (1, 1, (.k (.d (.int .i64 366))))]⟩,
    ⟨(some 7), none, .call 12 [(.k (.d (.int .i64 100))), (.t 6), (.k (.d (.int .i64 4)))]⟩,
    ⟨(some 5), none, .mov (.t 7)⟩,
    ⟨(some 8), none, .ext 0 (.t 5)⟩,
    ⟨(some 9), none, .ext 1 (.t 5)⟩,
    ⟨(some 1), none, .mov (.t 8)⟩,
    ⟨(some 2), none, .mov (.t 9)⟩])
  (.seq (.reg [⟨(some 11), none, .mov (.t 1)⟩,
    ⟨(some 12), none, .call 15 [(.t 11), (.k (.d (.int .i64 60)))]⟩,
    ⟨(some 10), none, .mov (.t 12)⟩,
    ⟨(some 13), none, .ext 0 (.t 10)⟩,
    ⟨(some 14), none, .ext 1 (.t 10)⟩,
    ⟨(some 3), none, .mov (.t 13)⟩,
    ⟨(some 4), none, .mov (.t 14)⟩])
  (.seq (.reg [⟨(some 15), none, .mov (.t 2)⟩,
    ⟨(some 16), none, .bin .eql (.t 15) (.k (.d (.int .i64 0)))⟩,
    ⟨(some 17), none, .mov (.t 16)⟩,
    ⟨(some 18), (some (17, true)), .mov (.t 4)⟩,
    ⟨(some 19), (some (17, true)), .bin .eql (.t 18) (.k (.d (.int .i64 0)))⟩,
    ⟨(some 20), none, .pick (.t 17) (.t 19) (.k (.d (.bool false)))⟩,
    ⟨(some 21), none, .mov (.t 20)⟩,
    ⟨(some 22), (some (21, true)), .mov (.t 3)⟩,
    ⟨(some 23), (some (21, true)), .build [.d (.int .i64 0), .d (.int .i64 0), .d (.int .i64 0)] [(0, 1, (.k (.d (.int .i64 1)))), (1, 1, (.k (.d (.int .i64 25)))), (2, 1, (.k (.d (.int .i64 25))))]⟩,
    ⟨(some 24), (some (21, true)), .build [.d (.int .i64 0), .d (.int .i64 0), .d (.int .i64 0)] [(0, 1, (.k (.d (.int .i64 91)))), (1, 1, (.k (.d (.int .i64 25)))), (2, 1, (.k (.d (.int .i64 25))))]⟩,
    ⟨(some 25), (some (21, true)), .build [.d (.int .i64 0), .d (.int .i64 0), .d (.int .i64 0)] [(0, 1, (.k (.d (.int .i64 182)))), (1, 1, (.k (.d (.int .i64 25)))), (2, 1, (.k (.d (.int .i64 10))))]⟩,
    ⟨(some 26), (some (21, true)), .build [.d (.int .i64 0), .d (.int .i64 0), .d (.int .i64 0)] [(0, 1, (.k (.d (.int .i64 274)))), (1, 1, (.k (.d (.int .i64 25))))]⟩,
    ⟨(some 27), (some (21, true)), .bslice 41 3 4 [(.t 23), (.t 24), (.t 25), (.t 26)]⟩,
    ⟨(some 28), (some (21, true)), .call 14 [(.t 22), (.t 27)]⟩,
    ⟨(some 29), none, .pick (.t 21) (.t 28) (.k (.d (.bool false)))⟩,
    ⟨(some 30), none, .mov (.t 29)⟩,
    ⟨(some 31), (some (30, true)), .mov (.t 3)⟩,
    ⟨(some 32), (some (30, true)), .call 19 [(.t 31), (.k (.d (.int .i64 182)))]⟩,
    ⟨(some 33), (some (30, true)), .bin .eql (.t 32) (.k (.d (.int .i64 15)))⟩,
    ⟨(some 34), none, .pick (.t 30) (.t 33) (.k (.d (.bool false)))⟩,
    ⟨(some 35), none, .mov (.t 34)⟩,
    ⟨(some 36), (some (35, true)), .mov (.t 3)⟩,
    ⟨(some 37), (some (35, true)), .call 17 [(.t 36)]⟩,
    ⟨(some 38), none, .pick (.t 35) (.t 37) (.k (.d (.bool false)))⟩,
    ⟨(some 0), none, .mov (.t 38)⟩])
  .ret))))
def rs11 : List RV := [.tmp 0]
theorem ok11 : okF Try.prog 11 = true := by kernel_rfl
theorem cc11 : cCode Try.prog Try.f11.ntmps (Try.f11.body.getD .skip) = some c11 := by kernel_rfl
theorem cr11 : cRess Try.prog Try.f11.results.toList = some rs11 := by kernel_rfl
theorem pure11 {args : List V} {res : V} (hlen : args.length ≤ 39) (hna : namesL args = []) (hnr : res.names = []) (h : ∀ c : Ctx, c.P = Try.prog → c.fn = [] → vcC c c11 ⟨initE 0 args, [], []⟩ (RetK c rs11 res [])) : Ctr Try.prog 11 args [] res [] [] :=
  ctr_pure Try.func11 ok11 rfl cc11 cr11 Try.ntmps11 hlen hna hnr h
theorem own11 {args : List V} {ins outs : List (Nat × Own)} {res : V} {new : List Nat} (hlen : args.length ≤ 39) (hf : ctrB args ins res outs new = true) (h : ∀ c : Ctx, c.P = Try.prog → c.fn = namesL args ++ ownNames ins → vcC c c11 ⟨initE 0 args, ins, namesL args ++ ownNames ins⟩ (RetK c rs11 res outs)) : Ctr Try.prog 11 args ins res outs new :=
  ctr_own Try.func11 ok11 rfl cc11 cr11 Try.ntmps11 hlen hf h

/-- bordereau/bill.Plan -/
def c12 : C :=
  (.seq (.reg [⟨(some 4), none, .box 23 (.t 1)⟩,
    ⟨(some 6), none, .mov (.k (.d (.sl true 0 0 fun _ => [])))⟩,
    ⟨(some 7), none, .mov (.k (.d (.int .i64 0)))⟩])
  (.seq (.reg [⟨(some 14), none, .bslice 3 1 4 [(.k (.d (.int .i64 1))), (.k (.d (.int .i64 2))), (.k (.d (.int .i64 4))), (.k (.d (.int .i64 12)))]⟩,
    ⟨(some 15), none, .mov (.t 2)⟩,
    ⟨(some 16), none, .call 25 [(.t 14), (.t 15)]⟩,
    ⟨(some 8), none, .mov (.t 16)⟩])
  (.seq (.seq (.reg [⟨(some 17), none, .mov (.t 8)⟩,
    ⟨(some 18), none, .inv .not (.t 17)⟩,
    ⟨(some 19), none, .mov (.t 18)⟩,
    ⟨(some 20), (some (19, false)), .mov (.t 0)⟩,
    ⟨(some 21), (some (19, false)), .bin .lss (.t 20) (.k (.d (.int .i64 0)))⟩,
    ⟨(some 22), none, .pick (.t 19) (.k (.d (.bool true))) (.t 21)⟩,
    ⟨(some 23), none, .mov (.t 22)⟩,
    ⟨(some 24), (some (23, false)), .mov (.t 0)⟩,
    ⟨(some 25), (some (23, false)), .bin .gtr (.t 24) (.k (.d (.int .i64 4000000000000000000)))⟩,
    ⟨(some 26), none, .pick (.t 23) (.k (.d (.bool true))) (.t 25)⟩,
    ⟨(some 27), none, .mov (.t 26)⟩,
    ⟨(some 28), (some (27, false)), .load 2 true (.t 4)⟩,
    ⟨(some 29), (some (27, false)), .call 26 [(.t 28)]⟩,
    ⟨(some 30), (some (27, false)), .bin .eql (.t 29) (.k (.d (.int .i64 0)))⟩,
    ⟨(some 31), none, .pick (.t 27) (.k (.d (.bool true))) (.t 30)⟩])
  (.cond (.t 31) (.seq (.reg [⟨(some 6), none, .mov (.k (.d (.sl true 0 0 fun _ => [])))⟩,
      ⟨(some 7), none, .mov (.k (.d (.int .i64 1)))⟩])
    .ret)
  .skip))
  (.seq (.reg [⟨(some 32), none, .mov (.t 0)⟩,
    ⟨(some 33), none, .mov (.t 2)⟩,
    ⟨(some 34), none, .call 27 [(.t 32), (.t 33)]⟩,
    ⟨(some 9), none, .mov (.t 34)⟩])
  (.seq (.reg [⟨(some 10), none, .mov (.k (.d (.sl true 0 0 fun _ => [])))⟩])
  (.seq (.seq (.reg [⟨(some 35), none, .mov (.t 2)⟩,
    ⟨(some 36), none, .mov (.k (.d (.int .i64 0)))⟩])
  (.block 0 (.loop (.seq (.reg [⟨(some 37), none, .bin .lss (.t 36) (.t 35)⟩])
      (.seq (.cond (.t 37) .skip
      (.exit 0))
      (.seq (.block 2 (.seq (.reg [⟨(some 38), none, .mov (.t 36)⟩,
          ⟨(some 11), none, .mov (.t 38)⟩])
        (.seq (.drw [0, 1, 0, 4, 0, 28, 63, 127, 255, 255, 511, 2047]
         [⟨(some 40), none, .fadr 0 (.t 4)⟩,
          ⟨(some 41), none, .load 1 false (.t 40)⟩,
          ⟨(some 42), none, .mov (.t 11)⟩,
          ⟨(some 43), none, .bin .mul (.t 42) (.k (.d (.int .i64 12)))⟩,
          ⟨(some 44), none, .mov (.t 2)⟩,
          ⟨(some 45), none, .bin .quo (.t 43) (.t 44)⟩,
          ⟨(some 46), none, .call 22 [(.t 41), (.t 45)]⟩,
          ⟨(some 39), none, .mov (.t 46)⟩,
          ⟨(some 47), none, .ext 0 (.t 39)⟩,
          ⟨(some 48), none, .ext 1 (.t 39)⟩,
          ⟨(some 12), none, .mov (.t 47)⟩,
          ⟨(some 13), none, .mov (.t 48)⟩])
        (.seq (.seq (.reg [⟨(some 49), none, .mov (.t 13)⟩,
          ⟨(some 50), none, .bin .neq (.t 49) (.k (.d (.int .i64 0)))⟩])
        (.cond (.t 50) (.seq (.reg [⟨(some 6), none, .mov (.k (.d (.sl true 0 0 fun _ => [])))⟩,
            ⟨(some 7), none, .mov (.k (.d (.int .i64 3)))⟩])
          .ret)
        .skip))
        (.reg [⟨(some 51), none, .mov (.t 10)⟩,
          ⟨(some 52), none, .mov (.t 12)⟩,
          ⟨(some 53), none, .mov (.t 9)⟩,
          ⟨(some 54), none, .mov (.t 11)⟩,
          ⟨(some 55), none, .iadr 1 (.t 53) (.t 54)⟩,
          ⟨(some 56), none, .load 1 false (.t 55)⟩,
          ⟨(some 57), none, .build [.d (.int .i64 0), .d (.int .i64 0), .d (.int .i64 0)] [(0, 1, (.t 52)), (1, 1, (.t 56))]⟩,
          ⟨(some 58), none, .bslice 41 3 1 [(.t 57)]⟩,
          ⟨(some 59), none, .app 41 3 24 (.t 51) (.t 58)⟩,
          ⟨(some 10), none, .mov (.t 59)⟩])))))
      (.reg [⟨(some 60), none, .bin .add (.t 36) (.k (.d (.int .i64 1)))⟩,
        ⟨(some 36), none, .mov (.t 60)⟩])))))))
  (.seq (.reg [⟨(some 61), none, .mov (.t 10)⟩,
    ⟨(some 6), none, .mov (.t 61)⟩,
    ⟨(some 7), none, .mov (.k (.d (.int .i64 0)))⟩])
  .ret)))))))
def rs12 : List RV := [.tmp 6, .tmp 7]
theorem ok12 : okF Try.prog 12 = true := by kernel_rfl
theorem cc12 : cCode Try.prog Try.f12.ntmps (Try.f12.body.getD .skip) = some c12 := by kernel_rfl
theorem cr12 : cRess Try.prog Try.f12.results.toList = some rs12 := by kernel_rfl
theorem pure12 {args : List V} {res : V} (hlen : args.length ≤ 62) (hna : namesL args = []) (hnr : res.names = []) (h : ∀ c : Ctx, c.P = Try.prog → c.fn = [] → vcC c c12 ⟨initE 0 args, [], []⟩ (RetK c rs12 res [])) : Ctr Try.prog 12 args [] res [] [] :=
  ctr_pure Try.func12 ok12 rfl cc12 cr12 Try.ntmps12 hlen hna hnr h
theorem own12 {args : List V} {ins outs : List (Nat × Own)} {res : V} {new : List Nat} (hlen : args.length ≤ 62) (hf : ctrB args ins res outs new = true) (h : ∀ c : Ctx, c.P = Try.prog → c.fn = namesL args ++ ownNames ins → vcC c c12 ⟨initE 0 args, ins, namesL args ++ ownNames ins⟩ (RetK c rs12 res outs)) : Ctr Try.prog 12 args ins res outs new :=
  ctr_own Try.func12 ok12 rfl cc12 cr12 Try.ntmps12 hlen hf h

/-- bordereau/bordereauref16.Plan -/
def c13 : C :=
  (.seq (.reg [⟨(some 4), none, .box 23 (.t 1)⟩,
    ⟨(some 6), none, .mov (.k (.d (.sl true 0 0 fun _ => [])))⟩,
    ⟨(some 7), none, .mov (.k (.d (.int .i64 0)))⟩])
  (.seq (.seq (.reg [⟨(some 13), none, .mov (.t 0)⟩,
    ⟨(some 14), none, .bin .lss (.t 13) (.k (.d (.int .i64 0)))⟩,
    ⟨(some 15), none, .mov (.t 14)⟩,
    ⟨(some 16), (some (15, false)), .mov (.t 0)⟩,
    ⟨(some 17), (some (15, false)), .bin .gtr (.t 16) (.k (.d (.int .i64 4000000000000000000)))⟩,
    ⟨(some 18), none, .pick (.t 15) (.k (.d (.bool true))) (.t 17)⟩,
    ⟨(some 19), none, .mov (.t 18)⟩,
    ⟨(some 20), (some (19, false)), .mov (.t 2)⟩,
    ⟨(some 21), (some (19, false)), .bin .neq (.t 20) (.k (.d (.int .i64 1)))⟩,
    ⟨(some 22), (some (19, false)), .mov (.t 21)⟩,
    ⟨(some 23), (some (22, true)), .mov (.t 2)⟩,
    ⟨(some 24), (some (22, true)), .bin .neq (.t 23) (.k (.d (.int .i64 2)))⟩,
    ⟨(some 25), (some (19, false)), .pick (.t 22) (.t 24) (.k (.d (.bool false)))⟩,
    ⟨(some 26), (some (19, false)), .mov (.t 25)⟩,
    ⟨(some 27), (some (26, true)), .mov (.t 2)⟩,
    ⟨(some 28), (some (26, true)), .bin .neq (.t 27) (.k (.d (.int .i64 4)))⟩,
    ⟨(some 29), (some (19, false)), .pick (.t 26) (.t 28) (.k (.d (.bool false)))⟩,
    ⟨(some 30), (some (19, false)), .mov (.t 29)⟩,
    ⟨(some 31), (some (30, true)), .mov (.t 2)⟩,
    ⟨(some 32), (some (30, true)), .bin .neq (.t 31) (.k (.d (.int .i64 12)))⟩,
    ⟨(some 33), (some (19, false)), .pick (.t 30) (.t 32) (.k (.d (.bool false)))⟩,
    ⟨(some 34), none, .pick (.t 19) (.k (.d (.bool true))) (.t 33)⟩])
  (.cond (.t 34) (.seq (.reg [⟨(some 6), none, .mov (.k (.d (.sl true 0 0 fun _ => [])))⟩,
      ⟨(some 7), none, .mov (.k (.d (.int .i64 1)))⟩])
    .ret)
  .skip))
  (.seq (.reg [⟨(some 35), none, .load 2 true (.t 4)⟩,
    ⟨(some 36), none, .call 28 [(.t 35)]⟩,
    ⟨(some 8), none, .mov (.t 36)⟩])
  (.seq (.seq (.reg [⟨(some 37), none, .mov (.t 8)⟩,
    ⟨(some 38), none, .bin .eql (.t 37) (.k (.d (.int .i64 0)))⟩])
  (.cond (.t 38) (.seq (.reg [⟨(some 6), none, .mov (.k (.d (.sl true 0 0 fun _ => [])))⟩,
      ⟨(some 7), none, .mov (.k (.d (.int .i64 1)))⟩])
    .ret)
  .skip))
  (.seq (.reg [⟨(some 9), none, .mov (.k (.d (.sl true 0 0 fun _ => [])))⟩])
  (.seq (.seq (.reg [⟨(some 10), none, .mov (.k (.d (.int .i64 0)))⟩])
  (.block 0 (.loop (.seq (.seq (.reg [⟨(some 39), none, .mov (.t 10)⟩,
        ⟨(some 40), none, .mov (.t 2)⟩,
        ⟨(some 41), none, .bin .lss (.t 39) (.t 40)⟩])
      (.cond (.t 41) .skip
      (.exit 0)))
      (.seq (.block 2 (.seq (.drw [0, 1, 0, 4, 0, 28, 63, 127, 255, 255, 511, 2047]
         [⟨(some 45), none, .fadr 0 (.t 4)⟩,
          ⟨(some 46), none, .load 1 false (.t 45)⟩,
          ⟨(some 47), none, .mov (.t 10)⟩,
          ⟨(some 48), none, .bin .mul (.t 47) (.k (.d (.int .i64 12)))⟩,
          ⟨(some 49), none, .mov (.t 2)⟩,
          ⟨(some 50), none, .bin .quo (.t 48) (.t 49)⟩,
          ⟨(some 51), none, .call 29 [(.t 46), (.t 50)]⟩,
          ⟨(some 44), none, .mov (.t 51)⟩,
          ⟨(some 52), none, .ext 0 (.t 44)⟩,
          ⟨(some 53), none, .ext 1 (.t 44)⟩,
          ⟨(some 11), none, .mov (.t 52)⟩,
          ⟨(some 12), none, .mov (.t 53)⟩])
        (.seq (.seq (.reg [⟨(some 54), none, .mov (.t 12)⟩,
          ⟨(some 55), none, .bin .neq (.t 54) (.k (.d (.int .i64 0)))⟩])
        (.cond (.t 55) (.seq (.reg [⟨(some 6), none, .mov (.k (.d (.sl true 0 0 fun _ => [])))⟩,
            ⟨(some 7), none, .mov (.k (.d (.int .i64 3)))⟩])
          .ret)
        .skip))
        (.reg [⟨(some 56), none, .mov (.t 9)⟩,
          ⟨(some 57), none, .mov (.t 11)⟩,
          ⟨(some 58), none, .mov (.t 0)⟩,
          ⟨(some 59), none, .mov (.t 2)⟩,
          ⟨(some 60), none, .mov (.t 10)⟩,
          ⟨(some 61), none, .call 30 [(.t 58), (.t 59), (.t 60)]⟩,
          ⟨(some 62), none, .build [.d (.int .i64 0), .d (.int .i64 0), .d (.int .i64 0)] [(0, 1, (.t 57)), (1, 1, (.t 61))]⟩,
          ⟨(some 63), none, .bslice 41 3 1 [(.t 62)]⟩,
          ⟨(some 64), none, .app 41 3 24 (.t 56) (.t 63)⟩,
          ⟨(some 9), none, .mov (.t 64)⟩]))))
      (.reg [⟨(some 42), none, .mov (.t 10)⟩,
        ⟨(some 43), none, .bin .add (.t 42) (.k (.d (.int .i64 1)))⟩,
        ⟨(some 10), none, .mov (.t 43)⟩]))))))
  (.seq (.reg [⟨(some 65), none, .mov (.t 9)⟩,
    ⟨(some 6), none, .mov (.t 65)⟩,
    ⟨(some 7), none, .mov (.k (.d (.int .i64 0)))⟩])
  .ret)))))))
def rs13 : List RV := [.tmp 6, .tmp 7]
theorem ok13 : okF Try.prog 13 = true := by kernel_rfl
theorem cc13 : cCode Try.prog Try.f13.ntmps (Try.f13.body.getD .skip) = some c13 := by kernel_rfl
theorem cr13 : cRess Try.prog Try.f13.results.toList = some rs13 := by kernel_rfl
theorem pure13 {args : List V} {res : V} (hlen : args.length ≤ 66) (hna : namesL args = []) (hnr : res.names = []) (h : ∀ c : Ctx, c.P = Try.prog → c.fn = [] → vcC c c13 ⟨initE 0 args, [], []⟩ (RetK c rs13 res [])) : Ctr Try.prog 13 args [] res [] [] :=
  ctr_pure Try.func13 ok13 rfl cc13 cr13 Try.ntmps13 hlen hna hnr h
theorem own13 {args : List V} {ins outs : List (Nat × Own)} {res : V} {new : List Nat} (hlen : args.length ≤ 66) (hf : ctrB args ins res outs new = true) (h : ∀ c : Ctx, c.P = Try.prog → c.fn = namesL args ++ ownNames ins → vcC c c13 ⟨initE 0 args, ins, namesL args ++ ownNames ins⟩ (RetK c rs13 res outs)) : Ctr Try.prog 13 args ins res outs new :=
  ctr_own Try.func13 ok13 rfl cc13 cr13 Try.ntmps13 hlen hf h

/-- bordereau/bordereauref16.Same -/
def c14 : C :=
  (.seq (.reg [⟨(some 4), none, .mov (.k (.d (.bool false)))⟩])
  (.seq (.seq (.reg [⟨(some 6), none, .mov (.t 0)⟩,
    ⟨(some 7), none, .len (.t 6)⟩,
    ⟨(some 8), none, .mov (.t 1)⟩,
    ⟨(some 9), none, .len (.t 8)⟩,
    ⟨(some 10), none, .bin .neq (.t 7) (.t 9)⟩])
  (.cond (.t 10) (.seq (.reg [⟨(some 4), none, .mov (.k (.d (.bool false)))⟩])
    .ret)
  .skip))
  (.seq (.seq (.reg [⟨(some 5), none, .mov (.k (.d (.int .i64 0)))⟩])
  (.block 0 (.loop (.seq (.seq (.reg [⟨(some 11), none, .mov (.t 5)⟩,
        ⟨(some 12), none, .mov (.t 0)⟩,
        ⟨(some 13), none, .len (.t 12)⟩,
        ⟨(some 14), none, .bin .lss (.t 11) (.t 13)⟩])
      (.cond (.t 14) .skip
      (.exit 0)))
      (.seq (.block 2 (.seq (.drw [0, 0, 3, 7, 0, 0, 48, 112, 255]
         [⟨(some 17), none, .mov (.t 0)⟩,
          ⟨(some 18), none, .mov (.t 5)⟩,
          ⟨(some 19), none, .iadr 3 (.t 17) (.t 18)⟩,
          ⟨(some 20), none, .load 3 true (.t 19)⟩,
          ⟨(some 21), none, .mov (.t 1)⟩,
          ⟨(some 22), none, .mov (.t 5)⟩,
          ⟨(some 23), none, .iadr 3 (.t 21) (.t 22)⟩,
          ⟨(some 24), none, .load 3 true (.t 23)⟩,
          ⟨(some 25), none, .eqa true 3 [(0, some .i64), (1, some .i64), (2, some .i64)] (.t 20) (.t 24)⟩])
        (.cond (.t 25) (.seq (.reg [⟨(some 4), none, .mov (.k (.d (.bool false)))⟩])
          .ret)
        .skip)))
      (.reg [⟨(some 15), none, .mov (.t 5)⟩,
        ⟨(some 16), none, .bin .add (.t 15) (.k (.d (.int .i64 1)))⟩,
        ⟨(some 5), none, .mov (.t 16)⟩]))))))
  (.seq (.reg [⟨(some 4), none, .mov (.k (.d (.bool true)))⟩])
  .ret))))
def rs14 : List RV := [.tmp 4]
theorem ok14 : okF Try.prog 14 = true := by kernel_rfl
theorem cc14 : cCode Try.prog Try.f14.ntmps (Try.f14.body.getD .skip) = some c14 := by kernel_rfl
theorem cr14 : cRess Try.prog Try.f14.results.toList = some rs14 := by kernel_rfl
theorem pure14 {args : List V} {res : V} (hlen : args.length ≤ 26) (hna : namesL args = []) (hnr : res.names = []) (h : ∀ c : Ctx, c.P = Try.prog → c.fn = [] → vcC c c14 ⟨initE 0 args, [], []⟩ (RetK c rs14 res [])) : Ctr Try.prog 14 args [] res [] [] :=
  ctr_pure Try.func14 ok14 rfl cc14 cr14 Try.ntmps14 hlen hna hnr h
theorem own14 {args : List V} {ins outs : List (Nat × Own)} {res : V} {new : List Nat} (hlen : args.length ≤ 26) (hf : ctrB args ins res outs new = true) (h : ∀ c : Ctx, c.P = Try.prog → c.fn = namesL args ++ ownNames ins → vcC c c14 ⟨initE 0 args, ins, namesL args ++ ownNames ins⟩ (RetK c rs14 res outs)) : Ctr Try.prog 14 args ins res outs new :=
  ctr_own Try.func14 ok14 rfl cc14 cr14 Try.ntmps14 hlen hf h

/-- bordereau/bill.Pay -/
def c15 : C :=
  (.seq (.reg [⟨(some 4), none, .mov (.k (.d (.sl true 0 0 fun _ => [])))⟩,
    ⟨(some 5), none, .mov (.k (.d (.int .i64 0)))⟩])
  (.seq (.reg [⟨(some 9), none, .mov (.t 0)⟩,
    ⟨(some 10), none, .call 31 [(.t 9)]⟩,
    ⟨(some 6), none, .mov (.t 10)⟩])
  (.seq (.seq (.reg [⟨(some 11), none, .mov (.t 0)⟩,
    ⟨(some 12), none, .call 17 [(.t 11)]⟩,
    ⟨(some 13), none, .inv .not (.t 12)⟩,
    ⟨(some 14), none, .mov (.t 13)⟩,
    ⟨(some 15), (some (14, false)), .mov (.t 1)⟩,
    ⟨(some 16), (some (14, false)), .bin .lss (.t 15) (.k (.d (.int .i64 0)))⟩,
    ⟨(some 17), none, .pick (.t 14) (.k (.d (.bool true))) (.t 16)⟩])
  (.cond (.t 17) (.seq (.reg [⟨(some 18), none, .mov (.t 6)⟩,
      ⟨(some 19), none, .mov (.t 1)⟩,
      ⟨(some 4), none, .mov (.t 18)⟩,
      ⟨(some 5), none, .mov (.t 19)⟩])
    .ret)
  .skip))
  (.seq (.reg [⟨(some 20), none, .mov (.t 6)⟩,
    ⟨(some 21), none, .mkfn (.func 32) [(.t 20)] []⟩,
    ⟨(some 7), none, .mov (.t 21)⟩])
  (.seq (.seq (.reg [⟨(some 22), none, .mov (.t 6)⟩,
    ⟨(some 23), none, .len (.t 22)⟩,
    ⟨(some 24), none, .mov (.k (.d (.int .i64 0)))⟩])
  (.block 0 (.loop (.seq (.reg [⟨(some 25), none, .bin .lss (.t 24) (.t 23)⟩])
      (.seq (.cond (.t 25) .skip
      (.exit 0))
      (.seq (.block 2 (.seq (.reg [⟨(some 26), none, .mov (.t 24)⟩,
          ⟨(some 8), none, .mov (.t 26)⟩])
        (.reg [⟨(some 27), none, .mov (.t 7)⟩,
          ⟨(some 28), none, .mov (.t 8)⟩,
          ⟨(some 29), none, .mov (.t 1)⟩,
          ⟨(some 30), none, .callv (.t 27) [(.t 28), (.t 29)]⟩,
          ⟨(some 1), none, .mov (.t 30)⟩])))
      (.reg [⟨(some 31), none, .bin .add (.t 24) (.k (.d (.int .i64 1)))⟩,
        ⟨(some 24), none, .mov (.t 31)⟩])))))))
  (.seq (.reg [⟨(some 32), none, .mov (.t 6)⟩,
    ⟨(some 33), none, .mov (.t 1)⟩,
    ⟨(some 4), none, .mov (.t 32)⟩,
    ⟨(some 5), none, .mov (.t 33)⟩])
  .ret))))))
def rs15 : List RV := [.tmp 4, .tmp 5]
theorem ok15 : okF Try.prog 15 = true := by kernel_rfl
theorem cc15 : cCode Try.prog Try.f15.ntmps (Try.f15.body.getD .skip) = some c15 := by kernel_rfl
theorem cr15 : cRess Try.prog Try.f15.results.toList = some rs15 := by kernel_rfl
theorem pure15 {args : List V} {res : V} (hlen : args.length ≤ 34) (hna : namesL args = []) (hnr : res.names = []) (h : ∀ c : Ctx, c.P = Try.prog → c.fn = [] → vcC c c15 ⟨initE 0 args, [], []⟩ (RetK c rs15 res [])) : Ctr Try.prog 15 args [] res [] [] :=
  ctr_pure Try.func15 ok15 rfl cc15 cr15 Try.ntmps15 hlen hna hnr h
theorem own15 {args : List V} {ins outs : List (Nat × Own)} {res : V} {new : List Nat} (hlen : args.length ≤ 34) (hf : ctrB args ins res outs new = true) (h : ∀ c : Ctx, c.P = Try.prog → c.fn = namesL args ++ ownNames ins → vcC c c15 ⟨initE 0 args, ins, namesL args ++ ownNames ins⟩ (RetK c rs15 res outs)) : Ctr Try.prog 15 args ins res outs new :=
  ctr_own Try.func15 ok15 rfl cc15 cr15 Try.ntmps15 hlen hf h

/-- bordereau/bordereauref16.Pay -/
def c16 : C :=
  (.seq (.reg [⟨(some 4), none, .mov (.k (.d (.sl true 0 0 fun _ => [])))⟩,
    ⟨(some 5), none, .mov (.k (.d (.int .i64 0)))⟩])
  (.seq (.reg [⟨(some 11), none, .mov (.t 0)⟩,
    ⟨(some 12), none, .call 18 [(.t 11)]⟩,
    ⟨(some 6), none, .mov (.t 12)⟩])
  (.seq (.seq (.reg [⟨(some 13), none, .mov (.t 6)⟩,
    ⟨(some 14), none, .inv .not (.t 13)⟩,
    ⟨(some 15), none, .mov (.t 14)⟩,
    ⟨(some 16), (some (15, false)), .mov (.t 1)⟩,
    ⟨(some 17), (some (15, false)), .bin .lss (.t 16) (.k (.d (.int .i64 0)))⟩,
    ⟨(some 18), none, .pick (.t 15) (.k (.d (.bool true))) (.t 17)⟩])
  (.cond (.t 18) (.seq (.reg [⟨(some 19), none, .mov (.t 0)⟩,
      ⟨(some 20), none, .mov (.t 1)⟩,
      ⟨(some 4), none, .mov (.t 19)⟩,
      ⟨(some 5), none, .mov (.t 20)⟩])
    .ret)
  .skip))
  (.seq (.reg [⟨(some 7), none, .mov (.k (.d (.sl true 0 0 fun _ => [])))⟩])
  (.seq (.seq (.reg [⟨(some 8), none, .mov (.k (.d (.int .i64 0)))⟩])
  (.block 0 (.loop (.seq (.seq (.reg [⟨(some 21), none, .mov (.t 8)⟩,
        ⟨(some 22), none, .mov (.t 0)⟩,
        ⟨(some 23), none, .len (.t 22)⟩,
        ⟨(some 24), none, .bin .lss (.t 21) (.t 23)⟩])
      (.cond (.t 24) .skip
      (.exit 0)))
      (.seq (.block 2 (.seq (.reg [⟨(some 27), none, .mov (.t 0)⟩,
          ⟨(some 28), none, .mov (.t 8)⟩,
          ⟨(some 29), none, .iadr 3 (.t 27) (.t 28)⟩,
          ⟨(some 30), none, .load 3 true (.t 29)⟩,
          ⟨(some 9), none, .alloc 41 [.d (.int .i64 0), .d (.int .i64 0), .d (.int .i64 0)]⟩,
          ⟨none, none, .store 3 (.t 9) (.t 30)⟩])
        (.seq (.reg [⟨(some 31), none, .fadr 1 (.t 9)⟩,
          ⟨(some 32), none, .load 1 false (.t 31)⟩,
          ⟨(some 33), none, .fadr 2 (.t 9)⟩,
          ⟨(some 34), none, .load 1 false (.t 33)⟩,
          ⟨(some 35), none, .bin .sub (.t 32) (.t 34)⟩,
          ⟨(some 36), none, .mov (.t 1)⟩,
          ⟨(some 37), none, .mm false (.t 35) (.t 36)⟩,
          ⟨(some 10), none, .mov (.t 37)⟩])
        (.seq (.reg [⟨(some 38), none, .fadr 2 (.t 9)⟩,
          ⟨(some 39), none, .load 1 false (.t 38)⟩,
          ⟨(some 40), none, .mov (.t 10)⟩,
          ⟨(some 41), none, .bin .add (.t 39) (.t 40)⟩,
          ⟨(some 42), none, .fadr 2 (.t 9)⟩,
          ⟨none, none, .store 1 (.t 42) (.t 41)⟩])
        (.seq (.reg [⟨(some 43), none, .mov (.t 1)⟩,
          ⟨(some 44), none, .mov (.t 10)⟩,
          ⟨(some 45), none, .bin .sub (.t 43) (.t 44)⟩,
          ⟨(some 1), none, .mov (.t 45)⟩])
        (.reg [⟨(some 46), none, .mov (.t 7)⟩,
          ⟨(some 47), none, .load 3 true (.t 9)⟩,
          ⟨(some 48), none, .bslice 41 3 1 [(.t 47)]⟩,
          ⟨(some 49), none, .app 41 3 24 (.t 46) (.t 48)⟩,
          ⟨(some 7), none, .mov (.t 49)⟩]))))))
      (.reg [⟨(some 25), none, .mov (.t 8)⟩,
        ⟨(some 26), none, .bin .add (.t 25) (.k (.d (.int .i64 1)))⟩,
        ⟨(some 8), none, .mov (.t 26)⟩]))))))
  (.seq (.reg [⟨(some 50), none, .mov (.t 7)⟩,
    ⟨(some 51), none, .mov (.t 1)⟩,
    ⟨(some 4), none, .mov (.t 50)⟩,
    ⟨(some 5), none, .mov (.t 51)⟩])
  .ret))))))
def rs16 : List RV := [.tmp 4, .tmp 5]
theorem ok16 : okF Try.prog 16 = true := by kernel_rfl
theorem cc16 : cCode Try.prog Try.f16.ntmps (Try.f16.body.getD .skip) = some c16 := by kernel_rfl
theorem cr16 : cRess Try.prog Try.f16.results.toList = some rs16 := by kernel_rfl
theorem pure16 {args : List V} {res : V} (hlen : args.length ≤ 52) (hna : namesL args = []) (hnr : res.names = []) (h : ∀ c : Ctx, c.P = Try.prog → c.fn = [] → vcC c c16 ⟨initE 0 args, [], []⟩ (RetK c rs16 res [])) : Ctr Try.prog 16 args [] res [] [] :=
  ctr_pure Try.func16 ok16 rfl cc16 cr16 Try.ntmps16 hlen hna hnr h
theorem own16 {args : List V} {ins outs : List (Nat × Own)} {res : V} {new : List Nat} (hlen : args.length ≤ 52) (hf : ctrB args ins res outs new = true) (h : ∀ c : Ctx, c.P = Try.prog → c.fn = namesL args ++ ownNames ins → vcC c c16 ⟨initE 0 args, ins, namesL args ++ ownNames ins⟩ (RetK c rs16 res outs)) : Ctr Try.prog 16 args ins res outs new :=
  ctr_own Try.func16 ok16 rfl cc16 cr16 Try.ntmps16 hlen hf h

/-- bordereau/bill.Right -/
def c17 : C :=
  (.seq (.reg [⟨(some 2), none, .mov (.k (.d (.bool false)))⟩])
  (.seq (.reg [⟨(some 3), none, .mov (.k (.d (.int .i64 1)))⟩,
    ⟨(some 4), none, .mov (.k (.d (.int .i64 4000000000000000000)))⟩])
  (.seq (.seq (.reg [⟨(some 7), none, .mov (.t 0)⟩,
    ⟨(some 8), none, .len (.t 7)⟩,
    ⟨(some 9), none, .mov (.k (.d (.int .i64 0)))⟩])
  (.block 0 (.loop (.seq (.reg [⟨(some 10), none, .bin .lss (.t 9) (.t 8)⟩])
      (.seq (.cond (.t 10) .skip
      (.exit 0))
      (.seq (.block 2 (.seq (.reg [⟨(some 11), none, .iadr 3 (.t 7) (.t 9)⟩,
          ⟨(some 12), none, .load 3 true (.t 11)⟩,
          ⟨(some 6), none, .alloc 41 [.d (.int .i64 0), .d (.int .i64 0), .d (.int .i64 0)]⟩,
          ⟨none, none, .store 3 (.t 6) (.t 12)⟩])
        (.seq (.seq (.reg [⟨(some 13), none, .fadr 0 (.t 6)⟩,
          ⟨(some 14), none, .load 1 false (.t 13)⟩,
          ⟨(some 15), none, .mov (.t 3)⟩,
          ⟨(some 16), none, .bin .lss (.t 14) (.t 15)⟩,
          ⟨(some 17), none, .mov (.t 16)⟩,
          ⟨(some 18), (some (17, false)), .fadr 0 (.t 6)⟩,
          ⟨(some 19), (some (17, false)), .load 1 false (.t 18)⟩,
          ⟨(some 20), (some (17, false)), .bin .gtr (.t 19) (.k (.d (.int .i64 292194)))⟩,
          ⟨(some 21), none, .pick (.t 17) (.k (.d (.bool true))) (.t 20)⟩,
          ⟨(some 22), none, .mov (.t 21)⟩,
          ⟨(some 23), (some (22, false)), .fadr 2 (.t 6)⟩,
          ⟨(some 24), (some (22, false)), .load 1 false (.t 23)⟩,
          ⟨(some 25), (some (22, false)), .bin .lss (.t 24) (.k (.d (.int .i64 0)))⟩,
          ⟨(some 26), none, .pick (.t 22) (.k (.d (.bool true))) (.t 25)⟩,
          ⟨(some 27), none, .mov (.t 26)⟩,
          ⟨(some 28), (some (27, false)), .fadr 2 (.t 6)⟩,
          ⟨(some 29), (some (27, false)), .load 1 false (.t 28)⟩,
          ⟨(some 30), (some (27, false)), .fadr 1 (.t 6)⟩,
          ⟨(some 31), (some (27, false)), .load 1 false (.t 30)⟩,
          ⟨(some 32), (some (27, false)), .bin .gtr (.t 29) (.t 31)⟩,
          ⟨(some 33), none, .pick (.t 27) (.k (.d (.bool true))) (.t 32)⟩,
          ⟨(some 34), none, .mov (.t 33)⟩,
          ⟨(some 35), (some (34, false)), .fadr 1 (.t 6)⟩,
          ⟨(some 36), (some (34, false)), .load 1 false (.t 35)⟩,
          ⟨(some 37), (some (34, false)), .mov (.t 4)⟩,
          ⟨(some 38), (some (34, false)), .bin .gtr (.t 36) (.t 37)⟩,
          ⟨(some 39), none, .pick (.t 34) (.k (.d (.bool true))) (.t 38)⟩])
        (.cond (.t 39) (.seq (.reg [⟨(some 2), none, .mov (.k (.d (.bool false)))⟩])
          .ret)
        .skip))
        (.drw [0, 1, 0, 0, 8, 28, 3, 127]
         [⟨(some 40), none, .fadr 0 (.t 6)⟩,
          ⟨(some 41), none, .load 1 false (.t 40)⟩,
          ⟨(some 42), none, .mov (.t 4)⟩,
          ⟨(some 43), none, .fadr 1 (.t 6)⟩,
          ⟨(some 44), none, .load 1 false (.t 43)⟩,
          ⟨(some 45), none, .bin .sub (.t 42) (.t 44)⟩,
          ⟨(some 3), none, .mov (.t 41)⟩,
          ⟨(some 4), none, .mov (.t 45)⟩]))))
      (.reg [⟨(some 46), none, .bin .add (.t 9) (.k (.d (.int .i64 1)))⟩,
        ⟨(some 9), none, .mov (.t 46)⟩])))))))
  (.seq (.reg [⟨(some 47), none, .mov (.t 0)⟩,
    ⟨(some 48), none, .len (.t 47)⟩,
    ⟨(some 49), none, .bin .leq (.t 48) (.k (.d (.int .i64 100)))⟩,
    ⟨(some 2), none, .mov (.t 49)⟩])
  .ret))))
def rs17 : List RV := [.tmp 2]
theorem ok17 : okF Try.prog 17 = true := by kernel_rfl
theorem cc17 : cCode Try.prog Try.f17.ntmps (Try.f17.body.getD .skip) = some c17 := by kernel_rfl
theorem cr17 : cRess Try.prog Try.f17.results.toList = some rs17 := by kernel_rfl
theorem pure17 {args : List V} {res : V} (hlen : args.length ≤ 50) (hna : namesL args = []) (hnr : res.names = []) (h : ∀ c : Ctx, c.P = Try.prog → c.fn = [] → vcC c c17 ⟨initE 0 args, [], []⟩ (RetK c rs17 res [])) : Ctr Try.prog 17 args [] res [] [] :=
  ctr_pure Try.func17 ok17 rfl cc17 cr17 Try.ntmps17 hlen hna hnr h
theorem own17 {args : List V} {ins outs : List (Nat × Own)} {res : V} {new : List Nat} (hlen : args.length ≤ 50) (hf : ctrB args ins res outs new = true) (h : ∀ c : Ctx, c.P = Try.prog → c.fn = namesL args ++ ownNames ins → vcC c c17 ⟨initE 0 args, ins, namesL args ++ ownNames ins⟩ (RetK c rs17 res outs)) : Ctr Try.prog 17 args ins res outs new :=
  ctr_own Try.func17 ok17 rfl cc17 cr17 Try.ntmps17 hlen hf h

/-- bordereau/bordereauref16.Right -/
def c18 : C :=
  (.seq (.reg [⟨(some 2), none, .mov (.k (.d (.bool false)))⟩])
  (.seq (.seq (.reg [⟨(some 5), none, .mov (.t 0)⟩,
    ⟨(some 6), none, .len (.t 5)⟩,
    ⟨(some 7), none, .bin .gtr (.t 6) (.k (.d (.int .i64 100)))⟩])
  (.cond (.t 7) (.seq (.reg [⟨(some 2), none, .mov (.k (.d (.bool false)))⟩])
    .ret)
  .skip))
  (.seq (.reg [⟨(some 3), none, .mov (.k (.d (.int .i64 0)))⟩])
  (.seq (.seq (.reg [⟨(some 4), none, .mov (.k (.d (.int .i64 0)))⟩])
  (.block 0 (.loop (.seq (.seq (.reg [⟨(some 8), none, .mov (.t 4)⟩,
        ⟨(some 9), none, .mov (.t 0)⟩,
        ⟨(some 10), none, .len (.t 9)⟩,
        ⟨(some 11), none, .bin .lss (.t 8) (.t 10)⟩])
      (.cond (.t 11) .skip
      (.exit 0)))
      (.seq (.block 2 (.seq (.seq (.drw [0, 0, 3, 7, 15, 31, 63, 127, 127, 511, 1023, 2047, 4095, 8191, 16383, 32767, 32767, 131071, 262143, 524287, 1048575, 2097151, 4194303, 8388607, 8388607, 33554431, 67108863, 134217727, 8388607, 8388607, 813694975, 1887436799, 4034920447, 8589934591, 17179869183, 34359738367, 68719476735, 68719476735, 274877906943, 549755813887, 1099511627775, 68719476735, 2267742732287, 8796093022207, 17592186044415]
         [⟨(some 14), none, .mov (.t 0)⟩,
          ⟨(some 15), none, .mov (.t 4)⟩,
          ⟨(some 16), none, .iadr 3 (.t 14) (.t 15)⟩,
          ⟨(some 17), none, .fadr 0 (.t 16)⟩,
          ⟨(some 18), none, .load 1 false (.t 17)⟩,
          ⟨(some 19), none, .bin .lss (.t 18) (.k (.d (.int .i64 1)))⟩,
          ⟨(some 20), none, .mov (.t 19)⟩,
          ⟨(some 21), (some (20, false)), .mov (.t 0)⟩,
          ⟨(some 22), (some (20, false)), .mov (.t 4)⟩,
          ⟨(some 23), (some (20, false)), .iadr 3 (.t 21) (.t 22)⟩,
          ⟨(some 24), (some (20, false)), .fadr 0 (.t 23)⟩,
          ⟨(some 25), (some (20, false)), .load 1 false (.t 24)⟩,
          ⟨(some 26), (some (20, false)), .bin .gtr (.t 25) (.k (.d (.int .i64 292194)))⟩,
          ⟨(some 27), none, .pick (.t 20) (.k (.d (.bool true))) (.t 26)⟩,
          ⟨(some 28), none, .mov (.t 27)⟩,
          ⟨(some 29), (some (28, false)), .mov (.t 0)⟩,
          ⟨(some 30), (some (28, false)), .mov (.t 4)⟩,
          ⟨(some 31), (some (28, false)), .iadr 3 (.t 29) (.t 30)⟩,
          ⟨(some 32), (some (28, false)), .fadr 2 (.t 31)⟩,
          ⟨(some 33), (some (28, false)), .load 1 false (.t 32)⟩,
          ⟨(some 34), (some (28, false)), .bin .lss (.t 33) (.k (.d (.int .i64 0)))⟩,
          ⟨(some 35), none, .pick (.t 28) (.k (.d (.bool true))) (.t 34)⟩,
          ⟨(some 36), none, .mov (.t 35)⟩,
          ⟨(some 37), (some (36, false)), .mov (.t 0)⟩,
          ⟨(some 38), (some (36, false)), .mov (.t 4)⟩,
          ⟨(some 39), (some (36, false)), .iadr 3 (.t 37) (.t 38)⟩,
          ⟨(some 40), (some (36, false)), .fadr 2 (.t 39)⟩,
          ⟨(some 41), (some (36, false)), .load 1 false (.t 40)⟩,
          ⟨(some 42), (some (36, false)), .mov (.t 0)⟩,
          ⟨(some 43), (some (36, false)), .mov (.t 4)⟩,
          ⟨(some 44), (some (36, false)), .iadr 3 (.t 42) (.t 43)⟩,
          ⟨(some 45), (some (36, false)), .fadr 1 (.t 44)⟩,
          ⟨(some 46), (some (36, false)), .load 1 false (.t 45)⟩,
          ⟨(some 47), (some (36, false)), .bin .gtr (.t 41) (.t 46)⟩,
          ⟨(some 48), none, .pick (.t 36) (.k (.d (.bool true))) (.t 47)⟩,
          ⟨(some 49), none, .mov (.t 48)⟩,
          ⟨(some 50), (some (49, false)), .mov (.t 0)⟩,
          ⟨(some 51), (some (49, false)), .mov (.t 4)⟩,
          ⟨(some 52), (some (49, false)), .iadr 3 (.t 50) (.t 51)⟩,
          ⟨(some 53), (some (49, false)), .fadr 1 (.t 52)⟩,
          ⟨(some 54), (some (49, false)), .load 1 false (.t 53)⟩,
          ⟨(some 55), (some (49, false)), .mov (.t 3)⟩,
          ⟨(some 56), (some (49, false)), .bin .sub (.k (.d (.int .i64 4000000000000000000))) (.t 55)⟩,
          ⟨(some 57), (some (49, false)), .bin .gtr (.t 54) (.t 56)⟩,
          ⟨(some 58), none, .pick (.t 49) (.k (.d (.bool true))) (.t 57)⟩])
        (.cond (.t 58) (.seq (.reg [⟨(some 2), none, .mov (.k (.d (.bool false)))⟩])
          .ret)
        .skip))
        (.seq (.reg [⟨(some 59), none, .mov (.t 3)⟩,
          ⟨(some 60), none, .mov (.t 0)⟩,
          ⟨(some 61), none, .mov (.t 4)⟩,
          ⟨(some 62), none, .iadr 3 (.t 60) (.t 61)⟩,
          ⟨(some 63), none, .fadr 1 (.t 62)⟩,
          ⟨(some 64), none, .load 1 false (.t 63)⟩,
          ⟨(some 65), none, .bin .add (.t 59) (.t 64)⟩,
          ⟨(some 3), none, .mov (.t 65)⟩])
        (.seq (.reg [⟨(some 66), none, .mov (.t 4)⟩,
          ⟨(some 67), none, .bin .gtr (.t 66) (.k (.d (.int .i64 0)))⟩])
        (.cond (.t 67) (.seq (.drw [0, 0, 3, 7, 15, 0, 0, 64, 224, 480, 992, 2047]
           [⟨(some 68), none, .mov (.t 0)⟩,
            ⟨(some 69), none, .mov (.t 4)⟩,
            ⟨(some 70), none, .iadr 3 (.t 68) (.t 69)⟩,
            ⟨(some 71), none, .fadr 0 (.t 70)⟩,
            ⟨(some 72), none, .load 1 false (.t 71)⟩,
            ⟨(some 73), none, .mov (.t 0)⟩,
            ⟨(some 74), none, .mov (.t 4)⟩,
            ⟨(some 75), none, .bin .sub (.t 74) (.k (.d (.int .i64 1)))⟩,
            ⟨(some 76), none, .iadr 3 (.t 73) (.t 75)⟩,
            ⟨(some 77), none, .fadr 0 (.t 76)⟩,
            ⟨(some 78), none, .load 1 false (.t 77)⟩,
            ⟨(some 79), none, .bin .lss (.t 72) (.t 78)⟩])
          (.cond (.t 79) (.seq (.reg [⟨(some 2), none, .mov (.k (.d (.bool false)))⟩])
            .ret)
          .skip))
        .skip)))))
      (.reg [⟨(some 12), none, .mov (.t 4)⟩,
        ⟨(some 13), none, .bin .add (.t 12) (.k (.d (.int .i64 1)))⟩,
        ⟨(some 4), none, .mov (.t 13)⟩]))))))
  (.seq (.reg [⟨(some 2), none, .mov (.k (.d (.bool true)))⟩])
  .ret)))))
def rs18 : List RV := [.tmp 2]
theorem ok18 : okF Try.prog 18 = true := by kernel_rfl
theorem cc18 : cCode Try.prog Try.f18.ntmps (Try.f18.body.getD .skip) = some c18 := by kernel_rfl
theorem cr18 : cRess Try.prog Try.f18.results.toList = some rs18 := by kernel_rfl
theorem pure18 {args : List V} {res : V} (hlen : args.length ≤ 80) (hna : namesL args = []) (hnr : res.names = []) (h : ∀ c : Ctx, c.P = Try.prog → c.fn = [] → vcC c c18 ⟨initE 0 args, [], []⟩ (RetK c rs18 res [])) : Ctr Try.prog 18 args [] res [] [] :=
  ctr_pure Try.func18 ok18 rfl cc18 cr18 Try.ntmps18 hlen hna hnr h
theorem own18 {args : List V} {ins outs : List (Nat × Own)} {res : V} {new : List Nat} (hlen : args.length ≤ 80) (hf : ctrB args ins res outs new = true) (h : ∀ c : Ctx, c.P = Try.prog → c.fn = namesL args ++ ownNames ins → vcC c c18 ⟨initE 0 args, ins, namesL args ++ ownNames ins⟩ (RetK c rs18 res outs)) : Ctr Try.prog 18 args ins res outs new :=
  ctr_own Try.func18 ok18 rfl cc18 cr18 Try.ntmps18 hlen hf h

/-- bordereau/bill.Open -/
def c19 : C :=
  (.seq (.reg [⟨(some 4), none, .mov (.k (.d (.int .i64 0)))⟩])
  (.seq (.seq (.reg [⟨(some 7), none, .mov (.t 0)⟩,
    ⟨(some 8), none, .call 17 [(.t 7)]⟩,
    ⟨(some 9), none, .inv .not (.t 8)⟩])
  (.cond (.t 9) (.seq (.reg [⟨(some 4), none, .mov (.k (.d (.int .i64 0)))⟩])
    .ret)
  .skip))
  (.seq (.reg [⟨(some 5), none, .mov (.k (.d (.int .i64 0)))⟩])
  (.seq (.seq (.reg [⟨(some 10), none, .mov (.t 0)⟩,
    ⟨(some 11), none, .len (.t 10)⟩,
    ⟨(some 12), none, .mov (.k (.d (.int .i64 0)))⟩])
  (.block 0 (.loop (.seq (.reg [⟨(some 13), none, .bin .lss (.t 12) (.t 11)⟩])
      (.seq (.cond (.t 13) .skip
      (.exit 0))
      (.seq (.block 2 (.seq (.reg [⟨(some 14), none, .mov (.t 12)⟩,
          ⟨(some 6), none, .mov (.t 14)⟩])
        (.seq (.reg [⟨(some 15), none, .mov (.t 0)⟩,
          ⟨(some 16), none, .mov (.t 6)⟩,
          ⟨(some 17), none, .iadr 3 (.t 15) (.t 16)⟩,
          ⟨(some 18), none, .fadr 0 (.t 17)⟩,
          ⟨(some 19), none, .load 1 false (.t 18)⟩,
          ⟨(some 20), none, .mov (.t 1)⟩,
          ⟨(some 21), none, .bin .leq (.t 19) (.t 20)⟩])
        (.cond (.t 21) (.drw [0, 0, 0, 6, 14, 30, 0, 0, 192, 448, 960, 2046, 4095, 8191]
           [⟨(some 22), none, .mov (.t 5)⟩,
            ⟨(some 23), none, .mov (.t 0)⟩,
            ⟨(some 24), none, .mov (.t 6)⟩,
            ⟨(some 25), none, .iadr 3 (.t 23) (.t 24)⟩,
            ⟨(some 26), none, .fadr 1 (.t 25)⟩,
            ⟨(some 27), none, .load 1 false (.t 26)⟩,
            ⟨(some 28), none, .mov (.t 0)⟩,
            ⟨(some 29), none, .mov (.t 6)⟩,
            ⟨(some 30), none, .iadr 3 (.t 28) (.t 29)⟩,
            ⟨(some 31), none, .fadr 2 (.t 30)⟩,
            ⟨(some 32), none, .load 1 false (.t 31)⟩,
            ⟨(some 33), none, .bin .sub (.t 27) (.t 32)⟩,
            ⟨(some 34), none, .bin .add (.t 22) (.t 33)⟩,
            ⟨(some 5), none, .mov (.t 34)⟩])
        .skip))))
      (.reg [⟨(some 35), none, .bin .add (.t 12) (.k (.d (.int .i64 1)))⟩,
        ⟨(some 12), none, .mov (.t 35)⟩])))))))
  (.seq (.reg [⟨(some 36), none, .mov (.t 5)⟩,
    ⟨(some 4), none, .mov (.t 36)⟩])
  .ret)))))
def rs19 : List RV := [.tmp 4]
theorem ok19 : okF Try.prog 19 = true := by kernel_rfl
theorem cc19 : cCode Try.prog Try.f19.ntmps (Try.f19.body.getD .skip) = some c19 := by kernel_rfl
theorem cr19 : cRess Try.prog Try.f19.results.toList = some rs19 := by kernel_rfl
theorem pure19 {args : List V} {res : V} (hlen : args.length ≤ 37) (hna : namesL args = []) (hnr : res.names = []) (h : ∀ c : Ctx, c.P = Try.prog → c.fn = [] → vcC c c19 ⟨initE 0 args, [], []⟩ (RetK c rs19 res [])) : Ctr Try.prog 19 args [] res [] [] :=
  ctr_pure Try.func19 ok19 rfl cc19 cr19 Try.ntmps19 hlen hna hnr h
theorem own19 {args : List V} {ins outs : List (Nat × Own)} {res : V} {new : List Nat} (hlen : args.length ≤ 37) (hf : ctrB args ins res outs new = true) (h : ∀ c : Ctx, c.P = Try.prog → c.fn = namesL args ++ ownNames ins → vcC c c19 ⟨initE 0 args, ins, namesL args ++ ownNames ins⟩ (RetK c rs19 res outs)) : Ctr Try.prog 19 args ins res outs new :=
  ctr_own Try.func19 ok19 rfl cc19 cr19 Try.ntmps19 hlen hf h

/-- bordereau/bordereauref16.Open -/
def c20 : C :=
  (.seq (.reg [⟨(some 4), none, .mov (.k (.d (.int .i64 0)))⟩])
  (.seq (.reg [⟨(some 5), none, .mov (.k (.d (.int .i64 0)))⟩])
  (.seq (.reg [⟨(some 8), none, .mov (.t 0)⟩,
    ⟨(some 9), none, .call 18 [(.t 8)]⟩,
    ⟨(some 6), none, .mov (.t 9)⟩])
  (.seq (.seq (.reg [⟨(some 7), none, .mov (.k (.d (.int .i64 0)))⟩])
  (.block 0 (.loop (.seq (.seq (.reg [⟨(some 10), none, .mov (.t 7)⟩,
        ⟨(some 11), none, .mov (.t 0)⟩,
        ⟨(some 12), none, .len (.t 11)⟩,
        ⟨(some 13), none, .bin .lss (.t 10) (.t 12)⟩,
        ⟨(some 14), none, .mov (.t 13)⟩,
        ⟨(some 15), (some (14, true)), .mov (.t 6)⟩,
        ⟨(some 16), none, .pick (.t 14) (.t 15) (.k (.d (.bool false)))⟩])
      (.cond (.t 16) .skip
      (.exit 0)))
      (.seq (.block 2 (.seq (.reg [⟨(some 19), none, .mov (.t 0)⟩,
          ⟨(some 20), none, .mov (.t 7)⟩,
          ⟨(some 21), none, .iadr 3 (.t 19) (.t 20)⟩,
          ⟨(some 22), none, .fadr 0 (.t 21)⟩,
          ⟨(some 23), none, .load 1 false (.t 22)⟩,
          ⟨(some 24), none, .mov (.t 1)⟩,
          ⟨(some 25), none, .bin .leq (.t 23) (.t 24)⟩])
        (.cond (.t 25) (.drw [0, 0, 0, 6, 14, 30, 63, 0, 0, 384, 896, 1920, 4095, 8191]
           [⟨(some 26), none, .mov (.t 5)⟩,
            ⟨(some 27), none, .mov (.t 0)⟩,
            ⟨(some 28), none, .mov (.t 7)⟩,
            ⟨(some 29), none, .iadr 3 (.t 27) (.t 28)⟩,
            ⟨(some 30), none, .fadr 1 (.t 29)⟩,
            ⟨(some 31), none, .load 1 false (.t 30)⟩,
            ⟨(some 32), none, .bin .add (.t 26) (.t 31)⟩,
            ⟨(some 33), none, .mov (.t 0)⟩,
            ⟨(some 34), none, .mov (.t 7)⟩,
            ⟨(some 35), none, .iadr 3 (.t 33) (.t 34)⟩,
            ⟨(some 36), none, .fadr 2 (.t 35)⟩,
            ⟨(some 37), none, .load 1 false (.t 36)⟩,
            ⟨(some 38), none, .bin .sub (.t 32) (.t 37)⟩,
            ⟨(some 5), none, .mov (.t 38)⟩])
        .skip)))
      (.reg [⟨(some 17), none, .mov (.t 7)⟩,
        ⟨(some 18), none, .bin .add (.t 17) (.k (.d (.int .i64 1)))⟩,
        ⟨(some 7), none, .mov (.t 18)⟩]))))))
  (.seq (.reg [⟨(some 39), none, .mov (.t 5)⟩,
    ⟨(some 4), none, .mov (.t 39)⟩])
  .ret)))))
def rs20 : List RV := [.tmp 4]
theorem ok20 : okF Try.prog 20 = true := by kernel_rfl
theorem cc20 : cCode Try.prog Try.f20.ntmps (Try.f20.body.getD .skip) = some c20 := by kernel_rfl
theorem cr20 : cRess Try.prog Try.f20.results.toList = some rs20 := by kernel_rfl
theorem pure20 {args : List V} {res : V} (hlen : args.length ≤ 40) (hna : namesL args = []) (hnr : res.names = []) (h : ∀ c : Ctx, c.P = Try.prog → c.fn = [] → vcC c c20 ⟨initE 0 args, [], []⟩ (RetK c rs20 res [])) : Ctr Try.prog 20 args [] res [] [] :=
  ctr_pure Try.func20 ok20 rfl cc20 cr20 Try.ntmps20 hlen hna hnr h
theorem own20 {args : List V} {ins outs : List (Nat × Own)} {res : V} {new : List Nat} (hlen : args.length ≤ 40) (hf : ctrB args ins res outs new = true) (h : ∀ c : Ctx, c.P = Try.prog → c.fn = namesL args ++ ownNames ins → vcC c c20 ⟨initE 0 args, ins, namesL args ++ ownNames ins⟩ (RetK c rs20 res outs)) : Ctr Try.prog 20 args ins res outs new :=
  ctr_own Try.func20 ok20 rfl cc20 cr20 Try.ntmps20 hlen hf h

/-- bordereau/bordereauref16.Sum -/
def c21 : C :=
  (.seq (.reg [⟨(some 2), none, .mov (.k (.d (.int .i64 0)))⟩,
    ⟨(some 3), none, .mov (.k (.d (.int .i64 0)))⟩])
  (.seq (.reg [⟨(some 4), none, .mov (.k (.d (.int .i64 0)))⟩])
  (.seq (.reg [⟨(some 5), none, .mov (.k (.d (.int .i64 0)))⟩])
  (.seq (.seq (.reg [⟨(some 6), none, .mov (.k (.d (.int .i64 0)))⟩])
  (.block 0 (.loop (.seq (.seq (.reg [⟨(some 7), none, .mov (.t 6)⟩,
        ⟨(some 8), none, .mov (.t 0)⟩,
        ⟨(some 9), none, .len (.t 8)⟩,
        ⟨(some 10), none, .bin .lss (.t 7) (.t 9)⟩])
      (.cond (.t 10) .skip
      (.exit 0)))
      (.seq (.block 2 (.seq (.reg [⟨(some 13), none, .mov (.t 4)⟩,
          ⟨(some 14), none, .mov (.t 0)⟩,
          ⟨(some 15), none, .mov (.t 6)⟩,
          ⟨(some 16), none, .iadr 3 (.t 14) (.t 15)⟩,
          ⟨(some 17), none, .fadr 1 (.t 16)⟩,
          ⟨(some 18), none, .load 1 false (.t 17)⟩,
          ⟨(some 19), none, .bin .add (.t 13) (.t 18)⟩,
          ⟨(some 4), none, .mov (.t 19)⟩])
        (.reg [⟨(some 20), none, .mov (.t 5)⟩,
          ⟨(some 21), none, .mov (.t 0)⟩,
          ⟨(some 22), none, .mov (.t 6)⟩,
          ⟨(some 23), none, .iadr 3 (.t 21) (.t 22)⟩,
          ⟨(some 24), none, .fadr 2 (.t 23)⟩,
          ⟨(some 25), none, .load 1 false (.t 24)⟩,
          ⟨(some 26), none, .bin .add (.t 20) (.t 25)⟩,
          ⟨(some 5), none, .mov (.t 26)⟩])))
      (.reg [⟨(some 11), none, .mov (.t 6)⟩,
        ⟨(some 12), none, .bin .add (.t 11) (.k (.d (.int .i64 1)))⟩,
        ⟨(some 6), none, .mov (.t 12)⟩]))))))
  (.seq (.reg [⟨(some 27), none, .mov (.t 4)⟩,
    ⟨(some 28), none, .mov (.t 5)⟩,
    ⟨(some 2), none, .mov (.t 27)⟩,
    ⟨(some 3), none, .mov (.t 28)⟩])
  .ret)))))
def rs21 : List RV := [.tmp 2, .tmp 3]
theorem ok21 : okF Try.prog 21 = true := by kernel_rfl
theorem cc21 : cCode Try.prog Try.f21.ntmps (Try.f21.body.getD .skip) = some c21 := by kernel_rfl
theorem cr21 : cRess Try.prog Try.f21.results.toList = some rs21 := by kernel_rfl
theorem pure21 {args : List V} {res : V} (hlen : args.length ≤ 29) (hna : namesL args = []) (hnr : res.names = []) (h : ∀ c : Ctx, c.P = Try.prog → c.fn = [] → vcC c c21 ⟨initE 0 args, [], []⟩ (RetK c rs21 res [])) : Ctr Try.prog 21 args [] res [] [] :=
  ctr_pure Try.func21 ok21 rfl cc21 cr21 Try.ntmps21 hlen hna hnr h
theorem own21 {args : List V} {ins outs : List (Nat × Own)} {res : V} {new : List Nat} (hlen : args.length ≤ 29) (hf : ctrB args ins res outs new = true) (h : ∀ c : Ctx, c.P = Try.prog → c.fn = namesL args ++ ownNames ins → vcC c c21 ⟨initE 0 args, ins, namesL args ++ ownNames ins⟩ (RetK c rs21 res outs)) : Ctr Try.prog 21 args ins res outs new :=
  ctr_own Try.func21 ok21 rfl cc21 cr21 Try.ntmps21 hlen hf h

/-- bordereau/day.Shift -/
def c22 : C :=
  (.seq (.reg [⟨(some 4), none, .mov (.k (.d (.int .i64 0)))⟩,
    ⟨(some 5), none, .mov (.k (.d (.int .i64 0)))⟩])
  (.seq (.reg [⟨(some 11), none, .mov (.t 0)⟩,
    ⟨(some 12), none, .call 33 [(.t 11)]⟩,
    ⟨(some 10), none, .mov (.t 12)⟩,
    ⟨(some 13), none, .ext 0 (.t 10)⟩,
    ⟨(some 14), none, .ext 1 (.t 10)⟩,
    ⟨(some 6), none, .alloc 55 [.d (.int .i64 0), .d (.int .i64 0), .d (.int .i64 0)]⟩,
    ⟨none, none, .store 3 (.t 6) (.t 13)⟩,
    ⟨(some 7), none, .mov (.t 14)⟩])
  (.seq (.reg [⟨(some 8), none, .mov (.k (.d (.int .i64 9600)))⟩])
  (.seq (.seq (.reg [⟨(some 15), none, .mov (.t 7)⟩,
    ⟨(some 16), none, .bin .neq (.t 15) (.k (.d (.int .i64 0)))⟩,
    ⟨(some 17), none, .mov (.t 16)⟩,
    ⟨(some 18), (some (17, false)), .mov (.t 1)⟩,
    ⟨(some 19), (some (17, false)), .mov (.t 8)⟩,
    ⟨(some 20), (some (17, false)), .bin .gtr (.t 18) (.t 19)⟩,
    ⟨(some 21), none, .pick (.t 17) (.k (.d (.bool true))) (.t 20)⟩,
    ⟨(some 22), none, .mov (.t 21)⟩,
    ⟨(some 23), (some (22, false)), .mov (.t 1)⟩,
    ⟨(some 24), (some (22, false)), .mov (.t 8)⟩,
    ⟨(some 25), (some (22, false)), .inv .neg (.t 24)⟩,
    ⟨(some 26), (some (22, false)), .bin .lss (.t 23) (.t 25)⟩,
    ⟨(some 27), none, .pick (.t 22) (.k (.d (.bool true))) (.t 26)⟩])
  (.cond (.t 27) (.seq (.reg [⟨(some 4), none, .mov (.k (.d (.int .i64 0)))⟩,
      ⟨(some 5), none, .mov (.k (.d (.int .i64 3)))⟩])
    .ret)
  .skip))
  (.seq (.reg [⟨(some 28), none, .fadr 0 (.t 6)⟩,
    ⟨(some 29), none, .load 1 false (.t 28)⟩,
    ⟨(some 30), none, .bin .sub (.t 29) (.k (.d (.int .i64 1601)))⟩,
    ⟨(some 31), none, .bin .mul (.t 30) (.k (.d (.int .i64 12)))⟩,
    ⟨(some 32), none, .fadr 1 (.t 6)⟩,
    ⟨(some 33), none, .load 1 false (.t 32)⟩,
    ⟨(some 34), none, .bin .add (.t 31) (.t 33)⟩,
    ⟨(some 35), none, .bin .sub (.t 34) (.k (.d (.int .i64 1)))⟩,
    ⟨(some 36), none, .mov (.t 1)⟩,
    ⟨(some 37), none, .bin .add (.t 35) (.t 36)⟩,
    ⟨(some 9), none, .mov (.t 37)⟩])
  (.seq (.seq (.reg [⟨(some 38), none, .mov (.t 9)⟩,
    ⟨(some 39), none, .bin .lss (.t 38) (.k (.d (.int .i64 0)))⟩,
    ⟨(some 40), none, .mov (.t 39)⟩,
    ⟨(some 41), (some (40, false)), .mov (.t 9)⟩,
    ⟨(some 42), (some (40, false)), .mov (.t 8)⟩,
    ⟨(some 43), (some (40, false)), .bin .geq (.t 41) (.t 42)⟩,
    ⟨(some 44), none, .pick (.t 40) (.k (.d (.bool true))) (.t 43)⟩])
  (.cond (.t 44) (.seq (.reg [⟨(some 4), none, .mov (.k (.d (.int .i64 0)))⟩,
      ⟨(some 5), none, .mov (.k (.d (.int .i64 3)))⟩])
    .ret)
  .skip))
  (.seq (.reg [⟨(some 45), none, .mov (.t 9)⟩,
    ⟨(some 46), none, .bin .quo (.t 45) (.k (.d (.int .i64 12)))⟩,
    ⟨(some 47), none, .bin .add (.k (.d (.int .i64 1601))) (.t 46)⟩,
    ⟨(some 48), none, .mov (.t 9)⟩,
    ⟨(some 49), none, .bin .rem (.t 48) (.k (.d (.int .i64 12)))⟩,
    ⟨(some 50), none, .bin .add (.t 49) (.k (.d (.int .i64 1)))⟩,
    ⟨(some 51), none, .fadr 0 (.t 6)⟩,
    ⟨none, none, .store 1 (.t 51) (.t 47)⟩,
    ⟨(some 52), none, .fadr 1 (.t 6)⟩,
    ⟨none, none, .store 1 (.t 52) (.t 50)⟩])
  (.seq (.drw [0, 1, 0, 4, 12, 0, 32, 96, 252, 511, 1023, 2047]
   [⟨(some 53), none, .fadr 2 (.t 6)⟩,
    ⟨(some 54), none, .load 1 false (.t 53)⟩,
    ⟨(some 55), none, .fadr 0 (.t 6)⟩,
    ⟨(some 56), none, .load 1 false (.t 55)⟩,
    ⟨(some 57), none, .call 34 [(.t 56)]⟩,
    ⟨(some 58), none, .fadr 1 (.t 6)⟩,
    ⟨(some 59), none, .load 1 false (.t 58)⟩,
    ⟨(some 60), none, .bin .sub (.t 59) (.k (.d (.int .i64 1)))⟩,
    ⟨(some 61), none, .idx 1 12 false (.t 57) (.t 60)⟩,
    ⟨(some 62), none, .mm false (.t 54) (.t 61)⟩,
    ⟨(some 63), none, .fadr 2 (.t 6)⟩,
    ⟨none, none, .store 1 (.t 63) (.t 62)⟩])
  (.seq (.reg [⟨(some 64), none, .load 3 true (.t 6)⟩,
    ⟨(some 65), none, .call 35 [(.t 64)]⟩,
    ⟨(some 66), none, .ext 0 (.t 65)⟩,
    ⟨(some 67), none, .ext 1 (.t 65)⟩,
    ⟨(some 4), none, .mov (.t 66)⟩,
    ⟨(some 5), none, .mov (.t 67)⟩])
  .ret)))))))))
def rs22 : List RV := [.tmp 4, .tmp 5]
theorem ok22 : okF Try.prog 22 = true := by kernel_rfl
theorem cc22 : cCode Try.prog Try.f22.ntmps (Try.f22.body.getD .skip) = some c22 := by kernel_rfl
theorem cr22 : cRess Try.prog Try.f22.results.toList = some rs22 := by kernel_rfl
theorem pure22 {args : List V} {res : V} (hlen : args.length ≤ 68) (hna : namesL args = []) (hnr : res.names = []) (h : ∀ c : Ctx, c.P = Try.prog → c.fn = [] → vcC c c22 ⟨initE 0 args, [], []⟩ (RetK c rs22 res [])) : Ctr Try.prog 22 args [] res [] [] :=
  ctr_pure Try.func22 ok22 rfl cc22 cr22 Try.ntmps22 hlen hna hnr h
theorem own22 {args : List V} {ins outs : List (Nat × Own)} {res : V} {new : List Nat} (hlen : args.length ≤ 68) (hf : ctrB args ins res outs new = true) (h : ∀ c : Ctx, c.P = Try.prog → c.fn = namesL args ++ ownNames ins → vcC c c22 ⟨initE 0 args, ins, namesL args ++ ownNames ins⟩ (RetK c rs22 res outs)) : Ctr Try.prog 22 args ins res outs new :=
  ctr_own Try.func22 ok22 rfl cc22 cr22 Try.ntmps22 hlen hf h

/-- bordereau/bill.Turned -/
def c23 : C :=
  (.seq (.reg [⟨(some 6), none, .mov (.k (.d (.sl true 0 0 fun _ => [])))⟩,
    ⟨(some 7), none, .mov (.k (.d (.int .i64 0)))⟩])
  (.seq (.seq (.reg [⟨(some 15), none, .mov (.t 0)⟩,
    ⟨(some 16), none, .call 17 [(.t 15)]⟩,
    ⟨(some 17), none, .inv .not (.t 16)⟩,
    ⟨(some 18), none, .mov (.t 17)⟩,
    ⟨(some 19), (some (18, false)), .mov (.t 1)⟩,
    ⟨(some 20), (some (18, false)), .bin .lss (.t 19) (.k (.d (.int .i64 0)))⟩,
    ⟨(some 21), none, .pick (.t 18) (.k (.d (.bool true))) (.t 20)⟩,
    ⟨(some 22), none, .mov (.t 21)⟩,
    ⟨(some 23), (some (22, false)), .mov (.t 1)⟩,
    ⟨(some 24), (some (22, false)), .bin .gtr (.t 23) (.k (.d (.int .i64 4000000000000000000)))⟩,
    ⟨(some 25), none, .pick (.t 22) (.k (.d (.bool true))) (.t 24)⟩])
  (.cond (.t 25) (.seq (.reg [⟨(some 6), none, .mov (.k (.d (.sl true 0 0 fun _ => [])))⟩,
      ⟨(some 7), none, .mov (.k (.d (.int .i64 1)))⟩])
    .ret)
  .skip))
  (.seq (.reg [⟨(some 26), none, .mov (.t 0)⟩,
    ⟨(some 27), none, .call 31 [(.t 26)]⟩,
    ⟨(some 8), none, .mov (.t 27)⟩])
  (.seq (.reg [⟨(some 9), none, .mov (.k (.d (.int .i64 0)))⟩])
  (.seq (.block 0 (.loop (.seq (.seq (.reg [⟨(some 28), none, .mov (.t 9)⟩,
        ⟨(some 29), none, .mov (.t 8)⟩,
        ⟨(some 30), none, .len (.t 29)⟩,
        ⟨(some 31), none, .bin .lss (.t 28) (.t 30)⟩,
        ⟨(some 32), none, .mov (.t 31)⟩,
        ⟨(some 33), (some (32, true)), .mov (.t 8)⟩,
        ⟨(some 34), (some (32, true)), .mov (.t 9)⟩,
        ⟨(some 35), (some (32, true)), .iadr 3 (.t 33) (.t 34)⟩,
        ⟨(some 36), (some (32, true)), .fadr 0 (.t 35)⟩,
        ⟨(some 37), (some (32, true)), .load 1 false (.t 36)⟩,
        ⟨(some 38), (some (32, true)), .mov (.t 2)⟩,
        ⟨(some 39), (some (32, true)), .bin .leq (.t 37) (.t 38)⟩,
        ⟨(some 40), none, .pick (.t 32) (.t 39) (.k (.d (.bool false)))⟩])
      (.cond (.t 40) .skip
      (.exit 0)))
      (.seq (.block 2 (.reg [⟨(some 43), none, .mov (.t 1)⟩,
          ⟨(some 44), none, .mov (.t 8)⟩,
          ⟨(some 45), none, .mov (.t 9)⟩,
          ⟨(some 46), none, .iadr 3 (.t 44) (.t 45)⟩,
          ⟨(some 47), none, .fadr 1 (.t 46)⟩,
          ⟨(some 48), none, .load 1 false (.t 47)⟩,
          ⟨(some 49), none, .bin .sub (.t 43) (.t 48)⟩,
          ⟨(some 1), none, .mov (.t 49)⟩]))
      (.reg [⟨(some 41), none, .mov (.t 9)⟩,
        ⟨(some 42), none, .bin .add (.t 41) (.k (.d (.int .i64 1)))⟩,
        ⟨(some 9), none, .mov (.t 42)⟩])))))
  (.seq (.reg [⟨(some 50), none, .mov (.t 8)⟩,
    ⟨(some 51), none, .mov (.t 9)⟩,
    ⟨(some 52), none, .slc 3 (.t 50) (some (.t 51)) none none⟩,
    ⟨(some 10), none, .mov (.t 52)⟩])
  (.seq (.seq (.reg [⟨(some 53), none, .mov (.t 10)⟩,
    ⟨(some 54), none, .len (.t 53)⟩,
    ⟨(some 55), none, .bin .eql (.t 54) (.k (.d (.int .i64 0)))⟩])
  (.cond (.t 55) (.seq (.seq (.reg [⟨(some 56), none, .mov (.t 1)⟩,
      ⟨(some 57), none, .bin .neq (.t 56) (.k (.d (.int .i64 0)))⟩])
    (.cond (.t 57) (.seq (.reg [⟨(some 6), none, .mov (.k (.d (.sl true 0 0 fun _ => [])))⟩,
        ⟨(some 7), none, .mov (.k (.d (.int .i64 10)))⟩])
      .ret)
    .skip))
    (.seq (.reg [⟨(some 58), none, .mov (.t 8)⟩,
      ⟨(some 6), none, .mov (.t 58)⟩,
      ⟨(some 7), none, .mov (.k (.d (.int .i64 0)))⟩])
    .ret))
  .skip))
  (.seq (.seq (.reg [⟨(some 59), none, .mov (.t 10)⟩,
    ⟨(some 60), none, .len (.t 59)⟩,
    ⟨(some 61), none, .mov (.k (.d (.int .i64 0)))⟩])
  (.block 4 (.loop (.seq (.reg [⟨(some 62), none, .bin .lss (.t 61) (.t 60)⟩])
      (.seq (.cond (.t 62) .skip
      (.exit 4))
      (.seq (.block 6 (.seq (.reg [⟨(some 63), none, .iadr 3 (.t 59) (.t 61)⟩,
          ⟨(some 64), none, .load 3 true (.t 63)⟩,
          ⟨(some 12), none, .alloc 41 [.d (.int .i64 0), .d (.int .i64 0), .d (.int .i64 0)]⟩,
          ⟨none, none, .store 3 (.t 12) (.t 64)⟩])
        (.reg [⟨(some 65), none, .mov (.t 1)⟩,
          ⟨(some 66), none, .fadr 2 (.t 12)⟩,
          ⟨(some 67), none, .load 1 false (.t 66)⟩,
          ⟨(some 68), none, .bin .sub (.t 65) (.t 67)⟩,
          ⟨(some 1), none, .mov (.t 68)⟩])))
      (.reg [⟨(some 69), none, .bin .add (.t 61) (.k (.d (.int .i64 1)))⟩,
        ⟨(some 61), none, .mov (.t 69)⟩])))))))
  (.seq (.seq (.reg [⟨(some 70), none, .mov (.t 1)⟩,
    ⟨(some 71), none, .bin .lss (.t 70) (.k (.d (.int .i64 0)))⟩])
  (.cond (.t 71) (.seq (.reg [⟨(some 6), none, .mov (.k (.d (.sl true 0 0 fun _ => [])))⟩,
      ⟨(some 7), none, .mov (.k (.d (.int .i64 2)))⟩])
    .ret)
  .skip))
  (.seq (.seq (.reg [⟨(some 72), none, .mov (.t 1)⟩,
    ⟨(some 73), none, .mov (.t 10)⟩,
    ⟨(some 74), none, .len (.t 73)⟩,
    ⟨(some 75), none, .call 27 [(.t 72), (.t 74)]⟩,
    ⟨(some 76), none, .len (.t 75)⟩,
    ⟨(some 77), none, .mov (.k (.d (.int .i64 0)))⟩])
  (.block 8 (.loop (.seq (.reg [⟨(some 78), none, .bin .lss (.t 77) (.t 76)⟩])
      (.seq (.cond (.t 78) .skip
      (.exit 8))
      (.seq (.block 10 (.seq (.reg [⟨(some 79), none, .mov (.t 77)⟩,
          ⟨(some 80), none, .iadr 1 (.t 75) (.t 77)⟩,
          ⟨(some 81), none, .load 1 false (.t 80)⟩,
          ⟨(some 13), none, .mov (.t 79)⟩,
          ⟨(some 14), none, .mov (.t 81)⟩])
        (.reg [⟨(some 82), none, .mov (.t 10)⟩,
          ⟨(some 83), none, .mov (.t 13)⟩,
          ⟨(some 84), none, .mov (.t 10)⟩,
          ⟨(some 85), none, .mov (.t 13)⟩,
          ⟨(some 86), none, .iadr 3 (.t 84) (.t 85)⟩,
          ⟨(some 87), none, .fadr 2 (.t 86)⟩,
          ⟨(some 88), none, .load 1 false (.t 87)⟩,
          ⟨(some 89), none, .mov (.t 14)⟩,
          ⟨(some 90), none, .bin .add (.t 88) (.t 89)⟩,
          ⟨(some 91), none, .iadr 3 (.t 82) (.t 83)⟩,
          ⟨(some 92), none, .fadr 1 (.t 91)⟩,
          ⟨none, none, .store 1 (.t 92) (.t 90)⟩])))
      (.reg [⟨(some 93), none, .bin .add (.t 77) (.k (.d (.int .i64 1)))⟩,
        ⟨(some 77), none, .mov (.t 93)⟩])))))))
  (.seq (.reg [⟨(some 94), none, .mov (.t 8)⟩,
    ⟨(some 6), none, .mov (.t 94)⟩,
    ⟨(some 7), none, .mov (.k (.d (.int .i64 0)))⟩])
  .ret)))))))))))
def rs23 : List RV := [.tmp 6, .tmp 7]
theorem ok23 : okF Try.prog 23 = true := by kernel_rfl
theorem cc23 : cCode Try.prog Try.f23.ntmps (Try.f23.body.getD .skip) = some c23 := by kernel_rfl
theorem cr23 : cRess Try.prog Try.f23.results.toList = some rs23 := by kernel_rfl
theorem pure23 {args : List V} {res : V} (hlen : args.length ≤ 95) (hna : namesL args = []) (hnr : res.names = []) (h : ∀ c : Ctx, c.P = Try.prog → c.fn = [] → vcC c c23 ⟨initE 0 args, [], []⟩ (RetK c rs23 res [])) : Ctr Try.prog 23 args [] res [] [] :=
  ctr_pure Try.func23 ok23 rfl cc23 cr23 Try.ntmps23 hlen hna hnr h
theorem own23 {args : List V} {ins outs : List (Nat × Own)} {res : V} {new : List Nat} (hlen : args.length ≤ 95) (hf : ctrB args ins res outs new = true) (h : ∀ c : Ctx, c.P = Try.prog → c.fn = namesL args ++ ownNames ins → vcC c c23 ⟨initE 0 args, ins, namesL args ++ ownNames ins⟩ (RetK c rs23 res outs)) : Ctr Try.prog 23 args ins res outs new :=
  ctr_own Try.func23 ok23 rfl cc23 cr23 Try.ntmps23 hlen hf h

/-- bordereau/bordereauref16.Turned -/
def c24 : C :=
  (.seq (.reg [⟨(some 6), none, .mov (.k (.d (.sl true 0 0 fun _ => [])))⟩,
    ⟨(some 7), none, .mov (.k (.d (.int .i64 0)))⟩])
  (.seq (.reg [⟨(some 17), none, .mov (.t 0)⟩,
    ⟨(some 18), none, .call 18 [(.t 17)]⟩,
    ⟨(some 8), none, .mov (.t 18)⟩])
  (.seq (.seq (.reg [⟨(some 19), none, .mov (.t 8)⟩,
    ⟨(some 20), none, .inv .not (.t 19)⟩,
    ⟨(some 21), none, .mov (.t 20)⟩,
    ⟨(some 22), (some (21, false)), .mov (.t 1)⟩,
    ⟨(some 23), (some (21, false)), .bin .lss (.t 22) (.k (.d (.int .i64 0)))⟩,
    ⟨(some 24), none, .pick (.t 21) (.k (.d (.bool true))) (.t 23)⟩,
    ⟨(some 25), none, .mov (.t 24)⟩,
    ⟨(some 26), (some (25, false)), .mov (.t 1)⟩,
    ⟨(some 27), (some (25, false)), .bin .gtr (.t 26) (.k (.d (.int .i64 4000000000000000000)))⟩,
    ⟨(some 28), none, .pick (.t 25) (.k (.d (.bool true))) (.t 27)⟩])
  (.cond (.t 28) (.seq (.reg [⟨(some 6), none, .mov (.k (.d (.sl true 0 0 fun _ => [])))⟩,
      ⟨(some 7), none, .mov (.k (.d (.int .i64 1)))⟩])
    .ret)
  .skip))
  (.seq (.reg [⟨(some 9), none, .mov (.k (.d (.int .i64 0)))⟩])
  (.seq (.reg [⟨(some 29), none, .mov (.t 1)⟩,
    ⟨(some 10), none, .mov (.t 29)⟩])
  (.seq (.reg [⟨(some 11), none, .mov (.k (.d (.int .i64 0)))⟩])
  (.seq (.seq (.reg [⟨(some 12), none, .mov (.k (.d (.int .i64 0)))⟩])
  (.block 0 (.loop (.seq (.seq (.reg [⟨(some 30), none, .mov (.t 12)⟩,
        ⟨(some 31), none, .mov (.t 0)⟩,
        ⟨(some 32), none, .len (.t 31)⟩,
        ⟨(some 33), none, .bin .lss (.t 30) (.t 32)⟩])
      (.cond (.t 33) .skip
      (.exit 0)))
      (.seq (.block 2 (.seq (.reg [⟨(some 36), none, .mov (.t 0)⟩,
          ⟨(some 37), none, .mov (.t 12)⟩,
          ⟨(some 38), none, .iadr 3 (.t 36) (.t 37)⟩,
          ⟨(some 39), none, .fadr 0 (.t 38)⟩,
          ⟨(some 40), none, .load 1 false (.t 39)⟩,
          ⟨(some 41), none, .mov (.t 2)⟩,
          ⟨(some 42), none, .bin .leq (.t 40) (.t 41)⟩])
        (.cond (.t 42) (.reg [⟨(some 43), none, .mov (.t 10)⟩,
            ⟨(some 44), none, .mov (.t 0)⟩,
            ⟨(some 45), none, .mov (.t 12)⟩,
            ⟨(some 46), none, .iadr 3 (.t 44) (.t 45)⟩,
            ⟨(some 47), none, .fadr 1 (.t 46)⟩,
            ⟨(some 48), none, .load 1 false (.t 47)⟩,
            ⟨(some 49), none, .bin .sub (.t 43) (.t 48)⟩,
            ⟨(some 10), none, .mov (.t 49)⟩])
        (.seq (.reg [⟨(some 50), none, .mov (.t 9)⟩,
            ⟨(some 51), none, .bin .add (.t 50) (.k (.d (.int .i64 1)))⟩,
            ⟨(some 9), none, .mov (.t 51)⟩])
          (.reg [⟨(some 52), none, .mov (.t 11)⟩,
            ⟨(some 53), none, .mov (.t 0)⟩,
            ⟨(some 54), none, .mov (.t 12)⟩,
            ⟨(some 55), none, .iadr 3 (.t 53) (.t 54)⟩,
            ⟨(some 56), none, .fadr 2 (.t 55)⟩,
            ⟨(some 57), none, .load 1 false (.t 56)⟩,
            ⟨(some 58), none, .bin .add (.t 52) (.t 57)⟩,
            ⟨(some 11), none, .mov (.t 58)⟩])))))
      (.reg [⟨(some 34), none, .mov (.t 12)⟩,
        ⟨(some 35), none, .bin .add (.t 34) (.k (.d (.int .i64 1)))⟩,
        ⟨(some 12), none, .mov (.t 35)⟩]))))))
  (.seq (.seq (.reg [⟨(some 59), none, .mov (.t 9)⟩,
    ⟨(some 60), none, .bin .eql (.t 59) (.k (.d (.int .i64 0)))⟩,
    ⟨(some 61), none, .mov (.t 60)⟩,
    ⟨(some 62), (some (61, true)), .mov (.t 10)⟩,
    ⟨(some 63), (some (61, true)), .bin .neq (.t 62) (.k (.d (.int .i64 0)))⟩,
    ⟨(some 64), none, .pick (.t 61) (.t 63) (.k (.d (.bool false)))⟩])
  (.cond (.t 64) (.seq (.reg [⟨(some 6), none, .mov (.k (.d (.sl true 0 0 fun _ => [])))⟩,
      ⟨(some 7), none, .mov (.k (.d (.int .i64 10)))⟩])
    .ret)
  .skip))
  (.seq (.seq (.reg [⟨(some 65), none, .mov (.t 9)⟩,
    ⟨(some 66), none, .bin .gtr (.t 65) (.k (.d (.int .i64 0)))⟩,
    ⟨(some 67), none, .mov (.t 66)⟩,
    ⟨(some 68), (some (67, true)), .mov (.t 10)⟩,
    ⟨(some 69), (some (67, true)), .mov (.t 11)⟩,
    ⟨(some 70), (some (67, true)), .bin .lss (.t 68) (.t 69)⟩,
    ⟨(some 71), none, .pick (.t 67) (.t 70) (.k (.d (.bool false)))⟩])
  (.cond (.t 71) (.seq (.reg [⟨(some 6), none, .mov (.k (.d (.sl true 0 0 fun _ => [])))⟩,
      ⟨(some 7), none, .mov (.k (.d (.int .i64 2)))⟩])
    .ret)
  .skip))
  (.seq (.reg [⟨(some 13), none, .mov (.k (.d (.sl true 0 0 fun _ => [])))⟩])
  (.seq (.reg [⟨(some 14), none, .mov (.k (.d (.int .i64 0)))⟩])
  (.seq (.seq (.reg [⟨(some 15), none, .mov (.k (.d (.int .i64 0)))⟩])
  (.block 4 (.loop (.seq (.seq (.reg [⟨(some 72), none, .mov (.t 15)⟩,
        ⟨(some 73), none, .mov (.t 0)⟩,
        ⟨(some 74), none, .len (.t 73)⟩,
        ⟨(some 75), none, .bin .lss (.t 72) (.t 74)⟩])
      (.cond (.t 75) .skip
      (.exit 4)))
      (.seq (.block 6 (.seq (.reg [⟨(some 78), none, .mov (.t 0)⟩,
          ⟨(some 79), none, .mov (.t 15)⟩,
          ⟨(some 80), none, .iadr 3 (.t 78) (.t 79)⟩,
          ⟨(some 81), none, .load 3 true (.t 80)⟩,
          ⟨(some 16), none, .alloc 41 [.d (.int .i64 0), .d (.int .i64 0), .d (.int .i64 0)]⟩,
          ⟨none, none, .store 3 (.t 16) (.t 81)⟩])
        (.seq (.seq (.reg [⟨(some 82), none, .fadr 0 (.t 16)⟩,
          ⟨(some 83), none, .load 1 false (.t 82)⟩,
          ⟨(some 84), none, .mov (.t 2)⟩,
          ⟨(some 85), none, .bin .gtr (.t 83) (.t 84)⟩])
        (.cond (.t 85) (.seq (.drw [0, 1, 0, 0, 12, 0, 0, 124, 255, 511, 1023]
           [⟨(some 86), none, .fadr 2 (.t 16)⟩,
            ⟨(some 87), none, .load 1 false (.t 86)⟩,
            ⟨(some 88), none, .mov (.t 10)⟩,
            ⟨(some 89), none, .mov (.t 11)⟩,
            ⟨(some 90), none, .bin .sub (.t 88) (.t 89)⟩,
            ⟨(some 91), none, .mov (.t 9)⟩,
            ⟨(some 92), none, .mov (.t 14)⟩,
            ⟨(some 93), none, .call 30 [(.t 90), (.t 91), (.t 92)]⟩,
            ⟨(some 94), none, .bin .add (.t 87) (.t 93)⟩,
            ⟨(some 95), none, .fadr 1 (.t 16)⟩,
            ⟨none, none, .store 1 (.t 95) (.t 94)⟩])
          (.reg [⟨(some 96), none, .mov (.t 14)⟩,
            ⟨(some 97), none, .bin .add (.t 96) (.k (.d (.int .i64 1)))⟩,
            ⟨(some 14), none, .mov (.t 97)⟩]))
        .skip))
        (.reg [⟨(some 98), none, .mov (.t 13)⟩,
          ⟨(some 99), none, .load 3 true (.t 16)⟩,
          ⟨(some 100), none, .bslice 41 3 1 [(.t 99)]⟩,
          ⟨(some 101), none, .app 41 3 24 (.t 98) (.t 100)⟩,
          ⟨(some 13), none, .mov (.t 101)⟩]))))
      (.reg [⟨(some 76), none, .mov (.t 15)⟩,
        ⟨(some 77), none, .bin .add (.t 76) (.k (.d (.int .i64 1)))⟩,
        ⟨(some 15), none, .mov (.t 77)⟩]))))))
  (.seq (.reg [⟨(some 102), none, .mov (.t 13)⟩,
    ⟨(some 6), none, .mov (.t 102)⟩,
    ⟨(some 7), none, .mov (.k (.d (.int .i64 0)))⟩])
  .ret)))))))))))))
def rs24 : List RV := [.tmp 6, .tmp 7]
theorem ok24 : okF Try.prog 24 = true := by kernel_rfl
theorem cc24 : cCode Try.prog Try.f24.ntmps (Try.f24.body.getD .skip) = some c24 := by kernel_rfl
theorem cr24 : cRess Try.prog Try.f24.results.toList = some rs24 := by kernel_rfl
theorem pure24 {args : List V} {res : V} (hlen : args.length ≤ 103) (hna : namesL args = []) (hnr : res.names = []) (h : ∀ c : Ctx, c.P = Try.prog → c.fn = [] → vcC c c24 ⟨initE 0 args, [], []⟩ (RetK c rs24 res [])) : Ctr Try.prog 24 args [] res [] [] :=
  ctr_pure Try.func24 ok24 rfl cc24 cr24 Try.ntmps24 hlen hna hnr h
theorem own24 {args : List V} {ins outs : List (Nat × Own)} {res : V} {new : List Nat} (hlen : args.length ≤ 103) (hf : ctrB args ins res outs new = true) (h : ∀ c : Ctx, c.P = Try.prog → c.fn = namesL args ++ ownNames ins → vcC c c24 ⟨initE 0 args, ins, namesL args ++ ownNames ins⟩ (RetK c rs24 res outs)) : Ctr Try.prog 24 args ins res outs new :=
  ctr_own Try.func24 ok24 rfl cc24 cr24 Try.ntmps24 hlen hf h

/-- slices.Contains[[]int,int] -/
def c25 : C :=
  (.seq (.reg [⟨(some 4), none, .mov (.k (.d (.bool false)))⟩])
  (.seq (.reg [⟨(some 5), none, .mov (.t 0)⟩,
    ⟨(some 6), none, .mov (.t 1)⟩,
    ⟨(some 7), none, .call 36 [(.t 5), (.t 6)]⟩,
    ⟨(some 8), none, .bin .geq (.t 7) (.k (.d (.int .i64 0)))⟩,
    ⟨(some 4), none, .mov (.t 8)⟩])
  .ret))
def rs25 : List RV := [.tmp 4]
theorem ok25 : okF Try.prog 25 = true := by kernel_rfl
theorem cc25 : cCode Try.prog Try.f25.ntmps (Try.f25.body.getD .skip) = some c25 := by kernel_rfl
theorem cr25 : cRess Try.prog Try.f25.results.toList = some rs25 := by kernel_rfl
theorem pure25 {args : List V} {res : V} (hlen : args.length ≤ 9) (hna : namesL args = []) (hnr : res.names = []) (h : ∀ c : Ctx, c.P = Try.prog → c.fn = [] → vcC c c25 ⟨initE 0 args, [], []⟩ (RetK c rs25 res [])) : Ctr Try.prog 25 args [] res [] [] :=
  ctr_pure Try.func25 ok25 rfl cc25 cr25 Try.ntmps25 hlen hna hnr h
theorem own25 {args : List V} {ins outs : List (Nat × Own)} {res : V} {new : List Nat} (hlen : args.length ≤ 9) (hf : ctrB args ins res outs new = true) (h : ∀ c : Ctx, c.P = Try.prog → c.fn = namesL args ++ ownNames ins → vcC c c25 ⟨initE 0 args, ins, namesL args ++ ownNames ins⟩ (RetK c rs25 res outs)) : Ctr Try.prog 25 args ins res outs new :=
  ctr_own Try.func25 ok25 rfl cc25 cr25 Try.ntmps25 hlen hf h

/-- bordereau/span.Many -/
def c26 : C :=
  (.seq (.reg [⟨(some 1), none, .box 23 (.t 0)⟩,
    ⟨(some 2), none, .mov (.k (.d (.int .i64 0)))⟩])
  (.seq (.reg [⟨(some 3), none, .load 2 true (.t 1)⟩,
    ⟨(some 4), none, .call 37 [(.t 3)]⟩,
    ⟨none, none, .store 2 (.t 1) (.t 4)⟩])
  (.seq (.reg [⟨(some 5), none, .fadr 1 (.t 1)⟩,
    ⟨(some 6), none, .load 1 false (.t 5)⟩,
    ⟨(some 7), none, .fadr 0 (.t 1)⟩,
    ⟨(some 8), none, .load 1 false (.t 7)⟩,
    ⟨(some 9), none, .bin .sub (.t 6) (.t 8)⟩,
    ⟨(some 2), none, .mov (.t 9)⟩])
  .ret)))
def rs26 : List RV := [.tmp 2]
theorem ok26 : okF Try.prog 26 = true := by kernel_rfl
theorem cc26 : cCode Try.prog Try.f26.ntmps (Try.f26.body.getD .skip) = some c26 := by kernel_rfl
theorem cr26 : cRess Try.prog Try.f26.results.toList = some rs26 := by kernel_rfl
theorem pure26 {args : List V} {res : V} (hlen : args.length ≤ 10) (hna : namesL args = []) (hnr : res.names = []) (h : ∀ c : Ctx, c.P = Try.prog → c.fn = [] → vcC c c26 ⟨initE 0 args, [], []⟩ (RetK c rs26 res [])) : Ctr Try.prog 26 args [] res [] [] :=
  ctr_pure Try.func26 ok26 rfl cc26 cr26 Try.ntmps26 hlen hna hnr h
theorem own26 {args : List V} {ins outs : List (Nat × Own)} {res : V} {new : List Nat} (hlen : args.length ≤ 10) (hf : ctrB args ins res outs new = true) (h : ∀ c : Ctx, c.P = Try.prog → c.fn = namesL args ++ ownNames ins → vcC c c26 ⟨initE 0 args, ins, namesL args ++ ownNames ins⟩ (RetK c rs26 res outs)) : Ctr Try.prog 26 args ins res outs new :=
  ctr_own Try.func26 ok26 rfl cc26 cr26 Try.ntmps26 hlen hf h

/-- bordereau/bill.equal -/
def c27 : C :=
  (.seq (.reg [⟨(some 4), none, .mov (.k (.d (.sl true 0 0 fun _ => [])))⟩])
  (.seq (.reg [⟨(some 8), none, .mov (.t 0)⟩,
    ⟨(some 9), none, .bslice 3 1 1 [(.k (.d (.int .i64 1)))]⟩,
    ⟨(some 10), none, .mov (.t 1)⟩,
    ⟨(some 11), none, .call 39 [(.t 9), (.t 10)]⟩,
    ⟨(some 12), none, .call 38 [(.t 8), (.t 11)]⟩,
    ⟨(some 7), none, .mov (.t 12)⟩,
    ⟨(some 13), none, .ext 0 (.t 7)⟩,
    ⟨(some 14), none, .ext 1 (.t 7)⟩,
    ⟨(some 5), none, .mov (.t 13)⟩,
    ⟨(some 6), none, .mov (.t 14)⟩])
  (.seq (.reg [⟨(some 15), none, .mov (.t 5)⟩,
    ⟨(some 4), none, .mov (.t 15)⟩])
  .ret)))
def rs27 : List RV := [.tmp 4]
theorem ok27 : okF Try.prog 27 = true := by kernel_rfl
theorem cc27 : cCode Try.prog Try.f27.ntmps (Try.f27.body.getD .skip) = some c27 := by kernel_rfl
theorem cr27 : cRess Try.prog Try.f27.results.toList = some rs27 := by kernel_rfl
theorem pure27 {args : List V} {res : V} (hlen : args.length ≤ 16) (hna : namesL args = []) (hnr : res.names = []) (h : ∀ c : Ctx, c.P = Try.prog → c.fn = [] → vcC c c27 ⟨initE 0 args, [], []⟩ (RetK c rs27 res [])) : Ctr Try.prog 27 args [] res [] [] :=
  ctr_pure Try.func27 ok27 rfl cc27 cr27 Try.ntmps27 hlen hna hnr h
theorem own27 {args : List V} {ins outs : List (Nat × Own)} {res : V} {new : List Nat} (hlen : args.length ≤ 16) (hf : ctrB args ins res outs new = true) (h : ∀ c : Ctx, c.P = Try.prog → c.fn = namesL args ++ ownNames ins → vcC c c27 ⟨initE 0 args, ins, namesL args ++ ownNames ins⟩ (RetK c rs27 res outs)) : Ctr Try.prog 27 args ins res outs new :=
  ctr_own Try.func27 ok27 rfl cc27 cr27 Try.ntmps27 hlen hf h

/-- bordereau/bordereauref03.Many -/
def c28 : C :=
  (.seq (.reg [⟨(some 1), none, .box 23 (.t 0)⟩,
    ⟨(some 2), none, .mov (.k (.d (.int .i64 0)))⟩])
  (.seq (.seq (.reg [⟨(some 3), none, .load 2 true (.t 1)⟩,
    ⟨(some 4), none, .call 40 [(.t 3)]⟩,
    ⟨(some 5), none, .inv .not (.t 4)⟩])
  (.cond (.t 5) (.seq (.reg [⟨(some 2), none, .mov (.k (.d (.int .i64 0)))⟩])
    .ret)
  .skip))
  (.seq (.reg [⟨(some 6), none, .fadr 1 (.t 1)⟩,
    ⟨(some 7), none, .load 1 false (.t 6)⟩,
    ⟨(some 8), none, .fadr 0 (.t 1)⟩,
    ⟨(some 9), none, .load 1 false (.t 8)⟩,
    ⟨(some 10), none, .bin .sub (.t 7) (.t 9)⟩,
    ⟨(some 2), none, .mov (.t 10)⟩])
  .ret)))
def rs28 : List RV := [.tmp 2]
theorem ok28 : okF Try.prog 28 = true := by kernel_rfl
theorem cc28 : cCode Try.prog Try.f28.ntmps (Try.f28.body.getD .skip) = some c28 := by kernel_rfl
theorem cr28 : cRess Try.prog Try.f28.results.toList = some rs28 := by kernel_rfl
theorem pure28 {args : List V} {res : V} (hlen : args.length ≤ 11) (hna : namesL args = []) (hnr : res.names = []) (h : ∀ c : Ctx, c.P = Try.prog → c.fn = [] → vcC c c28 ⟨initE 0 args, [], []⟩ (RetK c rs28 res [])) : Ctr Try.prog 28 args [] res [] [] :=
  ctr_pure Try.func28 ok28 rfl cc28 cr28 Try.ntmps28 hlen hna hnr h
theorem own28 {args : List V} {ins outs : List (Nat × Own)} {res : V} {new : List Nat} (hlen : args.length ≤ 11) (hf : ctrB args ins res outs new = true) (h : ∀ c : Ctx, c.P = Try.prog → c.fn = namesL args ++ ownNames ins → vcC c c28 ⟨initE 0 args, ins, namesL args ++ ownNames ins⟩ (RetK c rs28 res outs)) : Ctr Try.prog 28 args ins res outs new :=
  ctr_own Try.func28 ok28 rfl cc28 cr28 Try.ntmps28 hlen hf h

/-- bordereau/bordereauref02.Shift -/
def c29 : C :=
  (.seq (.reg [⟨(some 4), none, .mov (.k (.d (.int .i64 0)))⟩,
    ⟨(some 5), none, .mov (.k (.d (.int .i64 0)))⟩])
  (.seq (.reg [⟨(some 11), none, .mov (.t 0)⟩,
    ⟨(some 12), none, .call 41 [(.t 11)]⟩,
    ⟨(some 10), none, .mov (.t 12)⟩,
    ⟨(some 13), none, .ext 0 (.t 10)⟩,
    ⟨(some 14), none, .ext 1 (.t 10)⟩,
    ⟨(some 6), none, .alloc 55 [.d (.int .i64 0), .d (.int .i64 0), .d (.int .i64 0)]⟩,
    ⟨none, none, .store 3 (.t 6) (.t 13)⟩,
    ⟨(some 7), none, .mov (.t 14)⟩])
  (.seq (.seq (.reg [⟨(some 15), none, .mov (.t 7)⟩,
    ⟨(some 16), none, .bin .neq (.t 15) (.k (.d (.int .i64 0)))⟩,
    ⟨(some 17), none, .mov (.t 16)⟩,
    ⟨(some 18), (some (17, false)), .mov (.t 1)⟩,
    ⟨(some 19), (some (17, false)), .bin .gtr (.t 18) (.k (.d (.int .i64 9600)))⟩,
    ⟨(some 20), none, .pick (.t 17) (.k (.d (.bool true))) (.t 19)⟩,
    ⟨(some 21), none, .mov (.t 20)⟩,
    ⟨(some 22), (some (21, false)), .mov (.t 1)⟩,
    ⟨(some 23), (some (21, false)), .bin .lss (.t 22) (.k (.d (.int .i64 (-9600))))⟩,
    ⟨(some 24), none, .pick (.t 21) (.k (.d (.bool true))) (.t 23)⟩])
  (.cond (.t 24) (.seq (.reg [⟨(some 4), none, .mov (.k (.d (.int .i64 0)))⟩,
      ⟨(some 5), none, .mov (.k (.d (.int .i64 3)))⟩])
    .ret)
  .skip))
  (.seq (.seq (.reg [⟨(some 8), none, .mov (.k (.d (.int .i64 0)))⟩])
  (.block 0 (.loop (.seq (.seq (.reg [⟨(some 25), none, .mov (.t 8)⟩,
        ⟨(some 26), none, .mov (.t 1)⟩,
        ⟨(some 27), none, .bin .lss (.t 25) (.t 26)⟩])
      (.cond (.t 27) .skip
      (.exit 0)))
      (.seq (.block 2 (.seq (.reg [⟨(some 30), none, .fadr 1 (.t 6)⟩,
          ⟨(some 31), none, .load 1 false (.t 30)⟩,
          ⟨(some 32), none, .bin .add (.t 31) (.k (.d (.int .i64 1)))⟩,
          ⟨(some 33), none, .fadr 1 (.t 6)⟩,
          ⟨none, none, .store 1 (.t 33) (.t 32)⟩])
        (.seq (.reg [⟨(some 34), none, .fadr 1 (.t 6)⟩,
          ⟨(some 35), none, .load 1 false (.t 34)⟩,
          ⟨(some 36), none, .bin .eql (.t 35) (.k (.d (.int .i64 13)))⟩])
        (.cond (.t 36) (.seq (.reg [⟨(some 37), none, .fadr 1 (.t 6)⟩,
            ⟨none, none, .store 1 (.t 37) (.k (.d (.int .i64 1)))⟩])
          (.reg [⟨(some 38), none, .fadr 0 (.t 6)⟩,
            ⟨(some 39), none, .load 1 false (.t 38)⟩,
            ⟨(some 40), none, .bin .add (.t 39) (.k (.d (.int .i64 1)))⟩,
            ⟨(some 41), none, .fadr 0 (.t 6)⟩,
            ⟨none, none, .store 1 (.t 41) (.t 40)⟩]))
        .skip))))
      (.reg [⟨(some 28), none, .mov (.t 8)⟩,
        ⟨(some 29), none, .bin .add (.t 28) (.k (.d (.int .i64 1)))⟩,
        ⟨(some 8), none, .mov (.t 29)⟩]))))))
  (.seq (.seq (.reg [⟨(some 9), none, .mov (.k (.d (.int .i64 0)))⟩])
  (.block 4 (.loop (.seq (.seq (.reg [⟨(some 42), none, .mov (.t 9)⟩,
        ⟨(some 43), none, .mov (.t 1)⟩,
        ⟨(some 44), none, .bin .gtr (.t 42) (.t 43)⟩])
      (.cond (.t 44) .skip
      (.exit 4)))
      (.seq (.block 6 (.seq (.reg [⟨(some 47), none, .fadr 1 (.t 6)⟩,
          ⟨(some 48), none, .load 1 false (.t 47)⟩,
          ⟨(some 49), none, .bin .sub (.t 48) (.k (.d (.int .i64 1)))⟩,
          ⟨(some 50), none, .fadr 1 (.t 6)⟩,
          ⟨none, none, .store 1 (.t 50) (.t 49)⟩])
        (.seq (.reg [⟨(some 51), none, .fadr 1 (.t 6)⟩,
          ⟨(some 52), none, .load 1 false (.t 51)⟩,
          ⟨(some 53), none, .bin .eql (.t 52) (.k (.d (.int .i64 0)))⟩])
        (.cond (.t 53) (.seq (.reg [⟨(some 54), none, .fadr 1 (.t 6)⟩,
            ⟨none, none, .store 1 (.t 54) (.k (.d (.int .i64 12)))⟩])
          (.reg [⟨(some 55), none, .fadr 0 (.t 6)⟩,
            ⟨(some 56), none, .load 1 false (.t 55)⟩,
            ⟨(some 57), none, .bin .sub (.t 56) (.k (.d (.int .i64 1)))⟩,
            ⟨(some 58), none, .fadr 0 (.t 6)⟩,
            ⟨none, none, .store 1 (.t 58) (.t 57)⟩]))
        .skip))))
      (.reg [⟨(some 45), none, .mov (.t 9)⟩,
        ⟨(some 46), none, .bin .sub (.t 45) (.k (.d (.int .i64 1)))⟩,
        ⟨(some 9), none, .mov (.t 46)⟩]))))))
  (.seq (.drw [0, 1, 0, 4, 0, 16, 60, 127, 255, 511]
   [⟨(some 59), none, .fadr 2 (.t 6)⟩,
    ⟨(some 60), none, .load 1 false (.t 59)⟩,
    ⟨(some 61), none, .fadr 0 (.t 6)⟩,
    ⟨(some 62), none, .load 1 false (.t 61)⟩,
    ⟨(some 63), none, .fadr 1 (.t 6)⟩,
    ⟨(some 64), none, .load 1 false (.t 63)⟩,
    ⟨(some 65), none, .call 42 [(.t 62), (.t 64)]⟩,
    ⟨(some 66), none, .mm false (.t 60) (.t 65)⟩,
    ⟨(some 67), none, .fadr 2 (.t 6)⟩,
    ⟨none, none, .store 1 (.t 67) (.t 66)⟩])
  (.seq (.reg [⟨(some 68), none, .load 3 true (.t 6)⟩,
    ⟨(some 69), none, .call 43 [(.t 68)]⟩,
    ⟨(some 70), none, .ext 0 (.t 69)⟩,
    ⟨(some 71), none, .ext 1 (.t 69)⟩,
    ⟨(some 4), none, .mov (.t 70)⟩,
    ⟨(some 5), none, .mov (.t 71)⟩])
  .ret)))))))
def rs29 : List RV := [.tmp 4, .tmp 5]
theorem ok29 : okF Try.prog 29 = true := by kernel_rfl
theorem cc29 : cCode Try.prog Try.f29.ntmps (Try.f29.body.getD .skip) = some c29 := by kernel_rfl
theorem cr29 : cRess Try.prog Try.f29.results.toList = some rs29 := by kernel_rfl
theorem pure29 {args : List V} {res : V} (hlen : args.length ≤ 72) (hna : namesL args = []) (hnr : res.names = []) (h : ∀ c : Ctx, c.P = Try.prog → c.fn = [] → vcC c c29 ⟨initE 0 args, [], []⟩ (RetK c rs29 res [])) : Ctr Try.prog 29 args [] res [] [] :=
  ctr_pure Try.func29 ok29 rfl cc29 cr29 Try.ntmps29 hlen hna hnr h
theorem own29 {args : List V} {ins outs : List (Nat × Own)} {res : V} {new : List Nat} (hlen : args.length ≤ 72) (hf : ctrB args ins res outs new = true) (h : ∀ c : Ctx, c.P = Try.prog → c.fn = namesL args ++ ownNames ins → vcC c c29 ⟨initE 0 args, ins, namesL args ++ ownNames ins⟩ (RetK c rs29 res outs)) : Ctr Try.prog 29 args ins res outs new :=
  ctr_own Try.func29 ok29 rfl cc29 cr29 Try.ntmps29 hlen hf h

/-- bordereau/bordereauref16.part -/
def c30 : C :=
  (.seq (.reg [⟨(some 6), none, .mov (.k (.d (.int .i64 0)))⟩])
  (.seq (.reg [⟨(some 9), none, .mov (.t 0)⟩,
    ⟨(some 10), none, .mov (.t 1)⟩,
    ⟨(some 11), none, .bin .quo (.t 9) (.t 10)⟩,
    ⟨(some 7), none, .mov (.t 11)⟩])
  (.seq (.reg [⟨(some 12), none, .mov (.t 0)⟩,
    ⟨(some 13), none, .mov (.t 1)⟩,
    ⟨(some 14), none, .bin .rem (.t 12) (.t 13)⟩,
    ⟨(some 8), none, .mov (.t 14)⟩])
  (.seq (.drw [0, 0, 0, 4, 14, 0, 62, 127, 0, 0, 768, 0, 3840, 8191, 16383]
   [⟨(some 15), none, .mov (.t 7)⟩,
    ⟨(some 16), none, .mov (.t 8)⟩,
    ⟨(some 17), none, .mov (.t 2)⟩,
    ⟨(some 18), none, .bin .add (.t 17) (.k (.d (.int .i64 1)))⟩,
    ⟨(some 19), none, .bin .mul (.t 16) (.t 18)⟩,
    ⟨(some 20), none, .mov (.t 1)⟩,
    ⟨(some 21), none, .bin .quo (.t 19) (.t 20)⟩,
    ⟨(some 22), none, .bin .add (.t 15) (.t 21)⟩,
    ⟨(some 23), none, .mov (.t 8)⟩,
    ⟨(some 24), none, .mov (.t 2)⟩,
    ⟨(some 25), none, .bin .mul (.t 23) (.t 24)⟩,
    ⟨(some 26), none, .mov (.t 1)⟩,
    ⟨(some 27), none, .bin .quo (.t 25) (.t 26)⟩,
    ⟨(some 28), none, .bin .sub (.t 22) (.t 27)⟩,
    ⟨(some 6), none, .mov (.t 28)⟩])
  .ret))))
def rs30 : List RV := [.tmp 6]
theorem ok30 : okF Try.prog 30 = true := by kernel_rfl
theorem cc30 : cCode Try.prog Try.f30.ntmps (Try.f30.body.getD .skip) = some c30 := by kernel_rfl
theorem cr30 : cRess Try.prog Try.f30.results.toList = some rs30 := by kernel_rfl
theorem pure30 {args : List V} {res : V} (hlen : args.length ≤ 29) (hna : namesL args = []) (hnr : res.names = []) (h : ∀ c : Ctx, c.P = Try.prog → c.fn = [] → vcC c c30 ⟨initE 0 args, [], []⟩ (RetK c rs30 res [])) : Ctr Try.prog 30 args [] res [] [] :=
  ctr_pure Try.func30 ok30 rfl cc30 cr30 Try.ntmps30 hlen hna hnr h
theorem own30 {args : List V} {ins outs : List (Nat × Own)} {res : V} {new : List Nat} (hlen : args.length ≤ 29) (hf : ctrB args ins res outs new = true) (h : ∀ c : Ctx, c.P = Try.prog → c.fn = namesL args ++ ownNames ins → vcC c c30 ⟨initE 0 args, ins, namesL args ++ ownNames ins⟩ (RetK c rs30 res outs)) : Ctr Try.prog 30 args ins res outs new :=
  ctr_own Try.func30 ok30 rfl cc30 cr30 Try.ntmps30 hlen hf h

/-- slices.Clone[[]bordereau/api.Bill,bordereau/api.Bill] -/
def c31 : C :=
  (.seq (.reg [⟨(some 2), none, .mov (.k (.d (.sl true 0 0 fun _ => [])))⟩])
  (.seq (.seq (.reg [⟨(some 3), none, .mov (.t 0)⟩,
    ⟨(some 4), none, .isnil false (.t 3)⟩])
  (.cond (.t 4) (.seq (.reg [⟨(some 2), none, .mov (.k (.d (.sl true 0 0 fun _ => [])))⟩])
    .ret)
  .skip))
  (.seq (.reg [⟨(some 5), none, .bslice 41 3 0 []⟩,
    ⟨(some 6), none, .mov (.t 0)⟩,
    ⟨(some 7), none, .app 41 3 24 (.t 5) (.t 6)⟩,
    ⟨(some 2), none, .mov (.t 7)⟩])
  .ret)))
def rs31 : List RV := [.tmp 2]
theorem ok31 : okF Try.prog 31 = true := by kernel_rfl
theorem cc31 : cCode Try.prog Try.f31.ntmps (Try.f31.body.getD .skip) = some c31 := by kernel_rfl
theorem cr31 : cRess Try.prog Try.f31.results.toList = some rs31 := by kernel_rfl
theorem pure31 {args : List V} {res : V} (hlen : args.length ≤ 8) (hna : namesL args = []) (hnr : res.names = []) (h : ∀ c : Ctx, c.P = Try.prog → c.fn = [] → vcC c c31 ⟨initE 0 args, [], []⟩ (RetK c rs31 res [])) : Ctr Try.prog 31 args [] res [] [] :=
  ctr_pure Try.func31 ok31 rfl cc31 cr31 Try.ntmps31 hlen hna hnr h
theorem own31 {args : List V} {ins outs : List (Nat × Own)} {res : V} {new : List Nat} (hlen : args.length ≤ 8) (hf : ctrB args ins res outs new = true) (h : ∀ c : Ctx, c.P = Try.prog → c.fn = namesL args ++ ownNames ins → vcC c c31 ⟨initE 0 args, ins, namesL args ++ ownNames ins⟩ (RetK c rs31 res outs)) : Ctr Try.prog 31 args ins res outs new :=
  ctr_own Try.func31 ok31 rfl cc31 cr31 Try.ntmps31 hlen hf h

/-- (bordereau/bill.bills).pay -/
def c32 : C :=
  (.seq (.reg [⟨(some 6), none, .mov (.k (.d (.int .i64 0)))⟩])
  (.seq (.drw [0, 0, 0, 6, 14, 30, 0, 0, 192, 448, 960, 2046, 4095, 8191]
   [⟨(some 8), none, .mov (.t 2)⟩,
    ⟨(some 9), none, .mov (.t 0)⟩,
    ⟨(some 10), none, .mov (.t 1)⟩,
    ⟨(some 11), none, .iadr 3 (.t 9) (.t 10)⟩,
    ⟨(some 12), none, .fadr 1 (.t 11)⟩,
    ⟨(some 13), none, .load 1 false (.t 12)⟩,
    ⟨(some 14), none, .mov (.t 0)⟩,
    ⟨(some 15), none, .mov (.t 1)⟩,
    ⟨(some 16), none, .iadr 3 (.t 14) (.t 15)⟩,
    ⟨(some 17), none, .fadr 2 (.t 16)⟩,
    ⟨(some 18), none, .load 1 false (.t 17)⟩,
    ⟨(some 19), none, .bin .sub (.t 13) (.t 18)⟩,
    ⟨(some 20), none, .mm false (.t 8) (.t 19)⟩,
    ⟨(some 7), none, .mov (.t 20)⟩])
  (.seq (.reg [⟨(some 21), none, .mov (.t 0)⟩,
    ⟨(some 22), none, .mov (.t 1)⟩,
    ⟨(some 23), none, .iadr 3 (.t 21) (.t 22)⟩,
    ⟨(some 24), none, .fadr 2 (.t 23)⟩,
    ⟨(some 25), none, .load 1 false (.t 24)⟩,
    ⟨(some 26), none, .mov (.t 7)⟩,
    ⟨(some 27), none, .bin .add (.t 25) (.t 26)⟩,
    ⟨(some 28), none, .iadr 3 (.t 21) (.t 22)⟩,
    ⟨(some 29), none, .fadr 2 (.t 28)⟩,
    ⟨none, none, .store 1 (.t 29) (.t 27)⟩])
  (.seq (.reg [⟨(some 30), none, .mov (.t 2)⟩,
    ⟨(some 31), none, .mov (.t 7)⟩,
    ⟨(some 32), none, .bin .sub (.t 30) (.t 31)⟩,
    ⟨(some 6), none, .mov (.t 32)⟩])
  .ret))))
def rs32 : List RV := [.tmp 6]
theorem ok32 : okF Try.prog 32 = true := by kernel_rfl
theorem cc32 : cCode Try.prog Try.f32.ntmps (Try.f32.body.getD .skip) = some c32 := by kernel_rfl
theorem cr32 : cRess Try.prog Try.f32.results.toList = some rs32 := by kernel_rfl
theorem pure32 {args : List V} {res : V} (hlen : args.length ≤ 33) (hna : namesL args = []) (hnr : res.names = []) (h : ∀ c : Ctx, c.P = Try.prog → c.fn = [] → vcC c c32 ⟨initE 0 args, [], []⟩ (RetK c rs32 res [])) : Ctr Try.prog 32 args [] res [] [] :=
  ctr_pure Try.func32 ok32 rfl cc32 cr32 Try.ntmps32 hlen hna hnr h
theorem own32 {args : List V} {ins outs : List (Nat × Own)} {res : V} {new : List Nat} (hlen : args.length ≤ 33) (hf : ctrB args ins res outs new = true) (h : ∀ c : Ctx, c.P = Try.prog → c.fn = namesL args ++ ownNames ins → vcC c c32 ⟨initE 0 args, ins, namesL args ++ ownNames ins⟩ (RetK c rs32 res outs)) : Ctr Try.prog 32 args ins res outs new :=
  ctr_own Try.func32 ok32 rfl cc32 cr32 Try.ntmps32 hlen hf h

/-- bordereau/day.Of -/
def c33 : C :=
  (.seq (.reg [⟨(some 2), none, .alloc 55 [.d (.int .i64 0), .d (.int .i64 0), .d (.int .i64 0)]⟩,
    ⟨(some 3), none, .mov (.k (.d (.int .i64 0)))⟩])
  (.seq (.reg [⟨(some 10), none, .mov (.t 0)⟩,
    ⟨(some 11), none, .call 44 [(.t 10)]⟩,
    ⟨(some 9), none, .mov (.t 11)⟩,
    ⟨(some 12), none, .ext 0 (.t 9)⟩,
    ⟨(some 13), none, .ext 1 (.t 9)⟩,
    ⟨(some 4), none, .mov (.t 12)⟩,
    ⟨(some 5), none, .mov (.t 13)⟩])
  (.seq (.seq (.reg [⟨(some 14), none, .mov (.t 5)⟩,
    ⟨(some 15), none, .bin .neq (.t 14) (.k (.d (.int .i64 0)))⟩])
  (.cond (.t 15) (.seq (.reg [⟨(some 16), none, .build [.d (.int .i64 0), .d (.int .i64 0), .d (.int .i64 0)] []⟩,
      ⟨(some 17), none, .mov (.t 5)⟩,
      ⟨none, none, .store 3 (.t 2) (.t 16)⟩,
      ⟨(some 3), none, .mov (.t 17)⟩])
    .ret)
  .skip))
  (.seq (.reg [⟨(some 18), none, .mov (.t 4)⟩,
    ⟨(some 19), none, .mov (.t 0)⟩,
    ⟨(some 20), none, .mov (.t 4)⟩,
    ⟨(some 21), none, .call 45 [(.t 20)]⟩,
    ⟨(some 22), none, .bin .sub (.t 19) (.t 21)⟩,
    ⟨(some 23), none, .build [.d (.int .i64 0), .d (.int .i64 0), .d (.int .i64 0)] [(0, 1, (.t 18)), (1, 1, (.k (.d (.int .i64 1)))), (2, 1, (.t 22))]⟩,
    ⟨(some 6), none, .alloc 55 [.d (.int .i64 0), .d (.int .i64 0), .d (.int .i64 0)]⟩,
    ⟨none, none, .store 3 (.t 6) (.t 23)⟩])
  (.seq (.seq (.reg [⟨(some 24), none, .mov (.t 4)⟩,
    ⟨(some 25), none, .call 34 [(.t 24)]⟩,
    ⟨(some 26), none, .mov (.k (.d (.int .i64 0)))⟩])
  (.block 0 (.loop (.seq (.reg [⟨(some 27), none, .bin .lss (.t 26) (.k (.d (.int .i64 12)))⟩])
      (.seq (.cond (.t 27) .skip
      (.exit 0))
      (.seq (.block 2 (.seq (.reg [⟨(some 28), none, .idx 1 12 false (.t 25) (.t 26)⟩,
          ⟨(some 8), none, .mov (.t 28)⟩])
        (.seq (.seq (.reg [⟨(some 29), none, .fadr 2 (.t 6)⟩,
          ⟨(some 30), none, .load 1 false (.t 29)⟩,
          ⟨(some 31), none, .mov (.t 8)⟩,
          ⟨(some 32), none, .bin .leq (.t 30) (.t 31)⟩])
        (.cond (.t 32) (.exit 0)
        .skip))
        (.seq (.reg [⟨(some 33), none, .fadr 2 (.t 6)⟩,
          ⟨(some 34), none, .load 1 false (.t 33)⟩,
          ⟨(some 35), none, .mov (.t 8)⟩,
          ⟨(some 36), none, .bin .sub (.t 34) (.t 35)⟩,
          ⟨(some 37), none, .fadr 2 (.t 6)⟩,
          ⟨none, none, .store 1 (.t 37) (.t 36)⟩])
        (.reg [⟨(some 38), none, .fadr 1 (.t 6)⟩,
          ⟨(some 39), none, .load 1 false (.t 38)⟩,
          ⟨(some 40), none, .bin .add (.t 39) (.k (.d (.int .i64 1)))⟩,
          ⟨(some 41), none, .fadr 1 (.t 6)⟩,
          ⟨none, none, .store 1 (.t 41) (.t 40)⟩])))))
      (.reg [⟨(some 42), none, .bin .add (.t 26) (.k (.d (.int .i64 1)))⟩,
        ⟨(some 26), none, .mov (.t 42)⟩])))))))
  (.seq (.reg [⟨(some 43), none, .load 3 true (.t 6)⟩,
    ⟨none, none, .store 3 (.t 2) (.t 43)⟩,
    ⟨(some 3), none, .mov (.k (.d (.int .i64 0)))⟩])
  .ret))))))
def rs33 : List RV := [.cell 2 3 true, .tmp 3]
theorem ok33 : okF Try.prog 33 = true := by kernel_rfl
theorem cc33 : cCode Try.prog Try.f33.ntmps (Try.f33.body.getD .skip) = some c33 := by kernel_rfl
theorem cr33 : cRess Try.prog Try.f33.results.toList = some rs33 := by kernel_rfl
theorem pure33 {args : List V} {res : V} (hlen : args.length ≤ 44) (hna : namesL args = []) (hnr : res.names = []) (h : ∀ c : Ctx, c.P = Try.prog → c.fn = [] → vcC c c33 ⟨initE 0 args, [], []⟩ (RetK c rs33 res [])) : Ctr Try.prog 33 args [] res [] [] :=
  ctr_pure Try.func33 ok33 rfl cc33 cr33 Try.ntmps33 hlen hna hnr h
theorem own33 {args : List V} {ins outs : List (Nat × Own)} {res : V} {new : List Nat} (hlen : args.length ≤ 44) (hf : ctrB args ins res outs new = true) (h : ∀ c : Ctx, c.P = Try.prog → c.fn = namesL args ++ ownNames ins → vcC c c33 ⟨initE 0 args, ins, namesL args ++ ownNames ins⟩ (RetK c rs33 res outs)) : Ctr Try.prog 33 args ins res outs new :=
  ctr_own Try.func33 ok33 rfl cc33 cr33 Try.ntmps33 hlen hf h

/-- bordereau/day.lengths -/
def c34 : C :=
  (.seq (.reg [⟨(some 2), none, .alloc 58 [.d (.int .i64 0), .d (.int .i64 0), .d (.int .i64 0), .d (.int .i64 0), .d (.int .i64 0), .d (.int .i64 0), .d (.int .i64 0), .d (.int .i64 0), .d (.int .i64 0), .d (.int .i64 0), .d (.int .i64 0), .d (.int .i64 0)]⟩])
  (.seq (.reg [⟨(some 4), none, .build [.d (.int .i64 0), .d (.int .i64 0), .d (.int .i64 0), .d (.int .i64 0), .d (.int .i64 0), .d (.int .i64 0), .d (.int .i64 0), .d (.int .i64 0), .d (.int .i64 0), .d (.int .i64 0), .d (.int .i64 0), .d (.int .i64 0)] [(0, 1, (.k (.d (.int .i64 31)))), (1, 1, (.k (.d (.int .i64 28)))), (2, 1, (.k (.d (.int .i64 31)))), (3, 1, (.k (.d (.int .i64 30)))), (4, 1, (.k (.d (.int .i64 31)))), (5, 1, (.k (.d (.int .i64 30)))), (6, 1, (.k (.d (.int .i64 31)))), (7, 1, (.k (.d (.int .i64 31)))), (8, 1, (.k (.d (.int .i64 30)))), (9, 1, (.k (.d (.int .i64 31)))), (10, 1, (.k (.d (.int .i64 30)))), (11, 1, (.k (.d (.int .i64 31))))]⟩,
    ⟨(some 3), none, .alloc 58 [.d (.int .i64 0), .d (.int .i64 0), .d (.int .i64 0), .d (.int .i64 0), .d (.int .i64 0), .d (.int .i64 0), .d (.int .i64 0), .d (.int .i64 0), .d (.int .i64 0), .d (.int .i64 0), .d (.int .i64 0), .d (.int .i64 0)]⟩,
    ⟨none, none, .store 12 (.t 3) (.t 4)⟩])
  (.seq (.seq (.reg [⟨(some 5), none, .mov (.t 0)⟩,
    ⟨(some 6), none, .call 46 [(.t 5)]⟩])
  (.cond (.t 6) (.reg [⟨(some 7), none, .aadr 1 12 (.t 3) (.k (.d (.int .i64 1)))⟩,
      ⟨(some 8), none, .load 1 false (.t 7)⟩,
      ⟨(some 9), none, .bin .add (.t 8) (.k (.d (.int .i64 1)))⟩,
      ⟨(some 10), none, .aadr 1 12 (.t 3) (.k (.d (.int .i64 1)))⟩,
      ⟨none, none, .store 1 (.t 10) (.t 9)⟩])
  .skip))
  (.seq (.reg [⟨(some 11), none, .load 12 true (.t 3)⟩,
    ⟨none, none, .store 12 (.t 2) (.t 11)⟩])
  .ret))))
def rs34 : List RV := [.cell 2 12 true]
theorem ok34 : okF Try.prog 34 = true := by kernel_rfl
theorem cc34 : cCode Try.prog Try.f34.ntmps (Try.f34.body.getD .skip) = some c34 := by kernel_rfl
theorem cr34 : cRess Try.prog Try.f34.results.toList = some rs34 := by kernel_rfl
theorem pure34 {args : List V} {res : V} (hlen : args.length ≤ 12) (hna : namesL args = []) (hnr : res.names = []) (h : ∀ c : Ctx, c.P = Try.prog → c.fn = [] → vcC c c34 ⟨initE 0 args, [], []⟩ (RetK c rs34 res [])) : Ctr Try.prog 34 args [] res [] [] :=
  ctr_pure Try.func34 ok34 rfl cc34 cr34 Try.ntmps34 hlen hna hnr h
theorem own34 {args : List V} {ins outs : List (Nat × Own)} {res : V} {new : List Nat} (hlen : args.length ≤ 12) (hf : ctrB args ins res outs new = true) (h : ∀ c : Ctx, c.P = Try.prog → c.fn = namesL args ++ ownNames ins → vcC c c34 ⟨initE 0 args, ins, namesL args ++ ownNames ins⟩ (RetK c rs34 res outs)) : Ctr Try.prog 34 args ins res outs new :=
  ctr_own Try.func34 ok34 rfl cc34 cr34 Try.ntmps34 hlen hf h

/-- bordereau/day.Number -/
def c35 : C :=
  (.seq (.reg [⟨(some 1), none, .box 55 (.t 0)⟩,
    ⟨(some 2), none, .mov (.k (.d (.int .i64 0)))⟩,
    ⟨(some 3), none, .mov (.k (.d (.int .i64 0)))⟩])
  (.seq (.seq (.reg [⟨(some 7), none, .load 3 true (.t 1)⟩,
    ⟨(some 8), none, .call 47 [(.t 7)]⟩,
    ⟨(some 9), none, .inv .not (.t 8)⟩])
  (.cond (.t 9) (.seq (.reg [⟨(some 2), none, .mov (.k (.d (.int .i64 0)))⟩,
      ⟨(some 3), none, .mov (.k (.d (.int .i64 3)))⟩])
    .ret)
  .skip))
  (.seq (.drw [0, 1, 3, 0, 8, 31, 0, 64, 255, 0, 575, 2047]
   [⟨(some 10), none, .fadr 0 (.t 1)⟩,
    ⟨(some 11), none, .load 1 false (.t 10)⟩,
    ⟨(some 12), none, .call 34 [(.t 11)]⟩,
    ⟨(some 13), none, .fadr 0 (.t 1)⟩,
    ⟨(some 14), none, .load 1 false (.t 13)⟩,
    ⟨(some 15), none, .call 45 [(.t 14)]⟩,
    ⟨(some 16), none, .fadr 2 (.t 1)⟩,
    ⟨(some 17), none, .load 1 false (.t 16)⟩,
    ⟨(some 18), none, .bin .add (.t 15) (.t 17)⟩,
    ⟨(some 4), none, .alloc 58 [.d (.int .i64 0), .d (.int .i64 0), .d (.int .i64 0), .d (.int .i64 0), .d (.int .i64 0), .d (.int .i64 0), .d (.int .i64 0), .d (.int .i64 0), .d (.int .i64 0), .d (.int .i64 0), .d (.int .i64 0), .d (.int .i64 0)]⟩,
    ⟨none, none, .store 12 (.t 4) (.t 12)⟩,
    ⟨(some 5), none, .mov (.t 18)⟩])
  (.seq (.seq (.reg [⟨(some 19), none, .fadr 1 (.t 1)⟩,
    ⟨(some 20), none, .load 1 false (.t 19)⟩,
    ⟨(some 21), none, .bin .sub (.t 20) (.k (.d (.int .i64 1)))⟩,
    ⟨(some 22), none, .mov (.k (.d (.int .i64 0)))⟩])
  (.block 0 (.loop (.seq (.reg [⟨(some 23), none, .bin .lss (.t 22) (.t 21)⟩])
      (.seq (.cond (.t 23) .skip
      (.exit 0))
      (.seq (.block 2 (.seq (.reg [⟨(some 24), none, .mov (.t 22)⟩,
          ⟨(some 6), none, .mov (.t 24)⟩])
        (.reg [⟨(some 25), none, .mov (.t 5)⟩,
          ⟨(some 26), none, .mov (.t 6)⟩,
          ⟨(some 27), none, .aadr 1 12 (.t 4) (.t 26)⟩,
          ⟨(some 28), none, .load 1 false (.t 27)⟩,
          ⟨(some 29), none, .bin .add (.t 25) (.t 28)⟩,
          ⟨(some 5), none, .mov (.t 29)⟩])))
      (.reg [⟨(some 30), none, .bin .add (.t 22) (.k (.d (.int .i64 1)))⟩,
        ⟨(some 22), none, .mov (.t 30)⟩])))))))
  (.seq (.reg [⟨(some 31), none, .mov (.t 5)⟩,
    ⟨(some 2), none, .mov (.t 31)⟩,
    ⟨(some 3), none, .mov (.k (.d (.int .i64 0)))⟩])
  .ret)))))
def rs35 : List RV := [.tmp 2, .tmp 3]
theorem ok35 : okF Try.prog 35 = true := by kernel_rfl
theorem cc35 : cCode Try.prog Try.f35.ntmps (Try.f35.body.getD .skip) = some c35 := by kernel_rfl
theorem cr35 : cRess Try.prog Try.f35.results.toList = some rs35 := by kernel_rfl
theorem pure35 {args : List V} {res : V} (hlen : args.length ≤ 32) (hna : namesL args = []) (hnr : res.names = []) (h : ∀ c : Ctx, c.P = Try.prog → c.fn = [] → vcC c c35 ⟨initE 0 args, [], []⟩ (RetK c rs35 res [])) : Ctr Try.prog 35 args [] res [] [] :=
  ctr_pure Try.func35 ok35 rfl cc35 cr35 Try.ntmps35 hlen hna hnr h
theorem own35 {args : List V} {ins outs : List (Nat × Own)} {res : V} {new : List Nat} (hlen : args.length ≤ 32) (hf : ctrB args ins res outs new = true) (h : ∀ c : Ctx, c.P = Try.prog → c.fn = namesL args ++ ownNames ins → vcC c c35 ⟨initE 0 args, ins, namesL args ++ ownNames ins⟩ (RetK c rs35 res outs)) : Ctr Try.prog 35 args ins res outs new :=
  ctr_own Try.func35 ok35 rfl cc35 cr35 Try.ntmps35 hlen hf h

/-- slices.Index[[]int,int] -/
def c36 : C :=
  (.seq (.reg [⟨(some 4), none, .mov (.k (.d (.int .i64 0)))⟩])
  (.seq (.seq (.reg [⟨(some 6), none, .mov (.t 0)⟩,
    ⟨(some 7), none, .len (.t 6)⟩,
    ⟨(some 8), none, .mov (.k (.d (.int .i64 0)))⟩])
  (.block 0 (.loop (.seq (.reg [⟨(some 9), none, .bin .lss (.t 8) (.t 7)⟩])
      (.seq (.cond (.t 9) .skip
      (.exit 0))
      (.seq (.block 2 (.seq (.reg [⟨(some 10), none, .mov (.t 8)⟩,
          ⟨(some 5), none, .mov (.t 10)⟩])
        (.seq (.reg [⟨(some 11), none, .mov (.t 1)⟩,
          ⟨(some 12), none, .mov (.t 0)⟩,
          ⟨(some 13), none, .mov (.t 5)⟩,
          ⟨(some 14), none, .iadr 1 (.t 12) (.t 13)⟩,
          ⟨(some 15), none, .load 1 false (.t 14)⟩,
          ⟨(some 16), none, .bin .eql (.t 11) (.t 15)⟩])
        (.cond (.t 16) (.seq (.reg [⟨(some 17), none, .mov (.t 5)⟩,
            ⟨(some 4), none, .mov (.t 17)⟩])
          .ret)
        .skip))))
      (.reg [⟨(some 18), none, .bin .add (.t 8) (.k (.d (.int .i64 1)))⟩,
        ⟨(some 8), none, .mov (.t 18)⟩])))))))
  (.seq (.reg [⟨(some 4), none, .mov (.k (.d (.int .i64 (-1))))⟩])
  .ret)))
def rs36 : List RV := [.tmp 4]
theorem ok36 : okF Try.prog 36 = true := by kernel_rfl
theorem cc36 : cCode Try.prog Try.f36.ntmps (Try.f36.body.getD .skip) = some c36 := by kernel_rfl
theorem cr36 : cRess Try.prog Try.f36.results.toList = some rs36 := by kernel_rfl
theorem pure36 {args : List V} {res : V} (hlen : args.length ≤ 19) (hna : namesL args = []) (hnr : res.names = []) (h : ∀ c : Ctx, c.P = Try.prog → c.fn = [] → vcC c c36 ⟨initE 0 args, [], []⟩ (RetK c rs36 res [])) : Ctr Try.prog 36 args [] res [] [] :=
  ctr_pure Try.func36 ok36 rfl cc36 cr36 Try.ntmps36 hlen hna hnr h
theorem own36 {args : List V} {ins outs : List (Nat × Own)} {res : V} {new : List Nat} (hlen : args.length ≤ 19) (hf : ctrB args ins res outs new = true) (h : ∀ c : Ctx, c.P = Try.prog → c.fn = namesL args ++ ownNames ins → vcC c c36 ⟨initE 0 args, ins, namesL args ++ ownNames ins⟩ (RetK c rs36 res outs)) : Ctr Try.prog 36 args ins res outs new :=
  ctr_own Try.func36 ok36 rfl cc36 cr36 Try.ntmps36 hlen hf h

/-- bordereau/span.kept -/
def c37 : C :=
  (.seq (.reg [⟨(some 1), none, .box 23 (.t 0)⟩,
    ⟨(some 2), none, .alloc 23 [.d (.int .i64 0), .d (.int .i64 0)]⟩])
  (.seq (.seq (.reg [⟨(some 3), none, .load 2 true (.t 1)⟩,
    ⟨(some 4), none, .call 48 [(.t 3)]⟩,
    ⟨(some 5), none, .inv .not (.t 4)⟩,
    ⟨(some 6), none, .mov (.t 5)⟩,
    ⟨(some 7), (some (6, false)), .fadr 0 (.t 1)⟩,
    ⟨(some 8), (some (6, false)), .load 1 false (.t 7)⟩,
    ⟨(some 9), (some (6, false)), .fadr 1 (.t 1)⟩,
    ⟨(some 10), (some (6, false)), .load 1 false (.t 9)⟩,
    ⟨(some 11), (some (6, false)), .bin .eql (.t 8) (.t 10)⟩,
    ⟨(some 12), none, .pick (.t 6) (.k (.d (.bool true))) (.t 11)⟩])
  (.cond (.t 12) (.seq (.reg [⟨(some 13), none, .build [.d (.int .i64 0), .d (.int .i64 0)] []⟩,
      ⟨none, none, .store 2 (.t 2) (.t 13)⟩])
    .ret)
  .skip))
  (.seq (.reg [⟨(some 14), none, .load 2 true (.t 1)⟩,
    ⟨none, none, .store 2 (.t 2) (.t 14)⟩])
  .ret)))
def rs37 : List RV := [.cell 2 2 true]
theorem ok37 : okF Try.prog 37 = true := by kernel_rfl
theorem cc37 : cCode Try.prog Try.f37.ntmps (Try.f37.body.getD .skip) = some c37 := by kernel_rfl
theorem cr37 : cRess Try.prog Try.f37.results.toList = some rs37 := by kernel_rfl
theorem pure37 {args : List V} {res : V} (hlen : args.length ≤ 15) (hna : namesL args = []) (hnr : res.names = []) (h : ∀ c : Ctx, c.P = Try.prog → c.fn = [] → vcC c c37 ⟨initE 0 args, [], []⟩ (RetK c rs37 res [])) : Ctr Try.prog 37 args [] res [] [] :=
  ctr_pure Try.func37 ok37 rfl cc37 cr37 Try.ntmps37 hlen hna hnr h
theorem own37 {args : List V} {ins outs : List (Nat × Own)} {res : V} {new : List Nat} (hlen : args.length ≤ 15) (hf : ctrB args ins res outs new = true) (h : ∀ c : Ctx, c.P = Try.prog → c.fn = namesL args ++ ownNames ins → vcC c c37 ⟨initE 0 args, ins, namesL args ++ ownNames ins⟩ (RetK c rs37 res outs)) : Ctr Try.prog 37 args ins res outs new :=
  ctr_own Try.func37 ok37 rfl cc37 cr37 Try.ntmps37 hlen hf h

/-- bordereau/num.Split -/
def c38 : C :=
  (.seq (.reg [⟨(some 4), none, .mov (.k (.d (.sl true 0 0 fun _ => [])))⟩,
    ⟨(some 5), none, .mov (.k (.d (.int .i64 0)))⟩])
  (.seq (.seq (.reg [⟨(some 20), none, .mov (.t 0)⟩,
    ⟨(some 21), none, .bin .lss (.t 20) (.k (.d (.int .i64 0)))⟩,
    ⟨(some 22), none, .mov (.t 21)⟩,
    ⟨(some 23), (some (22, false)), .mov (.t 1)⟩,
    ⟨(some 24), (some (22, false)), .len (.t 23)⟩,
    ⟨(some 25), (some (22, false)), .bin .gtr (.t 24) (.k (.d (.int .i64 2000)))⟩,
    ⟨(some 26), none, .pick (.t 22) (.k (.d (.bool true))) (.t 25)⟩])
  (.cond (.t 26) (.seq (.reg [⟨(some 4), none, .mov (.k (.d (.sl true 0 0 fun _ => [])))⟩,
      ⟨(some 5), none, .mov (.k (.d (.int .i64 1)))⟩])
    .ret)
  .skip))
  (.seq (.reg [⟨(some 27), none, .call 49 []⟩,
    ⟨(some 28), none, .mov (.t 0)⟩,
    ⟨(some 29), none, .bin .gtr (.t 28) (.k (.d (.int .i64 4000000000000000000)))⟩,
    ⟨(some 6), none, .mov (.t 27)⟩,
    ⟨(some 7), none, .mov (.t 29)⟩])
  (.seq (.reg [⟨(some 30), none, .mov (.t 1)⟩,
    ⟨(some 31), none, .len (.t 30)⟩,
    ⟨(some 32), none, .mks 3 1 8 [(.int .i64 0)] (.k (.d (.int .i64 0))) (.t 31)⟩,
    ⟨(some 8), none, .mov (.t 32)⟩])
  (.seq (.seq (.reg [⟨(some 33), none, .mov (.t 1)⟩,
    ⟨(some 34), none, .len (.t 33)⟩,
    ⟨(some 35), none, .mov (.k (.d (.int .i64 0)))⟩])
  (.block 0 (.loop (.seq (.reg [⟨(some 36), none, .bin .lss (.t 35) (.t 34)⟩])
      (.seq (.cond (.t 36) .skip
      (.exit 0))
      (.seq (.block 2 (.seq (.reg [⟨(some 37), none, .iadr 1 (.t 33) (.t 35)⟩,
          ⟨(some 38), none, .load 1 false (.t 37)⟩,
          ⟨(some 10), none, .mov (.t 38)⟩])
        (.seq (.reg [⟨(some 40), none, .mov (.t 6)⟩,
          ⟨(some 41), none, .mov (.t 10)⟩,
          ⟨(some 42), none, .callv (.t 40) [(.t 41)]⟩,
          ⟨(some 39), none, .mov (.t 42)⟩,
          ⟨(some 43), none, .ext 0 (.t 39)⟩,
          ⟨(some 44), none, .ext 1 (.t 39)⟩,
          ⟨(some 11), none, .mov (.t 43)⟩,
          ⟨(some 12), none, .mov (.t 44)⟩])
        (.seq (.seq (.reg [⟨(some 45), none, .mov (.t 12)⟩,
          ⟨(some 46), none, .bin .eql (.t 45) (.k (.d (.int .i64 1)))⟩])
        (.cond (.t 46) (.seq (.reg [⟨(some 47), none, .mov (.t 12)⟩,
            ⟨(some 4), none, .mov (.k (.d (.sl true 0 0 fun _ => [])))⟩,
            ⟨(some 5), none, .mov (.t 47)⟩])
          .ret)
        .skip))
        (.seq (.reg [⟨(some 48), none, .mov (.t 7)⟩,
          ⟨(some 49), none, .mov (.t 48)⟩,
          ⟨(some 50), (some (49, false)), .mov (.t 12)⟩,
          ⟨(some 51), (some (49, false)), .bin .eql (.t 50) (.k (.d (.int .i64 5)))⟩,
          ⟨(some 52), none, .pick (.t 49) (.k (.d (.bool true))) (.t 51)⟩,
          ⟨(some 7), none, .mov (.t 52)⟩])
        (.reg [⟨(some 53), none, .mov (.t 8)⟩,
          ⟨(some 54), none, .mov (.t 11)⟩,
          ⟨(some 55), none, .bslice 3 1 1 [(.t 54)]⟩,
          ⟨(some 56), none, .app 3 1 8 (.t 53) (.t 55)⟩,
          ⟨(some 8), none, .mov (.t 56)⟩]))))))
      (.reg [⟨(some 57), none, .bin .add (.t 35) (.k (.d (.int .i64 1)))⟩,
        ⟨(some 35), none, .mov (.t 57)⟩])))))))
  (.seq (.block 4 (.seq (.reg [⟨(some 59), none, .mov (.t 7)⟩,
      ⟨(some 58), none, .mov (.t 59)⟩])
    (.cond (.t 58) (.seq (.reg [⟨(some 4), none, .mov (.k (.d (.sl true 0 0 fun _ => [])))⟩,
        ⟨(some 5), none, .mov (.k (.d (.int .i64 5)))⟩])
      .ret)
    (.seq (.reg [⟨(some 61), none, .mov (.t 8)⟩,
        ⟨(some 62), none, .len (.t 61)⟩,
        ⟨(some 63), none, .bin .eql (.t 62) (.k (.d (.int .i64 0)))⟩,
        ⟨(some 64), none, .mov (.t 63)⟩,
        ⟨(some 65), (some (64, false)), .mov (.t 8)⟩,
        ⟨(some 66), (some (64, false)), .mov (.t 8)⟩,
        ⟨(some 67), (some (64, false)), .len (.t 66)⟩,
        ⟨(some 68), (some (64, false)), .bin .sub (.t 67) (.k (.d (.int .i64 1)))⟩,
        ⟨(some 69), (some (64, false)), .iadr 1 (.t 65) (.t 68)⟩,
        ⟨(some 70), (some (64, false)), .load 1 false (.t 69)⟩,
        ⟨(some 71), (some (64, false)), .bin .eql (.t 70) (.k (.d (.int .i64 0)))⟩,
        ⟨(some 72), none, .pick (.t 64) (.k (.d (.bool true))) (.t 71)⟩,
        ⟨(some 60), none, .mov (.t 72)⟩])
      (.cond (.t 60) (.seq (.reg [⟨(some 4), none, .mov (.k (.d (.sl true 0 0 fun _ => [])))⟩,
          ⟨(some 5), none, .mov (.k (.d (.int .i64 6)))⟩])
        .ret)
      .skip)))))
  (.seq (.reg [⟨(some 73), none, .mov (.t 8)⟩,
    ⟨(some 74), none, .mov (.t 8)⟩,
    ⟨(some 75), none, .len (.t 74)⟩,
    ⟨(some 76), none, .bin .sub (.t 75) (.k (.d (.int .i64 1)))⟩,
    ⟨(some 77), none, .iadr 1 (.t 73) (.t 76)⟩,
    ⟨(some 78), none, .load 1 false (.t 77)⟩,
    ⟨(some 13), none, .mov (.t 78)⟩])
  (.seq (.reg [⟨(some 79), none, .mov (.t 8)⟩,
    ⟨(some 80), none, .len (.t 79)⟩,
    ⟨(some 81), none, .mks 3 1 8 [(.int .i64 0)] (.t 80) (.t 80)⟩,
    ⟨(some 14), none, .mov (.t 81)⟩])
  (.seq (.reg [⟨(some 15), none, .mov (.k (.d (.int .i64 0)))⟩])
  (.seq (.seq (.reg [⟨(some 82), none, .mov (.t 8)⟩,
    ⟨(some 83), none, .len (.t 82)⟩,
    ⟨(some 84), none, .mov (.k (.d (.int .i64 0)))⟩])
  (.block 6 (.loop (.seq (.reg [⟨(some 85), none, .bin .lss (.t 84) (.t 83)⟩])
      (.seq (.cond (.t 85) .skip
      (.exit 6))
      (.seq (.block 8 (.seq (.reg [⟨(some 86), none, .mov (.t 84)⟩,
          ⟨(some 87), none, .iadr 1 (.t 82) (.t 84)⟩,
          ⟨(some 88), none, .load 1 false (.t 87)⟩,
          ⟨(some 16), none, .mov (.t 86)⟩,
          ⟨(some 17), none, .mov (.t 88)⟩])
        (.seq (.reg [⟨(some 90), none, .mov (.t 0)⟩,
          ⟨(some 91), none, .mov (.t 17)⟩,
          ⟨(some 92), none, .mov (.t 13)⟩,
          ⟨(some 93), none, .call 50 [(.t 90), (.t 91), (.t 92)]⟩,
          ⟨(some 89), none, .mov (.t 93)⟩,
          ⟨(some 94), none, .ext 0 (.t 89)⟩,
          ⟨(some 95), none, .ext 1 (.t 89)⟩,
          ⟨(some 18), none, .mov (.t 94)⟩,
          ⟨(some 19), none, .mov (.t 95)⟩])
        (.reg [⟨(some 96), none, .mov (.t 14)⟩,
          ⟨(some 97), none, .mov (.t 16)⟩,
          ⟨(some 98), none, .mov (.t 18)⟩,
          ⟨(some 99), none, .mov (.t 15)⟩,
          ⟨(some 100), none, .bin .sub (.t 98) (.t 99)⟩,
          ⟨(some 101), none, .mov (.t 18)⟩,
          ⟨(some 102), none, .iadr 1 (.t 96) (.t 97)⟩,
          ⟨none, none, .store 1 (.t 102) (.t 100)⟩,
          ⟨(some 15), none, .mov (.t 101)⟩]))))
      (.reg [⟨(some 103), none, .bin .add (.t 84) (.k (.d (.int .i64 1)))⟩,
        ⟨(some 84), none, .mov (.t 103)⟩])))))))
  (.seq (.reg [⟨(some 104), none, .mov (.t 14)⟩,
    ⟨(some 4), none, .mov (.t 104)⟩,
    ⟨(some 5), none, .mov (.k (.d (.int .i64 0)))⟩])
  .ret)))))))))))
def rs38 : List RV := [.tmp 4, .tmp 5]
theorem ok38 : okF Try.prog 38 = true := by kernel_rfl
theorem cc38 : cCode Try.prog Try.f38.ntmps (Try.f38.body.getD .skip) = some c38 := by kernel_rfl
theorem cr38 : cRess Try.prog Try.f38.results.toList = some rs38 := by kernel_rfl
theorem pure38 {args : List V} {res : V} (hlen : args.length ≤ 105) (hna : namesL args = []) (hnr : res.names = []) (h : ∀ c : Ctx, c.P = Try.prog → c.fn = [] → vcC c c38 ⟨initE 0 args, [], []⟩ (RetK c rs38 res [])) : Ctr Try.prog 38 args [] res [] [] :=
  ctr_pure Try.func38 ok38 rfl cc38 cr38 Try.ntmps38 hlen hna hnr h
theorem own38 {args : List V} {ins outs : List (Nat × Own)} {res : V} {new : List Nat} (hlen : args.length ≤ 105) (hf : ctrB args ins res outs new = true) (h : ∀ c : Ctx, c.P = Try.prog → c.fn = namesL args ++ ownNames ins → vcC c c38 ⟨initE 0 args, ins, namesL args ++ ownNames ins⟩ (RetK c rs38 res outs)) : Ctr Try.prog 38 args ins res outs new :=
  ctr_own Try.func38 ok38 rfl cc38 cr38 Try.ntmps38 hlen hf h

/-- slices.Repeat[[]int,int] -/
def c39 : C :=
  (.seq (.reg [⟨(some 4), none, .mov (.k (.d (.sl true 0 0 fun _ => [])))⟩])
  (.seq (.seq (.reg [⟨(some 9), none, .mov (.t 1)⟩,
    ⟨(some 10), none, .bin .lss (.t 9) (.k (.d (.int .i64 0)))⟩])
  (.cond (.t 10) .bad
  .skip))
  (.seq (.reg [⟨(some 13), none, .mov (.t 0)⟩,
    ⟨(some 14), none, .len (.t 13)⟩,
    ⟨(some 15), none, .conv .u64 (.t 14)⟩,
    ⟨(some 16), none, .mov (.t 1)⟩,
    ⟨(some 17), none, .conv .u64 (.t 16)⟩,
    ⟨(some 18), none, .call 51 [(.t 15), (.t 17)]⟩,
    ⟨(some 12), none, .mov (.t 18)⟩,
    ⟨(some 19), none, .ext 0 (.t 12)⟩,
    ⟨(some 20), none, .ext 1 (.t 12)⟩,
    ⟨(some 5), none, .mov (.t 19)⟩,
    ⟨(some 6), none, .mov (.t 20)⟩])
  (.seq (.seq (.reg [⟨(some 21), none, .mov (.t 5)⟩,
    ⟨(some 22), none, .bin .gtr (.t 21) (.k (.d (.int .u64 0)))⟩,
    ⟨(some 23), none, .mov (.t 22)⟩,
    ⟨(some 24), (some (23, false)), .mov (.t 6)⟩,
    ⟨(some 25), (some (23, false)), .bin .gtr (.t 24) (.k (.d (.int .u64 9223372036854775807)))⟩,
    ⟨(some 26), none, .pick (.t 23) (.k (.d (.bool true))) (.t 25)⟩])
  (.cond (.t 26) .bad
  .skip))
  (.seq (.reg [⟨(some 28), none, .mov (.t 6)⟩,
    ⟨(some 29), none, .conv .i64 (.t 28)⟩,
    ⟨(some 30), none, .mks 3 1 8 [(.int .i64 0)] (.t 29) (.t 29)⟩,
    ⟨(some 7), none, .mov (.t 30)⟩])
  (.seq (.reg [⟨(some 31), none, .mov (.t 7)⟩,
    ⟨(some 32), none, .mov (.t 0)⟩,
    ⟨(some 33), none, .cpy 1 (.t 31) (.t 32)⟩,
    ⟨(some 8), none, .mov (.t 33)⟩])
  (.seq (.block 0 (.loop (.seq (.seq (.reg [⟨(some 34), none, .mov (.t 8)⟩,
        ⟨(some 35), none, .mov (.t 7)⟩,
        ⟨(some 36), none, .len (.t 35)⟩,
        ⟨(some 37), none, .bin .lss (.t 34) (.t 36)⟩])
      (.cond (.t 37) .skip
      (.exit 0)))
      (.block 2 (.drw [0, 0, 0, 6, 0, 0, 48, 126, 255, 511]
         [⟨(some 38), none, .mov (.t 8)⟩,
          ⟨(some 39), none, .mov (.t 7)⟩,
          ⟨(some 40), none, .mov (.t 8)⟩,
          ⟨(some 41), none, .slc 1 (.t 39) (some (.t 40)) none none⟩,
          ⟨(some 42), none, .mov (.t 7)⟩,
          ⟨(some 43), none, .mov (.t 8)⟩,
          ⟨(some 44), none, .slc 1 (.t 42) none (some (.t 43)) none⟩,
          ⟨(some 45), none, .cpy 1 (.t 41) (.t 44)⟩,
          ⟨(some 46), none, .bin .add (.t 38) (.t 45)⟩,
          ⟨(some 8), none, .mov (.t 46)⟩])))))
  (.seq (.reg [⟨(some 47), none, .mov (.t 7)⟩,
    ⟨(some 4), none, .mov (.t 47)⟩])
  .ret))))))))
def rs39 : List RV := [.tmp 4]
theorem ok39 : okF Try.prog 39 = true := by kernel_rfl
theorem cc39 : cCode Try.prog Try.f39.ntmps (Try.f39.body.getD .skip) = some c39 := by kernel_rfl
theorem cr39 : cRess Try.prog Try.f39.results.toList = some rs39 := by kernel_rfl
theorem pure39 {args : List V} {res : V} (hlen : args.length ≤ 48) (hna : namesL args = []) (hnr : res.names = []) (h : ∀ c : Ctx, c.P = Try.prog → c.fn = [] → vcC c c39 ⟨initE 0 args, [], []⟩ (RetK c rs39 res [])) : Ctr Try.prog 39 args [] res [] [] :=
  ctr_pure Try.func39 ok39 rfl cc39 cr39 Try.ntmps39 hlen hna hnr h
theorem own39 {args : List V} {ins outs : List (Nat × Own)} {res : V} {new : List Nat} (hlen : args.length ≤ 48) (hf : ctrB args ins res outs new = true) (h : ∀ c : Ctx, c.P = Try.prog → c.fn = namesL args ++ ownNames ins → vcC c c39 ⟨initE 0 args, ins, namesL args ++ ownNames ins⟩ (RetK c rs39 res outs)) : Ctr Try.prog 39 args ins res outs new :=
  ctr_own Try.func39 ok39 rfl cc39 cr39 Try.ntmps39 hlen hf h

/-- bordereau/bordereauref03.Right -/
def c40 : C :=
  (.seq (.reg [⟨(some 1), none, .box 23 (.t 0)⟩,
    ⟨(some 2), none, .mov (.k (.d (.bool false)))⟩])
  (.seq (.reg [⟨(some 3), none, .fadr 0 (.t 1)⟩,
    ⟨(some 4), none, .load 1 false (.t 3)⟩,
    ⟨(some 5), none, .bin .geq (.t 4) (.k (.d (.int .i64 1)))⟩,
    ⟨(some 6), none, .mov (.t 5)⟩,
    ⟨(some 7), (some (6, true)), .fadr 0 (.t 1)⟩,
    ⟨(some 8), (some (6, true)), .load 1 false (.t 7)⟩,
    ⟨(some 9), (some (6, true)), .fadr 1 (.t 1)⟩,
    ⟨(some 10), (some (6, true)), .load 1 false (.t 9)⟩,
    ⟨(some 11), (some (6, true)), .bin .leq (.t 8) (.t 10)⟩,
    ⟨(some 12), none, .pick (.t 6) (.t 11) (.k (.d (.bool false)))⟩,
    ⟨(some 13), none, .mov (.t 12)⟩,
    ⟨(some 14), (some (13, true)), .fadr 1 (.t 1)⟩,
    ⟨(some 15), (some (13, true)), .load 1 false (.t 14)⟩,
    ⟨(some 16), (some (13, true)), .bin .leq (.t 15) (.k (.d (.int .i64 292195)))⟩,
    ⟨(some 17), none, .pick (.t 13) (.t 16) (.k (.d (.bool false)))⟩,
    ⟨(some 2), none, .mov (.t 17)⟩])
  .ret))
def rs40 : List RV := [.tmp 2]
theorem ok40 : okF Try.prog 40 = true := by kernel_rfl
theorem cc40 : cCode Try.prog Try.f40.ntmps (Try.f40.body.getD .skip) = some c40 := by kernel_rfl
theorem cr40 : cRess Try.prog Try.f40.results.toList = some rs40 := by kernel_rfl
theorem pure40 {args : List V} {res : V} (hlen : args.length ≤ 18) (hna : namesL args = []) (hnr : res.names = []) (h : ∀ c : Ctx, c.P = Try.prog → c.fn = [] → vcC c c40 ⟨initE 0 args, [], []⟩ (RetK c rs40 res [])) : Ctr Try.prog 40 args [] res [] [] :=
  ctr_pure Try.func40 ok40 rfl cc40 cr40 Try.ntmps40 hlen hna hnr h
theorem own40 {args : List V} {ins outs : List (Nat × Own)} {res : V} {new : List Nat} (hlen : args.length ≤ 18) (hf : ctrB args ins res outs new = true) (h : ∀ c : Ctx, c.P = Try.prog → c.fn = namesL args ++ ownNames ins → vcC c c40 ⟨initE 0 args, ins, namesL args ++ ownNames ins⟩ (RetK c rs40 res outs)) : Ctr Try.prog 40 args ins res outs new :=
  ctr_own Try.func40 ok40 rfl cc40 cr40 Try.ntmps40 hlen hf h

/-- bordereau/bordereauref02.Of -/
def c41 : C :=
  (.seq (.reg [⟨(some 2), none, .alloc 55 [.d (.int .i64 0), .d (.int .i64 0), .d (.int .i64 0)]⟩,
    ⟨(some 3), none, .mov (.k (.d (.int .i64 0)))⟩])
  (.seq (.seq (.reg [⟨(some 6), none, .mov (.t 0)⟩,
    ⟨(some 7), none, .bin .lss (.t 6) (.k (.d (.int .i64 1)))⟩,
    ⟨(some 8), none, .mov (.t 7)⟩,
    ⟨(some 9), (some (8, false)), .mov (.t 0)⟩,
    ⟨(some 10), (some (8, false)), .bin .gtr (.t 9) (.k (.d (.int .i64 292194)))⟩,
    ⟨(some 11), none, .pick (.t 8) (.k (.d (.bool true))) (.t 10)⟩])
  (.cond (.t 11) (.seq (.reg [⟨(some 12), none, .build [.d (.int .i64 0), .d (.int .i64 0), .d (.int .i64 0)] []⟩,
      ⟨none, none, .store 3 (.t 2) (.t 12)⟩,
      ⟨(some 3), none, .mov (.k (.d (.int .i64 3)))⟩])
    .ret)
  .skip))
  (.seq (.reg [⟨(some 4), none, .mov (.k (.d (.int .i64 1601)))⟩])
  (.seq (.block 0 (.loop (.seq (.seq (.reg [⟨(some 13), none, .mov (.t 0)⟩,
        ⟨(some 14), none, .mov (.t 4)⟩,
        ⟨(some 15), none, .call 52 [(.t 14)]⟩,
        ⟨(some 16), none, .bin .gtr (.t 13) (.t 15)⟩])
      (.cond (.t 16) .skip
      (.exit 0)))
      (.block 2 (.seq (.reg [⟨(some 17), none, .mov (.t 0)⟩,
          ⟨(some 18), none, .mov (.t 4)⟩,
          ⟨(some 19), none, .call 52 [(.t 18)]⟩,
          ⟨(some 20), none, .bin .sub (.t 17) (.t 19)⟩,
          ⟨(some 0), none, .mov (.t 20)⟩])
        (.reg [⟨(some 21), none, .mov (.t 4)⟩,
          ⟨(some 22), none, .bin .add (.t 21) (.k (.d (.int .i64 1)))⟩,
          ⟨(some 4), none, .mov (.t 22)⟩]))))))
  (.seq (.reg [⟨(some 5), none, .mov (.k (.d (.int .i64 1)))⟩])
  (.seq (.block 4 (.loop (.seq (.seq (.reg [⟨(some 23), none, .mov (.t 0)⟩,
        ⟨(some 24), none, .mov (.t 4)⟩,
        ⟨(some 25), none, .mov (.t 5)⟩,
        ⟨(some 26), none, .call 42 [(.t 24), (.t 25)]⟩,
        ⟨(some 27), none, .bin .gtr (.t 23) (.t 26)⟩])
      (.cond (.t 27) .skip
      (.exit 4)))
      (.block 6 (.seq (.reg [⟨(some 28), none, .mov (.t 0)⟩,
          ⟨(some 29), none, .mov (.t 4)⟩,
          ⟨(some 30), none, .mov (.t 5)⟩,
          ⟨(some 31), none, .call 42 [(.t 29), (.t 30)]⟩,
          ⟨(some 32), none, .bin .sub (.t 28) (.t 31)⟩,
          ⟨(some 0), none, .mov (.t 32)⟩])
        (.reg [⟨(some 33), none, .mov (.t 5)⟩,
          ⟨(some 34), none, .bin .add (.t 33) (.k (.d (.int .i64 1)))⟩,
          ⟨(some 5), none, .mov (.t 34)⟩]))))))
  (.seq (.reg [⟨(some 35), none, .mov (.t 4)⟩,
    ⟨(some 36), none, .mov (.t 5)⟩,
    ⟨(some 37), none, .mov (.t 0)⟩,
    ⟨(some 38), none, .build [.d (.int .i64 0), .d (.int .i64 0), .d (.int .i64 0)] [(0, 1, (.t 35)), (1, 1, (.t 36)), (2, 1, (.t 37))]⟩,
    ⟨none, none, .store 3 (.t 2) (.t 38)⟩,
    ⟨(some 3), none, .mov (.k (.d (.int .i64 0)))⟩])
  .ret)))))))
def rs41 : List RV := [.cell 2 3 true, .tmp 3]
theorem ok41 : okF Try.prog 41 = true := by kernel_rfl
theorem cc41 : cCode Try.prog Try.f41.ntmps (Try.f41.body.getD .skip) = some c41 := by kernel_rfl
theorem cr41 : cRess Try.prog Try.f41.results.toList = some rs41 := by kernel_rfl
theorem pure41 {args : List V} {res : V} (hlen : args.length ≤ 39) (hna : namesL args = []) (hnr : res.names = []) (h : ∀ c : Ctx, c.P = Try.prog → c.fn = [] → vcC c c41 ⟨initE 0 args, [], []⟩ (RetK c rs41 res [])) : Ctr Try.prog 41 args [] res [] [] :=
  ctr_pure Try.func41 ok41 rfl cc41 cr41 Try.ntmps41 hlen hna hnr h
theorem own41 {args : List V} {ins outs : List (Nat × Own)} {res : V} {new : List Nat} (hlen : args.length ≤ 39) (hf : ctrB args ins res outs new = true) (h : ∀ c : Ctx, c.P = Try.prog → c.fn = namesL args ++ ownNames ins → vcC c c41 ⟨initE 0 args, ins, namesL args ++ ownNames ins⟩ (RetK c rs41 res outs)) : Ctr Try.prog 41 args ins res outs new :=
  ctr_own Try.func41 ok41 rfl cc41 cr41 Try.ntmps41 hlen hf h

/-- bordereau/bordereauref02.Month -/
def c42 : C :=
  (.seq (.reg [⟨(some 4), none, .mov (.k (.d (.int .i64 0)))⟩])
  (.seq (.seq (.reg [⟨(some 5), none, .mov (.t 1)⟩])
  (.block 0 (.seq (.seq (.reg [⟨(some 7), none, .bin .eql (.t 5) (.k (.d (.int .i64 4)))⟩,
      ⟨(some 6), none, .mov (.t 7)⟩])
    (.cond (.t 6) .skip
    (.seq (.reg [⟨(some 8), none, .bin .eql (.t 5) (.k (.d (.int .i64 6)))⟩,
        ⟨(some 6), none, .mov (.t 8)⟩])
      (.cond (.t 6) .skip
      (.seq (.reg [⟨(some 9), none, .bin .eql (.t 5) (.k (.d (.int .i64 9)))⟩,
          ⟨(some 6), none, .mov (.t 9)⟩])
        (.cond (.t 6) .skip
        (.reg [⟨(some 10), none, .bin .eql (.t 5) (.k (.d (.int .i64 11)))⟩,
            ⟨(some 6), none, .mov (.t 10)⟩])))))))
    (.cond (.t 6) (.seq (.reg [⟨(some 4), none, .mov (.k (.d (.int .i64 30)))⟩])
      .ret)
    (.seq (.reg [⟨(some 12), none, .bin .eql (.t 5) (.k (.d (.int .i64 2)))⟩,
        ⟨(some 11), none, .mov (.t 12)⟩])
      (.cond (.t 11) (.seq (.seq (.reg [⟨(some 13), none, .mov (.t 0)⟩,
          ⟨(some 14), none, .call 53 [(.t 13)]⟩])
        (.cond (.t 14) (.seq (.reg [⟨(some 4), none, .mov (.k (.d (.int .i64 29)))⟩])
          .ret)
        .skip))
        (.seq (.reg [⟨(some 4), none, .mov (.k (.d (.int .i64 28)))⟩])
        .ret))
      .skip))))))
  (.seq (.reg [⟨(some 4), none, .mov (.k (.d (.int .i64 31)))⟩])
  .ret)))
def rs42 : List RV := [.tmp 4]
theorem ok42 : okF Try.prog 42 = true := by kernel_rfl
theorem cc42 : cCode Try.prog Try.f42.ntmps (Try.f42.body.getD .skip) = some c42 := by kernel_rfl
theorem cr42 : cRess Try.prog Try.f42.results.toList = some rs42 := by kernel_rfl
theorem pure42 {args : List V} {res : V} (hlen : args.length ≤ 15) (hna : namesL args = []) (hnr : res.names = []) (h : ∀ c : Ctx, c.P = Try.prog → c.fn = [] → vcC c c42 ⟨initE 0 args, [], []⟩ (RetK c rs42 res [])) : Ctr Try.prog 42 args [] res [] [] :=
  ctr_pure Try.func42 ok42 rfl cc42 cr42 Try.ntmps42 hlen hna hnr h
theorem own42 {args : List V} {ins outs : List (Nat × Own)} {res : V} {new : List Nat} (hlen : args.length ≤ 15) (hf : ctrB args ins res outs new = true) (h : ∀ c : Ctx, c.P = Try.prog → c.fn = namesL args ++ ownNames ins → vcC c c42 ⟨initE 0 args, ins, namesL args ++ ownNames ins⟩ (RetK c rs42 res outs)) : Ctr Try.prog 42 args ins res outs new :=
  ctr_own Try.func42 ok42 rfl cc42 cr42 Try.ntmps42 hlen hf h

/-- bordereau/bordereauref02.Number -/
def c43 : C :=
  (.seq (.reg [⟨(some 1), none, .box 55 (.t 0)⟩,
    ⟨(some 2), none, .mov (.k (.d (.int .i64 0)))⟩,
    ⟨(some 3), none, .mov (.k (.d (.int .i64 0)))⟩])
  (.seq (.seq (.reg [⟨(some 7), none, .fadr 0 (.t 1)⟩,
    ⟨(some 8), none, .load 1 false (.t 7)⟩,
    ⟨(some 9), none, .bin .lss (.t 8) (.k (.d (.int .i64 1601)))⟩,
    ⟨(some 10), none, .mov (.t 9)⟩,
    ⟨(some 11), (some (10, false)), .fadr 0 (.t 1)⟩,
    ⟨(some 12), (some (10, false)), .load 1 false (.t 11)⟩,
    ⟨(some 13), (some (10, false)), .bin .gtr (.t 12) (.k (.d (.int .i64 2400)))⟩,
    ⟨(some 14), none, .pick (.t 10) (.k (.d (.bool true))) (.t 13)⟩,
    ⟨(some 15), none, .mov (.t 14)⟩,
    ⟨(some 16), (some (15, false)), .fadr 1 (.t 1)⟩,
    ⟨(some 17), (some (15, false)), .load 1 false (.t 16)⟩,
    ⟨(some 18), (some (15, false)), .bin .lss (.t 17) (.k (.d (.int .i64 1)))⟩,
    ⟨(some 19), none, .pick (.t 15) (.k (.d (.bool true))) (.t 18)⟩,
    ⟨(some 20), none, .mov (.t 19)⟩,
    ⟨(some 21), (some (20, false)), .fadr 1 (.t 1)⟩,
    ⟨(some 22), (some (20, false)), .load 1 false (.t 21)⟩,
    ⟨(some 23), (some (20, false)), .bin .gtr (.t 22) (.k (.d (.int .i64 12)))⟩,
    ⟨(some 24), none, .pick (.t 20) (.k (.d (.bool true))) (.t 23)⟩,
    ⟨(some 25), none, .mov (.t 24)⟩,
    ⟨(some 26), (some (25, false)), .fadr 2 (.t 1)⟩,
    ⟨(some 27), (some (25, false)), .load 1 false (.t 26)⟩,
    ⟨(some 28), (some (25, false)), .bin .lss (.t 27) (.k (.d (.int .i64 1)))⟩,
    ⟨(some 29), none, .pick (.t 25) (.k (.d (.bool true))) (.t 28)⟩])
  (.cond (.t 29) (.seq (.reg [⟨(some 2), none, .mov (.k (.d (.int .i64 0)))⟩,
      ⟨(some 3), none, .mov (.k (.d (.int .i64 3)))⟩])
    .ret)
  .skip))
  (.seq (.seq (.drw [0, 1, 0, 4, 0, 16, 60, 127]
   [⟨(some 30), none, .fadr 2 (.t 1)⟩,
    ⟨(some 31), none, .load 1 false (.t 30)⟩,
    ⟨(some 32), none, .fadr 0 (.t 1)⟩,
    ⟨(some 33), none, .load 1 false (.t 32)⟩,
    ⟨(some 34), none, .fadr 1 (.t 1)⟩,
    ⟨(some 35), none, .load 1 false (.t 34)⟩,
    ⟨(some 36), none, .call 42 [(.t 33), (.t 35)]⟩,
    ⟨(some 37), none, .bin .gtr (.t 31) (.t 36)⟩])
  (.cond (.t 37) (.seq (.reg [⟨(some 2), none, .mov (.k (.d (.int .i64 0)))⟩,
      ⟨(some 3), none, .mov (.k (.d (.int .i64 3)))⟩])
    .ret)
  .skip))
  (.seq (.reg [⟨(some 38), none, .fadr 2 (.t 1)⟩,
    ⟨(some 39), none, .load 1 false (.t 38)⟩,
    ⟨(some 4), none, .mov (.t 39)⟩])
  (.seq (.seq (.reg [⟨(some 5), none, .mov (.k (.d (.int .i64 1601)))⟩])
  (.block 0 (.loop (.seq (.seq (.reg [⟨(some 40), none, .mov (.t 5)⟩,
        ⟨(some 41), none, .fadr 0 (.t 1)⟩,
        ⟨(some 42), none, .load 1 false (.t 41)⟩,
        ⟨(some 43), none, .bin .lss (.t 40) (.t 42)⟩])
      (.cond (.t 43) .skip
      (.exit 0)))
      (.seq (.block 2 (.reg [⟨(some 46), none, .mov (.t 4)⟩,
          ⟨(some 47), none, .mov (.t 5)⟩,
          ⟨(some 48), none, .call 52 [(.t 47)]⟩,
          ⟨(some 49), none, .bin .add (.t 46) (.t 48)⟩,
          ⟨(some 4), none, .mov (.t 49)⟩]))
      (.reg [⟨(some 44), none, .mov (.t 5)⟩,
        ⟨(some 45), none, .bin .add (.t 44) (.k (.d (.int .i64 1)))⟩,
        ⟨(some 5), none, .mov (.t 45)⟩]))))))
  (.seq (.seq (.reg [⟨(some 6), none, .mov (.k (.d (.int .i64 1)))⟩])
  (.block 4 (.loop (.seq (.seq (.reg [⟨(some 50), none, .mov (.t 6)⟩,
        ⟨(some 51), none, .fadr 1 (.t 1)⟩,
        ⟨(some 52), none, .load 1 false (.t 51)⟩,
        ⟨(some 53), none, .bin .lss (.t 50) (.t 52)⟩])
      (.cond (.t 53) .skip
      (.exit 4)))
      (.seq (.block 6 (.reg [⟨(some 56), none, .mov (.t 4)⟩,
          ⟨(some 57), none, .fadr 0 (.t 1)⟩,
          ⟨(some 58), none, .load 1 false (.t 57)⟩,
          ⟨(some 59), none, .mov (.t 6)⟩,
          ⟨(some 60), none, .call 42 [(.t 58), (.t 59)]⟩,
          ⟨(some 61), none, .bin .add (.t 56) (.t 60)⟩,
          ⟨(some 4), none, .mov (.t 61)⟩]))
      (.reg [⟨(some 54), none, .mov (.t 6)⟩,
        ⟨(some 55), none, .bin .add (.t 54) (.k (.d (.int .i64 1)))⟩,
        ⟨(some 6), none, .mov (.t 55)⟩]))))))
  (.seq (.reg [⟨(some 62), none, .mov (.t 4)⟩,
    ⟨(some 2), none, .mov (.t 62)⟩,
    ⟨(some 3), none, .mov (.k (.d (.int .i64 0)))⟩])
  .ret)))))))
def rs43 : List RV := [.tmp 2, .tmp 3]
theorem ok43 : okF Try.prog 43 = true := by kernel_rfl
theorem cc43 : cCode Try.prog Try.f43.ntmps (Try.f43.body.getD .skip) = some c43 := by kernel_rfl
theorem cr43 : cRess Try.prog Try.f43.results.toList = some rs43 := by kernel_rfl
theorem pure43 {args : List V} {res : V} (hlen : args.length ≤ 63) (hna : namesL args = []) (hnr : res.names = []) (h : ∀ c : Ctx, c.P = Try.prog → c.fn = [] → vcC c c43 ⟨initE 0 args, [], []⟩ (RetK c rs43 res [])) : Ctr Try.prog 43 args [] res [] [] :=
  ctr_pure Try.func43 ok43 rfl cc43 cr43 Try.ntmps43 hlen hna hnr h
theorem own43 {args : List V} {ins outs : List (Nat × Own)} {res : V} {new : List Nat} (hlen : args.length ≤ 63) (hf : ctrB args ins res outs new = true) (h : ∀ c : Ctx, c.P = Try.prog → c.fn = namesL args ++ ownNames ins → vcC c c43 ⟨initE 0 args, ins, namesL args ++ ownNames ins⟩ (RetK c rs43 res outs)) : Ctr Try.prog 43 args ins res outs new :=
  ctr_own Try.func43 ok43 rfl cc43 cr43 Try.ntmps43 hlen hf h

/-- bordereau/day.Year -/
def c44 : C :=
  (.seq (.reg [⟨(some 2), none, .mov (.k (.d (.int .i64 0)))⟩,
    ⟨(some 3), none, .mov (.k (.d (.int .i64 0)))⟩])
  (.seq (.seq (.reg [⟨(some 5), none, .mov (.t 0)⟩,
    ⟨(some 6), none, .call 54 [(.t 5)]⟩,
    ⟨(some 7), none, .inv .not (.t 6)⟩])
  (.cond (.t 7) (.seq (.reg [⟨(some 2), none, .mov (.k (.d (.int .i64 0)))⟩,
      ⟨(some 3), none, .mov (.k (.d (.int .i64 3)))⟩])
    .ret)
  .skip))
  (.seq (.reg [⟨(some 8), none, .mov (.t 0)⟩,
    ⟨(some 9), none, .bin .sub (.t 8) (.k (.d (.int .i64 1)))⟩,
    ⟨(some 10), none, .bin .quo (.t 9) (.k (.d (.int .i64 365)))⟩,
    ⟨(some 11), none, .bin .add (.k (.d (.int .i64 1601))) (.t 10)⟩,
    ⟨(some 4), none, .mov (.t 11)⟩])
  (.seq (.block 0 (.loop (.seq (.seq (.reg [⟨(some 12), none, .mov (.t 4)⟩,
        ⟨(some 13), none, .call 45 [(.t 12)]⟩,
        ⟨(some 14), none, .mov (.t 0)⟩,
        ⟨(some 15), none, .bin .geq (.t 13) (.t 14)⟩])
      (.cond (.t 15) .skip
      (.exit 0)))
      (.block 2 (.reg [⟨(some 16), none, .mov (.t 4)⟩,
          ⟨(some 17), none, .bin .sub (.t 16) (.k (.d (.int .i64 1)))⟩,
          ⟨(some 4), none, .mov (.t 17)⟩])))))
  (.seq (.reg [⟨(some 18), none, .mov (.t 4)⟩,
    ⟨(some 2), none, .mov (.t 18)⟩,
    ⟨(some 3), none, .mov (.k (.d (.int .i64 0)))⟩])
  .ret)))))
def rs44 : List RV := [.tmp 2, .tmp 3]
theorem ok44 : okF Try.prog 44 = true := by kernel_rfl
theorem cc44 : cCode Try.prog Try.f44.ntmps (Try.f44.body.getD .skip) = some c44 := by kernel_rfl
theorem cr44 : cRess Try.prog Try.f44.results.toList = some rs44 := by kernel_rfl
theorem pure44 {args : List V} {res : V} (hlen : args.length ≤ 19) (hna : namesL args = []) (hnr : res.names = []) (h : ∀ c : Ctx, c.P = Try.prog → c.fn = [] → vcC c c44 ⟨initE 0 args, [], []⟩ (RetK c rs44 res [])) : Ctr Try.prog 44 args [] res [] [] :=
  ctr_pure Try.func44 ok44 rfl cc44 cr44 Try.ntmps44 hlen hna hnr h
theorem own44 {args : List V} {ins outs : List (Nat × Own)} {res : V} {new : List Nat} (hlen : args.length ≤ 19) (hf : ctrB args ins res outs new = true) (h : ∀ c : Ctx, c.P = Try.prog → c.fn = namesL args ++ ownNames ins → vcC c c44 ⟨initE 0 args, ins, namesL args ++ ownNames ins⟩ (RetK c rs44 res outs)) : Ctr Try.prog 44 args ins res outs new :=
  ctr_own Try.func44 ok44 rfl cc44 cr44 Try.ntmps44 hlen hf h

/-- bordereau/day.ahead -/
def c45 : C :=
  (.seq (.reg [⟨(some 2), none, .mov (.k (.d (.int .i64 0)))⟩])
  (.seq (.reg [⟨(some 4), none, .mov (.t 0)⟩,
    ⟨(some 5), none, .bin .sub (.t 4) (.k (.d (.int .i64 1601)))⟩,
    ⟨(some 3), none, .mov (.t 5)⟩])
  (.seq (.reg [⟨(some 6), none, .mov (.t 3)⟩,
    ⟨(some 7), none, .bin .mul (.t 6) (.k (.d (.int .i64 365)))⟩,
    ⟨(some 8), none, .mov (.t 3)⟩,
    ⟨(some 9), none, .bin .quo (.t 8) (.k (.d (.int .i64 4)))⟩,
    ⟨(some 10), none, .bin .add (.t 7) (.t 9)⟩,
    ⟨(some 11), none, .mov (.t 3)⟩,
    ⟨(some 12), none, .bin .quo (.t 11) (.k (.d (.int .i64 100)))⟩,
    ⟨(some 13), none, .bin .sub (.t 10) (.t 12)⟩,
    ⟨(some 14), none, .mov (.t 3)⟩,
    ⟨(some 15), none, .bin .quo (.t 14) (.k (.d (.int .i64 400)))⟩,
    ⟨(some 16), none, .bin .add (.t 13) (.t 15)⟩,
    ⟨(some 2), none, .mov (.t 16)⟩])
  .ret)))
def rs45 : List RV := [.tmp 2]
theorem ok45 : okF Try.prog 45 = true := by kernel_rfl
theorem cc45 : cCode Try.prog Try.f45.ntmps (Try.f45.body.getD .skip) = some c45 := by kernel_rfl
theorem cr45 : cRess Try.prog Try.f45.results.toList = some rs45 := by kernel_rfl
theorem pure45 {args : List V} {res : V} (hlen : args.length ≤ 17) (hna : namesL args = []) (hnr : res.names = []) (h : ∀ c : Ctx, c.P = Try.prog → c.fn = [] → vcC c c45 ⟨initE 0 args, [], []⟩ (RetK c rs45 res [])) : Ctr Try.prog 45 args [] res [] [] :=
  ctr_pure Try.func45 ok45 rfl cc45 cr45 Try.ntmps45 hlen hna hnr h
theorem own45 {args : List V} {ins outs : List (Nat × Own)} {res : V} {new : List Nat} (hlen : args.length ≤ 17) (hf : ctrB args ins res outs new = true) (h : ∀ c : Ctx, c.P = Try.prog → c.fn = namesL args ++ ownNames ins → vcC c c45 ⟨initE 0 args, ins, namesL args ++ ownNames ins⟩ (RetK c rs45 res outs)) : Ctr Try.prog 45 args ins res outs new :=
  ctr_own Try.func45 ok45 rfl cc45 cr45 Try.ntmps45 hlen hf h

/-- bordereau/day.Leap -/
def c46 : C :=
  (.seq (.reg [⟨(some 2), none, .mov (.k (.d (.bool false)))⟩])
  (.seq (.reg [⟨(some 3), none, .mov (.t 0)⟩,
    ⟨(some 4), none, .bin .rem (.t 3) (.k (.d (.int .i64 4)))⟩,
    ⟨(some 5), none, .bin .eql (.t 4) (.k (.d (.int .i64 0)))⟩,
    ⟨(some 6), none, .mov (.t 5)⟩,
    ⟨(some 7), (some (6, true)), .mov (.t 0)⟩,
    ⟨(some 8), (some (6, true)), .bin .rem (.t 7) (.k (.d (.int .i64 100)))⟩,
    ⟨(some 9), (some (6, true)), .bin .neq (.t 8) (.k (.d (.int .i64 0)))⟩,
    ⟨(some 10), (some (6, true)), .mov (.t 9)⟩,
    ⟨(some 11), (some (10, false)), .mov (.t 0)⟩,
    ⟨(some 12), (some (10, false)), .bin .rem (.t 11) (.k (.d (.int .i64 400)))⟩,
    ⟨(some 13), (some (10, false)), .bin .eql (.t 12) (.k (.d (.int .i64 0)))⟩,
    ⟨(some 14), (some (6, true)), .pick (.t 10) (.k (.d (.bool true))) (.t 13)⟩,
    ⟨(some 15), none, .pick (.t 6) (.t 14) (.k (.d (.bool false)))⟩,
    ⟨(some 2), none, .mov (.t 15)⟩])
  .ret))
def rs46 : List RV := [.tmp 2]
theorem ok46 : okF Try.prog 46 = true := by kernel_rfl
theorem cc46 : cCode Try.prog Try.f46.ntmps (Try.f46.body.getD .skip) = some c46 := by kernel_rfl
theorem cr46 : cRess Try.prog Try.f46.results.toList = some rs46 := by kernel_rfl
theorem pure46 {args : List V} {res : V} (hlen : args.length ≤ 16) (hna : namesL args = []) (hnr : res.names = []) (h : ∀ c : Ctx, c.P = Try.prog → c.fn = [] → vcC c c46 ⟨initE 0 args, [], []⟩ (RetK c rs46 res [])) : Ctr Try.prog 46 args [] res [] [] :=
  ctr_pure Try.func46 ok46 rfl cc46 cr46 Try.ntmps46 hlen hna hnr h
theorem own46 {args : List V} {ins outs : List (Nat × Own)} {res : V} {new : List Nat} (hlen : args.length ≤ 16) (hf : ctrB args ins res outs new = true) (h : ∀ c : Ctx, c.P = Try.prog → c.fn = namesL args ++ ownNames ins → vcC c c46 ⟨initE 0 args, ins, namesL args ++ ownNames ins⟩ (RetK c rs46 res outs)) : Ctr Try.prog 46 args ins res outs new :=
  ctr_own Try.func46 ok46 rfl cc46 cr46 Try.ntmps46 hlen hf h

/-- bordereau/day.right -/
def c47 : C :=
  (.seq (.reg [⟨(some 1), none, .box 55 (.t 0)⟩,
    ⟨(some 2), none, .mov (.k (.d (.bool false)))⟩])
  (.seq (.seq (.reg [⟨(some 3), none, .fadr 0 (.t 1)⟩,
    ⟨(some 4), none, .load 1 false (.t 3)⟩,
    ⟨(some 5), none, .bin .lss (.t 4) (.k (.d (.int .i64 1601)))⟩,
    ⟨(some 6), none, .mov (.t 5)⟩,
    ⟨(some 7), (some (6, false)), .fadr 0 (.t 1)⟩,
    ⟨(some 8), (some (6, false)), .load 1 false (.t 7)⟩,
    ⟨(some 9), (some (6, false)), .bin .gtr (.t 8) (.k (.d (.int .i64 2400)))⟩,
    ⟨(some 10), none, .pick (.t 6) (.k (.d (.bool true))) (.t 9)⟩,
    ⟨(some 11), none, .mov (.t 10)⟩,
    ⟨(some 12), (some (11, false)), .fadr 1 (.t 1)⟩,
    ⟨(some 13), (some (11, false)), .load 1 false (.t 12)⟩,
    ⟨(some 14), (some (11, false)), .bin .lss (.t 13) (.k (.d (.int .i64 1)))⟩,
    ⟨(some 15), none, .pick (.t 11) (.k (.d (.bool true))) (.t 14)⟩,
    ⟨(some 16), none, .mov (.t 15)⟩,
    ⟨(some 17), (some (16, false)), .fadr 1 (.t 1)⟩,
    ⟨(some 18), (some (16, false)), .load 1 false (.t 17)⟩,
    ⟨(some 19), (some (16, false)), .bin .gtr (.t 18) (.k (.d (.int .i64 12)))⟩,
    ⟨(some 20), none, .pick (.t 16) (.k (.d (.bool true))) (.t 19)⟩])
  (.cond (.t 20) (.seq (.reg [⟨(some 2), none, .mov (.k (.d (.bool false)))⟩])
    .ret)
  .skip))
  (.seq (.drw [0, 1, 3, 7, 15, 31, 15, 79, 207, 15, 527, 1551, 4047, 8191, 16383, 32767]
   [⟨(some 21), none, .fadr 2 (.t 1)⟩,
    ⟨(some 22), none, .load 1 false (.t 21)⟩,
    ⟨(some 23), none, .bin .geq (.t 22) (.k (.d (.int .i64 1)))⟩,
    ⟨(some 24), none, .mov (.t 23)⟩,
    ⟨(some 25), (some (24, true)), .fadr 2 (.t 1)⟩,
    ⟨(some 26), (some (24, true)), .load 1 false (.t 25)⟩,
    ⟨(some 27), (some (24, true)), .fadr 0 (.t 1)⟩,
    ⟨(some 28), (some (24, true)), .load 1 false (.t 27)⟩,
    ⟨(some 29), (some (24, true)), .call 34 [(.t 28)]⟩,
    ⟨(some 30), (some (24, true)), .fadr 1 (.t 1)⟩,
    ⟨(some 31), (some (24, true)), .load 1 false (.t 30)⟩,
    ⟨(some 32), (some (24, true)), .bin .sub (.t 31) (.k (.d (.int .i64 1)))⟩,
    ⟨(some 33), (some (24, true)), .idx 1 12 false (.t 29) (.t 32)⟩,
    ⟨(some 34), (some (24, true)), .bin .leq (.t 26) (.t 33)⟩,
    ⟨(some 35), none, .pick (.t 24) (.t 34) (.k (.d (.bool false)))⟩,
    ⟨(some 2), none, .mov (.t 35)⟩])
  .ret)))
def rs47 : List RV := [.tmp 2]
theorem ok47 : okF Try.prog 47 = true := by kernel_rfl
theorem cc47 : cCode Try.prog Try.f47.ntmps (Try.f47.body.getD .skip) = some c47 := by kernel_rfl
theorem cr47 : cRess Try.prog Try.f47.results.toList = some rs47 := by kernel_rfl
theorem pure47 {args : List V} {res : V} (hlen : args.length ≤ 36) (hna : namesL args = []) (hnr : res.names = []) (h : ∀ c : Ctx, c.P = Try.prog → c.fn = [] → vcC c c47 ⟨initE 0 args, [], []⟩ (RetK c rs47 res [])) : Ctr Try.prog 47 args [] res [] [] :=
  ctr_pure Try.func47 ok47 rfl cc47 cr47 Try.ntmps47 hlen hna hnr h
theorem own47 {args : List V} {ins outs : List (Nat × Own)} {res : V} {new : List Nat} (hlen : args.length ≤ 36) (hf : ctrB args ins res outs new = true) (h : ∀ c : Ctx, c.P = Try.prog → c.fn = namesL args ++ ownNames ins → vcC c c47 ⟨initE 0 args, ins, namesL args ++ ownNames ins⟩ (RetK c rs47 res outs)) : Ctr Try.prog 47 args ins res outs new :=
  ctr_own Try.func47 ok47 rfl cc47 cr47 Try.ntmps47 hlen hf h

/-- bordereau/span.Right -/
def c48 : C :=
  (.seq (.reg [⟨(some 1), none, .box 23 (.t 0)⟩,
    ⟨(some 2), none, .mov (.k (.d (.bool false)))⟩])
  (.seq (.reg [⟨(some 3), none, .fadr 0 (.t 1)⟩,
    ⟨(some 4), none, .load 1 false (.t 3)⟩,
    ⟨(some 5), none, .bin .geq (.t 4) (.k (.d (.int .i64 1)))⟩,
    ⟨(some 6), none, .mov (.t 5)⟩,
    ⟨(some 7), (some (6, true)), .fadr 0 (.t 1)⟩,
    ⟨(some 8), (some (6, true)), .load 1 false (.t 7)⟩,
    ⟨(some 9), (some (6, true)), .fadr 1 (.t 1)⟩,
    ⟨(some 10), (some (6, true)), .load 1 false (.t 9)⟩,
    ⟨(some 11), (some (6, true)), .bin .leq (.t 8) (.t 10)⟩,
    ⟨(some 12), none, .pick (.t 6) (.t 11) (.k (.d (.bool false)))⟩,
    ⟨(some 13), none, .mov (.t 12)⟩,
    ⟨(some 14), (some (13, true)), .fadr 1 (.t 1)⟩,
    ⟨(some 15), (some (13, true)), .load 1 false (.t 14)⟩,
    ⟨(some 16), (some (13, true)), .bin .leq (.t 15) (.k (.d (.int .i64 292195)))⟩,
    ⟨(some 17), none, .pick (.t 13) (.t 16) (.k (.d (.bool false)))⟩,
    ⟨(some 2), none, .mov (.t 17)⟩])
  .ret))
def rs48 : List RV := [.tmp 2]
theorem ok48 : okF Try.prog 48 = true := by kernel_rfl
theorem cc48 : cCode Try.prog Try.f48.ntmps (Try.f48.body.getD .skip) = some c48 := by kernel_rfl
theorem cr48 : cRess Try.prog Try.f48.results.toList = some rs48 := by kernel_rfl
theorem pure48 {args : List V} {res : V} (hlen : args.length ≤ 18) (hna : namesL args = []) (hnr : res.names = []) (h : ∀ c : Ctx, c.P = Try.prog → c.fn = [] → vcC c c48 ⟨initE 0 args, [], []⟩ (RetK c rs48 res [])) : Ctr Try.prog 48 args [] res [] [] :=
  ctr_pure Try.func48 ok48 rfl cc48 cr48 Try.ntmps48 hlen hna hnr h
theorem own48 {args : List V} {ins outs : List (Nat × Own)} {res : V} {new : List Nat} (hlen : args.length ≤ 18) (hf : ctrB args ins res outs new = true) (h : ∀ c : Ctx, c.P = Try.prog → c.fn = namesL args ++ ownNames ins → vcC c c48 ⟨initE 0 args, ins, namesL args ++ ownNames ins⟩ (RetK c rs48 res outs)) : Ctr Try.prog 48 args ins res outs new :=
  ctr_own Try.func48 ok48 rfl cc48 cr48 Try.ntmps48 hlen hf h

/-- bordereau/num.runner -/
def c49 : C :=
  (.seq (.reg [⟨(some 0), none, .mov (.k (.d (.raw .nilFunc)))⟩])
  (.seq (.reg [⟨(some 1), none, .alloc 3 [.d (.int .i64 0)]⟩,
    ⟨none, none, .store 1 (.t 1) (.k (.d (.int .i64 0)))⟩])
  (.seq (.reg [⟨(some 2), none, .mkfn (.func 55) [] [(.t 1)]⟩,
    ⟨(some 0), none, .mov (.t 2)⟩])
  .ret)))
def rs49 : List RV := [.tmp 0]
theorem ok49 : okF Try.prog 49 = true := by kernel_rfl
theorem cc49 : cCode Try.prog Try.f49.ntmps (Try.f49.body.getD .skip) = some c49 := by kernel_rfl
theorem cr49 : cRess Try.prog Try.f49.results.toList = some rs49 := by kernel_rfl
theorem pure49 {args : List V} {res : V} (hlen : args.length ≤ 3) (hna : namesL args = []) (hnr : res.names = []) (h : ∀ c : Ctx, c.P = Try.prog → c.fn = [] → vcC c c49 ⟨initE 0 args, [], []⟩ (RetK c rs49 res [])) : Ctr Try.prog 49 args [] res [] [] :=
  ctr_pure Try.func49 ok49 rfl cc49 cr49 Try.ntmps49 hlen hna hnr h
theorem own49 {args : List V} {ins outs : List (Nat × Own)} {res : V} {new : List Nat} (hlen : args.length ≤ 3) (hf : ctrB args ins res outs new = true) (h : ∀ c : Ctx, c.P = Try.prog → c.fn = namesL args ++ ownNames ins → vcC c c49 ⟨initE 0 args, ins, namesL args ++ ownNames ins⟩ (RetK c rs49 res outs)) : Ctr Try.prog 49 args ins res outs new :=
  ctr_own Try.func49 ok49 rfl cc49 cr49 Try.ntmps49 hlen hf h

/-- bordereau/num.Down -/
def c50 : C :=
  (.seq (.reg [⟨(some 6), none, .mov (.k (.d (.int .i64 0)))⟩,
    ⟨(some 7), none, .mov (.k (.d (.int .i64 0)))⟩])
  (.seq (.reg [⟨(some 8), none, .call 56 []⟩,
    ⟨(some 9), none, .mov (.t 0)⟩,
    ⟨(some 10), none, .mov (.t 1)⟩,
    ⟨(some 11), none, .mov (.t 2)⟩,
    ⟨(some 12), none, .call 57 [(.t 8), (.t 9), (.t 10), (.t 11)]⟩,
    ⟨(some 13), none, .ext 0 (.t 12)⟩,
    ⟨(some 14), none, .ext 1 (.t 12)⟩,
    ⟨(some 6), none, .mov (.t 13)⟩,
    ⟨(some 7), none, .mov (.t 14)⟩])
  .ret))
def rs50 : List RV := [.tmp 6, .tmp 7]
theorem ok50 : okF Try.prog 50 = true := by kernel_rfl
theorem cc50 : cCode Try.prog Try.f50.ntmps (Try.f50.body.getD .skip) = some c50 := by kernel_rfl
theorem cr50 : cRess Try.prog Try.f50.results.toList = some rs50 := by kernel_rfl
theorem pure50 {args : List V} {res : V} (hlen : args.length ≤ 15) (hna : namesL args = []) (hnr : res.names = []) (h : ∀ c : Ctx, c.P = Try.prog → c.fn = [] → vcC c c50 ⟨initE 0 args, [], []⟩ (RetK c rs50 res [])) : Ctr Try.prog 50 args [] res [] [] :=
  ctr_pure Try.func50 ok50 rfl cc50 cr50 Try.ntmps50 hlen hna hnr h
theorem own50 {args : List V} {ins outs : List (Nat × Own)} {res : V} {new : List Nat} (hlen : args.length ≤ 15) (hf : ctrB args ins res outs new = true) (h : ∀ c : Ctx, c.P = Try.prog → c.fn = namesL args ++ ownNames ins → vcC c c50 ⟨initE 0 args, ins, namesL args ++ ownNames ins⟩ (RetK c rs50 res outs)) : Ctr Try.prog 50 args ins res outs new :=
  ctr_own Try.func50 ok50 rfl cc50 cr50 Try.ntmps50 hlen hf h

/-- math/bits.Mul -/
def c51 : C :=
  (.seq (.reg [⟨(some 4), none, .mov (.k (.d (.int .u64 0)))⟩,
    ⟨(some 5), none, .mov (.k (.d (.int .u64 0)))⟩])
  (.seq (.cond (.k (.d (.bool false))) (.seq (.reg [⟨(some 11), none, .mov (.t 0)⟩,
      ⟨(some 12), none, .conv .u32 (.t 11)⟩,
      ⟨(some 13), none, .mov (.t 1)⟩,
      ⟨(some 14), none, .conv .u32 (.t 13)⟩,
      ⟨(some 15), none, .call 58 [(.t 12), (.t 14)]⟩,
      ⟨(some 10), none, .mov (.t 15)⟩,
      ⟨(some 16), none, .ext 0 (.t 10)⟩,
      ⟨(some 17), none, .ext 1 (.t 10)⟩,
      ⟨(some 6), none, .mov (.t 16)⟩,
      ⟨(some 7), none, .mov (.t 17)⟩])
    (.seq (.reg [⟨(some 18), none, .mov (.t 6)⟩,
      ⟨(some 19), none, .conv .u64 (.t 18)⟩,
      ⟨(some 20), none, .mov (.t 7)⟩,
      ⟨(some 21), none, .conv .u64 (.t 20)⟩,
      ⟨(some 4), none, .mov (.t 19)⟩,
      ⟨(some 5), none, .mov (.t 21)⟩])
    .ret))
  .skip)
  (.seq (.reg [⟨(some 23), none, .mov (.t 0)⟩,
    ⟨(some 24), none, .mov (.t 1)⟩,
    ⟨(some 25), none, .call 59 [(.t 23), (.t 24)]⟩,
    ⟨(some 22), none, .mov (.t 25)⟩,
    ⟨(some 26), none, .ext 0 (.t 22)⟩,
    ⟨(some 27), none, .ext 1 (.t 22)⟩,
    ⟨(some 8), none, .mov (.t 26)⟩,
    ⟨(some 9), none, .mov (.t 27)⟩])
  (.seq (.reg [⟨(some 28), none, .mov (.t 8)⟩,
    ⟨(some 29), none, .mov (.t 9)⟩,
    ⟨(some 4), none, .mov (.t 28)⟩,
    ⟨(some 5), none, .mov (.t 29)⟩])
  .ret))))
def rs51 : List RV := [.tmp 4, .tmp 5]
theorem ok51 : okF Try.prog 51 = true := by kernel_rfl
theorem cc51 : cCode Try.prog Try.f51.ntmps (Try.f51.body.getD .skip) = some c51 := by kernel_rfl
theorem cr51 : cRess Try.prog Try.f51.results.toList = some rs51 := by kernel_rfl
theorem pure51 {args : List V} {res : V} (hlen : args.length ≤ 30) (hna : namesL args = []) (hnr : res.names = []) (h : ∀ c : Ctx, c.P = Try.prog → c.fn = [] → vcC c c51 ⟨initE 0 args, [], []⟩ (RetK c rs51 res [])) : Ctr Try.prog 51 args [] res [] [] :=
  ctr_pure Try.func51 ok51 rfl cc51 cr51 Try.ntmps51 hlen hna hnr h
theorem own51 {args : List V} {ins outs : List (Nat × Own)} {res : V} {new : List Nat} (hlen : args.length ≤ 30) (hf : ctrB args ins res outs new = true) (h : ∀ c : Ctx, c.P = Try.prog → c.fn = namesL args ++ ownNames ins → vcC c c51 ⟨initE 0 args, ins, namesL args ++ ownNames ins⟩ (RetK c rs51 res outs)) : Ctr Try.prog 51 args ins res outs new :=
  ctr_own Try.func51 ok51 rfl cc51 cr51 Try.ntmps51 hlen hf h

/-- bordereau/bordereauref02.year -/
def c52 : C :=
  (.seq (.reg [⟨(some 2), none, .mov (.k (.d (.int .i64 0)))⟩])
  (.seq (.seq (.reg [⟨(some 3), none, .mov (.t 0)⟩,
    ⟨(some 4), none, .call 53 [(.t 3)]⟩])
  (.cond (.t 4) (.seq (.reg [⟨(some 2), none, .mov (.k (.d (.int .i64 366)))⟩])
    .ret)
  .skip))
  (.seq (.reg [⟨(some 2), none, .mov (.k (.d (.int .i64 365)))⟩])
  .ret)))
def rs52 : List RV := [.tmp 2]
theorem ok52 : okF Try.prog 52 = true := by kernel_rfl
theorem cc52 : cCode Try.prog Try.f52.ntmps (Try.f52.body.getD .skip) = some c52 := by kernel_rfl
theorem cr52 : cRess Try.prog Try.f52.results.toList = some rs52 := by kernel_rfl
theorem pure52 {args : List V} {res : V} (hlen : args.length ≤ 5) (hna : namesL args = []) (hnr : res.names = []) (h : ∀ c : Ctx, c.P = Try.prog → c.fn = [] → vcC c c52 ⟨initE 0 args, [], []⟩ (RetK c rs52 res [])) : Ctr Try.prog 52 args [] res [] [] :=
  ctr_pure Try.func52 ok52 rfl cc52 cr52 Try.ntmps52 hlen hna hnr h
theorem own52 {args : List V} {ins outs : List (Nat × Own)} {res : V} {new : List Nat} (hlen : args.length ≤ 5) (hf : ctrB args ins res outs new = true) (h : ∀ c : Ctx, c.P = Try.prog → c.fn = namesL args ++ ownNames ins → vcC c c52 ⟨initE 0 args, ins, namesL args ++ ownNames ins⟩ (RetK c rs52 res outs)) : Ctr Try.prog 52 args ins res outs new :=
  ctr_own Try.func52 ok52 rfl cc52 cr52 Try.ntmps52 hlen hf h

/-- bordereau/bordereauref02.Leap -/
def c53 : C :=
  (.seq (.reg [⟨(some 2), none, .mov (.k (.d (.bool false)))⟩])
  (.seq (.seq (.reg [⟨(some 3), none, .mov (.t 0)⟩,
    ⟨(some 4), none, .bin .rem (.t 3) (.k (.d (.int .i64 400)))⟩,
    ⟨(some 5), none, .bin .eql (.t 4) (.k (.d (.int .i64 0)))⟩])
  (.cond (.t 5) (.seq (.reg [⟨(some 2), none, .mov (.k (.d (.bool true)))⟩])
    .ret)
  .skip))
  (.seq (.reg [⟨(some 6), none, .mov (.t 0)⟩,
    ⟨(some 7), none, .bin .rem (.t 6) (.k (.d (.int .i64 4)))⟩,
    ⟨(some 8), none, .bin .eql (.t 7) (.k (.d (.int .i64 0)))⟩,
    ⟨(some 9), none, .mov (.t 8)⟩,
    ⟨(some 10), (some (9, true)), .mov (.t 0)⟩,
    ⟨(some 11), (some (9, true)), .bin .rem (.t 10) (.k (.d (.int .i64 100)))⟩,
    ⟨(some 12), (some (9, true)), .bin .neq (.t 11) (.k (.d (.int .i64 0)))⟩,
    ⟨(some 13), none, .pick (.t 9) (.t 12) (.k (.d (.bool false)))⟩,
    ⟨(some 2), none, .mov (.t 13)⟩])
  .ret)))
def rs53 : List RV := [.tmp 2]
theorem ok53 : okF Try.prog 53 = true := by kernel_rfl
theorem cc53 : cCode Try.prog Try.f53.ntmps (Try.f53.body.getD .skip) = some c53 := by kernel_rfl
theorem cr53 : cRess Try.prog Try.f53.results.toList = some rs53 := by kernel_rfl
theorem pure53 {args : List V} {res : V} (hlen : args.length ≤ 14) (hna : namesL args = []) (hnr : res.names = []) (h : ∀ c : Ctx, c.P = Try.prog → c.fn = [] → vcC c c53 ⟨initE 0 args, [], []⟩ (RetK c rs53 res [])) : Ctr Try.prog 53 args [] res [] [] :=
  ctr_pure Try.func53 ok53 rfl cc53 cr53 Try.ntmps53 hlen hna hnr h
theorem own53 {args : List V} {ins outs : List (Nat × Own)} {res : V} {new : List Nat} (hlen : args.length ≤ 14) (hf : ctrB args ins res outs new = true) (h : ∀ c : Ctx, c.P = Try.prog → c.fn = namesL args ++ ownNames ins → vcC c c53 ⟨initE 0 args, ins, namesL args ++ ownNames ins⟩ (RetK c rs53 res outs)) : Ctr Try.prog 53 args ins res outs new :=
  ctr_own Try.func53 ok53 rfl cc53 cr53 Try.ntmps53 hlen hf h

/-- bordereau/day.is -/
def c54 : C :=
  (.seq (.reg [⟨(some 2), none, .mov (.k (.d (.bool false)))⟩])
  (.seq (.reg [⟨(some 3), none, .mov (.t 0)⟩,
    ⟨(some 4), none, .bin .geq (.t 3) (.k (.d (.int .i64 1)))⟩,
    ⟨(some 5), none, .mov (.t 4)⟩,
    ⟨(some 6), (some (5, true)), .mov (.t 0)⟩,
    ⟨(some 7), (some (5, true)), .bin .leq (.t 6) (.k (.d (.int .i64 292194)))⟩,
    ⟨(some 8), none, .pick (.t 5) (.t 7) (.k (.d (.bool false)))⟩,
    ⟨(some 2), none, .mov (.t 8)⟩])
  .ret))
def rs54 : List RV := [.tmp 2]
theorem ok54 : okF Try.prog 54 = true := by kernel_rfl
theorem cc54 : cCode Try.prog Try.f54.ntmps (Try.f54.body.getD .skip) = some c54 := by kernel_rfl
theorem cr54 : cRess Try.prog Try.f54.results.toList = some rs54 := by kernel_rfl
theorem pure54 {args : List V} {res : V} (hlen : args.length ≤ 9) (hna : namesL args = []) (hnr : res.names = []) (h : ∀ c : Ctx, c.P = Try.prog → c.fn = [] → vcC c c54 ⟨initE 0 args, [], []⟩ (RetK c rs54 res [])) : Ctr Try.prog 54 args [] res [] [] :=
  ctr_pure Try.func54 ok54 rfl cc54 cr54 Try.ntmps54 hlen hna hnr h
theorem own54 {args : List V} {ins outs : List (Nat × Own)} {res : V} {new : List Nat} (hlen : args.length ≤ 9) (hf : ctrB args ins res outs new = true) (h : ∀ c : Ctx, c.P = Try.prog → c.fn = namesL args ++ ownNames ins → vcC c c54 ⟨initE 0 args, ins, namesL args ++ ownNames ins⟩ (RetK c rs54 res outs)) : Ctr Try.prog 54 args ins res outs new :=
  ctr_own Try.func54 ok54 rfl cc54 cr54 Try.ntmps54 hlen hf h

/-- bordereau/num.runner$1 -/
def c55 : C :=
  (.seq (.reg [⟨(some 3), none, .mov (.k (.d (.int .i64 0)))⟩,
    ⟨(some 4), none, .mov (.k (.d (.int .i64 0)))⟩])
  (.seq (.seq (.reg [⟨(some 5), none, .mov (.t 0)⟩,
    ⟨(some 6), none, .bin .lss (.t 5) (.k (.d (.int .i64 0)))⟩])
  (.cond (.t 6) (.seq (.reg [⟨(some 3), none, .mov (.k (.d (.int .i64 0)))⟩,
      ⟨(some 4), none, .mov (.k (.d (.int .i64 1)))⟩])
    .ret)
  .skip))
  (.seq (.seq (.reg [⟨(some 7), none, .load 1 false (.t 1)⟩,
    ⟨(some 8), none, .mov (.t 0)⟩,
    ⟨(some 9), none, .bin .add (.t 7) (.t 8)⟩,
    ⟨none, none, .store 1 (.t 1) (.t 9)⟩])
  (.seq (.reg [⟨(some 10), none, .load 1 false (.t 1)⟩,
    ⟨(some 11), none, .bin .gtr (.t 10) (.k (.d (.int .i64 4000000000000000000)))⟩,
    ⟨(some 12), none, .mov (.t 11)⟩,
    ⟨(some 13), (some (12, false)), .load 1 false (.t 1)⟩,
    ⟨(some 14), (some (12, false)), .bin .lss (.t 13) (.k (.d (.int .i64 0)))⟩,
    ⟨(some 15), none, .pick (.t 12) (.k (.d (.bool true))) (.t 14)⟩])
  (.cond (.t 15) (.seq (.reg [⟨none, none, .store 1 (.t 1) (.k (.d (.int .i64 4000000000000000001)))⟩])
    (.seq (.reg [⟨(some 3), none, .mov (.k (.d (.int .i64 0)))⟩,
      ⟨(some 4), none, .mov (.k (.d (.int .i64 5)))⟩])
    .ret))
  .skip)))
  (.seq (.reg [⟨(some 16), none, .load 1 false (.t 1)⟩,
    ⟨(some 3), none, .mov (.t 16)⟩,
    ⟨(some 4), none, .mov (.k (.d (.int .i64 0)))⟩])
  .ret))))
def rs55 : List RV := [.tmp 3, .tmp 4]
theorem ok55 : okF Try.prog 55 = true := by kernel_rfl
theorem cc55 : cCode Try.prog Try.f55.ntmps (Try.f55.body.getD .skip) = some c55 := by kernel_rfl
theorem cr55 : cRess Try.prog Try.f55.results.toList = some rs55 := by kernel_rfl
theorem pure55 {args : List V} {res : V} (hlen : args.length ≤ 17) (hna : namesL args = []) (hnr : res.names = []) (h : ∀ c : Ctx, c.P = Try.prog → c.fn = [] → vcC c c55 ⟨initE 0 args, [], []⟩ (RetK c rs55 res [])) : Ctr Try.prog 55 args [] res [] [] :=
  ctr_pure Try.func55 ok55 rfl cc55 cr55 Try.ntmps55 hlen hna hnr h
theorem own55 {args : List V} {ins outs : List (Nat × Own)} {res : V} {new : List Nat} (hlen : args.length ≤ 17) (hf : ctrB args ins res outs new = true) (h : ∀ c : Ctx, c.P = Try.prog → c.fn = namesL args ++ ownNames ins → vcC c c55 ⟨initE 0 args, ins, namesL args ++ ownNames ins⟩ (RetK c rs55 res outs)) : Ctr Try.prog 55 args ins res outs new :=
  ctr_own Try.func55 ok55 rfl cc55 cr55 Try.ntmps55 hlen hf h

/-- bordereau/num.down -/
def c56 : C :=
  (.seq (.reg [⟨(some 0), none, .alloc 78 [.d (.raw .nilFunc)]⟩])
  (.seq (.reg [⟨(some 1), none, .build [.d (.raw .nilFunc)] [(0, 1, (.k (.fn (.func 60) [] [])))]⟩,
    ⟨none, none, .store 1 (.t 0) (.t 1)⟩])
  .ret))
def rs56 : List RV := [.cell 0 1 true]
theorem ok56 : okF Try.prog 56 = true := by kernel_rfl
theorem cc56 : cCode Try.prog Try.f56.ntmps (Try.f56.body.getD .skip) = some c56 := by kernel_rfl
theorem cr56 : cRess Try.prog Try.f56.results.toList = some rs56 := by kernel_rfl
theorem pure56 {args : List V} {res : V} (hlen : args.length ≤ 2) (hna : namesL args = []) (hnr : res.names = []) (h : ∀ c : Ctx, c.P = Try.prog → c.fn = [] → vcC c c56 ⟨initE 0 args, [], []⟩ (RetK c rs56 res [])) : Ctr Try.prog 56 args [] res [] [] :=
  ctr_pure Try.func56 ok56 rfl cc56 cr56 Try.ntmps56 hlen hna hnr h
theorem own56 {args : List V} {ins outs : List (Nat × Own)} {res : V} {new : List Nat} (hlen : args.length ≤ 2) (hf : ctrB args ins res outs new = true) (h : ∀ c : Ctx, c.P = Try.prog → c.fn = namesL args ++ ownNames ins → vcC c c56 ⟨initE 0 args, ins, namesL args ++ ownNames ins⟩ (RetK c rs56 res outs)) : Ctr Try.prog 56 args ins res outs new :=
  ctr_own Try.func56 ok56 rfl cc56 cr56 Try.ntmps56 hlen hf h

/-- (bordereau/num.rounding).of -/
def c57 : C :=
  (.seq (.reg [⟨(some 4), none, .box 78 (.t 0)⟩,
    ⟨(some 8), none, .mov (.k (.d (.int .i64 0)))⟩,
    ⟨(some 9), none, .mov (.k (.d (.int .i64 0)))⟩])
  (.seq (.block 0 (.seq (.reg [⟨(some 15), none, .mov (.t 1)⟩,
      ⟨(some 16), none, .bin .lss (.t 15) (.k (.d (.int .i64 0)))⟩,
      ⟨(some 17), none, .mov (.t 16)⟩,
      ⟨(some 18), (some (17, false)), .mov (.t 2)⟩,
      ⟨(some 19), (some (17, false)), .bin .lss (.t 18) (.k (.d (.int .i64 0)))⟩,
      ⟨(some 20), none, .pick (.t 17) (.k (.d (.bool true))) (.t 19)⟩,
      ⟨(some 21), none, .mov (.t 20)⟩,
      ⟨(some 22), (some (21, false)), .mov (.t 3)⟩,
      ⟨(some 23), (some (21, false)), .bin .lss (.t 22) (.k (.d (.int .i64 0)))⟩,
      ⟨(some 24), none, .pick (.t 21) (.k (.d (.bool true))) (.t 23)⟩,
      ⟨(some 14), none, .mov (.t 24)⟩])
    (.cond (.t 14) (.seq (.reg [⟨(some 8), none, .mov (.k (.d (.int .i64 0)))⟩,
        ⟨(some 9), none, .mov (.k (.d (.int .i64 1)))⟩])
      .ret)
    (.seq (.reg [⟨(some 26), none, .mov (.t 3)⟩,
        ⟨(some 27), none, .bin .eql (.t 26) (.k (.d (.int .i64 0)))⟩,
        ⟨(some 25), none, .mov (.t 27)⟩])
      (.cond (.t 25) (.seq (.reg [⟨(some 8), none, .mov (.k (.d (.int .i64 0)))⟩,
          ⟨(some 9), none, .mov (.k (.d (.int .i64 6)))⟩])
        .ret)
      .skip)))))
  (.seq (.reg [⟨(some 29), none, .mov (.t 1)⟩,
    ⟨(some 30), none, .conv .u64 (.t 29)⟩,
    ⟨(some 31), none, .mov (.t 2)⟩,
    ⟨(some 32), none, .conv .u64 (.t 31)⟩,
    ⟨(some 33), none, .call 59 [(.t 30), (.t 32)]⟩,
    ⟨(some 28), none, .mov (.t 33)⟩,
    ⟨(some 34), none, .ext 0 (.t 28)⟩,
    ⟨(some 35), none, .ext 1 (.t 28)⟩,
    ⟨(some 10), none, .mov (.t 34)⟩,
    ⟨(some 11), none, .mov (.t 35)⟩])
  (.seq (.seq (.reg [⟨(some 36), none, .mov (.t 10)⟩,
    ⟨(some 37), none, .mov (.t 3)⟩,
    ⟨(some 38), none, .conv .u64 (.t 37)⟩,
    ⟨(some 39), none, .bin .geq (.t 36) (.t 38)⟩])
  (.cond (.t 39) (.seq (.reg [⟨(some 8), none, .mov (.k (.d (.int .i64 0)))⟩,
      ⟨(some 9), none, .mov (.k (.d (.int .i64 5)))⟩])
    .ret)
  .skip))
  (.seq (.reg [⟨(some 41), none, .mov (.t 10)⟩,
    ⟨(some 42), none, .mov (.t 11)⟩,
    ⟨(some 43), none, .mov (.t 3)⟩,
    ⟨(some 44), none, .conv .u64 (.t 43)⟩,
    ⟨(some 45), none, .call 61 [(.t 41), (.t 42), (.t 44)]⟩,
    ⟨(some 40), none, .mov (.t 45)⟩,
    ⟨(some 46), none, .ext 0 (.t 40)⟩,
    ⟨(some 47), none, .ext 1 (.t 40)⟩,
    ⟨(some 12), none, .mov (.t 46)⟩,
    ⟨(some 13), none, .mov (.t 47)⟩])
  (.seq (.seq (.reg [⟨(some 48), none, .mov (.t 12)⟩,
    ⟨(some 49), none, .bin .gtr (.t 48) (.k (.d (.int .u64 4000000000000000000)))⟩])
  (.cond (.t 49) (.seq (.reg [⟨(some 8), none, .mov (.k (.d (.int .i64 0)))⟩,
      ⟨(some 9), none, .mov (.k (.d (.int .i64 5)))⟩])
    .ret)
  .skip))
  (.seq (.seq (.reg [⟨(some 50), none, .fadr 0 (.t 4)⟩,
    ⟨(some 51), none, .load 1 false (.t 50)⟩,
    ⟨(some 52), none, .mov (.t 12)⟩,
    ⟨(some 53), none, .mov (.t 13)⟩,
    ⟨(some 54), none, .mov (.t 3)⟩,
    ⟨(some 55), none, .conv .u64 (.t 54)⟩,
    ⟨(some 56), none, .callv (.t 51) [(.t 52), (.t 53), (.t 55)]⟩])
  (.cond (.t 56) (.reg [⟨(some 57), none, .mov (.t 12)⟩,
      ⟨(some 58), none, .bin .add (.t 57) (.k (.d (.int .u64 1)))⟩,
      ⟨(some 12), none, .mov (.t 58)⟩])
  .skip))
  (.seq (.seq (.reg [⟨(some 59), none, .mov (.t 12)⟩,
    ⟨(some 60), none, .bin .gtr (.t 59) (.k (.d (.int .u64 4000000000000000000)))⟩])
  (.cond (.t 60) (.seq (.reg [⟨(some 8), none, .mov (.k (.d (.int .i64 0)))⟩,
      ⟨(some 9), none, .mov (.k (.d (.int .i64 5)))⟩])
    .ret)
  .skip))
  (.seq (.reg [⟨(some 61), none, .mov (.t 12)⟩,
    ⟨(some 62), none, .conv .i64 (.t 61)⟩,
    ⟨(some 8), none, .mov (.t 62)⟩,
    ⟨(some 9), none, .mov (.k (.d (.int .i64 0)))⟩])
  .ret)))))))))
def rs57 : List RV := [.tmp 8, .tmp 9]
theorem ok57 : okF Try.prog 57 = true := by kernel_rfl
theorem cc57 : cCode Try.prog Try.f57.ntmps (Try.f57.body.getD .skip) = some c57 := by kernel_rfl
theorem cr57 : cRess Try.prog Try.f57.results.toList = some rs57 := by kernel_rfl
theorem pure57 {args : List V} {res : V} (hlen : args.length ≤ 63) (hna : namesL args = []) (hnr : res.names = []) (h : ∀ c : Ctx, c.P = Try.prog → c.fn = [] → vcC c c57 ⟨initE 0 args, [], []⟩ (RetK c rs57 res [])) : Ctr Try.prog 57 args [] res [] [] :=
  ctr_pure Try.func57 ok57 rfl cc57 cr57 Try.ntmps57 hlen hna hnr h
theorem own57 {args : List V} {ins outs : List (Nat × Own)} {res : V} {new : List Nat} (hlen : args.length ≤ 63) (hf : ctrB args ins res outs new = true) (h : ∀ c : Ctx, c.P = Try.prog → c.fn = namesL args ++ ownNames ins → vcC c c57 ⟨initE 0 args, ins, namesL args ++ ownNames ins⟩ (RetK c rs57 res outs)) : Ctr Try.prog 57 args ins res outs new :=
  ctr_own Try.func57 ok57 rfl cc57 cr57 Try.ntmps57 hlen hf h

/-- math/bits.Mul32 -/
def c58 : C :=
  (.seq (.reg [⟨(some 4), none, .mov (.k (.d (.int .u32 0)))⟩,
    ⟨(some 5), none, .mov (.k (.d (.int .u32 0)))⟩])
  (.seq (.reg [⟨(some 7), none, .mov (.t 0)⟩,
    ⟨(some 8), none, .conv .u64 (.t 7)⟩,
    ⟨(some 9), none, .mov (.t 1)⟩,
    ⟨(some 10), none, .conv .u64 (.t 9)⟩,
    ⟨(some 11), none, .bin .mul (.t 8) (.t 10)⟩,
    ⟨(some 6), none, .mov (.t 11)⟩])
  (.seq (.reg [⟨(some 12), none, .mov (.t 6)⟩,
    ⟨(some 13), none, .shf false (.t 12) (.k (.d (.int .u64 32)))⟩,
    ⟨(some 14), none, .conv .u32 (.t 13)⟩,
    ⟨(some 15), none, .mov (.t 6)⟩,
    ⟨(some 16), none, .conv .u32 (.t 15)⟩,
    ⟨(some 4), none, .mov (.t 14)⟩,
    ⟨(some 5), none, .mov (.t 16)⟩])
  .ret)))
def rs58 : List RV := [.tmp 4, .tmp 5]
theorem ok58 : okF Try.prog 58 = true := by kernel_rfl
theorem cc58 : cCode Try.prog Try.f58.ntmps (Try.f58.body.getD .skip) = some c58 := by kernel_rfl
theorem cr58 : cRess Try.prog Try.f58.results.toList = some rs58 := by kernel_rfl
theorem pure58 {args : List V} {res : V} (hlen : args.length ≤ 17) (hna : namesL args = []) (hnr : res.names = []) (h : ∀ c : Ctx, c.P = Try.prog → c.fn = [] → vcC c c58 ⟨initE 0 args, [], []⟩ (RetK c rs58 res [])) : Ctr Try.prog 58 args [] res [] [] :=
  ctr_pure Try.func58 ok58 rfl cc58 cr58 Try.ntmps58 hlen hna hnr h
theorem own58 {args : List V} {ins outs : List (Nat × Own)} {res : V} {new : List Nat} (hlen : args.length ≤ 17) (hf : ctrB args ins res outs new = true) (h : ∀ c : Ctx, c.P = Try.prog → c.fn = namesL args ++ ownNames ins → vcC c c58 ⟨initE 0 args, ins, namesL args ++ ownNames ins⟩ (RetK c rs58 res outs)) : Ctr Try.prog 58 args ins res outs new :=
  ctr_own Try.func58 ok58 rfl cc58 cr58 Try.ntmps58 hlen hf h

/-- math/bits.Mul64 -/
def c59 : C :=
  (.seq (.reg [⟨(some 4), none, .mov (.k (.d (.int .u64 0)))⟩,
    ⟨(some 5), none, .mov (.k (.d (.int .u64 0)))⟩])
  (.seq (.reg [⟨(some 14), none, .mov (.t 0)⟩,
    ⟨(some 15), none, .bin .and (.t 14) (.k (.d (.int .u64 4294967295)))⟩,
    ⟨(some 6), none, .mov (.t 15)⟩])
  (.seq (.reg [⟨(some 16), none, .mov (.t 0)⟩,
    ⟨(some 17), none, .shf false (.t 16) (.k (.d (.int .u64 32)))⟩,
    ⟨(some 7), none, .mov (.t 17)⟩])
  (.seq (.reg [⟨(some 18), none, .mov (.t 1)⟩,
    ⟨(some 19), none, .bin .and (.t 18) (.k (.d (.int .u64 4294967295)))⟩,
    ⟨(some 8), none, .mov (.t 19)⟩])
  (.seq (.reg [⟨(some 20), none, .mov (.t 1)⟩,
    ⟨(some 21), none, .shf false (.t 20) (.k (.d (.int .u64 32)))⟩,
    ⟨(some 9), none, .mov (.t 21)⟩])
  (.seq (.reg [⟨(some 22), none, .mov (.t 6)⟩,
    ⟨(some 23), none, .mov (.t 8)⟩,
    ⟨(some 24), none, .bin .mul (.t 22) (.t 23)⟩,
    ⟨(some 10), none, .mov (.t 24)⟩])
  (.seq (.reg [⟨(some 25), none, .mov (.t 7)⟩,
    ⟨(some 26), none, .mov (.t 8)⟩,
    ⟨(some 27), none, .bin .mul (.t 25) (.t 26)⟩,
    ⟨(some 28), none, .mov (.t 10)⟩,
    ⟨(some 29), none, .shf false (.t 28) (.k (.d (.int .u64 32)))⟩,
    ⟨(some 30), none, .bin .add (.t 27) (.t 29)⟩,
    ⟨(some 11), none, .mov (.t 30)⟩])
  (.seq (.reg [⟨(some 31), none, .mov (.t 11)⟩,
    ⟨(some 32), none, .bin .and (.t 31) (.k (.d (.int .u64 4294967295)))⟩,
    ⟨(some 12), none, .mov (.t 32)⟩])
  (.seq (.reg [⟨(some 33), none, .mov (.t 11)⟩,
    ⟨(some 34), none, .shf false (.t 33) (.k (.d (.int .u64 32)))⟩,
    ⟨(some 13), none, .mov (.t 34)⟩])
  (.seq (.reg [⟨(some 35), none, .mov (.t 12)⟩,
    ⟨(some 36), none, .mov (.t 6)⟩,
    ⟨(some 37), none, .mov (.t 9)⟩,
    ⟨(some 38), none, .bin .mul (.t 36) (.t 37)⟩,
    ⟨(some 39), none, .bin .add (.t 35) (.t 38)⟩,
    ⟨(some 12), none, .mov (.t 39)⟩])
  (.seq (.reg [⟨(some 40), none, .mov (.t 7)⟩,
    ⟨(some 41), none, .mov (.t 9)⟩,
    ⟨(some 42), none, .bin .mul (.t 40) (.t 41)⟩,
    ⟨(some 43), none, .mov (.t 13)⟩,
    ⟨(some 44), none, .bin .add (.t 42) (.t 43)⟩,
    ⟨(some 45), none, .mov (.t 12)⟩,
    ⟨(some 46), none, .shf false (.t 45) (.k (.d (.int .u64 32)))⟩,
    ⟨(some 47), none, .bin .add (.t 44) (.t 46)⟩,
    ⟨(some 4), none, .mov (.t 47)⟩])
  (.seq (.reg [⟨(some 48), none, .mov (.t 0)⟩,
    ⟨(some 49), none, .mov (.t 1)⟩,
    ⟨(some 50), none, .bin .mul (.t 48) (.t 49)⟩,
    ⟨(some 5), none, .mov (.t 50)⟩])
  .ret))))))))))))
def rs59 : List RV := [.tmp 4, .tmp 5]
theorem ok59 : okF Try.prog 59 = true := by kernel_rfl
theorem cc59 : cCode Try.prog Try.f59.ntmps (Try.f59.body.getD .skip) = some c59 := by kernel_rfl
theorem cr59 : cRess Try.prog Try.f59.results.toList = some rs59 := by kernel_rfl
theorem pure59 {args : List V} {res : V} (hlen : args.length ≤ 51) (hna : namesL args = []) (hnr : res.names = []) (h : ∀ c : Ctx, c.P = Try.prog → c.fn = [] → vcC c c59 ⟨initE 0 args, [], []⟩ (RetK c rs59 res [])) : Ctr Try.prog 59 args [] res [] [] :=
  ctr_pure Try.func59 ok59 rfl cc59 cr59 Try.ntmps59 hlen hna hnr h
theorem own59 {args : List V} {ins outs : List (Nat × Own)} {res : V} {new : List Nat} (hlen : args.length ≤ 51) (hf : ctrB args ins res outs new = true) (h : ∀ c : Ctx, c.P = Try.prog → c.fn = namesL args ++ ownNames ins → vcC c c59 ⟨initE 0 args, ins, namesL args ++ ownNames ins⟩ (RetK c rs59 res outs)) : Ctr Try.prog 59 args ins res outs new :=
  ctr_own Try.func59 ok59 rfl cc59 cr59 Try.ntmps59 hlen hf h

/-- bordereau/num.down$1 -/
def c60 : C :=
  (.seq (.reg [⟨(some 6), none, .mov (.k (.d (.bool false)))⟩])
  (.seq (.reg [⟨(some 6), none, .mov (.k (.d (.bool false)))⟩])
  .ret))
def rs60 : List RV := [.tmp 6]
theorem ok60 : okF Try.prog 60 = true := by kernel_rfl
theorem cc60 : cCode Try.prog Try.f60.ntmps (Try.f60.body.getD .skip) = some c60 := by kernel_rfl
theorem cr60 : cRess Try.prog Try.f60.results.toList = some rs60 := by kernel_rfl
theorem pure60 {args : List V} {res : V} (hlen : args.length ≤ 7) (hna : namesL args = []) (hnr : res.names = []) (h : ∀ c : Ctx, c.P = Try.prog → c.fn = [] → vcC c c60 ⟨initE 0 args, [], []⟩ (RetK c rs60 res [])) : Ctr Try.prog 60 args [] res [] [] :=
  ctr_pure Try.func60 ok60 rfl cc60 cr60 Try.ntmps60 hlen hna hnr h
theorem own60 {args : List V} {ins outs : List (Nat × Own)} {res : V} {new : List Nat} (hlen : args.length ≤ 7) (hf : ctrB args ins res outs new = true) (h : ∀ c : Ctx, c.P = Try.prog → c.fn = namesL args ++ ownNames ins → vcC c c60 ⟨initE 0 args, ins, namesL args ++ ownNames ins⟩ (RetK c rs60 res outs)) : Ctr Try.prog 60 args ins res outs new :=
  ctr_own Try.func60 ok60 rfl cc60 cr60 Try.ntmps60 hlen hf h

/-- math/bits.Div64 -/
def c61 : C :=
  (.seq (.reg [⟨(some 6), none, .mov (.k (.d (.int .u64 0)))⟩,
    ⟨(some 7), none, .mov (.k (.d (.int .u64 0)))⟩])
  (.seq (.seq (.reg [⟨(some 19), none, .mov (.t 2)⟩,
    ⟨(some 20), none, .bin .eql (.t 19) (.k (.d (.int .u64 0)))⟩])
  (.cond (.t 20) .bad
  .skip))
  (.seq (.seq (.reg [⟨(some 22), none, .mov (.t 2)⟩,
    ⟨(some 23), none, .mov (.t 0)⟩,
    ⟨(some 24), none, .bin .leq (.t 22) (.t 23)⟩])
  (.cond (.t 24) .bad
  .skip))
  (.seq (.seq (.reg [⟨(some 26), none, .mov (.t 0)⟩,
    ⟨(some 27), none, .bin .eql (.t 26) (.k (.d (.int .u64 0)))⟩])
  (.cond (.t 27) (.seq (.drw [0, 0, 3, 0, 0, 24, 7, 127]
     [⟨(some 28), none, .mov (.t 1)⟩,
      ⟨(some 29), none, .mov (.t 2)⟩,
      ⟨(some 30), none, .bin .quo (.t 28) (.t 29)⟩,
      ⟨(some 31), none, .mov (.t 1)⟩,
      ⟨(some 32), none, .mov (.t 2)⟩,
      ⟨(some 33), none, .bin .rem (.t 31) (.t 32)⟩,
      ⟨(some 6), none, .mov (.t 30)⟩,
      ⟨(some 7), none, .mov (.t 33)⟩])
    .ret)
  .skip))
  (.seq (.reg [⟨(some 34), none, .mov (.t 2)⟩,
    ⟨(some 35), none, .call 62 [(.t 34)]⟩,
    ⟨(some 36), none, .conv .u64 (.t 35)⟩,
    ⟨(some 8), none, .mov (.t 36)⟩])
  (.seq (.reg [⟨(some 37), none, .mov (.t 2)⟩,
    ⟨(some 38), none, .mov (.t 8)⟩,
    ⟨(some 39), none, .shf true (.t 37) (.t 38)⟩,
    ⟨(some 2), none, .mov (.t 39)⟩])
  (.seq (.reg [⟨(some 40), none, .mov (.t 2)⟩,
    ⟨(some 41), none, .shf false (.t 40) (.k (.d (.int .u64 32)))⟩,
    ⟨(some 9), none, .mov (.t 41)⟩])
  (.seq (.reg [⟨(some 42), none, .mov (.t 2)⟩,
    ⟨(some 43), none, .bin .and (.t 42) (.k (.d (.int .u64 4294967295)))⟩,
    ⟨(some 10), none, .mov (.t 43)⟩])
  (.seq (.reg [⟨(some 44), none, .mov (.t 0)⟩,
    ⟨(some 45), none, .mov (.t 8)⟩,
    ⟨(some 46), none, .shf true (.t 44) (.t 45)⟩,
    ⟨(some 47), none, .mov (.t 1)⟩,
    ⟨(some 48), none, .mov (.t 8)⟩,
    ⟨(some 49), none, .bin .sub (.k (.d (.int .u64 64))) (.t 48)⟩,
    ⟨(some 50), none, .shf false (.t 47) (.t 49)⟩,
    ⟨(some 51), none, .bin .or (.t 46) (.t 50)⟩,
    ⟨(some 11), none, .mov (.t 51)⟩])
  (.seq (.reg [⟨(some 52), none, .mov (.t 1)⟩,
    ⟨(some 53), none, .mov (.t 8)⟩,
    ⟨(some 54), none, .shf true (.t 52) (.t 53)⟩,
    ⟨(some 12), none, .mov (.t 54)⟩])
  (.seq (.reg [⟨(some 55), none, .mov (.t 12)⟩,
    ⟨(some 56), none, .shf false (.t 55) (.k (.d (.int .u64 32)))⟩,
    ⟨(some 13), none, .mov (.t 56)⟩])
  (.seq (.reg [⟨(some 57), none, .mov (.t 12)⟩,
    ⟨(some 58), none, .bin .and (.t 57) (.k (.d (.int .u64 4294967295)))⟩,
    ⟨(some 14), none, .mov (.t 58)⟩])
  (.seq (.reg [⟨(some 59), none, .mov (.t 11)⟩,
    ⟨(some 60), none, .mov (.t 9)⟩,
    ⟨(some 61), none, .bin .quo (.t 59) (.t 60)⟩,
    ⟨(some 15), none, .mov (.t 61)⟩])
  (.seq (.reg [⟨(some 62), none, .mov (.t 11)⟩,
    ⟨(some 63), none, .mov (.t 15)⟩,
    ⟨(some 64), none, .mov (.t 9)⟩,
    ⟨(some 65), none, .bin .mul (.t 63) (.t 64)⟩,
    ⟨(some 66), none, .bin .sub (.t 62) (.t 65)⟩,
    ⟨(some 16), none, .mov (.t 66)⟩])
  (.seq (.block 0 (.loop (.seq (.seq (.reg [⟨(some 67), none, .mov (.t 15)⟩,
        ⟨(some 68), none, .bin .geq (.t 67) (.k (.d (.int .u64 4294967296)))⟩,
        ⟨(some 69), none, .mov (.t 68)⟩,
        ⟨(some 70), (some (69, false)), .mov (.t 15)⟩,
        ⟨(some 71), (some (69, false)), .mov (.t 10)⟩,
        ⟨(some 72), (some (69, false)), .bin .mul (.t 70) (.t 71)⟩,
        ⟨(some 73), (some (69, false)), .mov (.t 16)⟩,
        ⟨(some 74), (some (69, false)), .bin .mul (.k (.d (.int .u64 4294967296))) (.t 73)⟩,
        ⟨(some 75), (some (69, false)), .mov (.t 13)⟩,
        ⟨(some 76), (some (69, false)), .bin .add (.t 74) (.t 75)⟩,
        ⟨(some 77), (some (69, false)), .bin .gtr (.t 72) (.t 76)⟩,
        ⟨(some 78), none, .pick (.t 69) (.k (.d (.bool true))) (.t 77)⟩])
      (.cond (.t 78) .skip
      (.exit 0)))
      (.block 2 (.seq (.reg [⟨(some 79), none, .mov (.t 15)⟩,
          ⟨(some 80), none, .bin .sub (.t 79) (.k (.d (.int .u64 1)))⟩,
          ⟨(some 15), none, .mov (.t 80)⟩])
        (.seq (.reg [⟨(some 81), none, .mov (.t 16)⟩,
          ⟨(some 82), none, .mov (.t 9)⟩,
          ⟨(some 83), none, .bin .add (.t 81) (.t 82)⟩,
          ⟨(some 16), none, .mov (.t 83)⟩])
        (.seq (.reg [⟨(some 84), none, .mov (.t 16)⟩,
          ⟨(some 85), none, .bin .geq (.t 84) (.k (.d (.int .u64 4294967296)))⟩])
        (.cond (.t 85) (.exit 0)
        .skip))))))))
  (.seq (.reg [⟨(some 86), none, .mov (.t 11)⟩,
    ⟨(some 87), none, .bin .mul (.t 86) (.k (.d (.int .u64 4294967296)))⟩,
    ⟨(some 88), none, .mov (.t 13)⟩,
    ⟨(some 89), none, .bin .add (.t 87) (.t 88)⟩,
    ⟨(some 90), none, .mov (.t 15)⟩,
    ⟨(some 91), none, .mov (.t 2)⟩,
    ⟨(some 92), none, .bin .mul (.t 90) (.t 91)⟩,
    ⟨(some 93), none, .bin .sub (.t 89) (.t 92)⟩,
    ⟨(some 17), none, .mov (.t 93)⟩])
  (.seq (.reg [⟨(some 94), none, .mov (.t 17)⟩,
    ⟨(some 95), none, .mov (.t 9)⟩,
    ⟨(some 96), none, .bin .quo (.t 94) (.t 95)⟩,
    ⟨(some 18), none, .mov (.t 96)⟩])
  (.seq (.reg [⟨(some 97), none, .mov (.t 17)⟩,
    ⟨(some 98), none, .mov (.t 18)⟩,
    ⟨(some 99), none, .mov (.t 9)⟩,
    ⟨(some 100), none, .bin .mul (.t 98) (.t 99)⟩,
    ⟨(some 101), none, .bin .sub (.t 97) (.t 100)⟩,
    ⟨(some 16), none, .mov (.t 101)⟩])
  (.seq (.block 4 (.loop (.seq (.seq (.reg [⟨(some 102), none, .mov (.t 18)⟩,
        ⟨(some 103), none, .bin .geq (.t 102) (.k (.d (.int .u64 4294967296)))⟩,
        ⟨(some 104), none, .mov (.t 103)⟩,
        ⟨(some 105), (some (104, false)), .mov (.t 18)⟩,
        ⟨(some 106), (some (104, false)), .mov (.t 10)⟩,
        ⟨(some 107), (some (104, false)), .bin .mul (.t 105) (.t 106)⟩,
        ⟨(some 108), (some (104, false)), .mov (.t 16)⟩,
        ⟨(some 109), (some (104, false)), .bin .mul (.k (.d (.int .u64 4294967296))) (.t 108)⟩,
        ⟨(some 110), (some (104, false)), .mov (.t 14)⟩,
        ⟨(some 111), (some (104, false)), .bin .add (.t 109) (.t 110)⟩,
        ⟨(some 112), (some (104, false)), .bin .gtr (.t 107) (.t 111)⟩,
        ⟨(some 113), none, .pick (.t 104) (.k (.d (.bool true))) (.t 112)⟩])
      (.cond (.t 113) .skip
      (.exit 4)))
      (.block 6 (.seq (.reg [⟨(some 114), none, .mov (.t 18)⟩,
          ⟨(some 115), none, .bin .sub (.t 114) (.k (.d (.int .u64 1)))⟩,
          ⟨(some 18), none, .mov (.t 115)⟩])
        (.seq (.reg [⟨(some 116), none, .mov (.t 16)⟩,
          ⟨(some 117), none, .mov (.t 9)⟩,
          ⟨(some 118), none, .bin .add (.t 116) (.t 117)⟩,
          ⟨(some 16), none, .mov (.t 118)⟩])
        (.seq (.reg [⟨(some 119), none, .mov (.t 16)⟩,
          ⟨(some 120), none, .bin .geq (.t 119) (.k (.d (.int .u64 4294967296)))⟩])
        (.cond (.t 120) (.exit 4)
        .skip))))))))
  (.seq (.reg [⟨(some 121), none, .mov (.t 15)⟩,
    ⟨(some 122), none, .bin .mul (.t 121) (.k (.d (.int .u64 4294967296)))⟩,
    ⟨(some 123), none, .mov (.t 18)⟩,
    ⟨(some 124), none, .bin .add (.t 122) (.t 123)⟩,
    ⟨(some 125), none, .mov (.t 17)⟩,
    ⟨(some 126), none, .bin .mul (.t 125) (.k (.d (.int .u64 4294967296)))⟩,
    ⟨(some 127), none, .mov (.t 14)⟩,
    ⟨(some 128), none, .bin .add (.t 126) (.t 127)⟩,
    ⟨(some 129), none, .mov (.t 18)⟩,
    ⟨(some 130), none, .mov (.t 2)⟩,
    ⟨(some 131), none, .bin .mul (.t 129) (.t 130)⟩,
    ⟨(some 132), none, .bin .sub (.t 128) (.t 131)⟩,
    ⟨(some 133), none, .mov (.t 8)⟩,
    ⟨(some 134), none, .shf false (.t 132) (.t 133)⟩,
    ⟨(some 6), none, .mov (.t 124)⟩,
    ⟨(some 7), none, .mov (.t 134)⟩])
  .ret))))))))))))))))))))
def rs61 : List RV := [.tmp 6, .tmp 7]
theorem ok61 : okF Try.prog 61 = true := by kernel_rfl
theorem cc61 : cCode Try.prog Try.f61.ntmps (Try.f61.body.getD .skip) = some c61 := by kernel_rfl
theorem cr61 : cRess Try.prog Try.f61.results.toList = some rs61 := by kernel_rfl
theorem pure61 {args : List V} {res : V} (hlen : args.length ≤ 135) (hna : namesL args = []) (hnr : res.names = []) (h : ∀ c : Ctx, c.P = Try.prog → c.fn = [] → vcC c c61 ⟨initE 0 args, [], []⟩ (RetK c rs61 res [])) : Ctr Try.prog 61 args [] res [] [] :=
  ctr_pure Try.func61 ok61 rfl cc61 cr61 Try.ntmps61 hlen hna hnr h
theorem own61 {args : List V} {ins outs : List (Nat × Own)} {res : V} {new : List Nat} (hlen : args.length ≤ 135) (hf : ctrB args ins res outs new = true) (h : ∀ c : Ctx, c.P = Try.prog → c.fn = namesL args ++ ownNames ins → vcC c c61 ⟨initE 0 args, ins, namesL args ++ ownNames ins⟩ (RetK c rs61 res outs)) : Ctr Try.prog 61 args ins res outs new :=
  ctr_own Try.func61 ok61 rfl cc61 cr61 Try.ntmps61 hlen hf h

/-- math/bits.LeadingZeros64 -/
def c62 : C :=
  (.seq (.reg [⟨(some 2), none, .mov (.k (.d (.int .i64 0)))⟩])
  (.seq (.reg [⟨(some 3), none, .mov (.t 0)⟩,
    ⟨(some 4), none, .call 63 [(.t 3)]⟩,
    ⟨(some 5), none, .bin .sub (.k (.d (.int .i64 64))) (.t 4)⟩,
    ⟨(some 2), none, .mov (.t 5)⟩])
  .ret))
def rs62 : List RV := [.tmp 2]
theorem ok62 : okF Try.prog 62 = true := by kernel_rfl
theorem cc62 : cCode Try.prog Try.f62.ntmps (Try.f62.body.getD .skip) = some c62 := by kernel_rfl
theorem cr62 : cRess Try.prog Try.f62.results.toList = some rs62 := by kernel_rfl
theorem pure62 {args : List V} {res : V} (hlen : args.length ≤ 6) (hna : namesL args = []) (hnr : res.names = []) (h : ∀ c : Ctx, c.P = Try.prog → c.fn = [] → vcC c c62 ⟨initE 0 args, [], []⟩ (RetK c rs62 res [])) : Ctr Try.prog 62 args [] res [] [] :=
  ctr_pure Try.func62 ok62 rfl cc62 cr62 Try.ntmps62 hlen hna hnr h
theorem own62 {args : List V} {ins outs : List (Nat × Own)} {res : V} {new : List Nat} (hlen : args.length ≤ 6) (hf : ctrB args ins res outs new = true) (h : ∀ c : Ctx, c.P = Try.prog → c.fn = namesL args ++ ownNames ins → vcC c c62 ⟨initE 0 args, ins, namesL args ++ ownNames ins⟩ (RetK c rs62 res outs)) : Ctr Try.prog 62 args ins res outs new :=
  ctr_own Try.func62 ok62 rfl cc62 cr62 Try.ntmps62 hlen hf h

/-- math/bits.Len64 -/
def c63 : C :=
  (.seq (.reg [⟨(some 2), none, .mov (.k (.d (.int .i64 0)))⟩])
  (.seq (.seq (.reg [⟨(some 3), none, .mov (.t 0)⟩,
    ⟨(some 4), none, .bin .geq (.t 3) (.k (.d (.int .u64 4294967296)))⟩])
  (.cond (.t 4) (.seq (.reg [⟨(some 5), none, .mov (.t 0)⟩,
      ⟨(some 6), none, .shf false (.t 5) (.k (.d (.int .u64 32)))⟩,
      ⟨(some 0), none, .mov (.t 6)⟩])
    (.reg [⟨(some 2), none, .mov (.k (.d (.int .i64 32)))⟩]))
  .skip))
  (.seq (.seq (.reg [⟨(some 7), none, .mov (.t 0)⟩,
    ⟨(some 8), none, .bin .geq (.t 7) (.k (.d (.int .u64 65536)))⟩])
  (.cond (.t 8) (.seq (.reg [⟨(some 9), none, .mov (.t 0)⟩,
      ⟨(some 10), none, .shf false (.t 9) (.k (.d (.int .u64 16)))⟩,
      ⟨(some 0), none, .mov (.t 10)⟩])
    (.reg [⟨(some 11), none, .mov (.t 2)⟩,
      ⟨(some 12), none, .bin .add (.t 11) (.k (.d (.int .i64 16)))⟩,
      ⟨(some 2), none, .mov (.t 12)⟩]))
  .skip))
  (.seq (.seq (.reg [⟨(some 13), none, .mov (.t 0)⟩,
    ⟨(some 14), none, .bin .geq (.t 13) (.k (.d (.int .u64 256)))⟩])
  (.cond (.t 14) (.seq (.reg [⟨(some 15), none, .mov (.t 0)⟩,
      ⟨(some 16), none, .shf false (.t 15) (.k (.d (.int .u64 8)))⟩,
      ⟨(some 0), none, .mov (.t 16)⟩])
    (.reg [⟨(some 17), none, .mov (.t 2)⟩,
      ⟨(some 18), none, .bin .add (.t 17) (.k (.d (.int .i64 8)))⟩,
      ⟨(some 2), none, .mov (.t 18)⟩]))
  .skip))
  (.seq (.reg [⟨(some 19), none, .mov (.t 2)⟩,
    ⟨(some 20), none, .mov (.t 0)⟩,
    ⟨(some 21), none, .conv .u8 (.t 20)⟩,
    ⟨(some 22), none, .sidx ⟨#[0, 1, 2, 2, 3, 3, 3, 3, 4, 4, 4, 4, 4, 4, 4, 4, 5, 5, 5, 5, 5, 5, 5, 5, 5, 5, 5, 5, 5, 5, 5, 5, 6, 6, 6, 6, 6, 6, 6, 6, 6, 6, 6, 6, 6, 6, 6, 6, 6, 6, 6, 6, 6, 6, 6, 6, 6, 6, 6, 6, 6, 6, 6, 6, 7, 7, 7, 7, 7, 7, 7, 7, 7, 7, 7, 7, 7, 7, 7, 7, 7, 7, 7, 7, 7, 7, 7, 7, 7, 7, 7, 7, 7, 7, 7, 7, 7, 7, 7, 7, 7, 7, 7, 7, 7, 7, 7, 7, 7, 7, 7, 7, 7, 7, 7, 7, 7, 7, 7, 7, 7, 7, 7, 7, 7, 7, 7, 7, 8, 8, 8, 8, 8, 8, 8, 8, 8, 8, 8, 8, 8, 8, 8, 8, 8, 8, 8, 8, 8, 8, 8, 8, 8, 8, 8, 8, 8, 8, 8, 8, 8, 8, 8, 8, 8, 8, 8, 8, 8, 8, 8, 8, 8, 8, 8, 8, 8, 8, 8, 8, 8, 8, 8, 8, 8, 8, 8, 8, 8, 8, 8, 8, 8, 8, 8, 8, 8, 8, 8, 8, 8, 8, 8, 8, 8, 8, 8, 8, 8, 8, 8, 8, 8, 8, 8, 8, 8, 8, 8, 8, 8, 8, 8, 8, 8, 8, 8, 8, 8, 8, 8, 8, 8, 8, 8, 8, 8, 8, 8, 8, 8, 8, 8, 8, 8, 8, 8, 8, 8, 8, 8, 8, 8, 8, 8, 8]⟩ (.t 21)⟩,
    ⟨(some 23), none, .conv .i64 (.t 22)⟩,
    ⟨(some 24), none, .bin .add (.t 19) (.t 23)⟩,
    ⟨(some 2), none, .mov (.t 24)⟩])
  .ret)))))
def rs63 : List RV := [.tmp 2]
theorem ok63 : okF Try.prog 63 = true := by kernel_rfl
theorem cc63 : cCode Try.prog Try.f63.ntmps (Try.f63.body.getD .skip) = some c63 := by kernel_rfl
theorem cr63 : cRess Try.prog Try.f63.results.toList = some rs63 := by kernel_rfl
theorem pure63 {args : List V} {res : V} (hlen : args.length ≤ 25) (hna : namesL args = []) (hnr : res.names = []) (h : ∀ c : Ctx, c.P = Try.prog → c.fn = [] → vcC c c63 ⟨initE 0 args, [], []⟩ (RetK c rs63 res [])) : Ctr Try.prog 63 args [] res [] [] :=
  ctr_pure Try.func63 ok63 rfl cc63 cr63 Try.ntmps63 hlen hna hnr h
theorem own63 {args : List V} {ins outs : List (Nat × Own)} {res : V} {new : List Nat} (hlen : args.length ≤ 25) (hf : ctrB args ins res outs new = true) (h : ∀ c : Ctx, c.P = Try.prog → c.fn = namesL args ++ ownNames ins → vcC c c63 ⟨initE 0 args, ins, namesL args ++ ownNames ins⟩ (RetK c rs63 res outs)) : Ctr Try.prog 63 args ins res outs new :=
  ctr_own Try.func63 ok63 rfl cc63 cr63 Try.ntmps63 hlen hf h

end Go.Proofs.Ythkfedghiklmeaa
