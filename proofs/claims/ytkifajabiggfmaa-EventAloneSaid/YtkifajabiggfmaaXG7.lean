import Derived.Test.YtkifajabiggfmaaXG6
import Derived.Test.YtkifajabiggfmaaRows
import Derived.KernelRfl
section
set_option linter.unusedSimpArgs false
set_option linter.unusedVariables false
namespace Go.Proofs.Ytkifajabiggfmaa
open Go.Bx
set_option maxRecDepth 100000
def kc9 : C :=
  (.seq (.reg [⟨some 2, none, .box 36 (.t 0)⟩,
 ⟨some 4, none, .mov (.k (.d (.bool false)))⟩])
 (.seq (.seq (.reg [⟨some 13, none, .mov (.t 1)⟩,
 ⟨some 14, none, .call 10 [(.t 13)]⟩,
 ⟨some 15, none, .inv .not (.t 14)⟩])
 (.cond (.t 15) (.seq (.reg [⟨some 16, none, .call 11 []⟩,
 ⟨some 4, none, .mov (.t 16)⟩])
 .ret)
 .skip))
 (.seq (.reg [⟨some 5, none, .mov (.k (.d (.sl true 0 0 fun _ => [])))⟩])
 (.seq (.seq (.reg [⟨some 17, none, .mov (.t 1)⟩,
 ⟨some 18, none, .len (.t 17)⟩,
 ⟨some 19, none, .mov (.k (.d (.int .i64 0)))⟩])
 (.block 0 (.loop (.seq (.reg [⟨some 20, none, .bin .lss (.t 19) (.t 18)⟩])
 (.seq (.cond (.t 20) .skip
 (.exit 0))
 (.seq (.block 2 (.seq (.reg [⟨some 21, none, .iadr 5 (.t 17) (.t 19)⟩,
 ⟨some 22, none, .load 5 true (.t 21)⟩,
 ⟨some 7, none, .alloc 26 [.d (.int .i64 0), .d (.int .i64 0), .d (.int .i64 0), .d (.int .i64 0), .d (.int .i64 0)]⟩,
 ⟨none, none, .store 5 (.t 7) (.t 22)⟩])
 (.seq (.reg [⟨some 23, none, .fadr 1 (.t 7)⟩,
 ⟨none, none, .store 1 (.t 23) (.k (.d (.int .i64 0)))⟩])
 (.reg [⟨some 24, none, .mov (.t 5)⟩,
 ⟨some 25, none, .load 5 true (.t 7)⟩,
 ⟨some 26, none, .bslice 26 5 1 [(.t 25)]⟩,
 ⟨some 27, none, .app 26 5 40 (.t 24) (.t 26)⟩,
 ⟨some 5, none, .mov (.t 27)⟩]))))
 (.reg [⟨some 28, none, .bin .add (.t 19) (.k (.d (.int .i64 1)))⟩,
 ⟨some 19, none, .mov (.t 28)⟩])))))))
 (.seq (.reg [⟨some 29, none, .load 9 true (.t 2)⟩,
 ⟨some 8, none, .alloc 36 [.d (.int .i64 0), .d (.int .i64 0), .d (.int .i64 0), .d (.int .i64 0), .d (.int .i64 0), .d (.int .i64 0), .d (.int .i64 0), .d (.int .i64 0), .d (.int .i64 0)]⟩,
 ⟨none, none, .store 9 (.t 8) (.t 29)⟩])
 (.seq (.reg [⟨some 30, none, .fadr 1 (.t 2)⟩,
 ⟨none, none, .store 1 (.t 30) (.k (.d (.int .i64 3)))⟩,
 ⟨some 31, none, .fadr 1 (.t 8)⟩,
 ⟨none, none, .store 1 (.t 31) (.k (.d (.int .i64 2)))⟩])
 (.seq (.reg [⟨some 33, none, .load 9 true (.t 2)⟩,
 ⟨some 34, none, .mov (.t 5)⟩,
 ⟨some 35, none, .call 17 [(.t 33), (.t 34)]⟩,
 ⟨some 32, none, .mov (.t 35)⟩,
 ⟨some 36, none, .ext 0 (.t 32)⟩,
 ⟨some 37, none, .ext 1 (.t 32)⟩,
 ⟨some 9, none, .mov (.t 36)⟩,
 ⟨some 10, none, .mov (.t 37)⟩])
 (.seq (.reg [⟨some 39, none, .load 9 true (.t 8)⟩,
 ⟨some 40, none, .mov (.t 5)⟩,
 ⟨some 41, none, .call 23 [(.t 39), (.t 40)]⟩,
 ⟨some 38, none, .mov (.t 41)⟩,
 ⟨some 42, none, .ext 0 (.t 38)⟩,
 ⟨some 43, none, .ext 1 (.t 38)⟩,
 ⟨some 11, none, .mov (.t 42)⟩,
 ⟨some 12, none, .mov (.t 43)⟩])
 (.seq (.reg [⟨some 44, none, .call 11 []⟩,
 ⟨some 45, none, .mov (.t 44)⟩,
 ⟨some 46, some (45, true), .mov (.t 9)⟩,
 ⟨some 47, some (45, true), .mov (.t 11)⟩,
 ⟨some 48, some (45, true), .call 19 [(.t 46), (.t 47)]⟩,
 ⟨some 49, none, .pick (.t 45) (.t 48) (.k (.d (.bool false)))⟩,
 ⟨some 50, none, .mov (.t 49)⟩,
 ⟨some 51, some (50, true), .mov (.t 10)⟩,
 ⟨some 52, some (50, true), .mov (.t 12)⟩,
 ⟨some 53, some (50, true), .bin .eql (.t 51) (.t 52)⟩,
 ⟨some 54, none, .pick (.t 50) (.t 53) (.k (.d (.bool false)))⟩,
 ⟨some 4, none, .mov (.t 54)⟩])
 .ret)))))))))
def rs9 : List RV := [.tmp 4]
theorem ok9 : okF Try.prog 9 = true := by kernel_rfl
theorem cc9 : cCode Try.prog Try.f9.ntmps (Try.f9.body.getD .skip) = some kc9 := by kernel_rfl
theorem cr9 : cRess Try.prog Try.f9.results.toList = some rs9 := by kernel_rfl
def kc10 : C :=
  (.seq (.reg [⟨some 2, none, .mov (.k (.d (.bool false)))⟩])
 (.seq (.reg [⟨some 3, none, .mov (.t 0)⟩,
 ⟨some 4, none, .len (.t 3)⟩,
 ⟨some 5, none, .bin .leq (.t 4) (.k (.d (.int .i64 150)))⟩,
 ⟨some 2, none, .mov (.t 5)⟩])
 .ret))
def rs10 : List RV := [.tmp 2]
theorem ok10 : okF Try.prog 10 = true := by kernel_rfl
theorem cc10 : cCode Try.prog Try.f10.ntmps (Try.f10.body.getD .skip) = some kc10 := by kernel_rfl
theorem cr10 : cRess Try.prog Try.f10.results.toList = some rs10 := by kernel_rfl
def kc11 : C :=
  (.seq (.reg [⟨some 0, none, .mov (.k (.d (.bool false)))⟩])
 (.seq (.reg [⟨some 8, none, .call 24 [(.k (.d (.int .i64 7))), (.k (.d (.int .i64 5))), (.k (.d (.int .i64 50)))]⟩,
 ⟨some 9, none, .call 24 [(.k (.d (.int .i64 0))), (.k (.d (.int .i64 3))), (.k (.d (.int .i64 120)))]⟩,
 ⟨some 10, none, .call 24 [(.k (.d (.int .i64 7))), (.k (.d (.int .i64 9))), (.k (.d (.int .i64 150)))]⟩,
 ⟨some 11, none, .bslice 26 5 3 [(.t 8), (.t 9), (.t 10)]⟩,
 ⟨some 1, none, .mov (.t 11)⟩])
 (.seq (.reg [⟨some 13, none, .call 25 [(.k (.d (.int .i64 100))), (.k (.d (.int .i64 60))), (.k (.d (.int .i64 0)))]⟩,
 ⟨some 14, none, .mov (.t 1)⟩,
 ⟨some 15, none, .call 17 [(.t 13), (.t 14)]⟩,
 ⟨some 12, none, .mov (.t 15)⟩,
 ⟨some 16, none, .ext 0 (.t 12)⟩,
 ⟨some 17, none, .ext 1 (.t 12)⟩,
 ⟨some 2, none, .mov (.t 16)⟩,
 ⟨some 3, none, .mov (.t 17)⟩])
 (.seq (.reg [⟨some 19, none, .call 25 [(.k (.d (.int .i64 100))), (.k (.d (.int .i64 60))), (.k (.d (.int .i64 1)))]⟩,
 ⟨some 20, none, .mov (.t 1)⟩,
 ⟨some 21, none, .call 17 [(.t 19), (.t 20)]⟩,
 ⟨some 18, none, .mov (.t 21)⟩,
 ⟨some 22, none, .ext 0 (.t 18)⟩,
 ⟨some 23, none, .ext 1 (.t 18)⟩,
 ⟨some 4, none, .mov (.t 22)⟩,
 ⟨some 5, none, .mov (.t 23)⟩])
 (.seq (.reg [⟨some 25, none, .build [.d (.int .i64 0), .d (.int .i64 0), .d (.int .i64 0), .d (.int .i64 0), .d (.int .i64 0), .d (.int .i64 0), .d (.int .i64 0), .d (.int .i64 0), .d (.int .i64 0)] []⟩,
 ⟨some 26, none, .mov (.t 1)⟩,
 ⟨some 27, none, .call 17 [(.t 25), (.t 26)]⟩,
 ⟨some 24, none, .mov (.t 27)⟩,
 ⟨some 28, none, .ext 0 (.t 24)⟩,
 ⟨some 29, none, .ext 1 (.t 24)⟩,
 ⟨some 6, none, .mov (.t 28)⟩,
 ⟨some 7, none, .mov (.t 29)⟩])
 (.seq (.reg [⟨some 30, none, .mov (.t 2)⟩,
 ⟨some 31, none, .bslice 3 1 3 [(.k (.d (.int .i64 15))), (.k (.d (.int .i64 0))), (.k (.d (.int .i64 45)))]⟩,
 ⟨some 32, none, .call 19 [(.t 30), (.t 31)]⟩,
 ⟨some 33, none, .mov (.t 32)⟩,
 ⟨some 34, some (33, true), .mov (.t 3)⟩,
 ⟨some 35, some (33, true), .bin .eql (.t 34) (.k (.d (.int .i64 0)))⟩,
 ⟨some 36, none, .pick (.t 33) (.t 35) (.k (.d (.bool false)))⟩,
 ⟨some 37, none, .mov (.t 36)⟩,
 ⟨some 38, some (37, true), .mov (.t 4)⟩,
 ⟨some 39, some (37, true), .bslice 3 1 3 [(.k (.d (.int .i64 15))), (.k (.d (.int .i64 20))), (.k (.d (.int .i64 45)))]⟩,
 ⟨some 40, some (37, true), .call 19 [(.t 38), (.t 39)]⟩,
 ⟨some 41, none, .pick (.t 37) (.t 40) (.k (.d (.bool false)))⟩,
 ⟨some 42, none, .mov (.t 41)⟩,
 ⟨some 43, some (42, true), .mov (.t 7)⟩,
 ⟨some 44, some (42, true), .bin .eql (.t 43) (.k (.d (.int .i64 1)))⟩,
 ⟨some 45, none, .pick (.t 42) (.t 44) (.k (.d (.bool false)))⟩,
 ⟨some 46, none, .mov (.t 45)⟩,
 ⟨some 47, some (46, true), .mov (.t 1)⟩,
 ⟨some 48, some (46, true), .call 13 [(.t 47), (.k (.d (.int .i64 3)))]⟩,
 ⟨some 49, some (46, true), .bslice 3 1 2 [(.k (.d (.int .i64 1))), (.k (.d (.int .i64 0)))]⟩,
 ⟨some 50, some (46, true), .bslice 3 1 1 [(.k (.d (.int .i64 2)))]⟩,
 ⟨some 51, some (46, true), .bslice 32 1 2 [(.t 49), (.t 50)]⟩,
 ⟨some 52, some (46, true), .call 12 [(.t 48), (.t 51)]⟩,
 ⟨some 53, none, .pick (.t 46) (.t 52) (.k (.d (.bool false)))⟩,
 ⟨some 54, none, .mov (.t 53)⟩,
 ⟨some 55, some (54, true), .call 25 [(.k (.d (.int .i64 1))), (.k (.d (.int .i64 1))), (.k (.d (.int .i64 1)))]⟩,
 ⟨some 56, some (54, true), .mov (.t 1)⟩,
 ⟨some 57, some (54, true), .call 15 [(.t 55), (.t 56)]⟩,
 ⟨some 58, some (54, true), .bslice 3 1 2 [(.k (.d (.int .i64 0))), (.k (.d (.int .i64 2)))]⟩,
 ⟨some 59, some (54, true), .bslice 3 1 1 [(.k (.d (.int .i64 1)))]⟩,
 ⟨some 60, some (54, true), .bslice 32 1 2 [(.t 58), (.t 59)]⟩,
 ⟨some 61, some (54, true), .call 12 [(.t 57), (.t 60)]⟩,
 ⟨some 62, none, .pick (.t 54) (.t 61) (.k (.d (.bool false)))⟩,
 ⟨some 0, none, .mov (.t 62)⟩])
 .ret))))))
def rs11 : List RV := [.tmp 0]
theorem ok11 : okF Try.prog 11 = true := by kernel_rfl
theorem cc11 : cCode Try.prog Try.f11.ntmps (Try.f11.body.getD .skip) = some kc11 := by kernel_rfl
theorem cr11 : cRess Try.prog Try.f11.results.toList = some rs11 := by kernel_rfl
def kc12 : C :=
  (.seq (.reg [⟨some 4, none, .mov (.k (.d (.bool false)))⟩])
 (.seq (.seq (.reg [⟨some 6, none, .mov (.t 0)⟩,
 ⟨some 7, none, .len (.t 6)⟩,
 ⟨some 8, none, .mov (.t 1)⟩,
 ⟨some 9, none, .len (.t 8)⟩,
 ⟨some 10, none, .bin .neq (.t 7) (.t 9)⟩])
 (.cond (.t 10) (.seq (.reg [⟨some 4, none, .mov (.k (.d (.bool false)))⟩])
 .ret)
 .skip))
 (.seq (.seq (.reg [⟨some 5, none, .mov (.k (.d (.int .i64 0)))⟩])
 (.block 0 (.loop (.seq (.seq (.reg [⟨some 11, none, .mov (.t 5)⟩,
 ⟨some 12, none, .mov (.t 0)⟩,
 ⟨some 13, none, .len (.t 12)⟩,
 ⟨some 14, none, .bin .lss (.t 11) (.t 13)⟩])
 (.cond (.t 14) .skip
 (.exit 0)))
 (.seq (.block 2 (.seq (.drw [0, 0, 3, 7, 0, 0, 48, 112, 255, 511]
  [⟨some 17, none, .mov (.t 0)⟩,
 ⟨some 18, none, .mov (.t 5)⟩,
 ⟨some 19, none, .iadr 1 (.t 17) (.t 18)⟩,
 ⟨some 20, none, .load 1 false (.t 19)⟩,
 ⟨some 21, none, .mov (.t 1)⟩,
 ⟨some 22, none, .mov (.t 5)⟩,
 ⟨some 23, none, .iadr 1 (.t 21) (.t 22)⟩,
 ⟨some 24, none, .load 1 false (.t 23)⟩,
 ⟨some 25, none, .call 19 [(.t 20), (.t 24)]⟩,
 ⟨some 26, none, .inv .not (.t 25)⟩])
 (.cond (.t 26) (.seq (.reg [⟨some 4, none, .mov (.k (.d (.bool false)))⟩])
 .ret)
 .skip)))
 (.reg [⟨some 15, none, .mov (.t 5)⟩,
 ⟨some 16, none, .bin .add (.t 15) (.k (.d (.int .i64 1)))⟩,
 ⟨some 5, none, .mov (.t 16)⟩]))))))
 (.seq (.reg [⟨some 4, none, .mov (.k (.d (.bool true)))⟩])
 .ret))))
def rs12 : List RV := [.tmp 4]
theorem ok12 : okF Try.prog 12 = true := by kernel_rfl
theorem cc12 : cCode Try.prog Try.f12.ntmps (Try.f12.body.getD .skip) = some kc12 := by kernel_rfl
theorem cr12 : cRess Try.prog Try.f12.results.toList = some rs12 := by kernel_rfl
def kc13 : C :=
  (.seq (.reg [⟨some 2, none, .box 22 (.t 0)⟩,
 ⟨some 3, none, .box 3 (.t 1)⟩,
 ⟨some 4, none, .mov (.k (.d (.sl true 0 0 fun _ => [])))⟩])
 (.seq (.reg [⟨some 5, none, .alloc 28 [.d (.sl true 0 0 fun _ => [])]⟩])
 (.seq (.reg [⟨some 6, none, .alloc 3 [.d (.int .i64 0)]⟩,
 ⟨none, none, .store 1 (.t 6) (.k (.d (.int .i64 0)))⟩])
 (.seq (.seq (.reg [⟨some 9, none, .load 1 false (.t 2)⟩,
 ⟨some 10, none, .call 26 [(.t 9)]⟩])
 (.block 0 (.rfn (.t 10) [11] (.reg [⟨some 7, none, .mov (.t 11)⟩])
 (.block 2 (.seq (.reg [⟨some 12, none, .load 1 false (.t 5)⟩,
 ⟨some 13, none, .len (.t 12)⟩,
 ⟨some 8, none, .mov (.t 13)⟩])
 (.seq (.seq (.drw [0, 1, 3, 7, 7, 31, 63, 127, 7, 511, 7, 1031, 4095, 8191]
  [⟨some 14, none, .mov (.t 8)⟩,
 ⟨some 15, none, .bin .eql (.t 14) (.k (.d (.int .i64 0)))⟩,
 ⟨some 16, none, .mov (.t 15)⟩,
 ⟨some 17, some (16, false), .load 1 false (.t 2)⟩,
 ⟨some 18, some (16, false), .mov (.t 7)⟩,
 ⟨some 19, some (16, false), .iadr 5 (.t 17) (.t 18)⟩,
 ⟨some 20, some (16, false), .fadr 2 (.t 19)⟩,
 ⟨some 21, some (16, false), .load 1 false (.t 20)⟩,
 ⟨some 22, some (16, false), .load 1 false (.t 6)⟩,
 ⟨some 23, some (16, false), .bin .sub (.t 21) (.t 22)⟩,
 ⟨some 24, some (16, false), .load 1 false (.t 3)⟩,
 ⟨some 25, some (16, false), .mm true (.k (.d (.int .i64 1))) (.t 24)⟩,
 ⟨some 26, some (16, false), .bin .geq (.t 23) (.t 25)⟩,
 ⟨some 27, none, .pick (.t 16) (.k (.d (.bool true))) (.t 26)⟩])
 (.cond (.t 27) (.seq (.reg [⟨some 28, none, .load 1 false (.t 2)⟩,
 ⟨some 29, none, .mov (.t 7)⟩,
 ⟨some 30, none, .iadr 5 (.t 28) (.t 29)⟩,
 ⟨some 31, none, .fadr 2 (.t 30)⟩,
 ⟨some 32, none, .load 1 false (.t 31)⟩,
 ⟨none, none, .store 1 (.t 6) (.t 32)⟩])
 (.seq (.reg [⟨some 33, none, .load 1 false (.t 5)⟩,
 ⟨some 34, none, .mov (.t 7)⟩,
 ⟨some 35, none, .bslice 3 1 1 [(.t 34)]⟩,
 ⟨some 36, none, .bslice 32 1 1 [(.t 35)]⟩,
 ⟨some 37, none, .app 32 1 24 (.t 33) (.t 36)⟩,
 ⟨none, none, .store 1 (.t 5) (.t 37)⟩])
 (.exit 2)))
 .skip))
 (.drw [0, 0, 2, 0, 0, 16, 56, 120, 0, 256, 1016, 2047, 4095]
  [⟨some 38, none, .load 1 false (.t 5)⟩,
 ⟨some 39, none, .mov (.t 8)⟩,
 ⟨some 40, none, .bin .sub (.t 39) (.k (.d (.int .i64 1)))⟩,
 ⟨some 41, none, .load 1 false (.t 5)⟩,
 ⟨some 42, none, .mov (.t 8)⟩,
 ⟨some 43, none, .bin .sub (.t 42) (.k (.d (.int .i64 1)))⟩,
 ⟨some 44, none, .iadr 1 (.t 41) (.t 43)⟩,
 ⟨some 45, none, .load 1 false (.t 44)⟩,
 ⟨some 46, none, .mov (.t 7)⟩,
 ⟨some 47, none, .bslice 3 1 1 [(.t 46)]⟩,
 ⟨some 48, none, .app 3 1 8 (.t 45) (.t 47)⟩,
 ⟨some 49, none, .iadr 1 (.t 38) (.t 40)⟩,
 ⟨none, none, .store 1 (.t 49) (.t 48)⟩])))))))
 (.seq (.reg [⟨some 50, none, .load 1 false (.t 5)⟩,
 ⟨some 4, none, .mov (.t 50)⟩])
 .ret)))))
def rs13 : List RV := [.tmp 4]
theorem ok13 : okF Try.prog 13 = true := by kernel_rfl
theorem cc13 : cCode Try.prog Try.f13.ntmps (Try.f13.body.getD .skip) = some kc13 := by kernel_rfl
theorem cr13 : cRess Try.prog Try.f13.results.toList = some rs13 := by kernel_rfl
def kc15 : C :=
  (.seq (.reg [⟨some 2, none, .box 36 (.t 0)⟩,
 ⟨some 4, none, .mov (.k (.d (.sl true 0 0 fun _ => [])))⟩])
 (.seq (.reg [⟨some 5, none, .mov (.k (.d (.sl true 0 0 fun _ => [])))⟩])
 (.seq (.reg [⟨some 10, none, .mkmap ((.int .i64 0))⟩,
 ⟨some 6, none, .mov (.t 10)⟩])
 (.seq (.seq (.reg [⟨some 11, none, .mov (.t 1)⟩,
 ⟨some 12, none, .len (.t 11)⟩,
 ⟨some 13, none, .mov (.k (.d (.int .i64 0)))⟩])
 (.block 0 (.loop (.seq (.reg [⟨some 14, none, .bin .lss (.t 13) (.t 12)⟩])
 (.seq (.cond (.t 14) .skip
 (.exit 0))
 (.seq (.block 2 (.seq (.reg [⟨some 15, none, .mov (.t 13)⟩,
 ⟨some 16, none, .iadr 5 (.t 11) (.t 13)⟩,
 ⟨some 17, none, .load 5 true (.t 16)⟩,
 ⟨some 8, none, .alloc 26 [.d (.int .i64 0), .d (.int .i64 0), .d (.int .i64 0), .d (.int .i64 0), .d (.int .i64 0)]⟩,
 ⟨some 7, none, .mov (.t 15)⟩,
 ⟨none, none, .store 5 (.t 8) (.t 17)⟩])
 (.seq (.seq (.reg [⟨some 18, none, .load 9 true (.t 2)⟩,
 ⟨some 19, none, .load 5 true (.t 8)⟩,
 ⟨some 20, none, .call 20 [(.t 18), (.t 19)]⟩,
 ⟨some 21, none, .inv .not (.t 20)⟩])
 (.cond (.t 21) (.exit 2)
 .skip))
 (.seq (.seq (.reg [⟨some 22, none, .mov (.t 6)⟩,
 ⟨some 23, none, .fadr 1 (.t 8)⟩,
 ⟨some 24, none, .load 1 false (.t 23)⟩,
 ⟨some 25, none, .lkp ((.int .i64 0)) (.t 22) (.t 24)⟩,
 ⟨some 9, none, .mov (.t 25)⟩])
 (.seq (.reg [⟨some 26, none, .fadr 1 (.t 8)⟩,
 ⟨some 27, none, .load 1 false (.t 26)⟩,
 ⟨some 28, none, .bin .neq (.t 27) (.k (.d (.int .i64 0)))⟩,
 ⟨some 29, none, .mov (.t 28)⟩,
 ⟨some 30, some (29, true), .mov (.t 9)⟩,
 ⟨some 31, some (29, true), .bin .gtr (.t 30) (.k (.d (.int .i64 0)))⟩,
 ⟨some 32, none, .pick (.t 29) (.t 31) (.k (.d (.bool false)))⟩])
 (.cond (.t 32) (.seq (.reg [⟨some 33, none, .mov (.t 5)⟩,
 ⟨some 34, none, .mov (.t 9)⟩,
 ⟨some 35, none, .bin .sub (.t 34) (.k (.d (.int .i64 1)))⟩,
 ⟨some 36, none, .mov (.t 5)⟩,
 ⟨some 37, none, .mov (.t 9)⟩,
 ⟨some 38, none, .bin .sub (.t 37) (.k (.d (.int .i64 1)))⟩,
 ⟨some 39, none, .iadr 1 (.t 36) (.t 38)⟩,
 ⟨some 40, none, .load 1 false (.t 39)⟩,
 ⟨some 41, none, .mov (.t 7)⟩,
 ⟨some 42, none, .bslice 3 1 1 [(.t 41)]⟩,
 ⟨some 43, none, .app 3 1 8 (.t 40) (.t 42)⟩,
 ⟨some 44, none, .iadr 1 (.t 33) (.t 35)⟩,
 ⟨none, none, .store 1 (.t 44) (.t 43)⟩])
 (.exit 2))
 .skip)))
 (.seq (.reg [⟨some 45, none, .mov (.t 5)⟩,
 ⟨some 46, none, .mov (.t 7)⟩,
 ⟨some 47, none, .bslice 3 1 1 [(.t 46)]⟩,
 ⟨some 48, none, .bslice 32 1 1 [(.t 47)]⟩,
 ⟨some 49, none, .app 32 1 24 (.t 45) (.t 48)⟩,
 ⟨some 5, none, .mov (.t 49)⟩])
 (.reg [⟨some 50, none, .mov (.t 6)⟩,
 ⟨some 51, none, .fadr 1 (.t 8)⟩,
 ⟨some 52, none, .load 1 false (.t 51)⟩,
 ⟨some 53, none, .mov (.t 5)⟩,
 ⟨some 54, none, .len (.t 53)⟩,
 ⟨none, none, .mup (.t 50) (.t 52) (.t 54)⟩]))))))
 (.reg [⟨some 55, none, .bin .add (.t 13) (.k (.d (.int .i64 1)))⟩,
 ⟨some 13, none, .mov (.t 55)⟩])))))))
 (.seq (.reg [⟨some 56, none, .mov (.t 5)⟩,
 ⟨some 4, none, .mov (.t 56)⟩])
 .ret)))))
def rs15 : List RV := [.tmp 4]
theorem ok15 : okF Try.prog 15 = true := by kernel_rfl
theorem cc15 : cCode Try.prog Try.f15.ntmps (Try.f15.body.getD .skip) = some kc15 := by kernel_rfl
theorem cr15 : cRess Try.prog Try.f15.results.toList = some rs15 := by kernel_rfl
def kc17 : C :=
  (.seq (.reg [⟨some 2, none, .box 36 (.t 0)⟩,
 ⟨some 4, none, .mov (.k (.d (.sl true 0 0 fun _ => [])))⟩,
 ⟨some 5, none, .mov (.k (.d (.int .i64 0)))⟩])
 (.seq (.seq (.reg [⟨some 21, none, .fadr 1 (.t 2)⟩,
 ⟨some 22, none, .load 1 false (.t 21)⟩,
 ⟨some 23, none, .bin .neq (.t 22) (.k (.d (.int .i64 3)))⟩,
 ⟨some 24, none, .mov (.t 23)⟩,
 ⟨some 25, some (24, false), .load 9 true (.t 2)⟩,
 ⟨some 26, some (24, false), .call 29 [(.t 25)]⟩,
 ⟨some 27, some (24, false), .inv .not (.t 26)⟩,
 ⟨some 28, none, .pick (.t 24) (.k (.d (.bool true))) (.t 27)⟩])
 (.cond (.t 28) (.seq (.reg [⟨some 4, none, .mov (.k (.d (.sl true 0 0 fun _ => [])))⟩,
 ⟨some 5, none, .mov (.k (.d (.int .i64 1)))⟩])
 .ret)
 .skip))
 (.seq (.seq (.reg [⟨some 29, none, .mov (.t 1)⟩,
 ⟨some 30, none, .len (.t 29)⟩,
 ⟨some 31, none, .mov (.k (.d (.int .i64 0)))⟩])
 (.block 0 (.loop (.seq (.reg [⟨some 32, none, .bin .lss (.t 31) (.t 30)⟩])
 (.seq (.cond (.t 32) .skip
 (.exit 0))
 (.seq (.block 2 (.seq (.reg [⟨some 33, none, .iadr 5 (.t 29) (.t 31)⟩,
 ⟨some 34, none, .load 5 true (.t 33)⟩,
 ⟨some 7, none, .alloc 26 [.d (.int .i64 0), .d (.int .i64 0), .d (.int .i64 0), .d (.int .i64 0), .d (.int .i64 0)]⟩,
 ⟨none, none, .store 5 (.t 7) (.t 34)⟩])
 (.seq (.reg [⟨some 35, none, .load 5 true (.t 7)⟩,
 ⟨some 36, none, .call 22 [(.t 35)]⟩,
 ⟨some 37, none, .inv .not (.t 36)⟩])
 (.cond (.t 37) (.seq (.reg [⟨some 4, none, .mov (.k (.d (.sl true 0 0 fun _ => [])))⟩,
 ⟨some 5, none, .mov (.k (.d (.int .i64 1)))⟩])
 .ret)
 .skip))))
 (.reg [⟨some 38, none, .bin .add (.t 31) (.k (.d (.int .i64 1)))⟩,
 ⟨some 31, none, .mov (.t 38)⟩])))))))
 (.seq (.seq (.reg [⟨some 39, none, .mov (.t 1)⟩,
 ⟨some 40, none, .len (.t 39)⟩,
 ⟨some 41, none, .bin .gtr (.t 40) (.k (.d (.int .i64 2000)))⟩])
 (.cond (.t 41) (.seq (.reg [⟨some 4, none, .mov (.k (.d (.sl true 0 0 fun _ => [])))⟩,
 ⟨some 5, none, .mov (.k (.d (.int .i64 2)))⟩])
 .ret)
 .skip))
 (.seq (.reg [⟨some 42, none, .mov (.t 1)⟩,
 ⟨some 43, none, .len (.t 42)⟩,
 ⟨some 44, none, .mks 3 1 8 [(.int .i64 0)] (.t 43) (.t 43)⟩,
 ⟨some 8, none, .mov (.t 44)⟩])
 (.seq (.reg [⟨some 45, none, .load 9 true (.t 2)⟩,
 ⟨some 46, none, .call 21 [(.t 45)]⟩,
 ⟨some 9, none, .mov (.t 46)⟩])
 (.seq (.seq (.reg [⟨some 47, none, .load 9 true (.t 2)⟩,
 ⟨some 48, none, .mov (.t 1)⟩,
 ⟨some 49, none, .call 15 [(.t 47), (.t 48)]⟩,
 ⟨some 50, none, .len (.t 49)⟩,
 ⟨some 51, none, .mov (.k (.d (.int .i64 0)))⟩])
 (.block 4 (.loop (.seq (.reg [⟨some 52, none, .bin .lss (.t 51) (.t 50)⟩])
 (.seq (.cond (.t 52) .skip
 (.exit 4))
 (.seq (.block 6 (.seq (.reg [⟨some 53, none, .iadr 1 (.t 49) (.t 51)⟩,
 ⟨some 54, none, .load 1 false (.t 53)⟩,
 ⟨some 11, none, .mov (.t 54)⟩])
 (.seq (.reg [⟨some 12, none, .mov (.k (.d (.sl true 0 0 fun _ => [])))⟩])
 (.seq (.reg [⟨some 13, none, .mov (.k (.d (.int .i64 0)))⟩])
 (.seq (.seq (.reg [⟨some 55, none, .mov (.t 11)⟩,
 ⟨some 56, none, .len (.t 55)⟩,
 ⟨some 57, none, .mov (.k (.d (.int .i64 0)))⟩])
 (.block 8 (.loop (.seq (.reg [⟨some 58, none, .bin .lss (.t 57) (.t 56)⟩])
 (.seq (.cond (.t 58) .skip
 (.exit 8))
 (.seq (.block 10 (.seq (.reg [⟨some 59, none, .iadr 1 (.t 55) (.t 57)⟩,
 ⟨some 60, none, .load 1 false (.t 59)⟩,
 ⟨some 15, none, .mov (.t 60)⟩])
 (.drw [0, 0, 0, 6, 14, 30, 62, 127, 0, 0, 0, 1536, 3584, 7680, 16128, 255, 65535]
  [⟨some 61, none, .mov (.t 12)⟩,
 ⟨some 62, none, .mov (.t 1)⟩,
 ⟨some 63, none, .mov (.t 15)⟩,
 ⟨some 64, none, .iadr 5 (.t 62) (.t 63)⟩,
 ⟨some 65, none, .fadr 4 (.t 64)⟩,
 ⟨some 66, none, .load 1 false (.t 65)⟩,
 ⟨some 67, none, .bslice 3 1 1 [(.t 66)]⟩,
 ⟨some 68, none, .app 3 1 8 (.t 61) (.t 67)⟩,
 ⟨some 69, none, .mov (.t 13)⟩,
 ⟨some 70, none, .mov (.t 1)⟩,
 ⟨some 71, none, .mov (.t 15)⟩,
 ⟨some 72, none, .iadr 5 (.t 70) (.t 71)⟩,
 ⟨some 73, none, .fadr 4 (.t 72)⟩,
 ⟨some 74, none, .load 1 false (.t 73)⟩,
 ⟨some 75, none, .bin .add (.t 69) (.t 74)⟩,
 ⟨some 12, none, .mov (.t 68)⟩,
 ⟨some 13, none, .mov (.t 75)⟩])))
 (.reg [⟨some 76, none, .bin .add (.t 57) (.k (.d (.int .i64 1)))⟩,
 ⟨some 57, none, .mov (.t 76)⟩])))))))
 (.seq (.reg [⟨some 77, none, .mov (.t 9)⟩,
 ⟨some 78, none, .load 9 true (.t 2)⟩,
 ⟨some 79, none, .mov (.t 13)⟩,
 ⟨some 80, none, .call 30 [(.t 78), (.t 79)]⟩,
 ⟨some 81, none, .mm false (.t 77) (.t 80)⟩,
 ⟨some 16, none, .mov (.t 81)⟩])
 (.seq (.reg [⟨some 82, none, .mov (.t 9)⟩,
 ⟨some 83, none, .mov (.t 16)⟩,
 ⟨some 84, none, .bin .sub (.t 82) (.t 83)⟩,
 ⟨some 9, none, .mov (.t 84)⟩])
 (.seq (.reg [⟨some 86, none, .mov (.t 16)⟩,
 ⟨some 87, none, .mov (.t 12)⟩,
 ⟨some 88, none, .call 31 [(.t 86), (.t 87)]⟩,
 ⟨some 85, none, .mov (.t 88)⟩,
 ⟨some 89, none, .ext 0 (.t 85)⟩,
 ⟨some 90, none, .ext 1 (.t 85)⟩,
 ⟨some 17, none, .mov (.t 89)⟩,
 ⟨some 18, none, .mov (.t 90)⟩])
 (.seq (.reg [⟨some 91, none, .mov (.t 17)⟩,
 ⟨some 92, none, .len (.t 91)⟩,
 ⟨some 93, none, .mov (.k (.d (.int .i64 0)))⟩])
 (.block 12 (.loop (.seq (.reg [⟨some 94, none, .bin .lss (.t 93) (.t 92)⟩])
 (.seq (.cond (.t 94) .skip
 (.exit 12))
 (.seq (.block 14 (.seq (.reg [⟨some 95, none, .mov (.t 93)⟩,
 ⟨some 96, none, .iadr 1 (.t 91) (.t 93)⟩,
 ⟨some 97, none, .load 1 false (.t 96)⟩,
 ⟨some 19, none, .mov (.t 95)⟩,
 ⟨some 20, none, .mov (.t 97)⟩])
 (.reg [⟨some 98, none, .mov (.t 8)⟩,
 ⟨some 99, none, .mov (.t 11)⟩,
 ⟨some 100, none, .mov (.t 19)⟩,
 ⟨some 101, none, .iadr 1 (.t 99) (.t 100)⟩,
 ⟨some 102, none, .load 1 false (.t 101)⟩,
 ⟨some 103, none, .mov (.t 20)⟩,
 ⟨some 104, none, .iadr 1 (.t 98) (.t 102)⟩,
 ⟨none, none, .store 1 (.t 104) (.t 103)⟩])))
 (.reg [⟨some 105, none, .bin .add (.t 93) (.k (.d (.int .i64 1)))⟩,
 ⟨some 93, none, .mov (.t 105)⟩])))))))))))))))
 (.reg [⟨some 106, none, .bin .add (.t 51) (.k (.d (.int .i64 1)))⟩,
 ⟨some 51, none, .mov (.t 106)⟩])))))))
 (.seq (.reg [⟨some 107, none, .mov (.t 8)⟩,
 ⟨some 4, none, .mov (.t 107)⟩,
 ⟨some 5, none, .mov (.k (.d (.int .i64 0)))⟩])
 .ret))))))))
def rs17 : List RV := [.tmp 4, .tmp 5]
theorem ok17 : okF Try.prog 17 = true := by kernel_rfl
theorem cc17 : cCode Try.prog Try.f17.ntmps (Try.f17.body.getD .skip) = some kc17 := by kernel_rfl
theorem cr17 : cRess Try.prog Try.f17.results.toList = some rs17 := by kernel_rfl
def kc19 : C :=
  (.seq (.reg [⟨some 4, none, .mov (.k (.d (.bool false)))⟩])
 (.seq (.seq (.reg [⟨some 6, none, .mov (.t 0)⟩,
 ⟨some 7, none, .len (.t 6)⟩,
 ⟨some 8, none, .mov (.t 1)⟩,
 ⟨some 9, none, .len (.t 8)⟩,
 ⟨some 10, none, .bin .neq (.t 7) (.t 9)⟩])
 (.cond (.t 10) (.seq (.reg [⟨some 4, none, .mov (.k (.d (.bool false)))⟩])
 .ret)
 .skip))
 (.seq (.seq (.reg [⟨some 5, none, .mov (.k (.d (.int .i64 0)))⟩])
 (.block 0 (.loop (.seq (.seq (.reg [⟨some 11, none, .mov (.t 5)⟩,
 ⟨some 12, none, .mov (.t 0)⟩,
 ⟨some 13, none, .len (.t 12)⟩,
 ⟨some 14, none, .bin .lss (.t 11) (.t 13)⟩])
 (.cond (.t 14) .skip
 (.exit 0)))
 (.seq (.block 2 (.seq (.drw [0, 0, 3, 7, 0, 0, 48, 112, 255]
  [⟨some 17, none, .mov (.t 0)⟩,
 ⟨some 18, none, .mov (.t 5)⟩,
 ⟨some 19, none, .iadr 1 (.t 17) (.t 18)⟩,
 ⟨some 20, none, .load 1 false (.t 19)⟩,
 ⟨some 21, none, .mov (.t 1)⟩,
 ⟨some 22, none, .mov (.t 5)⟩,
 ⟨some 23, none, .iadr 1 (.t 21) (.t 22)⟩,
 ⟨some 24, none, .load 1 false (.t 23)⟩,
 ⟨some 25, none, .bin .neq (.t 20) (.t 24)⟩])
 (.cond (.t 25) (.seq (.reg [⟨some 4, none, .mov (.k (.d (.bool false)))⟩])
 .ret)
 .skip)))
 (.reg [⟨some 15, none, .mov (.t 5)⟩,
 ⟨some 16, none, .bin .add (.t 15) (.k (.d (.int .i64 1)))⟩,
 ⟨some 5, none, .mov (.t 16)⟩]))))))
 (.seq (.reg [⟨some 4, none, .mov (.k (.d (.bool true)))⟩])
 .ret))))
def rs19 : List RV := [.tmp 4]
theorem ok19 : okF Try.prog 19 = true := by kernel_rfl
theorem cc19 : cCode Try.prog Try.f19.ntmps (Try.f19.body.getD .skip) = some kc19 := by kernel_rfl
theorem cr19 : cRess Try.prog Try.f19.results.toList = some rs19 := by kernel_rfl
def kc20 : C :=
  (.seq (.reg [⟨some 2, none, .box 36 (.t 0)⟩,
 ⟨some 3, none, .box 26 (.t 1)⟩,
 ⟨some 4, none, .mov (.k (.d (.bool false)))⟩])
 (.seq (.reg [⟨some 5, none, .load 9 true (.t 2)⟩,
 ⟨some 6, none, .call 29 [(.t 5)]⟩,
 ⟨some 7, none, .mov (.t 6)⟩,
 ⟨some 8, some (7, true), .load 5 true (.t 3)⟩,
 ⟨some 9, some (7, true), .call 22 [(.t 8)]⟩,
 ⟨some 10, none, .pick (.t 7) (.t 9) (.k (.d (.bool false)))⟩,
 ⟨some 11, none, .mov (.t 10)⟩,
 ⟨some 12, some (11, true), .fadr 2 (.t 2)⟩,
 ⟨some 13, some (11, true), .load 2 true (.t 12)⟩,
 ⟨some 14, some (11, true), .fadr 2 (.t 3)⟩,
 ⟨some 15, some (11, true), .load 1 false (.t 14)⟩,
 ⟨some 16, some (11, true), .call 39 [(.t 13), (.t 15)]⟩,
 ⟨some 17, none, .pick (.t 11) (.t 16) (.k (.d (.bool false)))⟩,
 ⟨some 18, none, .mov (.t 17)⟩,
 ⟨some 19, some (18, true), .fadr 8 (.t 2)⟩,
 ⟨some 20, some (18, true), .load 1 false (.t 19)⟩,
 ⟨some 21, some (18, true), .fadr 3 (.t 3)⟩,
 ⟨some 22, some (18, true), .load 1 false (.t 21)⟩,
 ⟨some 23, some (18, true), .shf false (.t 20) (.t 22)⟩,
 ⟨some 24, some (18, true), .bin .and (.t 23) (.k (.d (.int .i64 1)))⟩,
 ⟨some 25, some (18, true), .bin .eql (.t 24) (.k (.d (.int .i64 1)))⟩,
 ⟨some 26, none, .pick (.t 18) (.t 25) (.k (.d (.bool false)))⟩,
 ⟨some 4, none, .mov (.t 26)⟩])
 .ret))
def rs20 : List RV := [.tmp 4]
theorem ok20 : okF Try.prog 20 = true := by kernel_rfl
theorem cc20 : cCode Try.prog Try.f20.ntmps (Try.f20.body.getD .skip) = some kc20 := by kernel_rfl
theorem cr20 : cRess Try.prog Try.f20.results.toList = some rs20 := by kernel_rfl
def kc21 : C :=
  (.seq (.reg [⟨some 1, none, .box 36 (.t 0)⟩,
 ⟨some 2, none, .mov (.k (.d (.int .i64 0)))⟩])
 (.seq (.seq (.reg [⟨some 3, none, .load 9 true (.t 1)⟩,
 ⟨some 4, none, .call 40 [(.t 3)]⟩,
 ⟨some 5, none, .inv .not (.t 4)⟩])
 (.cond (.t 5) (.seq (.reg [⟨some 2, none, .mov (.k (.d (.int .i64 0)))⟩])
 .ret)
 .skip))
 (.seq (.reg [⟨some 6, none, .fadr 6 (.t 1)⟩,
 ⟨some 7, none, .load 1 false (.t 6)⟩,
 ⟨some 8, none, .fadr 7 (.t 1)⟩,
 ⟨some 9, none, .load 1 false (.t 8)⟩,
 ⟨some 10, none, .bin .add (.k (.d (.int .i64 1))) (.t 9)⟩,
 ⟨some 11, none, .bin .mul (.t 7) (.t 10)⟩,
 ⟨some 2, none, .mov (.t 11)⟩])
 .ret)))
def rs21 : List RV := [.tmp 2]
theorem ok21 : okF Try.prog 21 = true := by kernel_rfl
theorem cc21 : cCode Try.prog Try.f21.ntmps (Try.f21.body.getD .skip) = some kc21 := by kernel_rfl
theorem cr21 : cRess Try.prog Try.f21.results.toList = some rs21 := by kernel_rfl
def kc22 : C :=
  (.seq (.reg [⟨some 1, none, .box 26 (.t 0)⟩,
 ⟨some 2, none, .mov (.k (.d (.bool false)))⟩])
 (.seq (.reg [⟨some 3, none, .build [.d (.int .i64 0), .d (.int .i64 0)] [(0, 1, (.k (.d (.int .i64 1)))), (1, 1, (.k (.d (.int .i64 1000000000))))]⟩,
 ⟨some 4, none, .fadr 0 (.t 1)⟩,
 ⟨some 5, none, .load 1 false (.t 4)⟩,
 ⟨some 6, none, .bslice 3 1 1 [(.t 5)]⟩,
 ⟨some 7, none, .call 41 [(.t 3), (.t 6)]⟩,
 ⟨some 8, none, .mov (.t 7)⟩,
 ⟨some 9, some (8, true), .build [.d (.int .i64 0), .d (.int .i64 0)] [(0, 1, (.k (.d (.int .i64 0)))), (1, 1, (.k (.d (.int .i64 1000000000))))]⟩,
 ⟨some 10, some (8, true), .fadr 1 (.t 1)⟩,
 ⟨some 11, some (8, true), .load 1 false (.t 10)⟩,
 ⟨some 12, some (8, true), .bslice 3 1 1 [(.t 11)]⟩,
 ⟨some 13, some (8, true), .call 41 [(.t 9), (.t 12)]⟩,
 ⟨some 14, none, .pick (.t 8) (.t 13) (.k (.d (.bool false)))⟩,
 ⟨some 15, none, .mov (.t 14)⟩,
 ⟨some 16, some (15, true), .build [.d (.int .i64 0), .d (.int .i64 0)] [(0, 1, (.k (.d (.int .i64 1)))), (1, 1, (.k (.d (.int .i64 292194))))]⟩,
 ⟨some 17, some (15, true), .fadr 2 (.t 1)⟩,
 ⟨some 18, some (15, true), .load 1 false (.t 17)⟩,
 ⟨some 19, some (15, true), .bslice 3 1 1 [(.t 18)]⟩,
 ⟨some 20, some (15, true), .call 41 [(.t 16), (.t 19)]⟩,
 ⟨some 21, none, .pick (.t 15) (.t 20) (.k (.d (.bool false)))⟩,
 ⟨some 22, none, .mov (.t 21)⟩,
 ⟨some 23, some (22, true), .build [.d (.int .i64 0), .d (.int .i64 0)] [(0, 1, (.k (.d (.int .i64 0)))), (1, 1, (.k (.d (.int .i64 7))))]⟩,
 ⟨some 24, some (22, true), .fadr 3 (.t 1)⟩,
 ⟨some 25, some (22, true), .load 1 false (.t 24)⟩,
 ⟨some 26, some (22, true), .bslice 3 1 1 [(.t 25)]⟩,
 ⟨some 27, some (22, true), .call 41 [(.t 23), (.t 26)]⟩,
 ⟨some 28, none, .pick (.t 22) (.t 27) (.k (.d (.bool false)))⟩,
 ⟨some 29, none, .mov (.t 28)⟩,
 ⟨some 30, some (29, true), .build [.d (.int .i64 0), .d (.int .i64 0)] [(0, 1, (.k (.d (.int .i64 0)))), (1, 1, (.k (.d (.int .i64 1000000000000000))))]⟩,
 ⟨some 31, some (29, true), .fadr 4 (.t 1)⟩,
 ⟨some 32, some (29, true), .load 1 false (.t 31)⟩,
 ⟨some 33, some (29, true), .bslice 3 1 1 [(.t 32)]⟩,
 ⟨some 34, some (29, true), .call 41 [(.t 30), (.t 33)]⟩,
 ⟨some 35, none, .pick (.t 29) (.t 34) (.k (.d (.bool false)))⟩,
 ⟨some 2, none, .mov (.t 35)⟩])
 .ret))
def rs22 : List RV := [.tmp 2]
theorem ok22 : okF Try.prog 22 = true := by kernel_rfl
theorem cc22 : cCode Try.prog Try.f22.ntmps (Try.f22.body.getD .skip) = some kc22 := by kernel_rfl
theorem cr22 : cRess Try.prog Try.f22.results.toList = some rs22 := by kernel_rfl
def kc23 : C :=
  (.seq (.reg [⟨some 2, none, .box 36 (.t 0)⟩,
 ⟨some 4, none, .mov (.k (.d (.sl true 0 0 fun _ => [])))⟩,
 ⟨some 5, none, .mov (.k (.d (.int .i64 0)))⟩])
 (.seq (.reg [⟨some 6, none, .mov (.k (.fn (.func 42) [] []))⟩])
 (.seq (.block 0 (.seq (.reg [⟨some 12, none, .load 9 true (.t 2)⟩,
 ⟨some 13, none, .call 29 [(.t 12)]⟩,
 ⟨some 14, none, .inv .not (.t 13)⟩,
 ⟨some 15, none, .mov (.t 14)⟩,
 ⟨some 16, some (15, false), .fadr 1 (.t 2)⟩,
 ⟨some 17, some (15, false), .load 1 false (.t 16)⟩,
 ⟨some 18, some (15, false), .bin .neq (.t 17) (.k (.d (.int .i64 2)))⟩,
 ⟨some 19, none, .pick (.t 15) (.k (.d (.bool true))) (.t 18)⟩,
 ⟨some 20, none, .mov (.t 19)⟩,
 ⟨some 21, some (20, false), .mov (.t 1)⟩,
 ⟨some 22, some (20, false), .mov (.t 6)⟩,
 ⟨some 23, some (20, false), .call 43 [(.t 21), (.t 22)]⟩,
 ⟨some 24, none, .pick (.t 20) (.k (.d (.bool true))) (.t 23)⟩,
 ⟨some 11, none, .mov (.t 24)⟩])
 (.cond (.t 11) (.seq (.reg [⟨some 4, none, .mov (.k (.d (.sl true 0 0 fun _ => [])))⟩,
 ⟨some 5, none, .mov (.k (.d (.int .i64 1)))⟩])
 .ret)
 (.seq (.reg [⟨some 26, none, .mov (.t 1)⟩,
 ⟨some 27, none, .len (.t 26)⟩,
 ⟨some 28, none, .bin .gtr (.t 27) (.k (.d (.int .i64 2000)))⟩,
 ⟨some 25, none, .mov (.t 28)⟩])
 (.cond (.t 25) (.seq (.reg [⟨some 4, none, .mov (.k (.d (.sl true 0 0 fun _ => [])))⟩,
 ⟨some 5, none, .mov (.k (.d (.int .i64 2)))⟩])
 .ret)
 .skip)))))
 (.seq (.reg [⟨some 29, none, .mov (.t 1)⟩,
 ⟨some 30, none, .len (.t 29)⟩,
 ⟨some 31, none, .mks 3 1 8 [(.int .i64 0)] (.t 30) (.t 30)⟩,
 ⟨some 7, none, .mov (.t 31)⟩])
 (.seq (.reg [⟨some 32, none, .load 9 true (.t 2)⟩,
 ⟨some 33, none, .call 21 [(.t 32)]⟩,
 ⟨some 34, none, .build [.d (.int .i64 0)] [(0, 1, (.t 33))]⟩,
 ⟨some 35, none, .box 67 (.t 34)⟩,
 ⟨some 36, none, .mkfn (.func 44) [(.t 35)] []⟩,
 ⟨some 8, none, .mov (.t 36)⟩])
 (.seq (.seq (.reg [⟨some 37, none, .mov (.t 1)⟩,
 ⟨some 38, none, .len (.t 37)⟩,
 ⟨some 39, none, .mov (.k (.d (.int .i64 0)))⟩])
 (.block 2 (.loop (.seq (.reg [⟨some 40, none, .bin .lss (.t 39) (.t 38)⟩])
 (.seq (.cond (.t 40) .skip
 (.exit 2))
 (.seq (.block 4 (.seq (.reg [⟨some 41, none, .mov (.t 39)⟩,
 ⟨some 42, none, .iadr 5 (.t 37) (.t 39)⟩,
 ⟨some 43, none, .load 5 true (.t 42)⟩,
 ⟨some 10, none, .alloc 26 [.d (.int .i64 0), .d (.int .i64 0), .d (.int .i64 0), .d (.int .i64 0), .d (.int .i64 0)]⟩,
 ⟨some 9, none, .mov (.t 41)⟩,
 ⟨none, none, .store 5 (.t 10) (.t 43)⟩])
 (.seq (.reg [⟨some 44, none, .load 9 true (.t 2)⟩,
 ⟨some 45, none, .load 5 true (.t 10)⟩,
 ⟨some 46, none, .call 20 [(.t 44), (.t 45)]⟩])
 (.cond (.t 46) (.reg [⟨some 47, none, .mov (.t 7)⟩,
 ⟨some 48, none, .mov (.t 9)⟩,
 ⟨some 49, none, .mov (.t 8)⟩,
 ⟨some 50, none, .load 9 true (.t 2)⟩,
 ⟨some 51, none, .fadr 4 (.t 10)⟩,
 ⟨some 52, none, .load 1 false (.t 51)⟩,
 ⟨some 53, none, .call 30 [(.t 50), (.t 52)]⟩,
 ⟨some 54, none, .callv (.t 49) [(.t 53)]⟩,
 ⟨some 55, none, .iadr 1 (.t 47) (.t 48)⟩,
 ⟨none, none, .store 1 (.t 55) (.t 54)⟩])
 .skip))))
 (.reg [⟨some 56, none, .bin .add (.t 39) (.k (.d (.int .i64 1)))⟩,
 ⟨some 39, none, .mov (.t 56)⟩])))))))
 (.seq (.reg [⟨some 57, none, .mov (.t 7)⟩,
 ⟨some 4, none, .mov (.t 57)⟩,
 ⟨some 5, none, .mov (.k (.d (.int .i64 0)))⟩])
 .ret)))))))
def rs23 : List RV := [.tmp 4, .tmp 5]
theorem ok23 : okF Try.prog 23 = true := by kernel_rfl
theorem cc23 : cCode Try.prog Try.f23.ntmps (Try.f23.body.getD .skip) = some kc23 := by kernel_rfl
theorem cr23 : cRess Try.prog Try.f23.results.toList = some rs23 := by kernel_rfl
def kc24 : C :=
  (.seq (.reg [⟨some 6, none, .alloc 26 [.d (.int .i64 0), .d (.int .i64 0), .d (.int .i64 0), .d (.int .i64 0), .d (.int .i64 0)]⟩])
 (.seq (.reg [⟨some 7, none, .mov (.t 0)⟩,
 ⟨some 8, none, .mov (.t 1)⟩,
 ⟨some 9, none, .mov (.t 2)⟩,
 ⟨some 10, none, .build [.d (.int .i64 0), .d (.int .i64 0), .d (.int .i64 0), .d (.int .i64 0), .d (.int .i64 0)] [(0, 1, (.k (.d (.int .i64 1)))), (1, 1, (.t 7)), (2, 1, (.t 8)), (4, 1, (.t 9))]⟩,
 ⟨none, none, .store 5 (.t 6) (.t 10)⟩])
 .ret))
def rs24 : List RV := [.cell 6 5 true]
theorem ok24 : okF Try.prog 24 = true := by kernel_rfl
theorem cc24 : cCode Try.prog Try.f24.ntmps (Try.f24.body.getD .skip) = some kc24 := by kernel_rfl
theorem cr24 : cRess Try.prog Try.f24.results.toList = some rs24 := by kernel_rfl
def kc25 : C :=
  (.seq (.reg [⟨some 6, none, .alloc 36 [.d (.int .i64 0), .d (.int .i64 0), .d (.int .i64 0), .d (.int .i64 0), .d (.int .i64 0), .d (.int .i64 0), .d (.int .i64 0), .d (.int .i64 0), .d (.int .i64 0)]⟩])
 (.seq (.reg [⟨some 7, none, .build [.d (.int .i64 0), .d (.int .i64 0)] [(0, 1, (.k (.d (.int .i64 1)))), (1, 1, (.k (.d (.int .i64 100))))]⟩,
 ⟨some 8, none, .mov (.t 0)⟩,
 ⟨some 9, none, .mov (.t 1)⟩,
 ⟨some 10, none, .mov (.t 2)⟩,
 ⟨some 11, none, .build [.d (.int .i64 0), .d (.int .i64 0), .d (.int .i64 0), .d (.int .i64 0), .d (.int .i64 0), .d (.int .i64 0), .d (.int .i64 0), .d (.int .i64 0), .d (.int .i64 0)] [(0, 1, (.k (.d (.int .i64 1)))), (1, 1, (.k (.d (.int .i64 3)))), (2, 2, (.t 7)), (5, 1, (.t 8)), (6, 1, (.t 9)), (7, 1, (.t 10)), (8, 1, (.k (.d (.int .i64 255))))]⟩,
 ⟨none, none, .store 9 (.t 6) (.t 11)⟩])
 .ret))
def rs25 : List RV := [.cell 6 9 true]
theorem ok25 : okF Try.prog 25 = true := by kernel_rfl
theorem cc25 : cCode Try.prog Try.f25.ntmps (Try.f25.body.getD .skip) = some kc25 := by kernel_rfl
theorem cr25 : cRess Try.prog Try.f25.results.toList = some rs25 := by kernel_rfl
def kc26 : C :=
  (.seq (.reg [⟨some 1, none, .box 22 (.t 0)⟩,
 ⟨some 2, none, .mov (.k (.d (.raw .nilFunc)))⟩])
 (.seq (.reg [⟨some 3, none, .mkfn (.func 45) [] [(.t 1)]⟩,
 ⟨some 2, none, .mov (.t 3)⟩])
 .ret))
def rs26 : List RV := [.tmp 2]
theorem ok26 : okF Try.prog 26 = true := by kernel_rfl
theorem cc26 : cCode Try.prog Try.f26.ntmps (Try.f26.body.getD .skip) = some kc26 := by kernel_rfl
theorem cr26 : cRess Try.prog Try.f26.results.toList = some rs26 := by kernel_rfl
def kc29 : C :=
  (.seq (.reg [⟨some 1, none, .box 36 (.t 0)⟩,
 ⟨some 2, none, .mov (.k (.d (.bool false)))⟩])
 (.seq (.seq (.reg [⟨some 3, none, .build [.d (.int .i64 0), .d (.int .i64 0)] [(0, 1, (.k (.d (.int .i64 1)))), (1, 1, (.k (.d (.int .i64 1000000000))))]⟩,
 ⟨some 4, none, .fadr 0 (.t 1)⟩,
 ⟨some 5, none, .load 1 false (.t 4)⟩,
 ⟨some 6, none, .bslice 3 1 1 [(.t 5)]⟩,
 ⟨some 7, none, .call 41 [(.t 3), (.t 6)]⟩,
 ⟨some 8, none, .inv .not (.t 7)⟩,
 ⟨some 9, none, .mov (.t 8)⟩,
 ⟨some 10, some (9, false), .fadr 2 (.t 1)⟩,
 ⟨some 11, some (9, false), .load 2 true (.t 10)⟩,
 ⟨some 12, some (9, false), .call 52 [(.t 11)]⟩,
 ⟨some 13, some (9, false), .bin .eql (.t 12) (.k (.d (.int .i64 0)))⟩,
 ⟨some 14, none, .pick (.t 9) (.k (.d (.bool true))) (.t 13)⟩,
 ⟨some 15, none, .mov (.t 14)⟩,
 ⟨some 16, some (15, false), .build [.d (.int .i64 0), .d (.int .i64 0)] [(0, 1, (.k (.d (.int .i64 1)))), (1, 1, (.k (.d (.int .i64 255))))]⟩,
 ⟨some 17, some (15, false), .fadr 8 (.t 1)⟩,
 ⟨some 18, some (15, false), .load 1 false (.t 17)⟩,
 ⟨some 19, some (15, false), .bslice 3 1 1 [(.t 18)]⟩,
 ⟨some 20, some (15, false), .call 41 [(.t 16), (.t 19)]⟩,
 ⟨some 21, some (15, false), .inv .not (.t 20)⟩,
 ⟨some 22, none, .pick (.t 15) (.k (.d (.bool true))) (.t 21)⟩])
 (.cond (.t 22) (.seq (.reg [⟨some 2, none, .mov (.k (.d (.bool false)))⟩])
 .ret)
 .skip))
 (.seq (.seq (.reg [⟨some 23, none, .fadr 1 (.t 1)⟩,
 ⟨some 24, none, .load 1 false (.t 23)⟩])
 (.block 0 (.seq (.reg [⟨some 26, none, .bin .eql (.t 24) (.k (.d (.int .i64 1)))⟩,
 ⟨some 25, none, .mov (.t 26)⟩])
 (.cond (.t 25) (.seq (.reg [⟨some 27, none, .build [.d (.int .i64 0), .d (.int .i64 0)] [(0, 1, (.k (.d (.int .i64 1)))), (1, 1, (.k (.d (.int .i64 10000))))]⟩,
 ⟨some 28, none, .fadr 4 (.t 1)⟩,
 ⟨some 29, none, .load 1 false (.t 28)⟩,
 ⟨some 30, none, .bslice 3 1 1 [(.t 29)]⟩,
 ⟨some 31, none, .call 41 [(.t 27), (.t 30)]⟩,
 ⟨some 32, none, .mov (.t 31)⟩,
 ⟨some 33, some (32, true), .build [.d (.int .i64 0), .d (.int .i64 0)] []⟩,
 ⟨some 34, some (32, true), .fadr 5 (.t 1)⟩,
 ⟨some 35, some (32, true), .load 1 false (.t 34)⟩,
 ⟨some 36, some (32, true), .fadr 6 (.t 1)⟩,
 ⟨some 37, some (32, true), .load 1 false (.t 36)⟩,
 ⟨some 38, some (32, true), .fadr 7 (.t 1)⟩,
 ⟨some 39, some (32, true), .load 1 false (.t 38)⟩,
 ⟨some 40, some (32, true), .bslice 3 1 3 [(.t 35), (.t 37), (.t 39)]⟩,
 ⟨some 41, some (32, true), .call 41 [(.t 33), (.t 40)]⟩,
 ⟨some 42, none, .pick (.t 32) (.t 41) (.k (.d (.bool false)))⟩,
 ⟨some 2, none, .mov (.t 42)⟩])
 .ret)
 (.seq (.seq (.reg [⟨some 44, none, .bin .eql (.t 24) (.k (.d (.int .i64 2)))⟩,
 ⟨some 43, none, .mov (.t 44)⟩])
 (.cond (.t 43) .skip
 (.reg [⟨some 45, none, .bin .eql (.t 24) (.k (.d (.int .i64 3)))⟩,
 ⟨some 43, none, .mov (.t 45)⟩])))
 (.cond (.t 43) (.seq (.reg [⟨some 46, none, .fadr 4 (.t 1)⟩,
 ⟨some 47, none, .load 1 false (.t 46)⟩,
 ⟨some 48, none, .bin .eql (.t 47) (.k (.d (.int .i64 0)))⟩,
 ⟨some 49, none, .mov (.t 48)⟩,
 ⟨some 50, some (49, true), .build [.d (.int .i64 0), .d (.int .i64 0)] [(0, 1, (.k (.d (.int .i64 0)))), (1, 1, (.k (.d (.int .i64 1000000000000000))))]⟩,
 ⟨some 51, some (49, true), .fadr 5 (.t 1)⟩,
 ⟨some 52, some (49, true), .load 1 false (.t 51)⟩,
 ⟨some 53, some (49, true), .fadr 6 (.t 1)⟩,
 ⟨some 54, some (49, true), .load 1 false (.t 53)⟩,
 ⟨some 55, some (49, true), .bslice 3 1 2 [(.t 52), (.t 54)]⟩,
 ⟨some 56, some (49, true), .call 41 [(.t 50), (.t 55)]⟩,
 ⟨some 57, none, .pick (.t 49) (.t 56) (.k (.d (.bool false)))⟩,
 ⟨some 58, none, .mov (.t 57)⟩,
 ⟨some 59, some (58, true), .fadr 6 (.t 1)⟩,
 ⟨some 60, some (58, true), .load 1 false (.t 59)⟩,
 ⟨some 61, some (58, true), .bin .gtr (.t 60) (.k (.d (.int .i64 0)))⟩,
 ⟨some 62, none, .pick (.t 58) (.t 61) (.k (.d (.bool false)))⟩,
 ⟨some 63, none, .mov (.t 62)⟩,
 ⟨some 64, some (63, true), .build [.d (.int .i64 0), .d (.int .i64 0)] [(0, 1, (.k (.d (.int .i64 0)))), (1, 1, (.k (.d (.int .i64 100))))]⟩,
 ⟨some 65, some (63, true), .fadr 7 (.t 1)⟩,
 ⟨some 66, some (63, true), .load 1 false (.t 65)⟩,
 ⟨some 67, some (63, true), .bslice 3 1 1 [(.t 66)]⟩,
 ⟨some 68, some (63, true), .call 41 [(.t 64), (.t 67)]⟩,
 ⟨some 69, none, .pick (.t 63) (.t 68) (.k (.d (.bool false)))⟩,
 ⟨some 2, none, .mov (.t 69)⟩])
 .ret)
 .skip))))))
 (.seq (.reg [⟨some 2, none, .mov (.k (.d (.bool false)))⟩])
 .ret))))
def rs29 : List RV := [.tmp 2]
theorem ok29 : okF Try.prog 29 = true := by kernel_rfl
theorem cc29 : cCode Try.prog Try.f29.ntmps (Try.f29.body.getD .skip) = some kc29 := by kernel_rfl
theorem cr29 : cRess Try.prog Try.f29.results.toList = some rs29 := by kernel_rfl
def kc30 : C :=
  (.seq (.reg [⟨some 2, none, .box 36 (.t 0)⟩,
 ⟨some 4, none, .mov (.k (.d (.int .i64 0)))⟩])
 (.seq (.seq (.reg [⟨some 5, none, .load 9 true (.t 2)⟩,
 ⟨some 6, none, .call 40 [(.t 5)]⟩,
 ⟨some 7, none, .inv .not (.t 6)⟩,
 ⟨some 8, none, .mov (.t 7)⟩,
 ⟨some 9, some (8, false), .mov (.t 1)⟩,
 ⟨some 10, some (8, false), .fadr 5 (.t 2)⟩,
 ⟨some 11, some (8, false), .load 1 false (.t 10)⟩,
 ⟨some 12, some (8, false), .bin .leq (.t 9) (.t 11)⟩,
 ⟨some 13, none, .pick (.t 8) (.k (.d (.bool true))) (.t 12)⟩])
 (.cond (.t 13) (.seq (.reg [⟨some 4, none, .mov (.k (.d (.int .i64 0)))⟩])
 .ret)
 .skip))
 (.seq (.reg [⟨some 14, none, .fadr 6 (.t 2)⟩,
 ⟨some 15, none, .load 1 false (.t 14)⟩,
 ⟨some 16, none, .mov (.t 1)⟩,
 ⟨some 17, none, .fadr 5 (.t 2)⟩,
 ⟨some 18, none, .load 1 false (.t 17)⟩,
 ⟨some 19, none, .bin .sub (.t 16) (.t 18)⟩,
 ⟨some 20, none, .mm false (.t 15) (.t 19)⟩,
 ⟨some 4, none, .mov (.t 20)⟩])
 .ret)))
def rs30 : List RV := [.tmp 4]
theorem ok30 : okF Try.prog 30 = true := by kernel_rfl
theorem cc30 : cCode Try.prog Try.f30.ntmps (Try.f30.body.getD .skip) = some kc30 := by kernel_rfl
theorem cr30 : cRess Try.prog Try.f30.results.toList = some rs30 := by kernel_rfl
def kc31 : C :=
  (.seq (.reg [⟨some 4, none, .mov (.k (.d (.sl true 0 0 fun _ => [])))⟩,
 ⟨some 5, none, .mov (.k (.d (.int .i64 0)))⟩])
 (.seq (.seq (.reg [⟨some 20, none, .mov (.t 0)⟩,
 ⟨some 21, none, .bin .lss (.t 20) (.k (.d (.int .i64 0)))⟩,
 ⟨some 22, none, .mov (.t 21)⟩,
 ⟨some 23, some (22, false), .mov (.t 1)⟩,
 ⟨some 24, some (22, false), .len (.t 23)⟩,
 ⟨some 25, some (22, false), .bin .gtr (.t 24) (.k (.d (.int .i64 2000)))⟩,
 ⟨some 26, none, .pick (.t 22) (.k (.d (.bool true))) (.t 25)⟩])
 (.cond (.t 26) (.seq (.reg [⟨some 4, none, .mov (.k (.d (.sl true 0 0 fun _ => [])))⟩,
 ⟨some 5, none, .mov (.k (.d (.int .i64 1)))⟩])
 .ret)
 .skip))
 (.seq (.reg [⟨some 27, none, .call 53 []⟩,
 ⟨some 28, none, .mov (.t 0)⟩,
 ⟨some 29, none, .bin .gtr (.t 28) (.k (.d (.int .i64 4000000000000000000)))⟩,
 ⟨some 6, none, .mov (.t 27)⟩,
 ⟨some 7, none, .mov (.t 29)⟩])
 (.seq (.reg [⟨some 30, none, .mov (.t 1)⟩,
 ⟨some 31, none, .len (.t 30)⟩,
 ⟨some 32, none, .mks 3 1 8 [(.int .i64 0)] (.k (.d (.int .i64 0))) (.t 31)⟩,
 ⟨some 8, none, .mov (.t 32)⟩])
 (.seq (.seq (.reg [⟨some 33, none, .mov (.t 1)⟩,
 ⟨some 34, none, .len (.t 33)⟩,
 ⟨some 35, none, .mov (.k (.d (.int .i64 0)))⟩])
 (.block 0 (.loop (.seq (.reg [⟨some 36, none, .bin .lss (.t 35) (.t 34)⟩])
 (.seq (.cond (.t 36) .skip
 (.exit 0))
 (.seq (.block 2 (.seq (.reg [⟨some 37, none, .iadr 1 (.t 33) (.t 35)⟩,
 ⟨some 38, none, .load 1 false (.t 37)⟩,
 ⟨some 10, none, .mov (.t 38)⟩])
 (.seq (.reg [⟨some 40, none, .mov (.t 6)⟩,
 ⟨some 41, none, .mov (.t 10)⟩,
 ⟨some 42, none, .callv (.t 40) [(.t 41)]⟩,
 ⟨some 39, none, .mov (.t 42)⟩,
 ⟨some 43, none, .ext 0 (.t 39)⟩,
 ⟨some 44, none, .ext 1 (.t 39)⟩,
 ⟨some 11, none, .mov (.t 43)⟩,
 ⟨some 12, none, .mov (.t 44)⟩])
 (.seq (.seq (.reg [⟨some 45, none, .mov (.t 12)⟩,
 ⟨some 46, none, .bin .eql (.t 45) (.k (.d (.int .i64 1)))⟩])
 (.cond (.t 46) (.seq (.reg [⟨some 47, none, .mov (.t 12)⟩,
 ⟨some 4, none, .mov (.k (.d (.sl true 0 0 fun _ => [])))⟩,
 ⟨some 5, none, .mov (.t 47)⟩])
 .ret)
 .skip))
 (.seq (.reg [⟨some 48, none, .mov (.t 7)⟩,
 ⟨some 49, none, .mov (.t 48)⟩,
 ⟨some 50, some (49, false), .mov (.t 12)⟩,
 ⟨some 51, some (49, false), .bin .eql (.t 50) (.k (.d (.int .i64 5)))⟩,
 ⟨some 52, none, .pick (.t 49) (.k (.d (.bool true))) (.t 51)⟩,
 ⟨some 7, none, .mov (.t 52)⟩])
 (.reg [⟨some 53, none, .mov (.t 8)⟩,
 ⟨some 54, none, .mov (.t 11)⟩,
 ⟨some 55, none, .bslice 3 1 1 [(.t 54)]⟩,
 ⟨some 56, none, .app 3 1 8 (.t 53) (.t 55)⟩,
 ⟨some 8, none, .mov (.t 56)⟩]))))))
 (.reg [⟨some 57, none, .bin .add (.t 35) (.k (.d (.int .i64 1)))⟩,
 ⟨some 35, none, .mov (.t 57)⟩])))))))
 (.seq (.block 4 (.seq (.reg [⟨some 59, none, .mov (.t 7)⟩,
 ⟨some 58, none, .mov (.t 59)⟩])
 (.cond (.t 58) (.seq (.reg [⟨some 4, none, .mov (.k (.d (.sl true 0 0 fun _ => [])))⟩,
 ⟨some 5, none, .mov (.k (.d (.int .i64 5)))⟩])
 .ret)
 (.seq (.reg [⟨some 61, none, .mov (.t 8)⟩,
 ⟨some 62, none, .len (.t 61)⟩,
 ⟨some 63, none, .bin .eql (.t 62) (.k (.d (.int .i64 0)))⟩,
 ⟨some 64, none, .mov (.t 63)⟩,
 ⟨some 65, some (64, false), .mov (.t 8)⟩,
 ⟨some 66, some (64, false), .mov (.t 8)⟩,
 ⟨some 67, some (64, false), .len (.t 66)⟩,
 ⟨some 68, some (64, false), .bin .sub (.t 67) (.k (.d (.int .i64 1)))⟩,
 ⟨some 69, some (64, false), .iadr 1 (.t 65) (.t 68)⟩,
 ⟨some 70, some (64, false), .load 1 false (.t 69)⟩,
 ⟨some 71, some (64, false), .bin .eql (.t 70) (.k (.d (.int .i64 0)))⟩,
 ⟨some 72, none, .pick (.t 64) (.k (.d (.bool true))) (.t 71)⟩,
 ⟨some 60, none, .mov (.t 72)⟩])
 (.cond (.t 60) (.seq (.reg [⟨some 4, none, .mov (.k (.d (.sl true 0 0 fun _ => [])))⟩,
 ⟨some 5, none, .mov (.k (.d (.int .i64 6)))⟩])
 .ret)
 .skip)))))
 (.seq (.reg [⟨some 73, none, .mov (.t 8)⟩,
 ⟨some 74, none, .mov (.t 8)⟩,
 ⟨some 75, none, .len (.t 74)⟩,
 ⟨some 76, none, .bin .sub (.t 75) (.k (.d (.int .i64 1)))⟩,
 ⟨some 77, none, .iadr 1 (.t 73) (.t 76)⟩,
 ⟨some 78, none, .load 1 false (.t 77)⟩,
 ⟨some 13, none, .mov (.t 78)⟩])
 (.seq (.reg [⟨some 79, none, .mov (.t 8)⟩,
 ⟨some 80, none, .len (.t 79)⟩,
 ⟨some 81, none, .mks 3 1 8 [(.int .i64 0)] (.t 80) (.t 80)⟩,
 ⟨some 14, none, .mov (.t 81)⟩])
 (.seq (.reg [⟨some 15, none, .mov (.k (.d (.int .i64 0)))⟩])
 (.seq (.seq (.reg [⟨some 82, none, .mov (.t 8)⟩,
 ⟨some 83, none, .len (.t 82)⟩,
 ⟨some 84, none, .mov (.k (.d (.int .i64 0)))⟩])
 (.block 6 (.loop (.seq (.reg [⟨some 85, none, .bin .lss (.t 84) (.t 83)⟩])
 (.seq (.cond (.t 85) .skip
 (.exit 6))
 (.seq (.block 8 (.seq (.reg [⟨some 86, none, .mov (.t 84)⟩,
 ⟨some 87, none, .iadr 1 (.t 82) (.t 84)⟩,
 ⟨some 88, none, .load 1 false (.t 87)⟩,
 ⟨some 16, none, .mov (.t 86)⟩,
 ⟨some 17, none, .mov (.t 88)⟩])
 (.seq (.reg [⟨some 90, none, .mov (.t 0)⟩,
 ⟨some 91, none, .mov (.t 17)⟩,
 ⟨some 92, none, .mov (.t 13)⟩,
 ⟨some 93, none, .call 54 [(.t 90), (.t 91), (.t 92)]⟩,
 ⟨some 89, none, .mov (.t 93)⟩,
 ⟨some 94, none, .ext 0 (.t 89)⟩,
 ⟨some 95, none, .ext 1 (.t 89)⟩,
 ⟨some 18, none, .mov (.t 94)⟩,
 ⟨some 19, none, .mov (.t 95)⟩])
 (.reg [⟨some 96, none, .mov (.t 14)⟩,
 ⟨some 97, none, .mov (.t 16)⟩,
 ⟨some 98, none, .mov (.t 18)⟩,
 ⟨some 99, none, .mov (.t 15)⟩,
 ⟨some 100, none, .bin .sub (.t 98) (.t 99)⟩,
 ⟨some 101, none, .mov (.t 18)⟩,
 ⟨some 102, none, .iadr 1 (.t 96) (.t 97)⟩,
 ⟨none, none, .store 1 (.t 102) (.t 100)⟩,
 ⟨some 15, none, .mov (.t 101)⟩]))))
 (.reg [⟨some 103, none, .bin .add (.t 84) (.k (.d (.int .i64 1)))⟩,
 ⟨some 84, none, .mov (.t 103)⟩])))))))
 (.seq (.reg [⟨some 104, none, .mov (.t 14)⟩,
 ⟨some 4, none, .mov (.t 104)⟩,
 ⟨some 5, none, .mov (.k (.d (.int .i64 0)))⟩])
 .ret)))))))))))
def rs31 : List RV := [.tmp 4, .tmp 5]
theorem ok31 : okF Try.prog 31 = true := by kernel_rfl
theorem cc31 : cCode Try.prog Try.f31.ntmps (Try.f31.body.getD .skip) = some kc31 := by kernel_rfl
theorem cr31 : cRess Try.prog Try.f31.results.toList = some rs31 := by kernel_rfl
def kc39 : C :=
  (.seq (.reg [⟨some 2, none, .box 34 (.t 0)⟩,
 ⟨some 4, none, .mov (.k (.d (.bool false)))⟩])
 (.seq (.reg [⟨some 5, none, .load 2 true (.t 2)⟩,
 ⟨some 6, none, .call 58 [(.t 5)]⟩,
 ⟨none, none, .store 2 (.t 2) (.t 6)⟩])
 (.seq (.reg [⟨some 7, none, .mov (.t 1)⟩,
 ⟨some 8, none, .fadr 0 (.t 2)⟩,
 ⟨some 9, none, .load 1 false (.t 8)⟩,
 ⟨some 10, none, .bin .geq (.t 7) (.t 9)⟩,
 ⟨some 11, none, .mov (.t 10)⟩,
 ⟨some 12, some (11, true), .mov (.t 1)⟩,
 ⟨some 13, some (11, true), .fadr 1 (.t 2)⟩,
 ⟨some 14, some (11, true), .load 1 false (.t 13)⟩,
 ⟨some 15, some (11, true), .bin .lss (.t 12) (.t 14)⟩,
 ⟨some 16, none, .pick (.t 11) (.t 15) (.k (.d (.bool false)))⟩,
 ⟨some 4, none, .mov (.t 16)⟩])
 .ret)))
def rs39 : List RV := [.tmp 4]
theorem ok39 : okF Try.prog 39 = true := by kernel_rfl
theorem cc39 : cCode Try.prog Try.f39.ntmps (Try.f39.body.getD .skip) = some kc39 := by kernel_rfl
theorem cr39 : cRess Try.prog Try.f39.results.toList = some rs39 := by kernel_rfl
def kc40 : C :=
  (.seq (.reg [⟨some 1, none, .box 36 (.t 0)⟩,
 ⟨some 2, none, .mov (.k (.d (.bool false)))⟩])
 (.seq (.reg [⟨some 3, none, .load 9 true (.t 1)⟩,
 ⟨some 4, none, .call 29 [(.t 3)]⟩,
 ⟨some 5, none, .mov (.t 4)⟩,
 ⟨some 6, some (5, true), .fadr 1 (.t 1)⟩,
 ⟨some 7, some (5, true), .load 1 false (.t 6)⟩,
 ⟨some 8, some (5, true), .bin .neq (.t 7) (.k (.d (.int .i64 1)))⟩,
 ⟨some 9, none, .pick (.t 5) (.t 8) (.k (.d (.bool false)))⟩,
 ⟨some 2, none, .mov (.t 9)⟩])
 .ret))
def rs40 : List RV := [.tmp 2]
theorem ok40 : okF Try.prog 40 = true := by kernel_rfl
theorem cc40 : cCode Try.prog Try.f40.ntmps (Try.f40.body.getD .skip) = some kc40 := by kernel_rfl
theorem cr40 : cRess Try.prog Try.f40.results.toList = some rs40 := by kernel_rfl
def kc41 : C :=
  (.seq (.reg [⟨some 2, none, .box 61 (.t 0)⟩,
 ⟨some 4, none, .mov (.k (.d (.bool false)))⟩])
 (.seq (.seq (.reg [⟨some 7, none, .mov (.t 1)⟩,
 ⟨some 8, none, .len (.t 7)⟩,
 ⟨some 9, none, .mov (.k (.d (.int .i64 0)))⟩])
 (.block 0 (.loop (.seq (.reg [⟨some 10, none, .bin .lss (.t 9) (.t 8)⟩])
 (.seq (.cond (.t 10) .skip
 (.exit 0))
 (.seq (.block 2 (.seq (.reg [⟨some 11, none, .iadr 1 (.t 7) (.t 9)⟩,
 ⟨some 12, none, .load 1 false (.t 11)⟩,
 ⟨some 6, none, .mov (.t 12)⟩])
 (.seq (.reg [⟨some 13, none, .mov (.t 6)⟩,
 ⟨some 14, none, .fadr 0 (.t 2)⟩,
 ⟨some 15, none, .load 1 false (.t 14)⟩,
 ⟨some 16, none, .bin .lss (.t 13) (.t 15)⟩,
 ⟨some 17, none, .mov (.t 16)⟩,
 ⟨some 18, some (17, false), .mov (.t 6)⟩,
 ⟨some 19, some (17, false), .fadr 1 (.t 2)⟩,
 ⟨some 20, some (17, false), .load 1 false (.t 19)⟩,
 ⟨some 21, some (17, false), .bin .gtr (.t 18) (.t 20)⟩,
 ⟨some 22, none, .pick (.t 17) (.k (.d (.bool true))) (.t 21)⟩])
 (.cond (.t 22) (.seq (.reg [⟨some 4, none, .mov (.k (.d (.bool false)))⟩])
 .ret)
 .skip))))
 (.reg [⟨some 23, none, .bin .add (.t 9) (.k (.d (.int .i64 1)))⟩,
 ⟨some 9, none, .mov (.t 23)⟩])))))))
 (.seq (.reg [⟨some 4, none, .mov (.k (.d (.bool true)))⟩])
 .ret)))
def rs41 : List RV := [.tmp 4]
theorem ok41 : okF Try.prog 41 = true := by kernel_rfl
theorem cc41 : cCode Try.prog Try.f41.ntmps (Try.f41.body.getD .skip) = some kc41 := by kernel_rfl
theorem cr41 : cRess Try.prog Try.f41.results.toList = some rs41 := by kernel_rfl
def kc42 : C :=
  (.seq (.reg [⟨some 1, none, .box 26 (.t 0)⟩,
 ⟨some 2, none, .mov (.k (.d (.bool false)))⟩])
 (.seq (.reg [⟨some 3, none, .load 5 true (.t 1)⟩,
 ⟨some 4, none, .call 22 [(.t 3)]⟩,
 ⟨some 5, none, .inv .not (.t 4)⟩,
 ⟨some 2, none, .mov (.t 5)⟩])
 .ret))
def rs42 : List RV := [.tmp 2]
theorem ok42 : okF Try.prog 42 = true := by kernel_rfl
theorem cc42 : cCode Try.prog Try.f42.ntmps (Try.f42.body.getD .skip) = some kc42 := by kernel_rfl
theorem cr42 : cRess Try.prog Try.f42.results.toList = some rs42 := by kernel_rfl
def kc43 : C :=
  (.seq (.reg [⟨some 4, none, .mov (.k (.d (.bool false)))⟩])
 (.seq (.reg [⟨some 5, none, .mov (.t 0)⟩,
 ⟨some 6, none, .mov (.t 1)⟩,
 ⟨some 7, none, .call 59 [(.t 5), (.t 6)]⟩,
 ⟨some 8, none, .bin .geq (.t 7) (.k (.d (.int .i64 0)))⟩,
 ⟨some 4, none, .mov (.t 8)⟩])
 .ret))
def rs43 : List RV := [.tmp 4]
theorem ok43 : okF Try.prog 43 = true := by kernel_rfl
theorem cc43 : cCode Try.prog Try.f43.ntmps (Try.f43.body.getD .skip) = some kc43 := by kernel_rfl
theorem cr43 : cRess Try.prog Try.f43.results.toList = some rs43 := by kernel_rfl
def kc44 : C :=
  (.seq (.reg [⟨some 4, none, .mov (.k (.d (.int .i64 0)))⟩])
 (.seq (.reg [⟨some 6, none, .mov (.t 1)⟩,
 ⟨some 7, none, .mov (.t 0)⟩,
 ⟨some 8, none, .nilc (.t 7)⟩,
 ⟨some 9, none, .fadr 0 (.t 8)⟩,
 ⟨some 10, none, .load 1 false (.t 9)⟩,
 ⟨some 11, none, .mm false (.t 6) (.t 10)⟩,
 ⟨some 5, none, .mov (.t 11)⟩])
 (.seq (.reg [⟨some 12, none, .mov (.t 0)⟩,
 ⟨some 13, none, .nilc (.t 12)⟩,
 ⟨some 14, none, .fadr 0 (.t 13)⟩,
 ⟨some 15, none, .load 1 false (.t 14)⟩,
 ⟨some 16, none, .mov (.t 5)⟩,
 ⟨some 17, none, .bin .sub (.t 15) (.t 16)⟩,
 ⟨some 18, none, .nilc (.t 12)⟩,
 ⟨some 19, none, .fadr 0 (.t 18)⟩,
 ⟨none, none, .store 1 (.t 19) (.t 17)⟩])
 (.seq (.reg [⟨some 20, none, .mov (.t 5)⟩,
 ⟨some 4, none, .mov (.t 20)⟩])
 .ret))))
def rs44 : List RV := [.tmp 4]
theorem ok44 : okF Try.prog 44 = true := by kernel_rfl
theorem cc44 : cCode Try.prog Try.f44.ntmps (Try.f44.body.getD .skip) = some kc44 := by kernel_rfl
theorem cr44 : cRess Try.prog Try.f44.results.toList = some rs44 := by kernel_rfl
def kc45 : C :=
  (.seq (.reg [⟨some 5, none, .load 1 false (.t 1)⟩,
 ⟨some 6, none, .build [.d (.sl true 0 0 fun _ => []), .d (.sl true 0 0 fun _ => [])] [(0, 1, (.t 5))]⟩,
 ⟨some 7, none, .box 71 (.t 6)⟩,
 ⟨some 3, none, .mov (.t 7)⟩])
 (.seq (.seq (.reg [⟨some 8, none, .load 1 false (.t 1)⟩,
 ⟨some 9, none, .len (.t 8)⟩,
 ⟨some 10, none, .mov (.k (.d (.int .i64 0)))⟩])
 (.block 0 (.loop (.seq (.reg [⟨some 11, none, .bin .lss (.t 10) (.t 9)⟩])
 (.seq (.cond (.t 11) .skip
 (.exit 0))
 (.seq (.block 2 (.seq (.reg [⟨some 12, none, .mov (.t 10)⟩,
 ⟨some 4, none, .mov (.t 12)⟩])
 (.reg [⟨some 13, none, .mov (.t 3)⟩,
 ⟨some 14, none, .mkifc 69 (.t 13)⟩,
 ⟨some 15, none, .mov (.t 4)⟩,
 ⟨some 16, none, .mkifc 3 (.t 15)⟩,
 ⟨some 17, none, .call 46 [(.t 14), (.t 16)]⟩])))
 (.reg [⟨some 18, none, .bin .add (.t 10) (.k (.d (.int .i64 1)))⟩,
 ⟨some 10, none, .mov (.t 18)⟩])))))))
 (.block 4 (.loop (.seq (.seq (.reg [⟨some 19, none, .mov (.t 3)⟩,
 ⟨some 20, none, .call 47 [(.t 19)]⟩,
 ⟨some 21, none, .bin .gtr (.t 20) (.k (.d (.int .i64 0)))⟩])
 (.cond (.t 21) .skip
 (.exit 4)))
 (.block 6 (.seq (.reg [⟨some 22, none, .mov (.t 0)⟩,
 ⟨some 23, none, .mov (.t 3)⟩,
 ⟨some 24, none, .mkifc 69 (.t 23)⟩,
 ⟨some 25, none, .call 48 [(.t 24)]⟩,
 ⟨some 26, none, .tas 3 false (.t 25)⟩,
 ⟨some 27, none, .callv (.t 22) [(.t 26)]⟩,
 ⟨some 28, none, .inv .not (.t 27)⟩])
 (.cond (.t 28) .ret
 .skip))))))))
def rs45 : List RV := []
theorem ok45 : okF Try.prog 45 = true := by kernel_rfl
theorem cc45 : cCode Try.prog Try.f45.ntmps (Try.f45.body.getD .skip) = some kc45 := by kernel_rfl
theorem cr45 : cRess Try.prog Try.f45.results.toList = some rs45 := by kernel_rfl
def kc46 : C :=
  (.seq (.reg [⟨some 4, none, .mov (.t 0)⟩,
 ⟨some 5, none, .mov (.t 1)⟩,
 ⟨some 6, none, .ivk "Push" (.t 4) [(.t 5)]⟩])
 (.reg [⟨some 7, none, .mov (.t 0)⟩,
 ⟨some 8, none, .mov (.t 0)⟩,
 ⟨some 9, none, .ivk "Len" (.t 8) []⟩,
 ⟨some 10, none, .bin .sub (.t 9) (.k (.d (.int .i64 1)))⟩,
 ⟨some 11, none, .call 60 [(.t 7), (.t 10)]⟩]))
def rs46 : List RV := []
theorem ok46 : okF Try.prog 46 = true := by kernel_rfl
theorem cc46 : cCode Try.prog Try.f46.ntmps (Try.f46.body.getD .skip) = some kc46 := by kernel_rfl
theorem cr46 : cRess Try.prog Try.f46.results.toList = some rs46 := by kernel_rfl
def kc47 : C :=
  (.seq (.reg [⟨some 2, none, .mov (.k (.d (.int .i64 0)))⟩])
 (.seq (.reg [⟨some 3, none, .mov (.t 0)⟩,
 ⟨some 4, none, .nilc (.t 3)⟩,
 ⟨some 5, none, .fadr 1 (.t 4)⟩,
 ⟨some 6, none, .load 1 false (.t 5)⟩,
 ⟨some 7, none, .len (.t 6)⟩,
 ⟨some 2, none, .mov (.t 7)⟩])
 .ret))
def rs47 : List RV := [.tmp 2]
theorem ok47 : okF Try.prog 47 = true := by kernel_rfl
theorem cc47 : cCode Try.prog Try.f47.ntmps (Try.f47.body.getD .skip) = some kc47 := by kernel_rfl
theorem cr47 : cRess Try.prog Try.f47.results.toList = some rs47 := by kernel_rfl
def kc48 : C :=
  (.seq (.reg [⟨some 2, none, .mov (.k (.d (.raw .nilIface)))⟩])
 (.seq (.reg [⟨some 4, none, .mov (.t 0)⟩,
 ⟨some 5, none, .ivk "Len" (.t 4) []⟩,
 ⟨some 6, none, .bin .sub (.t 5) (.k (.d (.int .i64 1)))⟩,
 ⟨some 3, none, .mov (.t 6)⟩])
 (.seq (.reg [⟨some 7, none, .mov (.t 0)⟩,
 ⟨some 8, none, .mov (.t 3)⟩,
 ⟨some 9, none, .ivk "Swap" (.t 7) [(.k (.d (.int .i64 0))), (.t 8)]⟩])
 (.seq (.reg [⟨some 10, none, .mov (.t 0)⟩,
 ⟨some 11, none, .mov (.t 3)⟩,
 ⟨some 12, none, .call 61 [(.t 10), (.k (.d (.int .i64 0))), (.t 11)]⟩])
 (.seq (.reg [⟨some 13, none, .mov (.t 0)⟩,
 ⟨some 14, none, .ivk "Pop" (.t 13) []⟩,
 ⟨some 2, none, .mov (.t 14)⟩])
 .ret)))))
def rs48 : List RV := [.tmp 2]
theorem ok48 : okF Try.prog 48 = true := by kernel_rfl
theorem cc48 : cCode Try.prog Try.f48.ntmps (Try.f48.body.getD .skip) = some kc48 := by kernel_rfl
theorem cr48 : cRess Try.prog Try.f48.results.toList = some rs48 := by kernel_rfl
def kc52 : C :=
  (.seq (.reg [⟨some 1, none, .box 34 (.t 0)⟩,
 ⟨some 2, none, .mov (.k (.d (.int .i64 0)))⟩])
 (.seq (.reg [⟨some 3, none, .load 2 true (.t 1)⟩,
 ⟨some 4, none, .call 58 [(.t 3)]⟩,
 ⟨none, none, .store 2 (.t 1) (.t 4)⟩])
 (.seq (.reg [⟨some 5, none, .fadr 1 (.t 1)⟩,
 ⟨some 6, none, .load 1 false (.t 5)⟩,
 ⟨some 7, none, .fadr 0 (.t 1)⟩,
 ⟨some 8, none, .load 1 false (.t 7)⟩,
 ⟨some 9, none, .bin .sub (.t 6) (.t 8)⟩,
 ⟨some 2, none, .mov (.t 9)⟩])
 .ret)))
def rs52 : List RV := [.tmp 2]
theorem ok52 : okF Try.prog 52 = true := by kernel_rfl
theorem cc52 : cCode Try.prog Try.f52.ntmps (Try.f52.body.getD .skip) = some kc52 := by kernel_rfl
theorem cr52 : cRess Try.prog Try.f52.results.toList = some rs52 := by kernel_rfl
def kc53 : C :=
  (.seq (.reg [⟨some 0, none, .mov (.k (.d (.raw .nilFunc)))⟩])
 (.seq (.reg [⟨some 1, none, .alloc 3 [.d (.int .i64 0)]⟩,
 ⟨none, none, .store 1 (.t 1) (.k (.d (.int .i64 0)))⟩])
 (.seq (.reg [⟨some 2, none, .mkfn (.func 63) [] [(.t 1)]⟩,
 ⟨some 0, none, .mov (.t 2)⟩])
 .ret)))
def rs53 : List RV := [.tmp 0]
theorem ok53 : okF Try.prog 53 = true := by kernel_rfl
theorem cc53 : cCode Try.prog Try.f53.ntmps (Try.f53.body.getD .skip) = some kc53 := by kernel_rfl
theorem cr53 : cRess Try.prog Try.f53.results.toList = some rs53 := by kernel_rfl
def kc54 : C :=
  (.seq (.reg [⟨some 6, none, .mov (.k (.d (.int .i64 0)))⟩,
 ⟨some 7, none, .mov (.k (.d (.int .i64 0)))⟩])
 (.seq (.reg [⟨some 8, none, .call 64 []⟩,
 ⟨some 9, none, .mov (.t 0)⟩,
 ⟨some 10, none, .mov (.t 1)⟩,
 ⟨some 11, none, .mov (.t 2)⟩,
 ⟨some 12, none, .call 65 [(.t 8), (.t 9), (.t 10), (.t 11)]⟩,
 ⟨some 13, none, .ext 0 (.t 12)⟩,
 ⟨some 14, none, .ext 1 (.t 12)⟩,
 ⟨some 6, none, .mov (.t 13)⟩,
 ⟨some 7, none, .mov (.t 14)⟩])
 .ret))
def rs54 : List RV := [.tmp 6, .tmp 7]
theorem ok54 : okF Try.prog 54 = true := by kernel_rfl
theorem cc54 : cCode Try.prog Try.f54.ntmps (Try.f54.body.getD .skip) = some kc54 := by kernel_rfl
theorem cr54 : cRess Try.prog Try.f54.results.toList = some rs54 := by kernel_rfl
def kc58 : C :=
  (.seq (.reg [⟨some 1, none, .box 34 (.t 0)⟩,
 ⟨some 2, none, .alloc 34 [.d (.int .i64 0), .d (.int .i64 0)]⟩])
 (.seq (.seq (.reg [⟨some 3, none, .load 2 true (.t 1)⟩,
 ⟨some 4, none, .call 68 [(.t 3)]⟩,
 ⟨some 5, none, .inv .not (.t 4)⟩,
 ⟨some 6, none, .mov (.t 5)⟩,
 ⟨some 7, some (6, false), .fadr 0 (.t 1)⟩,
 ⟨some 8, some (6, false), .load 1 false (.t 7)⟩,
 ⟨some 9, some (6, false), .fadr 1 (.t 1)⟩,
 ⟨some 10, some (6, false), .load 1 false (.t 9)⟩,
 ⟨some 11, some (6, false), .bin .eql (.t 8) (.t 10)⟩,
 ⟨some 12, none, .pick (.t 6) (.k (.d (.bool true))) (.t 11)⟩])
 (.cond (.t 12) (.seq (.reg [⟨some 13, none, .build [.d (.int .i64 0), .d (.int .i64 0)] []⟩,
 ⟨none, none, .store 2 (.t 2) (.t 13)⟩])
 .ret)
 .skip))
 (.seq (.reg [⟨some 14, none, .load 2 true (.t 1)⟩,
 ⟨none, none, .store 2 (.t 2) (.t 14)⟩])
 .ret)))
def rs58 : List RV := [.cell 2 2 true]
theorem ok58 : okF Try.prog 58 = true := by kernel_rfl
theorem cc58 : cCode Try.prog Try.f58.ntmps (Try.f58.body.getD .skip) = some kc58 := by kernel_rfl
theorem cr58 : cRess Try.prog Try.f58.results.toList = some rs58 := by kernel_rfl
def kc59 : C :=
  (.seq (.reg [⟨some 4, none, .mov (.k (.d (.int .i64 0)))⟩])
 (.seq (.seq (.reg [⟨some 6, none, .mov (.t 0)⟩,
 ⟨some 7, none, .len (.t 6)⟩,
 ⟨some 8, none, .mov (.k (.d (.int .i64 0)))⟩])
 (.block 0 (.loop (.seq (.reg [⟨some 9, none, .bin .lss (.t 8) (.t 7)⟩])
 (.seq (.cond (.t 9) .skip
 (.exit 0))
 (.seq (.block 2 (.seq (.reg [⟨some 10, none, .mov (.t 8)⟩,
 ⟨some 5, none, .mov (.t 10)⟩])
 (.seq (.reg [⟨some 11, none, .mov (.t 1)⟩,
 ⟨some 12, none, .mov (.t 0)⟩,
 ⟨some 13, none, .mov (.t 5)⟩,
 ⟨some 14, none, .iadr 5 (.t 12) (.t 13)⟩,
 ⟨some 15, none, .load 5 true (.t 14)⟩,
 ⟨some 16, none, .callv (.t 11) [(.t 15)]⟩])
 (.cond (.t 16) (.seq (.reg [⟨some 17, none, .mov (.t 5)⟩,
 ⟨some 4, none, .mov (.t 17)⟩])
 .ret)
 .skip))))
 (.reg [⟨some 18, none, .bin .add (.t 8) (.k (.d (.int .i64 1)))⟩,
 ⟨some 8, none, .mov (.t 18)⟩])))))))
 (.seq (.reg [⟨some 4, none, .mov (.k (.d (.int .i64 (-1))))⟩])
 .ret)))
def rs59 : List RV := [.tmp 4]
theorem ok59 : okF Try.prog 59 = true := by kernel_rfl
theorem cc59 : cCode Try.prog Try.f59.ntmps (Try.f59.body.getD .skip) = some kc59 := by kernel_rfl
theorem cr59 : cRess Try.prog Try.f59.results.toList = some rs59 := by kernel_rfl
def kc60 : C :=
  (.block 0 (.loop (.block 2 (.seq (.reg [⟨some 5, none, .mov (.t 1)⟩,
 ⟨some 6, none, .bin .sub (.t 5) (.k (.d (.int .i64 1)))⟩,
 ⟨some 7, none, .bin .quo (.t 6) (.k (.d (.int .i64 2)))⟩,
 ⟨some 4, none, .mov (.t 7)⟩])
 (.seq (.seq (.reg [⟨some 8, none, .mov (.t 4)⟩,
 ⟨some 9, none, .mov (.t 1)⟩,
 ⟨some 10, none, .bin .eql (.t 8) (.t 9)⟩,
 ⟨some 11, none, .mov (.t 10)⟩,
 ⟨some 12, some (11, false), .mov (.t 0)⟩,
 ⟨some 13, some (11, false), .mov (.t 1)⟩,
 ⟨some 14, some (11, false), .mov (.t 4)⟩,
 ⟨some 15, some (11, false), .ivk "Less" (.t 12) [(.t 13), (.t 14)]⟩,
 ⟨some 16, some (11, false), .inv .not (.t 15)⟩,
 ⟨some 17, none, .pick (.t 11) (.k (.d (.bool true))) (.t 16)⟩])
 (.cond (.t 17) (.exit 0)
 .skip))
 (.seq (.reg [⟨some 18, none, .mov (.t 0)⟩,
 ⟨some 19, none, .mov (.t 4)⟩,
 ⟨some 20, none, .mov (.t 1)⟩,
 ⟨some 21, none, .ivk "Swap" (.t 18) [(.t 19), (.t 20)]⟩])
 (.reg [⟨some 22, none, .mov (.t 4)⟩,
 ⟨some 1, none, .mov (.t 22)⟩])))))))
def rs60 : List RV := []
theorem ok60 : okF Try.prog 60 = true := by kernel_rfl
theorem cc60 : cCode Try.prog Try.f60.ntmps (Try.f60.body.getD .skip) = some kc60 := by kernel_rfl
theorem cr60 : cRess Try.prog Try.f60.results.toList = some rs60 := by kernel_rfl
def kc61 : C :=
  (.seq (.reg [⟨some 6, none, .mov (.k (.d (.bool false)))⟩])
 (.seq (.reg [⟨some 11, none, .mov (.t 1)⟩,
 ⟨some 7, none, .mov (.t 11)⟩])
 (.seq (.block 0 (.loop (.block 2 (.seq (.reg [⟨some 12, none, .mov (.t 7)⟩,
 ⟨some 13, none, .bin .mul (.k (.d (.int .i64 2))) (.t 12)⟩,
 ⟨some 14, none, .bin .add (.t 13) (.k (.d (.int .i64 1)))⟩,
 ⟨some 8, none, .mov (.t 14)⟩])
 (.seq (.seq (.reg [⟨some 15, none, .mov (.t 8)⟩,
 ⟨some 16, none, .mov (.t 2)⟩,
 ⟨some 17, none, .bin .geq (.t 15) (.t 16)⟩,
 ⟨some 18, none, .mov (.t 17)⟩,
 ⟨some 19, some (18, false), .mov (.t 8)⟩,
 ⟨some 20, some (18, false), .bin .lss (.t 19) (.k (.d (.int .i64 0)))⟩,
 ⟨some 21, none, .pick (.t 18) (.k (.d (.bool true))) (.t 20)⟩])
 (.cond (.t 21) (.exit 0)
 .skip))
 (.seq (.reg [⟨some 22, none, .mov (.t 8)⟩,
 ⟨some 9, none, .mov (.t 22)⟩])
 (.seq (.seq (.reg [⟨some 23, none, .mov (.t 8)⟩,
 ⟨some 24, none, .bin .add (.t 23) (.k (.d (.int .i64 1)))⟩,
 ⟨some 10, none, .mov (.t 24)⟩])
 (.seq (.reg [⟨some 25, none, .mov (.t 10)⟩,
 ⟨some 26, none, .mov (.t 2)⟩,
 ⟨some 27, none, .bin .lss (.t 25) (.t 26)⟩,
 ⟨some 28, none, .mov (.t 27)⟩,
 ⟨some 29, some (28, true), .mov (.t 0)⟩,
 ⟨some 30, some (28, true), .mov (.t 10)⟩,
 ⟨some 31, some (28, true), .mov (.t 8)⟩,
 ⟨some 32, some (28, true), .ivk "Less" (.t 29) [(.t 30), (.t 31)]⟩,
 ⟨some 33, none, .pick (.t 28) (.t 32) (.k (.d (.bool false)))⟩])
 (.cond (.t 33) (.reg [⟨some 34, none, .mov (.t 10)⟩,
 ⟨some 9, none, .mov (.t 34)⟩])
 .skip)))
 (.seq (.seq (.reg [⟨some 35, none, .mov (.t 0)⟩,
 ⟨some 36, none, .mov (.t 9)⟩,
 ⟨some 37, none, .mov (.t 7)⟩,
 ⟨some 38, none, .ivk "Less" (.t 35) [(.t 36), (.t 37)]⟩,
 ⟨some 39, none, .inv .not (.t 38)⟩])
 (.cond (.t 39) (.exit 0)
 .skip))
 (.seq (.reg [⟨some 40, none, .mov (.t 0)⟩,
 ⟨some 41, none, .mov (.t 7)⟩,
 ⟨some 42, none, .mov (.t 9)⟩,
 ⟨some 43, none, .ivk "Swap" (.t 40) [(.t 41), (.t 42)]⟩])
 (.reg [⟨some 44, none, .mov (.t 9)⟩,
 ⟨some 7, none, .mov (.t 44)⟩]))))))))))
 (.seq (.reg [⟨some 45, none, .mov (.t 7)⟩,
 ⟨some 46, none, .mov (.t 1)⟩,
 ⟨some 47, none, .bin .gtr (.t 45) (.t 46)⟩,
 ⟨some 6, none, .mov (.t 47)⟩])
 .ret))))
def rs61 : List RV := [.tmp 6]
theorem ok61 : okF Try.prog 61 = true := by kernel_rfl
theorem cc61 : cCode Try.prog Try.f61.ntmps (Try.f61.body.getD .skip) = some kc61 := by kernel_rfl
theorem cr61 : cRess Try.prog Try.f61.results.toList = some rs61 := by kernel_rfl
def kc63 : C :=
  (.seq (.reg [⟨some 3, none, .mov (.k (.d (.int .i64 0)))⟩,
 ⟨some 4, none, .mov (.k (.d (.int .i64 0)))⟩])
 (.seq (.seq (.reg [⟨some 5, none, .mov (.t 0)⟩,
 ⟨some 6, none, .bin .lss (.t 5) (.k (.d (.int .i64 0)))⟩])
 (.cond (.t 6) (.seq (.reg [⟨some 3, none, .mov (.k (.d (.int .i64 0)))⟩,
 ⟨some 4, none, .mov (.k (.d (.int .i64 1)))⟩])
 .ret)
 .skip))
 (.seq (.seq (.reg [⟨some 7, none, .load 1 false (.t 1)⟩,
 ⟨some 8, none, .mov (.t 0)⟩,
 ⟨some 9, none, .bin .add (.t 7) (.t 8)⟩,
 ⟨none, none, .store 1 (.t 1) (.t 9)⟩])
 (.seq (.reg [⟨some 10, none, .load 1 false (.t 1)⟩,
 ⟨some 11, none, .bin .gtr (.t 10) (.k (.d (.int .i64 4000000000000000000)))⟩,
 ⟨some 12, none, .mov (.t 11)⟩,
 ⟨some 13, some (12, false), .load 1 false (.t 1)⟩,
 ⟨some 14, some (12, false), .bin .lss (.t 13) (.k (.d (.int .i64 0)))⟩,
 ⟨some 15, none, .pick (.t 12) (.k (.d (.bool true))) (.t 14)⟩])
 (.cond (.t 15) (.seq (.reg [⟨none, none, .store 1 (.t 1) (.k (.d (.int .i64 4000000000000000001)))⟩])
 (.seq (.reg [⟨some 3, none, .mov (.k (.d (.int .i64 0)))⟩,
 ⟨some 4, none, .mov (.k (.d (.int .i64 5)))⟩])
 .ret))
 .skip)))
 (.seq (.reg [⟨some 16, none, .load 1 false (.t 1)⟩,
 ⟨some 3, none, .mov (.t 16)⟩,
 ⟨some 4, none, .mov (.k (.d (.int .i64 0)))⟩])
 .ret))))
def rs63 : List RV := [.tmp 3, .tmp 4]
theorem ok63 : okF Try.prog 63 = true := by kernel_rfl
theorem cc63 : cCode Try.prog Try.f63.ntmps (Try.f63.body.getD .skip) = some kc63 := by kernel_rfl
theorem cr63 : cRess Try.prog Try.f63.results.toList = some rs63 := by kernel_rfl
def kc64 : C :=
  (.seq (.reg [⟨some 0, none, .alloc 95 [.d (.raw .nilFunc)]⟩])
 (.seq (.reg [⟨some 1, none, .build [.d (.raw .nilFunc)] [(0, 1, (.k (.fn (.func 69) [] [])))]⟩,
 ⟨none, none, .store 1 (.t 0) (.t 1)⟩])
 .ret))
def rs64 : List RV := [.cell 0 1 true]
theorem ok64 : okF Try.prog 64 = true := by kernel_rfl
theorem cc64 : cCode Try.prog Try.f64.ntmps (Try.f64.body.getD .skip) = some kc64 := by kernel_rfl
theorem cr64 : cRess Try.prog Try.f64.results.toList = some rs64 := by kernel_rfl
def kc65 : C :=
  (.seq (.reg [⟨some 4, none, .box 95 (.t 0)⟩,
 ⟨some 8, none, .mov (.k (.d (.int .i64 0)))⟩,
 ⟨some 9, none, .mov (.k (.d (.int .i64 0)))⟩])
 (.seq (.block 0 (.seq (.reg [⟨some 15, none, .mov (.t 1)⟩,
 ⟨some 16, none, .bin .lss (.t 15) (.k (.d (.int .i64 0)))⟩,
 ⟨some 17, none, .mov (.t 16)⟩,
 ⟨some 18, some (17, false), .mov (.t 2)⟩,
 ⟨some 19, some (17, false), .bin .lss (.t 18) (.k (.d (.int .i64 0)))⟩,
 ⟨some 20, none, .pick (.t 17) (.k (.d (.bool true))) (.t 19)⟩,
 ⟨some 21, none, .mov (.t 20)⟩,
 ⟨some 22, some (21, false), .mov (.t 3)⟩,
 ⟨some 23, some (21, false), .bin .lss (.t 22) (.k (.d (.int .i64 0)))⟩,
 ⟨some 24, none, .pick (.t 21) (.k (.d (.bool true))) (.t 23)⟩,
 ⟨some 14, none, .mov (.t 24)⟩])
 (.cond (.t 14) (.seq (.reg [⟨some 8, none, .mov (.k (.d (.int .i64 0)))⟩,
 ⟨some 9, none, .mov (.k (.d (.int .i64 1)))⟩])
 .ret)
 (.seq (.reg [⟨some 26, none, .mov (.t 3)⟩,
 ⟨some 27, none, .bin .eql (.t 26) (.k (.d (.int .i64 0)))⟩,
 ⟨some 25, none, .mov (.t 27)⟩])
 (.cond (.t 25) (.seq (.reg [⟨some 8, none, .mov (.k (.d (.int .i64 0)))⟩,
 ⟨some 9, none, .mov (.k (.d (.int .i64 6)))⟩])
 .ret)
 .skip)))))
 (.seq (.reg [⟨some 29, none, .mov (.t 1)⟩,
 ⟨some 30, none, .conv .u64 (.t 29)⟩,
 ⟨some 31, none, .mov (.t 2)⟩,
 ⟨some 32, none, .conv .u64 (.t 31)⟩,
 ⟨some 33, none, .call 70 [(.t 30), (.t 32)]⟩,
 ⟨some 28, none, .mov (.t 33)⟩,
 ⟨some 34, none, .ext 0 (.t 28)⟩,
 ⟨some 35, none, .ext 1 (.t 28)⟩,
 ⟨some 10, none, .mov (.t 34)⟩,
 ⟨some 11, none, .mov (.t 35)⟩])
 (.seq (.seq (.reg [⟨some 36, none, .mov (.t 10)⟩,
 ⟨some 37, none, .mov (.t 3)⟩,
 ⟨some 38, none, .conv .u64 (.t 37)⟩,
 ⟨some 39, none, .bin .geq (.t 36) (.t 38)⟩])
 (.cond (.t 39) (.seq (.reg [⟨some 8, none, .mov (.k (.d (.int .i64 0)))⟩,
 ⟨some 9, none, .mov (.k (.d (.int .i64 5)))⟩])
 .ret)
 .skip))
 (.seq (.reg [⟨some 41, none, .mov (.t 10)⟩,
 ⟨some 42, none, .mov (.t 11)⟩,
 ⟨some 43, none, .mov (.t 3)⟩,
 ⟨some 44, none, .conv .u64 (.t 43)⟩,
 ⟨some 45, none, .call 71 [(.t 41), (.t 42), (.t 44)]⟩,
 ⟨some 40, none, .mov (.t 45)⟩,
 ⟨some 46, none, .ext 0 (.t 40)⟩,
 ⟨some 47, none, .ext 1 (.t 40)⟩,
 ⟨some 12, none, .mov (.t 46)⟩,
 ⟨some 13, none, .mov (.t 47)⟩])
 (.seq (.seq (.reg [⟨some 48, none, .mov (.t 12)⟩,
 ⟨some 49, none, .bin .gtr (.t 48) (.k (.d (.int .u64 4000000000000000000)))⟩])
 (.cond (.t 49) (.seq (.reg [⟨some 8, none, .mov (.k (.d (.int .i64 0)))⟩,
 ⟨some 9, none, .mov (.k (.d (.int .i64 5)))⟩])
 .ret)
 .skip))
 (.seq (.seq (.reg [⟨some 50, none, .fadr 0 (.t 4)⟩,
 ⟨some 51, none, .load 1 false (.t 50)⟩,
 ⟨some 52, none, .mov (.t 12)⟩,
 ⟨some 53, none, .mov (.t 13)⟩,
 ⟨some 54, none, .mov (.t 3)⟩,
 ⟨some 55, none, .conv .u64 (.t 54)⟩,
 ⟨some 56, none, .callv (.t 51) [(.t 52), (.t 53), (.t 55)]⟩])
 (.cond (.t 56) (.reg [⟨some 57, none, .mov (.t 12)⟩,
 ⟨some 58, none, .bin .add (.t 57) (.k (.d (.int .u64 1)))⟩,
 ⟨some 12, none, .mov (.t 58)⟩])
 .skip))
 (.seq (.seq (.reg [⟨some 59, none, .mov (.t 12)⟩,
 ⟨some 60, none, .bin .gtr (.t 59) (.k (.d (.int .u64 4000000000000000000)))⟩])
 (.cond (.t 60) (.seq (.reg [⟨some 8, none, .mov (.k (.d (.int .i64 0)))⟩,
 ⟨some 9, none, .mov (.k (.d (.int .i64 5)))⟩])
 .ret)
 .skip))
 (.seq (.reg [⟨some 61, none, .mov (.t 12)⟩,
 ⟨some 62, none, .conv .i64 (.t 61)⟩,
 ⟨some 8, none, .mov (.t 62)⟩,
 ⟨some 9, none, .mov (.k (.d (.int .i64 0)))⟩])
 .ret)))))))))
def rs65 : List RV := [.tmp 8, .tmp 9]
theorem ok65 : okF Try.prog 65 = true := by kernel_rfl
theorem cc65 : cCode Try.prog Try.f65.ntmps (Try.f65.body.getD .skip) = some kc65 := by kernel_rfl
theorem cr65 : cRess Try.prog Try.f65.results.toList = some rs65 := by kernel_rfl
def kc68 : C :=
  (.seq (.reg [⟨some 1, none, .box 34 (.t 0)⟩,
 ⟨some 2, none, .mov (.k (.d (.bool false)))⟩])
 (.seq (.reg [⟨some 3, none, .fadr 0 (.t 1)⟩,
 ⟨some 4, none, .load 1 false (.t 3)⟩,
 ⟨some 5, none, .bin .geq (.t 4) (.k (.d (.int .i64 1)))⟩,
 ⟨some 6, none, .mov (.t 5)⟩,
 ⟨some 7, some (6, true), .fadr 0 (.t 1)⟩,
 ⟨some 8, some (6, true), .load 1 false (.t 7)⟩,
 ⟨some 9, some (6, true), .fadr 1 (.t 1)⟩,
 ⟨some 10, some (6, true), .load 1 false (.t 9)⟩,
 ⟨some 11, some (6, true), .bin .leq (.t 8) (.t 10)⟩,
 ⟨some 12, none, .pick (.t 6) (.t 11) (.k (.d (.bool false)))⟩,
 ⟨some 13, none, .mov (.t 12)⟩,
 ⟨some 14, some (13, true), .fadr 1 (.t 1)⟩,
 ⟨some 15, some (13, true), .load 1 false (.t 14)⟩,
 ⟨some 16, some (13, true), .bin .leq (.t 15) (.k (.d (.int .i64 292195)))⟩,
 ⟨some 17, none, .pick (.t 13) (.t 16) (.k (.d (.bool false)))⟩,
 ⟨some 2, none, .mov (.t 17)⟩])
 .ret))
def rs68 : List RV := [.tmp 2]
theorem ok68 : okF Try.prog 68 = true := by kernel_rfl
theorem cc68 : cCode Try.prog Try.f68.ntmps (Try.f68.body.getD .skip) = some kc68 := by kernel_rfl
theorem cr68 : cRess Try.prog Try.f68.results.toList = some rs68 := by kernel_rfl
def kc69 : C :=
  (.seq (.reg [⟨some 6, none, .mov (.k (.d (.bool false)))⟩])
 (.seq (.reg [⟨some 6, none, .mov (.k (.d (.bool false)))⟩])
 .ret))
def rs69 : List RV := [.tmp 6]
theorem ok69 : okF Try.prog 69 = true := by kernel_rfl
theorem cc69 : cCode Try.prog Try.f69.ntmps (Try.f69.body.getD .skip) = some kc69 := by kernel_rfl
theorem cr69 : cRess Try.prog Try.f69.results.toList = some rs69 := by kernel_rfl
def kc70 : C :=
  (.seq (.reg [⟨some 4, none, .mov (.k (.d (.int .u64 0)))⟩,
 ⟨some 5, none, .mov (.k (.d (.int .u64 0)))⟩])
 (.seq (.reg [⟨some 14, none, .mov (.t 0)⟩,
 ⟨some 15, none, .bin .and (.t 14) (.k (.d (.int .u64 4294967295)))⟩,
 ⟨some 6, none, .mov (.t 15)⟩])
 (.seq (.reg [⟨some 16, none, .mov (.t 0)⟩,
 ⟨some 17, none, .shf false (.t 16) (.k (.d (.int .u64 32)))⟩,
 ⟨some 7, none, .mov (.t 17)⟩])
 (.seq (.reg [⟨some 18, none, .mov (.t 1)⟩,
 ⟨some 19, none, .bin .and (.t 18) (.k (.d (.int .u64 4294967295)))⟩,
 ⟨some 8, none, .mov (.t 19)⟩])
 (.seq (.reg [⟨some 20, none, .mov (.t 1)⟩,
 ⟨some 21, none, .shf false (.t 20) (.k (.d (.int .u64 32)))⟩,
 ⟨some 9, none, .mov (.t 21)⟩])
 (.seq (.reg [⟨some 22, none, .mov (.t 6)⟩,
 ⟨some 23, none, .mov (.t 8)⟩,
 ⟨some 24, none, .bin .mul (.t 22) (.t 23)⟩,
 ⟨some 10, none, .mov (.t 24)⟩])
 (.seq (.reg [⟨some 25, none, .mov (.t 7)⟩,
 ⟨some 26, none, .mov (.t 8)⟩,
 ⟨some 27, none, .bin .mul (.t 25) (.t 26)⟩,
 ⟨some 28, none, .mov (.t 10)⟩,
 ⟨some 29, none, .shf false (.t 28) (.k (.d (.int .u64 32)))⟩,
 ⟨some 30, none, .bin .add (.t 27) (.t 29)⟩,
 ⟨some 11, none, .mov (.t 30)⟩])
 (.seq (.reg [⟨some 31, none, .mov (.t 11)⟩,
 ⟨some 32, none, .bin .and (.t 31) (.k (.d (.int .u64 4294967295)))⟩,
 ⟨some 12, none, .mov (.t 32)⟩])
 (.seq (.reg [⟨some 33, none, .mov (.t 11)⟩,
 ⟨some 34, none, .shf false (.t 33) (.k (.d (.int .u64 32)))⟩,
 ⟨some 13, none, .mov (.t 34)⟩])
 (.seq (.reg [⟨some 35, none, .mov (.t 12)⟩,
 ⟨some 36, none, .mov (.t 6)⟩,
 ⟨some 37, none, .mov (.t 9)⟩,
 ⟨some 38, none, .bin .mul (.t 36) (.t 37)⟩,
 ⟨some 39, none, .bin .add (.t 35) (.t 38)⟩,
 ⟨some 12, none, .mov (.t 39)⟩])
 (.seq (.reg [⟨some 40, none, .mov (.t 7)⟩,
 ⟨some 41, none, .mov (.t 9)⟩,
 ⟨some 42, none, .bin .mul (.t 40) (.t 41)⟩,
 ⟨some 43, none, .mov (.t 13)⟩,
 ⟨some 44, none, .bin .add (.t 42) (.t 43)⟩,
 ⟨some 45, none, .mov (.t 12)⟩,
 ⟨some 46, none, .shf false (.t 45) (.k (.d (.int .u64 32)))⟩,
 ⟨some 47, none, .bin .add (.t 44) (.t 46)⟩,
 ⟨some 4, none, .mov (.t 47)⟩])
 (.seq (.reg [⟨some 48, none, .mov (.t 0)⟩,
 ⟨some 49, none, .mov (.t 1)⟩,
 ⟨some 50, none, .bin .mul (.t 48) (.t 49)⟩,
 ⟨some 5, none, .mov (.t 50)⟩])
 .ret))))))))))))
def rs70 : List RV := [.tmp 4, .tmp 5]
theorem ok70 : okF Try.prog 70 = true := by kernel_rfl
theorem cc70 : cCode Try.prog Try.f70.ntmps (Try.f70.body.getD .skip) = some kc70 := by kernel_rfl
theorem cr70 : cRess Try.prog Try.f70.results.toList = some rs70 := by kernel_rfl
def kc71 : C :=
  (.seq (.reg [⟨some 6, none, .mov (.k (.d (.int .u64 0)))⟩,
 ⟨some 7, none, .mov (.k (.d (.int .u64 0)))⟩])
 (.seq (.seq (.reg [⟨some 19, none, .mov (.t 2)⟩,
 ⟨some 20, none, .bin .eql (.t 19) (.k (.d (.int .u64 0)))⟩])
 (.cond (.t 20) (.reg [⟨some 21, none, .never⟩,
 ⟨none, none, .never⟩])
 .skip))
 (.seq (.seq (.reg [⟨some 22, none, .mov (.t 2)⟩,
 ⟨some 23, none, .mov (.t 0)⟩,
 ⟨some 24, none, .bin .leq (.t 22) (.t 23)⟩])
 (.cond (.t 24) (.reg [⟨some 25, none, .never⟩,
 ⟨none, none, .never⟩])
 .skip))
 (.seq (.seq (.reg [⟨some 26, none, .mov (.t 0)⟩,
 ⟨some 27, none, .bin .eql (.t 26) (.k (.d (.int .u64 0)))⟩])
 (.cond (.t 27) (.seq (.drw [0, 0, 3, 0, 0, 24, 7, 127]
  [⟨some 28, none, .mov (.t 1)⟩,
 ⟨some 29, none, .mov (.t 2)⟩,
 ⟨some 30, none, .bin .quo (.t 28) (.t 29)⟩,
 ⟨some 31, none, .mov (.t 1)⟩,
 ⟨some 32, none, .mov (.t 2)⟩,
 ⟨some 33, none, .bin .rem (.t 31) (.t 32)⟩,
 ⟨some 6, none, .mov (.t 30)⟩,
 ⟨some 7, none, .mov (.t 33)⟩])
 .ret)
 .skip))
 (.seq (.reg [⟨some 34, none, .mov (.t 2)⟩,
 ⟨some 35, none, .call 72 [(.t 34)]⟩,
 ⟨some 36, none, .conv .u64 (.t 35)⟩,
 ⟨some 8, none, .mov (.t 36)⟩])
 (.seq (.reg [⟨some 37, none, .mov (.t 2)⟩,
 ⟨some 38, none, .mov (.t 8)⟩,
 ⟨some 39, none, .shf true (.t 37) (.t 38)⟩,
 ⟨some 2, none, .mov (.t 39)⟩])
 (.seq (.reg [⟨some 40, none, .mov (.t 2)⟩,
 ⟨some 41, none, .shf false (.t 40) (.k (.d (.int .u64 32)))⟩,
 ⟨some 9, none, .mov (.t 41)⟩])
 (.seq (.reg [⟨some 42, none, .mov (.t 2)⟩,
 ⟨some 43, none, .bin .and (.t 42) (.k (.d (.int .u64 4294967295)))⟩,
 ⟨some 10, none, .mov (.t 43)⟩])
 (.seq (.reg [⟨some 44, none, .mov (.t 0)⟩,
 ⟨some 45, none, .mov (.t 8)⟩,
 ⟨some 46, none, .shf true (.t 44) (.t 45)⟩,
 ⟨some 47, none, .mov (.t 1)⟩,
 ⟨some 48, none, .mov (.t 8)⟩,
 ⟨some 49, none, .bin .sub (.k (.d (.int .u64 64))) (.t 48)⟩,
 ⟨some 50, none, .shf false (.t 47) (.t 49)⟩,
 ⟨some 51, none, .bin .or (.t 46) (.t 50)⟩,
 ⟨some 11, none, .mov (.t 51)⟩])
 (.seq (.reg [⟨some 52, none, .mov (.t 1)⟩,
 ⟨some 53, none, .mov (.t 8)⟩,
 ⟨some 54, none, .shf true (.t 52) (.t 53)⟩,
 ⟨some 12, none, .mov (.t 54)⟩])
 (.seq (.reg [⟨some 55, none, .mov (.t 12)⟩,
 ⟨some 56, none, .shf false (.t 55) (.k (.d (.int .u64 32)))⟩,
 ⟨some 13, none, .mov (.t 56)⟩])
 (.seq (.reg [⟨some 57, none, .mov (.t 12)⟩,
 ⟨some 58, none, .bin .and (.t 57) (.k (.d (.int .u64 4294967295)))⟩,
 ⟨some 14, none, .mov (.t 58)⟩])
 (.seq (.reg [⟨some 59, none, .mov (.t 11)⟩,
 ⟨some 60, none, .mov (.t 9)⟩,
 ⟨some 61, none, .bin .quo (.t 59) (.t 60)⟩,
 ⟨some 15, none, .mov (.t 61)⟩])
 (.seq (.reg [⟨some 62, none, .mov (.t 11)⟩,
 ⟨some 63, none, .mov (.t 15)⟩,
 ⟨some 64, none, .mov (.t 9)⟩,
 ⟨some 65, none, .bin .mul (.t 63) (.t 64)⟩,
 ⟨some 66, none, .bin .sub (.t 62) (.t 65)⟩,
 ⟨some 16, none, .mov (.t 66)⟩])
 (.seq (.block 0 (.loop (.seq (.seq (.reg [⟨some 67, none, .mov (.t 15)⟩,
 ⟨some 68, none, .bin .geq (.t 67) (.k (.d (.int .u64 4294967296)))⟩,
 ⟨some 69, none, .mov (.t 68)⟩,
 ⟨some 70, some (69, false), .mov (.t 15)⟩,
 ⟨some 71, some (69, false), .mov (.t 10)⟩,
 ⟨some 72, some (69, false), .bin .mul (.t 70) (.t 71)⟩,
 ⟨some 73, some (69, false), .mov (.t 16)⟩,
 ⟨some 74, some (69, false), .bin .mul (.k (.d (.int .u64 4294967296))) (.t 73)⟩,
 ⟨some 75, some (69, false), .mov (.t 13)⟩,
 ⟨some 76, some (69, false), .bin .add (.t 74) (.t 75)⟩,
 ⟨some 77, some (69, false), .bin .gtr (.t 72) (.t 76)⟩,
 ⟨some 78, none, .pick (.t 69) (.k (.d (.bool true))) (.t 77)⟩])
 (.cond (.t 78) .skip
 (.exit 0)))
 (.block 2 (.seq (.reg [⟨some 79, none, .mov (.t 15)⟩,
 ⟨some 80, none, .bin .sub (.t 79) (.k (.d (.int .u64 1)))⟩,
 ⟨some 15, none, .mov (.t 80)⟩])
 (.seq (.reg [⟨some 81, none, .mov (.t 16)⟩,
 ⟨some 82, none, .mov (.t 9)⟩,
 ⟨some 83, none, .bin .add (.t 81) (.t 82)⟩,
 ⟨some 16, none, .mov (.t 83)⟩])
 (.seq (.reg [⟨some 84, none, .mov (.t 16)⟩,
 ⟨some 85, none, .bin .geq (.t 84) (.k (.d (.int .u64 4294967296)))⟩])
 (.cond (.t 85) (.exit 0)
 .skip))))))))
 (.seq (.reg [⟨some 86, none, .mov (.t 11)⟩,
 ⟨some 87, none, .bin .mul (.t 86) (.k (.d (.int .u64 4294967296)))⟩,
 ⟨some 88, none, .mov (.t 13)⟩,
 ⟨some 89, none, .bin .add (.t 87) (.t 88)⟩,
 ⟨some 90, none, .mov (.t 15)⟩,
 ⟨some 91, none, .mov (.t 2)⟩,
 ⟨some 92, none, .bin .mul (.t 90) (.t 91)⟩,
 ⟨some 93, none, .bin .sub (.t 89) (.t 92)⟩,
 ⟨some 17, none, .mov (.t 93)⟩])
 (.seq (.reg [⟨some 94, none, .mov (.t 17)⟩,
 ⟨some 95, none, .mov (.t 9)⟩,
 ⟨some 96, none, .bin .quo (.t 94) (.t 95)⟩,
 ⟨some 18, none, .mov (.t 96)⟩])
 (.seq (.reg [⟨some 97, none, .mov (.t 17)⟩,
 ⟨some 98, none, .mov (.t 18)⟩,
 ⟨some 99, none, .mov (.t 9)⟩,
 ⟨some 100, none, .bin .mul (.t 98) (.t 99)⟩,
 ⟨some 101, none, .bin .sub (.t 97) (.t 100)⟩,
 ⟨some 16, none, .mov (.t 101)⟩])
 (.seq (.block 4 (.loop (.seq (.seq (.reg [⟨some 102, none, .mov (.t 18)⟩,
 ⟨some 103, none, .bin .geq (.t 102) (.k (.d (.int .u64 4294967296)))⟩,
 ⟨some 104, none, .mov (.t 103)⟩,
 ⟨some 105, some (104, false), .mov (.t 18)⟩,
 ⟨some 106, some (104, false), .mov (.t 10)⟩,
 ⟨some 107, some (104, false), .bin .mul (.t 105) (.t 106)⟩,
 ⟨some 108, some (104, false), .mov (.t 16)⟩,
 ⟨some 109, some (104, false), .bin .mul (.k (.d (.int .u64 4294967296))) (.t 108)⟩,
 ⟨some 110, some (104, false), .mov (.t 14)⟩,
 ⟨some 111, some (104, false), .bin .add (.t 109) (.t 110)⟩,
 ⟨some 112, some (104, false), .bin .gtr (.t 107) (.t 111)⟩,
 ⟨some 113, none, .pick (.t 104) (.k (.d (.bool true))) (.t 112)⟩])
 (.cond (.t 113) .skip
 (.exit 4)))
 (.block 6 (.seq (.reg [⟨some 114, none, .mov (.t 18)⟩,
 ⟨some 115, none, .bin .sub (.t 114) (.k (.d (.int .u64 1)))⟩,
 ⟨some 18, none, .mov (.t 115)⟩])
 (.seq (.reg [⟨some 116, none, .mov (.t 16)⟩,
 ⟨some 117, none, .mov (.t 9)⟩,
 ⟨some 118, none, .bin .add (.t 116) (.t 117)⟩,
 ⟨some 16, none, .mov (.t 118)⟩])
 (.seq (.reg [⟨some 119, none, .mov (.t 16)⟩,
 ⟨some 120, none, .bin .geq (.t 119) (.k (.d (.int .u64 4294967296)))⟩])
 (.cond (.t 120) (.exit 4)
 .skip))))))))
 (.seq (.reg [⟨some 121, none, .mov (.t 15)⟩,
 ⟨some 122, none, .bin .mul (.t 121) (.k (.d (.int .u64 4294967296)))⟩,
 ⟨some 123, none, .mov (.t 18)⟩,
 ⟨some 124, none, .bin .add (.t 122) (.t 123)⟩,
 ⟨some 125, none, .mov (.t 17)⟩,
 ⟨some 126, none, .bin .mul (.t 125) (.k (.d (.int .u64 4294967296)))⟩,
 ⟨some 127, none, .mov (.t 14)⟩,
 ⟨some 128, none, .bin .add (.t 126) (.t 127)⟩,
 ⟨some 129, none, .mov (.t 18)⟩,
 ⟨some 130, none, .mov (.t 2)⟩,
 ⟨some 131, none, .bin .mul (.t 129) (.t 130)⟩,
 ⟨some 132, none, .bin .sub (.t 128) (.t 131)⟩,
 ⟨some 133, none, .mov (.t 8)⟩,
 ⟨some 134, none, .shf false (.t 132) (.t 133)⟩,
 ⟨some 6, none, .mov (.t 124)⟩,
 ⟨some 7, none, .mov (.t 134)⟩])
 .ret))))))))))))))))))))
def rs71 : List RV := [.tmp 6, .tmp 7]
theorem ok71 : okF Try.prog 71 = true := by kernel_rfl
theorem cc71 : cCode Try.prog Try.f71.ntmps (Try.f71.body.getD .skip) = some kc71 := by kernel_rfl
theorem cr71 : cRess Try.prog Try.f71.results.toList = some rs71 := by kernel_rfl
def kc72 : C :=
  (.seq (.reg [⟨some 2, none, .mov (.k (.d (.int .i64 0)))⟩])
 (.seq (.reg [⟨some 3, none, .mov (.t 0)⟩,
 ⟨some 4, none, .call 73 [(.t 3)]⟩,
 ⟨some 5, none, .bin .sub (.k (.d (.int .i64 64))) (.t 4)⟩,
 ⟨some 2, none, .mov (.t 5)⟩])
 .ret))
def rs72 : List RV := [.tmp 2]
theorem ok72 : okF Try.prog 72 = true := by kernel_rfl
theorem cc72 : cCode Try.prog Try.f72.ntmps (Try.f72.body.getD .skip) = some kc72 := by kernel_rfl
theorem cr72 : cRess Try.prog Try.f72.results.toList = some rs72 := by kernel_rfl
def kc73 : C :=
  (.seq (.reg [⟨some 2, none, .mov (.k (.d (.int .i64 0)))⟩])
 (.seq (.seq (.reg [⟨some 3, none, .mov (.t 0)⟩,
 ⟨some 4, none, .bin .geq (.t 3) (.k (.d (.int .u64 4294967296)))⟩])
 (.cond (.t 4) (.seq (.reg [⟨some 5, none, .mov (.t 0)⟩,
 ⟨some 6, none, .shf false (.t 5) (.k (.d (.int .u64 32)))⟩,
 ⟨some 0, none, .mov (.t 6)⟩])
 (.reg [⟨some 2, none, .mov (.k (.d (.int .i64 32)))⟩]))
 .skip))
 (.seq (.seq (.reg [⟨some 7, none, .mov (.t 0)⟩,
 ⟨some 8, none, .bin .geq (.t 7) (.k (.d (.int .u64 65536)))⟩])
 (.cond (.t 8) (.seq (.reg [⟨some 9, none, .mov (.t 0)⟩,
 ⟨some 10, none, .shf false (.t 9) (.k (.d (.int .u64 16)))⟩,
 ⟨some 0, none, .mov (.t 10)⟩])
 (.reg [⟨some 11, none, .mov (.t 2)⟩,
 ⟨some 12, none, .bin .add (.t 11) (.k (.d (.int .i64 16)))⟩,
 ⟨some 2, none, .mov (.t 12)⟩]))
 .skip))
 (.seq (.seq (.reg [⟨some 13, none, .mov (.t 0)⟩,
 ⟨some 14, none, .bin .geq (.t 13) (.k (.d (.int .u64 256)))⟩])
 (.cond (.t 14) (.seq (.reg [⟨some 15, none, .mov (.t 0)⟩,
 ⟨some 16, none, .shf false (.t 15) (.k (.d (.int .u64 8)))⟩,
 ⟨some 0, none, .mov (.t 16)⟩])
 (.reg [⟨some 17, none, .mov (.t 2)⟩,
 ⟨some 18, none, .bin .add (.t 17) (.k (.d (.int .i64 8)))⟩,
 ⟨some 2, none, .mov (.t 18)⟩]))
 .skip))
 (.seq (.reg [⟨some 19, none, .mov (.t 2)⟩,
 ⟨some 20, none, .mov (.t 0)⟩,
 ⟨some 21, none, .conv .u8 (.t 20)⟩,
 ⟨some 22, none, .sidx ⟨#[0, 1, 2, 2, 3, 3, 3, 3, 4, 4, 4, 4, 4, 4, 4, 4, 5, 5, 5, 5, 5, 5, 5, 5, 5, 5, 5, 5, 5, 5, 5, 5, 6, 6, 6, 6, 6, 6, 6, 6, 6, 6, 6, 6, 6, 6, 6, 6, 6, 6, 6, 6, 6, 6, 6, 6, 6, 6, 6, 6, 6, 6, 6, 6, 7, 7, 7, 7, 7, 7, 7, 7, 7, 7, 7, 7, 7, 7, 7, 7, 7, 7, 7, 7, 7, 7, 7, 7, 7, 7, 7, 7, 7, 7, 7, 7, 7, 7, 7, 7, 7, 7, 7, 7, 7, 7, 7, 7, 7, 7, 7, 7, 7, 7, 7, 7, 7, 7, 7, 7, 7, 7, 7, 7, 7, 7, 7, 7, 8, 8, 8, 8, 8, 8, 8, 8, 8, 8, 8, 8, 8, 8, 8, 8, 8, 8, 8, 8, 8, 8, 8, 8, 8, 8, 8, 8, 8, 8, 8, 8, 8, 8, 8, 8, 8, 8, 8, 8, 8, 8, 8, 8, 8, 8, 8, 8, 8, 8, 8, 8, 8, 8, 8, 8, 8, 8, 8, 8, 8, 8, 8, 8, 8, 8, 8, 8, 8, 8, 8, 8, 8, 8, 8, 8, 8, 8, 8, 8, 8, 8, 8, 8, 8, 8, 8, 8, 8, 8, 8, 8, 8, 8, 8, 8, 8, 8, 8, 8, 8, 8, 8, 8, 8, 8, 8, 8, 8, 8, 8, 8, 8, 8, 8, 8, 8, 8, 8, 8, 8, 8, 8, 8, 8, 8, 8, 8]⟩ (.t 21)⟩,
 ⟨some 23, none, .conv .i64 (.t 22)⟩,
 ⟨some 24, none, .bin .add (.t 19) (.t 23)⟩,
 ⟨some 2, none, .mov (.t 24)⟩])
 .ret)))))
def rs73 : List RV := [.tmp 2]
theorem ok73 : okF Try.prog 73 = true := by kernel_rfl
theorem cc73 : cCode Try.prog Try.f73.ntmps (Try.f73.body.getD .skip) = some kc73 := by kernel_rfl
theorem cr73 : cRess Try.prog Try.f73.results.toList = some rs73 := by kernel_rfl
def kc90 : C :=
  (.seq (.reg [⟨some 6, none, .mov (.k (.d (.bool false)))⟩])
 (.seq (.drw [0, 1, 3, 7, 0, 31, 63, 0, 128, 384, 896, 0, 3968, 8064, 127, 32767]
  [⟨some 9, none, .mov (.t 0)⟩,
 ⟨some 10, none, .nilc (.t 9)⟩,
 ⟨some 11, none, .fadr 1 (.t 10)⟩,
 ⟨some 12, none, .load 1 false (.t 11)⟩,
 ⟨some 13, none, .mov (.t 1)⟩,
 ⟨some 14, none, .iadr 1 (.t 12) (.t 13)⟩,
 ⟨some 15, none, .load 1 false (.t 14)⟩,
 ⟨some 16, none, .mov (.t 0)⟩,
 ⟨some 17, none, .nilc (.t 16)⟩,
 ⟨some 18, none, .fadr 1 (.t 17)⟩,
 ⟨some 19, none, .load 1 false (.t 18)⟩,
 ⟨some 20, none, .mov (.t 2)⟩,
 ⟨some 21, none, .iadr 1 (.t 19) (.t 20)⟩,
 ⟨some 22, none, .load 1 false (.t 21)⟩,
 ⟨some 7, none, .mov (.t 15)⟩,
 ⟨some 8, none, .mov (.t 22)⟩])
 (.seq (.drw [0, 1, 3, 7, 0, 31, 63, 127, 0, 256, 768, 1792, 0, 7936, 16128, 32512, 65535, 0, 0, 524287, 1048575, 2097151, 4194303, 8388607]
  [⟨some 23, none, .mov (.t 0)⟩,
 ⟨some 24, none, .nilc (.t 23)⟩,
 ⟨some 25, none, .fadr 0 (.t 24)⟩,
 ⟨some 26, none, .load 1 false (.t 25)⟩,
 ⟨some 27, none, .mov (.t 7)⟩,
 ⟨some 28, none, .iadr 5 (.t 26) (.t 27)⟩,
 ⟨some 29, none, .fadr 2 (.t 28)⟩,
 ⟨some 30, none, .load 1 false (.t 29)⟩,
 ⟨some 31, none, .mov (.t 0)⟩,
 ⟨some 32, none, .nilc (.t 31)⟩,
 ⟨some 33, none, .fadr 0 (.t 32)⟩,
 ⟨some 34, none, .load 1 false (.t 33)⟩,
 ⟨some 35, none, .mov (.t 8)⟩,
 ⟨some 36, none, .iadr 5 (.t 34) (.t 35)⟩,
 ⟨some 37, none, .fadr 2 (.t 36)⟩,
 ⟨some 38, none, .load 1 false (.t 37)⟩,
 ⟨some 39, none, .call 95 [(.t 30), (.t 38)]⟩,
 ⟨some 40, none, .mov (.t 7)⟩,
 ⟨some 41, none, .mov (.t 8)⟩,
 ⟨some 42, none, .call 95 [(.t 40), (.t 41)]⟩,
 ⟨some 43, none, .bslice 3 1 2 [(.t 39), (.t 42)]⟩,
 ⟨some 44, none, .call 94 [(.t 43)]⟩,
 ⟨some 45, none, .bin .lss (.t 44) (.k (.d (.int .i64 0)))⟩,
 ⟨some 6, none, .mov (.t 45)⟩])
 .ret)))
def rs90 : List RV := [.tmp 6]
theorem ok90 : okF Try.prog 90 = true := by kernel_rfl
theorem cc90 : cCode Try.prog Try.f90.ntmps (Try.f90.body.getD .skip) = some kc90 := by kernel_rfl
theorem cr90 : cRess Try.prog Try.f90.results.toList = some rs90 := by kernel_rfl
def kc91 : C :=
  (.seq (.reg [⟨some 2, none, .mov (.k (.d (.raw .nilIface)))⟩])
 (.seq (.reg [⟨some 5, none, .mov (.t 0)⟩,
 ⟨some 6, none, .nilc (.t 5)⟩,
 ⟨some 7, none, .fadr 1 (.t 6)⟩,
 ⟨some 8, none, .load 1 false (.t 7)⟩,
 ⟨some 9, none, .len (.t 8)⟩,
 ⟨some 10, none, .bin .sub (.t 9) (.k (.d (.int .i64 1)))⟩,
 ⟨some 3, none, .mov (.t 10)⟩])
 (.seq (.reg [⟨some 11, none, .mov (.t 0)⟩,
 ⟨some 12, none, .nilc (.t 11)⟩,
 ⟨some 13, none, .fadr 1 (.t 12)⟩,
 ⟨some 14, none, .load 1 false (.t 13)⟩,
 ⟨some 15, none, .mov (.t 3)⟩,
 ⟨some 16, none, .iadr 1 (.t 14) (.t 15)⟩,
 ⟨some 17, none, .load 1 false (.t 16)⟩,
 ⟨some 4, none, .mov (.t 17)⟩])
 (.seq (.reg [⟨some 18, none, .mov (.t 0)⟩,
 ⟨some 19, none, .mov (.t 0)⟩,
 ⟨some 20, none, .nilc (.t 19)⟩,
 ⟨some 21, none, .fadr 1 (.t 20)⟩,
 ⟨some 22, none, .load 1 false (.t 21)⟩,
 ⟨some 23, none, .mov (.t 3)⟩,
 ⟨some 24, none, .slc 1 (.t 22) none (some (.t 23)) none⟩,
 ⟨some 25, none, .nilc (.t 18)⟩,
 ⟨some 26, none, .fadr 1 (.t 25)⟩,
 ⟨none, none, .store 1 (.t 26) (.t 24)⟩])
 (.seq (.reg [⟨some 27, none, .mov (.t 4)⟩,
 ⟨some 28, none, .mkifc 3 (.t 27)⟩,
 ⟨some 2, none, .mov (.t 28)⟩])
 .ret)))))
def rs91 : List RV := [.tmp 2]
theorem ok91 : okF Try.prog 91 = true := by kernel_rfl
theorem cc91 : cCode Try.prog Try.f91.ntmps (Try.f91.body.getD .skip) = some kc91 := by kernel_rfl
theorem cr91 : cRess Try.prog Try.f91.results.toList = some rs91 := by kernel_rfl
def kc92 : C :=
  (.drw [0, 0, 2, 6, 14, 0, 32, 96, 254, 511, 1023, 2047]
  [⟨some 4, none, .mov (.t 0)⟩,
 ⟨some 5, none, .mov (.t 0)⟩,
 ⟨some 6, none, .nilc (.t 5)⟩,
 ⟨some 7, none, .fadr 1 (.t 6)⟩,
 ⟨some 8, none, .load 1 false (.t 7)⟩,
 ⟨some 9, none, .mov (.t 1)⟩,
 ⟨some 10, none, .tas 3 false (.t 9)⟩,
 ⟨some 11, none, .bslice 3 1 1 [(.t 10)]⟩,
 ⟨some 12, none, .app 3 1 8 (.t 8) (.t 11)⟩,
 ⟨some 13, none, .nilc (.t 4)⟩,
 ⟨some 14, none, .fadr 1 (.t 13)⟩,
 ⟨none, none, .store 1 (.t 14) (.t 12)⟩])
def rs92 : List RV := []
theorem ok92 : okF Try.prog 92 = true := by kernel_rfl
theorem cc92 : cCode Try.prog Try.f92.ntmps (Try.f92.body.getD .skip) = some kc92 := by kernel_rfl
theorem cr92 : cRess Try.prog Try.f92.results.toList = some rs92 := by kernel_rfl
def kc93 : C :=
  (.drw [0, 1, 3, 7, 0, 0, 32, 96, 224, 0, 0, 1024, 3072, 7168, 0, 31744, 64512, 0, 131072, 393216, 917504, 0, 4063232, 8257536, 16776703, 33553919, 67108863, 134217727]
  [⟨some 6, none, .mov (.t 0)⟩,
 ⟨some 7, none, .nilc (.t 6)⟩,
 ⟨some 8, none, .fadr 1 (.t 7)⟩,
 ⟨some 9, none, .load 1 false (.t 8)⟩,
 ⟨some 10, none, .mov (.t 1)⟩,
 ⟨some 11, none, .mov (.t 0)⟩,
 ⟨some 12, none, .nilc (.t 11)⟩,
 ⟨some 13, none, .fadr 1 (.t 12)⟩,
 ⟨some 14, none, .load 1 false (.t 13)⟩,
 ⟨some 15, none, .mov (.t 2)⟩,
 ⟨some 16, none, .mov (.t 0)⟩,
 ⟨some 17, none, .nilc (.t 16)⟩,
 ⟨some 18, none, .fadr 1 (.t 17)⟩,
 ⟨some 19, none, .load 1 false (.t 18)⟩,
 ⟨some 20, none, .mov (.t 2)⟩,
 ⟨some 21, none, .iadr 1 (.t 19) (.t 20)⟩,
 ⟨some 22, none, .load 1 false (.t 21)⟩,
 ⟨some 23, none, .mov (.t 0)⟩,
 ⟨some 24, none, .nilc (.t 23)⟩,
 ⟨some 25, none, .fadr 1 (.t 24)⟩,
 ⟨some 26, none, .load 1 false (.t 25)⟩,
 ⟨some 27, none, .mov (.t 1)⟩,
 ⟨some 28, none, .iadr 1 (.t 26) (.t 27)⟩,
 ⟨some 29, none, .load 1 false (.t 28)⟩,
 ⟨some 30, none, .iadr 1 (.t 9) (.t 10)⟩,
 ⟨none, none, .store 1 (.t 30) (.t 22)⟩,
 ⟨some 31, none, .iadr 1 (.t 14) (.t 15)⟩,
 ⟨none, none, .store 1 (.t 31) (.t 29)⟩])
def rs93 : List RV := []
theorem ok93 : okF Try.prog 93 = true := by kernel_rfl
theorem cc93 : cCode Try.prog Try.f93.ntmps (Try.f93.body.getD .skip) = some kc93 := by kernel_rfl
theorem cr93 : cRess Try.prog Try.f93.results.toList = some rs93 := by kernel_rfl
def kc94 : C :=
  (.seq (.reg [⟨some 2, none, .mov (.k (.d (.int .i64 0)))⟩])
 (.seq (.reg [⟨some 3, none, .mov (.k (.d (.int .i64 0)))⟩])
 (.seq (.seq (.reg [⟨some 6, none, .mov (.t 0)⟩,
 ⟨some 7, none, .len (.t 6)⟩,
 ⟨some 8, none, .mov (.k (.d (.int .i64 0)))⟩])
 (.block 0 (.loop (.seq (.reg [⟨some 9, none, .bin .lss (.t 8) (.t 7)⟩])
 (.seq (.cond (.t 9) .skip
 (.exit 0))
 (.seq (.block 2 (.seq (.reg [⟨some 10, none, .iadr 1 (.t 6) (.t 8)⟩,
 ⟨some 11, none, .load 1 false (.t 10)⟩,
 ⟨some 5, none, .mov (.t 11)⟩])
 (.seq (.reg [⟨some 12, none, .mov (.t 5)⟩,
 ⟨some 13, none, .mov (.t 3)⟩,
 ⟨some 14, none, .bin .neq (.t 12) (.t 13)⟩])
 (.cond (.t 14) (.seq (.reg [⟨some 15, none, .mov (.t 5)⟩,
 ⟨some 2, none, .mov (.t 15)⟩])
 .ret)
 .skip))))
 (.reg [⟨some 16, none, .bin .add (.t 8) (.k (.d (.int .i64 1)))⟩,
 ⟨some 8, none, .mov (.t 16)⟩])))))))
 (.seq (.reg [⟨some 17, none, .mov (.t 3)⟩,
 ⟨some 2, none, .mov (.t 17)⟩])
 .ret))))
def rs94 : List RV := [.tmp 2]
theorem ok94 : okF Try.prog 94 = true := by kernel_rfl
theorem cc94 : cCode Try.prog Try.f94.ntmps (Try.f94.body.getD .skip) = some kc94 := by kernel_rfl
theorem cr94 : cRess Try.prog Try.f94.results.toList = some rs94 := by kernel_rfl
def kc95 : C :=
  (.seq (.reg [⟨some 4, none, .mov (.k (.d (.int .i64 0)))⟩])
 (.seq (.reg [⟨some 7, none, .mov (.t 0)⟩,
 ⟨some 8, none, .call 96 [(.t 7)]⟩,
 ⟨some 5, none, .mov (.t 8)⟩])
 (.seq (.reg [⟨some 9, none, .mov (.t 1)⟩,
 ⟨some 10, none, .call 96 [(.t 9)]⟩,
 ⟨some 6, none, .mov (.t 10)⟩])
 (.seq (.seq (.reg [⟨some 11, none, .mov (.t 5)⟩])
 (.cond (.t 11) (.seq (.seq (.reg [⟨some 12, none, .mov (.t 6)⟩])
 (.cond (.t 12) (.seq (.reg [⟨some 4, none, .mov (.k (.d (.int .i64 0)))⟩])
 .ret)
 .skip))
 (.seq (.reg [⟨some 4, none, .mov (.k (.d (.int .i64 (-1))))⟩])
 .ret))
 .skip))
 (.seq (.seq (.reg [⟨some 13, none, .mov (.t 6)⟩])
 (.cond (.t 13) (.seq (.reg [⟨some 4, none, .mov (.k (.d (.int .i64 1)))⟩])
 .ret)
 .skip))
 (.seq (.seq (.reg [⟨some 14, none, .mov (.t 0)⟩,
 ⟨some 15, none, .mov (.t 1)⟩,
 ⟨some 16, none, .bin .lss (.t 14) (.t 15)⟩])
 (.cond (.t 16) (.seq (.reg [⟨some 4, none, .mov (.k (.d (.int .i64 (-1))))⟩])
 .ret)
 .skip))
 (.seq (.seq (.reg [⟨some 17, none, .mov (.t 0)⟩,
 ⟨some 18, none, .mov (.t 1)⟩,
 ⟨some 19, none, .bin .gtr (.t 17) (.t 18)⟩])
 (.cond (.t 19) (.seq (.reg [⟨some 4, none, .mov (.k (.d (.int .i64 1)))⟩])
 .ret)
 .skip))
 (.seq (.reg [⟨some 4, none, .mov (.k (.d (.int .i64 0)))⟩])
 .ret))))))))
def rs95 : List RV := [.tmp 4]
theorem ok95 : okF Try.prog 95 = true := by kernel_rfl
theorem cc95 : cCode Try.prog Try.f95.ntmps (Try.f95.body.getD .skip) = some kc95 := by kernel_rfl
theorem cr95 : cRess Try.prog Try.f95.results.toList = some rs95 := by kernel_rfl
def kc96 : C :=
  (.seq (.reg [⟨some 2, none, .mov (.k (.d (.bool false)))⟩])
 (.seq (.reg [⟨some 3, none, .mov (.t 0)⟩,
 ⟨some 4, none, .mov (.t 0)⟩,
 ⟨some 5, none, .bin .neq (.t 3) (.t 4)⟩,
 ⟨some 2, none, .mov (.t 5)⟩])
 .ret))
def rs96 : List RV := [.tmp 2]
theorem ok96 : okF Try.prog 96 = true := by kernel_rfl
theorem cc96 : cCode Try.prog Try.f96.ntmps (Try.f96.body.getD .skip) = some kc96 := by kernel_rfl
theorem cr96 : cRess Try.prog Try.f96.results.toList = some rs96 := by kernel_rfl
end Go.Proofs.Ytkifajabiggfmaa
end
