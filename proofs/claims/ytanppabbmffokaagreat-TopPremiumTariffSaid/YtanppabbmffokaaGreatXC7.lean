import Derived.Test.YtanppabbmffokaaGreatXC6
import Derived.Test.YtanppabbmffokaaGreatRows
import Derived.KernelRfl
set_option linter.unusedSimpArgs false
set_option linter.unusedVariables false
section
namespace Go.Proofs.YtanppabbmffokaaGreat
open Go.Bx
set_option maxRecDepth 100000
def kc96:C:=
  (.seq (.reg [jj 6 (.mov (ki 0)),jj 7 (.mov (ki 0))])
 (.seq (.reg [jj 8 (.call 139 []),jm 9 0,jm 10 1,jm 11 2,jj 12 (.call 140 [(.t 8),(.t 9),(.t 10),(.t 11)]),jj 13 (.ext 0 (.t 12)),jj 14 (.ext 1 (.t 12)),jm 6 13,jm 7 14])
 .ret))
def rs96:List RV:=[.tmp 6,.tmp 7]
theorem ok96:okF Tryz.prog 96=true:=by kernel_rfl
theorem cc96:cCode Tryz.prog Tryz.f96.ntmps (Tryz.f96.body.getD .skip)=some kc96:=by kernel_rfl
theorem cr96:cRess Tryz.prog Tryz.f96.results.toList=some rs96:=by kernel_rfl
def kc97:C:=
  (.seq (.seq (.reg [jj 8 (.fadr 0 (.t 2)),jj 9 (.load 1 false (.t 8)),jj 10 (.len (.t 9)),jm 5 10])
 (.seq (.reg [jm 11 5,jj 12 (.bin .gtr (.t 11) (ki 0)),jm 13 12,jg 14 13 true (.fadr 0 (.t 2)),jg 15 13 true (.load 1 false (.t 14)),jg 16 13 true (.mov (.t 5)),jg 17 13 true (.bin .sub (.t 16) (ki 1)),jg 18 13 true (.iadr 1 (.t 15) (.t 17)),jg 19 13 true (.load 1 false (.t 18)),jg 20 13 true (.mov (.t 0)),jg 21 13 true (.bin .eql (.t 19) (.t 20)),jj 22 (.pick (.t 13) (.t 21) (.k (.d (.bool false))))])
 (.cond (.t 22) (.drw [0, 1, 0, 4, 15, 0, 32, 0, 128, 480, 127, 1151, 4095, 8191]
  [jj 23 (.fadr 0 (.t 2)),jj 24 (.load 1 false (.t 23)),jm 25 5,jj 26 (.bin .sub (.t 25) (ki 1)),jj 27 (.slc 1 (.t 24) none (some (.t 26)) none),jj 28 (.fadr 1 (.t 2)),jj 29 (.load 1 false (.t 28)),jm 30 5,jj 31 (.bin .sub (.t 30) (ki 1)),jj 32 (.slc 1 (.t 29) none (some (.t 31)) none),jj 33 (.fadr 0 (.t 2)),jn (.store 1 (.t 33) (.t 27)),jj 34 (.fadr 1 (.t 2)),jn (.store 1 (.t 34) (.t 32))])
 .skip)))
 (.seq (.reg [jj 6 (.mov (ki 0))])
 (.seq (.seq (.reg [jj 35 (.fadr 1 (.t 2)),jj 36 (.load 1 false (.t 35)),jj 37 (.len (.t 36)),jm 7 37])
 (.seq (.reg [jm 38 7,jj 39 (.bin .gtr (.t 38) (ki 0))])
 (.cond (.t 39) (.reg [jj 40 (.fadr 1 (.t 2)),jj 41 (.load 1 false (.t 40)),jm 42 7,jj 43 (.bin .sub (.t 42) (ki 1)),jj 44 (.iadr 1 (.t 41) (.t 43)),jj 45 (.load 1 false (.t 44)),jm 6 45])
 .skip)))
 (.seq (.reg [jm 46 1,jm 47 6,jj 48 (.bin .neq (.t 46) (.t 47)),jm 49 48,jg 50 49 true (.mov (.t 0)),jg 51 49 true (.bin .leq (.t 50) (ki 292194)),jj 52 (.pick (.t 49) (.t 51) (.k (.d (.bool false))))])
 (.cond (.t 52) (.drw [0, 1, 0, 4, 15, 0, 32, 0, 128, 511, 127, 2047, 4095, 8191]
  [jj 53 (.fadr 0 (.t 2)),jj 54 (.load 1 false (.t 53)),jm 55 0,jj 56 (.bslice 3 1 1 [(.t 55)]),jj 57 (.app 3 1 8 (.t 54) (.t 56)),jj 58 (.fadr 1 (.t 2)),jj 59 (.load 1 false (.t 58)),jm 60 1,jj 61 (.bslice 3 1 1 [(.t 60)]),jj 62 (.app 3 1 8 (.t 59) (.t 61)),jj 63 (.fadr 0 (.t 2)),jn (.store 1 (.t 63) (.t 57)),jj 64 (.fadr 1 (.t 2)),jn (.store 1 (.t 64) (.t 62))])
 .skip)))))
def rs97:List RV:=[]
theorem ok97:okF Tryz.prog 97=true:=by kernel_rfl
theorem cc97:cCode Tryz.prog Tryz.f97.ntmps (Tryz.f97.body.getD .skip)=some kc97:=by kernel_rfl
theorem cr97:cRess Tryz.prog Tryz.f97.results.toList=some rs97:=by kernel_rfl
def kc98:C:=
  (.seq (.reg [jj 2 (.box 118 (.t 0)),jj 4 (.mov (.k (.d (.bool false))))])
 (.seq (.reg [jj 6 (.fadr 0 (.t 2)),jj 7 (.fadr 0 (.t 6)),jj 8 (.load 1 false (.t 7)),jm 9 1,jj 10 (.bin .geq (.t 8) (.t 9)),jm 11 10,jg 12 11 true (.fadr 0 (.t 2)),jg 13 11 true (.fadr 0 (.t 12)),jg 14 11 true (.load 1 false (.t 13)),jg 15 11 true (.fadr 0 (.t 2)),jg 16 11 true (.fadr 1 (.t 15)),jg 17 11 true (.load 1 false (.t 16)),jg 18 11 true (.bin .lss (.t 14) (.t 17)),jj 19 (.pick (.t 11) (.t 18) (.k (.d (.bool false)))),jm 20 19,jg 21 20 true (.fadr 0 (.t 2)),jg 22 20 true (.fadr 1 (.t 21)),jg 23 20 true (.load 1 false (.t 22)),jg 24 20 true (.bin .leq (.t 23) (ki 292195)),jj 25 (.pick (.t 20) (.t 24) (.k (.d (.bool false)))),jm 5 25])
 (.seq (.reg [jm 26 5,jm 27 26,jg 28 27 true (.fadr 8 (.t 2)),jg 29 27 true (.load 1 false (.t 28)),jg 30 27 true (.bin .geq (.t 29) (ki 0)),jj 31 (.pick (.t 27) (.t 30) (.k (.d (.bool false)))),jm 32 31,jg 33 32 true (.fadr 8 (.t 2)),jg 34 32 true (.load 1 false (.t 33)),jg 35 32 true (.bin .leq (.t 34) (ki 4000000000000000000)),jj 36 (.pick (.t 32) (.t 35) (.k (.d (.bool false)))),jm 4 36])
 .ret)))
def rs98:List RV:=[.tmp 4]
theorem ok98:okF Tryz.prog 98=true:=by kernel_rfl
theorem cc98:cCode Tryz.prog Tryz.f98.ntmps (Tryz.f98.body.getD .skip)=some kc98:=by kernel_rfl
theorem cr98:cRess Tryz.prog Tryz.f98.results.toList=some rs98:=by kernel_rfl
def kc99:C:=
  (.seq (.reg [jj 2 (.box 118 (.t 0)),jj 3 (.box 118 (.t 1)),jj 4 (.mov (.k (.d (.bool false))))])
 (.seq (.reg [jj 6 (.fadr 7 (.t 2)),jj 7 (.load 1 false (.t 6)),jj 8 (.fadr 7 (.t 3)),jj 9 (.load 1 false (.t 8)),jj 10 (.call 141 [(.t 7),(.t 9)]),jm 5 10])
 (.seq (.reg [jj 11 (.fadr 2 (.t 2)),jj 12 (.load 1 false (.t 11)),jj 13 (.fadr 2 (.t 3)),jj 14 (.load 1 false (.t 13)),jj 15 (.beq false (.t 12) (.t 14)),jm 16 15,jg 17 16 true (.fadr 3 (.t 2)),jg 18 16 true (.load 4 true (.t 17)),jg 19 16 true (.fadr 3 (.t 3)),jg 20 16 true (.load 4 true (.t 19)),jg 21 16 true (.eqa false 4 [(0,some .i64),(1,some .i64),(2,some .i64),(3,some .i64)] (.t 18) (.t 20)),jj 22 (.pick (.t 16) (.t 21) (.k (.d (.bool false)))),jm 23 22,jg 24 23 true (.mov (.t 5)),jj 25 (.pick (.t 23) (.t 24) (.k (.d (.bool false)))),jm 4 25])
 .ret)))
def rs99:List RV:=[.tmp 4]
theorem ok99:okF Tryz.prog 99=true:=by kernel_rfl
theorem cc99:cCode Tryz.prog Tryz.f99.ntmps (Tryz.f99.body.getD .skip)=some kc99:=by kernel_rfl
theorem cr99:cRess Tryz.prog Tryz.f99.results.toList=some rs99:=by kernel_rfl
def kc100:C:=
  (.seq (.reg [jj 2 (.box 75 (.t 0)),jj 3 (.mov (.k (.d (.bool false))))])
 (.seq (.reg [jj 5 (.fadr 0 (.t 2)),jj 6 (.load 1 false (.t 5)),jj 7 (.load 1 false (.t 1)),jj 8 (.bin .leq (.t 6) (.t 7)),jm 4 8])
 (.seq (.reg [jj 9 (.fadr 0 (.t 2)),jj 10 (.load 1 false (.t 9)),jn (.store 1 (.t 1) (.t 10))])
 (.seq (.reg [jm 11 4,jm 12 11,jg 13 12 false (.load 9 true (.t 2)),jg 14 12 false (.call 58 [(.t 13)]),jg 15 12 false (.inv .not (.t 14)),jj 16 (.pick (.t 12) (.k (.d (.bool true))) (.t 15)),jm 3 16])
 .ret))))
def rs100:List RV:=[.tmp 3]
theorem ok100:okF Tryz.prog 100=true:=by kernel_rfl
theorem cc100:cCode Tryz.prog Tryz.f100.ntmps (Tryz.f100.body.getD .skip)=some kc100:=by kernel_rfl
theorem cr100:cRess Tryz.prog Tryz.f100.results.toList=some rs100:=by kernel_rfl
def kc101:C:=
  (.seq (.reg [jj 4 (.mov (.k (.d (.bool false))))])
 (.seq (.reg [jm 5 0,jm 6 1,jj 7 (.call 142 [(.t 5),(.t 6)]),jj 8 (.bin .geq (.t 7) (ki 0)),jm 4 8])
 .ret))
def rs101:List RV:=[.tmp 4]
theorem ok101:okF Tryz.prog 101=true:=by kernel_rfl
theorem cc101:cCode Tryz.prog Tryz.f101.ntmps (Tryz.f101.body.getD .skip)=some kc101:=by kernel_rfl
theorem cr101:cRess Tryz.prog Tryz.f101.results.toList=some rs101:=by kernel_rfl
def kc102:C:=
  (.seq (.reg [jj 2 (.mov (.k (.d (.bool false))))])
 (.seq (.reg [jm 3 0,jj 4 (.call 143 [(.t 3),(.k (.fn (.func 144) [] []))]),jj 5 (.inv .not (.t 4)),jm 2 5])
 .ret))
def rs102:List RV:=[.tmp 2]
theorem ok102:okF Tryz.prog 102=true:=by kernel_rfl
theorem cc102:cCode Tryz.prog Tryz.f102.ntmps (Tryz.f102.body.getD .skip)=some kc102:=by kernel_rfl
theorem cr102:cRess Tryz.prog Tryz.f102.results.toList=some rs102:=by kernel_rfl
def kc103:C:=
  (.seq (.reg [jj 2 (.mov (.k (.d (.bool false))))])
 (.seq (.reg [jj 3 (.mov (.k (.d (.int .i64 (-1)))))])
 (.seq (.seq (.reg [jm 6 0,jj 7 (.len (.t 6)),jj 8 (.mov (ki 0))])
 (.block 0 (.loop (.seq (.reg [jj 9 (.bin .lss (.t 8) (.t 7))])
 (.seq (.cond (.t 9) .skip
 (.exit 0))
 (.seq (.block 2 (.seq (.reg [jj 10 (.iadr 2 (.t 6) (.t 8)),jj 11 (.load 2 true (.t 10)),jj 5 (.alloc 182 [zi,zi]),jn (.store 2 (.t 5) (.t 11))])
 (.seq (.seq (.reg [jj 12 (.fadr 0 (.t 5)),jj 13 (.load 1 false (.t 12)),jm 14 3,jj 15 (.bin .leq (.t 13) (.t 14)),jm 16 15,jg 17 16 false (.fadr 0 (.t 5)),jg 18 16 false (.load 1 false (.t 17)),jg 19 16 false (.bin .gtr (.t 18) (ki 200)),jj 20 (.pick (.t 16) (.k (.d (.bool true))) (.t 19)),jm 21 20,jg 22 21 false (.fadr 1 (.t 5)),jg 23 21 false (.load 1 false (.t 22)),jg 24 21 false (.bin .lss (.t 23) (ki 0)),jj 25 (.pick (.t 21) (.k (.d (.bool true))) (.t 24)),jm 26 25,jg 27 26 false (.fadr 1 (.t 5)),jg 28 26 false (.load 1 false (.t 27)),jg 29 26 false (.bin .gtr (.t 28) (ki 100000)),jj 30 (.pick (.t 26) (.k (.d (.bool true))) (.t 29))])
 (.cond (.t 30) (.seq (.reg [jj 2 (.mov (.k (.d (.bool false))))])
 .ret)
 .skip))
 (.reg [jj 31 (.fadr 0 (.t 5)),jj 32 (.load 1 false (.t 31)),jm 3 32]))))
 (.reg [jj 33 (.bin .add (.t 8) (ki 1)),jm 8 33])))))))
 (.seq (.reg [jm 34 0,jj 35 (.len (.t 34)),jj 36 (.bin .leq (.t 35) (ki 100)),jm 2 36])
 .ret))))
def rs103:List RV:=[.tmp 2]
theorem ok103:okF Tryz.prog 103=true:=by kernel_rfl
theorem cc103:cCode Tryz.prog Tryz.f103.ntmps (Tryz.f103.body.getD .skip)=some kc103:=by kernel_rfl
theorem cr103:cRess Tryz.prog Tryz.f103.results.toList=some rs103:=by kernel_rfl
def kc106:C:=
  (.seq (.reg [jj 2 (.mov (.k (zl)))])
 (.seq (.seq (.reg [jm 3 0,jj 4 (.isnil false (.t 3))])
 (.cond (.t 4) (.seq (.reg [jj 2 (.mov (.k (zl)))])
 .ret)
 .skip))
 (.seq (.reg [jj 5 (.bslice 182 2 0 []),jm 6 0,jj 7 (.app 182 2 16 (.t 5) (.t 6)),jm 2 7])
 .ret)))
def rs106:List RV:=[.tmp 2]
theorem ok106:okF Tryz.prog 106=true:=by kernel_rfl
theorem cc106:cCode Tryz.prog Tryz.f106.ntmps (Tryz.f106.body.getD .skip)=some kc106:=by kernel_rfl
theorem cr106:cRess Tryz.prog Tryz.f106.results.toList=some rs106:=by kernel_rfl
def kc107:C:=
  (.seq (.reg [jj 1 (.box 28 (.t 0)),jj 2 (.mov (.k (.d (.bool false))))])
 (.seq (.reg [jj 3 (.mkfn (.func 147) [] [(.t 1)]),jj 4 (.mkfn (.func 148) [] [(.t 1)]),jj 5 (.mkfn (.func 149) [] [(.t 1)]),jj 6 (.mkfn (.func 150) [] [(.t 1)]),jj 7 (.bslice 38 1 4 [(.t 3),(.t 4),(.t 5),(.t 6)]),jj 8 (.call 146 [(.t 7)]),jm 2 8])
 .ret))
def rs107:List RV:=[.tmp 2]
theorem ok107:okF Tryz.prog 107=true:=by kernel_rfl
theorem cc107:cCode Tryz.prog Tryz.f107.ntmps (Tryz.f107.body.getD .skip)=some kc107:=by kernel_rfl
theorem cr107:cRess Tryz.prog Tryz.f107.results.toList=some rs107:=by kernel_rfl
def kc108:C:=
  (.seq (.reg [jj 1 (.box 32 (.t 0)),jj 2 (.mov (.k (.d (.raw .nilFunc))))])
 (.seq (.reg [jj 3 (.mkfn (.func 151) [] [(.t 1)]),jm 2 3])
 .ret))
def rs108:List RV:=[.tmp 2]
theorem ok108:okF Tryz.prog 108=true:=by kernel_rfl
theorem cc108:cCode Tryz.prog Tryz.f108.ntmps (Tryz.f108.body.getD .skip)=some kc108:=by kernel_rfl
theorem cr108:cRess Tryz.prog Tryz.f108.results.toList=some rs108:=by kernel_rfl
def kc109:C:=
  (.seq (.reg [jj 6 (.load 9 true (.t 1)),jj 4 (.alloc 118 [zi,zi,.d (.bool false),zi,zi,zi,zi,zl,zi]),jn (.store 9 (.t 4) (.t 6))])
 (.seq (.reg [jm 7 0,jj 8 (.fadr 0 (.t 4)),jj 9 (.fadr 1 (.t 8)),jn (.store 1 (.t 9) (.t 7))])
 (.seq (.reg [jj 10 (.load 1 false (.t 2)),jj 11 (.len (.t 10)),jj 12 (.bin .sub (.t 11) (ki 1)),jm 5 12])
 (.seq (.block 0 (.seq (.reg [jj 18 (.fadr 0 (.t 4)),jj 19 (.fadr 0 (.t 18)),jj 20 (.load 1 false (.t 19)),jm 21 0,jj 22 (.bin .eql (.t 20) (.t 21)),jm 17 22])
 (.cond (.t 17) .skip
 (.seq (.drw [0, 1, 3, 7, 7, 31, 63, 7, 255, 511, 1023]
  [jm 24 5,jj 25 (.bin .geq (.t 24) (ki 0)),jm 26 25,jg 27 26 true (.load 1 false (.t 2)),jg 28 26 true (.mov (.t 5)),jg 29 26 true (.iadr 9 (.t 27) (.t 28)),jg 30 26 true (.load 9 true (.t 29)),jg 31 26 true (.load 9 true (.t 4)),jg 32 26 true (.call 110 [(.t 30),(.t 31)]),jj 33 (.pick (.t 26) (.t 32) (.k (.d (.bool false)))),jm 23 33])
 (.cond (.t 23) (.reg [jj 34 (.load 1 false (.t 2)),jm 35 5,jm 36 0,jj 37 (.iadr 9 (.t 34) (.t 35)),jj 38 (.fadr 0 (.t 37)),jj 39 (.fadr 1 (.t 38)),jn (.store 1 (.t 39) (.t 36))])
 (.reg [jj 13 (.load 1 false (.t 2)),jj 14 (.load 9 true (.t 4)),jj 15 (.bslice 118 9 1 [(.t 14)]),jj 16 (.app 118 9 88 (.t 13) (.t 15)),jn (.store 1 (.t 2) (.t 16))]))))))
 (.reg [jm 40 0,jj 41 (.fadr 0 (.t 1)),jj 42 (.fadr 0 (.t 41)),jn (.store 1 (.t 42) (.t 40))])))))
def rs109:List RV:=[]
theorem ok109:okF Tryz.prog 109=true:=by kernel_rfl
theorem cc109:cCode Tryz.prog Tryz.f109.ntmps (Tryz.f109.body.getD .skip)=some kc109:=by kernel_rfl
theorem cr109:cRess Tryz.prog Tryz.f109.results.toList=some rs109:=by kernel_rfl
def kc110:C:=
  (.seq (.reg [jj 2 (.box 118 (.t 0)),jj 3 (.box 118 (.t 1)),jj 4 (.mov (.k (.d (.bool false))))])
 (.seq (.reg [jj 5 (.fadr 2 (.t 2)),jj 6 (.load 1 false (.t 5)),jj 7 (.fadr 2 (.t 3)),jj 8 (.load 1 false (.t 7)),jj 9 (.beq false (.t 6) (.t 8)),jm 10 9,jg 11 10 true (.fadr 3 (.t 2)),jg 12 10 true (.load 4 true (.t 11)),jg 13 10 true (.fadr 3 (.t 3)),jg 14 10 true (.load 4 true (.t 13)),jg 15 10 true (.eqa false 4 [(0,some .i64),(1,some .i64),(2,some .i64),(3,some .i64)] (.t 12) (.t 14)),jj 16 (.pick (.t 10) (.t 15) (.k (.d (.bool false)))),jm 17 16,jg 18 17 true (.fadr 7 (.t 2)),jg 19 17 true (.load 1 false (.t 18)),jg 20 17 true (.fadr 7 (.t 3)),jg 21 17 true (.load 1 false (.t 20)),jg 22 17 true (.call 152 [(.t 19),(.t 21)]),jj 23 (.pick (.t 17) (.t 22) (.k (.d (.bool false)))),jm 4 23])
 .ret))
def rs110:List RV:=[.tmp 4]
theorem ok110:okF Tryz.prog 110=true:=by kernel_rfl
theorem cc110:cCode Tryz.prog Tryz.f110.ntmps (Tryz.f110.body.getD .skip)=some kc110:=by kernel_rfl
theorem cr110:cRess Tryz.prog Tryz.f110.results.toList=some rs110:=by kernel_rfl
def kc111:C:=
  (.seq (.reg [jj 1 (.box 31 (.t 0)),jj 2 (.mov (.k (zl)))])
 (.seq (.reg [jj 3 (.mov (.k (zl)))])
 (.seq (.seq (.reg [jj 5 (.fadr 9 (.t 1)),jj 6 (.load 1 false (.t 5)),jj 7 (.len (.t 6)),jj 8 (.mov (ki 0))])
 (.block 0 (.loop (.seq (.reg [jj 9 (.bin .lss (.t 8) (.t 7))])
 (.seq (.cond (.t 9) .skip
 (.exit 0))
 (.seq (.block 2 (.seq (.reg [jm 10 8,jm 4 10])
 (.reg [jm 11 3,jm 12 4,jj 13 (.bslice 3 1 1 [(.t 12)]),jj 14 (.app 3 1 8 (.t 11) (.t 13)),jm 3 14])))
 (.reg [jj 15 (.bin .add (.t 8) (ki 1)),jm 8 15])))))))
 (.seq (.reg [jm 16 3,jj 17 (.mkfn (.func 154) [] [(.t 1)]),jj 18 (.call 153 [(.t 16),(.t 17)])])
 (.seq (.reg [jm 19 3,jm 2 19])
 .ret)))))
def rs111:List RV:=[.tmp 2]
theorem ok111:okF Tryz.prog 111=true:=by kernel_rfl
theorem cc111:cCode Tryz.prog Tryz.f111.ntmps (Tryz.f111.body.getD .skip)=some kc111:=by kernel_rfl
theorem cr111:cRess Tryz.prog Tryz.f111.results.toList=some rs111:=by kernel_rfl
def kc112:C:=
  (.seq (.reg [jj 3 (.box 36 (.t 1))])
 (.seq (.reg [jj 4 (.mov (.k (.d (.bool true))))])
 (.seq (.reg [jj 5 (.fadr 2 (.t 3)),jj 6 (.load 1 false (.t 5))])
 (.block 0 (.seq (.block 8 (.seq (.block 6 (.seq (.block 4 (.seq (.block 2 (.seq (.seq (.seq (.reg [jj 8 (.bin .eql (.t 6) (ki 1)),jm 7 8])
 (.cond (.t 7) (.exit 2)
 .skip))
 (.seq (.seq (.reg [jj 10 (.bin .eql (.t 6) (ki 2)),jm 9 10])
 (.cond (.t 9) (.exit 4)
 .skip))
 (.seq (.seq (.reg [jj 12 (.bin .eql (.t 6) (ki 3)),jm 11 12])
 (.cond (.t 11) (.exit 6)
 .skip))
 (.seq (.reg [jj 14 (.bin .eql (.t 6) (ki 4)),jm 13 14])
 (.cond (.t 13) (.exit 8)
 .skip)))))
 (.exit 0)))
 (.seq (.reg [jm 15 0,jj 16 (.fadr 3 (.t 3)),jj 17 (.load 4 true (.t 16)),jj 18 (.nilc (.t 15)),jj 19 (.fadr 3 (.t 18)),jn (.store 4 (.t 19) (.t 17))])
 (.exit 0))))
 (.seq (.reg [jm 20 0,jj 21 (.bslice 63 5 0 []),jj 22 (.fadr 7 (.t 3)),jj 23 (.load 1 false (.t 22)),jj 24 (.app 63 5 40 (.t 21) (.t 23)),jj 25 (.nilc (.t 20)),jj 26 (.fadr 7 (.t 25)),jn (.store 1 (.t 26) (.t 24))])
 (.exit 0))))
 (.reg [jj 4 (.mov (.k (.d (.bool false))))])))
 (.seq (.reg [jm 27 0,jm 28 4,jj 29 (.nilc (.t 27)),jj 30 (.fadr 2 (.t 29)),jn (.store 1 (.t 30) (.t 28))])
 (.exit 0)))))))
def rs112:List RV:=[]
theorem ok112:okF Tryz.prog 112=true:=by kernel_rfl
theorem cc112:cCode Tryz.prog Tryz.f112.ntmps (Tryz.f112.body.getD .skip)=some kc112:=by kernel_rfl
theorem cr112:cRess Tryz.prog Tryz.f112.results.toList=some rs112:=by kernel_rfl
def kc113:C:=
  (.seq (.reg [jj 0 (.mov (.k (.d (.raw .nilFunc))))])
 (.seq (.reg [jj 1 (.alloc 3 [zi]),jn (.store 1 (.t 1) (ki 0))])
 (.seq (.reg [jj 2 (.mkfn (.func 155) [] [(.t 1)]),jm 0 2])
 .ret)))
def rs113:List RV:=[.tmp 0]
theorem ok113:okF Tryz.prog 113=true:=by kernel_rfl
theorem cc113:cCode Tryz.prog Tryz.f113.ntmps (Tryz.f113.body.getD .skip)=some kc113:=by kernel_rfl
theorem cr113:cRess Tryz.prog Tryz.f113.results.toList=some rs113:=by kernel_rfl
def kc114:C:=
  (.seq (.reg [jj 3 (.box 75 (.t 0)),jj 4 (.box 25 (.t 1)),jj 5 (.box 63 (.t 2)),jj 6 (.mov (ki 0)),jj 7 (.mov (ki 0))])
 (.scope 1 (.seq (.block 0 (.seq (.reg [jj 13 (.load 9 true (.t 3)),jj 14 (.call 58 [(.t 13)]),jj 15 (.inv .not (.t 14)),jm 16 15,jg 17 16 false (.load 4 true (.t 4)),jg 18 16 false (.call 130 [(.t 17)]),jg 19 16 false (.inv .not (.t 18)),jj 20 (.pick (.t 16) (.k (.d (.bool true))) (.t 19)),jm 21 20,jg 22 21 false (.load 5 true (.t 5)),jg 23 21 false (.call 156 [(.t 22)]),jg 24 21 false (.inv .not (.t 23)),jj 25 (.pick (.t 21) (.k (.d (.bool true))) (.t 24)),jm 12 25])
 (.cond (.t 12) (.seq (.reg [jj 6 (.mov (ki 0)),jj 7 (.mov (ki 1))])
 .ret)
 (.seq (.reg [jj 27 (.fadr 3 (.t 4)),jj 28 (.load 1 false (.t 27)),jj 29 (.fadr 6 (.t 3)),jj 30 (.load 1 false (.t 29)),jj 31 (.len (.t 30)),jj 32 (.bin .geq (.t 28) (.t 31)),jm 26 32])
 (.cond (.t 26) (.seq (.reg [jj 6 (.mov (ki 0)),jj 7 (.mov (ki 7))])
 .ret)
 .skip)))))
 (.seq (.reg [jj 33 (.fadr 1 (.t 4)),jj 34 (.load 1 false (.t 33)),jm 8 34,jj 9 (.mov (ki 0))])
 (.seq .skip
 (.seq (.seq (.drw [0, 1, 0, 7, 15, 0, 32, 0, 128, 480, 0, 1024, 0, 4096, 15360, 31744, 0, 65536, 0, 262144, 983040, 2031616, 0, 4194304, 16777215, 0]
  [jj 35 (.fadr 0 (.t 4)),jj 36 (.load 1 false (.t 35)),jj 37 (.fadr 1 (.t 3)),jj 38 (.aadr 1 4 (.t 37) (.t 36)),jj 39 (.load 1 false (.t 38)),jj 40 (.fadr 5 (.t 3)),jj 41 (.load 1 false (.t 40)),jj 42 (.fadr 2 (.t 4)),jj 43 (.load 1 false (.t 42)),jj 44 (.call 157 [(.t 41),(.t 43)]),jj 45 (.fadr 6 (.t 3)),jj 46 (.load 1 false (.t 45)),jj 47 (.fadr 3 (.t 4)),jj 48 (.load 1 false (.t 47)),jj 49 (.iadr 1 (.t 46) (.t 48)),jj 50 (.load 1 false (.t 49)),jj 51 (.fadr 7 (.t 3)),jj 52 (.load 1 false (.t 51)),jj 53 (.fadr 0 (.t 5)),jj 54 (.load 1 false (.t 53)),jj 55 (.iadr 1 (.t 52) (.t 54)),jj 56 (.load 1 false (.t 55)),jj 57 (.fadr 4 (.t 5)),jj 58 (.load 1 false (.t 57)),jj 59 (.build [zi,zi,zi,zi,zi] [(0,1,(.t 39)),(1,1,(.t 44)),(2,1,(.t 50)),(3,1,(.t 56)),(4,1,(.t 58))]),jj 60 (.mov (ki 0))])
 (.block 2 (.loop (.seq (.reg [jj 61 (.bin .lss (.t 60) (ki 5))])
 (.seq (.cond (.t 61) .skip
 (.exit 2))
 (.seq (.block 4 (.seq (.reg [jj 62 (.idx 1 5 false (.t 59) (.t 60)),jm 11 62])
 (.seq (.reg [jm 64 8,jm 65 11,jj 66 (.call 88 [(.t 64),(.t 65)]),jm 63 66,jj 67 (.ext 0 (.t 63)),jj 68 (.ext 1 (.t 63)),jm 8 67,jm 9 68])
 (.seq (.reg [jm 69 9,jj 70 (.bin .neq (.t 69) (ki 0))])
 (.cond (.t 70) (.exit 2)
 .skip)))))
 (.reg [jj 71 (.bin .add (.t 60) (ki 1)),jm 60 71])))))))
 (.seq (.seq (.reg [jm 72 9,jj 73 (.bin .neq (.t 72) (ki 0))])
 (.cond (.t 73) (.seq (.reg [jm 74 9,jj 6 (.mov (ki 0)),jm 7 74])
 .ret)
 .skip))
 (.seq (.reg [jm 75 8,jj 76 (.fadr 8 (.t 3)),jj 77 (.load 1 false (.t 76)),jj 78 (.mm true (.t 75) (.t 77)),jm 6 78,jj 7 (.mov (ki 0))])
 .ret))))))
 (.seq .skip
 (.seq (.seq (.drw [0, 1, 0, 7, 15, 0, 32, 0, 128, 480, 0, 1024, 0, 4096, 15360, 31744, 0, 65536, 0, 262144, 983040, 2031616, 0, 4194304, 16777215, 0]
  [jj 35 (.fadr 0 (.t 4)),jj 36 (.load 1 false (.t 35)),jj 37 (.fadr 1 (.t 3)),jj 38 (.aadr 1 4 (.t 37) (.t 36)),jj 39 (.load 1 false (.t 38)),jj 40 (.fadr 5 (.t 3)),jj 41 (.load 1 false (.t 40)),jj 42 (.fadr 2 (.t 4)),jj 43 (.load 1 false (.t 42)),jj 44 (.call 157 [(.t 41),(.t 43)]),jj 45 (.fadr 6 (.t 3)),jj 46 (.load 1 false (.t 45)),jj 47 (.fadr 3 (.t 4)),jj 48 (.load 1 false (.t 47)),jj 49 (.iadr 1 (.t 46) (.t 48)),jj 50 (.load 1 false (.t 49)),jj 51 (.fadr 7 (.t 3)),jj 52 (.load 1 false (.t 51)),jj 53 (.fadr 0 (.t 5)),jj 54 (.load 1 false (.t 53)),jj 55 (.iadr 1 (.t 52) (.t 54)),jj 56 (.load 1 false (.t 55)),jj 57 (.fadr 4 (.t 5)),jj 58 (.load 1 false (.t 57)),jj 59 (.build [zi,zi,zi,zi,zi] [(0,1,(.t 39)),(1,1,(.t 44)),(2,1,(.t 50)),(3,1,(.t 56)),(4,1,(.t 58))]),jj 60 (.mov (ki 0))])
 (.block 2 (.loop (.seq (.reg [jj 61 (.bin .lss (.t 60) (ki 5))])
 (.seq (.cond (.t 61) .skip
 (.exit 2))
 (.seq (.block 4 (.seq (.reg [jj 62 (.idx 1 5 false (.t 59) (.t 60)),jm 11 62])
 (.seq (.reg [jm 64 8,jm 65 11,jj 66 (.call 88 [(.t 64),(.t 65)]),jm 63 66,jj 67 (.ext 0 (.t 63)),jj 68 (.ext 1 (.t 63)),jm 8 67,jm 9 68])
 (.seq (.reg [jm 69 9,jj 70 (.bin .neq (.t 69) (ki 0))])
 (.cond (.t 70) (.exit 2)
 .skip)))))
 (.reg [jj 71 (.bin .add (.t 60) (ki 1)),jm 60 71])))))))
 (.seq (.seq (.reg [jm 72 9,jj 73 (.bin .neq (.t 72) (ki 0))])
 (.cond (.t 73) (.seq (.reg [jm 74 9,jj 6 (.mov (ki 0)),jm 7 74])
 .ret)
 .skip))
 (.seq (.reg [jm 75 8,jj 76 (.fadr 8 (.t 3)),jj 77 (.load 1 false (.t 76)),jj 78 (.mm true (.t 75) (.t 77)),jm 6 78,jj 7 (.mov (ki 0))])
 .ret))))))
def rs114:List RV:=[.tmp 6,.tmp 7]
theorem ok114:okF Tryz.prog 114=true:=by kernel_rfl
theorem cc114:cCode Tryz.prog Tryz.f114.ntmps (Tryz.f114.body.getD .skip)=some kc114:=by kernel_rfl
theorem cr114:cRess Tryz.prog Tryz.f114.results.toList=some rs114:=by kernel_rfl
def kc115:C:=
  (.seq (.reg [jj 2 (.mov (ki 0)),jj 3 (.mov (ki 0))])
 (.seq (.seq (.reg [jm 5 0,jj 6 (.call 158 [(.t 5)]),jj 7 (.inv .not (.t 6))])
 (.cond (.t 7) (.seq (.reg [jj 2 (.mov (ki 0)),jj 3 (.mov (ki 3))])
 .ret)
 .skip))
 (.seq (.reg [jm 8 0,jj 9 (.bin .sub (.t 8) (ki 1)),jj 10 (.bin .quo (.t 9) (ki 365)),jj 11 (.bin .add (ki 1601) (.t 10)),jm 4 11])
 (.seq (.block 0 (.loop (.seq (.seq (.reg [jm 12 4,jj 13 (.call 116 [(.t 12)]),jm 14 0,jj 15 (.bin .geq (.t 13) (.t 14))])
 (.cond (.t 15) .skip
 (.exit 0)))
 (.block 2 (.reg [jm 16 4,jj 17 (.bin .sub (.t 16) (ki 1)),jm 4 17])))))
 (.seq (.reg [jm 18 4,jm 2 18,jj 3 (.mov (ki 0))])
 .ret)))))
def rs115:List RV:=[.tmp 2,.tmp 3]
theorem ok115:okF Tryz.prog 115=true:=by kernel_rfl
theorem cc115:cCode Tryz.prog Tryz.f115.ntmps (Tryz.f115.body.getD .skip)=some kc115:=by kernel_rfl
theorem cr115:cRess Tryz.prog Tryz.f115.results.toList=some rs115:=by kernel_rfl
def kc116:C:=
  (.seq (.reg [jj 2 (.mov (ki 0))])
 (.seq (.reg [jm 4 0,jj 5 (.bin .sub (.t 4) (ki 1601)),jm 3 5])
 (.seq (.reg [jm 6 3,jj 7 (.bin .mul (.t 6) (ki 365)),jm 8 3,jj 9 (.bin .quo (.t 8) (ki 4)),jj 10 (.bin .add (.t 7) (.t 9)),jm 11 3,jj 12 (.bin .quo (.t 11) (ki 100)),jj 13 (.bin .sub (.t 10) (.t 12)),jm 14 3,jj 15 (.bin .quo (.t 14) (ki 400)),jj 16 (.bin .add (.t 13) (.t 15)),jm 2 16])
 .ret)))
def rs116:List RV:=[.tmp 2]
theorem ok116:okF Tryz.prog 116=true:=by kernel_rfl
theorem cc116:cCode Tryz.prog Tryz.f116.ntmps (Tryz.f116.body.getD .skip)=some kc116:=by kernel_rfl
theorem cr116:cRess Tryz.prog Tryz.f116.results.toList=some rs116:=by kernel_rfl
def kc117:C:=
  (.seq (.reg [jj 2 (.mov (.k (.d (.bool false))))])
 (.seq (.reg [jm 3 0,jj 4 (.bin .rem (.t 3) (ki 4)),jj 5 (.bin .eql (.t 4) (ki 0)),jm 6 5,jg 7 6 true (.mov (.t 0)),jg 8 6 true (.bin .rem (.t 7) (ki 100)),jg 9 6 true (.bin .neq (.t 8) (ki 0)),jg 10 6 true (.mov (.t 9)),jg 11 10 false (.mov (.t 0)),jg 12 10 false (.bin .rem (.t 11) (ki 400)),jg 13 10 false (.bin .eql (.t 12) (ki 0)),jg 14 6 true (.pick (.t 10) (.k (.d (.bool true))) (.t 13)),jj 15 (.pick (.t 6) (.t 14) (.k (.d (.bool false)))),jm 2 15])
 .ret))
def rs117:List RV:=[.tmp 2]
theorem ok117:okF Tryz.prog 117=true:=by kernel_rfl
theorem cc117:cCode Tryz.prog Tryz.f117.ntmps (Tryz.f117.body.getD .skip)=some kc117:=by kernel_rfl
theorem cr117:cRess Tryz.prog Tryz.f117.results.toList=some rs117:=by kernel_rfl
def kc118:C:=
  (.seq (.reg [jj 1 (.box 142 (.t 0)),jj 2 (.mov (.k (.d (.bool false))))])
 (.seq (.seq (.reg [jj 3 (.fadr 0 (.t 1)),jj 4 (.load 1 false (.t 3)),jj 5 (.bin .lss (.t 4) (ki 1601)),jm 6 5,jg 7 6 false (.fadr 0 (.t 1)),jg 8 6 false (.load 1 false (.t 7)),jg 9 6 false (.bin .gtr (.t 8) (ki 2400)),jj 10 (.pick (.t 6) (.k (.d (.bool true))) (.t 9)),jm 11 10,jg 12 11 false (.fadr 1 (.t 1)),jg 13 11 false (.load 1 false (.t 12)),jg 14 11 false (.bin .lss (.t 13) (ki 1)),jj 15 (.pick (.t 11) (.k (.d (.bool true))) (.t 14)),jm 16 15,jg 17 16 false (.fadr 1 (.t 1)),jg 18 16 false (.load 1 false (.t 17)),jg 19 16 false (.bin .gtr (.t 18) (ki 12)),jj 20 (.pick (.t 16) (.k (.d (.bool true))) (.t 19))])
 (.cond (.t 20) (.seq (.reg [jj 2 (.mov (.k (.d (.bool false))))])
 .ret)
 .skip))
 (.seq (.drw [0, 1, 3, 7, 15, 31, 15, 79, 207, 15, 527, 1551, 4047, 8191, 16383, 32767]
  [jj 21 (.fadr 2 (.t 1)),jj 22 (.load 1 false (.t 21)),jj 23 (.bin .geq (.t 22) (ki 1)),jm 24 23,jg 25 24 true (.fadr 2 (.t 1)),jg 26 24 true (.load 1 false (.t 25)),jg 27 24 true (.fadr 0 (.t 1)),jg 28 24 true (.load 1 false (.t 27)),jg 29 24 true (.call 69 [(.t 28)]),jg 30 24 true (.fadr 1 (.t 1)),jg 31 24 true (.load 1 false (.t 30)),jg 32 24 true (.bin .sub (.t 31) (ki 1)),jg 33 24 true (.idx 1 12 false (.t 29) (.t 32)),jg 34 24 true (.bin .leq (.t 26) (.t 33)),jj 35 (.pick (.t 24) (.t 34) (.k (.d (.bool false)))),jm 2 35])
 .ret)))
def rs118:List RV:=[.tmp 2]
theorem ok118:okF Tryz.prog 118=true:=by kernel_rfl
theorem cc118:cCode Tryz.prog Tryz.f118.ntmps (Tryz.f118.body.getD .skip)=some kc118:=by kernel_rfl
theorem cr118:cRess Tryz.prog Tryz.f118.results.toList=some rs118:=by kernel_rfl
def kc121:C:=
  (.seq (.reg [jj 2 (.mov (.k (.d (.bool false))))])
 (.seq (.reg [jm 3 0,jj 4 (.bin .geq (.t 3) (.k (.d (.int .i64 (-4000000000000000000))))),jm 5 4,jg 6 5 true (.mov (.t 0)),jg 7 5 true (.bin .leq (.t 6) (ki 4000000000000000000)),jj 8 (.pick (.t 5) (.t 7) (.k (.d (.bool false)))),jm 2 8])
 .ret))
def rs121:List RV:=[.tmp 2]
theorem ok121:okF Tryz.prog 121=true:=by kernel_rfl
theorem cc121:cCode Tryz.prog Tryz.f121.ntmps (Tryz.f121.body.getD .skip)=some kc121:=by kernel_rfl
theorem cr121:cRess Tryz.prog Tryz.f121.results.toList=some rs121:=by kernel_rfl
def kc122:C:=
  (.seq (.reg [jj 7 (.fadr 0 (.t 1)),jj 8 (.load 1 false (.t 7)),jm 4 8])
 (.seq (.seq (.reg [jj 9 (.fadr 0 (.t 2)),jj 10 (.load 1 false (.t 9)),jj 11 (.len (.t 10)),jj 12 (.mov (ki 0))])
 (.block 0 (.loop (.seq (.reg [jj 13 (.bin .lss (.t 12) (.t 11))])
 (.seq (.cond (.t 13) .skip
 (.exit 0))
 (.seq (.block 2 (.seq (.reg [jj 14 (.iadr 1 (.t 10) (.t 12)),jj 15 (.load 1 false (.t 14)),jm 6 15])
 (.seq (.seq (.reg [jm 16 6,jm 17 4,jj 18 (.bin .leq (.t 16) (.t 17)),jm 19 18,jg 20 19 false (.mov (.t 6)),jg 21 19 false (.fadr 1 (.t 1)),jg 22 19 false (.load 1 false (.t 21)),jg 23 19 false (.bin .geq (.t 20) (.t 22)),jj 24 (.pick (.t 19) (.k (.d (.bool true))) (.t 23))])
 (.cond (.t 24) (.exit 2)
 .skip))
 (.seq (.seq (.reg [jm 25 0,jm 26 4,jm 27 6,jj 28 (.build [zi,zi] [(0,1,(.t 26)),(1,1,(.t 27))]),jj 29 (.load 2 true (.t 2)),jm 30 4,jj 31 (.call 123 [(.t 29),(.t 30)]),jj 32 (.callv (.t 25) [(.t 28),(.t 31)]),jj 33 (.inv .not (.t 32))])
 (.cond (.t 33) .ret
 .skip))
 (.reg [jm 34 6,jm 4 34])))))
 (.reg [jj 35 (.bin .add (.t 12) (ki 1)),jm 12 35])))))))
 (.drw [0, 0, 0, 4, 14, 0, 0, 96, 255]
  [jm 36 0,jm 37 4,jj 38 (.fadr 1 (.t 1)),jj 39 (.load 1 false (.t 38)),jj 40 (.build [zi,zi] [(0,1,(.t 37)),(1,1,(.t 39))]),jj 41 (.load 2 true (.t 2)),jm 42 4,jj 43 (.call 123 [(.t 41),(.t 42)]),jj 44 (.callv (.t 36) [(.t 40),(.t 43)])])))
def rs122:List RV:=[]
theorem ok122:okF Tryz.prog 122=true:=by kernel_rfl
theorem cc122:cCode Tryz.prog Tryz.f122.ntmps (Tryz.f122.body.getD .skip)=some kc122:=by kernel_rfl
theorem cr122:cRess Tryz.prog Tryz.f122.results.toList=some rs122:=by kernel_rfl
def kc123:C:=
  (.seq (.reg [jj 2 (.box 82 (.t 0)),jj 4 (.mov (ki 0))])
 (.seq (.reg [jj 8 (.fadr 0 (.t 2)),jj 9 (.load 1 false (.t 8)),jm 10 1,jj 11 (.call 170 [(.t 9),(.t 10)]),jm 7 11,jj 12 (.ext 0 (.t 7)),jj 13 (.ext 1 (.t 7)),jm 5 12,jm 6 13])
 (.seq (.seq (.reg [jm 14 6,jj 15 (.inv .not (.t 14))])
 (.cond (.t 15) (.reg [jm 16 5,jj 17 (.bin .sub (.t 16) (ki 1)),jm 5 17])
 .skip))
 (.seq (.seq (.reg [jm 18 5,jj 19 (.bin .lss (.t 18) (ki 0))])
 (.cond (.t 19) (.seq (.reg [jj 4 (.mov (ki 0))])
 .ret)
 .skip))
 (.seq (.reg [jj 20 (.fadr 1 (.t 2)),jj 21 (.load 1 false (.t 20)),jm 22 5,jj 23 (.iadr 1 (.t 21) (.t 22)),jj 24 (.load 1 false (.t 23)),jm 4 24])
 .ret)))))
def rs123:List RV:=[.tmp 4]
theorem ok123:okF Tryz.prog 123=true:=by kernel_rfl
theorem cc123:cCode Tryz.prog Tryz.f123.ntmps (Tryz.f123.body.getD .skip)=some kc123:=by kernel_rfl
theorem cr123:cRess Tryz.prog Tryz.f123.results.toList=some rs123:=by kernel_rfl
def kc128:C:=
  (.seq (.reg [jj 4 (.mov (ki 0))])
 (.seq (.reg [jm 7 0,jj 8 (.call 173 [(.t 7)]),jm 5 8])
 (.seq (.reg [jm 9 1,jj 10 (.call 173 [(.t 9)]),jm 6 10])
 (.seq (.seq (.reg [jm 11 5])
 (.cond (.t 11) (.seq (.seq (.reg [jm 12 6])
 (.cond (.t 12) (.seq (.reg [jj 4 (.mov (ki 0))])
 .ret)
 .skip))
 (.seq (.reg [jj 4 (.mov (.k (.d (.int .i64 (-1)))))])
 .ret))
 .skip))
 (.seq (.seq (.reg [jm 13 6])
 (.cond (.t 13) (.seq (.reg [jj 4 (.mov (ki 1))])
 .ret)
 .skip))
 (.seq (.seq (.reg [jm 14 0,jm 15 1,jj 16 (.bin .lss (.t 14) (.t 15))])
 (.cond (.t 16) (.seq (.reg [jj 4 (.mov (.k (.d (.int .i64 (-1)))))])
 .ret)
 .skip))
 (.seq (.seq (.reg [jm 17 0,jm 18 1,jj 19 (.bin .gtr (.t 17) (.t 18))])
 (.cond (.t 19) (.seq (.reg [jj 4 (.mov (ki 1))])
 .ret)
 .skip))
 (.seq (.reg [jj 4 (.mov (ki 0))])
 .ret))))))))
def rs128:List RV:=[.tmp 4]
theorem ok128:okF Tryz.prog 128=true:=by kernel_rfl
theorem cc128:cCode Tryz.prog Tryz.f128.ntmps (Tryz.f128.body.getD .skip)=some kc128:=by kernel_rfl
theorem cr128:cRess Tryz.prog Tryz.f128.results.toList=some rs128:=by kernel_rfl
def kc129:C:=
  (.seq (.reg [jj 1 (.box 36 (.t 0)),jj 2 (.mov (.k (.d (.bool false))))])
 (.seq (.reg [jj 3 (.fadr 3 (.t 1)),jj 4 (.load 4 true (.t 3)),jj 5 (.call 130 [(.t 4)]),jm 6 5,jg 7 6 true (.fadr 7 (.t 1)),jg 8 6 true (.load 1 false (.t 7)),jg 9 6 true (.len (.t 8)),jg 10 6 true (.bin .eql (.t 9) (ki 0)),jj 11 (.pick (.t 6) (.t 10) (.k (.d (.bool false)))),jm 12 11,jg 13 12 true (.fadr 8 (.t 1)),jg 14 12 true (.load 1 false (.t 13)),jg 15 12 true (.bin .eql (.t 14) (ki 0)),jj 16 (.pick (.t 12) (.t 15) (.k (.d (.bool false)))),jm 2 16])
 .ret))
def rs129:List RV:=[.tmp 2]
theorem ok129:okF Tryz.prog 129=true:=by kernel_rfl
theorem cc129:cCode Tryz.prog Tryz.f129.ntmps (Tryz.f129.body.getD .skip)=some kc129:=by kernel_rfl
theorem cr129:cRess Tryz.prog Tryz.f129.results.toList=some rs129:=by kernel_rfl
def kc130:C:=
  (.seq (.reg [jj 1 (.box 25 (.t 0)),jj 2 (.mov (.k (.d (.bool false))))])
 (.seq (.reg [jj 5 (.fadr 0 (.t 1)),jj 6 (.load 1 false (.t 5)),jj 7 (.bin .geq (.t 6) (ki 0)),jm 8 7,jg 9 8 true (.fadr 0 (.t 1)),jg 10 8 true (.load 1 false (.t 9)),jg 11 8 true (.bin .lss (.t 10) (ki 4)),jj 12 (.pick (.t 8) (.t 11) (.k (.d (.bool false)))),jm 3 12])
 (.seq (.reg [jj 13 (.fadr 1 (.t 1)),jj 14 (.load 1 false (.t 13)),jj 15 (.bin .geq (.t 14) (ki 1)),jm 16 15,jg 17 16 true (.fadr 1 (.t 1)),jg 18 16 true (.load 1 false (.t 17)),jg 19 16 true (.bin .leq (.t 18) (ki 1000000000000000)),jj 20 (.pick (.t 16) (.t 19) (.k (.d (.bool false)))),jm 4 20])
 (.seq (.reg [jm 21 3,jm 22 21,jg 23 22 true (.mov (.t 4)),jj 24 (.pick (.t 22) (.t 23) (.k (.d (.bool false)))),jm 25 24,jg 26 25 true (.fadr 2 (.t 1)),jg 27 25 true (.load 1 false (.t 26)),jg 28 25 true (.bin .geq (.t 27) (ki 0)),jj 29 (.pick (.t 25) (.t 28) (.k (.d (.bool false)))),jm 30 29,jg 31 30 true (.fadr 2 (.t 1)),jg 32 30 true (.load 1 false (.t 31)),jg 33 30 true (.bin .leq (.t 32) (ki 200)),jj 34 (.pick (.t 30) (.t 33) (.k (.d (.bool false)))),jm 35 34,jg 36 35 true (.fadr 3 (.t 1)),jg 37 35 true (.load 1 false (.t 36)),jg 38 35 true (.bin .geq (.t 37) (ki 0)),jj 39 (.pick (.t 35) (.t 38) (.k (.d (.bool false)))),jm 40 39,jg 41 40 true (.fadr 3 (.t 1)),jg 42 40 true (.load 1 false (.t 41)),jg 43 40 true (.bin .lss (.t 42) (ki 100)),jj 44 (.pick (.t 40) (.t 43) (.k (.d (.bool false)))),jm 2 44])
 .ret))))
def rs130:List RV:=[.tmp 2]
theorem ok130:okF Tryz.prog 130=true:=by kernel_rfl
theorem cc130:cCode Tryz.prog Tryz.f130.ntmps (Tryz.f130.body.getD .skip)=some kc130:=by kernel_rfl
theorem cr130:cRess Tryz.prog Tryz.f130.results.toList=some rs130:=by kernel_rfl
def kc131:C:=
  (.seq (.reg [jj 1 (.box 36 (.t 0)),jj 2 (.mov (.k (.d (.bool false))))])
 (.seq (.reg [jj 3 (.fadr 7 (.t 1)),jj 4 (.load 1 false (.t 3)),jj 5 (.call 132 [(.t 4)]),jm 6 5,jg 7 6 true (.fadr 3 (.t 1)),jg 8 6 true (.load 4 true (.t 7)),jg 9 6 true (.build [zi,zi,zi,zi] []),jg 10 6 true (.eqa false 4 [(0,some .i64),(1,some .i64),(2,some .i64),(3,some .i64)] (.t 8) (.t 9)),jj 11 (.pick (.t 6) (.t 10) (.k (.d (.bool false)))),jm 12 11,jg 13 12 true (.fadr 8 (.t 1)),jg 14 12 true (.load 1 false (.t 13)),jg 15 12 true (.bin .eql (.t 14) (ki 0)),jj 16 (.pick (.t 12) (.t 15) (.k (.d (.bool false)))),jm 2 16])
 .ret))
def rs131:List RV:=[.tmp 2]
theorem ok131:okF Tryz.prog 131=true:=by kernel_rfl
theorem cc131:cCode Tryz.prog Tryz.f131.ntmps (Tryz.f131.body.getD .skip)=some kc131:=by kernel_rfl
theorem cr131:cRess Tryz.prog Tryz.f131.results.toList=some rs131:=by kernel_rfl
def kc132:C:=
  (.seq (.reg [jj 2 (.mov (.k (.d (.bool false))))])
 (.seq (.reg [jj 3 (.mov (.k (.d (.int .i64 (-1)))))])
 (.seq (.seq (.reg [jm 6 0,jj 7 (.len (.t 6)),jj 8 (.mov (ki 0))])
 (.block 0 (.loop (.seq (.reg [jj 9 (.bin .lss (.t 8) (.t 7))])
 (.seq (.cond (.t 9) .skip
 (.exit 0))
 (.seq (.block 2 (.seq (.reg [jj 10 (.iadr 5 (.t 6) (.t 8)),jj 11 (.load 5 true (.t 10)),jj 5 (.alloc 63 [zi,zi,zi,zi,zi]),jn (.store 5 (.t 5) (.t 11))])
 (.seq (.seq (.reg [jj 12 (.fadr 0 (.t 5)),jj 13 (.load 1 false (.t 12)),jm 14 3,jj 15 (.bin .leq (.t 13) (.t 14)),jm 16 15,jg 17 16 false (.load 5 true (.t 5)),jg 18 16 false (.call 156 [(.t 17)]),jg 19 16 false (.inv .not (.t 18)),jj 20 (.pick (.t 16) (.k (.d (.bool true))) (.t 19))])
 (.cond (.t 20) (.seq (.reg [jj 2 (.mov (.k (.d (.bool false))))])
 .ret)
 .skip))
 (.reg [jj 21 (.fadr 0 (.t 5)),jj 22 (.load 1 false (.t 21)),jm 3 22]))))
 (.reg [jj 23 (.bin .add (.t 8) (ki 1)),jm 8 23])))))))
 (.seq (.reg [jm 24 0,jj 25 (.len (.t 24)),jj 26 (.bin .geq (.t 25) (ki 1)),jm 27 26,jg 28 27 true (.mov (.t 0)),jg 29 27 true (.len (.t 28)),jg 30 27 true (.bin .leq (.t 29) (ki 8)),jj 31 (.pick (.t 27) (.t 30) (.k (.d (.bool false)))),jm 2 31])
 .ret))))
def rs132:List RV:=[.tmp 2]
theorem ok132:okF Tryz.prog 132=true:=by kernel_rfl
theorem cc132:cCode Tryz.prog Tryz.f132.ntmps (Tryz.f132.body.getD .skip)=some kc132:=by kernel_rfl
theorem cr132:cRess Tryz.prog Tryz.f132.results.toList=some rs132:=by kernel_rfl
def kc133:C:=
  (.seq (.reg [jj 1 (.box 36 (.t 0)),jj 2 (.mov (.k (.d (.bool false))))])
 (.seq (.reg [jj 3 (.fadr 8 (.t 1)),jj 4 (.load 1 false (.t 3)),jj 5 (.bin .eql (.t 4) (ki 0)),jm 6 5,jg 7 6 false (.fadr 8 (.t 1)),jg 8 6 false (.load 1 false (.t 7)),jg 9 6 false (.bin .eql (.t 8) (ki 1)),jj 10 (.pick (.t 6) (.k (.d (.bool true))) (.t 9)),jm 11 10,jg 12 11 true (.fadr 7 (.t 1)),jg 13 11 true (.load 1 false (.t 12)),jg 14 11 true (.len (.t 13)),jg 15 11 true (.bin .eql (.t 14) (ki 0)),jj 16 (.pick (.t 11) (.t 15) (.k (.d (.bool false)))),jm 17 16,jg 18 17 true (.fadr 3 (.t 1)),jg 19 17 true (.load 4 true (.t 18)),jg 20 17 true (.build [zi,zi,zi,zi] []),jg 21 17 true (.eqa false 4 [(0,some .i64),(1,some .i64),(2,some .i64),(3,some .i64)] (.t 19) (.t 20)),jj 22 (.pick (.t 17) (.t 21) (.k (.d (.bool false)))),jm 2 22])
 .ret))
def rs133:List RV:=[.tmp 2]
theorem ok133:okF Tryz.prog 133=true:=by kernel_rfl
theorem cc133:cCode Tryz.prog Tryz.f133.ntmps (Tryz.f133.body.getD .skip)=some kc133:=by kernel_rfl
theorem cr133:cRess Tryz.prog Tryz.f133.results.toList=some rs133:=by kernel_rfl
def kc134:C:=
  (.seq (.reg [jj 1 (.box 36 (.t 0)),jj 2 (.mov (.k (.d (.bool false))))])
 (.seq (.reg [jj 3 (.fadr 8 (.t 1)),jj 4 (.load 1 false (.t 3)),jj 5 (.bin .eql (.t 4) (ki 0)),jm 6 5,jg 7 6 true (.fadr 7 (.t 1)),jg 8 6 true (.load 1 false (.t 7)),jg 9 6 true (.len (.t 8)),jg 10 6 true (.bin .eql (.t 9) (ki 0)),jj 11 (.pick (.t 6) (.t 10) (.k (.d (.bool false)))),jm 12 11,jg 13 12 true (.fadr 3 (.t 1)),jg 14 12 true (.load 4 true (.t 13)),jg 15 12 true (.build [zi,zi,zi,zi] []),jg 16 12 true (.eqa false 4 [(0,some .i64),(1,some .i64),(2,some .i64),(3,some .i64)] (.t 14) (.t 15)),jj 17 (.pick (.t 12) (.t 16) (.k (.d (.bool false)))),jm 2 17])
 .ret))
def rs134:List RV:=[.tmp 2]
theorem ok134:okF Tryz.prog 134=true:=by kernel_rfl
theorem cc134:cCode Tryz.prog Tryz.f134.ntmps (Tryz.f134.body.getD .skip)=some kc134:=by kernel_rfl
theorem cr134:cRess Tryz.prog Tryz.f134.results.toList=some rs134:=by kernel_rfl
def kc135:C:=
  (.seq (.reg [jj 4 (.mov (.k (zl)))])
 (.seq (.seq (.reg [jm 5 1,jj 6 (.bin .lss (.t 5) (ki 0))])
 (.cond (.t 6) (.reg [jj 7 (.never),jn (.pnc (.t 7))])
 .skip))
 (.seq (.seq (.reg [jm 8 1,jm 9 0,jj 10 (.cap (.t 9)),jm 11 0,jj 12 (.len (.t 11)),jj 13 (.bin .sub (.t 10) (.t 12)),jj 14 (.bin .sub (.t 8) (.t 13)),jm 1 14])
 (.seq (.reg [jm 15 1,jj 16 (.bin .gtr (.t 15) (ki 0))])
 (.cond (.t 16) (.reg [jm 17 0,jm 18 0,jj 19 (.cap (.t 18)),jj 20 (.slc 9 (.t 17) none (some (.t 19)) none),jm 21 1,jj 22 (.apz 36 9 88 [(.int .i64 0),(.int .i64 0),(.int .i64 0),(.int .i64 0),(.int .i64 0),(.int .i64 0),(.int .i64 0),(.sl true 0 0 fun _=>[]),(.int .i64 0)] (.t 20) (.t 21)),jm 23 0,jj 24 (.len (.t 23)),jj 25 (.slc 9 (.t 22) none (some (.t 24)) none),jm 0 25])
 .skip)))
 (.seq (.reg [jm 26 0,jm 4 26])
 .ret))))
def rs135:List RV:=[.tmp 4]
theorem ok135:okF Tryz.prog 135=true:=by kernel_rfl
theorem cc135:cCode Tryz.prog Tryz.f135.ntmps (Tryz.f135.body.getD .skip)=some kc135:=by kernel_rfl
theorem cr135:cRess Tryz.prog Tryz.f135.results.toList=some rs135:=by kernel_rfl
def kc136:C:=
  (.seq (.reg [jj 0 (.mov (.k (.d (.raw .nilFunc))))])
 (.seq (.reg [jj 1 (.alloc 3 [zi]),jn (.store 1 (.t 1) (ki 0))])
 (.seq (.reg [jj 2 (.mkfn (.func 174) [] [(.t 1)]),jm 0 2])
 .ret)))
def rs136:List RV:=[.tmp 0]
theorem ok136:okF Tryz.prog 136=true:=by kernel_rfl
theorem cc136:cCode Tryz.prog Tryz.f136.ntmps (Tryz.f136.body.getD .skip)=some kc136:=by kernel_rfl
theorem cr136:cRess Tryz.prog Tryz.f136.results.toList=some rs136:=by kernel_rfl
def kc137:C:=
  (.seq (.reg [jj 6 (.mov (ki 0)),jj 7 (.mov (ki 0))])
 (.seq (.reg [jj 8 (.call 175 []),jm 9 0,jm 10 1,jm 11 2,jj 12 (.call 140 [(.t 8),(.t 9),(.t 10),(.t 11)]),jj 13 (.ext 0 (.t 12)),jj 14 (.ext 1 (.t 12)),jm 6 13,jm 7 14])
 .ret))
def rs137:List RV:=[.tmp 6,.tmp 7]
theorem ok137:okF Tryz.prog 137=true:=by kernel_rfl
theorem cc137:cCode Tryz.prog Tryz.f137.ntmps (Tryz.f137.body.getD .skip)=some kc137:=by kernel_rfl
theorem cr137:cRess Tryz.prog Tryz.f137.results.toList=some rs137:=by kernel_rfl
def kc138:C:=
  (.seq (.reg [jj 4 (.mov (.k (.d (.int .u64 0)))),jj 5 (.mov (.k (.d (.int .u64 0))))])
 (.seq (.cond (.k (.d (.bool false))) (.seq (.reg [jm 11 0,jj 12 (.conv .u32 (.t 11)),jm 13 1,jj 14 (.conv .u32 (.t 13)),jj 15 (.call 176 [(.t 12),(.t 14)]),jm 10 15,jj 16 (.ext 0 (.t 10)),jj 17 (.ext 1 (.t 10)),jm 6 16,jm 7 17])
 (.seq (.reg [jm 18 6,jj 19 (.conv .u64 (.t 18)),jm 20 7,jj 21 (.conv .u64 (.t 20)),jm 4 19,jm 5 21])
 .ret))
 .skip)
 (.seq (.reg [jm 23 0,jm 24 1,jj 25 (.call 177 [(.t 23),(.t 24)]),jm 22 25,jj 26 (.ext 0 (.t 22)),jj 27 (.ext 1 (.t 22)),jm 8 26,jm 9 27])
 (.seq (.reg [jm 28 8,jm 29 9,jm 4 28,jm 5 29])
 .ret))))
def rs138:List RV:=[.tmp 4,.tmp 5]
theorem ok138:okF Tryz.prog 138=true:=by kernel_rfl
theorem cc138:cCode Tryz.prog Tryz.f138.ntmps (Tryz.f138.body.getD .skip)=some kc138:=by kernel_rfl
theorem cr138:cRess Tryz.prog Tryz.f138.results.toList=some rs138:=by kernel_rfl
def kc139:C:=
  (.seq (.reg [jj 0 (.alloc 214 [.d (.raw .nilFunc)])])
 (.seq (.reg [jj 1 (.build [.d (.raw .nilFunc)] [(0,1,(.k (.fn (.func 178) [] [])))]),jn (.store 1 (.t 0) (.t 1))])
 .ret))
def rs139:List RV:=[.cell 0 1 true]
theorem ok139:okF Tryz.prog 139=true:=by kernel_rfl
theorem cc139:cCode Tryz.prog Tryz.f139.ntmps (Tryz.f139.body.getD .skip)=some kc139:=by kernel_rfl
theorem cr139:cRess Tryz.prog Tryz.f139.results.toList=some rs139:=by kernel_rfl
def kc140:C:=
  (.seq (.reg [jj 4 (.box 214 (.t 0)),jj 8 (.mov (ki 0)),jj 9 (.mov (ki 0))])
 (.seq (.block 0 (.seq (.reg [jm 15 1,jj 16 (.bin .lss (.t 15) (ki 0)),jm 17 16,jg 18 17 false (.mov (.t 2)),jg 19 17 false (.bin .lss (.t 18) (ki 0)),jj 20 (.pick (.t 17) (.k (.d (.bool true))) (.t 19)),jm 21 20,jg 22 21 false (.mov (.t 3)),jg 23 21 false (.bin .lss (.t 22) (ki 0)),jj 24 (.pick (.t 21) (.k (.d (.bool true))) (.t 23)),jm 14 24])
 (.cond (.t 14) (.seq (.reg [jj 8 (.mov (ki 0)),jj 9 (.mov (ki 1))])
 .ret)
 (.seq (.reg [jm 26 3,jj 27 (.bin .eql (.t 26) (ki 0)),jm 25 27])
 (.cond (.t 25) (.seq (.reg [jj 8 (.mov (ki 0)),jj 9 (.mov (ki 6))])
 .ret)
 .skip)))))
 (.seq (.reg [jm 29 1,jj 30 (.conv .u64 (.t 29)),jm 31 2,jj 32 (.conv .u64 (.t 31)),jj 33 (.call 177 [(.t 30),(.t 32)]),jm 28 33,jj 34 (.ext 0 (.t 28)),jj 35 (.ext 1 (.t 28)),jm 10 34,jm 11 35])
 (.seq (.seq (.reg [jm 36 10,jm 37 3,jj 38 (.conv .u64 (.t 37)),jj 39 (.bin .geq (.t 36) (.t 38))])
 (.cond (.t 39) (.seq (.reg [jj 8 (.mov (ki 0)),jj 9 (.mov (ki 5))])
 .ret)
 .skip))
 (.seq (.reg [jm 41 10,jm 42 11,jm 43 3,jj 44 (.conv .u64 (.t 43)),jj 45 (.call 179 [(.t 41),(.t 42),(.t 44)]),jm 40 45,jj 46 (.ext 0 (.t 40)),jj 47 (.ext 1 (.t 40)),jm 12 46,jm 13 47])
 (.seq (.seq (.reg [jm 48 12,jj 49 (.bin .gtr (.t 48) (.k (.d (.int .u64 4000000000000000000))))])
 (.cond (.t 49) (.seq (.reg [jj 8 (.mov (ki 0)),jj 9 (.mov (ki 5))])
 .ret)
 .skip))
 (.seq (.seq (.reg [jj 50 (.fadr 0 (.t 4)),jj 51 (.load 1 false (.t 50)),jm 52 12,jm 53 13,jm 54 3,jj 55 (.conv .u64 (.t 54)),jj 56 (.callv (.t 51) [(.t 52),(.t 53),(.t 55)])])
 (.cond (.t 56) (.reg [jm 57 12,jj 58 (.bin .add (.t 57) (.k (.d (.int .u64 1)))),jm 12 58])
 .skip))
 (.seq (.seq (.reg [jm 59 12,jj 60 (.bin .gtr (.t 59) (.k (.d (.int .u64 4000000000000000000))))])
 (.cond (.t 60) (.seq (.reg [jj 8 (.mov (ki 0)),jj 9 (.mov (ki 5))])
 .ret)
 .skip))
 (.seq (.reg [jm 61 12,jj 62 (.conv .i64 (.t 61)),jm 8 62,jj 9 (.mov (ki 0))])
 .ret)))))))))
def rs140:List RV:=[.tmp 8,.tmp 9]
theorem ok140:okF Tryz.prog 140=true:=by kernel_rfl
theorem cc140:cCode Tryz.prog Tryz.f140.ntmps (Tryz.f140.body.getD .skip)=some kc140:=by kernel_rfl
theorem cr140:cRess Tryz.prog Tryz.f140.results.toList=some rs140:=by kernel_rfl
def kc141:C:=
  (.seq (.reg [jj 4 (.mov (.k (.d (.bool false))))])
 (.seq (.seq (.reg [jm 6 0,jj 7 (.len (.t 6)),jm 8 1,jj 9 (.len (.t 8)),jj 10 (.bin .neq (.t 7) (.t 9))])
 (.cond (.t 10) (.seq (.reg [jj 4 (.mov (.k (.d (.bool false))))])
 .ret)
 .skip))
 (.seq (.seq (.reg [jj 5 (.mov (ki 0))])
 (.block 0 (.loop (.seq (.seq (.reg [jm 11 5,jm 12 0,jj 13 (.len (.t 12)),jj 14 (.bin .lss (.t 11) (.t 13))])
 (.cond (.t 14) .skip
 (.exit 0)))
 (.seq (.block 2 (.seq (.drw [0, 0, 3, 7, 0, 0, 48, 112, 255]
  [jm 17 0,jm 18 5,jj 19 (.iadr 5 (.t 17) (.t 18)),jj 20 (.load 5 true (.t 19)),jm 21 1,jm 22 5,jj 23 (.iadr 5 (.t 21) (.t 22)),jj 24 (.load 5 true (.t 23)),jj 25 (.eqa true 5 [(0,some .i64),(1,some .i64),(2,some .i64),(3,some .i64),(4,some .i64)] (.t 20) (.t 24))])
 (.cond (.t 25) (.seq (.reg [jj 4 (.mov (.k (.d (.bool false))))])
 .ret)
 .skip)))
 (.reg [jm 15 5,jj 16 (.bin .add (.t 15) (ki 1)),jm 5 16]))))))
 (.seq (.reg [jj 4 (.mov (.k (.d (.bool true))))])
 .ret))))
def rs141:List RV:=[.tmp 4]
theorem ok141:okF Tryz.prog 141=true:=by kernel_rfl
theorem cc141:cCode Tryz.prog Tryz.f141.ntmps (Tryz.f141.body.getD .skip)=some kc141:=by kernel_rfl
theorem cr141:cRess Tryz.prog Tryz.f141.results.toList=some rs141:=by kernel_rfl
def kc142:C:=
  (.seq (.reg [jj 4 (.mov (ki 0))])
 (.seq (.seq (.reg [jm 6 0,jj 7 (.len (.t 6)),jj 8 (.mov (ki 0))])
 (.block 0 (.loop (.seq (.reg [jj 9 (.bin .lss (.t 8) (.t 7))])
 (.seq (.cond (.t 9) .skip
 (.exit 0))
 (.seq (.block 2 (.seq (.reg [jm 10 8,jm 5 10])
 (.seq (.reg [jm 11 1,jm 12 0,jm 13 5,jj 14 (.iadr 9 (.t 12) (.t 13)),jj 15 (.load 9 true (.t 14)),jj 16 (.callv (.t 11) [(.t 15)])])
 (.cond (.t 16) (.seq (.reg [jm 17 5,jm 4 17])
 .ret)
 .skip))))
 (.reg [jj 18 (.bin .add (.t 8) (ki 1)),jm 8 18])))))))
 (.seq (.reg [jj 4 (.mov (.k (.d (.int .i64 (-1)))))])
 .ret)))
def rs142:List RV:=[.tmp 4]
theorem ok142:okF Tryz.prog 142=true:=by kernel_rfl
theorem cc142:cCode Tryz.prog Tryz.f142.ntmps (Tryz.f142.body.getD .skip)=some kc142:=by kernel_rfl
theorem cr142:cRess Tryz.prog Tryz.f142.results.toList=some rs142:=by kernel_rfl
def kc143:C:=
  (.seq (.reg [jj 4 (.mov (.k (.d (.bool false))))])
 (.seq (.reg [jm 5 0,jm 6 1,jj 7 (.call 180 [(.t 5),(.t 6)]),jj 8 (.bin .geq (.t 7) (ki 0)),jm 4 8])
 .ret))
def rs143:List RV:=[.tmp 4]
theorem ok143:okF Tryz.prog 143=true:=by kernel_rfl
theorem cc143:cCode Tryz.prog Tryz.f143.ntmps (Tryz.f143.body.getD .skip)=some kc143:=by kernel_rfl
theorem cr143:cRess Tryz.prog Tryz.f143.results.toList=some rs143:=by kernel_rfl
def kc144:C:=
  (.seq (.reg [jj 2 (.mov (.k (.d (.bool false))))])
 (.seq (.reg [jm 3 0,jj 4 (.bin .lss (.t 3) (ki 0)),jm 5 4,jg 6 5 false (.mov (.t 0)),jg 7 5 false (.bin .gtr (.t 6) (ki 100000)),jj 8 (.pick (.t 5) (.k (.d (.bool true))) (.t 7)),jm 2 8])
 .ret))
def rs144:List RV:=[.tmp 2]
theorem ok144:okF Tryz.prog 144=true:=by kernel_rfl
theorem cc144:cCode Tryz.prog Tryz.f144.ntmps (Tryz.f144.body.getD .skip)=some kc144:=by kernel_rfl
theorem cr144:cRess Tryz.prog Tryz.f144.results.toList=some rs144:=by kernel_rfl
def kd146:Dfr:=
  ⟨(.seq (.reg [jj 1 (.box 245 (.t 0)),jj 2 (.alloc 4 [.d (.bool false)])])
 (.seq (.reg [jj 3 (.alloc 3 [zi]),jn (.store 1 (.t 3) (ki 0))])
 .skip)),
  [jj 6 (.mkfn (.func 182) [] [(.t 3),(.t 1),(.t 2)])],
  (.t 6),[],
  (.seq (.seq (.reg [jj 7 (.load 1 false (.t 1)),jj 8 (.len (.t 7)),jj 9 (.mov (ki 0))])
 (.block 0 (.loop (.seq (.reg [jj 10 (.bin .lss (.t 9) (.t 8))])
 (.seq (.cond (.t 10) .skip
 (.exit 0))
 (.seq (.block 2 (.seq (.reg [jj 11 (.iadr 1 (.t 7) (.t 9)),jj 12 (.load 1 false (.t 11)),jm 5 12])
 (.seq (.seq (.reg [jm 13 5,jj 14 (.callv (.t 13) []),jj 15 (.inv .not (.t 14))])
 (.cond (.t 15) .ret
 .skip))
 (.reg [jj 16 (.load 1 false (.t 3)),jj 17 (.bin .add (.t 16) (ki 1)),jn (.store 1 (.t 3) (.t 17))]))))
 (.reg [jj 18 (.bin .add (.t 9) (ki 1)),jm 9 18])))))))
 .ret)⟩
def rs146:List RV:=[.cell 2 1 false]
theorem ok146:okF Tryz.prog 146=true:=by kernel_rfl
theorem cd146:cDefer Tryz.prog Tryz.f146.ntmps (Tryz.f146.body.getD .skip)=some kd146:=by kernel_rfl
theorem cr146:cRess Tryz.prog Tryz.f146.results.toList=some rs146:=by kernel_rfl
def kc147:C:=
  (.seq (.reg [jj 1 (.mov (.k (.d (.bool false))))])
 (.seq (.reg [jj 2 (.fadr 0 (.t 0)),jj 3 (.load 2 true (.t 2)),jj 4 (.call 75 [(.t 3)]),jm 1 4])
 .ret))
def rs147:List RV:=[.tmp 1]
theorem ok147:okF Tryz.prog 147=true:=by kernel_rfl
theorem cc147:cCode Tryz.prog Tryz.f147.ntmps (Tryz.f147.body.getD .skip)=some kc147:=by kernel_rfl
theorem cr147:cRess Tryz.prog Tryz.f147.results.toList=some rs147:=by kernel_rfl
def kc148:C:=
  (.seq (.reg [jj 1 (.mov (.k (.d (.bool false))))])
 (.seq (.reg [jj 2 (.fadr 0 (.t 0)),jj 3 (.load 2 true (.t 2)),jj 4 (.call 41 [(.t 3)]),jj 5 (.bin .geq (.t 4) (ki 1)),jm 6 5,jg 7 6 true (.fadr 0 (.t 0)),jg 8 6 true (.load 2 true (.t 7)),jg 9 6 true (.call 41 [(.t 8)]),jg 10 6 true (.bin .leq (.t 9) (ki 1100)),jj 11 (.pick (.t 6) (.t 10) (.k (.d (.bool false)))),jm 1 11])
 .ret))
def rs148:List RV:=[.tmp 1]
theorem ok148:okF Tryz.prog 148=true:=by kernel_rfl
theorem cc148:cCode Tryz.prog Tryz.f148.ntmps (Tryz.f148.body.getD .skip)=some kc148:=by kernel_rfl
theorem cr148:cRess Tryz.prog Tryz.f148.results.toList=some rs148:=by kernel_rfl
def kc149:C:=
  (.seq (.reg [jj 1 (.mov (.k (.d (.bool false))))])
 (.seq (.reg [jj 2 (.fadr 2 (.t 0)),jj 3 (.load 4 true (.t 2)),jj 4 (.call 130 [(.t 3)]),jm 1 4])
 .ret))
def rs149:List RV:=[.tmp 1]
theorem ok149:okF Tryz.prog 149=true:=by kernel_rfl
theorem cc149:cCode Tryz.prog Tryz.f149.ntmps (Tryz.f149.body.getD .skip)=some kc149:=by kernel_rfl
theorem cr149:cRess Tryz.prog Tryz.f149.results.toList=some rs149:=by kernel_rfl
def kc150:C:=
  (.seq (.reg [jj 1 (.mov (.k (.d (.bool false))))])
 (.seq (.reg [jj 2 (.fadr 6 (.t 0)),jj 3 (.load 1 false (.t 2)),jj 4 (.call 132 [(.t 3)]),jm 1 4])
 .ret))
def rs150:List RV:=[.tmp 1]
theorem ok150:okF Tryz.prog 150=true:=by kernel_rfl
theorem cc150:cCode Tryz.prog Tryz.f150.ntmps (Tryz.f150.body.getD .skip)=some kc150:=by kernel_rfl
theorem cr150:cRess Tryz.prog Tryz.f150.results.toList=some rs150:=by kernel_rfl
def kc151:C:=
  (.seq (.reg [jj 4 (.load 1 false (.t 1)),jj 5 (.len (.t 4)),jj 6 (.bin .sub (.t 5) (ki 1)),jm 3 6])
 (.block 0 (.loop (.seq (.seq (.reg [jm 7 3,jj 8 (.bin .geq (.t 7) (ki 0))])
 (.cond (.t 8) .skip
 (.exit 0)))
 (.seq (.block 2 (.seq (.reg [jm 11 0,jm 12 3,jj 13 (.load 1 false (.t 1)),jm 14 3,jj 15 (.iadr 9 (.t 13) (.t 14)),jj 16 (.load 9 true (.t 15)),jj 17 (.callv (.t 11) [(.t 12),(.t 16)]),jj 18 (.inv .not (.t 17))])
 (.cond (.t 18) .ret
 .skip)))
 (.reg [jm 9 3,jj 10 (.bin .sub (.t 9) (ki 1)),jm 3 10]))))))
def rs151:List RV:=[]
theorem ok151:okF Tryz.prog 151=true:=by kernel_rfl
theorem cc151:cCode Tryz.prog Tryz.f151.ntmps (Tryz.f151.body.getD .skip)=some kc151:=by kernel_rfl
theorem cr151:cRess Tryz.prog Tryz.f151.results.toList=some rs151:=by kernel_rfl
def kc152:C:=
  (.seq (.reg [jj 4 (.mov (.k (.d (.bool false))))])
 (.seq (.seq (.reg [jm 7 0,jj 8 (.len (.t 7)),jm 9 1,jj 10 (.len (.t 9)),jj 11 (.bin .neq (.t 8) (.t 10))])
 (.cond (.t 11) (.seq (.reg [jj 4 (.mov (.k (.d (.bool false))))])
 .ret)
 .skip))
 (.seq (.seq (.reg [jm 12 0,jj 13 (.len (.t 12)),jj 14 (.mov (ki 0))])
 (.block 0 (.loop (.seq (.reg [jj 15 (.bin .lss (.t 14) (.t 13))])
 (.seq (.cond (.t 15) .skip
 (.exit 0))
 (.seq (.block 2 (.seq (.reg [jm 16 14,jj 17 (.iadr 5 (.t 12) (.t 14)),jj 18 (.load 5 true (.t 17)),jj 6 (.alloc 63 [zi,zi,zi,zi,zi]),jm 5 16,jn (.store 5 (.t 6) (.t 18))])
 (.seq (.drw [0, 0, 0, 6, 14, 31]
  [jj 19 (.load 5 true (.t 6)),jm 20 1,jm 21 5,jj 22 (.iadr 5 (.t 20) (.t 21)),jj 23 (.load 5 true (.t 22)),jj 24 (.eqa true 5 [(0,some .i64),(1,some .i64),(2,some .i64),(3,some .i64),(4,some .i64)] (.t 19) (.t 23))])
 (.cond (.t 24) (.seq (.reg [jj 4 (.mov (.k (.d (.bool false))))])
 .ret)
 .skip))))
 (.reg [jj 25 (.bin .add (.t 14) (ki 1)),jm 14 25])))))))
 (.seq (.reg [jj 4 (.mov (.k (.d (.bool true))))])
 .ret))))
def rs152:List RV:=[.tmp 4]
theorem ok152:okF Tryz.prog 152=true:=by kernel_rfl
theorem cc152:cCode Tryz.prog Tryz.f152.ntmps (Tryz.f152.body.getD .skip)=some kc152:=by kernel_rfl
theorem cr152:cRess Tryz.prog Tryz.f152.results.toList=some rs152:=by kernel_rfl
def kc153:C:=
 (.reg [jm 4 0,jm 5 0,jj 6 (.len (.t 5)),jm 7 1,jj 8 (.call 183 [(.t 4),(.t 6),(.t 7)])])
def rs153:List RV:=[]
theorem ok153:okF Tryz.prog 153=true:=by kernel_rfl
theorem cc153:cCode Tryz.prog Tryz.f153.ntmps (Tryz.f153.body.getD .skip)=some kc153:=by kernel_rfl
theorem cr153:cRess Tryz.prog Tryz.f153.results.toList=some rs153:=by kernel_rfl
def kc154:C:=
  (.seq (.reg [jj 5 (.mov (ki 0))])
 (.seq (.drw [0, 1, 0, 7, 15, 31, 0, 64, 0, 448, 960, 1984, 4095, 8191]
  [jj 6 (.fadr 9 (.t 2)),jj 7 (.load 1 false (.t 6)),jm 8 0,jj 9 (.iadr 9 (.t 7) (.t 8)),jj 10 (.fadr 1 (.t 9)),jj 11 (.load 1 false (.t 10)),jj 12 (.fadr 9 (.t 2)),jj 13 (.load 1 false (.t 12)),jm 14 1,jj 15 (.iadr 9 (.t 13) (.t 14)),jj 16 (.fadr 1 (.t 15)),jj 17 (.load 1 false (.t 16)),jj 18 (.call 128 [(.t 11),(.t 17)]),jm 5 18])
 .ret))
def rs154:List RV:=[.tmp 5]
theorem ok154:okF Tryz.prog 154=true:=by kernel_rfl
theorem cc154:cCode Tryz.prog Tryz.f154.ntmps (Tryz.f154.body.getD .skip)=some kc154:=by kernel_rfl
theorem cr154:cRess Tryz.prog Tryz.f154.results.toList=some rs154:=by kernel_rfl
def kc155:C:=
  (.seq (.reg [jj 3 (.mov (ki 0)),jj 4 (.mov (.k (.d (.bool false))))])
 (.seq (.seq (.reg [jm 5 0,jj 6 (.load 1 false (.t 1)),jj 7 (.bin .sub (ki 4000000000000000000) (.t 6)),jj 8 (.bin .gtr (.t 5) (.t 7))])
 (.cond (.t 8) (.seq (.reg [jj 3 (.mov (ki 0)),jj 4 (.mov (.k (.d (.bool false))))])
 .ret)
 .skip))
 (.seq (.reg [jj 9 (.load 1 false (.t 1)),jm 10 0,jj 11 (.bin .add (.t 9) (.t 10)),jn (.store 1 (.t 1) (.t 11))])
 (.seq (.reg [jj 12 (.load 1 false (.t 1)),jm 3 12,jj 4 (.mov (.k (.d (.bool true))))])
 .ret))))
def rs155:List RV:=[.tmp 3,.tmp 4]
theorem ok155:okF Tryz.prog 155=true:=by kernel_rfl
theorem cc155:cCode Tryz.prog Tryz.f155.ntmps (Tryz.f155.body.getD .skip)=some kc155:=by kernel_rfl
theorem cr155:cRess Tryz.prog Tryz.f155.results.toList=some rs155:=by kernel_rfl
def kc156:C:=
  (.seq (.reg [jj 1 (.box 63 (.t 0)),jj 2 (.mov (.k (.d (.bool false))))])
 (.seq (.reg [jj 5 (.fadr 0 (.t 1)),jj 6 (.load 1 false (.t 5)),jj 7 (.bin .geq (.t 6) (ki 0)),jm 8 7,jg 9 8 true (.fadr 0 (.t 1)),jg 10 8 true (.load 1 false (.t 9)),jg 11 8 true (.bin .lss (.t 10) (ki 8)),jj 12 (.pick (.t 8) (.t 11) (.k (.d (.bool false)))),jm 3 12])
 (.seq (.reg [jj 13 (.fadr 4 (.t 1)),jj 14 (.load 1 false (.t 13)),jj 15 (.bin .geq (.t 14) (ki 1)),jm 16 15,jg 17 16 true (.fadr 4 (.t 1)),jg 18 16 true (.load 1 false (.t 17)),jg 19 16 true (.bin .leq (.t 18) (ki 10000)),jj 20 (.pick (.t 16) (.t 19) (.k (.d (.bool false)))),jm 4 20])
 (.seq (.reg [jm 21 3,jm 22 21,jg 23 22 true (.mov (.t 4)),jj 24 (.pick (.t 22) (.t 23) (.k (.d (.bool false)))),jm 25 24,jg 26 25 true (.fadr 3 (.t 1)),jg 27 25 true (.load 1 false (.t 26)),jg 28 25 true (.fadr 1 (.t 1)),jg 29 25 true (.load 1 false (.t 28)),jg 30 25 true (.bin .sub (.t 29) (ki 1)),jg 31 25 true (.fadr 2 (.t 1)),jg 32 25 true (.load 1 false (.t 31)),jg 33 25 true (.bin .sub (.t 32) (ki 1)),jg 34 25 true (.bslice 3 1 5 [(ki 0),(.t 27),(.t 30),(.t 33),(ki 999999999999999)]),jg 35 25 true (.call 184 [(.t 34)]),jj 36 (.pick (.t 25) (.t 35) (.k (.d (.bool false)))),jm 37 36,jg 38 37 true (.fadr 3 (.t 1)),jg 39 37 true (.load 1 false (.t 38)),jg 40 37 true (.fadr 1 (.t 1)),jg 41 37 true (.load 1 false (.t 40)),jg 42 37 true (.bin .lss (.t 39) (.t 41)),jj 43 (.pick (.t 37) (.t 42) (.k (.d (.bool false)))),jm 2 43])
 .ret))))
def rs156:List RV:=[.tmp 2]
theorem ok156:okF Tryz.prog 156=true:=by kernel_rfl
theorem cc156:cCode Tryz.prog Tryz.f156.ntmps (Tryz.f156.body.getD .skip)=some kc156:=by kernel_rfl
theorem cr156:cRess Tryz.prog Tryz.f156.results.toList=some rs156:=by kernel_rfl
def kc157:C:=
  (.seq (.reg [jj 4 (.mov (ki 0))])
 (.scope 1 (.seq .skip
 (.seq (.seq (.reg [jm 5 0,jj 6 (.len (.t 5)),jj 7 (.bin .eql (.t 6) (ki 0))])
 (.cond (.t 7) (.seq (.reg [jj 4 (.mov (ki 10000))])
 .ret)
 .skip))
 (.seq (.seq (.reg [jm 8 0,jj 9 (.iadr 2 (.t 8) (ki 0)),jj 10 (.fadr 0 (.t 9)),jj 11 (.load 1 false (.t 10)),jm 12 1,jj 13 (.bin .lss (.t 11) (.t 12))])
 (.cond (.t 13) (.seq (.reg [jm 14 0,jj 15 (.slc 2 (.t 14) (some (ki 1)) none none),jm 0 15])
 (.exit 1))
 .skip))
 (.seq (.reg [jm 16 0,jj 17 (.iadr 2 (.t 16) (ki 0)),jj 18 (.fadr 1 (.t 17)),jj 19 (.load 1 false (.t 18)),jm 4 19])
 .ret))))
 (.seq .skip
 (.seq (.seq (.reg [jm 5 0,jj 6 (.len (.t 5)),jj 7 (.bin .eql (.t 6) (ki 0))])
 (.cond (.t 7) (.seq (.reg [jj 4 (.mov (ki 10000))])
 .ret)
 .skip))
 (.seq (.seq (.reg [jm 8 0,jj 9 (.iadr 2 (.t 8) (ki 0)),jj 10 (.fadr 0 (.t 9)),jj 11 (.load 1 false (.t 10)),jm 12 1,jj 13 (.bin .lss (.t 11) (.t 12))])
 (.cond (.t 13) (.seq (.reg [jm 14 0,jj 15 (.slc 2 (.t 14) (some (ki 1)) none none),jm 0 15])
 (.exit 1))
 .skip))
 (.seq (.reg [jm 16 0,jj 17 (.iadr 2 (.t 16) (ki 0)),jj 18 (.fadr 1 (.t 17)),jj 19 (.load 1 false (.t 18)),jm 4 19])
 .ret))))))
def rs157:List RV:=[.tmp 4]
theorem ok157:okF Tryz.prog 157=true:=by kernel_rfl
theorem cc157:cCode Tryz.prog Tryz.f157.ntmps (Tryz.f157.body.getD .skip)=some kc157:=by kernel_rfl
theorem cr157:cRess Tryz.prog Tryz.f157.results.toList=some rs157:=by kernel_rfl
def kc158:C:=
  (.seq (.reg [jj 2 (.mov (.k (.d (.bool false))))])
 (.seq (.reg [jm 3 0,jj 4 (.bin .geq (.t 3) (ki 1)),jm 5 4,jg 6 5 true (.mov (.t 0)),jg 7 5 true (.bin .leq (.t 6) (ki 292194)),jj 8 (.pick (.t 5) (.t 7) (.k (.d (.bool false)))),jm 2 8])
 .ret))
def rs158:List RV:=[.tmp 2]
theorem ok158:okF Tryz.prog 158=true:=by kernel_rfl
theorem cc158:cCode Tryz.prog Tryz.f158.ntmps (Tryz.f158.body.getD .skip)=some kc158:=by kernel_rfl
theorem cr158:cRess Tryz.prog Tryz.f158.results.toList=some rs158:=by kernel_rfl
end Go.Proofs.YtanppabbmffokaaGreat
end
section
namespace Go.Proofs.YtanppabbmffokaaGreat
open Go.Bx
set_option maxRecDepth 100000
def kc165:C:=
  (.seq (.reg [jj 4 (.mov (.k (.d (.bool false))))])
 (.seq (.reg [jm 5 0,jj 6 (.call 173 [(.t 5)]),jm 7 6,jg 8 7 true (.mov (.t 1)),jg 9 7 true (.call 173 [(.t 8)]),jg 10 7 true (.inv .not (.t 9)),jj 11 (.pick (.t 7) (.t 10) (.k (.d (.bool false)))),jm 12 11,jg 13 12 false (.mov (.t 0)),jg 14 12 false (.mov (.t 1)),jg 15 12 false (.bin .lss (.t 13) (.t 14)),jj 16 (.pick (.t 12) (.k (.d (.bool true))) (.t 15)),jm 4 16])
 .ret))
def rs165:List RV:=[.tmp 4]
theorem ok165:okF Tryz.prog 165=true:=by kernel_rfl
theorem cc165:cCode Tryz.prog Tryz.f165.ntmps (Tryz.f165.body.getD .skip)=some kc165:=by kernel_rfl
theorem cr165:cRess Tryz.prog Tryz.f165.results.toList=some rs165:=by kernel_rfl
def kc169:C:=
  (.seq (.reg [jj 2 (.mov (ki 0))])
 (.seq (.seq (.reg [jm 3 0,jj 4 (.bin .geq (.t 3) (.k (.d (.int .u64 4294967296))))])
 (.cond (.t 4) (.seq (.reg [jm 5 0,jj 6 (.shf false (.t 5) (.k (.d (.int .u64 32)))),jm 0 6])
 (.reg [jj 2 (.mov (ki 32))]))
 .skip))
 (.seq (.seq (.reg [jm 7 0,jj 8 (.bin .geq (.t 7) (.k (.d (.int .u64 65536))))])
 (.cond (.t 8) (.seq (.reg [jm 9 0,jj 10 (.shf false (.t 9) (.k (.d (.int .u64 16)))),jm 0 10])
 (.reg [jm 11 2,jj 12 (.bin .add (.t 11) (ki 16)),jm 2 12]))
 .skip))
 (.seq (.seq (.reg [jm 13 0,jj 14 (.bin .geq (.t 13) (.k (.d (.int .u64 256))))])
 (.cond (.t 14) (.seq (.reg [jm 15 0,jj 16 (.shf false (.t 15) (.k (.d (.int .u64 8)))),jm 0 16])
 (.reg [jm 17 2,jj 18 (.bin .add (.t 17) (ki 8)),jm 2 18]))
 .skip))
 (.seq (.reg [jm 19 2,jm 20 0,jj 21 (.conv .u8 (.t 20)),
 ⟨some 22,none,.sidx ⟨#[0,1,2,2,3,3,3,3,4,4,4,4,4,4,4,4,5,5,5,5,5,5,5,5,5,5,5,5,5,5,5,5,6,6,6,6,6,6,6,6,6,6,6,6,6,6,6,6,6,6,6,6,6,6,6,6,6,6,6,6,6,6,6,6,7,7,7,7,7,7,7,7,7,7,7,7,7,7,7,7,7,7,7,7,7,7,7,7,7,7,7,7,7,7,7,7,7,7,7,7,7,7,7,7,7,7,7,7,7,7,7,7,7,7,7,7,7,7,7,7,7,7,7,7,7,7,7,7,8,8,8,8,8,8,8,8,8,8,8,8,8,8,8,8,8,8,8,8,8,8,8,8,8,8,8,8,8,8,8,8,8,8,8,8,8,8,8,8,8,8,8,8,8,8,8,8,8,8,8,8,8,8,8,8,8,8,8,8,8,8,8,8,8,8,8,8,8,8,8,8,8,8,8,8,8,8,8,8,8,8,8,8,8,8,8,8,8,8,8,8,8,8,8,8,8,8,8,8,8,8,8,8,8,8,8,8,8,8,8,8,8,8,8,8,8,8,8,8,8,8,8,8,8,8,8,8]⟩ (.t 21)⟩,jj 23 (.conv .i64 (.t 22)),jj 24 (.bin .add (.t 19) (.t 23)),jm 2 24])
 .ret)))))
def rs169:List RV:=[.tmp 2]
theorem ok169:okF Tryz.prog 169=true:=by kernel_rfl
theorem cc169:cCode Tryz.prog Tryz.f169.ntmps (Tryz.f169.body.getD .skip)=some kc169:=by kernel_rfl
theorem cr169:cRess Tryz.prog Tryz.f169.results.toList=some rs169:=by kernel_rfl
def kc170:C:=
  (.seq (.reg [jj 4 (.mov (ki 0)),jj 5 (.mov (.k (.d (.bool false))))])
 (.seq (.reg [jm 10 0,jj 11 (.len (.t 10)),jm 6 11])
 (.seq (.reg [jm 12 6,jj 7 (.mov (ki 0)),jm 8 12])
 (.seq (.block 0 (.loop (.seq (.seq (.reg [jm 13 7,jm 14 8,jj 15 (.bin .lss (.t 13) (.t 14))])
 (.cond (.t 15) .skip
 (.exit 0)))
 (.block 2 (.seq (.reg [jm 16 7,jm 17 8,jj 18 (.bin .add (.t 16) (.t 17)),jj 19 (.conv .u64 (.t 18)),jj 20 (.shf false (.t 19) (.k (.d (.int .u64 1)))),jj 21 (.conv .i64 (.t 20)),jm 9 21])
 (.seq (.reg [jm 22 0,jm 23 9,jj 24 (.iadr 1 (.t 22) (.t 23)),jj 25 (.load 1 false (.t 24)),jm 26 1,jj 27 (.call 165 [(.t 25),(.t 26)])])
 (.cond (.t 27) (.reg [jm 28 9,jj 29 (.bin .add (.t 28) (ki 1)),jm 7 29])
 (.reg [jm 30 9,jm 8 30]))))))))
 (.seq (.reg [jm 31 7,jm 32 7,jm 33 6,jj 34 (.bin .lss (.t 32) (.t 33)),jm 35 34,jg 36 35 true (.mov (.t 0)),jg 37 35 true (.mov (.t 7)),jg 38 35 true (.iadr 1 (.t 36) (.t 37)),jg 39 35 true (.load 1 false (.t 38)),jg 40 35 true (.mov (.t 1)),jg 41 35 true (.bin .eql (.t 39) (.t 40)),jg 42 35 true (.mov (.t 41)),jg 43 42 false (.mov (.t 0)),jg 44 42 false (.mov (.t 7)),jg 45 42 false (.iadr 1 (.t 43) (.t 44)),jg 46 42 false (.load 1 false (.t 45)),jg 47 42 false (.call 190 [(.t 46)]),jg 48 42 false (.mov (.t 47)),jg 49 48 true (.mov (.t 1)),jg 50 48 true (.call 190 [(.t 49)]),jg 51 42 false (.pick (.t 48) (.t 50) (.k (.d (.bool false)))),jg 52 35 true (.pick (.t 42) (.k (.d (.bool true))) (.t 51)),jj 53 (.pick (.t 35) (.t 52) (.k (.d (.bool false)))),jm 4 31,jm 5 53])
 .ret)))))
def rs170:List RV:=[.tmp 4,.tmp 5]
theorem ok170:okF Tryz.prog 170=true:=by kernel_rfl
theorem cc170:cCode Tryz.prog Tryz.f170.ntmps (Tryz.f170.body.getD .skip)=some kc170:=by kernel_rfl
theorem cr170:cRess Tryz.prog Tryz.f170.results.toList=some rs170:=by kernel_rfl
def kc173:C:=
  (.seq (.reg [jj 2 (.mov (.k (.d (.bool false))))])
 (.seq (.reg [jm 3 0,jm 4 0,jj 5 (.bin .neq (.t 3) (.t 4)),jm 2 5])
 .ret))
def rs173:List RV:=[.tmp 2]
theorem ok173:okF Tryz.prog 173=true:=by kernel_rfl
theorem cc173:cCode Tryz.prog Tryz.f173.ntmps (Tryz.f173.body.getD .skip)=some kc173:=by kernel_rfl
theorem cr173:cRess Tryz.prog Tryz.f173.results.toList=some rs173:=by kernel_rfl
def kc174:C:=
  (.seq (.reg [jj 3 (.mov (ki 0)),jj 4 (.mov (ki 0))])
 (.seq (.seq (.reg [jm 5 0,jj 6 (.bin .lss (.t 5) (ki 0))])
 (.cond (.t 6) (.seq (.reg [jj 3 (.mov (ki 0)),jj 4 (.mov (ki 1))])
 .ret)
 .skip))
 (.seq (.seq (.reg [jj 7 (.load 1 false (.t 1)),jm 8 0,jj 9 (.bin .add (.t 7) (.t 8)),jn (.store 1 (.t 1) (.t 9))])
 (.seq (.reg [jj 10 (.load 1 false (.t 1)),jj 11 (.bin .gtr (.t 10) (ki 4000000000000000000)),jm 12 11,jg 13 12 false (.load 1 false (.t 1)),jg 14 12 false (.bin .lss (.t 13) (ki 0)),jj 15 (.pick (.t 12) (.k (.d (.bool true))) (.t 14))])
 (.cond (.t 15) (.seq (.reg [jn (.store 1 (.t 1) (ki 4000000000000000001))])
 (.seq (.reg [jj 3 (.mov (ki 0)),jj 4 (.mov (ki 5))])
 .ret))
 .skip)))
 (.seq (.reg [jj 16 (.load 1 false (.t 1)),jm 3 16,jj 4 (.mov (ki 0))])
 .ret))))
def rs174:List RV:=[.tmp 3,.tmp 4]
theorem ok174:okF Tryz.prog 174=true:=by kernel_rfl
theorem cc174:cCode Tryz.prog Tryz.f174.ntmps (Tryz.f174.body.getD .skip)=some kc174:=by kernel_rfl
theorem cr174:cRess Tryz.prog Tryz.f174.results.toList=some rs174:=by kernel_rfl
def kc175:C:=
  (.seq (.reg [jj 0 (.alloc 214 [.d (.raw .nilFunc)])])
 (.seq (.reg [jj 1 (.build [.d (.raw .nilFunc)] [(0,1,(.k (.fn (.func 199) [] [])))]),jn (.store 1 (.t 0) (.t 1))])
 .ret))
def rs175:List RV:=[.cell 0 1 true]
theorem ok175:okF Tryz.prog 175=true:=by kernel_rfl
theorem cc175:cCode Tryz.prog Tryz.f175.ntmps (Tryz.f175.body.getD .skip)=some kc175:=by kernel_rfl
theorem cr175:cRess Tryz.prog Tryz.f175.results.toList=some rs175:=by kernel_rfl
def kc177:C:=
  (.seq (.reg [jj 4 (.mov (.k (.d (.int .u64 0)))),jj 5 (.mov (.k (.d (.int .u64 0))))])
 (.seq (.reg [jm 14 0,jj 15 (.bin .and (.t 14) (.k (.d (.int .u64 4294967295)))),jm 6 15])
 (.seq (.reg [jm 16 0,jj 17 (.shf false (.t 16) (.k (.d (.int .u64 32)))),jm 7 17])
 (.seq (.reg [jm 18 1,jj 19 (.bin .and (.t 18) (.k (.d (.int .u64 4294967295)))),jm 8 19])
 (.seq (.reg [jm 20 1,jj 21 (.shf false (.t 20) (.k (.d (.int .u64 32)))),jm 9 21])
 (.seq (.reg [jm 22 6,jm 23 8,jj 24 (.bin .mul (.t 22) (.t 23)),jm 10 24])
 (.seq (.reg [jm 25 7,jm 26 8,jj 27 (.bin .mul (.t 25) (.t 26)),jm 28 10,jj 29 (.shf false (.t 28) (.k (.d (.int .u64 32)))),jj 30 (.bin .add (.t 27) (.t 29)),jm 11 30])
 (.seq (.reg [jm 31 11,jj 32 (.bin .and (.t 31) (.k (.d (.int .u64 4294967295)))),jm 12 32])
 (.seq (.reg [jm 33 11,jj 34 (.shf false (.t 33) (.k (.d (.int .u64 32)))),jm 13 34])
 (.seq (.reg [jm 35 12,jm 36 6,jm 37 9,jj 38 (.bin .mul (.t 36) (.t 37)),jj 39 (.bin .add (.t 35) (.t 38)),jm 12 39])
 (.seq (.reg [jm 40 7,jm 41 9,jj 42 (.bin .mul (.t 40) (.t 41)),jm 43 13,jj 44 (.bin .add (.t 42) (.t 43)),jm 45 12,jj 46 (.shf false (.t 45) (.k (.d (.int .u64 32)))),jj 47 (.bin .add (.t 44) (.t 46)),jm 4 47])
 (.seq (.reg [jm 48 0,jm 49 1,jj 50 (.bin .mul (.t 48) (.t 49)),jm 5 50])
 .ret))))))))))))
def rs177:List RV:=[.tmp 4,.tmp 5]
theorem ok177:okF Tryz.prog 177=true:=by kernel_rfl
theorem cc177:cCode Tryz.prog Tryz.f177.ntmps (Tryz.f177.body.getD .skip)=some kc177:=by kernel_rfl
theorem cr177:cRess Tryz.prog Tryz.f177.results.toList=some rs177:=by kernel_rfl
def kc178:C:=
  (.seq (.reg [jj 6 (.mov (.k (.d (.bool false))))])
 (.seq (.reg [jm 7 1,jm 8 2,jm 9 1,jj 10 (.bin .sub (.t 8) (.t 9)),jj 11 (.bin .gtr (.t 7) (.t 10)),jm 12 11,jg 13 12 false (.mov (.t 1)),jg 14 12 false (.mov (.t 2)),jg 15 12 false (.mov (.t 1)),jg 16 12 false (.bin .sub (.t 14) (.t 15)),jg 17 12 false (.bin .eql (.t 13) (.t 16)),jg 18 12 false (.mov (.t 17)),jg 19 18 true (.mov (.t 0)),jg 20 18 true (.bin .rem (.t 19) (.k (.d (.int .u64 2)))),jg 21 18 true (.bin .eql (.t 20) (.k (.d (.int .u64 1)))),jg 22 12 false (.pick (.t 18) (.t 21) (.k (.d (.bool false)))),jj 23 (.pick (.t 12) (.k (.d (.bool true))) (.t 22)),jm 6 23])
 .ret))
def rs178:List RV:=[.tmp 6]
theorem ok178:okF Tryz.prog 178=true:=by kernel_rfl
theorem cc178:cCode Tryz.prog Tryz.f178.ntmps (Tryz.f178.body.getD .skip)=some kc178:=by kernel_rfl
theorem cr178:cRess Tryz.prog Tryz.f178.results.toList=some rs178:=by kernel_rfl
def kc179:C:=
  (.seq (.reg [jj 6 (.mov (.k (.d (.int .u64 0)))),jj 7 (.mov (.k (.d (.int .u64 0))))])
 (.seq (.seq (.reg [jm 19 2,jj 20 (.bin .eql (.t 19) (.k (.d (.int .u64 0))))])
 (.cond (.t 20) (.reg [jj 21 (.never),jn (.pnc (.t 21))])
 .skip))
 (.seq (.seq (.reg [jm 22 2,jm 23 0,jj 24 (.bin .leq (.t 22) (.t 23))])
 (.cond (.t 24) (.reg [jj 25 (.never),jn (.pnc (.t 25))])
 .skip))
 (.seq (.seq (.reg [jm 26 0,jj 27 (.bin .eql (.t 26) (.k (.d (.int .u64 0))))])
 (.cond (.t 27) (.seq (.drw [0, 0, 3, 0, 0, 24, 7, 127]
  [jm 28 1,jm 29 2,jj 30 (.bin .quo (.t 28) (.t 29)),jm 31 1,jm 32 2,jj 33 (.bin .rem (.t 31) (.t 32)),jm 6 30,jm 7 33])
 .ret)
 .skip))
 (.seq (.reg [jm 34 2,jj 35 (.call 200 [(.t 34)]),jj 36 (.conv .u64 (.t 35)),jm 8 36])
 (.seq (.reg [jm 37 2,jm 38 8,jj 39 (.shf true (.t 37) (.t 38)),jm 2 39])
 (.seq (.reg [jm 40 2,jj 41 (.shf false (.t 40) (.k (.d (.int .u64 32)))),jm 9 41])
 (.seq (.reg [jm 42 2,jj 43 (.bin .and (.t 42) (.k (.d (.int .u64 4294967295)))),jm 10 43])
 (.seq (.reg [jm 44 0,jm 45 8,jj 46 (.shf true (.t 44) (.t 45)),jm 47 1,jm 48 8,jj 49 (.bin .sub (.k (.d (.int .u64 64))) (.t 48)),jj 50 (.shf false (.t 47) (.t 49)),jj 51 (.bin .or (.t 46) (.t 50)),jm 11 51])
 (.seq (.reg [jm 52 1,jm 53 8,jj 54 (.shf true (.t 52) (.t 53)),jm 12 54])
 (.seq (.reg [jm 55 12,jj 56 (.shf false (.t 55) (.k (.d (.int .u64 32)))),jm 13 56])
 (.seq (.reg [jm 57 12,jj 58 (.bin .and (.t 57) (.k (.d (.int .u64 4294967295)))),jm 14 58])
 (.seq (.reg [jm 59 11,jm 60 9,jj 61 (.bin .quo (.t 59) (.t 60)),jm 15 61])
 (.seq (.reg [jm 62 11,jm 63 15,jm 64 9,jj 65 (.bin .mul (.t 63) (.t 64)),jj 66 (.bin .sub (.t 62) (.t 65)),jm 16 66])
 (.seq (.block 0 (.loop (.seq (.seq (.reg [jm 67 15,jj 68 (.bin .geq (.t 67) (.k (.d (.int .u64 4294967296)))),jm 69 68,jg 70 69 false (.mov (.t 15)),jg 71 69 false (.mov (.t 10)),jg 72 69 false (.bin .mul (.t 70) (.t 71)),jg 73 69 false (.mov (.t 16)),jg 74 69 false (.bin .mul (.k (.d (.int .u64 4294967296))) (.t 73)),jg 75 69 false (.mov (.t 13)),jg 76 69 false (.bin .add (.t 74) (.t 75)),jg 77 69 false (.bin .gtr (.t 72) (.t 76)),jj 78 (.pick (.t 69) (.k (.d (.bool true))) (.t 77))])
 (.cond (.t 78) .skip
 (.exit 0)))
 (.block 2 (.seq (.reg [jm 79 15,jj 80 (.bin .sub (.t 79) (.k (.d (.int .u64 1)))),jm 15 80])
 (.seq (.reg [jm 81 16,jm 82 9,jj 83 (.bin .add (.t 81) (.t 82)),jm 16 83])
 (.seq (.reg [jm 84 16,jj 85 (.bin .geq (.t 84) (.k (.d (.int .u64 4294967296))))])
 (.cond (.t 85) (.exit 0)
 .skip))))))))
 (.seq (.reg [jm 86 11,jj 87 (.bin .mul (.t 86) (.k (.d (.int .u64 4294967296)))),jm 88 13,jj 89 (.bin .add (.t 87) (.t 88)),jm 90 15,jm 91 2,jj 92 (.bin .mul (.t 90) (.t 91)),jj 93 (.bin .sub (.t 89) (.t 92)),jm 17 93])
 (.seq (.reg [jm 94 17,jm 95 9,jj 96 (.bin .quo (.t 94) (.t 95)),jm 18 96])
 (.seq (.reg [jm 97 17,jm 98 18,jm 99 9,jj 100 (.bin .mul (.t 98) (.t 99)),jj 101 (.bin .sub (.t 97) (.t 100)),jm 16 101])
 (.seq (.block 4 (.loop (.seq (.seq (.reg [jm 102 18,jj 103 (.bin .geq (.t 102) (.k (.d (.int .u64 4294967296)))),jm 104 103,jg 105 104 false (.mov (.t 18)),jg 106 104 false (.mov (.t 10)),jg 107 104 false (.bin .mul (.t 105) (.t 106)),jg 108 104 false (.mov (.t 16)),jg 109 104 false (.bin .mul (.k (.d (.int .u64 4294967296))) (.t 108)),jg 110 104 false (.mov (.t 14)),jg 111 104 false (.bin .add (.t 109) (.t 110)),jg 112 104 false (.bin .gtr (.t 107) (.t 111)),jj 113 (.pick (.t 104) (.k (.d (.bool true))) (.t 112))])
 (.cond (.t 113) .skip
 (.exit 4)))
 (.block 6 (.seq (.reg [jm 114 18,jj 115 (.bin .sub (.t 114) (.k (.d (.int .u64 1)))),jm 18 115])
 (.seq (.reg [jm 116 16,jm 117 9,jj 118 (.bin .add (.t 116) (.t 117)),jm 16 118])
 (.seq (.reg [jm 119 16,jj 120 (.bin .geq (.t 119) (.k (.d (.int .u64 4294967296))))])
 (.cond (.t 120) (.exit 4)
 .skip))))))))
 (.seq (.reg [jm 121 15,jj 122 (.bin .mul (.t 121) (.k (.d (.int .u64 4294967296)))),jm 123 18,jj 124 (.bin .add (.t 122) (.t 123)),jm 125 17,jj 126 (.bin .mul (.t 125) (.k (.d (.int .u64 4294967296)))),jm 127 14,jj 128 (.bin .add (.t 126) (.t 127)),jm 129 18,jm 130 2,jj 131 (.bin .mul (.t 129) (.t 130)),jj 132 (.bin .sub (.t 128) (.t 131)),jm 133 8,jj 134 (.shf false (.t 132) (.t 133)),jm 6 124,jm 7 134])
 .ret))))))))))))))))))))
def rs179:List RV:=[.tmp 6,.tmp 7]
theorem ok179:okF Tryz.prog 179=true:=by kernel_rfl
theorem cc179:cCode Tryz.prog Tryz.f179.ntmps (Tryz.f179.body.getD .skip)=some kc179:=by kernel_rfl
theorem cr179:cRess Tryz.prog Tryz.f179.results.toList=some rs179:=by kernel_rfl
def kc180:C:=
  (.seq (.reg [jj 4 (.mov (ki 0))])
 (.seq (.seq (.reg [jm 6 0,jj 7 (.len (.t 6)),jj 8 (.mov (ki 0))])
 (.block 0 (.loop (.seq (.reg [jj 9 (.bin .lss (.t 8) (.t 7))])
 (.seq (.cond (.t 9) .skip
 (.exit 0))
 (.seq (.block 2 (.seq (.reg [jm 10 8,jm 5 10])
 (.seq (.reg [jm 11 1,jm 12 0,jm 13 5,jj 14 (.iadr 1 (.t 12) (.t 13)),jj 15 (.load 1 false (.t 14)),jj 16 (.callv (.t 11) [(.t 15)])])
 (.cond (.t 16) (.seq (.reg [jm 17 5,jm 4 17])
 .ret)
 .skip))))
 (.reg [jj 18 (.bin .add (.t 8) (ki 1)),jm 8 18])))))))
 (.seq (.reg [jj 4 (.mov (.k (.d (.int .i64 (-1)))))])
 .ret)))
def rs180:List RV:=[.tmp 4]
theorem ok180:okF Tryz.prog 180=true:=by kernel_rfl
theorem cc180:cCode Tryz.prog Tryz.f180.ntmps (Tryz.f180.body.getD .skip)=some kc180:=by kernel_rfl
theorem cr180:cRess Tryz.prog Tryz.f180.results.toList=some rs180:=by kernel_rfl
theorem ok182:okF Tryz.prog 182=true:=by kernel_rfl
def kc183:C:=
  (.seq (.reg [jj 6 (.mov (ki 20))])
 (.seq (.reg [jm 10 6,jj 7 (.mov (ki 0)),jm 8 10])
 (.seq (.block 0 (.loop (.seq (.seq (.reg [jm 11 8,jm 12 1,jj 13 (.bin .leq (.t 11) (.t 12))])
 (.cond (.t 13) .skip
 (.exit 0)))
 (.block 2 (.seq (.reg [jm 14 0,jm 15 7,jm 16 8,jm 17 2,jj 18 (.call 201 [(.t 14),(.t 15),(.t 16),(.t 17)])])
 (.seq (.reg [jm 19 8,jm 7 19])
 (.reg [jm 20 8,jm 21 6,jj 22 (.bin .add (.t 20) (.t 21)),jm 8 22])))))))
 (.seq (.reg [jm 23 0,jm 24 7,jm 25 1,jm 26 2,jj 27 (.call 201 [(.t 23),(.t 24),(.t 25),(.t 26)])])
 (.block 4 (.loop (.seq (.seq (.reg [jm 28 6,jm 29 1,jj 30 (.bin .lss (.t 28) (.t 29))])
 (.cond (.t 30) .skip
 (.exit 4)))
 (.block 6 (.seq (.reg [jm 31 6,jj 32 (.bin .mul (ki 2) (.t 31)),jj 7 (.mov (ki 0)),jm 8 32])
 (.seq (.block 8 (.loop (.seq (.seq (.reg [jm 33 8,jm 34 1,jj 35 (.bin .leq (.t 33) (.t 34))])
 (.cond (.t 35) .skip
 (.exit 8)))
 (.block 10 (.seq (.reg [jm 36 0,jm 37 7,jm 38 7,jm 39 6,jj 40 (.bin .add (.t 38) (.t 39)),jm 41 8,jm 42 2,jj 43 (.call 202 [(.t 36),(.t 37),(.t 40),(.t 41),(.t 42)])])
 (.seq (.reg [jm 44 8,jm 7 44])
 (.reg [jm 45 8,jm 46 6,jj 47 (.bin .mul (ki 2) (.t 46)),jj 48 (.bin .add (.t 45) (.t 47)),jm 8 48])))))))
 (.seq (.seq (.reg [jm 49 7,jm 50 6,jj 51 (.bin .add (.t 49) (.t 50)),jm 9 51])
 (.seq (.reg [jm 52 9,jm 53 1,jj 54 (.bin .lss (.t 52) (.t 53))])
 (.cond (.t 54) (.reg [jm 55 0,jm 56 7,jm 57 9,jm 58 1,jm 59 2,jj 60 (.call 202 [(.t 55),(.t 56),(.t 57),(.t 58),(.t 59)])])
 .skip)))
 (.reg [jm 61 6,jj 62 (.bin .mul (.t 61) (ki 2)),jm 6 62]))))))))))))
def rs183:List RV:=[]
theorem ok183:okF Tryz.prog 183=true:=by kernel_rfl
theorem cc183:cCode Tryz.prog Tryz.f183.ntmps (Tryz.f183.body.getD .skip)=some kc183:=by kernel_rfl
theorem cr183:cRess Tryz.prog Tryz.f183.results.toList=some rs183:=by kernel_rfl
def kc184:C:=
  (.seq (.reg [jj 2 (.mov (.k (.d (.bool false))))])
 (.seq (.seq (.reg [jm 4 0,jj 5 (.len (.t 4)),jj 6 (.bin .sub (.t 5) (ki 1)),jm 3 6])
 (.block 0 (.loop (.seq (.seq (.reg [jm 7 3,jj 8 (.bin .gtr (.t 7) (ki 0))])
 (.cond (.t 8) .skip
 (.exit 0)))
 (.seq (.block 2 (.seq (.drw [0, 0, 3, 7, 0, 0, 32, 112, 240, 511]
  [jm 11 0,jm 12 3,jj 13 (.iadr 1 (.t 11) (.t 12)),jj 14 (.load 1 false (.t 13)),jm 15 0,jm 16 3,jj 17 (.bin .sub (.t 16) (ki 1)),jj 18 (.iadr 1 (.t 15) (.t 17)),jj 19 (.load 1 false (.t 18)),jj 20 (.call 165 [(.t 14),(.t 19)])])
 (.cond (.t 20) (.seq (.reg [jj 2 (.mov (.k (.d (.bool false))))])
 .ret)
 .skip)))
 (.reg [jm 9 3,jj 10 (.bin .sub (.t 9) (ki 1)),jm 3 10]))))))
 (.seq (.reg [jj 2 (.mov (.k (.d (.bool true))))])
 .ret)))
def rs184:List RV:=[.tmp 2]
theorem ok184:okF Tryz.prog 184=true:=by kernel_rfl
theorem cc184:cCode Tryz.prog Tryz.f184.ntmps (Tryz.f184.body.getD .skip)=some kc184:=by kernel_rfl
theorem cr184:cRess Tryz.prog Tryz.f184.results.toList=some rs184:=by kernel_rfl
def kc190:C:=
  (.seq (.reg [jj 2 (.mov (.k (.d (.bool false))))])
 (.seq (.reg [jm 3 0,jm 4 0,jj 5 (.bin .neq (.t 3) (.t 4)),jm 2 5])
 .ret))
def rs190:List RV:=[.tmp 2]
theorem ok190:okF Tryz.prog 190=true:=by kernel_rfl
theorem cc190:cCode Tryz.prog Tryz.f190.ntmps (Tryz.f190.body.getD .skip)=some kc190:=by kernel_rfl
theorem cr190:cRess Tryz.prog Tryz.f190.results.toList=some rs190:=by kernel_rfl
def kc199:C:=
  (.seq (.reg [jj 6 (.mov (.k (.d (.bool false))))])
 (.seq (.reg [jj 6 (.mov (.k (.d (.bool false))))])
 .ret))
def rs199:List RV:=[.tmp 6]
theorem ok199:okF Tryz.prog 199=true:=by kernel_rfl
theorem cc199:cCode Tryz.prog Tryz.f199.ntmps (Tryz.f199.body.getD .skip)=some kc199:=by kernel_rfl
theorem cr199:cRess Tryz.prog Tryz.f199.results.toList=some rs199:=by kernel_rfl
def kc200:C:=
  (.seq (.reg [jj 2 (.mov (ki 0))])
 (.seq (.reg [jm 3 0,jj 4 (.call 169 [(.t 3)]),jj 5 (.bin .sub (ki 64) (.t 4)),jm 2 5])
 .ret))
def rs200:List RV:=[.tmp 2]
theorem ok200:okF Tryz.prog 200=true:=by kernel_rfl
theorem cc200:cCode Tryz.prog Tryz.f200.ntmps (Tryz.f200.body.getD .skip)=some kc200:=by kernel_rfl
theorem cr200:cRess Tryz.prog Tryz.f200.results.toList=some rs200:=by kernel_rfl
def kc201:C:=
  (.seq (.reg [jm 10 1,jj 11 (.bin .add (.t 10) (ki 1)),jm 8 11])
 (.block 0 (.loop (.seq (.seq (.reg [jm 12 8,jm 13 2,jj 14 (.bin .lss (.t 12) (.t 13))])
 (.cond (.t 14) .skip
 (.exit 0)))
 (.seq (.block 2 (.seq (.reg [jm 17 8,jm 9 17])
 (.block 4 (.loop (.seq (.seq (.drw [0, 0, 3, 7, 15, 15, 15, 111, 239, 15, 15, 1039, 3599, 7695, 16383, 32767, 65535]
  [jm 18 9,jm 19 1,jj 20 (.bin .gtr (.t 18) (.t 19)),jm 21 20,jg 22 21 true (.mov (.t 3)),jg 23 21 true (.mov (.t 0)),jg 24 21 true (.mov (.t 9)),jg 25 21 true (.iadr 1 (.t 23) (.t 24)),jg 26 21 true (.load 1 false (.t 25)),jg 27 21 true (.mov (.t 0)),jg 28 21 true (.mov (.t 9)),jg 29 21 true (.bin .sub (.t 28) (ki 1)),jg 30 21 true (.iadr 1 (.t 27) (.t 29)),jg 31 21 true (.load 1 false (.t 30)),jg 32 21 true (.callv (.t 22) [(.t 26),(.t 31)]),jg 33 21 true (.bin .lss (.t 32) (ki 0)),jj 34 (.pick (.t 21) (.t 33) (.k (.d (.bool false))))])
 (.cond (.t 34) .skip
 (.exit 4)))
 (.seq (.block 6 (.drw [0, 0, 0, 0, 8, 0, 0, 64, 224, 480, 0, 0, 3072, 7168, 16355, 32739, 65535, 131071]
  [jm 37 0,jm 38 9,jm 39 0,jm 40 9,jj 41 (.bin .sub (.t 40) (ki 1)),jm 42 0,jm 43 9,jj 44 (.bin .sub (.t 43) (ki 1)),jj 45 (.iadr 1 (.t 42) (.t 44)),jj 46 (.load 1 false (.t 45)),jm 47 0,jm 48 9,jj 49 (.iadr 1 (.t 47) (.t 48)),jj 50 (.load 1 false (.t 49)),jj 51 (.iadr 1 (.t 37) (.t 38)),jn (.store 1 (.t 51) (.t 46)),jj 52 (.iadr 1 (.t 39) (.t 41)),jn (.store 1 (.t 52) (.t 50))]))
 (.reg [jm 35 9,jj 36 (.bin .sub (.t 35) (ki 1)),jm 9 36])))))))
 (.reg [jm 15 8,jj 16 (.bin .add (.t 15) (ki 1)),jm 8 16]))))))
def rs201:List RV:=[]
theorem ok201:okF Tryz.prog 201=true:=by kernel_rfl
theorem cc201:cCode Tryz.prog Tryz.f201.ntmps (Tryz.f201.body.getD .skip)=some kc201:=by kernel_rfl
theorem cr201:cRess Tryz.prog Tryz.f201.results.toList=some rs201:=by kernel_rfl
end Go.Proofs.YtanppabbmffokaaGreat
end
section
namespace Go.Proofs.YtanppabbmffokaaGreat
open Go.Bx
set_option maxRecDepth 100000
def kc202:C:=
  (.seq (.seq (.reg [jm 25 2,jm 26 1,jj 27 (.bin .sub (.t 25) (.t 26)),jj 28 (.bin .eql (.t 27) (ki 1))])
 (.cond (.t 28) (.seq (.reg [jm 29 2,jm 10 29])
 (.seq (.reg [jm 30 3,jm 11 30])
 (.seq (.block 0 (.loop (.seq (.seq (.reg [jm 31 10,jm 32 11,jj 33 (.bin .lss (.t 31) (.t 32))])
 (.cond (.t 33) .skip
 (.exit 0)))
 (.block 2 (.seq (.reg [jm 34 10,jm 35 11,jj 36 (.bin .add (.t 34) (.t 35)),jj 37 (.conv .u64 (.t 36)),jj 38 (.shf false (.t 37) (.k (.d (.int .u64 1)))),jj 39 (.conv .i64 (.t 38)),jm 12 39])
 (.seq (.drw [0, 0, 0, 6, 14, 0, 0, 96, 224, 511, 1023]
  [jm 40 4,jm 41 0,jm 42 12,jj 43 (.iadr 1 (.t 41) (.t 42)),jj 44 (.load 1 false (.t 43)),jm 45 0,jm 46 1,jj 47 (.iadr 1 (.t 45) (.t 46)),jj 48 (.load 1 false (.t 47)),jj 49 (.callv (.t 40) [(.t 44),(.t 48)]),jj 50 (.bin .lss (.t 49) (ki 0))])
 (.cond (.t 50) (.reg [jm 51 12,jj 52 (.bin .add (.t 51) (ki 1)),jm 10 52])
 (.reg [jm 53 12,jm 11 53]))))))))
 (.seq (.seq (.reg [jm 54 1,jm 13 54])
 (.block 4 (.loop (.seq (.seq (.reg [jm 55 13,jm 56 10,jj 57 (.bin .sub (.t 56) (ki 1)),jj 58 (.bin .lss (.t 55) (.t 57))])
 (.cond (.t 58) .skip
 (.exit 4)))
 (.seq (.block 6 (.drw [0, 0, 0, 0, 8, 0, 0, 64, 224, 480, 0, 0, 3072, 7168, 16355, 32739, 65535, 131071]
  [jm 61 0,jm 62 13,jm 63 0,jm 64 13,jj 65 (.bin .add (.t 64) (ki 1)),jm 66 0,jm 67 13,jj 68 (.bin .add (.t 67) (ki 1)),jj 69 (.iadr 1 (.t 66) (.t 68)),jj 70 (.load 1 false (.t 69)),jm 71 0,jm 72 13,jj 73 (.iadr 1 (.t 71) (.t 72)),jj 74 (.load 1 false (.t 73)),jj 75 (.iadr 1 (.t 61) (.t 62)),jn (.store 1 (.t 75) (.t 70)),jj 76 (.iadr 1 (.t 63) (.t 65)),jn (.store 1 (.t 76) (.t 74))]))
 (.reg [jm 59 13,jj 60 (.bin .add (.t 59) (ki 1)),jm 13 60]))))))
 .ret))))
 .skip))
 (.seq (.seq (.reg [jm 77 3,jm 78 2,jj 79 (.bin .sub (.t 77) (.t 78)),jj 80 (.bin .eql (.t 79) (ki 1))])
 (.cond (.t 80) (.seq (.reg [jm 81 1,jm 14 81])
 (.seq (.reg [jm 82 2,jm 15 82])
 (.seq (.block 8 (.loop (.seq (.seq (.reg [jm 83 14,jm 84 15,jj 85 (.bin .lss (.t 83) (.t 84))])
 (.cond (.t 85) .skip
 (.exit 8)))
 (.block 10 (.seq (.reg [jm 86 14,jm 87 15,jj 88 (.bin .add (.t 86) (.t 87)),jj 89 (.conv .u64 (.t 88)),jj 90 (.shf false (.t 89) (.k (.d (.int .u64 1)))),jj 91 (.conv .i64 (.t 90)),jm 16 91])
 (.seq (.drw [0, 0, 0, 6, 14, 0, 0, 96, 224, 511, 1023, 2047]
  [jm 92 4,jm 93 0,jm 94 2,jj 95 (.iadr 1 (.t 93) (.t 94)),jj 96 (.load 1 false (.t 95)),jm 97 0,jm 98 16,jj 99 (.iadr 1 (.t 97) (.t 98)),jj 100 (.load 1 false (.t 99)),jj 101 (.callv (.t 92) [(.t 96),(.t 100)]),jj 102 (.bin .lss (.t 101) (ki 0)),jj 103 (.inv .not (.t 102))])
 (.cond (.t 103) (.reg [jm 104 16,jj 105 (.bin .add (.t 104) (ki 1)),jm 14 105])
 (.reg [jm 106 16,jm 15 106]))))))))
 (.seq (.seq (.reg [jm 107 2,jm 17 107])
 (.block 12 (.loop (.seq (.seq (.reg [jm 108 17,jm 109 14,jj 110 (.bin .gtr (.t 108) (.t 109))])
 (.cond (.t 110) .skip
 (.exit 12)))
 (.seq (.block 14 (.drw [0, 0, 0, 0, 8, 0, 0, 64, 224, 480, 0, 0, 3072, 7168, 16355, 32739, 65535, 131071]
  [jm 113 0,jm 114 17,jm 115 0,jm 116 17,jj 117 (.bin .sub (.t 116) (ki 1)),jm 118 0,jm 119 17,jj 120 (.bin .sub (.t 119) (ki 1)),jj 121 (.iadr 1 (.t 118) (.t 120)),jj 122 (.load 1 false (.t 121)),jm 123 0,jm 124 17,jj 125 (.iadr 1 (.t 123) (.t 124)),jj 126 (.load 1 false (.t 125)),jj 127 (.iadr 1 (.t 113) (.t 114)),jn (.store 1 (.t 127) (.t 122)),jj 128 (.iadr 1 (.t 115) (.t 117)),jn (.store 1 (.t 128) (.t 126))]))
 (.reg [jm 111 17,jj 112 (.bin .sub (.t 111) (ki 1)),jm 17 112]))))))
 .ret))))
 .skip))
 (.seq (.reg [jm 129 1,jm 130 3,jj 131 (.bin .add (.t 129) (.t 130)),jj 132 (.conv .u64 (.t 131)),jj 133 (.shf false (.t 132) (.k (.d (.int .u64 1)))),jj 134 (.conv .i64 (.t 133)),jm 18 134])
 (.seq (.reg [jm 135 18,jm 136 2,jj 137 (.bin .add (.t 135) (.t 136)),jm 19 137])
 (.seq (.reg [jj 20 (.mov (ki 0)),jj 21 (.mov (ki 0))])
 (.seq (.seq (.reg [jm 138 2,jm 139 18,jj 140 (.bin .gtr (.t 138) (.t 139))])
 (.cond (.t 140) (.seq (.reg [jm 141 19,jm 142 3,jj 143 (.bin .sub (.t 141) (.t 142)),jm 20 143])
 (.reg [jm 144 18,jm 21 144]))
 (.seq (.reg [jm 145 1,jm 20 145])
 (.reg [jm 146 2,jm 21 146]))))
 (.seq (.reg [jm 147 19,jj 148 (.bin .sub (.t 147) (ki 1)),jm 22 148])
 (.seq (.block 16 (.loop (.seq (.seq (.reg [jm 149 20,jm 150 21,jj 151 (.bin .lss (.t 149) (.t 150))])
 (.cond (.t 151) .skip
 (.exit 16)))
 (.block 18 (.seq (.reg [jm 152 20,jm 153 21,jj 154 (.bin .add (.t 152) (.t 153)),jj 155 (.conv .u64 (.t 154)),jj 156 (.shf false (.t 155) (.k (.d (.int .u64 1)))),jj 157 (.conv .i64 (.t 156)),jm 23 157])
 (.seq (.drw [0, 0, 0, 0, 12, 30, 62, 0, 0, 384, 896, 2047, 4095, 8191]
  [jm 158 4,jm 159 0,jm 160 22,jm 161 23,jj 162 (.bin .sub (.t 160) (.t 161)),jj 163 (.iadr 1 (.t 159) (.t 162)),jj 164 (.load 1 false (.t 163)),jm 165 0,jm 166 23,jj 167 (.iadr 1 (.t 165) (.t 166)),jj 168 (.load 1 false (.t 167)),jj 169 (.callv (.t 158) [(.t 164),(.t 168)]),jj 170 (.bin .lss (.t 169) (ki 0)),jj 171 (.inv .not (.t 170))])
 (.cond (.t 171) (.reg [jm 172 23,jj 173 (.bin .add (.t 172) (ki 1)),jm 20 173])
 (.reg [jm 174 23,jm 21 174]))))))))
 (.seq (.reg [jm 175 19,jm 176 20,jj 177 (.bin .sub (.t 175) (.t 176)),jm 24 177])
 (.seq (.seq (.reg [jm 178 20,jm 179 2,jj 180 (.bin .lss (.t 178) (.t 179)),jm 181 180,jg 182 181 true (.mov (.t 2)),jg 183 181 true (.mov (.t 24)),jg 184 181 true (.bin .lss (.t 182) (.t 183)),jj 185 (.pick (.t 181) (.t 184) (.k (.d (.bool false))))])
 (.cond (.t 185) (.reg [jm 186 0,jm 187 20,jm 188 2,jm 189 24,jm 190 4,jj 191 (.call 207 [(.t 186),(.t 187),(.t 188),(.t 189),(.t 190)])])
 .skip))
 (.seq (.seq (.reg [jm 192 1,jm 193 20,jj 194 (.bin .lss (.t 192) (.t 193)),jm 195 194,jg 196 195 true (.mov (.t 20)),jg 197 195 true (.mov (.t 18)),jg 198 195 true (.bin .lss (.t 196) (.t 197)),jj 199 (.pick (.t 195) (.t 198) (.k (.d (.bool false))))])
 (.cond (.t 199) (.reg [jm 200 0,jm 201 1,jm 202 20,jm 203 18,jm 204 4,jj 205 (.call 202 [(.t 200),(.t 201),(.t 202),(.t 203),(.t 204)])])
 .skip))
 (.seq (.reg [jm 206 18,jm 207 24,jj 208 (.bin .lss (.t 206) (.t 207)),jm 209 208,jg 210 209 true (.mov (.t 24)),jg 211 209 true (.mov (.t 3)),jg 212 209 true (.bin .lss (.t 210) (.t 211)),jj 213 (.pick (.t 209) (.t 212) (.k (.d (.bool false))))])
 (.cond (.t 213) (.reg [jm 214 0,jm 215 18,jm 216 24,jm 217 3,jm 218 4,jj 219 (.call 202 [(.t 214),(.t 215),(.t 216),(.t 217),(.t 218)])])
 .skip)))))))))))))
def rs202:List RV:=[]
theorem ok202:okF Tryz.prog 202=true:=by kernel_rfl
theorem cc202:cCode Tryz.prog Tryz.f202.ntmps (Tryz.f202.body.getD .skip)=some kc202:=by kernel_rfl
theorem cr202:cRess Tryz.prog Tryz.f202.results.toList=some rs202:=by kernel_rfl
def kc207:C:=
  (.seq (.reg [jm 12 2,jm 13 1,jj 14 (.bin .sub (.t 12) (.t 13)),jm 10 14])
 (.seq (.reg [jm 15 3,jm 16 2,jj 17 (.bin .sub (.t 15) (.t 16)),jm 11 17])
 (.seq (.block 0 (.loop (.seq (.seq (.reg [jm 18 10,jm 19 11,jj 20 (.bin .neq (.t 18) (.t 19))])
 (.cond (.t 20) .skip
 (.exit 0)))
 (.block 2 (.seq (.reg [jm 21 10,jm 22 11,jj 23 (.bin .gtr (.t 21) (.t 22))])
 (.cond (.t 23) (.seq (.reg [jm 24 0,jm 25 2,jm 26 10,jj 27 (.bin .sub (.t 25) (.t 26)),jm 28 2,jm 29 11,jm 30 4,jj 31 (.call 209 [(.t 24),(.t 27),(.t 28),(.t 29),(.t 30)])])
 (.reg [jm 32 10,jm 33 11,jj 34 (.bin .sub (.t 32) (.t 33)),jm 10 34]))
 (.seq (.reg [jm 35 0,jm 36 2,jm 37 10,jj 38 (.bin .sub (.t 36) (.t 37)),jm 39 2,jm 40 11,jj 41 (.bin .add (.t 39) (.t 40)),jm 42 10,jj 43 (.bin .sub (.t 41) (.t 42)),jm 44 10,jm 45 4,jj 46 (.call 209 [(.t 35),(.t 38),(.t 43),(.t 44),(.t 45)])])
 (.reg [jm 47 11,jm 48 10,jj 49 (.bin .sub (.t 47) (.t 48)),jm 11 49]))))))))
 (.reg [jm 50 0,jm 51 2,jm 52 10,jj 53 (.bin .sub (.t 51) (.t 52)),jm 54 2,jm 55 10,jm 56 4,jj 57 (.call 209 [(.t 50),(.t 53),(.t 54),(.t 55),(.t 56)])]))))
def rs207:List RV:=[]
theorem ok207:okF Tryz.prog 207=true:=by kernel_rfl
theorem cc207:cCode Tryz.prog Tryz.f207.ntmps (Tryz.f207.body.getD .skip)=some kc207:=by kernel_rfl
theorem cr207:cRess Tryz.prog Tryz.f207.results.toList=some rs207:=by kernel_rfl
def kc209:C:=
  (.seq (.reg [jj 10 (.mov (ki 0))])
 (.block 0 (.loop (.seq (.seq (.reg [jm 11 10,jm 12 3,jj 13 (.bin .lss (.t 11) (.t 12))])
 (.cond (.t 13) .skip
 (.exit 0)))
 (.seq (.block 2 (.drw [0, 0, 0, 6, 0, 0, 0, 96, 0, 0, 0, 1536, 3840, 7936, 0, 0, 0, 98304, 245760, 507904, 1048335, 2096911, 4194303, 8388607]
  [jm 16 0,jm 17 1,jm 18 10,jj 19 (.bin .add (.t 17) (.t 18)),jm 20 0,jm 21 2,jm 22 10,jj 23 (.bin .add (.t 21) (.t 22)),jm 24 0,jm 25 2,jm 26 10,jj 27 (.bin .add (.t 25) (.t 26)),jj 28 (.iadr 1 (.t 24) (.t 27)),jj 29 (.load 1 false (.t 28)),jm 30 0,jm 31 1,jm 32 10,jj 33 (.bin .add (.t 31) (.t 32)),jj 34 (.iadr 1 (.t 30) (.t 33)),jj 35 (.load 1 false (.t 34)),jj 36 (.iadr 1 (.t 16) (.t 19)),jn (.store 1 (.t 36) (.t 29)),jj 37 (.iadr 1 (.t 20) (.t 23)),jn (.store 1 (.t 37) (.t 35))]))
 (.reg [jm 14 10,jj 15 (.bin .add (.t 14) (ki 1)),jm 10 15]))))))
def rs209:List RV:=[]
theorem ok209:okF Tryz.prog 209=true:=by kernel_rfl
theorem cc209:cCode Tryz.prog Tryz.f209.ntmps (Tryz.f209.body.getD .skip)=some kc209:=by kernel_rfl
theorem cr209:cRess Tryz.prog Tryz.f209.results.toList=some rs209:=by kernel_rfl
end Go.Proofs.YtanppabbmffokaaGreat
end
section
namespace Go.Proofs.YtanppabbmffokaaGreat
def I64 (n:Int):Prop:=-9223372036854775808≤n∧n≤9223372036854775807
end Go.Proofs.YtanppabbmffokaaGreat
end
section
namespace Go.Proofs.YtanppabbmffokaaGreat
open Go.ChangeShapes Go.WideShapes Go.ChangeAt Go.RowKit Go.Bx
theorem Tryz.own:ownKnob Tryz.prog.godebug=none:=by kernel_rfl
theorem Tryz.laidOut:laidOutB Tryz.prog=true:=by kernel_rfl
theorem wf_i64 {n:Int} (h:(Lit.int .i64 n).wf=true):I64 n:=by
 simp only [Lit.wf,Bool.and_eq_true,decide_eq_true_eq] at h
 have e1:IntKind.i64.min=-9223372036854775808:=by decide +kernel
 have e2:IntKind.i64.max=9223372036854775807:=by decide +kernel
 unfold I64;omega
theorem int_reads:Reads Tryz.prog 3 1 (fun n:Int=>[.int .i64 n]) I64:=
 (Reads.int Tryz.underlying3 (by kernel_rfl)).map id _ _ (fun _=>rfl) (fun _=>rfl) (fun _ h=>wf_i64 h)
end Go.Proofs.YtanppabbmffokaaGreat
end
section
namespace Go.Proofs.YtanppabbmffokaaGreat
open Go.Bx
section
variable {X:Type} (lt:X→X→Bool)
structure Swo:Prop where
 asy:∀ a b,lt a b=true→lt b a=false
 nt:∀ a b c,lt a b=false→lt b c=false→lt a c=false
def Srt (l:List X):Prop:=l.Pairwise (fun x y=>lt y x=false)
def mrg:List X→List X→List X
 |[],B=>B
 |a::A,[]=>a::A
 |a::A,b::B=>if lt b a=true then b::mrg (a::A) B else a::mrg A (b::B)
termination_by a b=>a.length+b.length
theorem mrg_nil (A:List X):mrg lt A []=A:=by cases A<;>simp [mrg]
theorem mrg_nil2 (B:List X):mrg lt [] B=B:=by simp [mrg]
theorem mrg_split:∀ (A1 B1 A2 B2:List X),(∀ b,b∈B1→∀ a,a∈A2→lt b a=true)→(∀ a,a∈A1→∀ b,b∈B2→lt b a=false)→mrg lt (A1++A2) (B1++B2)=mrg lt A1 B1++mrg lt A2 B2
 |[],[],A2,B2,_,_=>by rw [mrg_nil2];rfl
 |[],b::B1,[],B2,_,_=>by simp [mrg_nil2]
 |[],b::B1,a::A2,B2,h1,h2=>by
  have:=mrg_split [] B1 (a::A2) B2 (fun b hb a ha=>h1 b (by simp [hb]) a ha) (fun a ha=>by simp at ha)
  rw [List.nil_append,mrg_nil2] at this
  rw [List.nil_append,mrg_nil2,List.cons_append,mrg,if_pos (h1 b (by simp) a (by simp)),this,List.cons_append]
 |a::A1,[],A2,[],_,_=>by rw [List.append_nil,mrg_nil,mrg_nil,mrg_nil]
 |a::A1,[],A2,b::B2,h1,h2=>by
  have:=mrg_split A1 [] A2 (b::B2) (fun b hb=>by simp at hb) (fun a ha b hb=>h2 a (by simp [ha]) b hb)
  rw [List.nil_append,mrg_nil] at this
  rw [List.nil_append,mrg_nil,List.cons_append,mrg,if_neg (by rw [h2 a (by simp) b (by simp)];simp),this,List.cons_append]
 |a::A1,b::B1,A2,B2,h1,h2=>by
  rw [List.cons_append,List.cons_append,mrg,mrg]
  by_cases h:lt b a=true
  ·rw [if_pos h,if_pos h,List.cons_append]
   have:=mrg_split (a::A1) B1 A2 B2 (fun b hb a ha=>h1 b (by simp [hb]) a ha) h2
   rw [List.cons_append] at this
   rw [this]
  ·rw [if_neg h,if_neg h,List.cons_append]
   have:=mrg_split A1 (b::B1) A2 B2 h1 (fun a ha b hb=>h2 a (by simp [ha]) b hb)
   rw [List.cons_append] at this
   rw [this]
termination_by A1 B1=>A1.length+B1.length
theorem mrg_perm:∀ (A B:List X),(mrg lt A B).Perm (A++B)
 |[],B=>by rw [mrg_nil2];exact List.Perm.refl _
 |a::A,[]=>by rw [mrg_nil];simp
 |a::A,b::B=>by
  rw [mrg]
  split
  ·exact ((List.Perm.cons b (mrg_perm (a::A) B))).trans (List.perm_middle (l₁:=a::A) (a:=b) (l₂:=B)).symm
  ·exact List.Perm.cons a (mrg_perm A (b::B))
termination_by A B=>A.length+B.length
theorem mrg_len (A B:List X):(mrg lt A B).length=A.length+B.length:=by have:=(mrg_perm lt A B).length_eq;simpa using this
variable {lt}
theorem mrg_sorted (w:Swo lt):∀ (A B:List X),Srt lt A→Srt lt B→Srt lt (mrg lt A B)
 |[],B,_,hB=>by rw [mrg_nil2];exact hB
 |a::A,[],hA,_=>by rw [mrg_nil];exact hA
 |a::A,b::B,hA,hB=>by
  have hA':=List.pairwise_cons.1 hA
  have hB':=List.pairwise_cons.1 hB
  rw [mrg]
  split
  ·rename_i h
   refine List.pairwise_cons.2 ⟨fun z hz=>?_,mrg_sorted w (a::A) B hA hB'.2⟩
   rcases List.mem_append.1 ((mrg_perm lt (a::A) B).mem_iff.1 hz) with h1|h1
   ·have hab:=w.asy b a h
    rcases List.mem_cons.1 h1 with rfl|h1
    ·exact hab
    ·exact w.nt z a b (hA'.1 z h1) hab
   ·exact hB'.1 z h1
  ·rename_i h
   have h:lt b a=false:=by simpa using h
   refine List.pairwise_cons.2 ⟨fun z hz=>?_,mrg_sorted w A (b::B) hA'.2 hB⟩
   rcases List.mem_append.1 ((mrg_perm lt A (b::B)).mem_iff.1 hz) with h1|h1
   ·exact hA'.1 z h1
   ·rcases List.mem_cons.1 h1 with rfl|h1
    ·exact h
    ·exact w.nt z b a (hB'.1 z h1) h
termination_by A B=>A.length+B.length
theorem mrg_one_lo {A:List X} {b:X} (h:∀ a,a∈A→lt b a=true):mrg lt A [b]=b::A:=by
 cases A with
 |nil=>rw [mrg_nil2]
 |cons a A=>rw [mrg,if_pos (h a (by simp)),mrg_nil]
theorem mrg_ins1 {A1 A2:List X} {b:X} (h1:∀ a,a∈A2→lt b a=true) (h2:∀ a,a∈A1→lt b a=false):mrg lt (A1++A2) [b]=A1++b::A2:=by
 have:=mrg_split lt A1 [] A2 [b] (fun b hb=>by simp at hb) (fun a ha c hc=>by simp at hc;subst hc;exact h2 a ha)
 rw [List.nil_append,mrg_nil,mrg_one_lo h1] at this
 exact this
theorem mrg_assoc (w:Swo lt):∀ (A B C:List X),Srt lt A→Srt lt B→Srt lt C→mrg lt (mrg lt A B) C=mrg lt A (mrg lt B C)
 |[],B,C,_,_,_=>by rw [mrg_nil2,mrg_nil2]
 |a::A,[],C,_,_,_=>by rw [mrg_nil,mrg_nil2]
 |a::A,b::B,[],_,_,_=>by rw [mrg_nil,mrg_nil]
 |a::A,b::B,c::C,hA,hB,hC=>by
  have hA':=List.pairwise_cons.1 hA
  have hB':=List.pairwise_cons.1 hB
  have hC':=List.pairwise_cons.1 hC
  by_cases h1:lt b a=true
  ·have e1:mrg lt (a::A) (b::B)=b::mrg lt (a::A) B:=by rw [mrg,if_pos h1]
   by_cases h2:lt c b=true
   ·have e2:mrg lt (b::B) (c::C)=c::mrg lt (b::B) C:=by rw [mrg,if_pos h2]
    have hca:lt c a=true:=by
     cases h:lt c a with
     |true=>rfl
     |false=>have:=w.nt c a b h (w.asy b a h1);rw [h2] at this;cases this
    rw [e1,e2,mrg,if_pos h2,mrg,if_pos hca,←e1,mrg_assoc w (a::A) (b::B) C hA hB hC'.2]
   ·have e2:mrg lt (b::B) (c::C)=b::mrg lt B (c::C):=by rw [mrg,if_neg h2]
    rw [e1,e2,mrg,if_neg h2,mrg,if_pos h1,mrg_assoc w (a::A) B (c::C) hA hB'.2 hC]
  ·have e1:mrg lt (a::A) (b::B)=a::mrg lt A (b::B):=by rw [mrg,if_neg h1]
   by_cases h2:lt c b=true
   ·have e2:mrg lt (b::B) (c::C)=c::mrg lt (b::B) C:=by rw [mrg,if_pos h2]
    by_cases h3:lt c a=true
    ·rw [e1,e2,mrg,if_pos h3,mrg,if_pos h3,←e1,mrg_assoc w (a::A) (b::B) C hA hB hC'.2]
    ·rw [e1,e2,mrg,if_neg h3,mrg,if_neg h3,←e2,mrg_assoc w A (b::B) (c::C) hA'.2 hB hC]
   ·have e2:mrg lt (b::B) (c::C)=b::mrg lt B (c::C):=by rw [mrg,if_neg h2]
    have h1':lt b a=false:=by simpa using h1
    have h2':lt c b=false:=by simpa using h2
    have hca:¬ lt c a=true:=by rw [w.nt c b a h2' h1'];simp
    rw [e1,e2,mrg,if_neg hca,mrg,if_neg h1,←e2,mrg_assoc w A (b::B) (c::C) hA'.2 hB hC]
termination_by A B C=>A.length+B.length+C.length
variable (lt)
def srt:List X→List X→List X
 |S,[]=>S
 |S,e::M=>srt (mrg lt S [e]) M
variable {lt}
theorem srt_sorted (w:Swo lt):∀ (M S:List X),Srt lt S→Srt lt (srt lt S M)
 |[],S,h=>h
 |e::M,S,h=>by rw [srt];exact srt_sorted w M _ (mrg_sorted w S [e] h (List.pairwise_singleton _ _))
theorem srt_mrg (w:Swo lt):∀ (M S:List X),Srt lt S→srt lt S M=mrg lt S (srt lt [] M)
 |[],S,_=>by rw [srt,srt,mrg_nil]
 |e::M,S,h=>by
  have h1:Srt lt [e]:=List.pairwise_singleton _ _
  rw [srt,srt,mrg_nil2,srt_mrg w M _ (mrg_sorted w S [e] h h1),srt_mrg w M [e] h1,mrg_assoc w S [e] _ h h1 (srt_sorted w M [] List.Pairwise.nil)]
theorem srt_app (lt:X→X→Bool):∀ (M N S:List X),srt lt S (M++N)=srt lt (srt lt S M) N
 |[],N,S=>rfl
 |e::M,N,S=>by rw [List.cons_append,srt,srt,srt_app lt M N]
theorem srt_two (w:Swo lt) (M N:List X):mrg lt (srt lt [] M) (srt lt [] N)=srt lt [] (M++N):=by
 rw [srt_app,srt_mrg w N _ (srt_sorted w M [] List.Pairwise.nil)]
theorem srt_perm (lt:X→X→Bool):∀ (M S:List X),(srt lt S M).Perm (S++M)
 |[],S=>by rw [srt];simp
 |e::M,S=>by
  rw [srt]
  refine (srt_perm lt M _).trans ((List.Perm.append_right M (mrg_perm lt S [e])).trans ?_)
  rw [List.append_assoc];exact List.Perm.refl _
theorem srt_len (lt:X→X→Bool) (M S:List X):(srt lt S M).length=S.length+M.length:=by have:=(srt_perm lt M S).length_eq;simpa using this
end
section
variable {X:Type} (d:X)
def swq (l:List X) (i j:Nat):List X:=(l.set i (l.getD j d)).set j (l.getD i d)
theorem swq_len (l:List X) (i j:Nat):(swq d l i j).length=l.length:=by simp [swq]
theorem swq_get {l:List X} {i j:Nat} (hi:i<l.length) (hj:j<l.length) (m:Nat):(swq d l i j).getD m d=if m=j then l.getD i d else if m=i then l.getD j d else l.getD m d:=by
 simp only [swq,List.getD_eq_getElem?_getD,List.getElem?_set,List.length_set]
 by_cases h1:j=m
 ·subst h1;simp [hj]
 ·have h1':¬ m=j:=fun e=>h1 e.symm
  rw [if_neg h1,if_neg h1']
  by_cases h2:i=m
  ·subst h2;simp [hi]
  ·have h2':¬ m=i:=fun e=>h2 e.symm
   rw [if_neg h2,if_neg h2']
theorem getD_mid (u:List X) (p:X) (w:List X):(u++p::w).getD u.length d=p:=by rw [List.getD_eq_getElem?_getD,List.getElem?_append_right (Nat.le_refl _)];simp
theorem set_mid (u:List X) (p q:X) (w:List X):(u++p::w).set u.length q=u++q::w:=by rw [List.set_append_right _ _ (Nat.le_refl _)];simp
theorem swq_at (u:List X) (p:X) (v:List X) (q:X) (w:List X) {i j:Nat} (hi:i=u.length) (hj:j=u.length+1+v.length):swq d (u++p::(v++q::w)) i j=u++q::(v++p::w):=by
 subst hi;subst hj
 have e:u++p::(v++q::w)=(u++p::v)++q::w:=by simp
 have hl:u.length+1+v.length=(u++p::v).length:=by simp;omega
 have g1:(u++p::(v++q::w)).getD (u.length+1+v.length) d=q:=by rw [e,hl];exact getD_mid d _ _ _
 have g2:(u++p::(v++q::w)).getD u.length d=p:=getD_mid d _ _ _
 have hl2:u.length+1+v.length=(u++q::v).length:=by simp;omega
 rw [swq,g1,g2,set_mid]
 have e2:u++q::(v++q::w)=(u++q::v)++q::w:=by simp
 rw [e2,hl2,set_mid];simp
theorem swq_next (u:List X) (p q:X) (w:List X) {i j:Nat} (hi:i=u.length) (hj:j=u.length+1):swq d (u++p::q::w) i j=u++q::p::w:=swq_at d u p [] q w hi (by simpa using hj)
theorem swq_next' (u:List X) (p q:X) (w:List X) {i j:Nat} (hi:i=u.length+1) (hj:j=u.length):swq d (u++p::q::w) i j=u++q::p::w:=by
 have h:=swq_next d u p q w hj hi
 rw [←h]
 unfold swq
 by_cases e:i=j
 ·omega
 ·rw [List.set_comm _ _ e]
end
end Go.Proofs.YtanppabbmffokaaGreat
end
section
namespace Go.Proofs.YtanppabbmffokaaGreat
open Go.Bx
section
variable {X:Type} (d:X)
def blkq (l:List X) (a b n:Nat):List X:=(List.range l.length).map fun m=>if a≤m∧m<a+n then l.getD (m-a+b) d else if b≤m∧m<b+n then l.getD (m-b+a) d else l.getD m d
theorem blkq_len (l:List X) (a b n:Nat):(blkq d l a b n).length=l.length:=by simp [blkq]
theorem blkq_get {l:List X} {a b n m:Nat} (h:m<l.length):(blkq d l a b n).getD m d=if a≤m∧m<a+n then l.getD (m-a+b) d else if b≤m∧m<b+n then l.getD (m-b+a) d else l.getD m d:=by
 simp [blkq,List.getD_eq_getElem?_getD,h]
theorem ext_getD {l m:List X} (h:l.length=m.length) (hg:∀ i,i<l.length→l.getD i d=m.getD i d):l=m:=by
 apply List.ext_getElem h
 intro i h1 h2
 have:=hg i h1
 simpa [List.getD_eq_getElem?_getD,h1,h2] using this
theorem blkq_zero (l:List X) (a b:Nat):blkq d l a b 0=l:=by
 refine ext_getD d (blkq_len _ _ _ _ _) fun i hi=>?_
 rw [blkq_len] at hi
 rw [blkq_get d hi,if_neg (by omega),if_neg (by omega)]
theorem blkq_step {l:List X} {a b k:Nat} (h1:a+k<b) (h2:b+k<l.length):swq d (blkq d l a b k) (a+k) (b+k)=blkq d l a b (k+1):=by
 have hl:=blkq_len d l a b k
 refine ext_getD d (by rw [swq_len,hl,blkq_len]) fun i hi=>?_
 rw [swq_len,hl] at hi
 rw [swq_get d (by rw [hl];omega) (by rw [hl];omega),blkq_get d (m:=a+k) (by omega),blkq_get d (m:=b+k) (by omega),blkq_get d (m:=i) hi,blkq_get d (m:=i) hi]
 by_cases e1:i=b+k
 ·subst e1
  rw [if_pos rfl,if_neg (show ¬ (a≤a+k∧a+k<a+k) by omega),if_neg (show ¬ (b≤a+k∧a+k<b+k) by omega),if_neg (by omega),if_pos (by omega)]
  congr 1;omega
 ·rw [if_neg e1]
  by_cases e2:i=a+k
  ·subst e2
   rw [if_pos rfl,if_neg (show ¬ (a≤b+k∧b+k<a+k) by omega),if_neg (show ¬ (b≤b+k∧b+k<b+k) by omega),if_pos (by omega)]
   congr 1;omega
  ·rw [if_neg e2]
   by_cases e3:a≤i∧i<a+k
   ·rw [if_pos e3,if_pos (by omega)]
   ·by_cases e4:b≤i∧i<b+k
    ·rw [if_neg e3,if_pos e4,if_neg (by omega),if_pos (by omega)]
    ·rw [if_neg e3,if_neg e4,if_neg (by omega),if_neg (by omega)]
theorem getD_app (u v:List X) (i:Nat):(u++v).getD i d=if i<u.length then u.getD i d else v.getD (i-u.length) d:=by
 simp only [List.getD_eq_getElem?_getD,List.getElem?_append]
 split<;>rfl
theorem blkq_app (P U M W S:List X) (h:U.length=W.length) {a b:Nat} (ha:a=P.length) (hb:b=P.length+U.length+M.length):blkq d (P++(U++(M++(W++S)))) a b U.length=P++(W++(M++(U++S))):=by
 subst ha;subst hb
 refine ext_getD d (by rw [blkq_len];simp only [List.length_append];omega) fun i hi=>?_
 rw [blkq_len] at hi
 rw [blkq_get d hi]
 simp only [getD_app]
 by_cases c1:i<P.length
 ·rw [if_neg (by omega),if_neg (by omega),if_pos c1,if_pos c1]
 ·by_cases c2:i<P.length+U.length
  ·rw [if_pos (by omega),if_neg (by omega),if_neg (by omega),if_neg (by omega),if_pos (by omega),if_neg c1,if_pos (by omega)]
   congr 1;omega
  ·by_cases c3:i<P.length+U.length+M.length
   ·rw [if_neg (by omega),if_neg (by omega),if_neg c1,if_neg (by omega),if_pos (by omega),if_neg c1,if_neg (by omega),if_pos (by omega)]
    congr 1;omega
   ·by_cases c4:i<P.length+U.length+M.length+W.length
    ·rw [if_neg (by omega),if_pos (by omega),if_neg (by omega),if_pos (by omega),if_neg c1,if_neg (by omega),if_neg (by omega),if_pos (by omega)]
     congr 1;omega
    ·rw [if_neg (by omega),if_neg (by omega),if_neg c1,if_neg (by omega),if_neg (by omega),if_neg (by omega),if_neg c1,if_neg (by omega),if_neg (by omega),if_neg (by omega)]
     congr 1;omega
end
section
variable {X:Type} {lt:X→X→Bool}
theorem cut_mrg (d:X) (w:Swo lt) {A B:List X} (hA:Srt lt A) (hB:Srt lt B) (i j:Nat) (hi:i≤A.length) (hj:j≤B.length)
  (h1:i<A.length→0<j→lt (B.getD (j-1) d) (A.getD i d)=true) (h2:0<i→j<B.length→lt (B.getD j d) (A.getD (i-1) d)=false) :
  mrg lt A B=mrg lt (A.take i) (B.take j)++mrg lt (A.drop i) (B.drop j):=by
 have gA:∀ k,(hk:k<A.length)→A.getD k d=A[k]:=fun k hk=>by simp [List.getD_eq_getElem?_getD,hk]
 have gB:∀ k,(hk:k<B.length)→B.getD k d=B[k]:=fun k hk=>by simp [List.getD_eq_getElem?_getD,hk]
 have le:∀ {L:List X} {p q:Nat} (hL:Srt lt L) (hp:p<L.length) (hq:q<L.length),p≤q→lt L[q] L[p]=false:=fun {L p q} hL hp hq hpq=>by
  rcases Nat.lt_or_eq_of_le hpq with h|h
  ·exact List.pairwise_iff_getElem.1 hL p q hp hq h
  ·subst h
   cases hx:lt L[p] L[p] with
   |false=>rfl
   |true=>have:=w.asy _ _ hx;rw [hx] at this;cases this
 conv=>lhs;rw [←List.take_append_drop i A,←List.take_append_drop j B]
 refine mrg_split lt _ _ _ _ (fun b hb a ha=>?_) (fun a ha b hb=>?_)
 ·obtain ⟨p,hp,rfl⟩:=List.getElem_of_mem hb
  obtain ⟨q,hq,rfl⟩:=List.getElem_of_mem ha
  simp only [List.length_take,List.length_drop] at hp hq
  rw [List.getElem_take,List.getElem_drop]
  have hh:=h1 (by omega) (by omega)
  rw [gA _ (by omega),gB _ (by omega)] at hh
  cases hx:lt B[p] A[i+q] with
  |true=>rfl
  |false =>
   have e1:=w.nt _ _ _ (le hB (p:=p) (q:=j-1) (by omega) (by omega) (by omega)) hx
   have e2:=w.nt _ _ _ e1 (le hA (p:=i) (q:=i+q) (by omega) (by omega) (by omega))
   rw [hh] at e2;cases e2
 ·obtain ⟨p,hp,rfl⟩:=List.getElem_of_mem ha
  obtain ⟨q,hq,rfl⟩:=List.getElem_of_mem hb
  simp only [List.length_take,List.length_drop] at hp hq
  rw [List.getElem_take,List.getElem_drop]
  have hh:=h2 (by omega) (by omega)
  rw [gA _ (by omega),gB _ (by omega)] at hh
  have e1:=w.nt _ _ _ (le hB (p:=j) (q:=j+q) (by omega) (by omega) (by omega)) hh
  exact w.nt _ _ _ e1 (le hA (p:=p) (q:=i-1) (by omega) (by omega) (by omega))
end
end Go.Proofs.YtanppabbmffokaaGreat
end
