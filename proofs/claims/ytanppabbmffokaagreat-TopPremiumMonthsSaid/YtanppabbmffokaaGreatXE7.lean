import Derived.Test.YtanppabbmffokaaGreatXE6
import Derived.Test.YtanppabbmffokaaGreatRows
import Derived.KernelRfl
import Derived.Lib.Mul64
set_option linter.unusedSimpArgs false
set_option linter.unusedVariables false
section
namespace Go.Proofs.YtanppabbmffokaaGreat
open Go.Bx
set_option maxRecDepth 100000
def kc165:C:=
  (.seq (.reg [jj 4 (.mov (.k (.d (.bool false))))])
 (.seq (.reg [jm 5 0,jj 6 (.call 173 [(.t 5)]),jm 7 6,jg 8 7 true (.mov (.t 1)),jg 9 7 true (.call 173 [(.t 8)]),jg 10 7 true (.inv .not (.t 9)),jj 11 (.pick (.t 7) (.t 10) (.k (.d (.bool false)))),jm 12 11,jg 13 12 false (.mov (.t 0)),jg 14 12 false (.mov (.t 1)),jg 15 12 false (.bin .lss (.t 13) (.t 14)),jj 16 (.pick (.t 12) (.k (.d (.bool true))) (.t 15)),jm 4 16])
 .ret))
def rs165:List RV:=[.tmp 4]
theorem ok165:okF Tryz.prog 165=true:=by kernel_rfl
theorem cc165:cCode Tryz.prog Tryz.f165.ntmps (Tryz.f165.body.getD .skip)=some kc165:=by kernel_rfl
theorem cr165:cRess Tryz.prog Tryz.f165.results.toList=some rs165:=by kernel_rfl
def kc169:C:=
  (.seq (.reg [jj 2 (.mov (ki 0))])
 (.seq (.seq (.reg [jm 3 0,jj 4 (.bin .geq (.t 3) (.k (.d (.int .u64 4294967296))))])
 (.cond (.t 4) (.seq (.reg [jm 5 0,jj 6 (.shf false (.t 5) (.k (.d (.int .u64 32)))),jm 0 6])
 (.reg [jj 2 (.mov (ki 32))]))
 .skip))
 (.seq (.seq (.reg [jm 7 0,jj 8 (.bin .geq (.t 7) (.k (.d (.int .u64 65536))))])
 (.cond (.t 8) (.seq (.reg [jm 9 0,jj 10 (.shf false (.t 9) (.k (.d (.int .u64 16)))),jm 0 10])
 (.reg [jm 11 2,jj 12 (.bin .add (.t 11) (ki 16)),jm 2 12]))
 .skip))
 (.seq (.seq (.reg [jm 13 0,jj 14 (.bin .geq (.t 13) (.k (.d (.int .u64 256))))])
 (.cond (.t 14) (.seq (.reg [jm 15 0,jj 16 (.shf false (.t 15) (.k (.d (.int .u64 8)))),jm 0 16])
 (.reg [jm 17 2,jj 18 (.bin .add (.t 17) (ki 8)),jm 2 18]))
 .skip))
 (.seq (.reg [jm 19 2,jm 20 0,jj 21 (.conv .u8 (.t 20)),
 ⟨some 22,none,.sidx ⟨#[0,1,2,2,3,3,3,3,4,4,4,4,4,4,4,4,5,5,5,5,5,5,5,5,5,5,5,5,5,5,5,5,6,6,6,6,6,6,6,6,6,6,6,6,6,6,6,6,6,6,6,6,6,6,6,6,6,6,6,6,6,6,6,6,7,7,7,7,7,7,7,7,7,7,7,7,7,7,7,7,7,7,7,7,7,7,7,7,7,7,7,7,7,7,7,7,7,7,7,7,7,7,7,7,7,7,7,7,7,7,7,7,7,7,7,7,7,7,7,7,7,7,7,7,7,7,7,7,8,8,8,8,8,8,8,8,8,8,8,8,8,8,8,8,8,8,8,8,8,8,8,8,8,8,8,8,8,8,8,8,8,8,8,8,8,8,8,8,8,8,8,8,8,8,8,8,8,8,8,8,8,8,8,8,8,8,8,8,8,8,8,8,8,8,8,8,8,8,8,8,8,8,8,8,8,8,8,8,8,8,8,8,8,8,8,8,8,8,8,8,8,8,8,8,8,8,8,8,8,8,8,8,8,8,8,8,8,8,8,8,8,8,8,8,8,8,8,8,8,8,8,8,8,8,8,8]⟩ (.t 21)⟩,jj 23 (.conv .i64 (.t 22)),jj 24 (.bin .add (.t 19) (.t 23)),jm 2 24])
 .ret)))))
def rs169:List RV:=[.tmp 2]
theorem ok169:okF Tryz.prog 169=true:=by kernel_rfl
theorem cc169:cCode Tryz.prog Tryz.f169.ntmps (Tryz.f169.body.getD .skip)=some kc169:=by kernel_rfl
theorem cr169:cRess Tryz.prog Tryz.f169.results.toList=some rs169:=by kernel_rfl
def kc170:C:=
  (.seq (.reg [jj 4 (.mov (ki 0)),jj 5 (.mov (.k (.d (.bool false))))])
 (.seq (.reg [jm 10 0,jj 11 (.len (.t 10)),jm 6 11])
 (.seq (.reg [jm 12 6,jj 7 (.mov (ki 0)),jm 8 12])
 (.seq (.block 0 (.loop (.seq (.seq (.reg [jm 13 7,jm 14 8,jj 15 (.bin .lss (.t 13) (.t 14))])
 (.cond (.t 15) .skip
 (.exit 0)))
 (.block 2 (.seq (.reg [jm 16 7,jm 17 8,jj 18 (.bin .add (.t 16) (.t 17)),jj 19 (.conv .u64 (.t 18)),jj 20 (.shf false (.t 19) (.k (.d (.int .u64 1)))),jj 21 (.conv .i64 (.t 20)),jm 9 21])
 (.seq (.reg [jm 22 0,jm 23 9,jj 24 (.iadr 1 (.t 22) (.t 23)),jj 25 (.load 1 false (.t 24)),jm 26 1,jj 27 (.call 165 [(.t 25),(.t 26)])])
 (.cond (.t 27) (.reg [jm 28 9,jj 29 (.bin .add (.t 28) (ki 1)),jm 7 29])
 (.reg [jm 30 9,jm 8 30]))))))))
 (.seq (.reg [jm 31 7,jm 32 7,jm 33 6,jj 34 (.bin .lss (.t 32) (.t 33)),jm 35 34,jg 36 35 true (.mov (.t 0)),jg 37 35 true (.mov (.t 7)),jg 38 35 true (.iadr 1 (.t 36) (.t 37)),jg 39 35 true (.load 1 false (.t 38)),jg 40 35 true (.mov (.t 1)),jg 41 35 true (.bin .eql (.t 39) (.t 40)),jg 42 35 true (.mov (.t 41)),jg 43 42 false (.mov (.t 0)),jg 44 42 false (.mov (.t 7)),jg 45 42 false (.iadr 1 (.t 43) (.t 44)),jg 46 42 false (.load 1 false (.t 45)),jg 47 42 false (.call 190 [(.t 46)]),jg 48 42 false (.mov (.t 47)),jg 49 48 true (.mov (.t 1)),jg 50 48 true (.call 190 [(.t 49)]),jg 51 42 false (.pick (.t 48) (.t 50) (.k (.d (.bool false)))),jg 52 35 true (.pick (.t 42) (.k (.d (.bool true))) (.t 51)),jj 53 (.pick (.t 35) (.t 52) (.k (.d (.bool false)))),jm 4 31,jm 5 53])
 .ret)))))
def rs170:List RV:=[.tmp 4,.tmp 5]
theorem ok170:okF Tryz.prog 170=true:=by kernel_rfl
theorem cc170:cCode Tryz.prog Tryz.f170.ntmps (Tryz.f170.body.getD .skip)=some kc170:=by kernel_rfl
theorem cr170:cRess Tryz.prog Tryz.f170.results.toList=some rs170:=by kernel_rfl
def kc173:C:=
  (.seq (.reg [jj 2 (.mov (.k (.d (.bool false))))])
 (.seq (.reg [jm 3 0,jm 4 0,jj 5 (.bin .neq (.t 3) (.t 4)),jm 2 5])
 .ret))
def rs173:List RV:=[.tmp 2]
theorem ok173:okF Tryz.prog 173=true:=by kernel_rfl
theorem cc173:cCode Tryz.prog Tryz.f173.ntmps (Tryz.f173.body.getD .skip)=some kc173:=by kernel_rfl
theorem cr173:cRess Tryz.prog Tryz.f173.results.toList=some rs173:=by kernel_rfl
def kc174:C:=
  (.seq (.reg [jj 3 (.mov (ki 0)),jj 4 (.mov (ki 0))])
 (.seq (.seq (.reg [jm 5 0,jj 6 (.bin .lss (.t 5) (ki 0))])
 (.cond (.t 6) (.seq (.reg [jj 3 (.mov (ki 0)),jj 4 (.mov (ki 1))])
 .ret)
 .skip))
 (.seq (.seq (.reg [jj 7 (.load 1 false (.t 1)),jm 8 0,jj 9 (.bin .add (.t 7) (.t 8)),jn (.store 1 (.t 1) (.t 9))])
 (.seq (.reg [jj 10 (.load 1 false (.t 1)),jj 11 (.bin .gtr (.t 10) (ki 4000000000000000000)),jm 12 11,jg 13 12 false (.load 1 false (.t 1)),jg 14 12 false (.bin .lss (.t 13) (ki 0)),jj 15 (.pick (.t 12) (.k (.d (.bool true))) (.t 14))])
 (.cond (.t 15) (.seq (.reg [jn (.store 1 (.t 1) (ki 4000000000000000001))])
 (.seq (.reg [jj 3 (.mov (ki 0)),jj 4 (.mov (ki 5))])
 .ret))
 .skip)))
 (.seq (.reg [jj 16 (.load 1 false (.t 1)),jm 3 16,jj 4 (.mov (ki 0))])
 .ret))))
def rs174:List RV:=[.tmp 3,.tmp 4]
theorem ok174:okF Tryz.prog 174=true:=by kernel_rfl
theorem cc174:cCode Tryz.prog Tryz.f174.ntmps (Tryz.f174.body.getD .skip)=some kc174:=by kernel_rfl
theorem cr174:cRess Tryz.prog Tryz.f174.results.toList=some rs174:=by kernel_rfl
def kc175:C:=
  (.seq (.reg [jj 0 (.alloc 214 [.d (.raw .nilFunc)])])
 (.seq (.reg [jj 1 (.build [.d (.raw .nilFunc)] [(0,1,(.k (.fn (.func 199) [] [])))]),jn (.store 1 (.t 0) (.t 1))])
 .ret))
def rs175:List RV:=[.cell 0 1 true]
theorem ok175:okF Tryz.prog 175=true:=by kernel_rfl
theorem cc175:cCode Tryz.prog Tryz.f175.ntmps (Tryz.f175.body.getD .skip)=some kc175:=by kernel_rfl
theorem cr175:cRess Tryz.prog Tryz.f175.results.toList=some rs175:=by kernel_rfl
def kc177:C:=
  (.seq (.reg [jj 4 (.mov (.k (.d (.int .u64 0)))),jj 5 (.mov (.k (.d (.int .u64 0))))])
 (.seq (.reg [jm 14 0,jj 15 (.bin .and (.t 14) (.k (.d (.int .u64 4294967295)))),jm 6 15])
 (.seq (.reg [jm 16 0,jj 17 (.shf false (.t 16) (.k (.d (.int .u64 32)))),jm 7 17])
 (.seq (.reg [jm 18 1,jj 19 (.bin .and (.t 18) (.k (.d (.int .u64 4294967295)))),jm 8 19])
 (.seq (.reg [jm 20 1,jj 21 (.shf false (.t 20) (.k (.d (.int .u64 32)))),jm 9 21])
 (.seq (.reg [jm 22 6,jm 23 8,jj 24 (.bin .mul (.t 22) (.t 23)),jm 10 24])
 (.seq (.reg [jm 25 7,jm 26 8,jj 27 (.bin .mul (.t 25) (.t 26)),jm 28 10,jj 29 (.shf false (.t 28) (.k (.d (.int .u64 32)))),jj 30 (.bin .add (.t 27) (.t 29)),jm 11 30])
 (.seq (.reg [jm 31 11,jj 32 (.bin .and (.t 31) (.k (.d (.int .u64 4294967295)))),jm 12 32])
 (.seq (.reg [jm 33 11,jj 34 (.shf false (.t 33) (.k (.d (.int .u64 32)))),jm 13 34])
 (.seq (.reg [jm 35 12,jm 36 6,jm 37 9,jj 38 (.bin .mul (.t 36) (.t 37)),jj 39 (.bin .add (.t 35) (.t 38)),jm 12 39])
 (.seq (.reg [jm 40 7,jm 41 9,jj 42 (.bin .mul (.t 40) (.t 41)),jm 43 13,jj 44 (.bin .add (.t 42) (.t 43)),jm 45 12,jj 46 (.shf false (.t 45) (.k (.d (.int .u64 32)))),jj 47 (.bin .add (.t 44) (.t 46)),jm 4 47])
 (.seq (.reg [jm 48 0,jm 49 1,jj 50 (.bin .mul (.t 48) (.t 49)),jm 5 50])
 .ret))))))))))))
def rs177:List RV:=[.tmp 4,.tmp 5]
theorem ok177:okF Tryz.prog 177=true:=by kernel_rfl
theorem cc177:cCode Tryz.prog Tryz.f177.ntmps (Tryz.f177.body.getD .skip)=some kc177:=by kernel_rfl
theorem cr177:cRess Tryz.prog Tryz.f177.results.toList=some rs177:=by kernel_rfl
def kc178:C:=
  (.seq (.reg [jj 6 (.mov (.k (.d (.bool false))))])
 (.seq (.reg [jm 7 1,jm 8 2,jm 9 1,jj 10 (.bin .sub (.t 8) (.t 9)),jj 11 (.bin .gtr (.t 7) (.t 10)),jm 12 11,jg 13 12 false (.mov (.t 1)),jg 14 12 false (.mov (.t 2)),jg 15 12 false (.mov (.t 1)),jg 16 12 false (.bin .sub (.t 14) (.t 15)),jg 17 12 false (.bin .eql (.t 13) (.t 16)),jg 18 12 false (.mov (.t 17)),jg 19 18 true (.mov (.t 0)),jg 20 18 true (.bin .rem (.t 19) (.k (.d (.int .u64 2)))),jg 21 18 true (.bin .eql (.t 20) (.k (.d (.int .u64 1)))),jg 22 12 false (.pick (.t 18) (.t 21) (.k (.d (.bool false)))),jj 23 (.pick (.t 12) (.k (.d (.bool true))) (.t 22)),jm 6 23])
 .ret))
def rs178:List RV:=[.tmp 6]
theorem ok178:okF Tryz.prog 178=true:=by kernel_rfl
theorem cc178:cCode Tryz.prog Tryz.f178.ntmps (Tryz.f178.body.getD .skip)=some kc178:=by kernel_rfl
theorem cr178:cRess Tryz.prog Tryz.f178.results.toList=some rs178:=by kernel_rfl
def kc179:C:=
  (.seq (.reg [jj 6 (.mov (.k (.d (.int .u64 0)))),jj 7 (.mov (.k (.d (.int .u64 0))))])
 (.seq (.seq (.reg [jm 19 2,jj 20 (.bin .eql (.t 19) (.k (.d (.int .u64 0))))])
 (.cond (.t 20) (.reg [jj 21 (.never),jn (.pnc (.t 21))])
 .skip))
 (.seq (.seq (.reg [jm 22 2,jm 23 0,jj 24 (.bin .leq (.t 22) (.t 23))])
 (.cond (.t 24) (.reg [jj 25 (.never),jn (.pnc (.t 25))])
 .skip))
 (.seq (.seq (.reg [jm 26 0,jj 27 (.bin .eql (.t 26) (.k (.d (.int .u64 0))))])
 (.cond (.t 27) (.seq (.drw [0, 0, 3, 0, 0, 24, 7, 127]
  [jm 28 1,jm 29 2,jj 30 (.bin .quo (.t 28) (.t 29)),jm 31 1,jm 32 2,jj 33 (.bin .rem (.t 31) (.t 32)),jm 6 30,jm 7 33])
 .ret)
 .skip))
 (.seq (.reg [jm 34 2,jj 35 (.call 200 [(.t 34)]),jj 36 (.conv .u64 (.t 35)),jm 8 36])
 (.seq (.reg [jm 37 2,jm 38 8,jj 39 (.shf true (.t 37) (.t 38)),jm 2 39])
 (.seq (.reg [jm 40 2,jj 41 (.shf false (.t 40) (.k (.d (.int .u64 32)))),jm 9 41])
 (.seq (.reg [jm 42 2,jj 43 (.bin .and (.t 42) (.k (.d (.int .u64 4294967295)))),jm 10 43])
 (.seq (.reg [jm 44 0,jm 45 8,jj 46 (.shf true (.t 44) (.t 45)),jm 47 1,jm 48 8,jj 49 (.bin .sub (.k (.d (.int .u64 64))) (.t 48)),jj 50 (.shf false (.t 47) (.t 49)),jj 51 (.bin .or (.t 46) (.t 50)),jm 11 51])
 (.seq (.reg [jm 52 1,jm 53 8,jj 54 (.shf true (.t 52) (.t 53)),jm 12 54])
 (.seq (.reg [jm 55 12,jj 56 (.shf false (.t 55) (.k (.d (.int .u64 32)))),jm 13 56])
 (.seq (.reg [jm 57 12,jj 58 (.bin .and (.t 57) (.k (.d (.int .u64 4294967295)))),jm 14 58])
 (.seq (.reg [jm 59 11,jm 60 9,jj 61 (.bin .quo (.t 59) (.t 60)),jm 15 61])
 (.seq (.reg [jm 62 11,jm 63 15,jm 64 9,jj 65 (.bin .mul (.t 63) (.t 64)),jj 66 (.bin .sub (.t 62) (.t 65)),jm 16 66])
 (.seq (.block 0 (.loop (.seq (.seq (.reg [jm 67 15,jj 68 (.bin .geq (.t 67) (.k (.d (.int .u64 4294967296)))),jm 69 68,jg 70 69 false (.mov (.t 15)),jg 71 69 false (.mov (.t 10)),jg 72 69 false (.bin .mul (.t 70) (.t 71)),jg 73 69 false (.mov (.t 16)),jg 74 69 false (.bin .mul (.k (.d (.int .u64 4294967296))) (.t 73)),jg 75 69 false (.mov (.t 13)),jg 76 69 false (.bin .add (.t 74) (.t 75)),jg 77 69 false (.bin .gtr (.t 72) (.t 76)),jj 78 (.pick (.t 69) (.k (.d (.bool true))) (.t 77))])
 (.cond (.t 78) .skip
 (.exit 0)))
 (.block 2 (.seq (.reg [jm 79 15,jj 80 (.bin .sub (.t 79) (.k (.d (.int .u64 1)))),jm 15 80])
 (.seq (.reg [jm 81 16,jm 82 9,jj 83 (.bin .add (.t 81) (.t 82)),jm 16 83])
 (.seq (.reg [jm 84 16,jj 85 (.bin .geq (.t 84) (.k (.d (.int .u64 4294967296))))])
 (.cond (.t 85) (.exit 0)
 .skip))))))))
 (.seq (.reg [jm 86 11,jj 87 (.bin .mul (.t 86) (.k (.d (.int .u64 4294967296)))),jm 88 13,jj 89 (.bin .add (.t 87) (.t 88)),jm 90 15,jm 91 2,jj 92 (.bin .mul (.t 90) (.t 91)),jj 93 (.bin .sub (.t 89) (.t 92)),jm 17 93])
 (.seq (.reg [jm 94 17,jm 95 9,jj 96 (.bin .quo (.t 94) (.t 95)),jm 18 96])
 (.seq (.reg [jm 97 17,jm 98 18,jm 99 9,jj 100 (.bin .mul (.t 98) (.t 99)),jj 101 (.bin .sub (.t 97) (.t 100)),jm 16 101])
 (.seq (.block 4 (.loop (.seq (.seq (.reg [jm 102 18,jj 103 (.bin .geq (.t 102) (.k (.d (.int .u64 4294967296)))),jm 104 103,jg 105 104 false (.mov (.t 18)),jg 106 104 false (.mov (.t 10)),jg 107 104 false (.bin .mul (.t 105) (.t 106)),jg 108 104 false (.mov (.t 16)),jg 109 104 false (.bin .mul (.k (.d (.int .u64 4294967296))) (.t 108)),jg 110 104 false (.mov (.t 14)),jg 111 104 false (.bin .add (.t 109) (.t 110)),jg 112 104 false (.bin .gtr (.t 107) (.t 111)),jj 113 (.pick (.t 104) (.k (.d (.bool true))) (.t 112))])
 (.cond (.t 113) .skip
 (.exit 4)))
 (.block 6 (.seq (.reg [jm 114 18,jj 115 (.bin .sub (.t 114) (.k (.d (.int .u64 1)))),jm 18 115])
 (.seq (.reg [jm 116 16,jm 117 9,jj 118 (.bin .add (.t 116) (.t 117)),jm 16 118])
 (.seq (.reg [jm 119 16,jj 120 (.bin .geq (.t 119) (.k (.d (.int .u64 4294967296))))])
 (.cond (.t 120) (.exit 4)
 .skip))))))))
 (.seq (.reg [jm 121 15,jj 122 (.bin .mul (.t 121) (.k (.d (.int .u64 4294967296)))),jm 123 18,jj 124 (.bin .add (.t 122) (.t 123)),jm 125 17,jj 126 (.bin .mul (.t 125) (.k (.d (.int .u64 4294967296)))),jm 127 14,jj 128 (.bin .add (.t 126) (.t 127)),jm 129 18,jm 130 2,jj 131 (.bin .mul (.t 129) (.t 130)),jj 132 (.bin .sub (.t 128) (.t 131)),jm 133 8,jj 134 (.shf false (.t 132) (.t 133)),jm 6 124,jm 7 134])
 .ret))))))))))))))))))))
def rs179:List RV:=[.tmp 6,.tmp 7]
theorem ok179:okF Tryz.prog 179=true:=by kernel_rfl
theorem cc179:cCode Tryz.prog Tryz.f179.ntmps (Tryz.f179.body.getD .skip)=some kc179:=by kernel_rfl
theorem cr179:cRess Tryz.prog Tryz.f179.results.toList=some rs179:=by kernel_rfl
def kc180:C:=
  (.seq (.reg [jj 4 (.mov (ki 0))])
 (.seq (.seq (.reg [jm 6 0,jj 7 (.len (.t 6)),jj 8 (.mov (ki 0))])
 (.block 0 (.loop (.seq (.reg [jj 9 (.bin .lss (.t 8) (.t 7))])
 (.seq (.cond (.t 9) .skip
 (.exit 0))
 (.seq (.block 2 (.seq (.reg [jm 10 8,jm 5 10])
 (.seq (.reg [jm 11 1,jm 12 0,jm 13 5,jj 14 (.iadr 1 (.t 12) (.t 13)),jj 15 (.load 1 false (.t 14)),jj 16 (.callv (.t 11) [(.t 15)])])
 (.cond (.t 16) (.seq (.reg [jm 17 5,jm 4 17])
 .ret)
 .skip))))
 (.reg [jj 18 (.bin .add (.t 8) (ki 1)),jm 8 18])))))))
 (.seq (.reg [jj 4 (.mov (.k (.d (.int .i64 (-1)))))])
 .ret)))
def rs180:List RV:=[.tmp 4]
theorem ok180:okF Tryz.prog 180=true:=by kernel_rfl
theorem cc180:cCode Tryz.prog Tryz.f180.ntmps (Tryz.f180.body.getD .skip)=some kc180:=by kernel_rfl
theorem cr180:cRess Tryz.prog Tryz.f180.results.toList=some rs180:=by kernel_rfl
theorem ok182:okF Tryz.prog 182=true:=by kernel_rfl
def kc183:C:=
  (.seq (.reg [jj 6 (.mov (ki 20))])
 (.seq (.reg [jm 10 6,jj 7 (.mov (ki 0)),jm 8 10])
 (.seq (.block 0 (.loop (.seq (.seq (.reg [jm 11 8,jm 12 1,jj 13 (.bin .leq (.t 11) (.t 12))])
 (.cond (.t 13) .skip
 (.exit 0)))
 (.block 2 (.seq (.reg [jm 14 0,jm 15 7,jm 16 8,jm 17 2,jj 18 (.call 201 [(.t 14),(.t 15),(.t 16),(.t 17)])])
 (.seq (.reg [jm 19 8,jm 7 19])
 (.reg [jm 20 8,jm 21 6,jj 22 (.bin .add (.t 20) (.t 21)),jm 8 22])))))))
 (.seq (.reg [jm 23 0,jm 24 7,jm 25 1,jm 26 2,jj 27 (.call 201 [(.t 23),(.t 24),(.t 25),(.t 26)])])
 (.block 4 (.loop (.seq (.seq (.reg [jm 28 6,jm 29 1,jj 30 (.bin .lss (.t 28) (.t 29))])
 (.cond (.t 30) .skip
 (.exit 4)))
 (.block 6 (.seq (.reg [jm 31 6,jj 32 (.bin .mul (ki 2) (.t 31)),jj 7 (.mov (ki 0)),jm 8 32])
 (.seq (.block 8 (.loop (.seq (.seq (.reg [jm 33 8,jm 34 1,jj 35 (.bin .leq (.t 33) (.t 34))])
 (.cond (.t 35) .skip
 (.exit 8)))
 (.block 10 (.seq (.reg [jm 36 0,jm 37 7,jm 38 7,jm 39 6,jj 40 (.bin .add (.t 38) (.t 39)),jm 41 8,jm 42 2,jj 43 (.call 202 [(.t 36),(.t 37),(.t 40),(.t 41),(.t 42)])])
 (.seq (.reg [jm 44 8,jm 7 44])
 (.reg [jm 45 8,jm 46 6,jj 47 (.bin .mul (ki 2) (.t 46)),jj 48 (.bin .add (.t 45) (.t 47)),jm 8 48])))))))
 (.seq (.seq (.reg [jm 49 7,jm 50 6,jj 51 (.bin .add (.t 49) (.t 50)),jm 9 51])
 (.seq (.reg [jm 52 9,jm 53 1,jj 54 (.bin .lss (.t 52) (.t 53))])
 (.cond (.t 54) (.reg [jm 55 0,jm 56 7,jm 57 9,jm 58 1,jm 59 2,jj 60 (.call 202 [(.t 55),(.t 56),(.t 57),(.t 58),(.t 59)])])
 .skip)))
 (.reg [jm 61 6,jj 62 (.bin .mul (.t 61) (ki 2)),jm 6 62]))))))))))))
def rs183:List RV:=[]
theorem ok183:okF Tryz.prog 183=true:=by kernel_rfl
theorem cc183:cCode Tryz.prog Tryz.f183.ntmps (Tryz.f183.body.getD .skip)=some kc183:=by kernel_rfl
theorem cr183:cRess Tryz.prog Tryz.f183.results.toList=some rs183:=by kernel_rfl
def kc184:C:=
  (.seq (.reg [jj 2 (.mov (.k (.d (.bool false))))])
 (.seq (.seq (.reg [jm 4 0,jj 5 (.len (.t 4)),jj 6 (.bin .sub (.t 5) (ki 1)),jm 3 6])
 (.block 0 (.loop (.seq (.seq (.reg [jm 7 3,jj 8 (.bin .gtr (.t 7) (ki 0))])
 (.cond (.t 8) .skip
 (.exit 0)))
 (.seq (.block 2 (.seq (.drw [0, 0, 3, 7, 0, 0, 32, 112, 240, 511]
  [jm 11 0,jm 12 3,jj 13 (.iadr 1 (.t 11) (.t 12)),jj 14 (.load 1 false (.t 13)),jm 15 0,jm 16 3,jj 17 (.bin .sub (.t 16) (ki 1)),jj 18 (.iadr 1 (.t 15) (.t 17)),jj 19 (.load 1 false (.t 18)),jj 20 (.call 165 [(.t 14),(.t 19)])])
 (.cond (.t 20) (.seq (.reg [jj 2 (.mov (.k (.d (.bool false))))])
 .ret)
 .skip)))
 (.reg [jm 9 3,jj 10 (.bin .sub (.t 9) (ki 1)),jm 3 10]))))))
 (.seq (.reg [jj 2 (.mov (.k (.d (.bool true))))])
 .ret)))
def rs184:List RV:=[.tmp 2]
theorem ok184:okF Tryz.prog 184=true:=by kernel_rfl
theorem cc184:cCode Tryz.prog Tryz.f184.ntmps (Tryz.f184.body.getD .skip)=some kc184:=by kernel_rfl
theorem cr184:cRess Tryz.prog Tryz.f184.results.toList=some rs184:=by kernel_rfl
def kc190:C:=
  (.seq (.reg [jj 2 (.mov (.k (.d (.bool false))))])
 (.seq (.reg [jm 3 0,jm 4 0,jj 5 (.bin .neq (.t 3) (.t 4)),jm 2 5])
 .ret))
def rs190:List RV:=[.tmp 2]
theorem ok190:okF Tryz.prog 190=true:=by kernel_rfl
theorem cc190:cCode Tryz.prog Tryz.f190.ntmps (Tryz.f190.body.getD .skip)=some kc190:=by kernel_rfl
theorem cr190:cRess Tryz.prog Tryz.f190.results.toList=some rs190:=by kernel_rfl
def kc199:C:=
  (.seq (.reg [jj 6 (.mov (.k (.d (.bool false))))])
 (.seq (.reg [jj 6 (.mov (.k (.d (.bool false))))])
 .ret))
def rs199:List RV:=[.tmp 6]
theorem ok199:okF Tryz.prog 199=true:=by kernel_rfl
theorem cc199:cCode Tryz.prog Tryz.f199.ntmps (Tryz.f199.body.getD .skip)=some kc199:=by kernel_rfl
theorem cr199:cRess Tryz.prog Tryz.f199.results.toList=some rs199:=by kernel_rfl
def kc200:C:=
  (.seq (.reg [jj 2 (.mov (ki 0))])
 (.seq (.reg [jm 3 0,jj 4 (.call 169 [(.t 3)]),jj 5 (.bin .sub (ki 64) (.t 4)),jm 2 5])
 .ret))
def rs200:List RV:=[.tmp 2]
theorem ok200:okF Tryz.prog 200=true:=by kernel_rfl
theorem cc200:cCode Tryz.prog Tryz.f200.ntmps (Tryz.f200.body.getD .skip)=some kc200:=by kernel_rfl
theorem cr200:cRess Tryz.prog Tryz.f200.results.toList=some rs200:=by kernel_rfl
def kc201:C:=
  (.seq (.reg [jm 10 1,jj 11 (.bin .add (.t 10) (ki 1)),jm 8 11])
 (.block 0 (.loop (.seq (.seq (.reg [jm 12 8,jm 13 2,jj 14 (.bin .lss (.t 12) (.t 13))])
 (.cond (.t 14) .skip
 (.exit 0)))
 (.seq (.block 2 (.seq (.reg [jm 17 8,jm 9 17])
 (.block 4 (.loop (.seq (.seq (.drw [0, 0, 3, 7, 15, 15, 15, 111, 239, 15, 15, 1039, 3599, 7695, 16383, 32767, 65535]
  [jm 18 9,jm 19 1,jj 20 (.bin .gtr (.t 18) (.t 19)),jm 21 20,jg 22 21 true (.mov (.t 3)),jg 23 21 true (.mov (.t 0)),jg 24 21 true (.mov (.t 9)),jg 25 21 true (.iadr 1 (.t 23) (.t 24)),jg 26 21 true (.load 1 false (.t 25)),jg 27 21 true (.mov (.t 0)),jg 28 21 true (.mov (.t 9)),jg 29 21 true (.bin .sub (.t 28) (ki 1)),jg 30 21 true (.iadr 1 (.t 27) (.t 29)),jg 31 21 true (.load 1 false (.t 30)),jg 32 21 true (.callv (.t 22) [(.t 26),(.t 31)]),jg 33 21 true (.bin .lss (.t 32) (ki 0)),jj 34 (.pick (.t 21) (.t 33) (.k (.d (.bool false))))])
 (.cond (.t 34) .skip
 (.exit 4)))
 (.seq (.block 6 (.drw [0, 0, 0, 0, 8, 0, 0, 64, 224, 480, 0, 0, 3072, 7168, 16355, 32739, 65535, 131071]
  [jm 37 0,jm 38 9,jm 39 0,jm 40 9,jj 41 (.bin .sub (.t 40) (ki 1)),jm 42 0,jm 43 9,jj 44 (.bin .sub (.t 43) (ki 1)),jj 45 (.iadr 1 (.t 42) (.t 44)),jj 46 (.load 1 false (.t 45)),jm 47 0,jm 48 9,jj 49 (.iadr 1 (.t 47) (.t 48)),jj 50 (.load 1 false (.t 49)),jj 51 (.iadr 1 (.t 37) (.t 38)),jn (.store 1 (.t 51) (.t 46)),jj 52 (.iadr 1 (.t 39) (.t 41)),jn (.store 1 (.t 52) (.t 50))]))
 (.reg [jm 35 9,jj 36 (.bin .sub (.t 35) (ki 1)),jm 9 36])))))))
 (.reg [jm 15 8,jj 16 (.bin .add (.t 15) (ki 1)),jm 8 16]))))))
def rs201:List RV:=[]
theorem ok201:okF Tryz.prog 201=true:=by kernel_rfl
theorem cc201:cCode Tryz.prog Tryz.f201.ntmps (Tryz.f201.body.getD .skip)=some kc201:=by kernel_rfl
theorem cr201:cRess Tryz.prog Tryz.f201.results.toList=some rs201:=by kernel_rfl
end Go.Proofs.YtanppabbmffokaaGreat
end
section
namespace Go.Proofs.YtanppabbmffokaaGreat
open Go.Bx
set_option maxRecDepth 100000
def kc202:C:=
  (.seq (.seq (.reg [jm 25 2,jm 26 1,jj 27 (.bin .sub (.t 25) (.t 26)),jj 28 (.bin .eql (.t 27) (ki 1))])
 (.cond (.t 28) (.seq (.reg [jm 29 2,jm 10 29])
 (.seq (.reg [jm 30 3,jm 11 30])
 (.seq (.block 0 (.loop (.seq (.seq (.reg [jm 31 10,jm 32 11,jj 33 (.bin .lss (.t 31) (.t 32))])
 (.cond (.t 33) .skip
 (.exit 0)))
 (.block 2 (.seq (.reg [jm 34 10,jm 35 11,jj 36 (.bin .add (.t 34) (.t 35)),jj 37 (.conv .u64 (.t 36)),jj 38 (.shf false (.t 37) (.k (.d (.int .u64 1)))),jj 39 (.conv .i64 (.t 38)),jm 12 39])
 (.seq (.drw [0, 0, 0, 6, 14, 0, 0, 96, 224, 511, 1023]
  [jm 40 4,jm 41 0,jm 42 12,jj 43 (.iadr 1 (.t 41) (.t 42)),jj 44 (.load 1 false (.t 43)),jm 45 0,jm 46 1,jj 47 (.iadr 1 (.t 45) (.t 46)),jj 48 (.load 1 false (.t 47)),jj 49 (.callv (.t 40) [(.t 44),(.t 48)]),jj 50 (.bin .lss (.t 49) (ki 0))])
 (.cond (.t 50) (.reg [jm 51 12,jj 52 (.bin .add (.t 51) (ki 1)),jm 10 52])
 (.reg [jm 53 12,jm 11 53]))))))))
 (.seq (.seq (.reg [jm 54 1,jm 13 54])
 (.block 4 (.loop (.seq (.seq (.reg [jm 55 13,jm 56 10,jj 57 (.bin .sub (.t 56) (ki 1)),jj 58 (.bin .lss (.t 55) (.t 57))])
 (.cond (.t 58) .skip
 (.exit 4)))
 (.seq (.block 6 (.drw [0, 0, 0, 0, 8, 0, 0, 64, 224, 480, 0, 0, 3072, 7168, 16355, 32739, 65535, 131071]
  [jm 61 0,jm 62 13,jm 63 0,jm 64 13,jj 65 (.bin .add (.t 64) (ki 1)),jm 66 0,jm 67 13,jj 68 (.bin .add (.t 67) (ki 1)),jj 69 (.iadr 1 (.t 66) (.t 68)),jj 70 (.load 1 false (.t 69)),jm 71 0,jm 72 13,jj 73 (.iadr 1 (.t 71) (.t 72)),jj 74 (.load 1 false (.t 73)),jj 75 (.iadr 1 (.t 61) (.t 62)),jn (.store 1 (.t 75) (.t 70)),jj 76 (.iadr 1 (.t 63) (.t 65)),jn (.store 1 (.t 76) (.t 74))]))
 (.reg [jm 59 13,jj 60 (.bin .add (.t 59) (ki 1)),jm 13 60]))))))
 .ret))))
 .skip))
 (.seq (.seq (.reg [jm 77 3,jm 78 2,jj 79 (.bin .sub (.t 77) (.t 78)),jj 80 (.bin .eql (.t 79) (ki 1))])
 (.cond (.t 80) (.seq (.reg [jm 81 1,jm 14 81])
 (.seq (.reg [jm 82 2,jm 15 82])
 (.seq (.block 8 (.loop (.seq (.seq (.reg [jm 83 14,jm 84 15,jj 85 (.bin .lss (.t 83) (.t 84))])
 (.cond (.t 85) .skip
 (.exit 8)))
 (.block 10 (.seq (.reg [jm 86 14,jm 87 15,jj 88 (.bin .add (.t 86) (.t 87)),jj 89 (.conv .u64 (.t 88)),jj 90 (.shf false (.t 89) (.k (.d (.int .u64 1)))),jj 91 (.conv .i64 (.t 90)),jm 16 91])
 (.seq (.drw [0, 0, 0, 6, 14, 0, 0, 96, 224, 511, 1023, 2047]
  [jm 92 4,jm 93 0,jm 94 2,jj 95 (.iadr 1 (.t 93) (.t 94)),jj 96 (.load 1 false (.t 95)),jm 97 0,jm 98 16,jj 99 (.iadr 1 (.t 97) (.t 98)),jj 100 (.load 1 false (.t 99)),jj 101 (.callv (.t 92) [(.t 96),(.t 100)]),jj 102 (.bin .lss (.t 101) (ki 0)),jj 103 (.inv .not (.t 102))])
 (.cond (.t 103) (.reg [jm 104 16,jj 105 (.bin .add (.t 104) (ki 1)),jm 14 105])
 (.reg [jm 106 16,jm 15 106]))))))))
 (.seq (.seq (.reg [jm 107 2,jm 17 107])
 (.block 12 (.loop (.seq (.seq (.reg [jm 108 17,jm 109 14,jj 110 (.bin .gtr (.t 108) (.t 109))])
 (.cond (.t 110) .skip
 (.exit 12)))
 (.seq (.block 14 (.drw [0, 0, 0, 0, 8, 0, 0, 64, 224, 480, 0, 0, 3072, 7168, 16355, 32739, 65535, 131071]
  [jm 113 0,jm 114 17,jm 115 0,jm 116 17,jj 117 (.bin .sub (.t 116) (ki 1)),jm 118 0,jm 119 17,jj 120 (.bin .sub (.t 119) (ki 1)),jj 121 (.iadr 1 (.t 118) (.t 120)),jj 122 (.load 1 false (.t 121)),jm 123 0,jm 124 17,jj 125 (.iadr 1 (.t 123) (.t 124)),jj 126 (.load 1 false (.t 125)),jj 127 (.iadr 1 (.t 113) (.t 114)),jn (.store 1 (.t 127) (.t 122)),jj 128 (.iadr 1 (.t 115) (.t 117)),jn (.store 1 (.t 128) (.t 126))]))
 (.reg [jm 111 17,jj 112 (.bin .sub (.t 111) (ki 1)),jm 17 112]))))))
 .ret))))
 .skip))
 (.seq (.reg [jm 129 1,jm 130 3,jj 131 (.bin .add (.t 129) (.t 130)),jj 132 (.conv .u64 (.t 131)),jj 133 (.shf false (.t 132) (.k (.d (.int .u64 1)))),jj 134 (.conv .i64 (.t 133)),jm 18 134])
 (.seq (.reg [jm 135 18,jm 136 2,jj 137 (.bin .add (.t 135) (.t 136)),jm 19 137])
 (.seq (.reg [jj 20 (.mov (ki 0)),jj 21 (.mov (ki 0))])
 (.seq (.seq (.reg [jm 138 2,jm 139 18,jj 140 (.bin .gtr (.t 138) (.t 139))])
 (.cond (.t 140) (.seq (.reg [jm 141 19,jm 142 3,jj 143 (.bin .sub (.t 141) (.t 142)),jm 20 143])
 (.reg [jm 144 18,jm 21 144]))
 (.seq (.reg [jm 145 1,jm 20 145])
 (.reg [jm 146 2,jm 21 146]))))
 (.seq (.reg [jm 147 19,jj 148 (.bin .sub (.t 147) (ki 1)),jm 22 148])
 (.seq (.block 16 (.loop (.seq (.seq (.reg [jm 149 20,jm 150 21,jj 151 (.bin .lss (.t 149) (.t 150))])
 (.cond (.t 151) .skip
 (.exit 16)))
 (.block 18 (.seq (.reg [jm 152 20,jm 153 21,jj 154 (.bin .add (.t 152) (.t 153)),jj 155 (.conv .u64 (.t 154)),jj 156 (.shf false (.t 155) (.k (.d (.int .u64 1)))),jj 157 (.conv .i64 (.t 156)),jm 23 157])
 (.seq (.drw [0, 0, 0, 0, 12, 30, 62, 0, 0, 384, 896, 2047, 4095, 8191]
  [jm 158 4,jm 159 0,jm 160 22,jm 161 23,jj 162 (.bin .sub (.t 160) (.t 161)),jj 163 (.iadr 1 (.t 159) (.t 162)),jj 164 (.load 1 false (.t 163)),jm 165 0,jm 166 23,jj 167 (.iadr 1 (.t 165) (.t 166)),jj 168 (.load 1 false (.t 167)),jj 169 (.callv (.t 158) [(.t 164),(.t 168)]),jj 170 (.bin .lss (.t 169) (ki 0)),jj 171 (.inv .not (.t 170))])
 (.cond (.t 171) (.reg [jm 172 23,jj 173 (.bin .add (.t 172) (ki 1)),jm 20 173])
 (.reg [jm 174 23,jm 21 174]))))))))
 (.seq (.reg [jm 175 19,jm 176 20,jj 177 (.bin .sub (.t 175) (.t 176)),jm 24 177])
 (.seq (.seq (.reg [jm 178 20,jm 179 2,jj 180 (.bin .lss (.t 178) (.t 179)),jm 181 180,jg 182 181 true (.mov (.t 2)),jg 183 181 true (.mov (.t 24)),jg 184 181 true (.bin .lss (.t 182) (.t 183)),jj 185 (.pick (.t 181) (.t 184) (.k (.d (.bool false))))])
 (.cond (.t 185) (.reg [jm 186 0,jm 187 20,jm 188 2,jm 189 24,jm 190 4,jj 191 (.call 207 [(.t 186),(.t 187),(.t 188),(.t 189),(.t 190)])])
 .skip))
 (.seq (.seq (.reg [jm 192 1,jm 193 20,jj 194 (.bin .lss (.t 192) (.t 193)),jm 195 194,jg 196 195 true (.mov (.t 20)),jg 197 195 true (.mov (.t 18)),jg 198 195 true (.bin .lss (.t 196) (.t 197)),jj 199 (.pick (.t 195) (.t 198) (.k (.d (.bool false))))])
 (.cond (.t 199) (.reg [jm 200 0,jm 201 1,jm 202 20,jm 203 18,jm 204 4,jj 205 (.call 202 [(.t 200),(.t 201),(.t 202),(.t 203),(.t 204)])])
 .skip))
 (.seq (.reg [jm 206 18,jm 207 24,jj 208 (.bin .lss (.t 206) (.t 207)),jm 209 208,jg 210 209 true (.mov (.t 24)),jg 211 209 true (.mov (.t 3)),jg 212 209 true (.bin .lss (.t 210) (.t 211)),jj 213 (.pick (.t 209) (.t 212) (.k (.d (.bool false))))])
 (.cond (.t 213) (.reg [jm 214 0,jm 215 18,jm 216 24,jm 217 3,jm 218 4,jj 219 (.call 202 [(.t 214),(.t 215),(.t 216),(.t 217),(.t 218)])])
 .skip)))))))))))))
def rs202:List RV:=[]
theorem ok202:okF Tryz.prog 202=true:=by kernel_rfl
theorem cc202:cCode Tryz.prog Tryz.f202.ntmps (Tryz.f202.body.getD .skip)=some kc202:=by kernel_rfl
theorem cr202:cRess Tryz.prog Tryz.f202.results.toList=some rs202:=by kernel_rfl
def kc207:C:=
  (.seq (.reg [jm 12 2,jm 13 1,jj 14 (.bin .sub (.t 12) (.t 13)),jm 10 14])
 (.seq (.reg [jm 15 3,jm 16 2,jj 17 (.bin .sub (.t 15) (.t 16)),jm 11 17])
 (.seq (.block 0 (.loop (.seq (.seq (.reg [jm 18 10,jm 19 11,jj 20 (.bin .neq (.t 18) (.t 19))])
 (.cond (.t 20) .skip
 (.exit 0)))
 (.block 2 (.seq (.reg [jm 21 10,jm 22 11,jj 23 (.bin .gtr (.t 21) (.t 22))])
 (.cond (.t 23) (.seq (.reg [jm 24 0,jm 25 2,jm 26 10,jj 27 (.bin .sub (.t 25) (.t 26)),jm 28 2,jm 29 11,jm 30 4,jj 31 (.call 209 [(.t 24),(.t 27),(.t 28),(.t 29),(.t 30)])])
 (.reg [jm 32 10,jm 33 11,jj 34 (.bin .sub (.t 32) (.t 33)),jm 10 34]))
 (.seq (.reg [jm 35 0,jm 36 2,jm 37 10,jj 38 (.bin .sub (.t 36) (.t 37)),jm 39 2,jm 40 11,jj 41 (.bin .add (.t 39) (.t 40)),jm 42 10,jj 43 (.bin .sub (.t 41) (.t 42)),jm 44 10,jm 45 4,jj 46 (.call 209 [(.t 35),(.t 38),(.t 43),(.t 44),(.t 45)])])
 (.reg [jm 47 11,jm 48 10,jj 49 (.bin .sub (.t 47) (.t 48)),jm 11 49]))))))))
 (.reg [jm 50 0,jm 51 2,jm 52 10,jj 53 (.bin .sub (.t 51) (.t 52)),jm 54 2,jm 55 10,jm 56 4,jj 57 (.call 209 [(.t 50),(.t 53),(.t 54),(.t 55),(.t 56)])]))))
def rs207:List RV:=[]
theorem ok207:okF Tryz.prog 207=true:=by kernel_rfl
theorem cc207:cCode Tryz.prog Tryz.f207.ntmps (Tryz.f207.body.getD .skip)=some kc207:=by kernel_rfl
theorem cr207:cRess Tryz.prog Tryz.f207.results.toList=some rs207:=by kernel_rfl
def kc209:C:=
  (.seq (.reg [jj 10 (.mov (ki 0))])
 (.block 0 (.loop (.seq (.seq (.reg [jm 11 10,jm 12 3,jj 13 (.bin .lss (.t 11) (.t 12))])
 (.cond (.t 13) .skip
 (.exit 0)))
 (.seq (.block 2 (.drw [0, 0, 0, 6, 0, 0, 0, 96, 0, 0, 0, 1536, 3840, 7936, 0, 0, 0, 98304, 245760, 507904, 1048335, 2096911, 4194303, 8388607]
  [jm 16 0,jm 17 1,jm 18 10,jj 19 (.bin .add (.t 17) (.t 18)),jm 20 0,jm 21 2,jm 22 10,jj 23 (.bin .add (.t 21) (.t 22)),jm 24 0,jm 25 2,jm 26 10,jj 27 (.bin .add (.t 25) (.t 26)),jj 28 (.iadr 1 (.t 24) (.t 27)),jj 29 (.load 1 false (.t 28)),jm 30 0,jm 31 1,jm 32 10,jj 33 (.bin .add (.t 31) (.t 32)),jj 34 (.iadr 1 (.t 30) (.t 33)),jj 35 (.load 1 false (.t 34)),jj 36 (.iadr 1 (.t 16) (.t 19)),jn (.store 1 (.t 36) (.t 29)),jj 37 (.iadr 1 (.t 20) (.t 23)),jn (.store 1 (.t 37) (.t 35))]))
 (.reg [jm 14 10,jj 15 (.bin .add (.t 14) (ki 1)),jm 10 15]))))))
def rs209:List RV:=[]
theorem ok209:okF Tryz.prog 209=true:=by kernel_rfl
theorem cc209:cCode Tryz.prog Tryz.f209.ntmps (Tryz.f209.body.getD .skip)=some kc209:=by kernel_rfl
theorem cr209:cRess Tryz.prog Tryz.f209.results.toList=some rs209:=by kernel_rfl
end Go.Proofs.YtanppabbmffokaaGreat
end
section
namespace Go.Proofs.YtanppabbmffokaaGreat
def I64 (n:Int):Prop:=-9223372036854775808≤n∧n≤9223372036854775807
end Go.Proofs.YtanppabbmffokaaGreat
end
section
namespace Go.Proofs.YtanppabbmffokaaGreat
open Go.ChangeShapes Go.WideShapes Go.ChangeAt Go.RowKit Go.Bx
theorem Tryz.own:ownKnob Tryz.prog.godebug=none:=by kernel_rfl
theorem Tryz.laidOut:laidOutB Tryz.prog=true:=by kernel_rfl
theorem wf_i64 {n:Int} (h:(Lit.int .i64 n).wf=true):I64 n:=by
 simp only [Lit.wf,Bool.and_eq_true,decide_eq_true_eq] at h
 have e1:IntKind.i64.min=-9223372036854775808:=by decide +kernel
 have e2:IntKind.i64.max=9223372036854775807:=by decide +kernel
 unfold I64;omega
theorem int_reads:Reads Tryz.prog 3 1 (fun n:Int=>[.int .i64 n]) I64:=
 (Reads.int Tryz.underlying3 (by kernel_rfl)).map id _ _ (fun _=>rfl) (fun _=>rfl) (fun _ h=>wf_i64 h)
end Go.Proofs.YtanppabbmffokaaGreat
end
section
namespace Go.Proofs.YtanppabbmffokaaGreat
open Go.Bx
section
variable {X:Type} (lt:X→X→Bool)
structure Swo:Prop where
 asy:∀ a b,lt a b=true→lt b a=false
 nt:∀ a b c,lt a b=false→lt b c=false→lt a c=false
def Srt (l:List X):Prop:=l.Pairwise (fun x y=>lt y x=false)
def mrg:List X→List X→List X
 |[],B=>B
 |a::A,[]=>a::A
 |a::A,b::B=>if lt b a=true then b::mrg (a::A) B else a::mrg A (b::B)
termination_by a b=>a.length+b.length
theorem mrg_nil (A:List X):mrg lt A []=A:=by cases A<;>simp [mrg]
theorem mrg_nil2 (B:List X):mrg lt [] B=B:=by simp [mrg]
theorem mrg_split:∀ (A1 B1 A2 B2:List X),(∀ b,b∈B1→∀ a,a∈A2→lt b a=true)→(∀ a,a∈A1→∀ b,b∈B2→lt b a=false)→mrg lt (A1++A2) (B1++B2)=mrg lt A1 B1++mrg lt A2 B2
 |[],[],A2,B2,_,_=>by rw [mrg_nil2];rfl
 |[],b::B1,[],B2,_,_=>by simp [mrg_nil2]
 |[],b::B1,a::A2,B2,h1,h2=>by
  have:=mrg_split [] B1 (a::A2) B2 (fun b hb a ha=>h1 b (by simp [hb]) a ha) (fun a ha=>by simp at ha)
  rw [List.nil_append,mrg_nil2] at this
  rw [List.nil_append,mrg_nil2,List.cons_append,mrg,if_pos (h1 b (by simp) a (by simp)),this,List.cons_append]
 |a::A1,[],A2,[],_,_=>by rw [List.append_nil,mrg_nil,mrg_nil,mrg_nil]
 |a::A1,[],A2,b::B2,h1,h2=>by
  have:=mrg_split A1 [] A2 (b::B2) (fun b hb=>by simp at hb) (fun a ha b hb=>h2 a (by simp [ha]) b hb)
  rw [List.nil_append,mrg_nil] at this
  rw [List.nil_append,mrg_nil,List.cons_append,mrg,if_neg (by rw [h2 a (by simp) b (by simp)];simp),this,List.cons_append]
 |a::A1,b::B1,A2,B2,h1,h2=>by
  rw [List.cons_append,List.cons_append,mrg,mrg]
  by_cases h:lt b a=true
  ·rw [if_pos h,if_pos h,List.cons_append]
   have:=mrg_split (a::A1) B1 A2 B2 (fun b hb a ha=>h1 b (by simp [hb]) a ha) h2
   rw [List.cons_append] at this
   rw [this]
  ·rw [if_neg h,if_neg h,List.cons_append]
   have:=mrg_split A1 (b::B1) A2 B2 h1 (fun a ha b hb=>h2 a (by simp [ha]) b hb)
   rw [List.cons_append] at this
   rw [this]
termination_by A1 B1=>A1.length+B1.length
theorem mrg_perm:∀ (A B:List X),(mrg lt A B).Perm (A++B)
 |[],B=>by rw [mrg_nil2];exact List.Perm.refl _
 |a::A,[]=>by rw [mrg_nil];simp
 |a::A,b::B=>by
  rw [mrg]
  split
  ·exact ((List.Perm.cons b (mrg_perm (a::A) B))).trans (List.perm_middle (l₁:=a::A) (a:=b) (l₂:=B)).symm
  ·exact List.Perm.cons a (mrg_perm A (b::B))
termination_by A B=>A.length+B.length
theorem mrg_len (A B:List X):(mrg lt A B).length=A.length+B.length:=by have:=(mrg_perm lt A B).length_eq;simpa using this
variable {lt}
theorem mrg_sorted (w:Swo lt):∀ (A B:List X),Srt lt A→Srt lt B→Srt lt (mrg lt A B)
 |[],B,_,hB=>by rw [mrg_nil2];exact hB
 |a::A,[],hA,_=>by rw [mrg_nil];exact hA
 |a::A,b::B,hA,hB=>by
  have hA':=List.pairwise_cons.1 hA
  have hB':=List.pairwise_cons.1 hB
  rw [mrg]
  split
  ·rename_i h
   refine List.pairwise_cons.2 ⟨fun z hz=>?_,mrg_sorted w (a::A) B hA hB'.2⟩
   rcases List.mem_append.1 ((mrg_perm lt (a::A) B).mem_iff.1 hz) with h1|h1
   ·have hab:=w.asy b a h
    rcases List.mem_cons.1 h1 with rfl|h1
    ·exact hab
    ·exact w.nt z a b (hA'.1 z h1) hab
   ·exact hB'.1 z h1
  ·rename_i h
   have h:lt b a=false:=by simpa using h
   refine List.pairwise_cons.2 ⟨fun z hz=>?_,mrg_sorted w A (b::B) hA'.2 hB⟩
   rcases List.mem_append.1 ((mrg_perm lt A (b::B)).mem_iff.1 hz) with h1|h1
   ·exact hA'.1 z h1
   ·rcases List.mem_cons.1 h1 with rfl|h1
    ·exact h
    ·exact w.nt z b a (hB'.1 z h1) h
termination_by A B=>A.length+B.length
theorem mrg_one_lo {A:List X} {b:X} (h:∀ a,a∈A→lt b a=true):mrg lt A [b]=b::A:=by
 cases A with
 |nil=>rw [mrg_nil2]
 |cons a A=>rw [mrg,if_pos (h a (by simp)),mrg_nil]
theorem mrg_ins1 {A1 A2:List X} {b:X} (h1:∀ a,a∈A2→lt b a=true) (h2:∀ a,a∈A1→lt b a=false):mrg lt (A1++A2) [b]=A1++b::A2:=by
 have:=mrg_split lt A1 [] A2 [b] (fun b hb=>by simp at hb) (fun a ha c hc=>by simp at hc;subst hc;exact h2 a ha)
 rw [List.nil_append,mrg_nil,mrg_one_lo h1] at this
 exact this
theorem mrg_assoc (w:Swo lt):∀ (A B C:List X),Srt lt A→Srt lt B→Srt lt C→mrg lt (mrg lt A B) C=mrg lt A (mrg lt B C)
 |[],B,C,_,_,_=>by rw [mrg_nil2,mrg_nil2]
 |a::A,[],C,_,_,_=>by rw [mrg_nil,mrg_nil2]
 |a::A,b::B,[],_,_,_=>by rw [mrg_nil,mrg_nil]
 |a::A,b::B,c::C,hA,hB,hC=>by
  have hA':=List.pairwise_cons.1 hA
  have hB':=List.pairwise_cons.1 hB
  have hC':=List.pairwise_cons.1 hC
  by_cases h1:lt b a=true
  ·have e1:mrg lt (a::A) (b::B)=b::mrg lt (a::A) B:=by rw [mrg,if_pos h1]
   by_cases h2:lt c b=true
   ·have e2:mrg lt (b::B) (c::C)=c::mrg lt (b::B) C:=by rw [mrg,if_pos h2]
    have hca:lt c a=true:=by
     cases h:lt c a with
     |true=>rfl
     |false=>have:=w.nt c a b h (w.asy b a h1);rw [h2] at this;cases this
    rw [e1,e2,mrg,if_pos h2,mrg,if_pos hca,←e1,mrg_assoc w (a::A) (b::B) C hA hB hC'.2]
   ·have e2:mrg lt (b::B) (c::C)=b::mrg lt B (c::C):=by rw [mrg,if_neg h2]
    rw [e1,e2,mrg,if_neg h2,mrg,if_pos h1,mrg_assoc w (a::A) B (c::C) hA hB'.2 hC]
  ·have e1:mrg lt (a::A) (b::B)=a::mrg lt A (b::B):=by rw [mrg,if_neg h1]
   by_cases h2:lt c b=true
   ·have e2:mrg lt (b::B) (c::C)=c::mrg lt (b::B) C:=by rw [mrg,if_pos h2]
    by_cases h3:lt c a=true
    ·rw [e1,e2,mrg,if_pos h3,mrg,if_pos h3,←e1,mrg_assoc w (a::A) (b::B) C hA hB hC'.2]
    ·rw [e1,e2,mrg,if_neg h3,mrg,if_neg h3,←e2,mrg_assoc w A (b::B) (c::C) hA'.2 hB hC]
   ·have e2:mrg lt (b::B) (c::C)=b::mrg lt B (c::C):=by rw [mrg,if_neg h2]
    have h1':lt b a=false:=by simpa using h1
    have h2':lt c b=false:=by simpa using h2
    have hca:¬ lt c a=true:=by rw [w.nt c b a h2' h1'];simp
    rw [e1,e2,mrg,if_neg hca,mrg,if_neg h1,←e2,mrg_assoc w A (b::B) (c::C) hA'.2 hB hC]
termination_by A B C=>A.length+B.length+C.length
variable (lt)
def srt:List X→List X→List X
 |S,[]=>S
 |S,e::M=>srt (mrg lt S [e]) M
variable {lt}
theorem srt_sorted (w:Swo lt):∀ (M S:List X),Srt lt S→Srt lt (srt lt S M)
 |[],S,h=>h
 |e::M,S,h=>by rw [srt];exact srt_sorted w M _ (mrg_sorted w S [e] h (List.pairwise_singleton _ _))
theorem srt_mrg (w:Swo lt):∀ (M S:List X),Srt lt S→srt lt S M=mrg lt S (srt lt [] M)
 |[],S,_=>by rw [srt,srt,mrg_nil]
 |e::M,S,h=>by
  have h1:Srt lt [e]:=List.pairwise_singleton _ _
  rw [srt,srt,mrg_nil2,srt_mrg w M _ (mrg_sorted w S [e] h h1),srt_mrg w M [e] h1,mrg_assoc w S [e] _ h h1 (srt_sorted w M [] List.Pairwise.nil)]
theorem srt_app (lt:X→X→Bool):∀ (M N S:List X),srt lt S (M++N)=srt lt (srt lt S M) N
 |[],N,S=>rfl
 |e::M,N,S=>by rw [List.cons_append,srt,srt,srt_app lt M N]
theorem srt_two (w:Swo lt) (M N:List X):mrg lt (srt lt [] M) (srt lt [] N)=srt lt [] (M++N):=by
 rw [srt_app,srt_mrg w N _ (srt_sorted w M [] List.Pairwise.nil)]
theorem srt_perm (lt:X→X→Bool):∀ (M S:List X),(srt lt S M).Perm (S++M)
 |[],S=>by rw [srt];simp
 |e::M,S=>by
  rw [srt]
  refine (srt_perm lt M _).trans ((List.Perm.append_right M (mrg_perm lt S [e])).trans ?_)
  rw [List.append_assoc];exact List.Perm.refl _
theorem srt_len (lt:X→X→Bool) (M S:List X):(srt lt S M).length=S.length+M.length:=by have:=(srt_perm lt M S).length_eq;simpa using this
end
section
variable {X:Type} (d:X)
def swq (l:List X) (i j:Nat):List X:=(l.set i (l.getD j d)).set j (l.getD i d)
theorem swq_len (l:List X) (i j:Nat):(swq d l i j).length=l.length:=by simp [swq]
theorem swq_get {l:List X} {i j:Nat} (hi:i<l.length) (hj:j<l.length) (m:Nat):(swq d l i j).getD m d=if m=j then l.getD i d else if m=i then l.getD j d else l.getD m d:=by
 simp only [swq,List.getD_eq_getElem?_getD,List.getElem?_set,List.length_set]
 by_cases h1:j=m
 ·subst h1;simp [hj]
 ·have h1':¬ m=j:=fun e=>h1 e.symm
  rw [if_neg h1,if_neg h1']
  by_cases h2:i=m
  ·subst h2;simp [hi]
  ·have h2':¬ m=i:=fun e=>h2 e.symm
   rw [if_neg h2,if_neg h2']
theorem getD_mid (u:List X) (p:X) (w:List X):(u++p::w).getD u.length d=p:=by rw [List.getD_eq_getElem?_getD,List.getElem?_append_right (Nat.le_refl _)];simp
theorem set_mid (u:List X) (p q:X) (w:List X):(u++p::w).set u.length q=u++q::w:=by rw [List.set_append_right _ _ (Nat.le_refl _)];simp
theorem swq_at (u:List X) (p:X) (v:List X) (q:X) (w:List X) {i j:Nat} (hi:i=u.length) (hj:j=u.length+1+v.length):swq d (u++p::(v++q::w)) i j=u++q::(v++p::w):=by
 subst hi;subst hj
 have e:u++p::(v++q::w)=(u++p::v)++q::w:=by simp
 have hl:u.length+1+v.length=(u++p::v).length:=by simp;omega
 have g1:(u++p::(v++q::w)).getD (u.length+1+v.length) d=q:=by rw [e,hl];exact getD_mid d _ _ _
 have g2:(u++p::(v++q::w)).getD u.length d=p:=getD_mid d _ _ _
 have hl2:u.length+1+v.length=(u++q::v).length:=by simp;omega
 rw [swq,g1,g2,set_mid]
 have e2:u++q::(v++q::w)=(u++q::v)++q::w:=by simp
 rw [e2,hl2,set_mid];simp
theorem swq_next (u:List X) (p q:X) (w:List X) {i j:Nat} (hi:i=u.length) (hj:j=u.length+1):swq d (u++p::q::w) i j=u++q::p::w:=swq_at d u p [] q w hi (by simpa using hj)
theorem swq_next' (u:List X) (p q:X) (w:List X) {i j:Nat} (hi:i=u.length+1) (hj:j=u.length):swq d (u++p::q::w) i j=u++q::p::w:=by
 have h:=swq_next d u p q w hj hi
 rw [←h]
 unfold swq
 by_cases e:i=j
 ·omega
 ·rw [List.set_comm _ _ e]
end
end Go.Proofs.YtanppabbmffokaaGreat
end
section
namespace Go.Proofs.YtanppabbmffokaaGreat
open Go.Bx
section
variable {X:Type} (d:X)
def blkq (l:List X) (a b n:Nat):List X:=(List.range l.length).map fun m=>if a≤m∧m<a+n then l.getD (m-a+b) d else if b≤m∧m<b+n then l.getD (m-b+a) d else l.getD m d
theorem blkq_len (l:List X) (a b n:Nat):(blkq d l a b n).length=l.length:=by simp [blkq]
theorem blkq_get {l:List X} {a b n m:Nat} (h:m<l.length):(blkq d l a b n).getD m d=if a≤m∧m<a+n then l.getD (m-a+b) d else if b≤m∧m<b+n then l.getD (m-b+a) d else l.getD m d:=by
 simp [blkq,List.getD_eq_getElem?_getD,h]
theorem ext_getD {l m:List X} (h:l.length=m.length) (hg:∀ i,i<l.length→l.getD i d=m.getD i d):l=m:=by
 apply List.ext_getElem h
 intro i h1 h2
 have:=hg i h1
 simpa [List.getD_eq_getElem?_getD,h1,h2] using this
theorem blkq_zero (l:List X) (a b:Nat):blkq d l a b 0=l:=by
 refine ext_getD d (blkq_len _ _ _ _ _) fun i hi=>?_
 rw [blkq_len] at hi
 rw [blkq_get d hi,if_neg (by omega),if_neg (by omega)]
theorem blkq_step {l:List X} {a b k:Nat} (h1:a+k<b) (h2:b+k<l.length):swq d (blkq d l a b k) (a+k) (b+k)=blkq d l a b (k+1):=by
 have hl:=blkq_len d l a b k
 refine ext_getD d (by rw [swq_len,hl,blkq_len]) fun i hi=>?_
 rw [swq_len,hl] at hi
 rw [swq_get d (by rw [hl];omega) (by rw [hl];omega),blkq_get d (m:=a+k) (by omega),blkq_get d (m:=b+k) (by omega),blkq_get d (m:=i) hi,blkq_get d (m:=i) hi]
 by_cases e1:i=b+k
 ·subst e1
  rw [if_pos rfl,if_neg (show ¬ (a≤a+k∧a+k<a+k) by omega),if_neg (show ¬ (b≤a+k∧a+k<b+k) by omega),if_neg (by omega),if_pos (by omega)]
  congr 1;omega
 ·rw [if_neg e1]
  by_cases e2:i=a+k
  ·subst e2
   rw [if_pos rfl,if_neg (show ¬ (a≤b+k∧b+k<a+k) by omega),if_neg (show ¬ (b≤b+k∧b+k<b+k) by omega),if_pos (by omega)]
   congr 1;omega
  ·rw [if_neg e2]
   by_cases e3:a≤i∧i<a+k
   ·rw [if_pos e3,if_pos (by omega)]
   ·by_cases e4:b≤i∧i<b+k
    ·rw [if_neg e3,if_pos e4,if_neg (by omega),if_pos (by omega)]
    ·rw [if_neg e3,if_neg e4,if_neg (by omega),if_neg (by omega)]
theorem getD_app (u v:List X) (i:Nat):(u++v).getD i d=if i<u.length then u.getD i d else v.getD (i-u.length) d:=by
 simp only [List.getD_eq_getElem?_getD,List.getElem?_append]
 split<;>rfl
theorem blkq_app (P U M W S:List X) (h:U.length=W.length) {a b:Nat} (ha:a=P.length) (hb:b=P.length+U.length+M.length):blkq d (P++(U++(M++(W++S)))) a b U.length=P++(W++(M++(U++S))):=by
 subst ha;subst hb
 refine ext_getD d (by rw [blkq_len];simp only [List.length_append];omega) fun i hi=>?_
 rw [blkq_len] at hi
 rw [blkq_get d hi]
 simp only [getD_app]
 by_cases c1:i<P.length
 ·rw [if_neg (by omega),if_neg (by omega),if_pos c1,if_pos c1]
 ·by_cases c2:i<P.length+U.length
  ·rw [if_pos (by omega),if_neg (by omega),if_neg (by omega),if_neg (by omega),if_pos (by omega),if_neg c1,if_pos (by omega)]
   congr 1;omega
  ·by_cases c3:i<P.length+U.length+M.length
   ·rw [if_neg (by omega),if_neg (by omega),if_neg c1,if_neg (by omega),if_pos (by omega),if_neg c1,if_neg (by omega),if_pos (by omega)]
    congr 1;omega
   ·by_cases c4:i<P.length+U.length+M.length+W.length
    ·rw [if_neg (by omega),if_pos (by omega),if_neg (by omega),if_pos (by omega),if_neg c1,if_neg (by omega),if_neg (by omega),if_pos (by omega)]
     congr 1;omega
    ·rw [if_neg (by omega),if_neg (by omega),if_neg c1,if_neg (by omega),if_neg (by omega),if_neg (by omega),if_neg c1,if_neg (by omega),if_neg (by omega),if_neg (by omega)]
     congr 1;omega
end
section
variable {X:Type} {lt:X→X→Bool}
theorem cut_mrg (d:X) (w:Swo lt) {A B:List X} (hA:Srt lt A) (hB:Srt lt B) (i j:Nat) (hi:i≤A.length) (hj:j≤B.length)
  (h1:i<A.length→0<j→lt (B.getD (j-1) d) (A.getD i d)=true) (h2:0<i→j<B.length→lt (B.getD j d) (A.getD (i-1) d)=false) :
  mrg lt A B=mrg lt (A.take i) (B.take j)++mrg lt (A.drop i) (B.drop j):=by
 have gA:∀ k,(hk:k<A.length)→A.getD k d=A[k]:=fun k hk=>by simp [List.getD_eq_getElem?_getD,hk]
 have gB:∀ k,(hk:k<B.length)→B.getD k d=B[k]:=fun k hk=>by simp [List.getD_eq_getElem?_getD,hk]
 have le:∀ {L:List X} {p q:Nat} (hL:Srt lt L) (hp:p<L.length) (hq:q<L.length),p≤q→lt L[q] L[p]=false:=fun {L p q} hL hp hq hpq=>by
  rcases Nat.lt_or_eq_of_le hpq with h|h
  ·exact List.pairwise_iff_getElem.1 hL p q hp hq h
  ·subst h
   cases hx:lt L[p] L[p] with
   |false=>rfl
   |true=>have:=w.asy _ _ hx;rw [hx] at this;cases this
 conv=>lhs;rw [←List.take_append_drop i A,←List.take_append_drop j B]
 refine mrg_split lt _ _ _ _ (fun b hb a ha=>?_) (fun a ha b hb=>?_)
 ·obtain ⟨p,hp,rfl⟩:=List.getElem_of_mem hb
  obtain ⟨q,hq,rfl⟩:=List.getElem_of_mem ha
  simp only [List.length_take,List.length_drop] at hp hq
  rw [List.getElem_take,List.getElem_drop]
  have hh:=h1 (by omega) (by omega)
  rw [gA _ (by omega),gB _ (by omega)] at hh
  cases hx:lt B[p] A[i+q] with
  |true=>rfl
  |false =>
   have e1:=w.nt _ _ _ (le hB (p:=p) (q:=j-1) (by omega) (by omega) (by omega)) hx
   have e2:=w.nt _ _ _ e1 (le hA (p:=i) (q:=i+q) (by omega) (by omega) (by omega))
   rw [hh] at e2;cases e2
 ·obtain ⟨p,hp,rfl⟩:=List.getElem_of_mem ha
  obtain ⟨q,hq,rfl⟩:=List.getElem_of_mem hb
  simp only [List.length_take,List.length_drop] at hp hq
  rw [List.getElem_take,List.getElem_drop]
  have hh:=h2 (by omega) (by omega)
  rw [gA _ (by omega),gB _ (by omega)] at hh
  have e1:=w.nt _ _ _ (le hB (p:=j) (q:=j+q) (by omega) (by omega) (by omega)) hh
  exact w.nt _ _ _ e1 (le hA (p:=p) (q:=i-1) (by omega) (by omega) (by omega))
end
end Go.Proofs.YtanppabbmffokaaGreat
end
section
namespace Go.Proofs.YtanppabbmffokaaGreat
open Go.Bx
set_option maxRecDepth 10000
theorem wU {a:Int} (h:0≤a∧a≤18446744073709551615):IntKind.u64.wrap a=a:=by rw [IntKind.wrap_u64];omega
def orU (a b:Int):Int:=IntKind.u64.wrap ((BitVec.ofInt IntKind.u64.bits a ||| BitVec.ofInt IntKind.u64.bits b).toNat:Int)
theorem orU_add (a i b:Nat) (h1:a*2 ^ i<18446744073709551616) (h2:b<2 ^ i) (h3:b<18446744073709551616):orU ((a*2 ^ i:Nat):Int) (b:Int)=((a*2 ^ i+b:Nat):Int):=by
 have e0:∀ x:Nat,x<18446744073709551616→(BitVec.ofInt IntKind.u64.bits (x:Int)).toNat=x:=fun x hx=>by simp [IntKind.bits];omega
 have h4:(BitVec.ofInt IntKind.u64.bits ((a*2 ^ i:Nat):Int) ||| BitVec.ofInt IntKind.u64.bits (b:Int)).toNat=a*2 ^ i+b:=by
  rw [BitVec.toNat_or,e0 _ h1,e0 _ h3,←Nat.shiftLeft_eq,Nat.shiftLeft_add_eq_or_of_lt h2]
 have h5:a*2 ^ i+b<18446744073709551616:=by
  rw [←h4];exact (BitVec.ofInt IntKind.u64.bits ((a*2 ^ i:Nat):Int) ||| BitVec.ofInt IntKind.u64.bits (b:Int)).isLt
 rw [orU,h4,wU (by omega)]
theorem fdiv_nat (a b:Nat):(a:Int).fdiv (b:Int)=((a / b:Nat):Int):=by
 cases b with
 |zero=>simp
 |succ b=>rw [Int.fdiv_eq_ediv_of_nonneg _ (by omega)];simp
theorem tdiv_nat (a b:Nat):(a:Int).tdiv (b:Int)=((a / b:Nat):Int):=by
 rw [Int.tdiv_eq_ediv_of_nonneg (by omega)];simp
theorem tmod_nat (a b:Nat):(a:Int).tmod (b:Int)=((a % b:Nat):Int):=by
 rw [Int.tmod_eq_emod_of_nonneg (by omega)];simp
def blen (x:Nat):Nat:=if x=0 then 0 else Nat.log2 x+1
theorem blen_eq {x n:Nat} (h1:2 ^ n≤x) (h2:x<2 ^ (n+1)):blen x=n+1:=by
 have hx:x≠0:=fun e=>by have:=Nat.two_pow_pos n;omega
 rw [blen,if_neg hx,(Nat.log2_eq_iff hx).2 ⟨h1,h2⟩]
theorem blen_spec {x:Nat} (h:x≠0):∃ n,blen x=n+1∧2 ^ n≤x∧x<2 ^ (n+1):=
 ⟨Nat.log2 x,by rw [blen,if_neg h],((Nat.log2_eq_iff h).1 rfl).1,((Nat.log2_eq_iff h).1 rfl).2⟩
theorem blen_shift {x k:Nat} (h:2 ^ k≤x):blen x=blen (x / 2 ^ k)+k:=by
 have h0:0<x / 2 ^ k:=Nat.div_pos h (Nat.two_pow_pos k)
 obtain ⟨n,h1,h2,h3⟩:=blen_spec (x:=x / 2 ^ k) (by omega)
 rw [h1]
 have h4:2 ^ n*2 ^ k≤x:=(Nat.le_div_iff_mul_le (Nat.two_pow_pos k)).1 h2
 have h5:x<2 ^ (n+1)*2 ^ k:=(Nat.div_lt_iff_lt_mul (Nat.two_pow_pos k)).1 h3
 rw [←Nat.pow_add] at h4 h5
 rw [blen_eq (n:=n+k) h4 (by rw [show n+k+1=n+1+k by omega];exact h5)]
 omega
theorem wUn (n:Nat):IntKind.u64.wrap (n:Int)=((n % 18446744073709551616:Nat):Int):=by rw [IntKind.wrap_u64];omega
theorem andN (x:Nat):(BitVec.ofInt IntKind.u64.bits (x:Int) &&& BitVec.ofInt IntKind.u64.bits 4294967295).toNat=x % 4294967296:=by
 rw [BitVec.toNat_and]
 have e1:(BitVec.ofInt IntKind.u64.bits (x:Int)).toNat=x % 18446744073709551616:=by
  simp [IntKind.bits]
 have e2:(BitVec.ofInt IntKind.u64.bits 4294967295).toNat=2 ^ 32-1:=by decide +kernel
 rw [e1,e2,Nat.and_two_pow_sub_one_eq_mod];omega
theorem p32:(2:Int) ^ min 32 IntKind.u64.bits=4294967296:=by decide +kernel
theorem fdivL (n:Nat):(n:Int).fdiv 4294967296=((n / 4294967296:Nat):Int):=fdiv_nat n 4294967296
theorem p16:(2:Int) ^ min 16 IntKind.u64.bits=65536:=by decide +kernel
theorem p8:(2:Int) ^ min 8 IntKind.u64.bits=256:=by decide +kernel
theorem fdivM (n:Nat):(n:Int).fdiv 65536=((n / 65536:Nat):Int):=fdiv_nat n 65536
theorem fdivS (n:Nat):(n:Int).fdiv 256=((n / 256:Nat):Int):=fdiv_nat n 256
theorem sMul64 (x y:Nat) (hx:x<18446744073709551616) (hy:y<18446744073709551616):Ctr Tryz.prog 177 [.d (.int .u64 x),.d (.int .u64 y)] [] (.tup [.d (.int .u64 ((x*y / 18446744073709551616:Nat):Int)),.d (.int .u64 ((x*y % 18446744073709551616:Nat):Int))]) [] []:=by
 refine ctr_pure Tryz.func177 ok177 rfl cc177 cr177 Tryz.ntmps177 (by simp) rfl rfl ?_;intro c hP hfn;simp only [kc177,andN,p32,fdivL,←Int.natCast_mul,←Int.natCast_add,wUn,vcd,↓vcp,seval]
 have hm:=Go.Lib.mul64_hi x y hx hy
 have ha:=Go.Lib.half_mul_le (a:=x / 4294967296) (b:=y / 4294967296) (by omega) (by omega)
 have hb:=Go.Lib.half_mul_le (a:=x / 4294967296) (b:=y % 4294967296) (by omega) (by omega)
 have hc:=Go.Lib.half_mul_le (a:=x % 4294967296) (b:=y / 4294967296) (by omega) (by omega)
 have hd:=Go.Lib.half_mul_le (a:=x % 4294967296) (b:=y % 4294967296) (by omega) (by omega)
 (refine RetK.pure (by simp only [rs177,rsb,vcd,↓vcp,seval]) (VLe.tups ?_);simp only [rs177,rsb,vcd,↓vcp,seval])
 refine ⟨VLe.int (congrArg Int.ofNat ?_),VLe.int rfl,trivial⟩
 have e1:x % 4294967296 % 18446744073709551616=x % 4294967296:=by omega
 have e2:y % 4294967296 % 18446744073709551616=y % 4294967296:=by omega
 rw [e1,e2]
 generalize (x / 4294967296)*(y / 4294967296)=a at *
 generalize (x / 4294967296)*(y % 4294967296)=b at *
 generalize (x % 4294967296)*(y / 4294967296)=c at *
 generalize (x % 4294967296)*(y % 4294967296)=d at *
 generalize x*y / 18446744073709551616=z at *
 omega
def tab:ByteArray:=⟨#[0,1,2,2,3,3,3,3,4,4,4,4,4,4,4,4,5,5,5,5,5,5,5,5,5,5,5,5,5,5,5,5,6,6,6,6,6,6,6,6,6,6,6,6,6,6,6,6,6,6,6,6,6,6,6,6,6,6,6,6,6,6,6,6,7,7,7,7,7,7,7,7,7,7,7,7,7,7,7,7,7,7,7,7,7,7,7,7,7,7,7,7,7,7,7,7,7,7,7,7,7,7,7,7,7,7,7,7,7,7,7,7,7,7,7,7,7,7,7,7,7,7,7,7,7,7,7,7,8,8,8,8,8,8,8,8,8,8,8,8,8,8,8,8,8,8,8,8,8,8,8,8,8,8,8,8,8,8,8,8,8,8,8,8,8,8,8,8,8,8,8,8,8,8,8,8,8,8,8,8,8,8,8,8,8,8,8,8,8,8,8,8,8,8,8,8,8,8,8,8,8,8,8,8,8,8,8,8,8,8,8,8,8,8,8,8,8,8,8,8,8,8,8,8,8,8,8,8,8,8,8,8,8,8,8,8,8,8,8,8,8,8,8,8,8,8,8,8,8,8,8,8,8,8,8,8]⟩
theorem tab_ok:∀ z:Nat,z<256→sAt tab z=((blen z:Nat):Int):=by
 have h:((List.range 256).all fun z=>sAt tab z == ((blen z:Nat):Int))=true:=by decide +kernel
 intro z hz
 exact eq_of_beq (List.all_eq_true.1 h z (by simpa using hz))
theorem u8n {z:Nat} (h:z<256):IntKind.u8.wrap (z:Int)=(z:Int):=by rw [IntKind.wrap_u8];omega
theorem blen_256 {z:Nat} (h:z<256):blen z≤8:=by
 by_cases h0:z=0
 ·subst h0;simp [blen]
 ·obtain ⟨n,h1,h2,h3⟩:=blen_spec h0
  rw [h1]
  have:n<8:=(Nat.pow_lt_pow_iff_right (show 1<2 by omega)).1 (show 2 ^ n<2 ^ 8 by omega)
  omega
theorem sLen64 (x:Nat) (hx:x<18446744073709551616):Ctr Tryz.prog 169 [.d (.int .u64 x)] [] (.d (.int .i64 ((blen x:Nat):Int))) [] []:=by
 refine ctr_pure Tryz.func169 ok169 rfl cc169 cr169 Tryz.ntmps169 (by simp) rfl rfl ?_;intro c hP hfn;simp only [kc169,p32,p16,p8,fdivL,fdivM,fdivS,←Int.natCast_mul,←Int.natCast_add,wUn,vcd,↓vcp,seval]
 repeat' first|refine And.intro (fun h=>?_) (fun h=>?_)|refine aO ?_|(refine tA rfl rfl rfl rfl ?_;try simp only [p32,p16,p8,fdivL,fdivM,fdivS,←Int.natCast_mul,←Int.natCast_add,wUn,vcd,↓vcp,seval])|refine aT ?_|fail
 ·simp only [ge_iff_le,decide_eq_true_eq,decide_eq_false_iff_not,Int.not_le] at *
  have hz:x / 4294967296 / 65536 / 256<256:=by omega
  have q32:=blen_shift (x:=x) (k:=32) (by omega)
  rw [show (2:Nat) ^ 32=4294967296 from rfl] at q32
  have q16:=blen_shift (x:=x / 4294967296) (k:=16) (by omega)
  rw [show (2:Nat) ^ 16=65536 from rfl] at q16
  have q8:=blen_shift (x:=x / 4294967296 / 65536) (k:=8) (by omega)
  rw [show (2:Nat) ^ 8=256 from rfl] at q8
  have e:=u8n hz
  have et:=tab_ok _ hz
  have hb:=blen_256 hz
  rw [e]
  refine And.intro ⟨by omega,(show (((x / 4294967296 / 65536 / 256:Nat):Int)<256) by omega)⟩ ?_
  exact RetK.pure (by simp only [rs169,rsb,vcd,↓vcp,seval]) (by (simp only [rs169,rsb,enb,vcd,↓vcp,seval])<;>(first|(change IntKind.i64.wrap (_+IntKind.i64.wrap (sAt tab (x / 4294967296 / 65536 / 256)))=_;rw [et,wI (a:=((blen (x / 4294967296 / 65536 / 256):Nat):Int)) (by omega)];rw [q32,q16,q8];generalize blen (x / 4294967296 / 65536 / 256)=w at *;simp only [IntKind.wrap_i64];omega)))
 ·simp only [ge_iff_le,decide_eq_true_eq,decide_eq_false_iff_not,Int.not_le] at *
  have hz:x / 4294967296 / 65536<256:=by omega
  have q32:=blen_shift (x:=x) (k:=32) (by omega)
  rw [show (2:Nat) ^ 32=4294967296 from rfl] at q32
  have q16:=blen_shift (x:=x / 4294967296) (k:=16) (by omega)
  rw [show (2:Nat) ^ 16=65536 from rfl] at q16
  have e:=u8n hz
  have et:=tab_ok _ hz
  have hb:=blen_256 hz
  rw [e]
  refine And.intro ⟨by omega,(show (((x / 4294967296 / 65536:Nat):Int)<256) by omega)⟩ ?_
  exact RetK.pure (by simp only [rs169,rsb,vcd,↓vcp,seval]) (by (simp only [rs169,rsb,enb,vcd,↓vcp,seval])<;>(first|(change IntKind.i64.wrap (_+IntKind.i64.wrap (sAt tab (x / 4294967296 / 65536)))=_;rw [et,wI (a:=((blen (x / 4294967296 / 65536):Nat):Int)) (by omega)];rw [q32,q16];generalize blen (x / 4294967296 / 65536)=w at *;simp only [IntKind.wrap_i64];omega)))
 ·simp only [ge_iff_le,decide_eq_true_eq,decide_eq_false_iff_not,Int.not_le] at *
  have hz:x / 4294967296 / 256<256:=by omega
  have q32:=blen_shift (x:=x) (k:=32) (by omega)
  rw [show (2:Nat) ^ 32=4294967296 from rfl] at q32
  have q8:=blen_shift (x:=x / 4294967296) (k:=8) (by omega)
  rw [show (2:Nat) ^ 8=256 from rfl] at q8
  have e:=u8n hz
  have et:=tab_ok _ hz
  have hb:=blen_256 hz
  rw [e]
  refine And.intro ⟨by omega,(show (((x / 4294967296 / 256:Nat):Int)<256) by omega)⟩ ?_
  exact RetK.pure (by simp only [rs169,rsb,vcd,↓vcp,seval]) (by (simp only [rs169,rsb,enb,vcd,↓vcp,seval])<;>(first|(change IntKind.i64.wrap (_+IntKind.i64.wrap (sAt tab (x / 4294967296 / 256)))=_;rw [et,wI (a:=((blen (x / 4294967296 / 256):Nat):Int)) (by omega)];rw [q32,q8];generalize blen (x / 4294967296 / 256)=w at *;simp only [IntKind.wrap_i64];omega)))
 ·simp only [ge_iff_le,decide_eq_true_eq,decide_eq_false_iff_not,Int.not_le] at *
  have hz:x / 4294967296<256:=by omega
  have q32:=blen_shift (x:=x) (k:=32) (by omega)
  rw [show (2:Nat) ^ 32=4294967296 from rfl] at q32
  have e:=u8n hz
  have et:=tab_ok _ hz
  have hb:=blen_256 hz
  rw [e]
  refine And.intro ⟨by omega,(show (((x / 4294967296:Nat):Int)<256) by omega)⟩ ?_
  exact RetK.pure (by simp only [rs169,rsb,vcd,↓vcp,seval]) (by (simp only [rs169,rsb,enb,vcd,↓vcp,seval])<;>(first|(change IntKind.i64.wrap (_+IntKind.i64.wrap (sAt tab (x / 4294967296)))=_;rw [et,wI (a:=((blen (x / 4294967296):Nat):Int)) (by omega)];rw [q32];generalize blen (x / 4294967296)=w at *;simp only [IntKind.wrap_i64];omega)))
 ·simp only [ge_iff_le,decide_eq_true_eq,decide_eq_false_iff_not,Int.not_le] at *
  have hz:x / 65536 / 256<256:=by omega
  have q16:=blen_shift (x:=x) (k:=16) (by omega)
  rw [show (2:Nat) ^ 16=65536 from rfl] at q16
  have q8:=blen_shift (x:=x / 65536) (k:=8) (by omega)
  rw [show (2:Nat) ^ 8=256 from rfl] at q8
  have e:=u8n hz
  have et:=tab_ok _ hz
  have hb:=blen_256 hz
  rw [e]
  refine And.intro ⟨by omega,(show (((x / 65536 / 256:Nat):Int)<256) by omega)⟩ ?_
  exact RetK.pure (by simp only [rs169,rsb,vcd,↓vcp,seval]) (by (simp only [rs169,rsb,enb,vcd,↓vcp,seval])<;>(first|(change IntKind.i64.wrap (_+IntKind.i64.wrap (sAt tab (x / 65536 / 256)))=_;rw [et,wI (a:=((blen (x / 65536 / 256):Nat):Int)) (by omega)];rw [q16,q8];generalize blen (x / 65536 / 256)=w at *;simp only [IntKind.wrap_i64];omega)))
 ·simp only [ge_iff_le,decide_eq_true_eq,decide_eq_false_iff_not,Int.not_le] at *
  have hz:x / 65536<256:=by omega
  have q16:=blen_shift (x:=x) (k:=16) (by omega)
  rw [show (2:Nat) ^ 16=65536 from rfl] at q16
  have e:=u8n hz
  have et:=tab_ok _ hz
  have hb:=blen_256 hz
  rw [e]
  refine And.intro ⟨by omega,(show (((x / 65536:Nat):Int)<256) by omega)⟩ ?_
  exact RetK.pure (by simp only [rs169,rsb,vcd,↓vcp,seval]) (by (simp only [rs169,rsb,enb,vcd,↓vcp,seval])<;>(first|(change IntKind.i64.wrap (_+IntKind.i64.wrap (sAt tab (x / 65536)))=_;rw [et,wI (a:=((blen (x / 65536):Nat):Int)) (by omega)];rw [q16];generalize blen (x / 65536)=w at *;simp only [IntKind.wrap_i64];omega)))
 ·simp only [ge_iff_le,decide_eq_true_eq,decide_eq_false_iff_not,Int.not_le] at *
  have hz:x / 256<256:=by omega
  have q8:=blen_shift (x:=x) (k:=8) (by omega)
  rw [show (2:Nat) ^ 8=256 from rfl] at q8
  have e:=u8n hz
  have et:=tab_ok _ hz
  have hb:=blen_256 hz
  rw [e]
  refine And.intro ⟨by omega,(show (((x / 256:Nat):Int)<256) by omega)⟩ ?_
  exact RetK.pure (by simp only [rs169,rsb,vcd,↓vcp,seval]) (by (simp only [rs169,rsb,enb,vcd,↓vcp,seval])<;>(first|(change IntKind.i64.wrap (_+IntKind.i64.wrap (sAt tab (x / 256)))=_;rw [et,wI (a:=((blen (x / 256):Nat):Int)) (by omega)];rw [q8];generalize blen (x / 256)=w at *;simp only [IntKind.wrap_i64];omega)))
 ·simp only [ge_iff_le,decide_eq_true_eq,decide_eq_false_iff_not,Int.not_le] at *
  have hz:x<256:=by omega
  have e:=u8n hz
  have et:=tab_ok _ hz
  have hb:=blen_256 hz
  rw [e]
  refine And.intro ⟨by omega,(show (((x:Nat):Int)<256) by omega)⟩ ?_
  exact RetK.pure (by simp only [rs169,rsb,vcd,↓vcp,seval]) (by (simp only [rs169,rsb,enb,vcd,↓vcp,seval])<;>(first|(change IntKind.i64.wrap (_+IntKind.i64.wrap (sAt tab (x)))=_;rw [et,wI (a:=((blen (x):Nat):Int)) (by omega)];generalize blen (x)=w at *;simp only [IntKind.wrap_i64];omega)))
theorem sLZ (x:Nat) (hx:x<18446744073709551616):Ctr Tryz.prog 200 [.d (.int .u64 x)] [] (.d (.int .i64 ((64-blen x:Nat):Int))) [] []:=by
 have hb:blen x≤64:=by
  by_cases h0:x=0
  ·subst h0;simp [blen]
  ·obtain ⟨n,h1,h2,h3⟩:=blen_spec h0
   rw [h1]
   have:n<64:=(Nat.pow_lt_pow_iff_right (show 1<2 by omega)).1 (show 2 ^ n<2 ^ 64 by omega)
   omega
 refine ctr_pure Tryz.func200 ok200 rfl cc200 cr200 Tryz.ntmps200 (by simp) rfl rfl ?_;intro c hP hfn;simp only [kc200,vcd,↓vcp,seval]
 repeat' first|((first|refine tp hP (by exact sLen64 x hx) ?_|refine tg hP (fun _=>by exact sLen64 x hx) ?_|refine tv hP rfl (by exact sLen64 x hx) ?_);try simp only [vcd,↓vcp,seval])|refine And.intro (fun h=>?_) (fun h=>?_)|refine aO ?_|(refine tA rfl rfl rfl rfl ?_;try simp only [vcd,↓vcp,seval])|refine aT ?_|fail
 exact RetK.pure (by simp only [rs200,rsb,vcd,↓vcp,seval]) (by (simp only [rs200,rsb,enb,vcd,↓vcp,seval])<;>(first|(rw [wI (by omega)];omega)))
theorem kn_dec {u d v v1 v0 q r:Nat} (hv:v=v1*4294967296+v0) (hu:u<v) (hd:d<4294967296) (e:u=q*v1+r) (hc:4294967296≤q∨4294967296*r+d<q*v0):(u*4294967296+d) / v<q:=by
 rw [Nat.div_lt_iff_lt_mul (by omega)]
 rcases hc with h|h
 ·have h1:4294967296*v≤q*v:=Nat.mul_le_mul_right _ h
  omega
 ·have h1:q*v=q*v1*4294967296+q*v0:=by rw [hv,Nat.mul_add,Nat.mul_assoc]
  omega
theorem kn_le {u d v v1 v0 q r:Nat} (hv:v=v1*4294967296+v0) (h0:0<v) (e:u=q*v1+r) (h:q*v0≤4294967296*r+d):q≤(u*4294967296+d) / v:=by
 rw [Nat.le_div_iff_mul_le h0]
 have h1:q*v=q*v1*4294967296+q*v0:=by rw [hv,Nat.mul_add,Nat.mul_assoc]
 omega
theorem kn_lo {u d v v1 v0:Nat} (hv:v=v1*4294967296+v0) (h1:0<v1) (hd:d<4294967296):(u*4294967296+d) / v≤u / v1:=by
 rw [Nat.le_div_iff_mul_le h1]
 have h2:=Nat.div_mul_le_self (u*4294967296+d) v
 generalize (u*4294967296+d) / v=X at *
 have h3:X*v=X*v1*4294967296+X*v0:=by rw [hv,Nat.mul_add,Nat.mul_assoc]
 generalize X*v1=a at *
 omega
theorem kn_start {u v v1 v0:Nat} (hv:v=v1*4294967296+v0) (h1:2147483648≤v1) (h0:v0<4294967296) (hu:u<v):u / v1≤4294967297:=by
 have:u / v1<4294967298:=by
  rw [Nat.div_lt_iff_lt_mul (by omega)]
  omega
 omega
theorem kn_brk {u d v v1 v0 q r:Nat} (hv:v=v1*4294967296+v0) (h0:v0<4294967296) (hv0:0<v) (e:u=q*v1+r) (hq:q≤4294967296) (hr:4294967296≤r):q≤(u*4294967296+d) / v:=by
 refine kn_le hv hv0 e ?_
 have:q*v0≤4294967296*v0:=Nat.mul_le_mul_right _ hq
 omega
theorem kn_join {u d d0 t p q w z:Nat} (h1:u*4294967296+d=p+w) (h2:w*4294967296+d0=q+z) (ht:t=d*4294967296+d0):u*18446744073709551616+t=p*4294967296+q+z:=by
 rw [ht,show (18446744073709551616:Nat)=4294967296*4294967296 from rfl,←Nat.mul_assoc,←Nat.add_assoc,←Nat.add_mul,h1,Nat.add_mul,Nat.add_assoc,h2,Nat.add_assoc]
theorem g1 (u v1:Nat) (hu:u<18446744073709551616):IntKind.u64.wrap ((u / v1:Nat):Int)=((u / v1:Nat):Int):=by
 rw [wUn,Nat.mod_eq_of_lt (Nat.lt_of_le_of_lt (Nat.div_le_self u v1) hu)]
theorem g2 (u v1:Nat) (hu:u<18446744073709551616):IntKind.u64.wrap (((u / v1:Nat):Int)*(v1:Int))=((u / v1*v1:Nat):Int):=by
 have:=Nat.div_mul_le_self u v1
 rw [←Int.natCast_mul,wU (by omega)]
theorem g3 (u v1:Nat) (hu:u<18446744073709551616):IntKind.u64.wrap ((u:Int)-((u / v1*v1:Nat):Int))=((u % v1:Nat):Int):=by
 have h1:=Nat.div_mul_le_self u v1
 have h2:=Nat.div_add_mod' u v1
 have:u % v1≤u:=Nat.mod_le u v1
 exact (wU (by omega)).trans (by omega)
theorem g4 (u d v q w:Nat) (hw:w<18446744073709551616) (e:u*4294967296+d=q*v+w) :
  IntKind.u64.wrap (IntKind.u64.wrap (IntKind.u64.wrap ((u:Int)*4294967296)+(d:Int))-IntKind.u64.wrap ((q:Int)*(v:Int)))=(w:Int):=by
 rw [←Int.natCast_mul]
 generalize q*v=p at *
 simp only [IntKind.wrap_u64]
 omega
theorem gm (x:Nat):IntKind.u64.wrap ((x % 4294967296:Nat):Int)=((x % 4294967296:Nat):Int):=by rw [wU (by omega)]
structure KnI (u d v v1 v0 q r:Nat):Prop where
 lo:(u*4294967296+d) / v≤q
 hi:q≤4294967297
 e:u=q*v1+r
 r:r<4294967296
theorem kn_cond {d v0 q r:Nat} (hd:d<4294967296) (h0:v0<4294967296) (hr:r<4294967296) :
  ((decide ((q:Int)≥4294967296) || decide (IntKind.u64.wrap ((q:Int)*(v0:Int))>IntKind.u64.wrap (IntKind.u64.wrap (4294967296*(r:Int))+(d:Int))))=true)↔(4294967296≤q∨4294967296*r+d<q*v0):=by
 by_cases hq:4294967296≤q
 ·have:(q:Int)≥4294967296:=by omega
  simp [this,hq]
 ·have h1:q*v0≤4294967295*4294967295:=Nat.mul_le_mul (by omega) (by omega)
  have h2:¬ ((q:Int)≥4294967296):=by omega
  rw [←Int.natCast_mul,wU (a:=((q*v0:Nat):Int)) (by omega),wU (a:=4294967296*(r:Int)) (by omega),wU (by omega)]
  simp only [h2,decide_false,Bool.false_or,decide_eq_true_eq,hq,false_or]
  omega
theorem sDiv64 (hi lo y:Nat) (hh:hi<y) (hl:lo<18446744073709551616) (hy:y<18446744073709551616):Ctr Tryz.prog 179 [.d (.int .u64 hi),.d (.int .u64 lo),.d (.int .u64 y)] []
  (.tup [.d (.int .u64 (((hi*18446744073709551616+lo) / y:Nat):Int)),.d (.int .u64 (((hi*18446744073709551616+lo) % y:Nat):Int))]) [] []:=by
 obtain ⟨n,b1,b2,b3⟩:=blen_spec (x:=y) (by omega)
 have hn:n<64:=(Nat.pow_lt_pow_iff_right (show 1<2 by omega)).1 (show 2 ^ n<2 ^ 64 by omega)
 have hs:64-blen y=63-n:=by omega
 have lz:=sLZ y hy
 rw [hs] at lz
 obtain ⟨sh,hsd⟩:∃ sh,63-n=sh:=⟨_,rfl⟩
 rw [hsd] at lz
 obtain ⟨P,hP2⟩:∃ P,2 ^ sh=P:=⟨_,rfl⟩
 obtain ⟨Q,hQ2⟩:∃ Q,2 ^ (64-sh)=Q:=⟨_,rfl⟩
 have hP0:0<P:=hP2▸Nat.two_pow_pos sh
 have hQ0:0<Q:=hQ2▸Nat.two_pow_pos _
 have hPQ:Q*P=18446744073709551616:=by
  rw [←hP2,←hQ2,←Nat.pow_add,show 64-sh+sh=64 by omega]
 obtain ⟨v,hv⟩:∃ v,y*P=v:=⟨_,rfl⟩
 have v63:9223372036854775808≤v:=by
  have h1:2 ^ n*P≤y*P:=Nat.mul_le_mul_right _ b2
  rw [←hP2,←Nat.pow_add,show n+sh=63 by omega,hP2,hv] at h1
  exact h1
 have v64:v<18446744073709551616:=by
  have h1:y*P<2 ^ (n+1)*P:=Nat.mul_lt_mul_of_pos_right b3 hP0
  rw [←hP2,←Nat.pow_add,show n+1+sh=64 by omega,hP2,hv] at h1
  exact h1
 obtain ⟨g,hg⟩:∃ g,lo / Q=g:=⟨_,rfl⟩
 obtain ⟨t,ht⟩:∃ t,lo*P % 18446744073709551616=t:=⟨_,rfl⟩
 have hgP:g<P:=by
  rw [←hg,Nat.div_lt_iff_lt_mul hQ0,Nat.mul_comm,hPQ];exact hl
 have hlo:lo*P=g*18446744073709551616+t:=by
  have h1:=Nat.div_add_mod (lo*P) 18446744073709551616
  have h2:lo*P / 18446744073709551616=g:=by rw [←hPQ,Nat.mul_div_mul_right _ _ hP0,hg]
  rw [h2,ht] at h1;omega
 obtain ⟨u,hu⟩:∃ u,hi*P+g=u:=⟨_,rfl⟩
 have ht64:t<18446744073709551616:=by rw [←ht];exact Nat.mod_lt _ (by omega)
 have hN:(hi*18446744073709551616+lo)*P=u*18446744073709551616+t:=by
  rw [Nat.add_mul,hlo,←hu,Nat.mul_right_comm];omega
 have huv:u<v:=by
  have h1:(hi*18446744073709551616+lo)<y*18446744073709551616:=by omega
  have h2:(hi*18446744073709551616+lo)*P<y*18446744073709551616*P:=Nat.mul_lt_mul_of_pos_right h1 hP0
  rw [hN,Nat.mul_right_comm,hv] at h2
  omega
 have hhP:hi*P<18446744073709551616:=by omega
 have e1:IntKind.u64.wrap (sh:Int)=(sh:Int):=wU (by omega)
 have e2:(2:Int) ^ min sh IntKind.u64.bits=(P:Int):=by
  rw [show min sh IntKind.u64.bits=sh from Nat.min_eq_left (show sh≤64 by omega),←hP2];simp
 have e3:IntKind.u64.wrap ((y:Int)*(P:Int))=(v:Int):=by rw [←Int.natCast_mul,hv,wU (by omega)]
 have e4:IntKind.u64.wrap ((hi:Int)*(P:Int))=((hi*P:Nat):Int):=by rw [←Int.natCast_mul];exact wU (by omega)
 have e5:IntKind.u64.wrap (64-(sh:Int))=((64-sh:Nat):Int):=(wU (by omega)).trans (by omega)
 have e6:(2:Int) ^ min (64-sh) IntKind.u64.bits=(Q:Int):=by
  rw [show min (64-sh) IntKind.u64.bits=64-sh from Nat.min_eq_left (show 64-sh≤64 by omega),←hQ2];simp
 have e7:(lo:Int).fdiv (Q:Int)=(g:Int):=by rw [fdiv_nat,hg]
 have e8:IntKind.u64.wrap ((BitVec.ofInt IntKind.u64.bits ((hi*P:Nat):Int) ||| BitVec.ofInt IntKind.u64.bits (g:Int)).toNat:Int)=(u:Int):=by
  have:=orU_add hi sh g (by rw [hP2];omega) (by rw [hP2];omega) (by omega)
  rw [hP2,hu] at this
  exact this
 have e9:IntKind.u64.wrap ((lo:Int)*(P:Int))=(t:Int):=by rw [←Int.natCast_mul,wUn,ht]
 refine ctr_pure Tryz.func179 ok179 rfl cc179 cr179 Tryz.ntmps179 (by simp) rfl rfl ?_;intro c hP hfn;simp only [kc179,vcd,↓vcp,seval]
 refine ⟨fun h=>?_,fun h=>?_⟩
 ·exfalso;simp at h;omega
 refine ⟨fun h2=>?_,fun h2=>?_⟩
 ·exfalso;simp at h2;omega
 refine ⟨fun h3=>?_,fun h3=>?_⟩
 ·have h0:hi=0:=by simpa using h3
  subst h0
  repeat' first|refine And.intro (fun h=>?_) (fun h=>?_)|refine aO ?_|(refine tA rfl rfl rfl rfl ?_;try simp only [vcd,↓vcp,seval])|refine aT ?_|fail
  (refine RetK.pure (by simp only [rs179,rsb,vcd,↓vcp,seval]) (VLe.tups ?_);simp only [rs179,rsb,vcd,↓vcp,seval])
  refine ⟨VLe.int ?_,VLe.int ?_,trivial⟩
  ·simp only [tdiv_nat,g1 _ _ hl,Nat.zero_mul,Nat.zero_add]
  ·simp only [tmod_nat,Nat.zero_mul,Nat.zero_add]
 have hv1:v=v / 4294967296*4294967296+v % 4294967296:=by omega
 have hv1b:2147483648≤v / 4294967296:=by omega
 have hv0:v % 4294967296<4294967296:=by omega
 obtain ⟨v1,hv1d⟩:∃ v1,v / 4294967296=v1:=⟨_,rfl⟩
 obtain ⟨v0,hv0d⟩:∃ v0,v % 4294967296=v0:=⟨_,rfl⟩
 obtain ⟨d,hdd⟩:∃ d,t / 4294967296=d:=⟨_,rfl⟩
 obtain ⟨d0,hd0d⟩:∃ d0,t % 4294967296=d0:=⟨_,rfl⟩
 have hd:d<4294967296:=by omega
 have hd0:d0<4294967296:=by omega
 have f1:(v:Int).fdiv 4294967296=(v1:Int):=by rw [fdivL,hv1d]
 have f2:(t:Int).fdiv 4294967296=(d:Int):=by rw [fdivL,hdd]
 have f3:IntKind.u64.wrap ((BitVec.ofInt IntKind.u64.bits (v:Int) &&& BitVec.ofInt IntKind.u64.bits 4294967295).toNat:Int)=(v0:Int):=by rw [andN,gm,hv0d]
 have f4:IntKind.u64.wrap ((BitVec.ofInt IntKind.u64.bits (t:Int) &&& BitVec.ofInt IntKind.u64.bits 4294967295).toNat:Int)=(d0:Int):=by rw [andN,gm,hd0d]
 rw [hv1d,hv0d] at hv1
 rw [hv1d] at hv1b
 rw [hv0d] at hv0
 have hu64:u<18446744073709551616:=by omega
 have f5:IntKind.u64.wrap ((u:Int).tdiv (v1:Int))=((u / v1:Nat):Int):=by rw [tdiv_nat,g1 _ _ hu64]
 have hdiv:∀ q r,KnI u d v v1 v0 q r→(4294967296≤q∨4294967296*r+d<q*v0)→(u*4294967296+d) / v+1≤q:=fun q r h hc=>kn_dec hv1 huv hd h.e hc
 obtain ⟨q1,hq1⟩:∃ q1,(u*4294967296+d) / v=q1:=⟨_,rfl⟩
 obtain ⟨w,hw⟩:∃ w,(u*4294967296+d) % v=w:=⟨_,rfl⟩
 have hwv:w<v:=by rw [←hw];exact Nat.mod_lt _ (by omega)
 have hqw:u*4294967296+d=q1*v+w:=by
  have:=Nat.div_add_mod' (u*4294967296+d) v
  rw [hq1,hw] at this;exact this.symm
 obtain ⟨q0,hq0⟩:∃ q0,(w*4294967296+d0) / v=q0:=⟨_,rfl⟩
 obtain ⟨z,hz⟩:∃ z,(w*4294967296+d0) % v=z:=⟨_,rfl⟩
 have hzv:z<v:=by rw [←hz];exact Nat.mod_lt _ (by omega)
 have hqz:w*4294967296+d0=q0*v+z:=by
  have:=Nat.div_add_mod' (w*4294967296+d0) v
  rw [hq0,hz] at this;exact this.symm
 have hq1b:q1<4294967296:=by rw [←hq1,Nat.div_lt_iff_lt_mul (by omega)];omega
 have hq0b:q0<4294967296:=by rw [←hq0,Nat.div_lt_iff_lt_mul (by omega)];omega
 have hw64:w<18446744073709551616:=by omega
 have hz64:z<18446744073709551616:=by omega
 have f6:=g4 u d v q1 w hw64 hqw
 have f7:=g4 w d0 v q0 z hz64 hqz
 have f8:IntKind.u64.wrap ((w:Int).tdiv (v1:Int))=((w / v1:Nat):Int):=by rw [tdiv_nat,g1 _ _ hw64]
 have hfin:hi*18446744073709551616+lo=(q1*4294967296+q0)*y+z / P∧z / P<y:=by
  have h1:(hi*18446744073709551616+lo)*P=(q1*4294967296+q0)*v+z:=by
   have ht2:t=d*4294967296+d0:=by omega
   have h2:(q1*4294967296+q0)*v=q1*v*4294967296+q0*v:=by rw [Nat.add_mul,Nat.mul_right_comm]
   rw [hN,h2];exact kn_join hqw hqz ht2
  have h3:(hi*18446744073709551616+lo)*P=(q1*4294967296+q0)*y*P+z:=by rw [h1,←hv,Nat.mul_assoc]
  have h4:z=((hi*18446744073709551616+lo)-(q1*4294967296+q0)*y)*P:=by rw [Nat.sub_mul];omega
  have h5:z / P=(hi*18446744073709551616+lo)-(q1*4294967296+q0)*y:=by rw [h4,Nat.mul_div_cancel _ hP0]
  have h6:(q1*4294967296+q0)*y≤hi*18446744073709551616+lo:=Nat.le_of_mul_le_mul_right (by omega) hP0
  refine ⟨by rw [h5];exact (Nat.add_sub_cancel' h6).symm,?_⟩
  rw [Nat.div_lt_iff_lt_mul hP0,hv];exact hzv
 have hqq:(hi*18446744073709551616+lo) / y=q1*4294967296+q0:=by
  rw [hfin.1,Nat.mul_comm _ y,Nat.mul_add_div (by omega),Nat.div_eq_of_lt hfin.2,Nat.add_zero]
 have hrr:(hi*18446744073709551616+lo) % y=z / P:=by
  rw [hfin.1,Nat.mul_comm _ y,Nat.mul_add_mod,Nat.mod_eq_of_lt hfin.2]
 repeat' first|((first|refine tp hP (by exact lz) ?_|refine tg hP (fun _=>by exact lz) ?_|refine tv hP rfl (by exact lz) ?_);try simp only [p32,e1,e2,e3,e4,e5,e6,e7,e8,e9,f1,f2,f3,f4,f5,g2 u v1 hu64,g3 u v1 hu64,vcd,↓vcp,seval])|refine And.intro (fun h=>?_) (fun h=>?_)|refine aO ?_|(refine tA rfl rfl rfl rfl ?_;try simp only [p32,e1,e2,e3,e4,e5,e6,e7,e8,e9,f1,f2,f3,f4,f5,g2 u v1 hu64,g3 u v1 hu64,vcd,↓vcp,seval])|refine aT ?_|fail
 refine vcC.loopX (X:=Nat×Nat) (Y:=Unit) (fun x=>⟨[(2,.d (.int .u64 v)),(8,.d (.int .u64 sh)),(9,.d (.int .u64 v1)),(10,.d (.int .u64 v0)),(11,.d (.int .u64 u)),(13,.d (.int .u64 d)),(14,.d (.int .u64 d0)),(15,.d (.int .u64 x.1)),(16,.d (.int .u64 x.2))],[],[]⟩)
  (fun x=>KnI u d v v1 v0 x.1 x.2) (fun x=>x.1) (u / v1,u % v1)
  (fun _=>⟨[(2,.d (.int .u64 v)),(8,.d (.int .u64 sh)),(9,.d (.int .u64 v1)),(10,.d (.int .u64 v0)),(11,.d (.int .u64 u)),(13,.d (.int .u64 d)),(14,.d (.int .u64 d0)),(15,.d (.int .u64 q1))],[],[]⟩) (fun _=>True)
  ⟨kn_lo hv1 (by omega) hd,kn_start hv1 hv1b hv0 huv,(Nat.div_add_mod' u v1).symm,by have:=Nat.mod_lt u (show 0<v1 by omega);omega⟩ (Wk.of [] hfn rfl (by simp only [enb,vcd,↓vcp,seval]) (by simp only [enb,vcd,↓vcp,seval])) ?_ ?_
 ·rintro ⟨q,r⟩ hk
  simp only at hk
  have hc:=kn_cond (q:=q) hd hv0 hk.r
  simp only [vcd,↓vcp,seval]
  refine ⟨fun h4=>?_,fun h4=>?_⟩
  ·have h5:=hdiv q r hk (hc.1 h4)
   have k1:=hk.e
   have k2:=hk.r
   have k3:=hk.hi
   have c1:IntKind.u64.wrap ((q:Int)-1)=((q-1:Nat):Int):=(wU (by omega)).trans (by omega)
   have c2:IntKind.u64.wrap ((r:Int)+(v1:Int))=((r+v1:Nat):Int):=(wU (by omega)).trans (by omega)
   have c3:u=(q-1)*v1+(r+v1):=by
    have:q*v1=(q-1)*v1+v1:=by
     rw [←Nat.succ_mul];congr 1;omega
    omega
   simp only [c1,c2]
   refine ⟨fun h6=>?_,fun h6=>?_⟩
   ·have h7:4294967296≤r+v1:=by have:=of_decide_eq_true h6;omega
    have h8:=kn_brk (d:=d) hv1 hv0 (by omega) c3 (by omega) h7
    refine ⟨(),Wk.of [] hfn rfl (by simp only [enb,vcd,↓vcp,seval];omega) (by simp only [enb,vcd,↓vcp,seval])⟩
   ·have h7:r+v1<4294967296:=by have:=of_decide_eq_false h6;omega
    exact lopX.on (q-1,r+v1) ⟨by simp only;omega,by simp only;omega,c3,h7⟩ (by simp only;omega) (Wk.of [] hfn rfl (by simp only [enb,vcd,↓vcp,seval]) (by simp only [enb,vcd,↓vcp,seval]))
  ·have h5:¬ (4294967296≤q∨4294967296*r+d<q*v0):=fun e=>by rw [hc.2 e] at h4;cases h4
   have h8:=kn_le (d:=d) hv1 (by omega) hk.e (by omega)
   have h9:=hk.lo
   exact ⟨(),Wk.of [] hfn rfl (by simp only [enb,vcd,↓vcp,seval];omega) (by simp only [enb,vcd,↓vcp,seval])⟩
 ·rintro - -
  simp only [f6,f8,g2 w v1 hw64,g3 w v1 hw64,vcd,↓vcp,seval]
  refine ⟨by omega,?_⟩
  have hdiv2:∀ q r,KnI w d0 v v1 v0 q r→(4294967296≤q∨4294967296*r+d0<q*v0)→(w*4294967296+d0) / v+1≤q:=fun q r h hc=>kn_dec hv1 hwv hd0 h.e hc
  refine vcC.loopX (X:=Nat×Nat) (Y:=Unit) (fun x=>⟨[(2,.d (.int .u64 v)),(8,.d (.int .u64 sh)),(9,.d (.int .u64 v1)),(10,.d (.int .u64 v0)),(14,.d (.int .u64 d0)),(15,.d (.int .u64 q1)),(17,.d (.int .u64 w)),(18,.d (.int .u64 x.1)),(16,.d (.int .u64 x.2))],[],[]⟩)
   (fun x=>KnI w d0 v v1 v0 x.1 x.2) (fun x=>x.1) (w / v1,w % v1)
   (fun _=>⟨[(2,.d (.int .u64 v)),(8,.d (.int .u64 sh)),(14,.d (.int .u64 d0)),(15,.d (.int .u64 q1)),(17,.d (.int .u64 w)),(18,.d (.int .u64 q0))],[],[]⟩) (fun _=>True)
   ⟨kn_lo hv1 (by omega) hd0,kn_start hv1 hv1b hv0 hwv,(Nat.div_add_mod' w v1).symm,by have:=Nat.mod_lt w (show 0<v1 by omega);omega⟩ (Wk.of [] hfn rfl (by simp only [enb,vcd,↓vcp,seval]) (by simp only [enb,vcd,↓vcp,seval])) ?_ ?_
  ·rintro ⟨q,r⟩ hk
   simp only at hk
   have hc:=kn_cond (q:=q) hd0 hv0 hk.r
   simp only [vcd,↓vcp,seval]
   refine ⟨fun h4=>?_,fun h4=>?_⟩
   ·have h5:=hdiv2 q r hk (hc.1 h4)
    have k1:=hk.e
    have k2:=hk.r
    have k3:=hk.hi
    have c1:IntKind.u64.wrap ((q:Int)-1)=((q-1:Nat):Int):=(wU (by omega)).trans (by omega)
    have c2:IntKind.u64.wrap ((r:Int)+(v1:Int))=((r+v1:Nat):Int):=(wU (by omega)).trans (by omega)
    have c3:w=(q-1)*v1+(r+v1):=by
     have:q*v1=(q-1)*v1+v1:=by
      rw [←Nat.succ_mul];congr 1;omega
     omega
    simp only [c1,c2]
    refine ⟨fun h6=>?_,fun h6=>?_⟩
    ·have h7:4294967296≤r+v1:=by have:=of_decide_eq_true h6;omega
     have h8:=kn_brk (d:=d0) hv1 hv0 (by omega) c3 (by omega) h7
     refine ⟨(),Wk.of [] hfn rfl (by simp only [enb,vcd,↓vcp,seval];omega) (by simp only [enb,vcd,↓vcp,seval])⟩
    ·have h7:r+v1<4294967296:=by have:=of_decide_eq_false h6;omega
     exact lopX.on (q-1,r+v1) ⟨by simp only;omega,by simp only;omega,c3,h7⟩ (by simp only;omega) (Wk.of [] hfn rfl (by simp only [enb,vcd,↓vcp,seval]) (by simp only [enb,vcd,↓vcp,seval]))
   ·have h5:¬ (4294967296≤q∨4294967296*r+d0<q*v0):=fun e=>by rw [hc.2 e] at h4;cases h4
    have h8:=kn_le (d:=d0) hv1 (by omega) hk.e (by omega)
    have h9:=hk.lo
    exact ⟨(),Wk.of [] hfn rfl (by simp only [enb,vcd,↓vcp,seval];omega) (by simp only [enb,vcd,↓vcp,seval])⟩
  ·rintro - -
   have f9:(z:Int).fdiv (P:Int)=((z / P:Nat):Int):=fdiv_nat z P
   have f10:IntKind.u64.wrap (IntKind.u64.wrap ((q1:Int)*4294967296)+(q0:Int))=((q1*4294967296+q0:Nat):Int):=by
    rw [wU (a:=(q1:Int)*4294967296) (by omega),wU (by omega)];omega
   simp only [f7,f9,f10,e2,vcd,↓vcp,seval]
   repeat' first|refine And.intro (fun h=>?_) (fun h=>?_)|refine aO ?_|(refine tA rfl rfl rfl rfl ?_;try simp only [vcd,↓vcp,seval])|refine aT ?_|fail
   exact RetK.pure (by simp only [rs179,rsb,vcd,↓vcp,seval]) (by (simp only [rs179,rsb,enb,vcd,↓vcp,seval])<;>(first|(rw [hqq,hrr];exact VLe.refl _)))
def upE (q r c:Nat):Bool:=decide (c<2*r) || (decide (2*r=c)&&decide (q % 2=1))
def ofR (up:Nat→Nat→Nat→Bool) (a b c:Int):Int×Int:=
 if a<0∨b<0∨c<0 then (0,1)
 else if c=0 then (0,6)
 else if 4000000000000000000<a.toNat*b.toNat / c.toNat then (0,5)
 else if 4000000000000000000<a.toNat*b.toNat / c.toNat+(if up (a.toNat*b.toNat / c.toNat) (a.toNat*b.toNat % c.toNat) c.toNat=true then 1 else 0) then (0,5)
 else (((a.toNat*b.toNat / c.toNat+(if up (a.toNat*b.toNat / c.toNat) (a.toNat*b.toNat % c.toNat) c.toNat=true then 1 else 0):Nat):Int),0)
theorem sOf (g:Nat) (up:Nat→Nat→Nat→Bool) (hg:∀ q r c:Nat,r<c→c<9223372036854775808→Ctr Tryz.prog g [.d (.int .u64 q),.d (.int .u64 r),.d (.int .u64 c)] [] (.d (.bool (up q r c))) [] [])
  (a b k:Int) (ha:a≤9223372036854775807) (hb:b≤9223372036854775807) (hc:k≤9223372036854775807) :
  Ctr Tryz.prog 140 [.ag [.fn (.func g) [] []],.d (.int .i64 a),.d (.int .i64 b),.d (.int .i64 k)] [] (.tup [.d (.int .i64 (ofR up a b k).1),.d (.int .i64 (ofR up a b k).2)]) [] []:=by
 refine ctr_pure Tryz.func140 ok140 rfl cc140 cr140 Tryz.ntmps140 (by simp) rfl rfl ?_;intro c hP hfn;simp only [kc140,vcd,↓vcp,seval]
 refine ⟨fun h1=>?_,fun h1=>?_⟩
 ·have e:ofR up a b k=(0,1):=by
   simp only [Bool.or_eq_true,decide_eq_true_eq] at h1
   rw [ofR,if_pos (by omega)]
  (refine RetK.pure (by simp only [rs140,rsb,vcd,↓vcp,seval]) (VLe.tups ?_);simp only [rs140,rsb,vcd,↓vcp,seval])
  rw [e];exact ⟨VLe.refl _,VLe.refl _,trivial⟩
 have h1:¬ (a<0∨b<0∨k<0):=by
  simp only [Bool.or_eq_false_iff,decide_eq_false_iff_not] at h1;omega
 refine ⟨fun h2=>?_,fun h2=>?_⟩
 ·have h2:k=0:=by simpa using h2
  have e:ofR up a b k=(0,6):=by rw [ofR,if_neg h1,if_pos h2]
  (refine RetK.pure (by simp only [rs140,rsb,vcd,↓vcp,seval]) (VLe.tups ?_);simp only [rs140,rsb,vcd,↓vcp,seval])
  rw [e];exact ⟨VLe.refl _,VLe.refl _,trivial⟩
 have h2:¬ k=0:=by simpa using h2
 obtain ⟨A,rfl⟩:∃ A:Nat,a=(A:Int):=⟨a.toNat,by omega⟩
 obtain ⟨B,rfl⟩:∃ B:Nat,b=(B:Int):=⟨b.toNat,by omega⟩
 obtain ⟨C,rfl⟩:∃ C:Nat,k=(C:Int):=⟨k.toNat,by omega⟩
 have e1:IntKind.u64.wrap (A:Int)=(A:Int):=wU (by omega)
 have e2:IntKind.u64.wrap (B:Int)=(B:Int):=wU (by omega)
 have e3:IntKind.u64.wrap (C:Int)=(C:Int):=wU (by omega)
 have hR:ofR up (A:Int) (B:Int) (C:Int)=(if 4000000000000000000<A*B / C then (0,5) else
   if 4000000000000000000<A*B / C+(if up (A*B / C) (A*B % C) C=true then 1 else 0) then (0,5)
   else (((A*B / C+(if up (A*B / C) (A*B % C) C=true then 1 else 0):Nat):Int),0)):=by
  rw [ofR,if_neg h1,if_neg h2];rfl
 have hm:=Nat.div_add_mod (A*B) 18446744073709551616
 have hml:A*B % 18446744073709551616<18446744073709551616:=Nat.mod_lt _ (by omega)
 have hC0:0<C:=by omega
 simp only [e1,e2,e3]
 repeat' first|((first|refine tp hP (by exact sMul64 A B (by omega) (by omega)) ?_|refine tg hP (fun _=>by exact sMul64 A B (by omega) (by omega)) ?_|refine tv hP rfl (by exact sMul64 A B (by omega) (by omega)) ?_);try simp only [e1,e2,e3,vcd,↓vcp,seval])|refine And.intro (fun h=>?_) (fun h=>?_)|refine aO ?_|(refine tA rfl rfl rfl rfl ?_;try simp only [e1,e2,e3,vcd,↓vcp,seval])|refine aT ?_|fail
 ·have h3:4000000000000000000<A*B / C:=by
   have h:=of_decide_eq_true h
   have h4:C≤A*B / 18446744073709551616:=by omega
   have h5:C*18446744073709551616≤A*B:=by
    have:=(Nat.le_div_iff_mul_le (by omega)).1 h4;exact this
   have h6:18446744073709551616≤A*B / C:=(Nat.le_div_iff_mul_le hC0).2 (by omega)
   omega
  (refine RetK.pure (by simp only [rs140,rsb,vcd,↓vcp,seval]) (VLe.tups ?_);simp only [rs140,rsb,vcd,↓vcp,seval])
  rw [hR,if_pos h3];exact ⟨VLe.refl _,VLe.refl _,trivial⟩
 have hh:A*B / 18446744073709551616<C:=by have:=of_decide_eq_false h;omega
 have hd:=sDiv64 (A*B / 18446744073709551616) (A*B % 18446744073709551616) C hh hml (by omega)
 rw [show A*B / 18446744073709551616*18446744073709551616+A*B % 18446744073709551616=A*B by omega] at hd
 have hrC:A*B % C<C:=Nat.mod_lt _ hC0
 generalize A*B / C=q at *
 generalize A*B % C=r at *
 repeat' first|((first|refine tp hP (by first|exact hd|exact hg q r C hrC (by omega)) ?_|refine tg hP (fun _=>by first|exact hd|exact hg q r C hrC (by omega)) ?_|refine tv hP rfl (by first|exact hd|exact hg q r C hrC (by omega)) ?_);try simp only [e1,e2,e3,vcd,↓vcp,seval])|refine And.intro (fun h=>?_) (fun h=>?_)|refine aO ?_|(refine tA rfl rfl rfl rfl ?_;try simp only [e1,e2,e3,vcd,↓vcp,seval])|refine aT ?_|fail
 ·have h4:4000000000000000000<q:=by have:=of_decide_eq_true h;omega
  (refine RetK.pure (by simp only [rs140,rsb,vcd,↓vcp,seval]) (VLe.tups ?_);simp only [rs140,rsb,vcd,↓vcp,seval])
  rw [hR,if_pos h4];exact ⟨VLe.refl _,VLe.refl _,trivial⟩
 ·rename_i h5 h6
  have h4:¬ 4000000000000000000<q:=by have:=of_decide_eq_false h5;omega
  have e4:IntKind.u64.wrap ((q:Int)+1)=((q+1:Nat):Int):=(wU (by omega)).trans (by omega)
  rw [e4] at h
  have h7:4000000000000000000<q+1:=by have:=of_decide_eq_true h;omega
  (refine RetK.pure (by simp only [rs140,rsb,vcd,↓vcp,seval]) (VLe.tups ?_);simp only [rs140,rsb,vcd,↓vcp,seval])
  rw [hR,if_neg h4,if_pos h6,if_pos h7];exact ⟨VLe.refl _,VLe.refl _,trivial⟩
 ·rename_i h5 h6
  have h4:¬ 4000000000000000000<q:=by have:=of_decide_eq_false h5;omega
  have e4:IntKind.u64.wrap ((q:Int)+1)=((q+1:Nat):Int):=(wU (by omega)).trans (by omega)
  rw [e4] at h
  have h7:¬ 4000000000000000000<q+1:=by have:=of_decide_eq_false h;omega
  (refine RetK.pure (by simp only [rs140,rsb,vcd,↓vcp,seval]) (VLe.tups ?_);simp only [rs140,rsb,vcd,↓vcp,seval])
  rw [hR,if_neg h4,if_pos h6,if_neg h7,e4,wI (a:=((q+1:Nat):Int)) (by omega)];exact ⟨VLe.refl _,VLe.refl _,trivial⟩
 ·rename_i h5 h6
  exfalso;rw [h5] at h;cases h
 ·rename_i h5 h6
  have h4:¬ 4000000000000000000<q:=by have:=of_decide_eq_false h5;omega
  have h8:¬ (up q r C=true):=by rw [h6];simp
  (refine RetK.pure (by simp only [rs140,rsb,vcd,↓vcp,seval]) (VLe.tups ?_);simp only [rs140,rsb,vcd,↓vcp,seval])
  rw [hR,if_neg h4,if_neg h8,Nat.add_zero,if_neg h4,wI (a:=(q:Int)) (by omega)];exact ⟨VLe.refl _,VLe.refl _,trivial⟩
end Go.Proofs.YtanppabbmffokaaGreat
end
section
namespace Go.Proofs.YtanppabbmffokaaGreat
open Go.Bx
set_option maxRecDepth 10000
theorem sUpE (q r c:Nat) (hr:r<c) (hc:c<9223372036854775808):Ctr Tryz.prog 178 [.d (.int .u64 q),.d (.int .u64 r),.d (.int .u64 c)] [] (.d (.bool (upE q r c))) [] []:=by
 have e1:IntKind.u64.wrap ((c:Int)-(r:Int))=((c-r:Nat):Int):=(wU (by omega)).trans (by omega)
 have e2:(q:Int).tmod 2=((q % 2:Nat):Int):=tmod_nat q 2
 refine ctr_pure Tryz.func178 ok178 rfl cc178 cr178 Tryz.ntmps178 (by simp) rfl rfl ?_;intro c hP hfn;simp only [kc178,e1,e2,vcd,↓vcp,seval]
 repeat' first|refine And.intro (fun h=>?_) (fun h=>?_)|refine aO ?_|(refine tA rfl rfl rfl rfl ?_;try simp only [e1,e2,vcd,↓vcp,seval])|refine aT ?_|fail
 exact RetK.pure (by simp only [rs178,rsb,vcd,↓vcp,seval]) (by (simp only [rs178,rsb,enb,vcd,↓vcp,seval])<;>(first|(rw [Bool.eq_iff_iff];simp only [upE,Bool.or_eq_true,Bool.and_eq_true,decide_eq_true_eq,beq_iff_eq];omega)))
theorem sEvenS:Ctr Tryz.prog 139 [] [] (.ag [.fn (.func 178) [] []]) [] []:=by
 refine ctr_pure Tryz.func139 ok139 rfl cc139 cr139 Tryz.ntmps139 (by simp) rfl rfl ?_;intro c hP hfn;simp only [kc139,vcd,↓vcp,seval]
 exact RetK.pure (by simp only [rs139,rsb,vcd,↓vcp,seval]) (by simp only [rs139,rsb,enb,vcd,↓vcp,seval])
theorem sEven (a b k:Int) (ha:a≤9223372036854775807) (hb:b≤9223372036854775807) (hc:k≤9223372036854775807) :
  Ctr Tryz.prog 96 [.d (.int .i64 a),.d (.int .i64 b),.d (.int .i64 k)] [] (.tup [.d (.int .i64 (ofR upE a b k).1),.d (.int .i64 (ofR upE a b k).2)]) [] []:=by
 refine ctr_pure Tryz.func96 ok96 rfl cc96 cr96 Tryz.ntmps96 (by simp) rfl rfl ?_;intro c hP hfn;simp only [kc96,vcd,↓vcp,seval]
 repeat' first|((first|refine tp hP (by first|exact sEvenS|exact sOf 178 upE sUpE a b k ha hb hc) ?_|refine tg hP (fun _=>by first|exact sEvenS|exact sOf 178 upE sUpE a b k ha hb hc) ?_|refine tv hP rfl (by first|exact sEvenS|exact sOf 178 upE sUpE a b k ha hb hc) ?_);try simp only [vcd,↓vcp,seval])|refine And.intro (fun h=>?_) (fun h=>?_)|refine aO ?_|(refine tA rfl rfl rfl rfl ?_;try simp only [vcd,↓vcp,seval])|refine aT ?_|fail
 (refine RetK.pure (by simp only [rs96,rsb,vcd,↓vcp,seval]) (VLe.tups ?_);simp only [rs96,rsb,vcd,↓vcp,seval])
 exact ⟨VLe.refl _,VLe.refl _,trivial⟩
def bpR (m bp:Int):Int×Int:=ofR upE m bp 10000
theorem sBp (a b:Int) (ha:a≤9223372036854775807) (hb:b≤9223372036854775807) :
  Ctr Tryz.prog 88 [.d (.int .i64 a),.d (.int .i64 b)] [] (.tup [.d (.int .i64 (bpR a b).1),.d (.int .i64 (bpR a b).2)]) [] []:=by
 refine ctr_pure Tryz.func88 ok88 rfl cc88 cr88 Tryz.ntmps88 (by simp) rfl rfl ?_;intro c hP hfn;simp only [kc88,vcd,↓vcp,seval]
 repeat' first|((first|refine tp hP (by exact sEven a b 10000 ha hb (by omega)) ?_|refine tg hP (fun _=>by exact sEven a b 10000 ha hb (by omega)) ?_|refine tv hP rfl (by exact sEven a b 10000 ha hb (by omega)) ?_);try simp only [vcd,↓vcp,seval])|refine And.intro (fun h=>?_) (fun h=>?_)|refine aO ?_|(refine tA rfl rfl rfl rfl ?_;try simp only [vcd,↓vcp,seval])|refine aT ?_|fail
 (refine RetK.pure (by simp only [rs88,rsb,vcd,↓vcp,seval]) (VLe.tups ?_);simp only [rs88,rsb,vcd,↓vcp,seval])
 exact ⟨VLe.refl _,VLe.refl _,trivial⟩
end Go.Proofs.YtanppabbmffokaaGreat
end
section
namespace Go.Proofs.YtanppabbmffokaaGreat
open Go.Bx
set_option maxRecDepth 10000
theorem ofR_nat {up:Nat→Nat→Nat→Bool} (A B K:Nat) (hk:0<K):ofR up (A:Int) (B:Int) (K:Int)=(if 4000000000000000000<A*B / K then (0,5) else
   if 4000000000000000000<A*B / K+(if up (A*B / K) (A*B % K) K=true then 1 else 0) then (0,5)
   else (((A*B / K+(if up (A*B / K) (A*B % K) K=true then 1 else 0):Nat):Int),0)):=by
 rw [ofR,if_neg (by omega),if_neg (by omega)];rfl
end Go.Proofs.YtanppabbmffokaaGreat
end
section
namespace Go.Proofs.YtanppabbmffokaaGreat
open Go.Bx
set_option maxRecDepth 10000
structure Cv where
 pe:Int
 li:Int
 ag:Int
 de:Int
 sh:Int
deriving DecidableEq
instance:Inhabited Cv:=⟨⟨0,0,0,0,0⟩⟩
def cC (c:Cv):List V:=[.d (.int .i64 c.pe),.d (.int .i64 c.li),.d (.int .i64 c.ag),.d (.int .i64 c.de),.d (.int .i64 c.sh)]
def vC (c:Cv):V:=.ag (cC c)
def sdR (l:List Int):Nat→Bool
 |0=>true
 |k+1=>!(decide (l.getD (k+1) 0<l.getD k 0))&&sdR l k
theorem sNaN (a:Int):Ctr Tryz.prog 173 [.d (.int .i64 a)] [] (.d (.bool false)) [] []:=by
 refine ctr_pure Tryz.func173 ok173 rfl cc173 cr173 Tryz.ntmps173 (by simp) rfl rfl ?_;intro c hP hfn;simp only [kc173,vcd,↓vcp,seval]
 exact RetK.pure (by simp only [rs173,rsb,vcd,↓vcp,seval]) (by (simp only [rs173,rsb,enb,vcd,↓vcp,seval])<;>(first|simp))
theorem sLess (a b:Int):Ctr Tryz.prog 165 [.d (.int .i64 a),.d (.int .i64 b)] [] (.d (.bool (decide (a<b)))) [] []:=by
 refine ctr_pure Tryz.func165 ok165 rfl cc165 cr165 Tryz.ntmps165 (by simp) rfl rfl ?_;intro c hP hfn;simp only [kc165,vcd,↓vcp,seval]
 repeat' first|((first|refine tp hP (by exact sNaN ..) ?_|refine tg hP (fun _=>by exact sNaN ..) ?_|refine tv hP rfl (by exact sNaN ..) ?_);try simp only [vcd,↓vcp,seval])|refine And.intro (fun h=>?_) (fun h=>?_)|refine aO ?_|(refine tA rfl rfl rfl rfl ?_;try simp only [vcd,↓vcp,seval])|refine aT ?_|fail
 exact RetK.pure (by simp only [rs165,rsb,vcd,↓vcp,seval]) (by (simp only [rs165,rsb,enb,vcd,↓vcp,seval])<;>(first|simp))
theorem sSorted (l:List Int) (hl:l.length≤9223372036854775807):Ctr Tryz.prog 184 [.d (slK .i64 l)] [] (.d (.bool (sdR l (l.length-1)))) [] []:=by
 refine ctr_pure Tryz.func184 ok184 rfl cc184 cr184 Tryz.ntmps184 (by simp) rfl rfl ?_;intro c hP hfn;simp only [kc184,vcd,↓vcp,seval]
 refine vcC.loop (X:=Int) (fun x=>⟨[(0,.d (slK .i64 l)),(3,.d (.int .i64 x))],[],[]⟩)
  (fun x=>-1≤x∧x<l.length∧sdR l (l.length-1)=sdR l x.toNat) (fun x=>x.toNat) ((l.length:Int)-1) ⟨by omega,by omega,by congr 1;omega⟩ (Wk.of [] hfn rfl (by simp only [enb,vcd,↓vcp,seval];exact wI (by omega)) (by simp only [enb,vcd,↓vcp,seval])) ?_
 rintro x ⟨h0,h1,he⟩
 simp only [vcd,↓vcp,seval]
 refine ⟨fun h2=>?_,fun h2=>?_⟩
 ·have h2:=of_decide_eq_true h2
  have e1:IntKind.i64.wrap (x-1)=x-1:=wI (by omega)
  have e2:x.toNat=(x-1).toNat+1:=by omega
  rw [e2,sdR,←e2] at he
  simp only [e1]
  repeat' first|((first|refine tp hP (by exact sLess ..) ?_|refine tg hP (fun _=>by exact sLess ..) ?_|refine tv hP rfl (by exact sLess ..) ?_);try simp only [e1,vcd,↓vcp,seval])|refine And.intro (fun h=>?_) (fun h=>?_)|refine aO ?_|(refine tA rfl rfl rfl rfl ?_;try simp only [e1,vcd,↓vcp,seval])|refine aT ?_|fail
  ·exact RetK.pure (by simp only [rs184,rsb,vcd,↓vcp,seval]) (by (simp only [rs184,rsb,enb,vcd,↓vcp,seval])<;>(first|(rw [he,h];rfl)))
  ·rw [h] at he
   exact lopK.on (x-1) ⟨by omega,by omega,by rw [he];rfl⟩ (by omega) (Wk.of [] hfn rfl (by simp only [enb,vcd,↓vcp,seval]) (by simp only [enb,vcd,↓vcp,seval]))
 ·have h2:=of_decide_eq_false h2
  have e2:x.toNat=0:=by omega
  rw [e2,sdR] at he
  exact RetK.pure (by simp only [rs184,rsb,vcd,↓vcp,seval]) (by (simp only [rs184,rsb,enb,vcd,↓vcp,seval])<;>(first|rw [he]))
theorem sSorted' {full:Bool} {n:Nat} {ds:List D} {l:List Int} (h:LitI .i64 ds l) (hn:n=l.length) (hl:l.length≤9223372036854775807):Ctr Tryz.prog 184 [.d (.sl full 1 n (litRow 1 ds))] [] (.d (.bool (sdR l (l.length-1)))) [] []:=
 (sSorted l hl).arg ⟨h.vle hn,trivial⟩
def rightC (c:Cv):Bool:=decide (c.pe≥0)&&decide (c.pe<8)&&(decide (c.sh≥1)&&decide (c.sh≤10000))&&sdR [0,c.de,IntKind.i64.wrap (c.li-1),IntKind.i64.wrap (c.ag-1),999999999999999] 4&&decide (c.de<c.li)
theorem sCover (k:Cv):Ctr Tryz.prog 156 [vC k] [] (.d (.bool (rightC k))) [] []:=by
 refine ctr_pure Tryz.func156 ok156 rfl cc156 cr156 Tryz.ntmps156 (by simp) rfl rfl ?_;intro c hP hfn;simp only [kc156,vC,cC,vcd,↓vcp,seval]
 repeat' first|((first|refine tp hP (by exact sSorted' (by repeat constructor) (by rfl) (by simp)) ?_|refine tg hP (fun _=>by exact sSorted' (by repeat constructor) (by rfl) (by simp)) ?_|refine tv hP rfl (by exact sSorted' (by repeat constructor) (by rfl) (by simp)) ?_);try simp only [vcd,↓vcp,seval])|refine And.intro (fun h=>?_) (fun h=>?_)|refine aO ?_|(refine tA rfl rfl rfl rfl ?_;try simp only [vcd,↓vcp,seval])|refine aT ?_|fail
 exact RetK.pure (by simp only [rs156,rsb,vcd,↓vcp,seval]) (by (simp only [rs156,rsb,enb,vcd,↓vcp,seval])<;>(first|rfl))
structure Rk where
 kd:Int
 va:Int
 ag:Int
 zo:Int
deriving DecidableEq
instance:Inhabited Rk:=⟨⟨0,0,0,0⟩⟩
def cR (r:Rk):List V:=[.d (.int .i64 r.kd),.d (.int .i64 r.va),.d (.int .i64 r.ag),.d (.int .i64 r.zo)]
def vR (r:Rk):V:=.ag (cR r)
def rightR (r:Rk):Bool:=decide (0≤r.kd∧r.kd<4∧1≤r.va∧r.va≤1000000000000000∧0≤r.ag∧r.ag≤200∧0≤r.zo∧r.zo<100)
theorem rightR_iff {r:Rk}:rightR r=true↔0≤r.kd∧r.kd<4∧1≤r.va∧r.va≤1000000000000000∧0≤r.ag∧r.ag≤200∧0≤r.zo∧r.zo<100:=by simp only [rightR,decide_eq_true_eq]
theorem sRisk (r:Rk):Ctr Tryz.prog 130 [vR r] [] (.d (.bool (rightR r))) [] []:=by
 have hr:=@rightR_iff r
 refine ctr_pure Tryz.func130 ok130 rfl cc130 cr130 Tryz.ntmps130 (by simp) rfl rfl ?_;intro c hP hfn;simp only [kc130,vR,cR,vcd,↓vcp,seval]
 exact RetK.pure (by simp only [rs130,rsb,vcd,↓vcp,seval]) (by (simp only [rs130,rsb,enb,vcd,↓vcp,seval])<;>(first|(rw [Bool.eq_iff_iff,hr];simp only [Bool.and_eq_true,decide_eq_true_eq];omega)))
def facB (x:Int):Bool:=decide (0≤x∧x≤100000)
theorem facB_iff {x:Int}:facB x=true↔0≤x∧x≤100000:=by simp only [facB,decide_eq_true_eq]
def idxI (p:Int→Bool):Nat→List Int→Int
 |_,[]=>-1
 |k,x::r=>if p x=true then (k:Int) else idxI p (k+1) r
theorem idxI_any (p:Int→Bool):∀ (l:List Int) (k:Nat),decide (idxI p k l≥0)=l.any p
 |[],k=>by simp [idxI]
 |x::r,k=>by
  by_cases h:p x=true
  ·simp [idxI,h]
  ·simp [idxI,h];simpa using idxI_any p r (k+1)
theorem sIndexF (g:Nat) (p:Int→Bool) (hg:∀ x,Ctr Tryz.prog g [.d (.int .i64 x)] [] (.d (.bool (p x))) [] []) (l:List Int) (hl:l.length≤9223372036854775807):Ctr Tryz.prog 180 [.d (slK .i64 l),.fn (.func g) [] []] [] (.d (.int .i64 (idxI p 0 l))) [] []:=by
 refine ctr_pure Tryz.func180 ok180 rfl cc180 cr180 Tryz.ntmps180 (by simp) rfl rfl ?_;intro c hP hfn;simp only [kc180,vcd,↓vcp,seval]
 refine vcC.loop (X:=Nat) (fun k=>⟨[(0,.d (slK .i64 l)),(1,.fn (.func g) [] []),(7,.d (.int .i64 l.length)),(8,.d (.int .i64 k))],[],[]⟩)
  (fun k=>k≤l.length∧idxI p 0 l=idxI p k (l.drop k)) (fun k=>l.length-k) 0 ⟨Nat.zero_le _,rfl⟩ (Wk.of [] hfn rfl (by (simp only [enb,vcd,↓vcp,seval])<;>(first|exact wS (by omega)|(rw [List.length_append];exact wS (by omega))|assumption)) (by simp only [enb,vcd,↓vcp,seval])) ?_
 rintro k ⟨hk,he⟩
 simp only [vcd,↓vcp,seval]
 refine ⟨fun h1=>?_,fun h1=>?_⟩
 ·have hlt:k<l.length:=by simpa using h1
  obtain ⟨x,hd,hg',-,-⟩:=drop_at hlt
  simp only [hg']
  rw [hd,idxI] at he
  repeat' first|((first|refine tp hP (by exact hg x) ?_|refine tg hP (fun _=>by exact hg x) ?_|refine tv hP rfl (by exact hg x) ?_);try simp only [vcd,↓vcp,seval])|refine And.intro (fun h=>?_) (fun h=>?_)|refine aO ?_|(refine tA rfl rfl rfl rfl ?_;try simp only [vcd,↓vcp,seval])|refine aT ?_|fail
  ·exact RetK.pure (by simp only [rs180,rsb,vcd,↓vcp,seval]) (by (simp only [rs180,rsb,enb,vcd,↓vcp,seval])<;>(first|rw [he,if_pos h]))
  ·refine lopK.on (k+1) ⟨hlt,?_⟩ (by omega) (Wk.of [] hfn rfl (by (simp only [enb,vcd,↓vcp,seval])<;>(first|exact wS (by omega)|(rw [List.length_append];exact wS (by omega))|assumption)) (by simp only [enb,vcd,↓vcp,seval]))
   rw [he,h];simp
 ·have hkl:k=l.length:=by simp at h1;omega
  rw [hkl] at he
  exact RetK.pure (by simp only [rs180,rsb,vcd,↓vcp,seval]) (by (simp only [rs180,rsb,enb,vcd,↓vcp,seval])<;>(first|simp [he,idxI]))
theorem sContainsF (g:Nat) (p:Int→Bool) (hg:∀ x,Ctr Tryz.prog g [.d (.int .i64 x)] [] (.d (.bool (p x))) [] []) (l:List Int) (hl:l.length≤9223372036854775807):Ctr Tryz.prog 143 [.d (slK .i64 l),.fn (.func g) [] []] [] (.d (.bool (l.any p))) [] []:=by
 refine ctr_pure Tryz.func143 ok143 rfl cc143 cr143 Tryz.ntmps143 (by simp) rfl rfl ?_;intro c hP hfn;simp only [kc143,vcd,↓vcp,seval]
 repeat' first|((first|refine tp hP (by exact sIndexF g p hg l hl) ?_|refine tg hP (fun _=>by exact sIndexF g p hg l hl) ?_|refine tv hP rfl (by exact sIndexF g p hg l hl) ?_);try simp only [vcd,↓vcp,seval])|refine And.intro (fun h=>?_) (fun h=>?_)|refine aO ?_|(refine tA rfl rfl rfl rfl ?_;try simp only [vcd,↓vcp,seval])|refine aT ?_|fail
 exact RetK.pure (by simp only [rs143,rsb,vcd,↓vcp,seval]) (by (simp only [rs143,rsb,enb,vcd,↓vcp,seval])<;>(first|exact idxI_any p l 0))
theorem sFac1 (x:Int):Ctr Tryz.prog 144 [.d (.int .i64 x)] [] (.d (.bool (!(facB x)))) [] []:=by
 refine ctr_pure Tryz.func144 ok144 rfl cc144 cr144 Tryz.ntmps144 (by simp) rfl rfl ?_;intro c hP hfn;simp only [kc144,vcd,↓vcp,seval]
 exact RetK.pure (by simp only [rs144,rsb,vcd,↓vcp,seval]) (by (simp only [rs144,rsb,enb,vcd,↓vcp,seval])<;>(first|(rw [Bool.eq_iff_iff];simp only [facB,Bool.or_eq_true,Bool.not_eq_true',decide_eq_true_eq,decide_eq_false_iff_not];omega)))
theorem sFactors (l:List Int) (hl:l.length≤9223372036854775807):Ctr Tryz.prog 102 [.d (slK .i64 l)] [] (.d (.bool (l.all facB))) [] []:=by
 refine ctr_pure Tryz.func102 ok102 rfl cc102 cr102 Tryz.ntmps102 (by simp) rfl rfl ?_;intro c hP hfn;simp only [kc102,vcd,↓vcp,seval]
 repeat' first|((first|refine tp hP (by exact sContainsF _ _ sFac1 l hl) ?_|refine tg hP (fun _=>by exact sContainsF _ _ sFac1 l hl) ?_|refine tv hP rfl (by exact sContainsF _ _ sFac1 l hl) ?_);try simp only [vcd,↓vcp,seval])|refine And.intro (fun h=>?_) (fun h=>?_)|refine aO ?_|(refine tA rfl rfl rfl rfl ?_;try simp only [vcd,↓vcp,seval])|refine aT ?_|fail
 exact RetK.pure (by simp only [rs102,rsb,vcd,↓vcp,seval]) (by (simp only [rs102,rsb,enb,vcd,↓vcp,seval])<;>(first|simp [List.any_eq_not_all_not]))
end Go.Proofs.YtanppabbmffokaaGreat
end
section
namespace Go.Proofs.YtanppabbmffokaaGreat
open Go.Bx
set_option maxRecDepth 10000
def cmpI (a b:Int):Int:=if a<b then -1 else if b<a then 1 else 0
theorem sCmpI (a b:Int):Ctr Tryz.prog 128 [.d (.int .i64 a),.d (.int .i64 b)] [] (.d (.int .i64 (cmpI a b))) [] []:=by
 refine ctr_pure Tryz.func128 ok128 rfl cc128 cr128 Tryz.ntmps128 (by simp) rfl rfl ?_;intro c hP hfn;simp only [kc128,vcd,↓vcp,seval]
 repeat' first|((first|refine tp hP (by first|exact sNaN a|exact sNaN b) ?_|refine tg hP (fun _=>by first|exact sNaN a|exact sNaN b) ?_|refine tv hP rfl (by first|exact sNaN a|exact sNaN b) ?_);try simp only [vcd,↓vcp,seval])|refine And.intro (fun h=>?_) (fun h=>?_)|refine aO ?_|(refine tA rfl rfl rfl rfl ?_;try simp only [vcd,↓vcp,seval])|refine aT ?_|fail
 ·have h':=of_decide_eq_true h
  exact RetK.pure (by simp only [rs128,rsb,vcd,↓vcp,seval]) (by (simp only [rs128,rsb,enb,vcd,↓vcp,seval])<;>(first|simp [cmpI,h']))
 ·have h':=of_decide_eq_true h
  have h2:¬ a<b:=by omega
  exact RetK.pure (by simp only [rs128,rsb,vcd,↓vcp,seval]) (by (simp only [rs128,rsb,enb,vcd,↓vcp,seval])<;>(first|simp only [cmpI,if_neg h2,if_pos h']))
 ·rename_i h0
  have h':=of_decide_eq_false h
  have h2:=of_decide_eq_false h0
  exact RetK.pure (by simp only [rs128,rsb,vcd,↓vcp,seval]) (by (simp only [rs128,rsb,enb,vcd,↓vcp,seval])<;>(first|simp only [cmpI,if_neg h2,if_neg h']))
def rowZ (l:List Int):Go.Bx.Own:=.row 3 1 l.length (fun i=>[.int .i64 (l.getD i 0)])
def fnO (g:Nat) (ds:List D):V:=.fn (.func g) [] [.mem ds]
def ltO (cf:Int→Int→Int) (a b:Int):Bool:=decide (cf a b<0)
structure CmpO (g:Nat) (ds:List D) (cf:Int→Int→Int) (ok:Int→Prop):Prop where
 w:Swo (ltO cf)
 c:∀ a b,ok a→ok b→Ctr Tryz.prog g [.d (.int .i64 a),.d (.int .i64 b),.mem ds] [] (.d (.int .i64 (cf a b))) [] []
theorem getD_at {u:List Int} {p:Int} {w:List Int} {i:Nat} (h:i=u.length):(u++p::w).getD i 0=p:=by subst h;exact getD_mid 0 u p w
theorem TR.gpw {c:Ctx} {b:Bool} {is:List I} {st:St} {acc:List Lg} {K:List Lg→St→Prop} {P:Program} (hP:c.P=P) {d:Option Nat} {s:Nat} {want gc:Bool} {x:X} {f:Nat} {first cap:List V} {xs:List X} {res:V} (hg:gOf st.env s want=some gc)
  (hx:gc=true→evV st x=.fn (.func f) first cap) (hS:gc=true→Ctr P f (first++(evVs st xs++cap)) [] res [] []) (hsx:gc=true→evS true st x) (hs:gc=true→evSs true st xs)
  (h:vcR c b is (st.stp d { val:=.gd gc res,upd:=[],rd:=[],new:=[] }) (lgs b acc ⟨[],[]⟩) K):TR c b (⟨d,some (s,want),.callv x xs⟩::is) st acc K:=
 TR.cons { val:=.gd gc res,upd:=[],rd:=[],new:=[] } (valid_gd_pure hg fun e=>valid_callv (hx e) (by rw [hP];exact hS e) (hsx e) (hs e) (fun k o h=>by simp at h) (by simp [keysO])) (fun k hk=>by simp at hk) (vcR_ok h)
theorem OLe.swz {e:Nat} {l l':List Int} {i j:Nat} {u v:Int} (hi:i<l.length) (hj:j<l.length) (hu:l.getD i 0=u) (hv:l.getD j 0=v) (h:l'=swq 0 l i j) :
  OLe (.row e 1 l.length (fun i'=>if i'=j then putD (if j=i then putD [.int .i64 u] 0 [.int .i64 v] else [.int .i64 v]) 0 [.int .i64 u] else if i'=i then putD [.int .i64 u] 0 [.int .i64 v] else [.int .i64 (l.getD i' 0)]))
   (.row e 1 l'.length (fun i=>[.int .i64 (l'.getD i 0)])):=by
 subst h
 refine OLe.row (swq_len _ _ _ _).symm fun m hm=>?_
 rw [swq_get 0 hi hj m,hu,hv]
 by_cases e1:m=j
 ·subst e1;simp only [if_true];split<;>simp [putD]
 ·rw [if_neg e1,if_neg e1]
  by_cases e2:m=i
  ·subst e2;simp [putD]
  ·rw [if_neg e2,if_neg e2]
theorem sInsert {g:Nat} {ds:List D} {cf:Int→Int→Int} {ok:Int→Prop} (hc:CmpO g ds cf ok) (P M S:List Int) (hok:∀ x,x∈M→ok x) (hl:P.length+(M.length+S.length)≤4611686018427387904) :
  Ctr Tryz.prog 201 [.osl 900,.d (.int .i64 P.length),.d (.int .i64 ((P.length+M.length:Nat):Int)),fnO g ds] [(900,rowZ (P++(M++S)))] (.tup []) [(900,rowZ (P++(srt (ltO cf) [] M++S)))] []:=by
 refine ctr_own Tryz.func201 ok201 rfl cc201 cr201 Tryz.ntmps201 (by simp) rfl ?_
 intro c hP hfn
 have w1:IntKind.i64.wrap ((P.length:Int)+1)=((P.length+1:Nat):Int):=wS (by omega)
 simp only [kc201,namesL,V.names,ownNames,rowZ,fnO,w1,vcd,↓vcp,seval]
 refine vcC.loop (X:=Nat×List Int) (fun x=>⟨[(0,.osl 900),(1,.d (.int .i64 P.length)),(2,.d (.int .i64 ((P.length+M.length:Nat):Int))),(3,fnO g ds),(8,.d (.int .i64 (x.1:Nat)))],[(900,rowZ x.2)],[900]⟩)
  (fun x=>∃ k,x.1=P.length+k∧1≤k∧(k≤M.length∨k=1)∧x.2=P++(srt (ltO cf) [] (M.take k)++(M.drop k++S))) (fun x=>P.length+M.length-x.1) (P.length+1,P++(M++S)) ⟨1,rfl,Nat.le_refl _,.inr rfl,?_⟩ (Wk.of _ hfn rfl (by simp only [fnO,enb,vcd,↓vcp,seval]) (by simp only [rowZ,enb,vcd,↓vcp,seval])) ?_
 ·cases M with
  |nil=>rfl
  |cons a M=>simp [srt,mrg]
 rintro ⟨i,l⟩ ⟨k,hi,h1,hk,hL⟩
 simp only at hi hL
 by_cases hlt:k<M.length
 ·obtain ⟨e,hd,hg,hm,he⟩:=drop_at hlt
  have oke:=hok e hm
  have d0:decide ((i:Int)<((P.length+M.length:Nat):Int))=true:=decide_eq_true (by omega)
  have tl:(srt (ltO cf) [] (M.take k)).length=k:=by rw [srt_len,List.length_take];simp;omega
  have okT:∀ x,x∈srt (ltO cf) [] (M.take k)→ok x:=fun x hx=>hok x (List.mem_of_mem_take (by simpa using (srt_perm (ltO cf) (M.take k) []).mem_iff.1 hx))
  have hT2:srt (ltO cf) [] (M.take (k+1))=mrg (ltO cf) (srt (ltO cf) [] (M.take k)) [e]:=by
   rw [List.take_add_one,he,srt_app];rfl
  simp only [rowZ,fnO,d0,vcd,↓vcp,seval]
  repeat' first|refine And.intro (fun h=>?_) (fun h=>?_)|refine aO ?_|(refine tA rfl rfl rfl rfl ?_;try simp only [vcd,↓vcp,seval])|refine aT ?_|fail
  refine vcC.loop (X:=Nat×List Int) (fun x=>⟨[(0,.osl 900),(1,.d (.int .i64 P.length)),(2,.d (.int .i64 ((P.length+M.length:Nat):Int))),(3,fnO g ds),(8,.d (.int .i64 (i:Nat))),(9,.d (.int .i64 (x.1:Nat)))],[(900,rowZ x.2)],[900]⟩)
   (fun x=>∃ A B,A++B=srt (ltO cf) [] (M.take k)∧(∀ b,b∈B→ltO cf e b=true)∧x.1=P.length+A.length∧x.2=P++(A++(e::(B++(M.drop (k+1)++S))))) (fun x=>x.1) (i,l) ⟨_,[],List.append_nil _,fun b hb=>by simp at hb,by rw [tl];exact hi,by rw [hL,hd];simp⟩ (Wk.of _ hfn rfl (by simp only [fnO,enb,vcd,↓vcp,seval]) (by simp only [rowZ,enb,vcd,↓vcp,seval])) ?_
  rintro ⟨j,r⟩ ⟨A,B,hAB,hB,hj,hr⟩
  simp only at hj hr
  have hlA:A.length+B.length=k:=by rw [←tl,←hAB,List.length_append]
  have hrl:r.length=P.length+(M.length+S.length):=by rw [hr];simp only [List.length_append,List.length_cons,List.length_drop];omega
  have gj:r.getD j 0=e:=by rw [hr,hj,←List.append_assoc];exact getD_at (by simp)
  have bj:(0:Int)≤(j:Int)∧(j:Int)<(r.length:Int):=by omega
  have w2:IntKind.i64.wrap ((i:Int)+1)=((i+1:Nat):Int):=wS (by omega)
  by_cases hA:A.length=0
  ·have hA0:A=[]:=List.eq_nil_of_length_eq_zero hA
   subst hA0
   rw [List.nil_append] at hAB
   have hres:r=P++(srt (ltO cf) [] (M.take (k+1))++(M.drop (k+1)++S)):=by
    rw [hr,hT2,←hAB,mrg_one_lo hB];simp
   have d1:decide ((j:Int)>(P.length:Int))=false:=decide_eq_false (by simp at hj;omega)
   simp only [rowZ,fnO,d1,w2,vcd,↓vcp,seval]
   refine TR.gpw (gc:=false) (first:=[]) (cap:=[]) (f:=0) (res:=.d (.int .i64 0)) hP rfl (fun h=>by cases h) (fun h=>by cases h) (fun h=>by cases h) (fun h=>by cases h) ?_
   simp only [w2,vcd,↓vcp,seval]
   repeat' first|refine And.intro (fun h=>?_) (fun h=>?_)|refine aO ?_|(refine tA rfl rfl rfl rfl ?_;try simp only [w2,vcd,↓vcp,seval])|refine aT ?_|fail
   refine lopK.on (i+1,r) ⟨k+1,by simp only;omega,by omega,.inl hlt,hres⟩ (by simp only;omega) (Wk.of _ hfn rfl (by simp only [fnO,enb,vcd,↓vcp,seval]) (by simp only [rowZ,enb,vcd,↓vcp,seval]))
  ·obtain ⟨A,x,rfl⟩:∃ A' x,A=A'++[x]:=by
    rcases List.eq_nil_or_concat A with h|⟨m,x,h⟩
    ·rw [h] at hA;exact absurd rfl hA
    ·exact ⟨m,x,by simpa using h⟩
   simp only [List.length_append,List.length_singleton] at hj hlA
   have d1:decide ((j:Int)>(P.length:Int))=true:=decide_eq_true (by omega)
   have e1:IntKind.i64.wrap ((j:Int)-1)=((j-1:Nat):Int):=by rw [wI (by omega)];omega
   have b1:(0:Int)≤((j-1:Nat):Int)∧((j-1:Nat):Int)<(r.length:Int):=by omega
   have g1:r.getD (j-1) 0=x:=by
    have:r=(P++A)++x::(e::(B++(M.drop (k+1)++S))):=by rw [hr];simp
    rw [this];exact getD_at (by simp;omega)
   have okx:ok x:=okT x (by rw [←hAB];simp)
   have cc:=hc.c e x oke okx
   simp only [rowZ,fnO,d1,e1,gj,g1,vcd,↓vcp,seval]
   repeat' first|refine And.intro (fun h=>?_) (fun h=>?_)|refine aO ?_|(refine tA rfl rfl rfl rfl ?_;try simp only [e1,gj,g1,w2,vcd,↓vcp,seval])|refine aT ?_|fail
   refine TR.gpw (gc:=true) hP rfl (fun _=>rfl) (fun _=>cc) (by intro _;simp only [vcd,↓vcp,seval]) (by intro _;simp only [vcd,↓vcp,seval]) ?_
   simp only [e1,gj,g1,vcd,↓vcp,seval]
   repeat' first|refine And.intro (fun h=>?_) (fun h=>?_)|refine aO ?_|(refine tA rfl rfl rfl rfl ?_;try simp only [e1,gj,g1,w2,vcd,↓vcp,seval])|refine aT ?_|fail
   ·refine lopK.on (j-1,swq 0 r j (j-1)) ⟨A,x::B,by rw [←hAB];simp,fun b hb=>?_,by simp only;omega,?_⟩ (by simp only;omega) (Wk.of _ hfn rfl (by simp only [fnO,enb,vcd,↓vcp,seval]) ?_)
    ·rcases List.mem_cons.1 hb with rfl|hb
     ·exact h
     ·exact hB b hb
    ·have:r=(P++A)++x::e::(B++(M.drop (k+1)++S)):=by rw [hr];simp
     simp only [this]
     rw [swq_next' 0 (P++A) x e _ (by simp;omega) (by simp;omega)];simp
    ·simp only [rowZ,enb,vcd,↓vcp,seval]
     exact OLe.swz (by omega) (by omega) gj g1 rfl
   ·have hlo:∀ a,a∈A++[x]→ltO cf e a=false:=fun a ha=>by
     have hS:=srt_sorted hc.w (M.take k) [] List.Pairwise.nil
     rw [←hAB] at hS
     have h8:ltO cf e x=false:=h
     rcases List.mem_append.1 ha with h9|h9
     ·have hS1:=(List.pairwise_append.1 (List.pairwise_append.1 hS).1).2.2 a h9 x (by simp)
      exact hc.w.nt e x a h8 hS1
     ·rw [List.mem_singleton.1 h9];exact h8
    refine lopK.on (i+1,r) ⟨k+1,by simp only;omega,by omega,.inl hlt,?_⟩ (by simp only;omega) (Wk.of _ hfn rfl (by simp only [fnO,w2,enb,vcd,↓vcp,seval]) (by simp only [rowZ,enb,vcd,↓vcp,seval]))
    simp only
    rw [hr,hT2,←hAB,mrg_ins1 hB hlo];simp
 ·have d0:decide ((i:Int)<((P.length+M.length:Nat):Int))=false:=decide_eq_false (by omega)
  have e1:M.take k=M:=List.take_of_length_le (by omega)
  have e2:M.drop k=[]:=List.drop_eq_nil_of_le (by omega)
  rw [e1,e2,List.nil_append] at hL
  simp only [rowZ,fnO,d0,vcd,↓vcp,seval]
  repeat' first|refine And.intro (fun h=>?_) (fun h=>?_)|refine aO ?_|(refine tA rfl rfl rfl rfl ?_;try simp only [vcd,↓vcp,seval])|refine aT ?_|fail
  refine RetK.mk' _ (Wk.refl _ _) (by simp only [rs201,rsb,vcd,↓vcp,seval]) (by simp only [rs201,rsb,enb,vcd,↓vcp,seval]) ?_
  simp only [hL,enb,vcd,↓vcp,seval]
theorem sSwapR {g:Nat} {ds:List D} (l:List Int) (a b n:Nat) (h1:a+n≤b) (h2:b+n≤l.length) (hl:l.length≤4611686018427387904) :
  Ctr Tryz.prog 209 [.osl 900,.d (.int .i64 (a:Int)),.d (.int .i64 (b:Int)),.d (.int .i64 (n:Int)),fnO g ds] [(900,rowZ l)] (.tup []) [(900,rowZ (blkq 0 l a b n))] []:=by
 refine ctr_own Tryz.func209 ok209 rfl cc209 cr209 Tryz.ntmps209 (by simp) rfl ?_
 intro c hP hfn
 simp only [kc209,namesL,V.names,ownNames,rowZ,fnO,vcd,↓vcp,seval]
 refine vcC.loop (X:=Nat×List Int) (fun x=>⟨[(0,.osl 900),(1,.d (.int .i64 (a:Int))),(2,.d (.int .i64 (b:Int))),(3,.d (.int .i64 (n:Int))),(10,.d (.int .i64 (x.1:Nat)))],[(900,rowZ x.2)],[900]⟩)
  (fun x=>x.1≤n∧x.2=blkq 0 l a b x.1) (fun x=>n-x.1) (0,l) ⟨Nat.zero_le _,(blkq_zero 0 l a b).symm⟩ (Wk.of _ hfn rfl (by simp only [fnO,enb,vcd,↓vcp,seval]) (by simp only [rowZ,enb,vcd,↓vcp,seval])) ?_
 rintro ⟨k,r⟩ ⟨hk,hr⟩
 simp only at hk hr
 have hrl:r.length=l.length:=by rw [hr,blkq_len]
 by_cases hlt:k<n
 ·have d0:decide ((k:Int)<(n:Int))=true:=decide_eq_true (by omega)
  have w1:IntKind.i64.wrap ((a:Int)+(k:Int))=((a+k:Nat):Int):=(wI (by omega)).trans (by omega)
  have w2:IntKind.i64.wrap ((b:Int)+(k:Int))=((b+k:Nat):Int):=(wI (by omega)).trans (by omega)
  have w3:IntKind.i64.wrap ((k:Int)+1)=((k+1:Nat):Int):=wS (by omega)
  have b1:(0:Int)≤((a+k:Nat):Int)∧((a+k:Nat):Int)<(r.length:Int):=by omega
  have b2:(0:Int)≤((b+k:Nat):Int)∧((b+k:Nat):Int)<(r.length:Int):=by omega
  obtain ⟨u,gu⟩:∃ u,r.getD (a+k) 0=u:=⟨_,rfl⟩
  obtain ⟨v,gv⟩:∃ v,r.getD (b+k) 0=v:=⟨_,rfl⟩
  simp only [rowZ,d0,w1,w2,gu,gv,vcd,↓vcp,seval]
  repeat' first|refine And.intro (fun h=>?_) (fun h=>?_)|refine aO ?_|(refine tA rfl rfl rfl rfl ?_;try simp only [w1,w2,w3,gu,gv,vcd,↓vcp,seval])|refine aT ?_|fail
  refine lopK.on (k+1,swq 0 r (a+k) (b+k)) ⟨by simp only;omega,?_⟩ (by simp only;omega) (Wk.of _ hfn rfl (by simp only [w3,enb,vcd,↓vcp,seval]) ?_)
  ·simp only [hr];exact blkq_step 0 (by omega) (by omega)
  ·simp only [rowZ,enb,vcd,↓vcp,seval]
   exact OLe.swz (by omega) (by omega) gu gv rfl
 ·have d0:decide ((k:Int)<(n:Int))=false:=decide_eq_false (by omega)
  have hkn:k=n:=by omega
  subst hkn
  simp only [rowZ,d0,vcd,↓vcp,seval]
  repeat' first|refine And.intro (fun h=>?_) (fun h=>?_)|refine aO ?_|(refine tA rfl rfl rfl rfl ?_;try simp only [vcd,↓vcp,seval])|refine aT ?_|fail
  refine RetK.mk' _ (Wk.refl _ _) (by simp only [rs209,rsb,vcd,↓vcp,seval]) (by simp only [rs209,rsb,enb,vcd,↓vcp,seval]) ?_
  simp only [hr,enb,vcd,↓vcp,seval]
theorem sRotate {g:Nat} {ds:List D} (P U W S:List Int) (hu:0<U.length) (hw:0<W.length) (hl:P.length+U.length+W.length+S.length≤4611686018427387904) :
  Ctr Tryz.prog 207 [.osl 900,.d (.int .i64 (P.length:Int)),.d (.int .i64 ((P.length+U.length:Nat):Int)),.d (.int .i64 ((P.length+U.length+W.length:Nat):Int)),fnO g ds] [(900,rowZ (P++(U++(W++S))))] (.tup []) [(900,rowZ (P++(W++(U++S))))] []:=by
 refine ctr_own Tryz.func207 ok207 rfl cc207 cr207 Tryz.ntmps207 (by simp) rfl ?_
 intro c hP hfn
 have w1:IntKind.i64.wrap (((P.length+U.length:Nat):Int)-(P.length:Int))=((U.length:Nat):Int):=(wI (by omega)).trans (by omega)
 have w2:IntKind.i64.wrap (((P.length+U.length+W.length:Nat):Int)-((P.length+U.length:Nat):Int))=((W.length:Nat):Int):=(wI (by omega)).trans (by omega)
 simp only [kc207,namesL,V.names,ownNames,rowZ,fnO,w1,w2,vcd,↓vcp,seval]
 refine vcC.loop (X:=Nat×Nat×List Int) (fun x=>⟨[(0,.osl 900),(2,.d (.int .i64 ((P.length+U.length:Nat):Int))),(4,fnO g ds),(10,.d (.int .i64 (x.1:Nat))),(11,.d (.int .i64 (x.2.1:Nat)))],[(900,rowZ x.2.2)],[900]⟩)
  (fun x=>∃ P' U' W' S',x.1=U'.length∧x.2.1=W'.length∧0<U'.length∧0<W'.length∧P'.length+U'.length=P.length+U.length∧P'.length+U'.length+W'.length+S'.length≤4611686018427387904∧x.2.2=P'++(U'++(W'++S'))∧P++(W++(U++S))=P'++(W'++(U'++S'))) (fun x=>x.1+x.2.1) (U.length,W.length,P++(U++(W++S)))
  ⟨P,U,W,S,rfl,rfl,hu,hw,rfl,hl,rfl,rfl⟩ (Wk.of _ hfn rfl (by simp only [fnO,enb,vcd,↓vcp,seval]) (by simp only [rowZ,enb,vcd,↓vcp,seval])) ?_
 rintro ⟨i,j,r⟩ ⟨P',U',W',S',hi,hj,h1,h2,h3,h5,hr,h4⟩
 simp only at hi hj hr
 have hrl:r.length=P'.length+U'.length+W'.length+S'.length:=by rw [hr];simp only [List.length_append];omega
 have w3:IntKind.i64.wrap (((P.length+U.length:Nat):Int)-(i:Int))=((P'.length:Nat):Int):=(wI (by omega)).trans (by omega)
 by_cases hne:i=j
 ·have d0:((i:Int) != (j:Int))=false:=by rw [bne_eq_false_iff_eq];omega
  have cc:=sSwapR (g:=g) (ds:=ds) r P'.length (P.length+U.length) i (by omega) (by omega) (by omega)
  simp only [rowZ,fnO] at cc
  simp only [rowZ,fnO,d0,w3,vcd,↓vcp,seval]
  repeat' first|refine And.intro (fun h=>?_) (fun h=>?_)|refine aO ?_|(refine tA rfl rfl rfl rfl ?_;try simp only [w3,vcd,↓vcp,seval])|refine aT ?_|fail
  refine TR.call [(900,rowZ r)] [(900,rowZ (blkq 0 r P'.length (P.length+U.length) i))] _ [] (by rw [hP];exact cc) (by repeat' first|exact trivial|(intro _;assumption)|apply And.intro) (hin1 rfl) (by simp [keysO]) (by simp) ?_
  simp only [vcd,↓vcp,seval]
  repeat' first|refine And.intro (fun h=>?_) (fun h=>?_)|refine aO ?_|(refine tA rfl rfl rfl rfl ?_;try simp only [vcd,↓vcp,seval])|refine aT ?_|fail
  refine RetK.mk' _ (Wk.refl _ _) (by simp only [rs207,rsb,vcd,↓vcp,seval]) (by simp only [rs207,rsb,enb,vcd,↓vcp,seval]) ?_
  have e:blkq 0 r P'.length (P.length+U.length) i=P++(W++(U++S)):=by
   rw [hr,h4,hi]
   have:=blkq_app 0 P' U' [] W' S' (by omega) (a:=P'.length) (b:=P.length+U.length) rfl (by simp;omega)
   simpa using this
  rw [e]
  simp only [rowZ,enb,vcd,↓vcp,seval]
 ·have d0:((i:Int) != (j:Int))=true:=by rw [bne_iff_ne];omega
  by_cases hgt:i>j
  ·have d1:decide ((i:Int)>(j:Int))=true:=decide_eq_true (by omega)
   have cc:=sSwapR (g:=g) (ds:=ds) r P'.length (P.length+U.length) j (by omega) (by omega) (by omega)
   have w4:IntKind.i64.wrap ((i:Int)-(j:Int))=((i-j:Nat):Int):=(wI (by omega)).trans (by omega)
   simp only [rowZ,fnO] at cc
   simp only [rowZ,fnO,d0,d1,w3,vcd,↓vcp,seval]
   repeat' first|refine And.intro (fun h=>?_) (fun h=>?_)|refine aO ?_|(refine tA rfl rfl rfl rfl ?_;try simp only [w3,vcd,↓vcp,seval])|refine aT ?_|fail
   refine TR.call [(900,rowZ r)] [(900,rowZ (blkq 0 r P'.length (P.length+U.length) j))] _ [] (by rw [hP];exact cc) (by repeat' first|exact trivial|(intro _;assumption)|apply And.intro) (hin1 rfl) (by simp [keysO]) (by simp) ?_
   simp only [w4,vcd,↓vcp,seval]
   repeat' first|refine And.intro (fun h=>?_) (fun h=>?_)|refine aO ?_|(refine tA rfl rfl rfl rfl ?_;try simp only [w4,vcd,↓vcp,seval])|refine aT ?_|fail
   have tk:∀ Z,U'.take j++(U'.drop j++Z)=U'++Z:=fun Z=>by rw [←List.append_assoc,List.take_append_drop]
   have e:blkq 0 r P'.length (P.length+U.length) j=(P'++W')++(U'.drop j++(U'.take j++S')):=by
    rw [hr]
    have:=blkq_app 0 P' (U'.take j) (U'.drop j) W' S' (by rw [List.length_take];omega) (a:=P'.length) (b:=P.length+U.length) rfl (by rw [List.length_take,List.length_drop];omega)
    rw [List.length_take,Nat.min_eq_left (by omega)] at this
    simpa [tk] using this
   rw [e]
   refine lopK.on (i-j,j,(P'++W')++(U'.drop j++(U'.take j++S'))) ⟨P'++W',U'.drop j,U'.take j,S',?_,?_,?_,?_,?_,?_,rfl,?_⟩ (by simp only;omega) (Wk.of _ hfn rfl (by simp only [fnO,w4,enb,vcd,↓vcp,seval]) (by simp only [rowZ,enb,vcd,↓vcp,seval]))
   ·rw [List.length_drop];simp only;omega
   ·rw [List.length_take];simp only;omega
   ·rw [List.length_drop];omega
   ·rw [List.length_take];omega
   ·rw [List.length_drop,List.length_append];omega
   ·rw [List.length_drop,List.length_append,List.length_take];omega
   ·rw [h4];simp [tk]
  ·have d1:decide ((i:Int)>(j:Int))=false:=decide_eq_false (by omega)
   have w5:IntKind.i64.wrap (((P.length+U.length:Nat):Int)+(j:Int))=((P.length+U.length+j:Nat):Int):=(wI (by omega)).trans (by omega)
   have w6:IntKind.i64.wrap (((P.length+U.length+j:Nat):Int)-(i:Int))=((P.length+U.length+j-i:Nat):Int):=(wI (by omega)).trans (by omega)
   have w4:IntKind.i64.wrap ((j:Int)-(i:Int))=((j-i:Nat):Int):=(wI (by omega)).trans (by omega)
   have cc:=sSwapR (g:=g) (ds:=ds) r P'.length (P.length+U.length+j-i) i (by omega) (by omega) (by omega)
   simp only [rowZ,fnO] at cc
   simp only [rowZ,fnO,d0,d1,w3,w5,w6,vcd,↓vcp,seval]
   repeat' first|refine And.intro (fun h=>?_) (fun h=>?_)|refine aO ?_|(refine tA rfl rfl rfl rfl ?_;try simp only [w3,w5,w6,vcd,↓vcp,seval])|refine aT ?_|fail
   refine TR.call [(900,rowZ r)] [(900,rowZ (blkq 0 r P'.length (P.length+U.length+j-i) i))] _ [] (by rw [hP];exact cc) (by repeat' first|exact trivial|(intro _;assumption)|apply And.intro) (hin1 rfl) (by simp [keysO]) (by simp) ?_
   simp only [w4,vcd,↓vcp,seval]
   repeat' first|refine And.intro (fun h=>?_) (fun h=>?_)|refine aO ?_|(refine tA rfl rfl rfl rfl ?_;try simp only [w4,vcd,↓vcp,seval])|refine aT ?_|fail
   have tk:∀ Z,W'.take (j-i)++(W'.drop (j-i)++Z)=W'++Z:=fun Z=>by rw [←List.append_assoc,List.take_append_drop]
   have e:blkq 0 r P'.length (P.length+U.length+j-i) i=P'++(W'.drop (j-i)++(W'.take (j-i)++(U'++S'))):=by
    rw [hr,hi]
    have:=blkq_app 0 P' U' (W'.take (j-U'.length)) (W'.drop (j-U'.length)) S' (by rw [List.length_drop];omega) (a:=P'.length) (b:=P.length+U.length+j-U'.length) rfl (by rw [List.length_take];omega)
    rw [←hi] at this ⊢
    simpa [tk] using this
   rw [e]
   refine lopK.on (i,j-i,P'++(W'.drop (j-i)++(W'.take (j-i)++(U'++S')))) ⟨P',W'.drop (j-i),W'.take (j-i),U'++S',?_,?_,?_,?_,?_,?_,rfl,?_⟩ (by simp only;omega) (Wk.of _ hfn rfl (by simp only [fnO,w4,enb,vcd,↓vcp,seval]) (by simp only [rowZ,enb,vcd,↓vcp,seval]))
   ·rw [List.length_drop];simp only;omega
   ·rw [List.length_take];simp only;omega
   ·rw [List.length_drop];omega
   ·rw [List.length_take];omega
   ·rw [List.length_drop];omega
   ·rw [List.length_drop,List.length_append,List.length_take];omega
   ·rw [h4];simp [tk]
end Go.Proofs.YtanppabbmffokaaGreat
end
