import Derived.Test.YtanppabbmffokaaGreatXC5
import Derived.Test.YtanppabbmffokaaGreatRows
import Derived.KernelRfl
set_option linter.unusedSimpArgs false
set_option linter.unusedVariables false
section
namespace Go.Proofs.YtanppabbmffokaaGreat
open Go.Bx
set_option maxRecDepth 100000
def kc5:C:=
  (.seq (.reg [jj 4 (.box 31 (.t 0)),jj 5 (.box 34 (.t 1)),jj 6 (.box 75 (.t 2)),jj 8 (.mov (.k (.d (.bool false))))])
 (.seq (.reg [jj 25 (.call 8 []),jm 9 25])
 (.seq (.reg [jj 26 (.load 10 true (.t 4)),jj 27 (.load 1 true (.t 5)),jj 28 (.build [zi,zi,zi,zi,zi,zi,zi,zl,zi] []),jj 29 (.call 9 [(.t 26),(.t 27),(.t 28)]),jm 10 29])
 (.seq (.seq (.reg [jm 30 10,jj 31 (.inv .not (.t 30)),jm 32 31,jg 33 32 false (.fadr 5 (.t 6)),jg 34 32 false (.load 1 false (.t 33)),jg 35 32 false (.len (.t 34)),jg 36 32 false (.bin .gtr (.t 35) (ki 200)),jj 37 (.pick (.t 32) (.k (.d (.bool true))) (.t 36)),jm 38 37,jg 39 38 false (.fadr 6 (.t 6)),jg 40 38 false (.load 1 false (.t 39)),jg 41 38 false (.len (.t 40)),jg 42 38 false (.bin .gtr (.t 41) (ki 200)),jj 43 (.pick (.t 38) (.k (.d (.bool true))) (.t 42)),jm 44 43,jg 45 44 false (.fadr 7 (.t 6)),jg 46 44 false (.load 1 false (.t 45)),jg 47 44 false (.len (.t 46)),jg 48 44 false (.bin .gtr (.t 47) (ki 200)),jj 49 (.pick (.t 44) (.k (.d (.bool true))) (.t 48)),jm 50 49,jg 51 50 false (.fadr 0 (.t 6)),jg 52 50 false (.load 1 false (.t 51)),jg 53 50 false (.fadr 2 (.t 4)),jg 54 50 false (.fadr 0 (.t 53)),jg 55 50 false (.fadr 0 (.t 54)),jg 56 50 false (.load 1 false (.t 55)),jg 57 50 false (.bin .leq (.t 52) (.t 56)),jj 58 (.pick (.t 50) (.k (.d (.bool true))) (.t 57))])
 (.cond (.t 58) (.seq (.reg [jm 59 9,jm 8 59])
 .ret)
 .skip))
 (.seq (.reg [jj 61 (.load 1 true (.t 5)),jj 62 (.load 9 true (.t 6)),jj 63 (.call 23 [(.t 61),(.t 62)]),jm 60 63,jj 64 (.ext 0 (.t 60)),jj 65 (.ext 1 (.t 60)),jj 11 (.alloc 34 [zl]),jn (.store 1 (.t 11) (.t 64)),jm 12 65])
 (.seq (.seq (.reg [jm 66 12,jj 67 (.bin .neq (.t 66) (ki 0))])
 (.cond (.t 67) (.seq (.reg [jm 68 9,jm 8 68])
 .ret)
 .skip))
 (.seq (.reg [jj 70 (.load 10 true (.t 4)),jj 71 (.load 1 true (.t 5)),jj 72 (.call 11 [(.t 70),(.t 71)]),jm 69 72,jj 73 (.ext 0 (.t 69)),jj 74 (.ext 1 (.t 69)),jm 13 73,jm 14 74])
 (.seq (.reg [jj 76 (.load 10 true (.t 4)),jj 77 (.load 1 true (.t 11)),jj 78 (.call 11 [(.t 76),(.t 77)]),jm 75 78,jj 79 (.ext 0 (.t 75)),jj 80 (.ext 1 (.t 75)),jm 15 79,jm 16 80])
 (.seq (.reg [jj 82 (.load 10 true (.t 4)),jj 83 (.load 1 true (.t 5)),jj 84 (.call 24 [(.t 82),(.t 83)]),jm 81 84,jj 85 (.ext 0 (.t 81)),jj 86 (.ext 1 (.t 81)),jm 17 85,jm 18 86])
 (.seq (.reg [jj 88 (.load 10 true (.t 4)),jj 89 (.load 1 true (.t 11)),jj 90 (.call 24 [(.t 88),(.t 89)]),jm 87 90,jj 91 (.ext 0 (.t 87)),jj 92 (.ext 1 (.t 87)),jm 19 91,jm 20 92])
 (.seq (.seq (.reg [jm 93 14,jm 94 16,jj 95 (.bin .neq (.t 93) (.t 94)),jm 96 95,jg 97 96 false (.mov (.t 18)),jg 98 96 false (.mov (.t 20)),jg 99 96 false (.bin .neq (.t 97) (.t 98)),jj 100 (.pick (.t 96) (.k (.d (.bool true))) (.t 99)),jm 101 100,jg 102 101 false (.mov (.t 13)),jg 103 101 false (.mov (.t 15)),jg 104 101 false (.bin .neq (.t 102) (.t 103)),jj 105 (.pick (.t 101) (.k (.d (.bool true))) (.t 104)),jm 106 105,jg 107 106 false (.mov (.t 17)),jg 108 106 false (.mov (.t 19)),jg 109 106 false (.call 22 [(.t 107),(.t 108)]),jg 110 106 false (.inv .not (.t 109)),jj 111 (.pick (.t 106) (.k (.d (.bool true))) (.t 110))])
 (.cond (.t 111) (.seq (.reg [jj 8 (.mov (.k (.d (.bool false))))])
 .ret)
 .skip))
 (.seq (.reg [jm 113 17,jm 114 3,jj 115 (.call 21 [(.t 113),(.t 114)]),jm 112 115,jj 116 (.ext 0 (.t 112)),jj 117 (.ext 1 (.t 112)),jm 21 116,jm 22 117])
 (.seq (.reg [jm 119 19,jm 120 3,jj 121 (.call 21 [(.t 119),(.t 120)]),jm 118 121,jj 122 (.ext 0 (.t 118)),jj 123 (.ext 1 (.t 118)),jm 23 122,jm 24 123])
 (.seq (.reg [jm 124 9,jm 125 124,jg 126 125 true (.mov (.t 22)),jg 127 125 true (.mov (.t 24)),jg 128 125 true (.bin .eql (.t 126) (.t 127)),jj 129 (.pick (.t 125) (.t 128) (.k (.d (.bool false)))),jm 130 129,jg 131 130 true (.mov (.t 21)),jg 132 130 true (.mov (.t 23)),jg 133 130 true (.bin .eql (.t 131) (.t 132)),jj 134 (.pick (.t 130) (.t 133) (.k (.d (.bool false)))),jm 8 134])
 .ret))))))))))))))
def rs5:List RV:=[.tmp 8]
theorem ok5:okF Tryz.prog 5=true:=by kernel_rfl
theorem cc5:cCode Tryz.prog Tryz.f5.ntmps (Tryz.f5.body.getD .skip)=some kc5:=by kernel_rfl
theorem cr5:cRess Tryz.prog Tryz.f5.results.toList=some rs5:=by kernel_rfl
def kc8:C:=
  (.seq (.reg [jj 0 (.mov (.k (.d (.bool false))))])
 (.seq (.reg [jj 14 (.call 33 []),jm 13 14,jj 15 (.ext 0 (.t 13)),jj 16 (.ext 1 (.t 13)),jj 1 (.alloc 31 [zi,zi,zi,zi,zi,zi,zi,zi,zl,zl]),jj 2 (.alloc 34 [zl]),jn (.store 10 (.t 1) (.t 15)),jn (.store 1 (.t 2) (.t 16))])
 (.seq (.reg [jj 18 (.load 10 true (.t 1)),jj 19 (.load 1 true (.t 2)),jj 20 (.call 11 [(.t 18),(.t 19)]),jm 17 20,jj 21 (.ext 0 (.t 17)),jj 22 (.ext 1 (.t 17)),jm 3 21,jm 4 22])
 (.seq (.reg [jj 24 (.load 10 true (.t 1)),jj 25 (.load 1 true (.t 2)),jj 26 (.call 24 [(.t 24),(.t 25)]),jm 23 26,jj 27 (.ext 0 (.t 23)),jj 28 (.ext 1 (.t 23)),jm 5 27,jm 6 28])
 (.seq (.reg [jm 30 5,jj 31 (.call 21 [(.t 30),(ki 41)]),jm 29 31,jj 32 (.ext 0 (.t 29)),jj 33 (.ext 1 (.t 29)),jm 7 32,jm 8 33])
 (.seq (.reg [jj 35 (.load 10 true (.t 1)),jj 36 (.load 1 true (.t 2)),jj 37 (.build [zi,zi,zi,zi,zi,zi,zi,zl,zi] [(0,1,(ki 5)),(1,1,(ki 41)),(2,1,(ki 3))]),jj 38 (.call 12 [(.t 35),(.t 36),(.t 37)]),jm 34 38,jj 39 (.ext 0 (.t 34)),jj 40 (.ext 1 (.t 34)),jm 9 39,jm 10 40])
 (.seq (.reg [jj 42 (.fadr 2 (.t 1)),jj 43 (.fadr 0 (.t 42)),jj 44 (.load 2 true (.t 43)),jj 45 (.call 13 [(ki 10000),(.t 44),(ki 2)]),jm 41 45,jj 46 (.ext 0 (.t 41)),jj 47 (.ext 1 (.t 41)),jm 11 46,jm 12 47])
 (.seq (.reg [jm 48 4,jj 49 (.bin .eql (.t 48) (ki 0)),jm 50 49,jg 51 50 true (.mov (.t 6)),jg 52 50 true (.bin .eql (.t 51) (ki 0)),jj 53 (.pick (.t 50) (.t 52) (.k (.d (.bool false)))),jm 54 53,jg 55 54 true (.mov (.t 8)),jg 56 54 true (.bin .eql (.t 55) (ki 0)),jj 57 (.pick (.t 54) (.t 56) (.k (.d (.bool false)))),jm 58 57,jg 59 58 true (.mov (.t 10)),jg 60 58 true (.bin .eql (.t 59) (ki 0)),jj 61 (.pick (.t 58) (.t 60) (.k (.d (.bool false)))),jm 62 61,jg 63 62 true (.mov (.t 12)),jg 64 62 true (.bin .eql (.t 63) (ki 0)),jj 65 (.pick (.t 62) (.t 64) (.k (.d (.bool false)))),jm 66 65,jg 67 66 true (.mov (.t 3)),jg 68 66 true (.bin .eql (.t 67) (ki 10000)),jj 69 (.pick (.t 66) (.t 68) (.k (.d (.bool false)))),jm 70 69,jg 71 70 true (.mov (.t 7)),jg 72 70 true (.bin .eql (.t 71) (ki 4000)),jj 73 (.pick (.t 70) (.t 72) (.k (.d (.bool false)))),jm 74 73,jg 75 74 true (.mov (.t 9)),jg 76 74 true (.bin .eql (.t 75) (ki 6000)),jj 77 (.pick (.t 74) (.t 76) (.k (.d (.bool false)))),jm 78 77,jg 79 78 true (.mov (.t 11)),jg 80 78 true (.build [zi,zi,zi] [(0,1,(ki 1)),(1,1,(ki 5000))]),jg 81 78 true (.build [zi,zi,zi] [(0,1,(ki 182)),(1,1,(ki 5000))]),jg 82 78 true (.bslice 56 3 2 [(.t 80),(.t 81)]),jg 83 78 true (.call 34 [(.t 79),(.t 82)]),jj 84 (.pick (.t 78) (.t 83) (.k (.d (.bool false)))),jm 0 84])
 .ret))))))))
def rs8:List RV:=[.tmp 0]
theorem ok8:okF Tryz.prog 8=true:=by kernel_rfl
theorem cc8:cCode Tryz.prog Tryz.f8.ntmps (Tryz.f8.body.getD .skip)=some kc8:=by kernel_rfl
theorem cr8:cRess Tryz.prog Tryz.f8.results.toList=some rs8:=by kernel_rfl
def kc9:C:=
  (.seq (.reg [jj 3 (.box 31 (.t 0)),jj 4 (.box 34 (.t 1)),jj 5 (.box 36 (.t 2)),jj 6 (.mov (.k (.d (.bool false))))])
 (.seq (.reg [jj 8 (.load 10 true (.t 3)),jj 9 (.load 1 true (.t 4)),jj 10 (.call 35 [(.t 8),(.t 9)]),jm 7 10])
 (.seq (.reg [jm 11 7,jm 12 11,jg 13 12 true (.fadr 7 (.t 5)),jg 14 12 true (.load 1 false (.t 13)),jg 15 12 true (.len (.t 14)),jg 16 12 true (.bin .leq (.t 15) (ki 50)),jj 17 (.pick (.t 12) (.t 16) (.k (.d (.bool false)))),jm 6 17])
 .ret)))
def rs9:List RV:=[.tmp 6]
theorem ok9:okF Tryz.prog 9=true:=by kernel_rfl
theorem cc9:cCode Tryz.prog Tryz.f9.ntmps (Tryz.f9.body.getD .skip)=some kc9:=by kernel_rfl
theorem cr9:cRess Tryz.prog Tryz.f9.results.toList=some rs9:=by kernel_rfl
def kc10:C:=
  (.seq (.reg [jj 2 (.box 31 (.t 0)),jj 3 (.box 36 (.t 1)),jj 4 (.alloc 31 [zi,zi,zi,zi,zi,zi,zi,zi,zl,zl]),jj 5 (.mov (ki 0))])
 (.seq (.reg [jj 8 (.fadr 9 (.t 2)),jj 9 (.load 1 false (.t 8)),jj 10 (.len (.t 9)),jm 6 10])
 (.seq (.reg [jj 11 (.fadr 1 (.t 2)),jj 12 (.load 1 false (.t 11)),jm 7 12])
 (.seq (.seq (.reg [jm 13 6,jj 14 (.bin .gtr (.t 13) (ki 0))])
 (.cond (.t 14) (.reg [jj 15 (.fadr 9 (.t 2)),jj 16 (.load 1 false (.t 15)),jm 17 6,jj 18 (.bin .sub (.t 17) (ki 1)),jj 19 (.iadr 9 (.t 16) (.t 18)),jj 20 (.fadr 0 (.t 19)),jj 21 (.load 1 false (.t 20)),jm 7 21])
 .skip))
 (.seq (.block 0 (.seq (.reg [jj 23 (.load 9 true (.t 3)),jj 24 (.call 36 [(.t 23)]),jj 25 (.inv .not (.t 24)),jm 26 25,jg 27 26 false (.fadr 2 (.t 2)),jg 28 26 false (.fadr 0 (.t 27)),jg 29 26 false (.load 2 true (.t 28)),jg 30 26 false (.fadr 1 (.t 3)),jg 31 26 false (.load 1 false (.t 30)),jg 32 26 false (.call 32 [(.t 29),(.t 31)]),jg 33 26 false (.inv .not (.t 32)),jj 34 (.pick (.t 26) (.k (.d (.bool true))) (.t 33)),jm 22 34])
 (.cond (.t 22) (.seq (.reg [jj 35 (.build [zi,zi,zi,zi,zi,zi,zi,zi,zl,zl] []),jn (.store 10 (.t 4) (.t 35)),jj 5 (.mov (ki 1))])
 .ret)
 (.seq (.reg [jj 37 (.fadr 0 (.t 3)),jj 38 (.load 1 false (.t 37)),jm 39 7,jj 40 (.bin .lss (.t 38) (.t 39)),jm 36 40])
 (.cond (.t 36) (.seq (.reg [jj 41 (.build [zi,zi,zi,zi,zi,zi,zi,zi,zl,zl] []),jn (.store 10 (.t 4) (.t 41)),jj 5 (.mov (ki 4))])
 .ret)
 (.seq (.reg [jm 43 6,jj 44 (.bin .geq (.t 43) (ki 2000)),jm 42 44])
 (.cond (.t 42) (.seq (.reg [jj 45 (.build [zi,zi,zi,zi,zi,zi,zi,zi,zl,zl] []),jn (.store 10 (.t 4) (.t 45)),jj 5 (.mov (ki 2))])
 .ret)
 .skip)))))))
 (.seq (.reg [jj 46 (.fadr 7 (.t 3)),jj 47 (.load 1 false (.t 46)),jj 48 (.call 37 [(.t 47)]),jj 49 (.fadr 7 (.t 3)),jn (.store 1 (.t 49) (.t 48))])
 (.seq (.reg [jj 50 (.fadr 2 (.t 2)),jj 51 (.load 7 true (.t 50)),jj 52 (.call 38 [(.t 51)]),jj 53 (.fadr 2 (.t 2)),jn (.store 7 (.t 53) (.t 52))])
 (.seq (.drw [0, 1, 0, 0, 15, 0, 32, 127, 255, 511]
  [jj 54 (.fadr 9 (.t 2)),jj 55 (.load 1 false (.t 54)),jm 56 6,jm 57 6,jj 58 (.slc 9 (.t 55) none (some (.t 56)) (some (.t 57))),jj 59 (.load 9 true (.t 3)),jj 60 (.bslice 36 9 1 [(.t 59)]),jj 61 (.app 36 9 88 (.t 58) (.t 60)),jj 62 (.fadr 9 (.t 2)),jn (.store 1 (.t 62) (.t 61))])
 (.seq (.reg [jj 63 (.load 10 true (.t 2)),jn (.store 10 (.t 4) (.t 63)),jj 5 (.mov (ki 0))])
 .ret)))))))))
def rs10:List RV:=[.cell 4 10 true,.tmp 5]
theorem ok10:okF Tryz.prog 10=true:=by kernel_rfl
theorem cc10:cCode Tryz.prog Tryz.f10.ntmps (Tryz.f10.body.getD .skip)=some kc10:=by kernel_rfl
theorem cr10:cRess Tryz.prog Tryz.f10.results.toList=some rs10:=by kernel_rfl
def kc11:C:=
  (.seq (.reg [jj 2 (.box 31 (.t 0)),jj 3 (.box 34 (.t 1)),jj 4 (.mov (ki 0)),jj 5 (.mov (ki 0))])
 (.seq (.reg [jj 12 (.load 10 true (.t 2)),jj 13 (.load 1 true (.t 3)),jj 14 (.call 39 [(.t 12),(.t 13)]),jm 11 14,jj 15 (.ext 0 (.t 11)),jj 16 (.ext 1 (.t 11)),jm 6 15,jm 7 16])
 (.seq (.seq (.reg [jm 17 7,jj 18 (.bin .neq (.t 17) (ki 0))])
 (.cond (.t 18) (.seq (.reg [jm 19 7,jj 4 (.mov (ki 0)),jm 5 19])
 .ret)
 .skip))
 (.seq (.reg [jj 21 (.load 10 true (.t 2)),jj 22 (.load 1 true (.t 3)),jj 23 (.call 24 [(.t 21),(.t 22)]),jm 20 23,jj 24 (.ext 0 (.t 20)),jj 25 (.ext 1 (.t 20)),jm 8 24,jm 9 25])
 (.seq (.reg [jm 27 8,jj 28 (.call 25 [(.t 27)]),jm 26 28,jj 29 (.ext 0 (.t 26)),jj 30 (.ext 1 (.t 26)),jm 10 29,jm 7 30])
 (.seq (.block 0 (.seq (.reg [jm 32 7,jj 33 (.bin .neq (.t 32) (ki 0)),jm 31 33])
 (.cond (.t 31) (.seq (.reg [jm 34 7,jj 4 (.mov (ki 0)),jm 5 34])
 .ret)
 (.seq (.reg [jm 36 10,jm 37 6,jj 38 (.bin .sub (ki 4000000000000000000) (.t 37)),jj 39 (.bin .gtr (.t 36) (.t 38)),jm 35 39])
 (.cond (.t 35) (.seq (.reg [jj 4 (.mov (ki 0)),jj 5 (.mov (ki 5))])
 .ret)
 .skip)))))
 (.seq (.reg [jm 40 10,jm 41 6,jj 42 (.bin .add (.t 40) (.t 41)),jm 4 42,jj 5 (.mov (ki 0))])
 .ret)))))))
def rs11:List RV:=[.tmp 4,.tmp 5]
theorem ok11:okF Tryz.prog 11=true:=by kernel_rfl
theorem cc11:cCode Tryz.prog Tryz.f11.ntmps (Tryz.f11.body.getD .skip)=some kc11:=by kernel_rfl
theorem cr11:cRess Tryz.prog Tryz.f11.results.toList=some rs11:=by kernel_rfl
def kc12:C:=
  (.seq (.reg [jj 3 (.box 31 (.t 0)),jj 4 (.box 34 (.t 1)),jj 5 (.box 36 (.t 2)),jj 6 (.mov (ki 0)),jj 7 (.mov (ki 0))])
 (.seq (.reg [jj 13 (.load 10 true (.t 3)),jj 14 (.load 9 true (.t 5)),jj 15 (.call 10 [(.t 13),(.t 14)]),jm 12 15,jj 16 (.ext 0 (.t 12)),jj 17 (.ext 1 (.t 12)),jj 8 (.alloc 31 [zi,zi,zi,zi,zi,zi,zi,zi,zl,zl]),jn (.store 10 (.t 8) (.t 16)),jm 9 17])
 (.seq (.seq (.reg [jm 18 9,jj 19 (.bin .neq (.t 18) (ki 0))])
 (.cond (.t 19) (.seq (.reg [jm 20 9,jj 6 (.mov (ki 0)),jm 7 20])
 .ret)
 .skip))
 (.seq (.reg [jj 22 (.load 10 true (.t 3)),jj 23 (.load 1 true (.t 4)),jj 24 (.call 11 [(.t 22),(.t 23)]),jm 21 24,jj 25 (.ext 0 (.t 21)),jj 26 (.ext 1 (.t 21)),jm 10 25,jm 9 26])
 (.seq (.seq (.reg [jm 27 9,jj 28 (.bin .neq (.t 27) (ki 0))])
 (.cond (.t 28) (.seq (.reg [jm 29 9,jj 6 (.mov (ki 0)),jm 7 29])
 .ret)
 .skip))
 (.seq (.reg [jj 31 (.load 10 true (.t 8)),jj 32 (.load 1 true (.t 4)),jj 33 (.call 11 [(.t 31),(.t 32)]),jm 30 33,jj 34 (.ext 0 (.t 30)),jj 35 (.ext 1 (.t 30)),jm 11 34,jm 9 35])
 (.seq (.seq (.reg [jm 36 9,jj 37 (.bin .neq (.t 36) (ki 0))])
 (.cond (.t 37) (.seq (.reg [jm 38 9,jj 6 (.mov (ki 0)),jm 7 38])
 .ret)
 .skip))
 (.seq (.reg [jm 39 10,jm 40 11,jj 41 (.bin .sub (.t 39) (.t 40)),jm 6 41,jj 7 (.mov (ki 0))])
 .ret))))))))
def rs12:List RV:=[.tmp 6,.tmp 7]
theorem ok12:okF Tryz.prog 12=true:=by kernel_rfl
theorem cc12:cCode Tryz.prog Tryz.f12.ntmps (Tryz.f12.body.getD .skip)=some kc12:=by kernel_rfl
theorem cr12:cRess Tryz.prog Tryz.f12.results.toList=some rs12:=by kernel_rfl
def kc13:C:=
  (.seq (.reg [jj 4 (.box 23 (.t 1)),jj 6 (.mov (.k (zl))),jj 7 (.mov (ki 0))])
 (.seq (.reg [jj 14 (.bslice 3 1 4 [(ki 1),(ki 2),(ki 4),(ki 12)]),jm 15 2,jj 16 (.call 40 [(.t 14),(.t 15)]),jm 8 16])
 (.seq (.seq (.reg [jm 17 8,jj 18 (.inv .not (.t 17)),jm 19 18,jg 20 19 false (.mov (.t 0)),jg 21 19 false (.bin .lss (.t 20) (ki 0)),jj 22 (.pick (.t 19) (.k (.d (.bool true))) (.t 21)),jm 23 22,jg 24 23 false (.mov (.t 0)),jg 25 23 false (.bin .gtr (.t 24) (ki 4000000000000000000)),jj 26 (.pick (.t 23) (.k (.d (.bool true))) (.t 25)),jm 27 26,jg 28 27 false (.load 2 true (.t 4)),jg 29 27 false (.call 41 [(.t 28)]),jg 30 27 false (.bin .eql (.t 29) (ki 0)),jj 31 (.pick (.t 27) (.k (.d (.bool true))) (.t 30))])
 (.cond (.t 31) (.seq (.reg [jj 6 (.mov (.k (zl))),jj 7 (.mov (ki 1))])
 .ret)
 .skip))
 (.seq (.reg [jm 32 0,jm 33 2,jj 34 (.call 42 [(.t 32),(.t 33)]),jm 9 34])
 (.seq (.reg [jj 10 (.mov (.k (zl)))])
 (.seq (.seq (.reg [jm 35 2,jj 36 (.mov (ki 0))])
 (.block 0 (.loop (.seq (.reg [jj 37 (.bin .lss (.t 36) (.t 35))])
 (.seq (.cond (.t 37) .skip
 (.exit 0))
 (.seq (.block 2 (.seq (.reg [jm 38 36,jm 11 38])
 (.seq (.drw [0, 1, 0, 4, 0, 28, 63, 127, 255, 255, 511, 2047]
  [jj 40 (.fadr 0 (.t 4)),jj 41 (.load 1 false (.t 40)),jm 42 11,jj 43 (.bin .mul (.t 42) (ki 12)),jm 44 2,jj 45 (.bin .quo (.t 43) (.t 44)),jj 46 (.call 27 [(.t 41),(.t 45)]),jm 39 46,jj 47 (.ext 0 (.t 39)),jj 48 (.ext 1 (.t 39)),jm 12 47,jm 13 48])
 (.seq (.seq (.reg [jm 49 13,jj 50 (.bin .neq (.t 49) (ki 0))])
 (.cond (.t 50) (.seq (.reg [jj 6 (.mov (.k (zl))),jj 7 (.mov (ki 3))])
 .ret)
 .skip))
 (.reg [jm 51 10,jm 52 12,jm 53 9,jm 54 11,jj 55 (.iadr 1 (.t 53) (.t 54)),jj 56 (.load 1 false (.t 55)),jj 57 (.build [zi,zi,zi] [(0,1,(.t 52)),(1,1,(.t 56))]),jj 58 (.bslice 56 3 1 [(.t 57)]),jj 59 (.app 56 3 24 (.t 51) (.t 58)),jm 10 59])))))
 (.reg [jj 60 (.bin .add (.t 36) (ki 1)),jm 36 60])))))))
 (.seq (.reg [jm 61 10,jm 6 61,jj 7 (.mov (ki 0))])
 .ret)))))))
def rs13:List RV:=[.tmp 6,.tmp 7]
theorem ok13:okF Tryz.prog 13=true:=by kernel_rfl
theorem cc13:cCode Tryz.prog Tryz.f13.ntmps (Tryz.f13.body.getD .skip)=some kc13:=by kernel_rfl
theorem cr13:cRess Tryz.prog Tryz.f13.results.toList=some rs13:=by kernel_rfl
def kd21:Dfr:=
  ⟨(.seq (.reg [jj 4 (.mov (ki 0)),jj 5 (.alloc 40 [zi])])
 .skip),
  [],
  (.k (.fn (.func 53) [] [])),[(.t 5)],
  (.seq (.reg [jm 6 0,jj 7 (.call 55 [(.t 6)]),jm 8 1,jj 9 (.call 54 [(.t 7),(.t 8)]),jm 4 9,jn (.store 1 (.t 5) (ki 0))])
 .ret)⟩
def rs21:List RV:=[.tmp 4,.cell 5 1 false]
theorem ok21:okF Tryz.prog 21=true:=by kernel_rfl
theorem cd21:cDefer Tryz.prog Tryz.f21.ntmps (Tryz.f21.body.getD .skip)=some kd21:=by kernel_rfl
theorem cr21:cRess Tryz.prog Tryz.f21.results.toList=some rs21:=by kernel_rfl
def kc22:C:=
  (.seq (.reg [jj 4 (.mov (.k (.d (.bool false))))])
 (.seq (.seq (.reg [jm 7 0,jj 8 (.len (.t 7)),jm 9 1,jj 10 (.len (.t 9)),jj 11 (.bin .neq (.t 8) (.t 10))])
 (.cond (.t 11) (.seq (.reg [jj 4 (.mov (.k (.d (.bool false))))])
 .ret)
 .skip))
 (.seq (.seq (.reg [jj 5 (.mov (ki 0))])
 (.block 0 (.loop (.seq (.seq (.reg [jm 12 5,jm 13 0,jj 14 (.len (.t 13)),jj 15 (.bin .lss (.t 12) (.t 14))])
 (.cond (.t 15) .skip
 (.exit 0)))
 (.seq (.block 2 (.seq (.drw [0, 0, 3, 7, 0, 0, 48, 112, 255, 511]
  [jm 18 0,jm 19 5,jj 20 (.iadr 9 (.t 18) (.t 19)),jj 21 (.load 9 true (.t 20)),jm 22 1,jm 23 5,jj 24 (.iadr 9 (.t 22) (.t 23)),jj 25 (.load 9 true (.t 24)),jj 26 (.call 56 [(.t 21),(.t 25)]),jm 6 26])
 (.seq (.reg [jm 27 6,jj 28 (.inv .not (.t 27))])
 (.cond (.t 28) (.seq (.reg [jj 4 (.mov (.k (.d (.bool false))))])
 .ret)
 .skip))))
 (.reg [jm 16 5,jj 17 (.bin .add (.t 16) (ki 1)),jm 5 17]))))))
 (.seq (.reg [jj 4 (.mov (.k (.d (.bool true))))])
 .ret))))
def rs22:List RV:=[.tmp 4]
theorem ok22:okF Tryz.prog 22=true:=by kernel_rfl
theorem cc22:cCode Tryz.prog Tryz.f22.ntmps (Tryz.f22.body.getD .skip)=some kc22:=by kernel_rfl
theorem cr22:cRess Tryz.prog Tryz.f22.results.toList=some rs22:=by kernel_rfl
def kc23:C:=
  (.seq (.reg [jj 2 (.box 34 (.t 0)),jj 3 (.box 75 (.t 1)),jj 4 (.alloc 34 [zl]),jj 5 (.mov (ki 0))])
 (.seq (.seq (.reg [jj 11 (.load 1 true (.t 2)),jj 12 (.call 57 [(.t 11)]),jj 13 (.inv .not (.t 12)),jm 14 13,jg 15 14 false (.load 9 true (.t 3)),jg 16 14 false (.call 58 [(.t 15)]),jg 17 14 false (.inv .not (.t 16)),jj 18 (.pick (.t 14) (.k (.d (.bool true))) (.t 17))])
 (.cond (.t 18) (.seq (.reg [jj 19 (.build [zl] []),jn (.store 1 (.t 4) (.t 19)),jj 5 (.mov (ki 1))])
 .ret)
 .skip))
 (.seq (.reg [jj 21 (.fadr 0 (.t 2)),jj 22 (.load 1 false (.t 21)),jj 23 (.fadr 0 (.t 3)),jj 24 (.load 1 false (.t 23)),jj 25 (.call 59 [(.t 22),(.t 24),(.k (.fn (.func 60) [] []))]),jm 20 25,jj 26 (.ext 0 (.t 20)),jj 27 (.ext 1 (.t 20)),jm 6 26,jm 7 27])
 (.seq (.block 0 (.seq (.reg [jm 29 7,jm 28 29])
 (.cond (.t 28) (.seq (.reg [jj 30 (.build [zl] []),jn (.store 1 (.t 4) (.t 30)),jj 5 (.mov (ki 8))])
 .ret)
 (.seq (.reg [jj 32 (.fadr 0 (.t 2)),jj 33 (.load 1 false (.t 32)),jj 34 (.len (.t 33)),jj 35 (.bin .eql (.t 34) (ki 100)),jm 31 35])
 (.cond (.t 31) (.seq (.reg [jj 36 (.build [zl] []),jn (.store 1 (.t 4) (.t 36)),jj 5 (.mov (ki 2))])
 .ret)
 .skip)))))
 (.seq (.reg [jj 8 (.mov (.k (zl)))])
 (.seq (.seq (.drw [0, 1, 3, 0, 0, 16, 63, 127, 0]
  [jj 37 (.fadr 0 (.t 2)),jj 38 (.load 1 false (.t 37)),jj 39 (.call 62 [(.t 38)]),jm 40 6,jj 41 (.load 9 true (.t 3)),jj 42 (.bslice 75 9 1 [(.t 41)]),jj 43 (.call 61 [(.t 39),(.t 40),(.t 42)]),jj 44 (.len (.t 43)),jj 45 (.mov (ki 0))])
 (.block 2 (.loop (.seq (.reg [jj 46 (.bin .lss (.t 45) (.t 44))])
 (.seq (.cond (.t 46) .skip
 (.exit 2))
 (.seq (.block 4 (.seq (.reg [jj 47 (.iadr 9 (.t 43) (.t 45)),jj 48 (.load 9 true (.t 47)),jj 10 (.alloc 75 [zi,zi,zi,zi,zi,zl,zl,zl,zi]),jn (.store 9 (.t 10) (.t 48))])
 (.reg [jm 49 8,jj 50 (.load 9 true (.t 10)),jj 51 (.call 63 [(.t 50)]),jj 52 (.bslice 75 9 1 [(.t 51)]),jj 53 (.app 75 9 120 (.t 49) (.t 52)),jm 8 53])))
 (.reg [jj 54 (.bin .add (.t 45) (ki 1)),jm 45 54])))))))
 (.seq (.reg [jm 55 8,jj 56 (.build [zl] [(0,1,(.t 55))]),jn (.store 1 (.t 4) (.t 56)),jj 5 (.mov (ki 0))])
 .ret)))))))
def rs23:List RV:=[.cell 4 1 true,.tmp 5]
theorem ok23:okF Tryz.prog 23=true:=by kernel_rfl
theorem cc23:cCode Tryz.prog Tryz.f23.ntmps (Tryz.f23.body.getD .skip)=some kc23:=by kernel_rfl
theorem cr23:cRess Tryz.prog Tryz.f23.results.toList=some rs23:=by kernel_rfl
def kc24:C:=
  (.seq (.reg [jj 2 (.box 31 (.t 0)),jj 3 (.box 34 (.t 1)),jj 4 (.mov (.k (zl))),jj 5 (.mov (ki 0))])
 (.seq (.seq (.reg [jj 11 (.load 10 true (.t 2)),jj 12 (.call 64 [(.t 11)]),jj 13 (.inv .not (.t 12))])
 (.cond (.t 13) (.seq (.reg [jj 4 (.mov (.k (zl))),jj 5 (.mov (ki 1))])
 .ret)
 .skip))
 (.seq (.reg [jj 15 (.load 1 true (.t 3)),jj 16 (.fadr 2 (.t 2)),jj 17 (.fadr 0 (.t 16)),jj 18 (.fadr 0 (.t 17)),jj 19 (.load 1 false (.t 18)),jj 20 (.call 65 [(.t 15),(.t 19)]),jm 14 20,jj 21 (.ext 0 (.t 14)),jj 22 (.ext 1 (.t 14)),jj 6 (.alloc 75 [zi,zi,zi,zi,zi,zl,zl,zl,zi]),jn (.store 9 (.t 6) (.t 21)),jm 7 22])
 (.seq (.seq (.reg [jm 23 7,jj 24 (.bin .neq (.t 23) (ki 0))])
 (.cond (.t 24) (.seq (.reg [jm 25 7,jj 4 (.mov (.k (zl))),jm 5 25])
 .ret)
 .skip))
 (.seq (.reg [jj 26 (.load 10 true (.t 2)),jj 27 (.call 66 [(.t 26)]),jm 8 27])
 (.seq (.seq (.reg [jm 28 8,jj 29 (.len (.t 28)),jj 30 (.mov (ki 0))])
 (.block 0 (.loop (.seq (.reg [jj 31 (.bin .lss (.t 30) (.t 29))])
 (.seq (.cond (.t 31) .skip
 (.exit 0))
 (.seq (.block 2 (.seq (.reg [jm 32 30,jj 33 (.iadr 9 (.t 28) (.t 30)),jj 34 (.load 9 true (.t 33)),jj 10 (.alloc 118 [zi,zi,.d (.bool false),zi,zi,zi,zi,zl,zi]),jm 9 32,jn (.store 9 (.t 10) (.t 34))])
 (.seq (.seq (.reg [jj 35 (.fadr 2 (.t 10)),jj 36 (.load 1 false (.t 35)),jj 37 (.inv .not (.t 36))])
 (.cond (.t 37) (.exit 2)
 .skip))
 (.seq (.reg [jm 39 8,jm 40 9,jj 41 (.load 9 true (.t 6)),jj 42 (.fadr 3 (.t 10)),jj 43 (.load 4 true (.t 42)),jj 44 (.fadr 7 (.t 10)),jj 45 (.load 1 false (.t 44)),jj 46 (.call 67 [(.t 41),(.t 43),(.t 45)]),jm 38 46,jj 47 (.ext 0 (.t 38)),jj 48 (.ext 1 (.t 38)),jj 49 (.iadr 9 (.t 39) (.t 40)),jj 50 (.fadr 8 (.t 49)),jn (.store 1 (.t 50) (.t 47)),jm 7 48])
 (.seq (.reg [jm 51 7,jj 52 (.bin .neq (.t 51) (ki 0))])
 (.cond (.t 52) (.seq (.reg [jm 53 7,jj 4 (.mov (.k (zl))),jm 5 53])
 .ret)
 .skip))))))
 (.reg [jj 54 (.bin .add (.t 30) (ki 1)),jm 30 54])))))))
 (.seq (.reg [jm 55 8,jm 4 55,jj 5 (.mov (ki 0))])
 .ret)))))))
def rs24:List RV:=[.tmp 4,.tmp 5]
theorem ok24:okF Tryz.prog 24=true:=by kernel_rfl
theorem cc24:cCode Tryz.prog Tryz.f24.ntmps (Tryz.f24.body.getD .skip)=some kc24:=by kernel_rfl
theorem cr24:cRess Tryz.prog Tryz.f24.results.toList=some rs24:=by kernel_rfl
def kc25:C:=
  (.seq (.reg [jj 2 (.mov (ki 0)),jj 3 (.mov (ki 0))])
 (.seq (.reg [jm 4 0,jj 5 (.call 21 [(.t 4),(ki 292195)]),jj 6 (.ext 0 (.t 5)),jj 7 (.ext 1 (.t 5)),jm 2 6,jm 3 7])
 .ret))
def rs25:List RV:=[.tmp 2,.tmp 3]
theorem ok25:okF Tryz.prog 25=true:=by kernel_rfl
theorem cc25:cCode Tryz.prog Tryz.f25.ntmps (Tryz.f25.body.getD .skip)=some kc25:=by kernel_rfl
theorem cr25:cRess Tryz.prog Tryz.f25.results.toList=some rs25:=by kernel_rfl
def kc27:C:=
  (.seq (.reg [jj 4 (.mov (ki 0)),jj 5 (.mov (ki 0))])
 (.seq (.reg [jm 11 0,jj 12 (.call 68 [(.t 11)]),jm 10 12,jj 13 (.ext 0 (.t 10)),jj 14 (.ext 1 (.t 10)),jj 6 (.alloc 142 [zi,zi,zi]),jn (.store 3 (.t 6) (.t 13)),jm 7 14])
 (.seq (.reg [jj 8 (.mov (ki 9600))])
 (.seq (.seq (.reg [jm 15 7,jj 16 (.bin .neq (.t 15) (ki 0)),jm 17 16,jg 18 17 false (.mov (.t 1)),jg 19 17 false (.mov (.t 8)),jg 20 17 false (.bin .gtr (.t 18) (.t 19)),jj 21 (.pick (.t 17) (.k (.d (.bool true))) (.t 20)),jm 22 21,jg 23 22 false (.mov (.t 1)),jg 24 22 false (.mov (.t 8)),jg 25 22 false (.inv .neg (.t 24)),jg 26 22 false (.bin .lss (.t 23) (.t 25)),jj 27 (.pick (.t 22) (.k (.d (.bool true))) (.t 26))])
 (.cond (.t 27) (.seq (.reg [jj 4 (.mov (ki 0)),jj 5 (.mov (ki 3))])
 .ret)
 .skip))
 (.seq (.reg [jj 28 (.fadr 0 (.t 6)),jj 29 (.load 1 false (.t 28)),jj 30 (.bin .sub (.t 29) (ki 1601)),jj 31 (.bin .mul (.t 30) (ki 12)),jj 32 (.fadr 1 (.t 6)),jj 33 (.load 1 false (.t 32)),jj 34 (.bin .add (.t 31) (.t 33)),jj 35 (.bin .sub (.t 34) (ki 1)),jm 36 1,jj 37 (.bin .add (.t 35) (.t 36)),jm 9 37])
 (.seq (.seq (.reg [jm 38 9,jj 39 (.bin .lss (.t 38) (ki 0)),jm 40 39,jg 41 40 false (.mov (.t 9)),jg 42 40 false (.mov (.t 8)),jg 43 40 false (.bin .geq (.t 41) (.t 42)),jj 44 (.pick (.t 40) (.k (.d (.bool true))) (.t 43))])
 (.cond (.t 44) (.seq (.reg [jj 4 (.mov (ki 0)),jj 5 (.mov (ki 3))])
 .ret)
 .skip))
 (.seq (.reg [jm 45 9,jj 46 (.bin .quo (.t 45) (ki 12)),jj 47 (.bin .add (ki 1601) (.t 46)),jm 48 9,jj 49 (.bin .rem (.t 48) (ki 12)),jj 50 (.bin .add (.t 49) (ki 1)),jj 51 (.fadr 0 (.t 6)),jn (.store 1 (.t 51) (.t 47)),jj 52 (.fadr 1 (.t 6)),jn (.store 1 (.t 52) (.t 50))])
 (.seq (.drw [0, 1, 0, 4, 12, 0, 32, 96, 252, 511, 1023, 2047]
  [jj 53 (.fadr 2 (.t 6)),jj 54 (.load 1 false (.t 53)),jj 55 (.fadr 0 (.t 6)),jj 56 (.load 1 false (.t 55)),jj 57 (.call 69 [(.t 56)]),jj 58 (.fadr 1 (.t 6)),jj 59 (.load 1 false (.t 58)),jj 60 (.bin .sub (.t 59) (ki 1)),jj 61 (.idx 1 12 false (.t 57) (.t 60)),jj 62 (.mm false (.t 54) (.t 61)),jj 63 (.fadr 2 (.t 6)),jn (.store 1 (.t 63) (.t 62))])
 (.seq (.reg [jj 64 (.load 3 true (.t 6)),jj 65 (.call 70 [(.t 64)]),jj 66 (.ext 0 (.t 65)),jj 67 (.ext 1 (.t 65)),jm 4 66,jm 5 67])
 .ret)))))))))
def rs27:List RV:=[.tmp 4,.tmp 5]
theorem ok27:okF Tryz.prog 27=true:=by kernel_rfl
theorem cc27:cCode Tryz.prog Tryz.f27.ntmps (Tryz.f27.body.getD .skip)=some kc27:=by kernel_rfl
theorem cr27:cRess Tryz.prog Tryz.f27.results.toList=some rs27:=by kernel_rfl
def kd29:Dfr:=
  ⟨(.seq (.reg [jj 3 (.box 23 (.t 1)),jj 4 (.mov (ki 0)),jj 5 (.alloc 40 [zi])])
 .skip),
  [],
  (.k (.fn (.func 53) [] [])),[(.t 5)],
  (.seq (.reg [jm 7 0,jj 8 (.call 55 [(.t 7)]),jj 6 (.alloc 82 [zl,zl]),jn (.store 2 (.t 6) (.t 8))])
 (.seq (.seq (.reg [jj 9 (.load 2 true (.t 3)),jj 10 (.call 75 [(.t 9)]),jj 11 (.inv .not (.t 10))])
 (.cond (.t 11) (.reg [jj 12 (.call 76 [(ki 1)])])
 .skip))
 (.seq (.drw [0, 0, 2, 7, 0, 0, 32, 127, 255, 511, 1023]
  [jj 13 (.load 2 true (.t 6)),jj 14 (.fadr 1 (.t 3)),jj 15 (.load 1 false (.t 14)),jj 16 (.call 54 [(.t 13),(.t 15)]),jj 17 (.load 2 true (.t 6)),jj 18 (.fadr 0 (.t 3)),jj 19 (.load 1 false (.t 18)),jj 20 (.call 54 [(.t 17),(.t 19)]),jj 21 (.bin .sub (.t 16) (.t 20)),jm 4 21,jn (.store 1 (.t 5) (ki 0))])
 .ret)))⟩
def rs29:List RV:=[.tmp 4,.cell 5 1 false]
theorem ok29:okF Tryz.prog 29=true:=by kernel_rfl
theorem cd29:cDefer Tryz.prog Tryz.f29.ntmps (Tryz.f29.body.getD .skip)=some kd29:=by kernel_rfl
theorem cr29:cRess Tryz.prog Tryz.f29.results.toList=some rs29:=by kernel_rfl
def kc30:C:=
  (.seq (.reg [jj 2 (.box 82 (.t 0)),jj 3 (.box 23 (.t 1)),jj 4 (.alloc 3 [zi]),jj 5 (.alloc 40 [zi])])
 (.seq (.seq (.reg [jj 12 (.load 2 true (.t 2)),jj 13 (.call 77 [(.t 12)]),jj 14 (.inv .not (.t 13)),jm 15 14,jg 16 15 false (.load 2 true (.t 3)),jg 17 15 false (.call 78 [(.t 16)]),jg 18 15 false (.inv .not (.t 17)),jj 19 (.pick (.t 15) (.k (.d (.bool true))) (.t 18))])
 (.cond (.t 19) (.seq (.reg [jn (.store 1 (.t 4) (ki 0)),jn (.store 1 (.t 5) (ki 1))])
 .ret)
 .skip))
 (.seq (.reg [jj 6 (.alloc 3 [zi]),jj 7 (.alloc 3 [zi]),jn (.store 1 (.t 6) (ki 0)),jn (.store 1 (.t 7) (ki 0))])
 (.seq (.seq (.reg [jj 20 (.load 2 true (.t 2)),jj 21 (.load 2 true (.t 3)),jj 22 (.call 79 [(.t 20),(.t 21)])])
 (.block 0 (.rfn (.t 22) [23,24] (.seq (.reg [jj 8 (.alloc 23 [zi,zi]),jn (.store 2 (.t 8) (.t 23))])
 (.reg [jm 9 24]))
 (.block 2 (.seq (.reg [jj 25 (.fadr 1 (.t 8)),jj 26 (.load 1 false (.t 25)),jj 27 (.fadr 0 (.t 8)),jj 28 (.load 1 false (.t 27)),jj 29 (.bin .sub (.t 26) (.t 28)),jm 30 9,jm 31 9,jj 32 (.inv .neg (.t 31)),jj 33 (.mm true (.t 30) (.t 32)),jm 10 29,jm 11 33])
 (.seq (.seq (.reg [jm 34 11,jj 35 (.load 1 false (.t 7)),jj 36 (.bin .sub (ki 4000000000000000000) (.t 35)),jm 37 10,jj 38 (.bin .quo (.t 36) (.t 37)),jj 39 (.bin .gtr (.t 34) (.t 38))])
 (.cond (.t 39) (.seq (.reg [jn (.store 1 (.t 4) (ki 0)),jn (.store 1 (.t 5) (ki 5))])
 .ret)
 .skip))
 (.seq (.reg [jj 40 (.load 1 false (.t 6)),jm 41 10,jm 42 9,jj 43 (.bin .mul (.t 41) (.t 42)),jj 44 (.bin .add (.t 40) (.t 43)),jn (.store 1 (.t 6) (.t 44))])
 (.reg [jj 45 (.load 1 false (.t 7)),jm 46 10,jm 47 11,jj 48 (.bin .mul (.t 46) (.t 47)),jj 49 (.bin .add (.t 45) (.t 48)),jn (.store 1 (.t 7) (.t 49))]))))))))
 (.seq (.reg [jj 50 (.load 1 false (.t 6)),jn (.store 1 (.t 4) (.t 50)),jn (.store 1 (.t 5) (ki 0))])
 .ret)))))
def rs30:List RV:=[.cell 4 1 false,.cell 5 1 false]
theorem ok30:okF Tryz.prog 30=true:=by kernel_rfl
theorem cc30:cCode Tryz.prog Tryz.f30.ntmps (Tryz.f30.body.getD .skip)=some kc30:=by kernel_rfl
theorem cr30:cRess Tryz.prog Tryz.f30.results.toList=some rs30:=by kernel_rfl
def kc32:C:=
  (.seq (.reg [jj 2 (.box 23 (.t 0)),jj 4 (.mov (.k (.d (.bool false))))])
 (.seq (.reg [jj 5 (.load 2 true (.t 2)),jj 6 (.call 71 [(.t 5)]),jn (.store 2 (.t 2) (.t 6))])
 (.seq (.reg [jm 7 1,jj 8 (.fadr 0 (.t 2)),jj 9 (.load 1 false (.t 8)),jj 10 (.bin .geq (.t 7) (.t 9)),jm 11 10,jg 12 11 true (.mov (.t 1)),jg 13 11 true (.fadr 1 (.t 2)),jg 14 11 true (.load 1 false (.t 13)),jg 15 11 true (.bin .lss (.t 12) (.t 14)),jj 16 (.pick (.t 11) (.t 15) (.k (.d (.bool false)))),jm 4 16])
 .ret)))
def rs32:List RV:=[.tmp 4]
theorem ok32:okF Tryz.prog 32=true:=by kernel_rfl
theorem cc32:cCode Tryz.prog Tryz.f32.ntmps (Tryz.f32.body.getD .skip)=some kc32:=by kernel_rfl
theorem cr32:cRess Tryz.prog Tryz.f32.results.toList=some rs32:=by kernel_rfl
end Go.Proofs.YtanppabbmffokaaGreat
end
section
namespace Go.Proofs.YtanppabbmffokaaGreat
open Go.Bx
set_option maxRecDepth 100000
def kc33:C:=
  (.seq (.reg [jj 0 (.alloc 31 [zi,zi,zi,zi,zi,zi,zi,zi,zl,zl]),jj 1 (.alloc 34 [zl])])
 (.seq (.reg [jj 5 (.build [zi,zi,zi,zi] [(0,1,(ki 10000)),(1,1,(ki 0)),(2,1,(ki 0)),(3,1,(ki 0))]),jj 6 (.bslice 3 1 1 [(ki 10000)]),jj 7 (.bslice 3 1 8 [(ki 10000),(ki 10000),(ki 10000),(ki 10000),(ki 10000),(ki 10000),(ki 10000),(ki 10000)]),jj 8 (.build [zi,zi,zi,zi,zi,zl,zl,zl,zi] [(0,1,(ki 1)),(1,4,(.t 5)),(6,1,(.t 6)),(7,1,(.t 7))]),jj 2 (.alloc 75 [zi,zi,zi,zi,zi,zl,zl,zl,zi]),jn (.store 9 (.t 2) (.t 8))])
 (.seq (.reg [jj 9 (.build [zi,zi,zi,zi,zi] [(0,1,(ki 1)),(1,1,(ki 10)),(2,1,(ki 10)),(4,1,(ki 10000))]),jj 10 (.bslice 63 5 1 [(.t 9)]),jm 3 10])
 (.seq (.reg [jj 11 (.build [zi,zi] [(0,1,(ki 1)),(1,1,(ki 101))]),jj 12 (.build [zi,zi,zi,zi] [(1,1,(ki 36500))]),jm 13 3,jj 14 (.build [zi,zi,zi,zi,zi,zi,zl] [(0,2,(.t 11)),(2,4,(.t 12)),(6,1,(.t 13))]),jj 15 (.build [zi,zi,zi,zi,zi,zi,zi,zi,zl,zl] [(0,1,(ki 1)),(1,1,(ki 1)),(2,7,(.t 14))]),jj 4 (.alloc 31 [zi,zi,zi,zi,zi,zi,zi,zi,zl,zl]),jn (.store 10 (.t 4) (.t 15))])
 (.seq (.drw [0, 0, 2, 6, 1, 31]
  [jj 16 (.load 10 true (.t 4)),jj 17 (.load 9 true (.t 2)),jj 18 (.bslice 75 9 1 [(.t 17)]),jj 19 (.build [zl] [(0,1,(.t 18))]),jn (.store 10 (.t 0) (.t 16)),jn (.store 1 (.t 1) (.t 19))])
 .ret)))))
def rs33:List RV:=[.cell 0 10 true,.cell 1 1 true]
theorem ok33:okF Tryz.prog 33=true:=by kernel_rfl
theorem cc33:cCode Tryz.prog Tryz.f33.ntmps (Tryz.f33.body.getD .skip)=some kc33:=by kernel_rfl
theorem cr33:cRess Tryz.prog Tryz.f33.results.toList=some rs33:=by kernel_rfl
def kc34:C:=
  (.seq (.reg [jj 4 (.mov (.k (.d (.bool false))))])
 (.seq (.seq (.reg [jm 6 0,jj 7 (.len (.t 6)),jm 8 1,jj 9 (.len (.t 8)),jj 10 (.bin .neq (.t 7) (.t 9))])
 (.cond (.t 10) (.seq (.reg [jj 4 (.mov (.k (.d (.bool false))))])
 .ret)
 .skip))
 (.seq (.seq (.reg [jj 5 (.mov (ki 0))])
 (.block 0 (.loop (.seq (.seq (.reg [jm 11 5,jm 12 0,jj 13 (.len (.t 12)),jj 14 (.bin .lss (.t 11) (.t 13))])
 (.cond (.t 14) .skip
 (.exit 0)))
 (.seq (.block 2 (.seq (.drw [0, 0, 3, 7, 0, 0, 48, 112, 255]
  [jm 17 0,jm 18 5,jj 19 (.iadr 3 (.t 17) (.t 18)),jj 20 (.load 3 true (.t 19)),jm 21 1,jm 22 5,jj 23 (.iadr 3 (.t 21) (.t 22)),jj 24 (.load 3 true (.t 23)),jj 25 (.eqa true 3 [(0,some .i64),(1,some .i64),(2,some .i64)] (.t 20) (.t 24))])
 (.cond (.t 25) (.seq (.reg [jj 4 (.mov (.k (.d (.bool false))))])
 .ret)
 .skip)))
 (.reg [jm 15 5,jj 16 (.bin .add (.t 15) (ki 1)),jm 5 16]))))))
 (.seq (.reg [jj 4 (.mov (.k (.d (.bool true))))])
 .ret))))
def rs34:List RV:=[.tmp 4]
theorem ok34:okF Tryz.prog 34=true:=by kernel_rfl
theorem cc34:cCode Tryz.prog Tryz.f34.ntmps (Tryz.f34.body.getD .skip)=some kc34:=by kernel_rfl
theorem cr34:cRess Tryz.prog Tryz.f34.results.toList=some rs34:=by kernel_rfl
def kc35:C:=
  (.seq (.reg [jj 2 (.box 31 (.t 0)),jj 3 (.box 34 (.t 1)),jj 4 (.mov (.k (.d (.bool false))))])
 (.seq (.seq (.reg [jj 8 (.fadr 9 (.t 2)),jj 9 (.load 1 false (.t 8)),jj 10 (.len (.t 9)),jj 11 (.bin .gtr (.t 10) (ki 60)),jm 12 11,jg 13 12 false (.fadr 0 (.t 3)),jg 14 12 false (.load 1 false (.t 13)),jg 15 12 false (.len (.t 14)),jg 16 12 false (.bin .gtr (.t 15) (ki 100)),jj 17 (.pick (.t 12) (.k (.d (.bool true))) (.t 16)),jm 18 17,jg 19 18 false (.fadr 2 (.t 2)),jg 20 18 false (.fadr 6 (.t 19)),jg 21 18 false (.load 1 false (.t 20)),jg 22 18 false (.len (.t 21)),jg 23 18 false (.bin .gtr (.t 22) (ki 50)),jj 24 (.pick (.t 18) (.k (.d (.bool true))) (.t 23))])
 (.cond (.t 24) (.seq (.reg [jj 4 (.mov (.k (.d (.bool false))))])
 .ret)
 .skip))
 (.seq (.seq (.reg [jj 5 (.mov (ki 0))])
 (.block 0 (.loop (.seq (.seq (.reg [jm 25 5,jj 26 (.fadr 9 (.t 2)),jj 27 (.load 1 false (.t 26)),jj 28 (.len (.t 27)),jj 29 (.bin .lss (.t 25) (.t 28))])
 (.cond (.t 29) .skip
 (.exit 0)))
 (.seq (.block 2 (.seq (.reg [jj 32 (.fadr 9 (.t 2)),jj 33 (.load 1 false (.t 32)),jm 34 5,jj 35 (.iadr 9 (.t 33) (.t 34)),jj 36 (.fadr 7 (.t 35)),jj 37 (.load 1 false (.t 36)),jj 38 (.len (.t 37)),jj 39 (.bin .gtr (.t 38) (ki 50))])
 (.cond (.t 39) (.seq (.reg [jj 4 (.mov (.k (.d (.bool false))))])
 .ret)
 .skip)))
 (.reg [jm 30 5,jj 31 (.bin .add (.t 30) (ki 1)),jm 5 31]))))))
 (.seq (.seq (.reg [jj 6 (.mov (ki 0))])
 (.block 4 (.loop (.seq (.seq (.reg [jm 40 6,jj 41 (.fadr 0 (.t 3)),jj 42 (.load 1 false (.t 41)),jj 43 (.len (.t 42)),jj 44 (.bin .lss (.t 40) (.t 43))])
 (.cond (.t 44) .skip
 (.exit 4)))
 (.seq (.block 6 (.seq (.reg [jj 47 (.fadr 0 (.t 3)),jj 48 (.load 1 false (.t 47)),jm 49 6,jj 50 (.iadr 9 (.t 48) (.t 49)),jj 51 (.load 9 true (.t 50)),jj 7 (.alloc 75 [zi,zi,zi,zi,zi,zl,zl,zl,zi]),jn (.store 9 (.t 7) (.t 51))])
 (.seq (.reg [jj 52 (.fadr 5 (.t 7)),jj 53 (.load 1 false (.t 52)),jj 54 (.len (.t 53)),jj 55 (.bin .gtr (.t 54) (ki 200)),jm 56 55,jg 57 56 false (.fadr 6 (.t 7)),jg 58 56 false (.load 1 false (.t 57)),jg 59 56 false (.len (.t 58)),jg 60 56 false (.bin .gtr (.t 59) (ki 200)),jj 61 (.pick (.t 56) (.k (.d (.bool true))) (.t 60)),jm 62 61,jg 63 62 false (.fadr 7 (.t 7)),jg 64 62 false (.load 1 false (.t 63)),jg 65 62 false (.len (.t 64)),jg 66 62 false (.bin .gtr (.t 65) (ki 200)),jj 67 (.pick (.t 62) (.k (.d (.bool true))) (.t 66))])
 (.cond (.t 67) (.seq (.reg [jj 4 (.mov (.k (.d (.bool false))))])
 .ret)
 .skip))))
 (.reg [jm 45 6,jj 46 (.bin .add (.t 45) (ki 1)),jm 6 46]))))))
 (.seq (.reg [jj 4 (.mov (.k (.d (.bool true))))])
 .ret)))))
def rs35:List RV:=[.tmp 4]
theorem ok35:okF Tryz.prog 35=true:=by kernel_rfl
theorem cc35:cCode Tryz.prog Tryz.f35.ntmps (Tryz.f35.body.getD .skip)=some kc35:=by kernel_rfl
theorem cr35:cRess Tryz.prog Tryz.f35.results.toList=some rs35:=by kernel_rfl
def kc36:C:=
  (.seq (.reg [jj 1 (.box 36 (.t 0)),jj 2 (.mov (.k (.d (.bool false))))])
 (.seq (.drw [0, 0, 2, 7, 15, 31, 31, 63, 255]
  [jj 6 (.call 84 []),jj 7 (.fadr 2 (.t 1)),jj 8 (.load 1 false (.t 7)),jj 9 (.lkq ((.raw .nilFunc)) (.t 6) (.t 8)),jm 5 9,jj 10 (.ext 0 (.t 5)),jj 11 (.ext 1 (.t 5)),jm 3 10,jm 4 11])
 (.seq (.reg [jm 12 4,jm 13 12,jg 14 13 true (.fadr 0 (.t 1)),jg 15 13 true (.load 1 false (.t 14)),jg 16 13 true (.call 85 [(.t 15)]),jj 17 (.pick (.t 13) (.t 16) (.k (.d (.bool false)))),jm 18 17,jg 19 18 true (.fadr 1 (.t 1)),jg 20 18 true (.load 1 false (.t 19)),jg 21 18 true (.call 85 [(.t 20)]),jj 22 (.pick (.t 18) (.t 21) (.k (.d (.bool false)))),jm 23 22,jg 24 23 true (.mov (.t 3)),jg 25 23 true (.load 9 true (.t 1)),jg 26 23 true (.callv (.t 24) [(.t 25)]),jj 27 (.pick (.t 23) (.t 26) (.k (.d (.bool false)))),jm 2 27])
 .ret)))
def rs36:List RV:=[.tmp 2]
theorem ok36:okF Tryz.prog 36=true:=by kernel_rfl
theorem cc36:cCode Tryz.prog Tryz.f36.ntmps (Tryz.f36.body.getD .skip)=some kc36:=by kernel_rfl
theorem cr36:cRess Tryz.prog Tryz.f36.results.toList=some rs36:=by kernel_rfl
def kc37:C:=
  (.seq (.reg [jj 2 (.mov (.k (zl)))])
 (.seq (.seq (.reg [jm 3 0,jj 4 (.isnil false (.t 3))])
 (.cond (.t 4) (.seq (.reg [jj 2 (.mov (.k (zl)))])
 .ret)
 .skip))
 (.seq (.reg [jj 5 (.bslice 63 5 0 []),jm 6 0,jj 7 (.app 63 5 40 (.t 5) (.t 6)),jm 2 7])
 .ret)))
def rs37:List RV:=[.tmp 2]
theorem ok37:okF Tryz.prog 37=true:=by kernel_rfl
theorem cc37:cCode Tryz.prog Tryz.f37.ntmps (Tryz.f37.body.getD .skip)=some kc37:=by kernel_rfl
theorem cr37:cRess Tryz.prog Tryz.f37.results.toList=some rs37:=by kernel_rfl
def kc38:C:=
  (.seq (.reg [jj 1 (.box 28 (.t 0)),jj 2 (.alloc 28 [zi,zi,zi,zi,zi,zi,zl])])
 (.seq (.reg [jj 3 (.fadr 6 (.t 1)),jj 4 (.load 1 false (.t 3)),jj 5 (.call 37 [(.t 4)]),jj 6 (.fadr 6 (.t 1)),jn (.store 1 (.t 6) (.t 5))])
 (.seq (.reg [jj 7 (.load 7 true (.t 1)),jn (.store 7 (.t 2) (.t 7))])
 .ret)))
def rs38:List RV:=[.cell 2 7 true]
theorem ok38:okF Tryz.prog 38=true:=by kernel_rfl
theorem cc38:cCode Tryz.prog Tryz.f38.ntmps (Tryz.f38.body.getD .skip)=some kc38:=by kernel_rfl
theorem cr38:cRess Tryz.prog Tryz.f38.results.toList=some rs38:=by kernel_rfl
def kc39:C:=
  (.seq (.reg [jj 2 (.box 31 (.t 0)),jj 3 (.box 34 (.t 1)),jj 4 (.mov (ki 0)),jj 5 (.mov (ki 0))])
 (.seq (.seq (.reg [jj 15 (.load 10 true (.t 2)),jj 16 (.load 1 true (.t 3)),jj 17 (.call 24 [(.t 15),(.t 16)]),jm 14 17,jj 18 (.ext 0 (.t 14)),jj 19 (.ext 1 (.t 14)),jm 6 18,jm 7 19])
 (.seq (.reg [jm 20 7,jj 21 (.bin .neq (.t 20) (ki 0))])
 (.cond (.t 21) (.seq (.reg [jm 22 7,jj 4 (.mov (ki 0)),jm 5 22])
 .ret)
 .skip)))
 (.seq (.reg [jj 24 (.load 10 true (.t 2)),jj 25 (.call 86 [(.t 24)]),jm 23 25,jj 26 (.ext 0 (.t 23)),jj 27 (.ext 1 (.t 23)),jm 8 26,jm 9 27])
 (.seq (.seq (.reg [jm 28 9,jj 29 (.inv .not (.t 28)),jm 30 29,jg 31 30 false (.fadr 9 (.t 2)),jg 32 30 false (.load 1 false (.t 31)),jg 33 30 false (.mov (.t 8)),jg 34 30 false (.iadr 9 (.t 32) (.t 33)),jg 35 30 false (.fadr 2 (.t 34)),jg 36 30 false (.load 1 false (.t 35)),jg 37 30 false (.bin .neq (.t 36) (ki 3)),jj 38 (.pick (.t 30) (.k (.d (.bool true))) (.t 37)),jm 39 38,jg 40 39 false (.fadr 9 (.t 2)),jg 41 39 false (.load 1 false (.t 40)),jg 42 39 false (.mov (.t 8)),jg 43 39 false (.iadr 9 (.t 41) (.t 42)),jg 44 39 false (.fadr 8 (.t 43)),jg 45 39 false (.load 1 false (.t 44)),jg 46 39 false (.bin .neq (.t 45) (ki 1)),jj 47 (.pick (.t 39) (.k (.d (.bool true))) (.t 46))])
 (.cond (.t 47) (.seq (.reg [jj 4 (.mov (ki 0)),jj 5 (.mov (ki 0))])
 .ret)
 .skip))
 (.seq (.reg [jj 48 (.fadr 9 (.t 2)),jj 49 (.load 1 false (.t 48)),jm 50 8,jj 51 (.iadr 9 (.t 49) (.t 50)),jj 52 (.fadr 1 (.t 51)),jj 53 (.load 1 false (.t 52)),jm 10 53])
 (.seq (.drw [0, 1, 0, 7, 0, 16, 0, 64, 240, 511, 1023, 2047, 4095]
  [jj 54 (.fadr 9 (.t 2)),jj 55 (.load 1 false (.t 54)),jm 56 8,jj 57 (.slc 9 (.t 55) none (some (.t 56)) none),jj 58 (.fadr 9 (.t 2)),jj 59 (.load 1 false (.t 58)),jm 60 8,jj 61 (.bin .add (.t 60) (ki 1)),jj 62 (.slc 9 (.t 59) (some (.t 61)) none none),jj 63 (.bslice 29 1 2 [(.t 57),(.t 62)]),jj 64 (.call 87 [(.t 63)]),jj 65 (.fadr 9 (.t 2)),jn (.store 1 (.t 65) (.t 64))])
 (.seq (.reg [jj 67 (.load 10 true (.t 2)),jj 68 (.load 1 true (.t 3)),jj 69 (.call 24 [(.t 67),(.t 68)]),jm 66 69,jj 70 (.ext 0 (.t 66)),jj 71 (.ext 1 (.t 66)),jm 11 70,jm 12 71])
 (.seq (.seq (.reg [jm 72 12,jj 73 (.bin .neq (.t 72) (ki 0))])
 (.cond (.t 73) (.seq (.reg [jm 74 12,jj 4 (.mov (ki 0)),jm 5 74])
 .ret)
 .skip))
 (.seq (.reg [jm 76 11,jm 77 10,jj 78 (.fadr 2 (.t 2)),jj 79 (.fadr 0 (.t 78)),jj 80 (.fadr 1 (.t 79)),jj 81 (.load 1 false (.t 80)),jj 82 (.build [zi,zi] [(0,1,(.t 77)),(1,1,(.t 81))]),jj 83 (.call 29 [(.t 76),(.t 82)]),jm 75 83,jj 84 (.ext 0 (.t 75)),jj 85 (.ext 1 (.t 75)),jm 13 84,jm 12 85])
 (.seq (.seq (.reg [jm 86 12,jj 87 (.bin .neq (.t 86) (ki 0))])
 (.cond (.t 87) (.seq (.reg [jm 88 12,jj 4 (.mov (ki 0)),jm 5 88])
 .ret)
 .skip))
 (.seq (.reg [jm 89 13,jj 90 (.call 88 [(.t 89),(ki 1000)]),jj 91 (.ext 0 (.t 90)),jj 92 (.ext 1 (.t 90)),jm 4 91,jm 5 92])
 .ret)))))))))))
def rs39:List RV:=[.tmp 4,.tmp 5]
theorem ok39:okF Tryz.prog 39=true:=by kernel_rfl
theorem cc39:cCode Tryz.prog Tryz.f39.ntmps (Tryz.f39.body.getD .skip)=some kc39:=by kernel_rfl
theorem cr39:cRess Tryz.prog Tryz.f39.results.toList=some rs39:=by kernel_rfl
def kc40:C:=
  (.seq (.reg [jj 4 (.mov (.k (.d (.bool false))))])
 (.seq (.reg [jm 5 0,jm 6 1,jj 7 (.call 89 [(.t 5),(.t 6)]),jj 8 (.bin .geq (.t 7) (ki 0)),jm 4 8])
 .ret))
def rs40:List RV:=[.tmp 4]
theorem ok40:okF Tryz.prog 40=true:=by kernel_rfl
theorem cc40:cCode Tryz.prog Tryz.f40.ntmps (Tryz.f40.body.getD .skip)=some kc40:=by kernel_rfl
theorem cr40:cRess Tryz.prog Tryz.f40.results.toList=some rs40:=by kernel_rfl
def kc41:C:=
  (.seq (.reg [jj 1 (.box 23 (.t 0)),jj 2 (.mov (ki 0))])
 (.seq (.reg [jj 3 (.load 2 true (.t 1)),jj 4 (.call 71 [(.t 3)]),jn (.store 2 (.t 1) (.t 4))])
 (.seq (.reg [jj 5 (.fadr 1 (.t 1)),jj 6 (.load 1 false (.t 5)),jj 7 (.fadr 0 (.t 1)),jj 8 (.load 1 false (.t 7)),jj 9 (.bin .sub (.t 6) (.t 8)),jm 2 9])
 .ret)))
def rs41:List RV:=[.tmp 2]
theorem ok41:okF Tryz.prog 41=true:=by kernel_rfl
theorem cc41:cCode Tryz.prog Tryz.f41.ntmps (Tryz.f41.body.getD .skip)=some kc41:=by kernel_rfl
theorem cr41:cRess Tryz.prog Tryz.f41.results.toList=some rs41:=by kernel_rfl
def kc42:C:=
  (.seq (.reg [jj 4 (.mov (.k (zl)))])
 (.seq (.reg [jm 8 0,jj 9 (.bslice 3 1 1 [(ki 1)]),jm 10 1,jj 11 (.call 91 [(.t 9),(.t 10)]),jj 12 (.call 90 [(.t 8),(.t 11)]),jm 7 12,jj 13 (.ext 0 (.t 7)),jj 14 (.ext 1 (.t 7)),jm 5 13,jm 6 14])
 (.seq (.reg [jm 15 5,jm 4 15])
 .ret)))
def rs42:List RV:=[.tmp 4]
theorem ok42:okF Tryz.prog 42=true:=by kernel_rfl
theorem cc42:cCode Tryz.prog Tryz.f42.ntmps (Tryz.f42.body.getD .skip)=some kc42:=by kernel_rfl
theorem cr42:cRess Tryz.prog Tryz.f42.results.toList=some rs42:=by kernel_rfl
theorem ok53:okF Tryz.prog 53=true:=by kernel_rfl
def kc54:C:=
  (.seq (.reg [jj 2 (.box 82 (.t 0)),jj 4 (.mov (ki 0))])
 (.seq (.reg [jm 9 1,jj 10 (.mm true (.t 9) (ki 1)),jj 11 (.mm false (.t 10) (ki 292195)),jj 12 (.build [zi,zi] [(0,1,(ki 1)),(1,1,(.t 11))]),jj 5 (.alloc 23 [zi,zi]),jn (.store 2 (.t 5) (.t 12))])
 (.seq (.seq (.reg [jj 13 (.fadr 1 (.t 5)),jj 14 (.load 1 false (.t 13)),jj 15 (.bin .eql (.t 14) (ki 1))])
 (.cond (.t 15) (.seq (.reg [jj 4 (.mov (ki 0))])
 .ret)
 .skip))
 (.seq (.reg [jj 17 (.load 2 true (.t 2)),jj 18 (.load 2 true (.t 5)),jj 19 (.call 30 [(.t 17),(.t 18)]),jm 16 19,jj 20 (.ext 0 (.t 16)),jj 21 (.ext 1 (.t 16)),jm 6 20,jm 7 21])
 (.seq (.reg [jm 22 7,jj 23 (.call 76 [(.t 22)])])
 (.seq (.reg [jm 25 6,jj 26 (.call 96 [(.t 25),(ki 1),(ki 365)]),jm 24 26,jj 27 (.ext 0 (.t 24)),jj 28 (.ext 1 (.t 24)),jm 8 27,jm 7 28])
 (.seq (.reg [jm 29 7,jj 30 (.call 76 [(.t 29)])])
 (.seq (.reg [jm 31 8,jm 4 31])
 .ret))))))))
def rs54:List RV:=[.tmp 4]
theorem ok54:okF Tryz.prog 54=true:=by kernel_rfl
theorem cc54:cCode Tryz.prog Tryz.f54.ntmps (Tryz.f54.body.getD .skip)=some kc54:=by kernel_rfl
theorem cr54:cRess Tryz.prog Tryz.f54.results.toList=some rs54:=by kernel_rfl
def kc55:C:=
  (.seq (.reg [jj 2 (.alloc 82 [zl,zl])])
 (.seq (.seq (.reg [jm 8 0,jj 9 (.len (.t 8)),jj 10 (.bin .gtr (.t 9) (ki 2000))])
 (.cond (.t 10) (.reg [jj 11 (.call 76 [(ki 1)])])
 .skip))
 (.seq (.reg [jj 3 (.alloc 82 [zl,zl])])
 (.seq (.reg [jj 12 (.mkfn (.func 97) [] [(.t 3)]),jm 4 12])
 (.seq (.reg [jj 5 (.mov (ki 1))])
 (.seq (.seq (.reg [jm 13 0,jj 14 (.len (.t 13)),jj 15 (.mov (ki 0))])
 (.block 0 (.loop (.seq (.reg [jj 16 (.bin .lss (.t 15) (.t 14))])
 (.seq (.cond (.t 16) .skip
 (.exit 0))
 (.seq (.block 2 (.seq (.reg [jj 17 (.iadr 9 (.t 13) (.t 15)),jj 18 (.load 9 true (.t 17)),jj 7 (.alloc 118 [zi,zi,.d (.bool false),zi,zi,zi,zi,zl,zi]),jn (.store 9 (.t 7) (.t 18))])
 (.seq (.seq (.reg [jj 19 (.load 9 true (.t 7)),jm 20 5,jj 21 (.call 98 [(.t 19),(.t 20)]),jj 22 (.inv .not (.t 21))])
 (.cond (.t 22) (.reg [jj 23 (.call 76 [(ki 1)])])
 .skip))
 (.seq (.reg [jm 24 4,jj 25 (.fadr 0 (.t 7)),jj 26 (.fadr 0 (.t 25)),jj 27 (.load 1 false (.t 26)),jj 28 (.fadr 8 (.t 7)),jj 29 (.load 1 false (.t 28)),jj 30 (.callv (.t 24) [(.t 27),(.t 29)])])
 (.seq (.reg [jm 31 4,jj 32 (.fadr 0 (.t 7)),jj 33 (.fadr 1 (.t 32)),jj 34 (.load 1 false (.t 33)),jj 35 (.callv (.t 31) [(.t 34),(ki 0)])])
 (.reg [jj 36 (.fadr 0 (.t 7)),jj 37 (.fadr 1 (.t 36)),jj 38 (.load 1 false (.t 37)),jm 5 38]))))))
 (.reg [jj 39 (.bin .add (.t 15) (ki 1)),jm 15 39])))))))
 (.seq (.reg [jj 40 (.load 2 true (.t 3)),jn (.store 2 (.t 2) (.t 40))])
 .ret)))))))
def rs55:List RV:=[.cell 2 2 true]
theorem ok55:okF Tryz.prog 55=true:=by kernel_rfl
theorem cc55:cCode Tryz.prog Tryz.f55.ntmps (Tryz.f55.body.getD .skip)=some kc55:=by kernel_rfl
theorem cr55:cRess Tryz.prog Tryz.f55.results.toList=some rs55:=by kernel_rfl
def kc56:C:=
  (.seq (.reg [jj 2 (.box 118 (.t 0)),jj 3 (.box 118 (.t 1)),jj 4 (.mov (.k (.d (.bool false))))])
 (.seq (.reg [jj 5 (.fadr 0 (.t 2)),jj 6 (.load 2 true (.t 5)),jj 7 (.fadr 0 (.t 3)),jj 8 (.load 2 true (.t 7)),jj 9 (.eqa false 2 [(0,some .i64),(1,some .i64)] (.t 6) (.t 8)),jm 10 9,jg 11 10 true (.fadr 8 (.t 2)),jg 12 10 true (.load 1 false (.t 11)),jg 13 10 true (.fadr 8 (.t 3)),jg 14 10 true (.load 1 false (.t 13)),jg 15 10 true (.bin .eql (.t 12) (.t 14)),jj 16 (.pick (.t 10) (.t 15) (.k (.d (.bool false)))),jm 17 16,jg 18 17 true (.load 9 true (.t 2)),jg 19 17 true (.load 9 true (.t 3)),jg 20 17 true (.call 99 [(.t 18),(.t 19)]),jj 21 (.pick (.t 17) (.t 20) (.k (.d (.bool false)))),jm 4 21])
 .ret))
def rs56:List RV:=[.tmp 4]
theorem ok56:okF Tryz.prog 56=true:=by kernel_rfl
theorem cc56:cCode Tryz.prog Tryz.f56.ntmps (Tryz.f56.body.getD .skip)=some kc56:=by kernel_rfl
theorem cr56:cRess Tryz.prog Tryz.f56.results.toList=some rs56:=by kernel_rfl
def kc57:C:=
  (.seq (.reg [jj 1 (.box 34 (.t 0)),jj 2 (.mov (.k (.d (.bool false))))])
 (.seq (.reg [jj 3 (.alloc 3 [zi]),jn (.store 1 (.t 3) (ki 0))])
 (.seq (.reg [jj 5 (.mkfn (.func 100) [] [(.t 3)]),jm 4 5])
 (.seq (.reg [jj 6 (.fadr 0 (.t 1)),jj 7 (.load 1 false (.t 6)),jj 8 (.len (.t 7)),jj 9 (.bin .leq (.t 8) (ki 100)),jm 10 9,jg 11 10 true (.fadr 0 (.t 1)),jg 12 10 true (.load 1 false (.t 11)),jg 13 10 true (.mov (.t 4)),jg 14 10 true (.call 101 [(.t 12),(.t 13)]),jg 15 10 true (.inv .not (.t 14)),jj 16 (.pick (.t 10) (.t 15) (.k (.d (.bool false)))),jm 2 16])
 .ret))))
def rs57:List RV:=[.tmp 2]
theorem ok57:okF Tryz.prog 57=true:=by kernel_rfl
theorem cc57:cCode Tryz.prog Tryz.f57.ntmps (Tryz.f57.body.getD .skip)=some kc57:=by kernel_rfl
theorem cr57:cRess Tryz.prog Tryz.f57.results.toList=some rs57:=by kernel_rfl
def kc58:C:=
  (.seq (.reg [jj 1 (.box 75 (.t 0)),jj 2 (.mov (.k (.d (.bool false))))])
 (.seq (.block 0 (.seq (.reg [jj 4 (.fadr 0 (.t 1)),jj 5 (.load 1 false (.t 4)),jj 6 (.bin .lss (.t 5) (ki 1)),jm 7 6,jg 8 7 false (.fadr 0 (.t 1)),jg 9 7 false (.load 1 false (.t 8)),jg 10 7 false (.bin .gtr (.t 9) (ki 292194)),jj 11 (.pick (.t 7) (.k (.d (.bool true))) (.t 10)),jm 12 11,jg 13 12 false (.fadr 8 (.t 1)),jg 14 12 false (.load 1 false (.t 13)),jg 15 12 false (.bin .lss (.t 14) (ki 0)),jj 16 (.pick (.t 12) (.k (.d (.bool true))) (.t 15)),jm 17 16,jg 18 17 false (.fadr 8 (.t 1)),jg 19 17 false (.load 1 false (.t 18)),jg 20 17 false (.bin .gtr (.t 19) (ki 1000000000000000)),jj 21 (.pick (.t 17) (.k (.d (.bool true))) (.t 20)),jm 3 21])
 (.cond (.t 3) (.seq (.reg [jj 2 (.mov (.k (.d (.bool false))))])
 .ret)
 (.seq (.reg [jj 23 (.fadr 5 (.t 1)),jj 24 (.load 1 false (.t 23)),jj 25 (.len (.t 24)),jj 26 (.bin .gtr (.t 25) (ki 100)),jm 27 26,jg 28 27 false (.fadr 6 (.t 1)),jg 29 27 false (.load 1 false (.t 28)),jg 30 27 false (.len (.t 29)),jg 31 27 false (.bin .lss (.t 30) (ki 1)),jj 32 (.pick (.t 27) (.k (.d (.bool true))) (.t 31)),jm 33 32,jg 34 33 false (.fadr 6 (.t 1)),jg 35 33 false (.load 1 false (.t 34)),jg 36 33 false (.len (.t 35)),jg 37 33 false (.bin .gtr (.t 36) (ki 100)),jj 38 (.pick (.t 33) (.k (.d (.bool true))) (.t 37)),jm 39 38,jg 40 39 false (.fadr 7 (.t 1)),jg 41 39 false (.load 1 false (.t 40)),jg 42 39 false (.len (.t 41)),jg 43 39 false (.bin .neq (.t 42) (ki 8)),jj 44 (.pick (.t 39) (.k (.d (.bool true))) (.t 43)),jm 22 44])
 (.cond (.t 22) (.seq (.reg [jj 2 (.mov (.k (.d (.bool false))))])
 .ret)
 .skip)))))
 (.seq (.reg [jj 45 (.fadr 1 (.t 1)),jj 46 (.asl 1 4 (.t 45)),jj 47 (.call 102 [(.t 46)]),jm 48 47,jg 49 48 true (.fadr 6 (.t 1)),jg 50 48 true (.load 1 false (.t 49)),jg 51 48 true (.call 102 [(.t 50)]),jj 52 (.pick (.t 48) (.t 51) (.k (.d (.bool false)))),jm 53 52,jg 54 53 true (.fadr 7 (.t 1)),jg 55 53 true (.load 1 false (.t 54)),jg 56 53 true (.call 102 [(.t 55)]),jj 57 (.pick (.t 53) (.t 56) (.k (.d (.bool false)))),jm 58 57,jg 59 58 true (.fadr 5 (.t 1)),jg 60 58 true (.load 1 false (.t 59)),jg 61 58 true (.call 103 [(.t 60)]),jj 62 (.pick (.t 58) (.t 61) (.k (.d (.bool false)))),jm 2 62])
 .ret)))
def rs58:List RV:=[.tmp 2]
theorem ok58:okF Tryz.prog 58=true:=by kernel_rfl
theorem cc58:cCode Tryz.prog Tryz.f58.ntmps (Tryz.f58.body.getD .skip)=some kc58:=by kernel_rfl
theorem cr58:cRess Tryz.prog Tryz.f58.results.toList=some rs58:=by kernel_rfl
def kc59:C:=
  (.seq (.reg [jj 6 (.mov (ki 0)),jj 7 (.mov (.k (.d (.bool false))))])
 (.seq (.reg [jm 12 0,jj 13 (.len (.t 12)),jm 8 13])
 (.seq (.reg [jm 14 8,jj 9 (.mov (ki 0)),jm 10 14])
 (.seq (.block 0 (.loop (.seq (.seq (.reg [jm 15 9,jm 16 10,jj 17 (.bin .lss (.t 15) (.t 16))])
 (.cond (.t 17) .skip
 (.exit 0)))
 (.block 2 (.seq (.reg [jm 18 9,jm 19 10,jj 20 (.bin .add (.t 18) (.t 19)),jj 21 (.conv .u64 (.t 20)),jj 22 (.shf false (.t 21) (.k (.d (.int .u64 1)))),jj 23 (.conv .i64 (.t 22)),jm 11 23])
 (.seq (.reg [jm 24 2,jm 25 0,jm 26 11,jj 27 (.iadr 9 (.t 25) (.t 26)),jj 28 (.load 9 true (.t 27)),jm 29 1,jj 30 (.callv (.t 24) [(.t 28),(.t 29)]),jj 31 (.bin .lss (.t 30) (ki 0))])
 (.cond (.t 31) (.reg [jm 32 11,jj 33 (.bin .add (.t 32) (ki 1)),jm 9 33])
 (.reg [jm 34 11,jm 10 34]))))))))
 (.seq (.reg [jm 35 9,jm 36 9,jm 37 8,jj 38 (.bin .lss (.t 36) (.t 37)),jm 39 38,jg 40 39 true (.mov (.t 2)),jg 41 39 true (.mov (.t 0)),jg 42 39 true (.mov (.t 9)),jg 43 39 true (.iadr 9 (.t 41) (.t 42)),jg 44 39 true (.load 9 true (.t 43)),jg 45 39 true (.mov (.t 1)),jg 46 39 true (.callv (.t 40) [(.t 44),(.t 45)]),jg 47 39 true (.bin .eql (.t 46) (ki 0)),jj 48 (.pick (.t 39) (.t 47) (.k (.d (.bool false)))),jm 6 35,jm 7 48])
 .ret)))))
def rs59:List RV:=[.tmp 6,.tmp 7]
theorem ok59:okF Tryz.prog 59=true:=by kernel_rfl
theorem cc59:cCode Tryz.prog Tryz.f59.ntmps (Tryz.f59.body.getD .skip)=some kc59:=by kernel_rfl
theorem cr59:cRess Tryz.prog Tryz.f59.results.toList=some rs59:=by kernel_rfl
def kc60:C:=
  (.seq (.reg [jj 2 (.box 75 (.t 0)),jj 4 (.mov (ki 0))])
 (.seq (.reg [jj 5 (.fadr 0 (.t 2)),jj 6 (.load 1 false (.t 5)),jm 7 1,jj 8 (.bin .sub (.t 6) (.t 7)),jm 4 8])
 .ret))
def rs60:List RV:=[.tmp 4]
theorem ok60:okF Tryz.prog 60=true:=by kernel_rfl
theorem cc60:cCode Tryz.prog Tryz.f60.ntmps (Tryz.f60.body.getD .skip)=some kc60:=by kernel_rfl
theorem cr60:cRess Tryz.prog Tryz.f60.results.toList=some rs60:=by kernel_rfl
def kc61:C:=
  (.seq (.reg [jj 6 (.mov (.k (zl)))])
 (.seq (.reg [jm 10 0,jm 11 1,jj 12 (.slc 9 (.t 10) (some (.t 11)) none none)])
 (.seq (.reg [jm 13 2,jj 14 (.len (.t 13)),jm 7 14])
 (.seq (.seq (.reg [jm 15 7,jj 16 (.bin .eql (.t 15) (ki 0))])
 (.cond (.t 16) (.seq (.reg [jm 17 0,jm 6 17])
 .ret)
 .skip))
 (.seq (.reg [jm 18 0,jj 19 (.len (.t 18)),jm 8 19])
 (.seq (.seq (.reg [jm 20 1,jm 21 8,jj 22 (.bin .eql (.t 20) (.t 21))])
 (.cond (.t 22) (.seq (.reg [jm 23 0,jm 24 2,jj 25 (.app 75 9 120 (.t 23) (.t 24)),jm 6 25])
 .ret)
 .skip))
 (.seq (.seq (.reg [jm 26 8,jm 27 7,jj 28 (.bin .add (.t 26) (.t 27)),jm 29 0,jj 30 (.cap (.t 29)),jj 31 (.bin .gtr (.t 28) (.t 30))])
 (.cond (.t 31) (.seq (.reg [jm 32 0,jm 33 1,jj 34 (.slc 9 (.t 32) none (some (.t 33)) none),jm 35 8,jm 36 7,jj 37 (.bin .add (.t 35) (.t 36)),jm 38 1,jj 39 (.bin .sub (.t 37) (.t 38)),jj 40 (.apz 75 9 120 [(.int .i64 0),(.int .i64 0),(.int .i64 0),(.int .i64 0),(.int .i64 0),(.sl true 0 0 fun _=>[]),(.sl true 0 0 fun _=>[]),(.sl true 0 0 fun _=>[]),(.int .i64 0)] (.t 34) (.t 39)),jm 9 40])
 (.seq (.reg [jm 41 9,jm 42 1,jj 43 (.slc 9 (.t 41) (some (.t 42)) none none),jm 44 2,jj 45 (.cpy 9 (.t 43) (.t 44))])
 (.seq (.drw [0, 0, 0, 6, 15, 0, 0, 96, 255]
  [jm 46 9,jm 47 1,jm 48 7,jj 49 (.bin .add (.t 47) (.t 48)),jj 50 (.slc 9 (.t 46) (some (.t 49)) none none),jm 51 0,jm 52 1,jj 53 (.slc 9 (.t 51) (some (.t 52)) none none),jj 54 (.cpy 9 (.t 50) (.t 53))])
 (.seq (.reg [jm 55 9,jm 6 55])
 .ret))))
 .skip))
 (.seq (.reg [jm 56 0,jm 57 8,jm 58 7,jj 59 (.bin .add (.t 57) (.t 58)),jj 60 (.slc 9 (.t 56) none (some (.t 59)) none),jm 0 60])
 (.seq (.seq (.reg [jm 61 2,jm 62 0,jm 63 1,jm 64 7,jj 65 (.bin .add (.t 63) (.t 64)),jj 66 (.slc 9 (.t 62) (some (.t 65)) none none),jj 67 (.call 104 [(.t 61),(.t 66)]),jj 68 (.inv .not (.t 67))])
 (.cond (.t 68) (.seq (.drw [0, 0, 0, 6, 15, 0, 0, 96, 255]
  [jm 69 0,jm 70 1,jm 71 7,jj 72 (.bin .add (.t 70) (.t 71)),jj 73 (.slc 9 (.t 69) (some (.t 72)) none none),jm 74 0,jm 75 1,jj 76 (.slc 9 (.t 74) (some (.t 75)) none none),jj 77 (.cpy 9 (.t 73) (.t 76))])
 (.seq (.reg [jm 78 0,jm 79 1,jj 80 (.slc 9 (.t 78) (some (.t 79)) none none),jm 81 2,jj 82 (.cpy 9 (.t 80) (.t 81))])
 (.seq (.reg [jm 83 0,jm 6 83])
 .ret)))
 .skip))
 (.seq (.reg [jm 84 0,jm 85 8,jj 86 (.slc 9 (.t 84) (some (.t 85)) none none),jm 87 2,jj 88 (.cpy 9 (.t 86) (.t 87))])
 (.seq (.reg [jm 89 0,jm 90 1,jj 91 (.slc 9 (.t 89) (some (.t 90)) none none),jm 92 7,jj 93 (.call 105 [(.t 91),(.t 92)])])
 (.seq (.reg [jm 94 0,jm 6 94])
 .ret))))))))))))
def rs61:List RV:=[.tmp 6]
theorem ok61:okF Tryz.prog 61=true:=by kernel_rfl
theorem cc61:cCode Tryz.prog Tryz.f61.ntmps (Tryz.f61.body.getD .skip)=some kc61:=by kernel_rfl
theorem cr61:cRess Tryz.prog Tryz.f61.results.toList=some rs61:=by kernel_rfl
def kc62:C:=
  (.seq (.reg [jj 2 (.mov (.k (zl)))])
 (.seq (.seq (.reg [jm 3 0,jj 4 (.isnil false (.t 3))])
 (.cond (.t 4) (.seq (.reg [jj 2 (.mov (.k (zl)))])
 .ret)
 .skip))
 (.seq (.reg [jj 5 (.bslice 75 9 0 []),jm 6 0,jj 7 (.app 75 9 120 (.t 5) (.t 6)),jm 2 7])
 .ret)))
def rs62:List RV:=[.tmp 2]
theorem ok62:okF Tryz.prog 62=true:=by kernel_rfl
theorem cc62:cCode Tryz.prog Tryz.f62.ntmps (Tryz.f62.body.getD .skip)=some kc62:=by kernel_rfl
theorem cr62:cRess Tryz.prog Tryz.f62.results.toList=some rs62:=by kernel_rfl
def kc63:C:=
  (.seq (.reg [jj 1 (.box 75 (.t 0)),jj 2 (.alloc 75 [zi,zi,zi,zi,zi,zl,zl,zl,zi])])
 (.seq (.drw [0, 1, 3, 0, 8, 31, 0, 64, 255, 223, 1023, 2047, 4095, 8191, 16383]
  [jj 3 (.fadr 5 (.t 1)),jj 4 (.load 1 false (.t 3)),jj 5 (.call 106 [(.t 4)]),jj 6 (.fadr 6 (.t 1)),jj 7 (.load 1 false (.t 6)),jj 8 (.call 72 [(.t 7)]),jj 9 (.fadr 7 (.t 1)),jj 10 (.load 1 false (.t 9)),jj 11 (.call 72 [(.t 10)]),jj 12 (.fadr 5 (.t 1)),jn (.store 1 (.t 12) (.t 5)),jj 13 (.fadr 6 (.t 1)),jn (.store 1 (.t 13) (.t 8)),jj 14 (.fadr 7 (.t 1)),jn (.store 1 (.t 14) (.t 11))])
 (.seq (.reg [jj 15 (.load 9 true (.t 1)),jn (.store 9 (.t 2) (.t 15))])
 .ret)))
def rs63:List RV:=[.cell 2 9 true]
theorem ok63:okF Tryz.prog 63=true:=by kernel_rfl
theorem cc63:cCode Tryz.prog Tryz.f63.ntmps (Tryz.f63.body.getD .skip)=some kc63:=by kernel_rfl
theorem cr63:cRess Tryz.prog Tryz.f63.results.toList=some rs63:=by kernel_rfl
def kc64:C:=
  (.seq (.reg [jj 1 (.box 31 (.t 0)),jj 2 (.mov (.k (.d (.bool false))))])
 (.seq (.seq (.reg [jj 5 (.fadr 9 (.t 1)),jj 6 (.load 1 false (.t 5)),jj 7 (.len (.t 6)),jj 8 (.mov (ki 0))])
 (.block 0 (.loop (.seq (.reg [jj 9 (.bin .lss (.t 8) (.t 7))])
 (.seq (.cond (.t 9) .skip
 (.exit 0))
 (.seq (.block 2 (.seq (.reg [jj 10 (.iadr 9 (.t 6) (.t 8)),jj 11 (.load 9 true (.t 10)),jj 4 (.alloc 36 [zi,zi,zi,zi,zi,zi,zi,zl,zi]),jn (.store 9 (.t 4) (.t 11))])
 (.seq (.reg [jj 12 (.load 9 true (.t 4)),jj 13 (.call 36 [(.t 12)]),jj 14 (.inv .not (.t 13)),jm 15 14,jg 16 15 false (.fadr 2 (.t 1)),jg 17 15 false (.fadr 0 (.t 16)),jg 18 15 false (.load 2 true (.t 17)),jg 19 15 false (.fadr 1 (.t 4)),jg 20 15 false (.load 1 false (.t 19)),jg 21 15 false (.call 32 [(.t 18),(.t 20)]),jg 22 15 false (.inv .not (.t 21)),jj 23 (.pick (.t 15) (.k (.d (.bool true))) (.t 22))])
 (.cond (.t 23) (.seq (.reg [jj 2 (.mov (.k (.d (.bool false))))])
 .ret)
 .skip))))
 (.reg [jj 24 (.bin .add (.t 8) (ki 1)),jm 8 24])))))))
 (.seq (.reg [jj 25 (.fadr 2 (.t 1)),jj 26 (.load 7 true (.t 25)),jj 27 (.call 107 [(.t 26)]),jm 28 27,jg 29 28 true (.fadr 9 (.t 1)),jg 30 28 true (.load 1 false (.t 29)),jg 31 28 true (.len (.t 30)),jg 32 28 true (.bin .leq (.t 31) (ki 2000)),jj 33 (.pick (.t 28) (.t 32) (.k (.d (.bool false)))),jm 2 33])
 .ret)))
def rs64:List RV:=[.tmp 2]
theorem ok64:okF Tryz.prog 64=true:=by kernel_rfl
theorem cc64:cCode Tryz.prog Tryz.f64.ntmps (Tryz.f64.body.getD .skip)=some kc64:=by kernel_rfl
theorem cr64:cRess Tryz.prog Tryz.f64.results.toList=some rs64:=by kernel_rfl
def kc65:C:=
  (.seq (.reg [jj 2 (.box 34 (.t 0)),jj 3 (.box 3 (.t 1)),jj 4 (.alloc 75 [zi,zi,zi,zi,zi,zl,zl,zl,zi]),jj 5 (.alloc 40 [zi])])
 (.seq (.seq (.reg [jj 8 (.fadr 0 (.t 2)),jj 9 (.load 1 false (.t 8)),jj 10 (.call 108 [(.t 9)])])
 (.block 0 (.rfn (.t 10) [11,12] (.reg [jj 7 (.alloc 75 [zi,zi,zi,zi,zi,zl,zl,zl,zi]),jn (.store 9 (.t 7) (.t 12))])
 (.block 2 (.seq (.reg [jj 13 (.fadr 0 (.t 7)),jj 14 (.load 1 false (.t 13)),jj 15 (.load 1 false (.t 3)),jj 16 (.bin .leq (.t 14) (.t 15))])
 (.cond (.t 16) (.seq (.reg [jj 17 (.load 9 true (.t 7)),jj 18 (.call 63 [(.t 17)]),jn (.store 9 (.t 4) (.t 18)),jn (.store 1 (.t 5) (ki 0))])
 .ret)
 .skip))))))
 (.seq (.reg [jj 19 (.build [zi,zi,zi,zi,zi,zl,zl,zl,zi] []),jn (.store 9 (.t 4) (.t 19)),jn (.store 1 (.t 5) (ki 7))])
 .ret)))
def rs65:List RV:=[.cell 4 9 true,.cell 5 1 false]
theorem ok65:okF Tryz.prog 65=true:=by kernel_rfl
theorem cc65:cCode Tryz.prog Tryz.f65.ntmps (Tryz.f65.body.getD .skip)=some kc65:=by kernel_rfl
theorem cr65:cRess Tryz.prog Tryz.f65.results.toList=some rs65:=by kernel_rfl
def kc66:C:=
  (.seq (.reg [jj 1 (.box 31 (.t 0)),jj 2 (.mov (.k (zl)))])
 (.seq (.reg [jj 9 (.fadr 2 (.t 1)),jj 10 (.fadr 0 (.t 9)),jj 11 (.load 2 true (.t 10)),jj 3 (.alloc 23 [zi,zi]),jn (.store 2 (.t 3) (.t 11))])
 (.seq (.drw [0, 1, 3, 0, 8, 24, 0, 0, 128, 384, 960, 2047, 0, 8191]
  [jj 12 (.fadr 0 (.t 3)),jj 13 (.load 1 false (.t 12)),jj 14 (.build [zi,zi] [(0,1,(.t 13))]),jj 15 (.fadr 2 (.t 1)),jj 16 (.fadr 2 (.t 15)),jj 17 (.load 4 true (.t 16)),jj 18 (.bslice 63 5 0 []),jj 19 (.fadr 2 (.t 1)),jj 20 (.fadr 6 (.t 19)),jj 21 (.load 1 false (.t 20)),jj 22 (.app 63 5 40 (.t 18) (.t 21)),jj 23 (.build [zi,zi,.d (.bool false),zi,zi,zi,zi,zl,zi] [(0,2,(.t 14)),(2,1,(.k (.d (.bool true)))),(3,4,(.t 17)),(7,1,(.t 22))]),jj 4 (.alloc 118 [zi,zi,.d (.bool false),zi,zi,zi,zi,zl,zi]),jn (.store 9 (.t 4) (.t 23))])
 (.seq (.reg [jj 5 (.alloc 66 [zl])])
 (.seq (.reg [jj 24 (.mkfn (.func 109) [] [(.t 4),(.t 5)]),jm 6 24])
 (.seq (.seq (.reg [jj 25 (.load 10 true (.t 1)),jj 26 (.call 111 [(.t 25)]),jj 27 (.len (.t 26)),jj 28 (.mov (ki 0))])
 (.block 0 (.loop (.seq (.reg [jj 29 (.bin .lss (.t 28) (.t 27))])
 (.seq (.cond (.t 29) .skip
 (.exit 0))
 (.seq (.block 2 (.seq (.reg [jj 30 (.iadr 1 (.t 26) (.t 28)),jj 31 (.load 1 false (.t 30)),jm 8 31])
 (.seq (.reg [jm 32 6,jj 33 (.fadr 9 (.t 1)),jj 34 (.load 1 false (.t 33)),jm 35 8,jj 36 (.iadr 9 (.t 34) (.t 35)),jj 37 (.fadr 1 (.t 36)),jj 38 (.load 1 false (.t 37)),jj 39 (.callv (.t 32) [(.t 38)])])
 (.reg [jj 40 (.fadr 9 (.t 1)),jj 41 (.load 1 false (.t 40)),jm 42 8,jj 43 (.iadr 9 (.t 41) (.t 42)),jj 44 (.load 9 true (.t 43)),jj 45 (.call 112 [(.t 4),(.t 44)])]))))
 (.reg [jj 46 (.bin .add (.t 28) (ki 1)),jm 28 46])))))))
 (.seq (.reg [jm 47 6,jj 48 (.fadr 1 (.t 3)),jj 49 (.load 1 false (.t 48)),jj 50 (.callv (.t 47) [(.t 49)])])
 (.seq (.reg [jj 51 (.load 1 false (.t 5)),jm 2 51])
 .ret))))))))
def rs66:List RV:=[.tmp 2]
theorem ok66:okF Tryz.prog 66=true:=by kernel_rfl
theorem cc66:cCode Tryz.prog Tryz.f66.ntmps (Tryz.f66.body.getD .skip)=some kc66:=by kernel_rfl
theorem cr66:cRess Tryz.prog Tryz.f66.results.toList=some rs66:=by kernel_rfl
def kc67:C:=
  (.seq (.reg [jj 3 (.box 75 (.t 0)),jj 4 (.box 25 (.t 1)),jj 6 (.mov (ki 0)),jj 7 (.mov (ki 0))])
 (.seq (.reg [jj 15 (.call 113 []),jm 8 15,jj 9 (.mov (ki 0)),jj 10 (.mov (.k (.d (.bool true))))])
 (.seq (.seq (.reg [jm 16 2,jj 17 (.len (.t 16)),jj 18 (.mov (ki 0))])
 (.block 0 (.loop (.seq (.reg [jj 19 (.bin .lss (.t 18) (.t 17))])
 (.seq (.cond (.t 19) .skip
 (.exit 0))
 (.seq (.block 2 (.seq (.reg [jj 20 (.iadr 5 (.t 16) (.t 18)),jj 21 (.load 5 true (.t 20)),jj 12 (.alloc 63 [zi,zi,zi,zi,zi]),jn (.store 5 (.t 12) (.t 21))])
 (.seq (.reg [jj 23 (.load 9 true (.t 3)),jj 24 (.load 4 true (.t 4)),jj 25 (.load 5 true (.t 12)),jj 26 (.call 114 [(.t 23),(.t 24),(.t 25)]),jm 22 26,jj 27 (.ext 0 (.t 22)),jj 28 (.ext 1 (.t 22)),jm 13 27,jm 14 28])
 (.seq (.seq (.reg [jm 29 14,jj 30 (.bin .neq (.t 29) (ki 0))])
 (.cond (.t 30) (.seq (.reg [jm 31 14,jj 6 (.mov (ki 0)),jm 7 31])
 .ret)
 .skip))
 (.seq (.reg [jm 32 10])
 (.cond (.t 32) (.reg [jm 34 8,jm 35 13,jj 36 (.callv (.t 34) [(.t 35)]),jm 33 36,jj 37 (.ext 0 (.t 33)),jj 38 (.ext 1 (.t 33)),jm 9 37,jm 10 38])
 .skip))))))
 (.reg [jj 39 (.bin .add (.t 18) (ki 1)),jm 18 39])))))))
 (.seq (.seq (.reg [jm 40 10,jj 41 (.inv .not (.t 40))])
 (.cond (.t 41) (.seq (.reg [jj 6 (.mov (ki 0)),jj 7 (.mov (ki 5))])
 .ret)
 .skip))
 (.seq (.reg [jm 42 9,jm 6 42,jj 7 (.mov (ki 0))])
 .ret)))))
def rs67:List RV:=[.tmp 6,.tmp 7]
theorem ok67:okF Tryz.prog 67=true:=by kernel_rfl
theorem cc67:cCode Tryz.prog Tryz.f67.ntmps (Tryz.f67.body.getD .skip)=some kc67:=by kernel_rfl
theorem cr67:cRess Tryz.prog Tryz.f67.results.toList=some rs67:=by kernel_rfl
def kc68:C:=
  (.seq (.reg [jj 2 (.alloc 142 [zi,zi,zi]),jj 3 (.mov (ki 0))])
 (.seq (.reg [jm 10 0,jj 11 (.call 115 [(.t 10)]),jm 9 11,jj 12 (.ext 0 (.t 9)),jj 13 (.ext 1 (.t 9)),jm 4 12,jm 5 13])
 (.seq (.seq (.reg [jm 14 5,jj 15 (.bin .neq (.t 14) (ki 0))])
 (.cond (.t 15) (.seq (.reg [jj 16 (.build [zi,zi,zi] []),jm 17 5,jn (.store 3 (.t 2) (.t 16)),jm 3 17])
 .ret)
 .skip))
 (.seq (.reg [jm 18 4,jm 19 0,jm 20 4,jj 21 (.call 116 [(.t 20)]),jj 22 (.bin .sub (.t 19) (.t 21)),jj 23 (.build [zi,zi,zi] [(0,1,(.t 18)),(1,1,(ki 1)),(2,1,(.t 22))]),jj 6 (.alloc 142 [zi,zi,zi]),jn (.store 3 (.t 6) (.t 23))])
 (.seq (.seq (.reg [jm 24 4,jj 25 (.call 69 [(.t 24)]),jj 26 (.mov (ki 0))])
 (.block 0 (.loop (.seq (.reg [jj 27 (.bin .lss (.t 26) (ki 12))])
 (.seq (.cond (.t 27) .skip
 (.exit 0))
 (.seq (.block 2 (.seq (.reg [jj 28 (.idx 1 12 false (.t 25) (.t 26)),jm 8 28])
 (.seq (.seq (.reg [jj 29 (.fadr 2 (.t 6)),jj 30 (.load 1 false (.t 29)),jm 31 8,jj 32 (.bin .leq (.t 30) (.t 31))])
 (.cond (.t 32) (.exit 0)
 .skip))
 (.seq (.reg [jj 33 (.fadr 2 (.t 6)),jj 34 (.load 1 false (.t 33)),jm 35 8,jj 36 (.bin .sub (.t 34) (.t 35)),jj 37 (.fadr 2 (.t 6)),jn (.store 1 (.t 37) (.t 36))])
 (.reg [jj 38 (.fadr 1 (.t 6)),jj 39 (.load 1 false (.t 38)),jj 40 (.bin .add (.t 39) (ki 1)),jj 41 (.fadr 1 (.t 6)),jn (.store 1 (.t 41) (.t 40))])))))
 (.reg [jj 42 (.bin .add (.t 26) (ki 1)),jm 26 42])))))))
 (.seq (.reg [jj 43 (.load 3 true (.t 6)),jn (.store 3 (.t 2) (.t 43)),jj 3 (.mov (ki 0))])
 .ret))))))
def rs68:List RV:=[.cell 2 3 true,.tmp 3]
theorem ok68:okF Tryz.prog 68=true:=by kernel_rfl
theorem cc68:cCode Tryz.prog Tryz.f68.ntmps (Tryz.f68.body.getD .skip)=some kc68:=by kernel_rfl
theorem cr68:cRess Tryz.prog Tryz.f68.results.toList=some rs68:=by kernel_rfl
def kc69:C:=
  (.seq (.reg [jj 2 (.alloc 145 [zi,zi,zi,zi,zi,zi,zi,zi,zi,zi,zi,zi])])
 (.seq (.reg [jj 4 (.build [zi,zi,zi,zi,zi,zi,zi,zi,zi,zi,zi,zi] [(0,1,(ki 31)),(1,1,(ki 28)),(2,1,(ki 31)),(3,1,(ki 30)),(4,1,(ki 31)),(5,1,(ki 30)),(6,1,(ki 31)),(7,1,(ki 31)),(8,1,(ki 30)),(9,1,(ki 31)),(10,1,(ki 30)),(11,1,(ki 31))]),jj 3 (.alloc 145 [zi,zi,zi,zi,zi,zi,zi,zi,zi,zi,zi,zi]),jn (.store 12 (.t 3) (.t 4))])
 (.seq (.seq (.reg [jm 5 0,jj 6 (.call 117 [(.t 5)])])
 (.cond (.t 6) (.reg [jj 7 (.aadr 1 12 (.t 3) (ki 1)),jj 8 (.load 1 false (.t 7)),jj 9 (.bin .add (.t 8) (ki 1)),jj 10 (.aadr 1 12 (.t 3) (ki 1)),jn (.store 1 (.t 10) (.t 9))])
 .skip))
 (.seq (.reg [jj 11 (.load 12 true (.t 3)),jn (.store 12 (.t 2) (.t 11))])
 .ret))))
def rs69:List RV:=[.cell 2 12 true]
theorem ok69:okF Tryz.prog 69=true:=by kernel_rfl
theorem cc69:cCode Tryz.prog Tryz.f69.ntmps (Tryz.f69.body.getD .skip)=some kc69:=by kernel_rfl
theorem cr69:cRess Tryz.prog Tryz.f69.results.toList=some rs69:=by kernel_rfl
def kc70:C:=
  (.seq (.reg [jj 1 (.box 142 (.t 0)),jj 2 (.mov (ki 0)),jj 3 (.mov (ki 0))])
 (.seq (.seq (.reg [jj 7 (.load 3 true (.t 1)),jj 8 (.call 118 [(.t 7)]),jj 9 (.inv .not (.t 8))])
 (.cond (.t 9) (.seq (.reg [jj 2 (.mov (ki 0)),jj 3 (.mov (ki 3))])
 .ret)
 .skip))
 (.seq (.drw [0, 1, 3, 0, 8, 31, 0, 64, 255, 0, 575, 2047]
  [jj 10 (.fadr 0 (.t 1)),jj 11 (.load 1 false (.t 10)),jj 12 (.call 69 [(.t 11)]),jj 13 (.fadr 0 (.t 1)),jj 14 (.load 1 false (.t 13)),jj 15 (.call 116 [(.t 14)]),jj 16 (.fadr 2 (.t 1)),jj 17 (.load 1 false (.t 16)),jj 18 (.bin .add (.t 15) (.t 17)),jj 4 (.alloc 145 [zi,zi,zi,zi,zi,zi,zi,zi,zi,zi,zi,zi]),jn (.store 12 (.t 4) (.t 12)),jm 5 18])
 (.seq (.seq (.reg [jj 19 (.fadr 1 (.t 1)),jj 20 (.load 1 false (.t 19)),jj 21 (.bin .sub (.t 20) (ki 1)),jj 22 (.mov (ki 0))])
 (.block 0 (.loop (.seq (.reg [jj 23 (.bin .lss (.t 22) (.t 21))])
 (.seq (.cond (.t 23) .skip
 (.exit 0))
 (.seq (.block 2 (.seq (.reg [jm 24 22,jm 6 24])
 (.reg [jm 25 5,jm 26 6,jj 27 (.aadr 1 12 (.t 4) (.t 26)),jj 28 (.load 1 false (.t 27)),jj 29 (.bin .add (.t 25) (.t 28)),jm 5 29])))
 (.reg [jj 30 (.bin .add (.t 22) (ki 1)),jm 22 30])))))))
 (.seq (.reg [jm 31 5,jm 2 31,jj 3 (.mov (ki 0))])
 .ret)))))
def rs70:List RV:=[.tmp 2,.tmp 3]
theorem ok70:okF Tryz.prog 70=true:=by kernel_rfl
theorem cc70:cCode Tryz.prog Tryz.f70.ntmps (Tryz.f70.body.getD .skip)=some kc70:=by kernel_rfl
theorem cr70:cRess Tryz.prog Tryz.f70.results.toList=some rs70:=by kernel_rfl
def kc71:C:=
  (.seq (.reg [jj 1 (.box 23 (.t 0)),jj 2 (.alloc 23 [zi,zi])])
 (.seq (.seq (.reg [jj 3 (.load 2 true (.t 1)),jj 4 (.call 75 [(.t 3)]),jj 5 (.inv .not (.t 4)),jm 6 5,jg 7 6 false (.fadr 0 (.t 1)),jg 8 6 false (.load 1 false (.t 7)),jg 9 6 false (.fadr 1 (.t 1)),jg 10 6 false (.load 1 false (.t 9)),jg 11 6 false (.bin .eql (.t 8) (.t 10)),jj 12 (.pick (.t 6) (.k (.d (.bool true))) (.t 11))])
 (.cond (.t 12) (.seq (.reg [jj 13 (.build [zi,zi] []),jn (.store 2 (.t 2) (.t 13))])
 .ret)
 .skip))
 (.seq (.reg [jj 14 (.load 2 true (.t 1)),jn (.store 2 (.t 2) (.t 14))])
 .ret)))
def rs71:List RV:=[.cell 2 2 true]
theorem ok71:okF Tryz.prog 71=true:=by kernel_rfl
theorem cc71:cCode Tryz.prog Tryz.f71.ntmps (Tryz.f71.body.getD .skip)=some kc71:=by kernel_rfl
theorem cr71:cRess Tryz.prog Tryz.f71.results.toList=some rs71:=by kernel_rfl
def kc72:C:=
  (.seq (.reg [jj 2 (.mov (.k (zl)))])
 (.seq (.seq (.reg [jm 3 0,jj 4 (.isnil false (.t 3))])
 (.cond (.t 4) (.seq (.reg [jj 2 (.mov (.k (zl)))])
 .ret)
 .skip))
 (.seq (.reg [jj 5 (.bslice 3 1 0 []),jm 6 0,jj 7 (.app 3 1 8 (.t 5) (.t 6)),jm 2 7])
 .ret)))
def rs72:List RV:=[.tmp 2]
theorem ok72:okF Tryz.prog 72=true:=by kernel_rfl
theorem cc72:cCode Tryz.prog Tryz.f72.ntmps (Tryz.f72.body.getD .skip)=some kc72:=by kernel_rfl
theorem cr72:cRess Tryz.prog Tryz.f72.results.toList=some rs72:=by kernel_rfl
def kc75:C:=
  (.seq (.reg [jj 1 (.box 23 (.t 0)),jj 2 (.mov (.k (.d (.bool false))))])
 (.seq (.reg [jj 3 (.fadr 0 (.t 1)),jj 4 (.load 1 false (.t 3)),jj 5 (.bin .geq (.t 4) (ki 1)),jm 6 5,jg 7 6 true (.fadr 0 (.t 1)),jg 8 6 true (.load 1 false (.t 7)),jg 9 6 true (.fadr 1 (.t 1)),jg 10 6 true (.load 1 false (.t 9)),jg 11 6 true (.bin .leq (.t 8) (.t 10)),jj 12 (.pick (.t 6) (.t 11) (.k (.d (.bool false)))),jm 13 12,jg 14 13 true (.fadr 1 (.t 1)),jg 15 13 true (.load 1 false (.t 14)),jg 16 13 true (.bin .leq (.t 15) (ki 292195)),jj 17 (.pick (.t 13) (.t 16) (.k (.d (.bool false)))),jm 2 17])
 .ret))
def rs75:List RV:=[.tmp 2]
theorem ok75:okF Tryz.prog 75=true:=by kernel_rfl
theorem cc75:cCode Tryz.prog Tryz.f75.ntmps (Tryz.f75.body.getD .skip)=some kc75:=by kernel_rfl
theorem cr75:cRess Tryz.prog Tryz.f75.results.toList=some rs75:=by kernel_rfl
def kc76:C:=
  (.seq (.reg [jm 2 0,jj 3 (.bin .neq (.t 2) (ki 0))])
 (.cond (.t 3) (.reg [jm 4 0,jj 5 (.mkifc 40 (.t 4)),jn (.pnc (.t 5))])
 .skip))
def rs76:List RV:=[]
theorem ok76:okF Tryz.prog 76=true:=by kernel_rfl
theorem cc76:cCode Tryz.prog Tryz.f76.ntmps (Tryz.f76.body.getD .skip)=some kc76:=by kernel_rfl
theorem cr76:cRess Tryz.prog Tryz.f76.results.toList=some rs76:=by kernel_rfl
def kc77:C:=
  (.seq (.reg [jj 1 (.box 82 (.t 0)),jj 2 (.mov (.k (.d (.bool false))))])
 (.seq (.seq (.reg [jj 8 (.fadr 0 (.t 1)),jj 9 (.load 1 false (.t 8)),jj 10 (.len (.t 9)),jj 11 (.fadr 1 (.t 1)),jj 12 (.load 1 false (.t 11)),jj 13 (.len (.t 12)),jj 14 (.bin .neq (.t 10) (.t 13))])
 (.cond (.t 14) (.seq (.reg [jj 2 (.mov (.k (.d (.bool false))))])
 .ret)
 .skip))
 (.seq (.reg [jj 3 (.mov (ki 0)),jj 4 (.mov (ki 0))])
 (.seq (.seq (.reg [jj 15 (.fadr 0 (.t 1)),jj 16 (.load 1 false (.t 15)),jj 17 (.len (.t 16)),jj 18 (.mov (ki 0))])
 (.block 0 (.loop (.seq (.reg [jj 19 (.bin .lss (.t 18) (.t 17))])
 (.seq (.cond (.t 19) .skip
 (.exit 0))
 (.seq (.block 2 (.seq (.reg [jm 20 18,jj 21 (.iadr 1 (.t 16) (.t 18)),jj 22 (.load 1 false (.t 21)),jm 5 20,jm 6 22])
 (.seq (.reg [jj 23 (.fadr 1 (.t 1)),jj 24 (.load 1 false (.t 23)),jm 25 5,jj 26 (.iadr 1 (.t 24) (.t 25)),jj 27 (.load 1 false (.t 26)),jm 7 27])
 (.seq (.seq (.reg [jm 28 6,jm 29 3,jj 30 (.bin .leq (.t 28) (.t 29)),jm 31 30,jg 32 31 false (.mov (.t 6)),jg 33 31 false (.bin .gtr (.t 32) (ki 292194)),jj 34 (.pick (.t 31) (.k (.d (.bool true))) (.t 33)),jm 35 34,jg 36 35 false (.mov (.t 7)),jg 37 35 false (.mov (.t 4)),jg 38 35 false (.bin .eql (.t 36) (.t 37)),jj 39 (.pick (.t 35) (.k (.d (.bool true))) (.t 38)),jm 40 39,jg 41 40 false (.mov (.t 7)),jg 42 40 false (.call 121 [(.t 41)]),jg 43 40 false (.inv .not (.t 42)),jj 44 (.pick (.t 40) (.k (.d (.bool true))) (.t 43))])
 (.cond (.t 44) (.seq (.reg [jj 2 (.mov (.k (.d (.bool false))))])
 .ret)
 .skip))
 (.reg [jm 45 6,jm 46 7,jm 3 45,jm 4 46])))))
 (.reg [jj 47 (.bin .add (.t 18) (ki 1)),jm 18 47])))))))
 (.seq (.reg [jj 2 (.mov (.k (.d (.bool true))))])
 .ret)))))
def rs77:List RV:=[.tmp 2]
theorem ok77:okF Tryz.prog 77=true:=by kernel_rfl
theorem cc77:cCode Tryz.prog Tryz.f77.ntmps (Tryz.f77.body.getD .skip)=some kc77:=by kernel_rfl
theorem cr77:cRess Tryz.prog Tryz.f77.results.toList=some rs77:=by kernel_rfl
def kc78:C:=
  (.seq (.reg [jj 1 (.box 23 (.t 0)),jj 2 (.mov (.k (.d (.bool false))))])
 (.seq (.reg [jj 3 (.fadr 0 (.t 1)),jj 4 (.load 1 false (.t 3)),jj 5 (.bin .geq (.t 4) (ki 1)),jm 6 5,jg 7 6 true (.fadr 0 (.t 1)),jg 8 6 true (.load 1 false (.t 7)),jg 9 6 true (.fadr 1 (.t 1)),jg 10 6 true (.load 1 false (.t 9)),jg 11 6 true (.bin .lss (.t 8) (.t 10)),jj 12 (.pick (.t 6) (.t 11) (.k (.d (.bool false)))),jm 13 12,jg 14 13 true (.fadr 1 (.t 1)),jg 15 13 true (.load 1 false (.t 14)),jg 16 13 true (.bin .leq (.t 15) (ki 292195)),jj 17 (.pick (.t 13) (.t 16) (.k (.d (.bool false)))),jm 2 17])
 .ret))
def rs78:List RV:=[.tmp 2]
theorem ok78:okF Tryz.prog 78=true:=by kernel_rfl
theorem cc78:cCode Tryz.prog Tryz.f78.ntmps (Tryz.f78.body.getD .skip)=some kc78:=by kernel_rfl
theorem cr78:cRess Tryz.prog Tryz.f78.results.toList=some rs78:=by kernel_rfl
def kc79:C:=
  (.seq (.reg [jj 2 (.box 82 (.t 0)),jj 3 (.box 23 (.t 1)),jj 4 (.mov (.k (.d (.raw .nilFunc))))])
 (.seq (.reg [jj 5 (.mkfn (.func 122) [] [(.t 3),(.t 2)]),jm 4 5])
 .ret))
def rs79:List RV:=[.tmp 4]
theorem ok79:okF Tryz.prog 79=true:=by kernel_rfl
theorem cc79:cCode Tryz.prog Tryz.f79.ntmps (Tryz.f79.body.getD .skip)=some kc79:=by kernel_rfl
theorem cr79:cRess Tryz.prog Tryz.f79.results.toList=some rs79:=by kernel_rfl
def kc84:C:=
  (.seq (.reg [jj 0 (.mov (.k (.d (.raw (.map none)))))])
 (.seq (.reg [jj 1 (.mkmap ((.raw .nilFunc))),jn (.mup (.t 1) (ki 1) (.k (.fn (.func 129) [] []))),jn (.mup (.t 1) (ki 2) (.k (.fn (.func 131) [] []))),jn (.mup (.t 1) (ki 3) (.k (.fn (.func 133) [] []))),jn (.mup (.t 1) (ki 4) (.k (.fn (.func 134) [] []))),jm 2 1,jm 0 2])
 .ret))
def rs84:List RV:=[.tmp 0]
theorem ok84:okF Tryz.prog 84=true:=by kernel_rfl
theorem cc84:cCode Tryz.prog Tryz.f84.ntmps (Tryz.f84.body.getD .skip)=some kc84:=by kernel_rfl
theorem cr84:cRess Tryz.prog Tryz.f84.results.toList=some rs84:=by kernel_rfl
def kc85:C:=
  (.seq (.reg [jj 2 (.mov (.k (.d (.bool false))))])
 (.seq (.reg [jm 3 0,jj 4 (.bin .geq (.t 3) (ki 1)),jm 5 4,jg 6 5 true (.mov (.t 0)),jg 7 5 true (.bin .leq (.t 6) (ki 292194)),jj 8 (.pick (.t 5) (.t 7) (.k (.d (.bool false)))),jm 2 8])
 .ret))
def rs85:List RV:=[.tmp 2]
theorem ok85:okF Tryz.prog 85=true:=by kernel_rfl
theorem cc85:cCode Tryz.prog Tryz.f85.ntmps (Tryz.f85.body.getD .skip)=some kc85:=by kernel_rfl
theorem cr85:cRess Tryz.prog Tryz.f85.results.toList=some rs85:=by kernel_rfl
def kc86:C:=
  (.seq (.reg [jj 1 (.box 31 (.t 0)),jj 2 (.mov (ki 0)),jj 3 (.mov (.k (.d (.bool false))))])
 (.scope 1 (.seq (.reg [jj 7 (.load 10 true (.t 1)),jj 8 (.call 111 [(.t 7)]),jm 4 8])
 (.seq (.reg [jm 9 4,jj 10 (.len (.t 9)),jm 5 10])
 (.seq .skip
 (.seq (.seq (.reg [jm 11 5,jj 12 (.bin .eql (.t 11) (ki 0))])
 (.cond (.t 12) (.seq (.reg [jj 2 (.mov (ki 0)),jj 3 (.mov (.k (.d (.bool false))))])
 .ret)
 .skip))
 (.seq (.reg [jm 13 5,jj 14 (.bin .sub (.t 13) (ki 1)),jm 5 14])
 (.seq (.seq (.drw [0, 1, 0, 0, 12, 28, 63, 127, 255, 511]
  [jj 15 (.fadr 9 (.t 1)),jj 16 (.load 1 false (.t 15)),jm 17 4,jm 18 5,jj 19 (.iadr 1 (.t 17) (.t 18)),jj 20 (.load 1 false (.t 19)),jj 21 (.iadr 9 (.t 16) (.t 20)),jj 22 (.fadr 2 (.t 21)),jj 23 (.load 1 false (.t 22)),jm 6 23])
 (.seq (.reg [jm 24 6,jj 25 (.bin .neq (.t 24) (ki 3)),jm 26 25,jg 27 26 true (.mov (.t 6)),jg 28 26 true (.bin .neq (.t 27) (ki 4)),jj 29 (.pick (.t 26) (.t 28) (.k (.d (.bool false))))])
 (.cond (.t 29) (.exit 1)
 .skip)))
 (.seq (.reg [jm 30 4,jm 31 5,jj 32 (.iadr 1 (.t 30) (.t 31)),jj 33 (.load 1 false (.t 32)),jm 2 33,jj 3 (.mov (.k (.d (.bool true))))])
 .ret)))))))
 (.seq .skip
 (.seq (.seq (.reg [jm 11 5,jj 12 (.bin .eql (.t 11) (ki 0))])
 (.cond (.t 12) (.seq (.reg [jj 2 (.mov (ki 0)),jj 3 (.mov (.k (.d (.bool false))))])
 .ret)
 .skip))
 (.seq (.reg [jm 13 5,jj 14 (.bin .sub (.t 13) (ki 1)),jm 5 14])
 (.seq (.seq (.drw [0, 1, 0, 0, 12, 28, 63, 127, 255, 511]
  [jj 15 (.fadr 9 (.t 1)),jj 16 (.load 1 false (.t 15)),jm 17 4,jm 18 5,jj 19 (.iadr 1 (.t 17) (.t 18)),jj 20 (.load 1 false (.t 19)),jj 21 (.iadr 9 (.t 16) (.t 20)),jj 22 (.fadr 2 (.t 21)),jj 23 (.load 1 false (.t 22)),jm 6 23])
 (.seq (.reg [jm 24 6,jj 25 (.bin .neq (.t 24) (ki 3)),jm 26 25,jg 27 26 true (.mov (.t 6)),jg 28 26 true (.bin .neq (.t 27) (ki 4)),jj 29 (.pick (.t 26) (.t 28) (.k (.d (.bool false))))])
 (.cond (.t 29) (.exit 1)
 .skip)))
 (.seq (.reg [jm 30 4,jm 31 5,jj 32 (.iadr 1 (.t 30) (.t 31)),jj 33 (.load 1 false (.t 32)),jm 2 33,jj 3 (.mov (.k (.d (.bool true))))])
 .ret)))))))
def rs86:List RV:=[.tmp 2,.tmp 3]
theorem ok86:okF Tryz.prog 86=true:=by kernel_rfl
theorem cc86:cCode Tryz.prog Tryz.f86.ntmps (Tryz.f86.body.getD .skip)=some kc86:=by kernel_rfl
theorem cr86:cRess Tryz.prog Tryz.f86.results.toList=some rs86:=by kernel_rfl
def kc87:C:=
  (.seq (.reg [jj 2 (.mov (.k (zl)))])
 (.seq (.reg [jj 3 (.mov (ki 0))])
 (.seq (.seq (.reg [jm 9 0,jj 10 (.len (.t 9)),jj 11 (.mov (ki 0))])
 (.block 0 (.loop (.seq (.reg [jj 12 (.bin .lss (.t 11) (.t 10))])
 (.seq (.cond (.t 12) .skip
 (.exit 0))
 (.seq (.block 2 (.seq (.reg [jj 13 (.iadr 1 (.t 9) (.t 11)),jj 14 (.load 1 false (.t 13)),jm 5 14])
 (.seq (.reg [jm 15 3,jm 16 5,jj 17 (.len (.t 16)),jj 18 (.bin .add (.t 15) (.t 17)),jm 3 18])
 (.seq (.reg [jm 19 3,jj 20 (.bin .lss (.t 19) (ki 0))])
 (.cond (.t 20) (.reg [jj 21 (.never),jn (.pnc (.t 21))])
 .skip)))))
 (.reg [jj 22 (.bin .add (.t 11) (ki 1)),jm 11 22])))))))
 (.seq (.reg [jm 23 3,jj 24 (.call 135 [(.k (zl)),(.t 23)]),jm 6 24])
 (.seq (.seq (.reg [jm 25 0,jj 26 (.len (.t 25)),jj 27 (.mov (ki 0))])
 (.block 4 (.loop (.seq (.reg [jj 28 (.bin .lss (.t 27) (.t 26))])
 (.seq (.cond (.t 28) .skip
 (.exit 4))
 (.seq (.block 6 (.seq (.reg [jj 29 (.iadr 1 (.t 25) (.t 27)),jj 30 (.load 1 false (.t 29)),jm 8 30])
 (.reg [jm 31 6,jm 32 8,jj 33 (.app 36 9 88 (.t 31) (.t 32)),jm 6 33])))
 (.reg [jj 34 (.bin .add (.t 27) (ki 1)),jm 27 34])))))))
 (.seq (.reg [jm 35 6,jm 2 35])
 .ret))))))
def rs87:List RV:=[.tmp 2]
theorem ok87:okF Tryz.prog 87=true:=by kernel_rfl
theorem cc87:cCode Tryz.prog Tryz.f87.ntmps (Tryz.f87.body.getD .skip)=some kc87:=by kernel_rfl
theorem cr87:cRess Tryz.prog Tryz.f87.results.toList=some rs87:=by kernel_rfl
def kc88:C:=
  (.seq (.reg [jj 4 (.mov (ki 0)),jj 5 (.mov (ki 0))])
 (.seq (.reg [jm 6 0,jm 7 1,jj 8 (.call 96 [(.t 6),(.t 7),(ki 10000)]),jj 9 (.ext 0 (.t 8)),jj 10 (.ext 1 (.t 8)),jm 4 9,jm 5 10])
 .ret))
def rs88:List RV:=[.tmp 4,.tmp 5]
theorem ok88:okF Tryz.prog 88=true:=by kernel_rfl
theorem cc88:cCode Tryz.prog Tryz.f88.ntmps (Tryz.f88.body.getD .skip)=some kc88:=by kernel_rfl
theorem cr88:cRess Tryz.prog Tryz.f88.results.toList=some rs88:=by kernel_rfl
def kc89:C:=
  (.seq (.reg [jj 4 (.mov (ki 0))])
 (.seq (.seq (.reg [jm 6 0,jj 7 (.len (.t 6)),jj 8 (.mov (ki 0))])
 (.block 0 (.loop (.seq (.reg [jj 9 (.bin .lss (.t 8) (.t 7))])
 (.seq (.cond (.t 9) .skip
 (.exit 0))
 (.seq (.block 2 (.seq (.reg [jm 10 8,jm 5 10])
 (.seq (.reg [jm 11 1,jm 12 0,jm 13 5,jj 14 (.iadr 1 (.t 12) (.t 13)),jj 15 (.load 1 false (.t 14)),jj 16 (.bin .eql (.t 11) (.t 15))])
 (.cond (.t 16) (.seq (.reg [jm 17 5,jm 4 17])
 .ret)
 .skip))))
 (.reg [jj 18 (.bin .add (.t 8) (ki 1)),jm 8 18])))))))
 (.seq (.reg [jj 4 (.mov (.k (.d (.int .i64 (-1)))))])
 .ret)))
def rs89:List RV:=[.tmp 4]
theorem ok89:okF Tryz.prog 89=true:=by kernel_rfl
theorem cc89:cCode Tryz.prog Tryz.f89.ntmps (Tryz.f89.body.getD .skip)=some kc89:=by kernel_rfl
theorem cr89:cRess Tryz.prog Tryz.f89.results.toList=some rs89:=by kernel_rfl
def kc90:C:=
  (.seq (.reg [jj 4 (.mov (.k (zl))),jj 5 (.mov (ki 0))])
 (.seq (.seq (.reg [jm 20 0,jj 21 (.bin .lss (.t 20) (ki 0)),jm 22 21,jg 23 22 false (.mov (.t 1)),jg 24 22 false (.len (.t 23)),jg 25 22 false (.bin .gtr (.t 24) (ki 2000)),jj 26 (.pick (.t 22) (.k (.d (.bool true))) (.t 25))])
 (.cond (.t 26) (.seq (.reg [jj 4 (.mov (.k (zl))),jj 5 (.mov (ki 1))])
 .ret)
 .skip))
 (.seq (.reg [jj 27 (.call 136 []),jm 28 0,jj 29 (.bin .gtr (.t 28) (ki 4000000000000000000)),jm 6 27,jm 7 29])
 (.seq (.reg [jm 30 1,jj 31 (.len (.t 30)),jj 32 (.mks 3 1 8 [(.int .i64 0)] (ki 0) (.t 31)),jm 8 32])
 (.seq (.seq (.reg [jm 33 1,jj 34 (.len (.t 33)),jj 35 (.mov (ki 0))])
 (.block 0 (.loop (.seq (.reg [jj 36 (.bin .lss (.t 35) (.t 34))])
 (.seq (.cond (.t 36) .skip
 (.exit 0))
 (.seq (.block 2 (.seq (.reg [jj 37 (.iadr 1 (.t 33) (.t 35)),jj 38 (.load 1 false (.t 37)),jm 10 38])
 (.seq (.reg [jm 40 6,jm 41 10,jj 42 (.callv (.t 40) [(.t 41)]),jm 39 42,jj 43 (.ext 0 (.t 39)),jj 44 (.ext 1 (.t 39)),jm 11 43,jm 12 44])
 (.seq (.seq (.reg [jm 45 12,jj 46 (.bin .eql (.t 45) (ki 1))])
 (.cond (.t 46) (.seq (.reg [jm 47 12,jj 4 (.mov (.k (zl))),jm 5 47])
 .ret)
 .skip))
 (.seq (.reg [jm 48 7,jm 49 48,jg 50 49 false (.mov (.t 12)),jg 51 49 false (.bin .eql (.t 50) (ki 5)),jj 52 (.pick (.t 49) (.k (.d (.bool true))) (.t 51)),jm 7 52])
 (.reg [jm 53 8,jm 54 11,jj 55 (.bslice 3 1 1 [(.t 54)]),jj 56 (.app 3 1 8 (.t 53) (.t 55)),jm 8 56]))))))
 (.reg [jj 57 (.bin .add (.t 35) (ki 1)),jm 35 57])))))))
 (.seq (.block 4 (.seq (.reg [jm 59 7,jm 58 59])
 (.cond (.t 58) (.seq (.reg [jj 4 (.mov (.k (zl))),jj 5 (.mov (ki 5))])
 .ret)
 (.seq (.reg [jm 61 8,jj 62 (.len (.t 61)),jj 63 (.bin .eql (.t 62) (ki 0)),jm 64 63,jg 65 64 false (.mov (.t 8)),jg 66 64 false (.mov (.t 8)),jg 67 64 false (.len (.t 66)),jg 68 64 false (.bin .sub (.t 67) (ki 1)),jg 69 64 false (.iadr 1 (.t 65) (.t 68)),jg 70 64 false (.load 1 false (.t 69)),jg 71 64 false (.bin .eql (.t 70) (ki 0)),jj 72 (.pick (.t 64) (.k (.d (.bool true))) (.t 71)),jm 60 72])
 (.cond (.t 60) (.seq (.reg [jj 4 (.mov (.k (zl))),jj 5 (.mov (ki 6))])
 .ret)
 .skip)))))
 (.seq (.reg [jm 73 8,jm 74 8,jj 75 (.len (.t 74)),jj 76 (.bin .sub (.t 75) (ki 1)),jj 77 (.iadr 1 (.t 73) (.t 76)),jj 78 (.load 1 false (.t 77)),jm 13 78])
 (.seq (.reg [jm 79 8,jj 80 (.len (.t 79)),jj 81 (.mks 3 1 8 [(.int .i64 0)] (.t 80) (.t 80)),jm 14 81])
 (.seq (.reg [jj 15 (.mov (ki 0))])
 (.seq (.seq (.reg [jm 82 8,jj 83 (.len (.t 82)),jj 84 (.mov (ki 0))])
 (.block 6 (.loop (.seq (.reg [jj 85 (.bin .lss (.t 84) (.t 83))])
 (.seq (.cond (.t 85) .skip
 (.exit 6))
 (.seq (.block 8 (.seq (.reg [jm 86 84,jj 87 (.iadr 1 (.t 82) (.t 84)),jj 88 (.load 1 false (.t 87)),jm 16 86,jm 17 88])
 (.seq (.reg [jm 90 0,jm 91 17,jm 92 13,jj 93 (.call 137 [(.t 90),(.t 91),(.t 92)]),jm 89 93,jj 94 (.ext 0 (.t 89)),jj 95 (.ext 1 (.t 89)),jm 18 94,jm 19 95])
 (.reg [jm 96 14,jm 97 16,jm 98 18,jm 99 15,jj 100 (.bin .sub (.t 98) (.t 99)),jm 101 18,jj 102 (.iadr 1 (.t 96) (.t 97)),jn (.store 1 (.t 102) (.t 100)),jm 15 101]))))
 (.reg [jj 103 (.bin .add (.t 84) (ki 1)),jm 84 103])))))))
 (.seq (.reg [jm 104 14,jm 4 104,jj 5 (.mov (ki 0))])
 .ret)))))))))))
def rs90:List RV:=[.tmp 4,.tmp 5]
theorem ok90:okF Tryz.prog 90=true:=by kernel_rfl
theorem cc90:cCode Tryz.prog Tryz.f90.ntmps (Tryz.f90.body.getD .skip)=some kc90:=by kernel_rfl
theorem cr90:cRess Tryz.prog Tryz.f90.results.toList=some rs90:=by kernel_rfl
def kc91:C:=
  (.seq (.reg [jj 4 (.mov (.k (zl)))])
 (.seq (.seq (.reg [jm 9 1,jj 10 (.bin .lss (.t 9) (ki 0))])
 (.cond (.t 10) (.reg [jj 11 (.never),jn (.pnc (.t 11))])
 .skip))
 (.seq (.reg [jm 13 0,jj 14 (.len (.t 13)),jj 15 (.conv .u64 (.t 14)),jm 16 1,jj 17 (.conv .u64 (.t 16)),jj 18 (.call 138 [(.t 15),(.t 17)]),jm 12 18,jj 19 (.ext 0 (.t 12)),jj 20 (.ext 1 (.t 12)),jm 5 19,jm 6 20])
 (.seq (.seq (.reg [jm 21 5,jj 22 (.bin .gtr (.t 21) (.k (.d (.int .u64 0)))),jm 23 22,jg 24 23 false (.mov (.t 6)),jg 25 23 false (.bin .gtr (.t 24) (.k (.d (.int .u64 9223372036854775807)))),jj 26 (.pick (.t 23) (.k (.d (.bool true))) (.t 25))])
 (.cond (.t 26) (.reg [jj 27 (.never),jn (.pnc (.t 27))])
 .skip))
 (.seq (.reg [jm 28 6,jj 29 (.conv .i64 (.t 28)),jj 30 (.mks 3 1 8 [(.int .i64 0)] (.t 29) (.t 29)),jm 7 30])
 (.seq (.reg [jm 31 7,jm 32 0,jj 33 (.cpy 1 (.t 31) (.t 32)),jm 8 33])
 (.seq (.block 0 (.loop (.seq (.seq (.reg [jm 34 8,jm 35 7,jj 36 (.len (.t 35)),jj 37 (.bin .lss (.t 34) (.t 36))])
 (.cond (.t 37) .skip
 (.exit 0)))
 (.block 2 (.drw [0, 0, 0, 6, 0, 0, 48, 126, 255, 511]
  [jm 38 8,jm 39 7,jm 40 8,jj 41 (.slc 1 (.t 39) (some (.t 40)) none none),jm 42 7,jm 43 8,jj 44 (.slc 1 (.t 42) none (some (.t 43)) none),jj 45 (.cpy 1 (.t 41) (.t 44)),jj 46 (.bin .add (.t 38) (.t 45)),jm 8 46])))))
 (.seq (.reg [jm 47 7,jm 4 47])
 .ret))))))))
def rs91:List RV:=[.tmp 4]
theorem ok91:okF Tryz.prog 91=true:=by kernel_rfl
theorem cc91:cCode Tryz.prog Tryz.f91.ntmps (Tryz.f91.body.getD .skip)=some kc91:=by kernel_rfl
theorem cr91:cRess Tryz.prog Tryz.f91.results.toList=some rs91:=by kernel_rfl
end Go.Proofs.YtanppabbmffokaaGreat
end
