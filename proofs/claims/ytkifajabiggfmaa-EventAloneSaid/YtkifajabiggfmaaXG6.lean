import Derived.Test.YtkifajabiggfmaaXG5
section
set_option linter.unusedSimpArgs false
set_option linter.unusedVariables false
namespace Go.Bx
set_option maxRecDepth 10000
set_option linter.defProp false
theorem vcl :
  (∀ a, isCall (.mov a) = false) ∧
  (∀ a, makes (.mov a) = false) ∧
  (∀ a b c, isCall (.pick a b c) = false) ∧
  (∀ a b c, makes (.pick a b c) = false) ∧
  (∀ a b, isCall (.alloc a b) = false) ∧
  (∀ a b, isCall (.box a b) = false) ∧
  (∀ a b, isCall (.build a b) = false) ∧
  (∀ a b, makes (.build a b) = false) ∧
  (∀ a b c d, isCall (.bslice a b c d) = false) ∧
  (∀ a b c, isCall (.load a b c) = false) ∧
  (∀ a b c, makes (.load a b c) = false) ∧
  (∀ a b c, isCall (.store a b c) = false) ∧
  (∀ a b c, makes (.store a b c) = false) ∧
  (∀ a b c, isCall (.bin a b c) = false) ∧
  (∀ a b c, makes (.bin a b c) = false) ∧
  (∀ a b c, isCall (.beq a b c) = false) ∧
  (∀ a b c, makes (.beq a b c) = false) ∧
  (∀ a b c d e, isCall (.eqa a b c d e) = false) ∧
  (∀ a b c d e, makes (.eqa a b c d e) = false) ∧
  (∀ a b, isCall (.isnil a b) = false) ∧
  (∀ a b, makes (.isnil a b) = false) ∧
  (∀ a b c, isCall (.shf a b c) = false) ∧
  (∀ a b c, makes (.shf a b c) = false) ∧
  (∀ a b, isCall (.inv a b) = false) ∧
  (∀ a b, makes (.inv a b) = false) ∧
  (∀ a b, isCall (.conv a b) = false) ∧
  (∀ a b, makes (.conv a b) = false) ∧
  (∀ a b c d, isCall (.fld a b c d) = false) ∧
  (∀ a b c d, makes (.fld a b c d) = false) ∧
  (∀ a b, isCall (.fadr a b) = false) ∧
  (∀ a b, makes (.fadr a b) = false) ∧
  (∀ a, isCall (.nilc a) = false) ∧
  (∀ a, makes (.nilc a) = false) ∧
  (∀ a b c, isCall (.iadr a b c) = false) ∧
  (∀ a b c, makes (.iadr a b c) = false) ∧
  (∀ a b c d, isCall (.aadr a b c d) = false) ∧
  (∀ a b c d, makes (.aadr a b c d) = false) ∧
  (∀ a b c d e, isCall (.idx a b c d e) = false) ∧
  (∀ a b c d e, makes (.idx a b c d e) = false) ∧
  (∀ a b, isCall (.sidx a b) = false) ∧
  (∀ a b, makes (.sidx a b) = false) ∧
  (∀ a b, isCall (.ext a b) = false) ∧
  (∀ a b, makes (.ext a b) = false) ∧
  (∀ a, isCall (.len a) = false) ∧
  (∀ a, makes (.len a) = false) ∧
  (∀ a b c, isCall (.mkfn a b c) = false) ∧
  (∀ a b c, makes (.mkfn a b c) = false) ∧
  (∀ a b c, isCall (.mm a b c) = false) ∧
  (∀ a b c, makes (.mm a b c) = false) ∧
  (∀ a b c d e f, isCall (.mks a b c d e f) = false) ∧
  (∀ a b c d e, isCall (.slc a b c d e) = false) ∧
  (∀ a b c d e, makes (.slc a b c d e) = false) ∧
  (∀ a b c, makes (.asl a b c) = false) ∧
  (∀ a b c, isCall (.cpy a b c) = false) ∧
  (∀ a b c, makes (.cpy a b c) = false) ∧
  (∀ a b c d e, isCall (.app a b c d e) = false) ∧
  (∀ a b, isCall (.mkifc a b) = false) ∧
  (∀ a b, makes (.mkifc a b) = false) ∧
  (∀ a b c, isCall (.tas a b c) = false) ∧
  (∀ a b c, makes (.tas a b c) = false) ∧
  (∀ a, isCall (.mkmap a) = false) ∧
  (∀ a b c, isCall (.lkp a b c) = false) ∧
  (∀ a b c, makes (.lkp a b c) = false) ∧
  (∀ a b c, isCall (.mup a b c) = false) ∧
  (∀ a b c, makes (.mup a b c) = false) ∧
  (isCall .never = false) ∧
  (makes .never = false) ∧
  (∀ a, isCall (.cap a) = false) ∧
  (∀ a, makes (.cap a) = false) ∧
  (∀ a b c d e f, isCall (.apz a b c d e f) = false) ∧
  (∀ a b c, makes (.ivk a b c) = false) ∧
  (∀ a b, makes (.call a b) = false) ∧
  (∀ a b, makes (.callv a b) = false) ∧
  (∀ l, toDs (.un :: l) = none) ∧
  (∀ a, isCell (.d a) = true) ∧
  (∀ a, cellsV (.d a) = some [(.d a)]) ∧
  (∀ a, isCell (.mem a) = true) ∧
  (∀ a, cellsV (.mem a) = some [(.mem a)]) ∧
  (∀ a l, toDs ((.mem a) :: l) = none) ∧
  (∀ a b, isCell (.own a b) = true) ∧
  (∀ a b, cellsV (.own a b) = some [(.own a b)]) ∧
  (∀ a b l, toDs ((.own a b) :: l) = none) ∧
  (∀ a, isCell (.osl a) = true) ∧
  (∀ a, cellsV (.osl a) = some [(.osl a)]) ∧
  (∀ a l, toDs ((.osl a) :: l) = none) ∧
  (∀ a b c d, isCell (.osub a b c d) = true) ∧
  (∀ a b c d, cellsV (.osub a b c d) = some [(.osub a b c d)]) ∧
  (∀ a b c d l, toDs ((.osub a b c d) :: l) = none) ∧
  (∀ a b c d, isCell (.optr a b c d) = true) ∧
  (∀ a b c d, cellsV (.optr a b c d) = some [(.optr a b c d)]) ∧
  (∀ a b c d l, toDs ((.optr a b c d) :: l) = none) ∧
  (∀ a b c, isCell (.fn a b c) = true) ∧
  (∀ a b c, cellsV (.fn a b c) = some [(.fn a b c)]) ∧
  (∀ a b c l, toDs ((.fn a b c) :: l) = none) ∧
  (∀ a b, isCell (.ifc a b) = true) ∧
  (∀ a b, cellsV (.ifc a b) = some [(.ifc a b)]) ∧
  (∀ a b l, toDs ((.ifc a b) :: l) = none) ∧
  (∀ a l, toDs ((.ag a) :: l) = none) ∧
  (∀ a l, toDs ((.tup a) :: l) = none) ∧
  (∀ a b l, toDs ((.gd a b) :: l) = none) ∧
  (∀ n, dropV [] (n + 1) = []) ∧
  (∀ n, takeV [] (n + 1) = []) ∧
  (∀ n, dropD [] (n + 1) = []) ∧
  (∀ n, takeDV [] (n + 1) = []) ∧
  (∀ v l n, putV (v :: l) n [] = v :: l) ∧
  (∀ v l n y ys, putV (v :: l) (n + 1) (y :: ys) = v :: putV l n (y :: ys)) ∧
  (∀ st p d x, opR st p d (.inv .not x) = match evV st x with | .d (.bool a) => { side := evS p st x, val := .d (.bool (!a)) } | _ => .bad) ∧
  (∀ st p d x, opR st p d (.inv .neg x) = match evV st x with | .d (.int k a) => { side := evS p st x, val := .d (.int k (k.wrap (0 - a))) } | _ => .bad) :=
  ⟨fun _ => rfl, fun _ => rfl, fun _ _ _ => rfl, fun _ _ _ => rfl, fun _ _ => rfl, fun _ _ => rfl, fun _ _ => rfl, fun _ _ => rfl, fun _ _ _ _ => rfl, fun _ _ _ => rfl, fun _ _ _ => rfl, fun _ _ _ => rfl, fun _ _ _ => rfl, fun _ _ _ => rfl, fun _ _ _ => rfl, fun _ _ _ => rfl, fun _ _ _ => rfl, fun _ _ _ _ _ => rfl, fun _ _ _ _ _ => rfl, fun _ _ => rfl, fun _ _ => rfl, fun _ _ _ => rfl, fun _ _ _ => rfl, fun _ _ => rfl, fun _ _ => rfl, fun _ _ => rfl, fun _ _ => rfl, fun _ _ _ _ => rfl, fun _ _ _ _ => rfl, fun _ _ => rfl, fun _ _ => rfl, fun _ => rfl, fun _ => rfl, fun _ _ _ => rfl, fun _ _ _ => rfl, fun _ _ _ _ => rfl, fun _ _ _ _ => rfl, fun _ _ _ _ _ => rfl, fun _ _ _ _ _ => rfl, fun _ _ => rfl, fun _ _ => rfl, fun _ _ => rfl, fun _ _ => rfl, fun _ => rfl, fun _ => rfl, fun _ _ _ => rfl, fun _ _ _ => rfl, fun _ _ _ => rfl, fun _ _ _ => rfl, fun _ _ _ _ _ _ => rfl, fun _ _ _ _ _ => rfl, fun _ _ _ _ _ => rfl, fun _ _ _ => rfl, fun _ _ _ => rfl, fun _ _ _ => rfl, fun _ _ _ _ _ => rfl, fun _ _ => rfl, fun _ _ => rfl, fun _ _ _ => rfl, fun _ _ _ => rfl, fun _ => rfl, fun _ _ _ => rfl, fun _ _ _ => rfl, fun _ _ _ => rfl, fun _ _ _ => rfl, rfl, rfl, fun _ => rfl, fun _ => rfl, fun _ _ _ _ _ _ => rfl, fun _ _ _ => rfl, fun _ _ => rfl, fun _ _ => rfl, fun _ => rfl, fun _ => rfl, fun _ => rfl, fun _ => rfl, fun _ => rfl, fun _ _ => rfl, fun _ _ => rfl, fun _ _ => rfl, fun _ _ _ => rfl, fun _ => rfl, fun _ => rfl, fun _ _ => rfl, fun _ _ _ _ => rfl, fun _ _ _ _ => rfl, fun _ _ _ _ _ => rfl, fun _ _ _ _ => rfl, fun _ _ _ _ => rfl, fun _ _ _ _ _ => rfl, fun _ _ _ => rfl, fun _ _ _ => rfl, fun _ _ _ _ => rfl, fun _ _ => rfl, fun _ _ => rfl, fun _ _ _ => rfl, fun _ _ => rfl, fun _ _ => rfl, fun _ _ _ => rfl, fun _ => rfl, fun _ => rfl, fun _ => rfl, fun _ => rfl, fun _ _ _ => rfl, fun _ _ _ _ _ => rfl, fun st p d x => by cases h : evV st x with | d y => (cases y <;> simp [opR, h]) | _ => simp [opR, h], fun st p d x => by cases h : evV st x with | d y => (cases y <;> simp [opR, h]) | _ => simp [opR, h]⟩
theorem enl :
  (VsLe [] [] = True) ∧
  (∀ x xs y ys, VsLe (x :: xs) (y :: ys) = (VLe x y ∧ VsLe xs ys)) ∧
  (∀ x xs, VsLe (x :: xs) [] = False) ∧
  (∀ x xs, VsLe [] (x :: xs) = False) :=
  ⟨rfl, fun _ _ _ _ => rfl, fun _ _ => rfl, fun _ _ => rfl⟩
theorem rsl :
  (∀ st r, retV st [r] = resV st r) ∧
  (∀ st, retV st [] = .tup (ressV st [])) ∧
  (∀ st r r2 l, retV st (r :: r2 :: l) = .tup (ressV st (r :: r2 :: l))) :=
  ⟨fun _ _ => rfl, fun _ => rfl, fun _ _ _ _ => rfl⟩
def vcb :=
  And.intro vcl
  (And.intro
  (And.intro
  (And.intro
  (And.intro
  (And.intro
  (And.intro
  (And.intro
  (And.intro (@Go.Bx.vcC_seq) (@Go.Bx.vcC_reg))
  (And.intro (@Go.Bx.vcC_drw)
  (And.intro (@Go.Bx.vcC_skip) (@Go.Bx.vcC_cond))))
  (And.intro
  (And.intro (@Go.Bx.vcC_block) (@Go.Bx.vcC_exit))
  (And.intro (@Go.Bx.vcC_ret)
  (And.intro (@Go.Bx.vcC_bad) (@Go.Bx.seqK_nrm)))))
  (And.intro
  (And.intro
  (And.intro (@Go.Bx.seqK_exit) (@Go.Bx.seqK_ret))
  (And.intro (@Go.Bx.blkK_nrm)
  (And.intro (@Go.Bx.blkK_exit) (@Go.Bx.blkK_ret))))
  (And.intro
  (And.intro (@Go.Bx.lopK_exit)
  (And.intro (@Go.Bx.lopK_ret) (@Go.Bx.lopX_exit)))
  (And.intro (@Go.Bx.lopX_ret)
  (And.intro (@Go.Bx.jmpK_nrm) (@Go.Bx.jmpK_exit))))))
  (And.intro
  (And.intro
  (And.intro
  (And.intro (@Go.Bx.jmpK_ret) (@Go.Bx.nrmK_app))
  (And.intro (@Go.Bx.drwK_app)
  (And.intro (@Go.Bx.initE.eq_1) (@Go.Bx.initE.eq_2))))
  (And.intro
  (And.intro (@Go.Bx.vcR_nil)
  (And.intro (@Go.Bx.vcR_n) (@Go.Bx.vcR_s)))
  (And.intro (@Go.Bx.isCall.eq_1)
  (And.intro (@Go.Bx.isCall.eq_2) (@Go.Bx.isCall.eq_3)))))
  (And.intro
  (And.intro
  (And.intro (@Go.Bx.isCall.eq_4) (@Go.Bx.makes.eq_1))
  (And.intro (@Go.Bx.makes.eq_2)
  (And.intro (@Go.Bx.makes.eq_3) (@Go.Bx.makes.eq_4))))
  (And.intro
  (And.intro (@Go.Bx.makes.eq_5)
  (And.intro (@Go.Bx.makes.eq_6) (@Go.Bx.makes.eq_7)))
  (And.intro (@Go.Bx.hasU.eq_1)
  (And.intro (@Go.Bx.hasU.eq_2) (@Go.Bx.slK.eq_1)))))))
  (And.intro
  (And.intro
  (And.intro
  (And.intro
  (And.intro (@Go.Bx.newOf.eq_1) (@Go.Bx.opR.eq_1))
  (And.intro (@Go.Bx.opR.eq_2)
  (And.intro (@Go.Bx.opR.eq_3) (@Go.Bx.opR.eq_4))))
  (And.intro
  (And.intro (@Go.Bx.opR.eq_5) (@Go.Bx.opR.eq_6))
  (And.intro (@Go.Bx.opR.eq_7)
  (And.intro (@Go.Bx.opR.eq_8) (@Go.Bx.opR.eq_9)))))
  (And.intro
  (And.intro
  (And.intro (@Go.Bx.opR.eq_10) (@Go.Bx.opR.eq_11))
  (And.intro (@Go.Bx.opR.eq_12)
  (And.intro (@Go.Bx.opR.eq_13) (@Go.Bx.opR.eq_17))))
  (And.intro
  (And.intro (@Go.Bx.opR.eq_18)
  (And.intro (@Go.Bx.opR.eq_19) (@Go.Bx.opR.eq_20)))
  (And.intro (@Go.Bx.opR.eq_21)
  (And.intro (@Go.Bx.opR.eq_22) (@Go.Bx.opR.eq_23))))))
  (And.intro
  (And.intro
  (And.intro
  (And.intro (@Go.Bx.opR.eq_24) (@Go.Bx.opR.eq_25))
  (And.intro (@Go.Bx.opR.eq_26)
  (And.intro (@Go.Bx.opR.eq_27) (@Go.Bx.opR.eq_28))))
  (And.intro
  (And.intro (@Go.Bx.opR.eq_29)
  (And.intro (@Go.Bx.opR.eq_30) (@Go.Bx.opR.eq_31)))
  (And.intro (@Go.Bx.opR.eq_32)
  (And.intro (@Go.Bx.opR.eq_33) (@Go.Bx.opR.eq_34)))))
  (And.intro
  (And.intro
  (And.intro (@Go.Bx.opR.eq_35) (@Go.Bx.opR.eq_36))
  (And.intro (@Go.Bx.opR.eq_37)
  (And.intro (@Go.Bx.opR.eq_38) (@Go.Bx.opR.eq_39))))
  (And.intro
  (And.intro (@Go.Bx.opR.eq_40)
  (And.intro (@Go.Bx.opR.eq_41) (@Go.Bx.opR.eq_42)))
  (And.intro (@Go.Bx.opR.eq_43)
  (And.intro (@Go.Bx.opR.eq_44) (@Go.Bx.binI.eq_1))))))))
  (And.intro
  (And.intro
  (And.intro
  (And.intro
  (And.intro
  (And.intro (@Go.Bx.binI.eq_2) (@Go.Bx.binI.eq_3))
  (And.intro (@Go.Bx.binI.eq_4)
  (And.intro (@Go.Bx.binI.eq_5) (@Go.Bx.binI.eq_6))))
  (And.intro
  (And.intro (@Go.Bx.binI.eq_7) (@Go.Bx.binI.eq_8))
  (And.intro (@Go.Bx.binI.eq_9)
  (And.intro (@Go.Bx.binI.eq_10) (@Go.Bx.binI.eq_11)))))
  (And.intro
  (And.intro
  (And.intro (@Go.Bx.binI.eq_12) (@Go.Bx.binI.eq_13))
  (And.intro (@Go.Bx.pickV.eq_1)
  (And.intro (@Go.Bx.pickV.eq_2) (@Go.Bx.evS.eq_1))))
  (And.intro
  (And.intro (@Go.Bx.evV.eq_1)
  (And.intro (@Go.Bx.evX.eq_1) (@Go.Bx.evX.eq_2)))
  (And.intro (@Go.Bx.evSs.eq_1)
  (And.intro (@Go.Bx.evSs.eq_2) (@Go.Bx.evVs.eq_1))))))
  (And.intro
  (And.intro
  (And.intro
  (And.intro (@Go.Bx.evVs.eq_2) (@Go.Bx.evParts.eq_1))
  (And.intro (@Go.Bx.evParts.eq_2)
  (And.intro (@Go.Bx.evPartsS.eq_1) (@Go.Bx.evPartsS.eq_2))))
  (And.intro
  (And.intro (@Go.Bx.fillV.eq_1)
  (And.intro (@Go.Bx.fillV.eq_2) (@Go.Bx.catV.eq_1)))
  (And.intro (@Go.Bx.catV.eq_2)
  (And.intro (@Go.Bx.gOf.eq_1) (@Go.Bx.get.eq_1)))))
  (And.intro
  (And.intro
  (And.intro (@Go.Bx.get.eq_2) (@Go.Bx.own?.eq_1))
  (And.intro (@Go.Bx.own?.eq_2)
  (And.intro (@Go.Bx.cellsV.eq_1) (@Go.Bx.cellsV.eq_2))))
  (And.intro
  (And.intro (@Go.Bx.cellsV.eq_3)
  (And.intro (@Go.Bx.cellsV.eq_4) (@Go.Bx.isCell.eq_1)))
  (And.intro (@Go.Bx.isCell.eq_2)
  (And.intro (@Go.Bx.isCell.eq_3) (@Go.Bx.isCell.eq_4)))))))
  (And.intro
  (And.intro
  (And.intro
  (And.intro
  (And.intro (@Go.Bx.cut.eq_1) (@Go.Bx.cutD.eq_1))
  (And.intro (@Go.Bx.nth.eq_1)
  (And.intro (@Go.Bx.nth.eq_2) (@Go.Bx.nth.eq_3))))
  (And.intro
  (And.intro (@Go.Bx.nthD.eq_1) (@Go.Bx.nthD.eq_2))
  (And.intro (@Go.Bx.nthD.eq_3)
  (And.intro (@Go.Bx.dropV.eq_1) (@Go.Bx.dropV.eq_3)))))
  (And.intro
  (And.intro
  (And.intro (@Go.Bx.takeV.eq_1) (@Go.Bx.takeV.eq_3))
  (And.intro (@Go.Bx.dropD.eq_1)
  (And.intro (@Go.Bx.dropD.eq_3) (@Go.Bx.takeDV.eq_1))))
  (And.intro
  (And.intro (@Go.Bx.takeDV.eq_3)
  (And.intro (@Go.Bx.putV.eq_1) (@Go.Bx.putV.eq_3)))
  (And.intro (@Go.Bx.toDs.eq_1)
  (And.intro (@Go.Bx.toDs.eq_2) (@Go.Bx.St.stp.eq_1))))))
  (And.intro
  (And.intro
  (And.intro
  (And.intro (@Go.Bx.Ef.stp.eq_1) (@Go.Bx.Stp.lg.eq_1))
  (And.intro (@Go.Bx.lgs.eq_1)
  (And.intro (@Go.Bx.setE.eq_1) (@Go.Bx.setE.eq_2))))
  (And.intro
  (And.intro (@Go.Bx.applyU.eq_1)
  (And.intro (@Go.Bx.applyU.eq_2) (@Go.Bx.applyU.eq_3)))
  (And.intro (@Go.Bx.setO.eq_1)
  (And.intro (@Go.Bx.setO.eq_2) (@Go.Bx.delO.eq_1)))))
  (And.intro
  (And.intro
  (And.intro (@Go.Bx.delO.eq_2) (@Go.Bx.newN.eq_1))
  (And.intro (@Go.Bx.newN.eq_2)
  (And.intro (@Go.Bx.newN.eq_3) (@Go.Bx.keysO.eq_1))))
  (And.intro
  (And.intro (@Go.Bx.callU.eq_1)
  (And.intro (@Go.Bx.Ef.bad.eq_1) (@Option.getD_some.{0})))
  (And.intro (@Option.getD_none.{0})
  (And.intro (@Option.map_some.{0,0}) (@Option.map_none.{0,0})))))))))
  (And.intro
  (And.intro
  (And.intro
  (And.intro
  (And.intro
  (And.intro
  (And.intro (@List.all_cons.{0}) (@List.all_nil.{0}))
  (And.intro (@List.map_cons.{0,0})
  (And.intro (@List.map_nil.{0,0}) (@List.append_nil.{0}))))
  (And.intro
  (And.intro (@List.nil_append.{0}) (@List.cons_append.{0}))
  (And.intro (@List.length_cons.{0})
  (And.intro (@List.length_nil.{0}) (@List.mem_cons.{0})))))
  (And.intro
  (And.intro
  (And.intro (@List.not_mem_nil.{0}) (@Bool.and_true))
  (And.intro (@Bool.true_and)
  (And.intro (@Bool.and_self) (@Bool.not_true))))
  (And.intro
  (And.intro (@Bool.not_false)
  (And.intro (@Bool.or_self) (@Bool.or_false)))
  (And.intro (@Bool.false_or)
  (And.intro (@Bool.false_eq_true) (@Bool.true_eq_false))))))
  (And.intro
  (And.intro
  (And.intro
  (And.intro (@Bool.cond_true_left) (@Bool.cond_false_right))
  (And.intro (@cond_true.{1})
  (And.intro (@cond_true.{0}) (@cond_false.{1}))))
  (And.intro
  (And.intro (@cond_false.{0})
  (And.intro (@if_true.{1}) (@if_true.{0})))
  (And.intro (@if_false.{1})
  (And.intro (@if_false.{0}) (@true_and)))))
  (And.intro
  (And.intro
  (And.intro (@and_true) (@and_self))
  (And.intro (@false_and)
  (And.intro (@and_false) (@or_false))))
  (And.intro
  (And.intro (@false_or)
  (And.intro (@not_false_eq_true) (@not_true_eq_false)))
  (And.intro (@forall_const.{1})
  (And.intro (@forall_const.{0}) (@true_implies)))))))
  (And.intro
  (And.intro
  (And.intro
  (And.intro
  (And.intro (@false_implies) (@implies_true.{1}))
  (And.intro (@implies_true.{0})
  (And.intro (@imp_self) (@eq_self.{1}))))
  (And.intro
  (And.intro (@eq_self.{0}) (@ne_eq.{1}))
  (And.intro (@ne_eq.{0})
  (And.intro (@Nat.zero_add) (@Nat.add_zero)))))
  (And.intro
  (And.intro
  (And.intro (@Nat.le_refl) (@Nat.succ_ne_self))
  (And.intro (@Nat.one_ne_zero)
  (And.intro (@Nat.zero_ne_one) (@Int.toNat_natCast))))
  (And.intro
  (And.intro (@Go.Bx.litRow.eq_1)
  (And.intro (@List.drop_succ_cons.{0}) (@List.drop_zero.{0})))
  (And.intro (@List.take_succ_cons.{0})
  (And.intro (@List.take_zero.{0}) (@Go.Bx.pubE.eq_1))))))
  (And.intro
  (And.intro
  (And.intro
  (And.intro (@Go.Bx.pubE.eq_2) (@Go.Bx.pubV.eq_1))
  (And.intro (@Go.Bx.pubV.eq_2)
  (And.intro (@Go.Bx.pubV.eq_3) (@Go.Bx.pubV.eq_4))))
  (And.intro
  (And.intro (@Go.Bx.pubV.eq_5)
  (And.intro (@Go.Bx.pubV.eq_6) (@Go.Bx.pubV.eq_7)))
  (And.intro (@Go.Bx.pubV.eq_8)
  (And.intro (@Go.Bx.pubV.eq_9) (@Go.Bx.pubV.eq_10)))))
  (And.intro
  (And.intro
  (And.intro (@Go.Bx.pubV.eq_11) (@Go.Bx.pubV.eq_12))
  (And.intro (@Go.Bx.pubL.eq_1)
  (And.intro (@Go.Bx.pubL.eq_2) (@Go.Bx.pubO.eq_1))))
  (And.intro
  (And.intro (@Go.Bx.pubO.eq_2)
  (And.intro (@Go.Bx.pubO.eq_3) (@Go.Bx.pubO.eq_4)))
  (And.intro (@Go.Bx.pubO.eq_5)
  (And.intro (@Go.Bx.pubFE.eq_1) (@Go.Bx.pubFE.eq_2))))))))
  (And.intro
  (And.intro
  (And.intro
  (And.intro
  (And.intro
  (And.intro (@Go.Bx.pubFV.eq_1) (@Go.Bx.pubFV.eq_2))
  (And.intro (@Go.Bx.pubFV.eq_3)
  (And.intro (@Go.Bx.pubFV.eq_4) (@Go.Bx.pubFV.eq_5))))
  (And.intro
  (And.intro (@Go.Bx.pubFV.eq_6) (@Go.Bx.pubFV.eq_7))
  (And.intro (@Go.Bx.pubFV.eq_8)
  (And.intro (@Go.Bx.pubFV.eq_9) (@Go.Bx.pubFV.eq_10)))))
  (And.intro
  (And.intro
  (And.intro (@Go.Bx.pubFV.eq_11) (@Go.Bx.pubFV.eq_12))
  (And.intro (@Go.Bx.pubFL.eq_1)
  (And.intro (@Go.Bx.pubFL.eq_2) (@Go.Bx.pubFO.eq_1))))
  (And.intro
  (And.intro (@Go.Bx.pubFO.eq_2)
  (And.intro (@Go.Bx.pubFO.eq_3) (@Go.Bx.pubFO.eq_4)))
  (And.intro (@Go.Bx.pubFO.eq_5)
  (And.intro (@Go.Bx.delO.eq_1) (@Go.Bx.delO.eq_2))))))
  (And.intro
  (And.intro
  (And.intro
  (And.intro (@Go.Bx.eqS.eq_1) (@Go.Bx.eqS.eq_2))
  (And.intro (@Go.Bx.eqS.eq_3)
  (And.intro (@Go.Bx.eqB.eq_1) (@Go.Bx.eqB.eq_2))))
  (And.intro
  (And.intro (@Go.Bx.eqB.eq_3)
  (And.intro (@Nat.not_lt_zero) (@Nat.sub_zero)))
  (And.intro (@decide_true)
  (And.intro (@decide_false) (@true_or)))))
  (And.intro
  (And.intro
  (And.intro (@or_true) (@Int.le_refl))
  (And.intro (@Int.cast_ofNat_Int)
  (And.intro (@beq_self_eq_true.{0}) (@Nat.mul_one))))
  (And.intro
  (And.intro (@Nat.one_mul)
  (And.intro (@Nat.zero_mul) (@Go.Bx.V.ren.eq_1)))
  (And.intro (@Go.Bx.V.ren.eq_2)
  (And.intro (@Go.Bx.V.ren.eq_3) (@Go.Bx.V.ren.eq_4)))))))
  (And.intro
  (And.intro
  (And.intro
  (And.intro
  (And.intro (@Go.Bx.V.ren.eq_5) (@Go.Bx.V.ren.eq_6))
  (And.intro (@Go.Bx.V.ren.eq_7)
  (And.intro (@Go.Bx.V.ren.eq_8) (@Go.Bx.V.ren.eq_9))))
  (And.intro
  (And.intro (@Go.Bx.V.ren.eq_10)
  (And.intro (@Go.Bx.V.ren.eq_11) (@Go.Bx.V.ren.eq_12)))
  (And.intro (@Go.Bx.renL.eq_1)
  (And.intro (@Go.Bx.renL.eq_2) (@Go.Bx.renO.eq_1)))))
  (And.intro
  (And.intro
  (And.intro (@Go.Bx.renO.eq_2) (@Go.Bx.renE.eq_1))
  (And.intro (@Go.Bx.renE.eq_2)
  (And.intro (@Go.Bx.Own.ren.eq_1) (@Go.Bx.Own.ren.eq_2))))
  (And.intro
  (And.intro (@Go.Bx.Own.ren.eq_3)
  (And.intro (@Go.Bx.Own.ren.eq_4) (@Go.Bx.sw.eq_1)))
  (And.intro (@Go.Bx.mapE.eq_1)
  (And.intro (@Go.Bx.mapE.eq_2) (@Go.Bx.mapO.eq_1))))))
  (And.intro
  (And.intro
  (And.intro
  (And.intro (@Go.Bx.mapO.eq_2) (@Go.Bx.mapO.eq_3))
  (And.intro (@Go.Bx.mapO.eq_4)
  (And.intro (@Go.Bx.mapO.eq_5) (@Go.Bx.shrV.eq_1))))
  (And.intro
  (And.intro (@Go.Bx.shrV.eq_2)
  (And.intro (@Go.Bx.shrV.eq_3) (@Go.Bx.shrV.eq_4)))
  (And.intro (@Go.Bx.shrV.eq_5)
  (And.intro (@Go.Bx.shrV.eq_6) (@Go.Bx.shrV.eq_7)))))
  (And.intro
  (And.intro
  (And.intro (@Go.Bx.shrV.eq_8) (@Go.Bx.shrV.eq_9))
  (And.intro (@Go.Bx.shrV.eq_10)
  (And.intro (@Go.Bx.shrV.eq_11) (@Go.Bx.shrV.eq_12))))
  (And.intro
  (And.intro (@Go.Bx.shrL.eq_1)
  (And.intro (@Go.Bx.shrL.eq_2) (@Go.Bx.catR.eq_1)))
  (And.intro (@Go.Bx.catR.eq_2)
  (And.intro (@Bool.false_and) (@Bool.and_false))))))))))
def enb :=
  And.intro enl
  (And.intro
  (And.intro
  (And.intro (@Go.Bx.EnvLe.eq_1)
  (And.intro (@Go.Bx.EnvLe.eq_2) (@Go.Bx.OwnLe.eq_1)))
  (And.intro
  (And.intro (@Go.Bx.OwnLe.eq_2) (@Go.Bx.OLe_refl))
  (And.intro (@Go.Bx.VLe_refl) (@Go.Bx.VLe_int))))
  (And.intro
  (And.intro
  (And.intro (@Go.Bx.VLe_bool) (@Go.Bx.VsLe.eq_1))
  (And.intro (@Go.Bx.VsLe.eq_2) (@exists_eq_left.{1})))
  (And.intro
  (And.intro (@exists_eq_left.{0}) (@exists_eq_left'.{1}))
  (And.intro (@exists_eq_left'.{0}) (@Option.some.injEq.{0})))))
def rsb :=
  And.intro rsl
  (And.intro
  (And.intro
  (And.intro (@Go.Bx.ressS.eq_1) (@Go.Bx.ressS.eq_2))
  (And.intro (@Go.Bx.resS.eq_1) (@Go.Bx.resS.eq_2)))
  (And.intro
  (And.intro (@Go.Bx.retV.eq_1) (@Go.Bx.ressV.eq_1))
  (And.intro (@Go.Bx.ressV.eq_2)
  (And.intro (@Go.Bx.resV.eq_1) (@Go.Bx.resV.eq_2)))))
end Go.Bx
end
section
set_option linter.unusedSimpArgs false
set_option linter.unusedVariables false
namespace Go.Bx
open Go.RowKit
structure CliZ (fn : List Nat) (Z : Nat → List (Nat × Own)) : Prop where
  nodup : ∀ k, (keysO (Z k)).Nodup
  names : ∀ k n, n ∈ ownNames (Z k) → n ∈ keysO (Z k)
  ge : ∀ k n, n ∈ keysO (Z k) → 1000000 ≤ n
  fx : ∀ k n, n ∈ fn → n ∈ keysO (Z k)
def IterK (c : Ctx) (Z : List (Nat × Own)) : Kont
  | .nrm, st => ∃ st', Wk c st st' ∧ OwnLe st'.own Z
  | .exit _, _ => False
  | .ret, st => ∃ st', Wk c st st' ∧ OwnLe st'.own Z
theorem OwnsOk.sub {E0 : Nat → Prop} {β : Names} {w : World} {own outs : List (Nat × Own)} (h : OwnsOk E0 β w own) (ho : OwnLe own outs) (hnd : (keysO outs).Nodup) : OwnsOk E0 β w outs := by
  have hkey : ∀ k, k ∈ keysO outs → k ∈ keysO own := fun k hk => by
    obtain ⟨o, hm⟩ := keys_mem hk
    obtain ⟨o', h1, _⟩ := OwnLe.get ho k o hm
    exact mem_keys (own?_mem h1)
  have hl : Lasts (Eo E0 β own) (Eo E0 β outs) w w := fun b _ h1 => ⟨fun h2 => h1 (h2.imp id fun ⟨k, h3, h4⟩ => ⟨k, hkey k h3, h4⟩), rfl⟩
  refine ⟨fun k o hk => ?_, hnd, fun k k' h1 h2 => h.apart k k' (hkey k h1) (hkey k' h2), fun k h1 => h.lt k (hkey k h1)⟩
  obtain ⟨o', h1, h2⟩ := OwnLe.get ho k o hk
  exact (h2 _ _ _ _ (h.ok k o' (own?_mem h1))).lasts hl (Names.le.refl β) (fun _ _ => rfl)
theorem iter_of_vc {P : Program} {gf : FuncId} {fn : Func} {code : Code} {cc : C} {caps : List V} {args : Nat → List V} {n : Nat}
    (hf : P.funcs[gf]? = some fn) (hok : okF P gf = true) (hb : fn.body = some code) (hcc : cCode P fn.ntmps code = some cc) (hrs : cRess P fn.results.toList = some []) (hlen : caps.length + 1 ≤ fn.ntmps) (hcap : namesL caps = []) (hargs : ∀ k, namesL (args k) = [])
    (h : ∀ (c : Ctx) (l T : Nat) (stop : Bool) (Z : Nat → List (Nat × Own)), c.P = P → c.nt = fn.ntmps → CliZ c.fn Z → (stop = false → T = n) → (stop = true → 0 < T ∧ T ≤ n) → (∀ k, k < T → YR c l (args k) (Z k) (Z (k + 1)) (goAt T stop k)) →
      vcC c cc ⟨initE 0 (.fn (.yield l) [] [] :: caps), Z 0, keysO (Z 0)⟩ (IterK c (Z T))) : IterC P gf caps args n := by
  refine ⟨hok, fun l EI LI wI βI fx T stop O vals hcli hT hT' hE hLI hown hvs hvr hY => ?_⟩
  let β0 : Names := fun m => open Classical in if h : ∃ q, q ∈ keysO (O 0) ∧ pk fx 0 q = m then βI (Classical.choose h) else none
  have hβ0 : ∀ q, q ∈ keysO (O 0) → β0 (pk fx 0 q) = βI q := fun q hq => by
    have hyes : ∃ q', q' ∈ keysO (O 0) ∧ pk fx 0 q' = pk fx 0 q := ⟨q, hq, rfl⟩
    simp only [β0, dif_pos hyes]
    rw [(pk_eq (Classical.choose_spec hyes).2).1]
  have hβn : ∀ m, m ∉ keysO (renO (pk fx 0) (O 0)) → β0 m = none := fun m hm => by
    have hno : ¬ ∃ q', q' ∈ keysO (O 0) ∧ pk fx 0 q' = m := by
      rintro ⟨q, h1, rfl⟩
      exact hm (by rw [keys_renO]; exact List.mem_map.2 ⟨q, h1, rfl⟩)
    simp only [β0, dif_neg hno]
  have hpk : ∀ (k n m : Nat), n ∈ keysO (O k) → m ∈ keysO (O k) → pk fx k n = pk fx k m → n = m := fun _ _ _ _ _ e => (pk_eq e).1
  let c : Ctx := { P := P, E0 := EI, w0 := wI, L := LI, nt := fn.ntmps, fn := fx.map (pk fx 0), fx := β0, rd := none, hE := hE }
  obtain ⟨hup, hupE⟩ := hown.ren (β' := β0) (hcli.names 0) hβ0 (hpk 0)
  have hZ : CliZ c.fn (fun k => renO (pk fx k) (O k)) := by
    refine ⟨fun k => ?_, fun k m hm => ?_, fun k m hm => ?_, fun k m hm => ?_⟩
    · simp only [keys_renO]; exact nodup_map_on (hcli.nodup k) (hpk k)
    · simp only [ownNames_ren, keys_renO, List.mem_map] at hm ⊢
      obtain ⟨q, hq, rfl⟩ := hm
      exact ⟨q, hcli.names k q hq, rfl⟩
    · simp only [keys_renO, List.mem_map] at hm
      obtain ⟨q, hq, rfl⟩ := hm
      exact pk_ge fx k q
    · simp only [c, keys_renO, List.mem_map] at hm ⊢
      obtain ⟨q, hq, rfl⟩ := hm
      exact ⟨q, hcli.fx k q hq, by rw [pk_fx hq, pk_fx hq]⟩
  have hYR : ∀ k, k < T → YR c l (args k) (renO (pk fx k) (O k)) (renO (pk fx (k + 1)) (O (k + 1))) (goAt T stop k) := fun k hk =>
    yr_ok (c := c) (βI := βI) (fx := fx) (O := O) (k := k) (fun q hq => ⟨List.mem_map.2 ⟨q, hq, rfl⟩, hβ0 q (hcli.fx 0 q hq)⟩) hcli (hY k hk) (hargs k)
  have hsz : (#[Value.func (.yield l) #[] #[]] ++ vals : Array Value).size = caps.length + 1 := by simp; omega
  have hv : ∀ (j : Nat) (v : Value) (x : V), (#[Value.func (.yield l) #[] #[]] ++ vals : Array Value)[j]? = some v → (V.fn (.yield l) [] [] :: caps)[j]? = some x → RelV β0 (Eo EI β0 (renO (pk fx 0) (O 0))) wI v x := fun j v x h1 h2 => by
    cases j with
    | zero =>
      rw [Array.getElem?_append_left (by simp)] at h1
      simp at h1 h2; subst h1; subst h2
      exact .fn _ _ _ _ _ rfl rfl (fun j v x hv => by simp at hv) (fun j v x hv => by simp at hv)
    | succ j =>
      rw [Array.getElem?_append_right (by simp)] at h1
      simp at h1 h2
      rw [hupE]
      refine (hvr j v x h1 h2).lasts (Lasts.refl _ _) fun m hm => ?_
      have := names_mem h2 m hm; rw [hcap] at this; cases this
  have H : Holds c β0 ⟨initE 0 (.fn (.yield l) [] [] :: caps), renO (pk fx 0) (O 0), keysO (renO (pk fx 0) (O 0))⟩ { tmps := (#[Value.func (.yield l) #[] #[]] ++ vals) ++ Array.replicate (fn.ntmps - (#[Value.func (.yield l) #[] #[]] ++ vals : Array Value).size) undef, defers := [] } wI := by
    refine ⟨by simp [c]; omega, MarksOk.nil _ _ _, fun s => ?_, hup, fun k hk b hb1 => .inr ?_, fun k hk => hk, fun k hk => hβn k hk, Keeps.refl _ _, fun k hk => ⟨hZ.fx 0 k hk, rfl⟩⟩
    · rw [get_initE, if_pos (Nat.zero_le _), Nat.sub_zero]
      cases ha : (V.fn (.yield l) [] [] :: caps)[s]? with
      | none => exact .un _
      | some x =>
        have hsl : s < (#[Value.func (.yield l) #[] #[]] ++ vals : Array Value).size := by have := (List.getElem?_eq_some_iff.1 ha).1; rw [hsz]; simpa using this
        have hvs' := Array.getElem?_eq_getElem hsl
        have : ((#[Value.func (.yield l) #[] #[]] ++ vals) ++ Array.replicate (fn.ntmps - (#[Value.func (.yield l) #[] #[]] ++ vals : Array Value).size) undef).getD s undef = (#[Value.func (.yield l) #[] #[]] ++ vals : Array Value)[s] := by
          rw [Array.getD_eq_getD_getElem?, Array.getElem?_append_left hsl, hvs']; rfl
        simp only
        rw [this]
        exact hv s _ x hvs' ha
    · rw [keys_renO] at hk
      obtain ⟨q, hq, rfl⟩ := List.mem_map.1 hk
      simp only [c, hLI]
      exact ⟨q, hq, by simp only [Names.blk, ← hβ0 q hq]; exact hb1⟩
  refine (callsIn_wide (n := 0)).1 (callsIn_of_wp_marks hf hb trivial (wpIn_mono (code_ok (c := c) hcc (h c l T stop (fun k => renO (pk fx k) (O k)) rfl rfl hZ hT hT' hYR) β0 _ wI H) ?_))
  rintro e a' w' ⟨ex, he, β1, st1, hk, H1⟩
  have fin : (∃ st2, Wk c st1 st2 ∧ OwnLe st2.own (renO (pk fx T) (O T))) → LeavesInM Fence.wide 0 P fn a'.tmps (fun e w' => ∃ v β', e = .returned v ∧ (∀ n, n ∈ fx → β' n = βI n) ∧ OwnsOk EI β' w' (O T) ∧ Keeps LI wI w' ∧ (∀ k, k ∈ keysO (O T) → ∀ b, β'.blk k = some b → wI.heap.size ≤ b ∨ LI b)) a'.defers .returning w' := by
    rintro ⟨st2, hs2, hout⟩
    obtain ⟨β2, H2⟩ := hs2 β1 a' w' H1
    refine leaves_marks (c := c) a'.defers rfl H2 fun a' w' _ H2 => ?_
    obtain ⟨v, hrun, -⟩ := results_ok (fn := fn) H2 hrs trivial
    have h1 := H2.own.sub hout (by rw [keys_renO]; exact nodup_map_on (hcli.nodup T) (hpk T))
    obtain ⟨h2, -⟩ := h1.unren (hcli.nodup T) (hpk T)
    refine ⟨v, hrun, v, fun q => β2 (pk fx T q), rfl, fun q hq => ?_, h2, H2.kp, fun k hk b hb => H2.fr (pk fx T k) ?_ b hb⟩
    · have := (H2.fx (pk fx 0 q) (List.mem_map.2 ⟨q, hq, rfl⟩)).2
      simp only
      rw [pk_fx hq, ← pk_fx hq 0, this]
      exact hβ0 q (hcli.fx 0 q hq)
    · have hm : pk fx T k ∈ keysO (renO (pk fx T) (O T)) := by rw [keys_renO]; exact List.mem_map.2 ⟨k, hk, rfl⟩
      obtain ⟨o, ho⟩ := keys_mem hm
      obtain ⟨o', h3, _⟩ := OwnLe.get hout _ o ho
      exact mem_keys (own?_mem h3)
  cases e <;> simp at he <;> subst he
  · exact fin hk
  · exact hk.elim
  · exact hk.elim
  · exact fin hk
section
variable {c : Ctx} {st : St}
theorem own?_Z {fn : List Nat} {Z : Nat → List (Nat × Own)} (h : CliZ fn Z) {k n : Nat} (hn : n < 1000000) : own? (Z k) n = none := own?_none fun hm => by have := h.ge k n hm; omega
theorem Wk.ofZ0 {fn : List Nat} {Z : Nat → List (Nat × Own)} (hZ : CliZ fn Z) (hfn : c.fn = fn) (k : Nat) {env : List (Nat × V)} {own : List (Nat × Own)} {nm : List Nat} (hB : wkB [] ⟨env, own, nm⟩ = true) (hnm : (nm.all fun n => decide (n < 1000000)) = true)
    (he : ∀ s, VLe (Go.Bx.get st.env s) (Go.Bx.get env s)) (ho : OwnLe st.own own) (hr : ∀ n o, (n, o) ∈ Z k → own? st.own n = some o) : Wk c st ⟨env, own ++ Z k, nm ++ keysO (Z k)⟩ := by
  simp only [wkB, Bool.and_eq_true, List.all_eq_true, List.contains_iff_mem] at hB
  obtain ⟨-, h2, h3, h4⟩ := hB
  have hk : ∀ n, n ∈ keysO own → n ∈ nm := fun n hk => by obtain ⟨o, ho'⟩ := keys_mem hk; exact h4 n (oNames_in ho').1
  have hlt : ∀ n, n ∈ nm → n < 1000000 := fun n hn => by simpa using List.all_eq_true.1 hnm n hn
  have hkZ : ∀ n, n ∈ keysO (own ++ Z k) → n ∈ keysO own ∨ n ∈ keysO (Z k) := fun n hn => by rw [keysO_app] at hn; exact List.mem_append.1 hn
  refine Wk.mk0 he ?_ ?_ (fun n hn => ?_) (fun n hn => ?_) (fun s y hm n hn => List.mem_append_left _ (h3 n (envNames_in hm n hn))) (fun n o hm j hj => ?_)
  · refine OwnLe.of fun n o hm => ?_
    rcases List.mem_append.1 hm with hm | hm
    · exact OwnLe.get ho n o hm
    · exact ⟨o, hr n o hm, OLe.refl o⟩
  · rw [keysO_app, List.nodup_append]
    exact ⟨nodupB_ok h2, hZ.nodup k, fun a ha b hb e => by have := hlt a (hk a ha); have := hZ.ge k b hb; omega⟩
  · rcases hkZ n hn with h | h
    · exact List.mem_append_left _ (hk n h)
    · exact List.mem_append_right _ h
  · exact List.mem_append_right _ (hZ.fx k n (hfn ▸ hn))
  · rcases List.mem_append.1 hm with hm | hm
    · exact List.mem_append_left _ (h4 j ((oNames_in hm).2 j hj))
    · exact List.mem_append_right _ (hZ.names k j (ownNames_in hm j hj))
theorem Wk.ofZ {fn : List Nat} {Z : Nat → List (Nat × Own)} (hZ : CliZ fn Z) (hfn : c.fn = fn) (k : Nat) {env : List (Nat × V)} {own : List (Nat × Own)} {nm : List Nat} (hB : wkB [] ⟨env, own, nm⟩ = true) (hnm : (nm.all fun n => decide (n < 1000000)) = true)
    (he : EnvLe st.env env) (ho : OwnLe st.own own) (hr : ∀ n o, (n, o) ∈ Z k → own? st.own n = some o) : Wk c st ⟨env, own ++ Z k, nm ++ keysO (Z k)⟩ := Wk.ofZ0 hZ hfn k hB hnm (EnvLe.get he) ho hr
mutual
theorem V.ren_id {p : Nat → Nat} : ∀ v : V, (∀ n, n ∈ v.names → p n = n) → v.ren p = v
  | .own k off, h => by simp [V.ren, h k (by simp [V.names])]
  | .osl k, h => by simp [V.ren, h k (by simp [V.names])]
  | .osub k sz lo n, h => by simp [V.ren, h k (by simp [V.names])]
  | .optr k sz i off, h => by simp [V.ren, h k (by simp [V.names])]
  | .fn f a b, h => by simp [V.ren, renL_id a (fun n hn => h n (by simp [V.names, hn])), renL_id b (fun n hn => h n (by simp [V.names, hn]))]
  | .ifc t v, h => by simp [V.ren, V.ren_id v (fun n hn => h n (by simpa [V.names] using hn))]
  | .ag cs, h => by simp [V.ren, renL_id cs (fun n hn => h n (by simpa [V.names] using hn))]
  | .tup cs, h => by simp [V.ren, renL_id cs (fun n hn => h n (by simpa [V.names] using hn))]
  | .gd c v, h => by simp [V.ren, V.ren_id v (fun n hn => h n (by simpa [V.names] using hn))]
  | .un, _ => rfl
  | .d x, _ => rfl
  | .mem cs, _ => rfl
theorem renL_id {p : Nat → Nat} : ∀ l : List V, (∀ n, n ∈ namesL l → p n = n) → renL p l = l
  | [], _ => rfl
  | v :: l, h => by simp [renL, V.ren_id v (fun n hn => h n (by simp [namesL, hn])), renL_id l (fun n hn => h n (by simp [namesL, hn]))]
end
theorem Own.ren_id {p : Nat → Nat} {l : List (Nat × Go.Bx.Own)} {k : Nat} {o : Go.Bx.Own} (hm : (k, o) ∈ l) (h : ∀ n, n ∈ ownNames l → p n = n) : o.ren p = o := by
  have := ownNames_in hm
  cases o with
  | fix cs => simp only [Own.ren]; rw [renL_id cs fun n hn => h n (this n hn)]
  | lit e sz n cs => simp only [Own.ren]; rw [renL_id cs fun n hn => h n (this n hn)]
  | row e sz n f => rfl
  | mp z g => rfl
  | lp b r => rfl
theorem Wk.rnZ {fn : List Nat} {Z : Nat → List (Nat × Own)} (hZ : CliZ fn Z) (hfn : c.fn = fn) (k x y : Nat) (hx : x < 1000000) (hy : y < 1000000) {env : List (Nat × V)} {own : List (Nat × Own)} {nm : List Nat} (hB : wkB [] ⟨env, own, nm⟩ = true) (hnm : (nm.all fun n => decide (n < 1000000)) = true)
    (he : EnvLe (renE (Go.Bx.sw x y) st.env) env) (ho : OwnLeS (Go.Bx.sw x y) st.own own) (hr : ∀ n o, (n, o) ∈ Z k → own? st.own n = some o) : Wk c st ⟨env, own ++ Z k, nm ++ keysO (Z k)⟩ := by
  have hlt : ∀ n, 1000000 ≤ n → Go.Bx.sw x y n = n := fun n hn => by unfold Go.Bx.sw; rw [if_neg (by omega), if_neg (by omega)]
  refine (Wk.sw x y fn hfn (fun h => ?_) (fun h => ?_)).trans (Wk.ofZ hZ hfn k hB hnm he (OwnLe.of fun n o hm => ?_) fun n o hm => ?_)
  · have := hZ.ge k x (hZ.fx k x h); omega
  · have := hZ.ge k y (hZ.fx k y h); omega
  · obtain ⟨o', h1, h2⟩ := OwnLeS.get ho n o hm
    exact ⟨_, by rw [own?_renO, h1]; rfl, h2⟩
  · have hn := hZ.ge k n (mem_keys hm)
    rw [own?_renO, hlt n hn, hr n o hm]
    simp only [Option.map_some]
    rw [Own.ren_id hm fun m h => hlt m (hZ.ge k m (hZ.names k m h))]
theorem TR.yield {fn : List Nat} {Z : Nat → List (Nat × Own)} (hZ : CliZ fn Z) (hfn : c.fn = fn) {k l : Nat} {go : Bool} {args : List V} (hY : YR c l args (Z k) (Z (k + 1)) go) {env : List (Nat × V)} {own : List (Nat × Own)} {nm : List Nat} (hB : wkB [] ⟨env, own, nm⟩ = true) (hnm : (nm.all fun n => decide (n < 1000000)) = true)
    {d : Option Nat} {x : X} {xs : List X} {is : List I} {acc : List Lg} {K : List Lg → St → Prop} (hx : evV ⟨env, own ++ Z k, nm ++ keysO (Z k)⟩ x = .fn (.yield l) [] []) (hsx : evS true ⟨env, own ++ Z k, nm ++ keysO (Z k)⟩ x) (ha : evVs ⟨env, own ++ Z k, nm ++ keysO (Z k)⟩ xs = args) (hs : evSs true ⟨env, own ++ Z k, nm ++ keysO (Z k)⟩ xs)
    (h : vcR c false is ⟨setE env d (.d (.bool go)), own ++ Z (k + 1), nm ++ keysO (Z (k + 1))⟩ acc K) : TR c false (⟨d, none, .callv x xs⟩ :: is) ⟨env, own ++ Z k, nm ++ keysO (Z k)⟩ acc K := by
  have hB' := hB
  simp only [wkB, Bool.and_eq_true, List.all_eq_true, List.contains_iff_mem] at hB'
  obtain ⟨-, h2, h3, h4⟩ := hB'
  have hk : ∀ n, n ∈ keysO own → n ∈ nm := fun n hk => by obtain ⟨o, ho'⟩ := keys_mem hk; exact h4 n (oNames_in ho').1
  have hlt : ∀ n, n ∈ nm → n < 1000000 := fun n hn => by simpa using List.all_eq_true.1 hnm n hn
  have hnd : (keysO (own ++ Z k)).Nodup := by
    rw [keysO_app, List.nodup_append]
    exact ⟨nodupB_ok h2, hZ.nodup k, fun a ha b hb e => by have := hlt a (hk a ha); have := hZ.ge k b hb; omega⟩
  have hin : ∀ n o, (n, o) ∈ Z k → own? (own ++ Z k) n = some o := fun n o hm => mem_own? hnd (List.mem_append_right _ hm)
  refine TR.cons _ (hY d x xs _ hx hsx ha hs hin) (fun n hn h5 => ?_) ?_
  · obtain ⟨h6, h7⟩ := List.mem_filter.1 hn
    rcases List.mem_append.1 h5 with h5 | h5
    · have := hlt n h5; have := hZ.ge _ n h6; omega
    · simp only [Bool.not_eq_true', List.contains_eq_mem, decide_eq_false_iff_not] at h7
      exact h7 h5
  · simp only [lgs, Bool.false_eq_true, if_false]
    refine TR.wk ⟨setE env d (.d (.bool go)), own ++ Z (k + 1), nm ++ keysO (Z (k + 1))⟩ ?_ (vcR_ok h)
    have hcall := fun n => own?_call (ins := Z k) (outs := Z (k + 1)) hnd (hZ.nodup (k + 1)) n
    have hwk := Wk.ofZ0 (c := c) (st := St.stp ⟨env, own ++ Z k, nm ++ keysO (Z k)⟩ d { val := .d (.bool go), upd := callU (Z k) (Z (k + 1)), rd := keysO (Z k), new := (keysO (Z (k + 1))).filter fun n => !(keysO (Z k)).contains n }) hZ hfn (k + 1) (env := setE env d (.d (.bool go))) (own := own) (nm := nm) ?_ hnm ?_ ?_ ?_
    · exact hwk
    · simp only [wkB, List.all_nil, Bool.true_and, Bool.and_eq_true, List.all_eq_true, List.contains_iff_mem] at hB ⊢
      refine ⟨hB.1, fun n hn => ?_, hB.2.2⟩
      cases d with
      | none => exact hB.2.1 n hn
      | some d =>
        simp only [setE, envNames, V.names, List.nil_append] at hn
        exact hB.2.1 n hn
    · exact fun s => VLe.refl _
    · refine OwnLe.of fun n o hm => ⟨o, ?_, OLe.refl o⟩
      have hn := hlt n (hk n (mem_keys hm))
      show own? (applyU (own ++ Z k) (callU (Z k) (Z (k + 1)))) n = some o
      rw [hcall, own?_Z hZ hn]
      simp only
      rw [if_neg (fun h => by have := hZ.ge k n h; omega)]
      exact mem_own? hnd (List.mem_append_left _ hm)
    · intro n o hm
      show own? (applyU (own ++ Z k) (callU (Z k) (Z (k + 1)))) n = some o
      rw [hcall, mem_own? (hZ.nodup (k + 1)) hm]
theorem vcC.rfnAll {K : Kont} {x : X} {ps : List Nat} {a b : C} {gf : FuncId} {caps : List V} {args : Nat → List V} {n : Nat} (hI : IterC c.P gf caps args n) (env0 : List (Nat × V)) (NF : List Nat) (O O1 : Nat → List (Nat × Own)) (env1 : Nat → List (Nat × V))
    (hwk : Wk c st ⟨env0, O 0, keysO (O 0)⟩) (hx : evV ⟨env0, O 0, keysO (O 0)⟩ x = .fn (.func gf) [] caps) (hsx : evS true ⟨env0, O 0, keysO (O 0)⟩ x) (hO : RfnO c env0 NF n n none caps args O O1 ps.length)
    (hA : ∀ k, k < n → ∀ cB : Ctx, cB.P = c.P → cB.fn = NF → vcC cB a ⟨setPs ps (args k) env0, O k, keysO (O k)⟩ (rfnA cB (env1 k) (O1 k)))
    (hB : ∀ k, k < n → ∀ cB : Ctx, cB.P = c.P → cB.fn = NF → vcC cB b ⟨env1 k, O1 k, keysO (O1 k)⟩ (rfnB cB true none (O (k + 1))))
    (hK : K .nrm ⟨env0, O n, keysO (O n)⟩) : vcC c (.rfn x ps a b) st K := by
  unfold vcC
  refine ⟨gf, caps, env0, NF, n, n, none, args, O, O1, env1, hwk, hx, hsx, hO, hI, fun k hk cB h1 _ h3 => ⟨hA k hk cB h1 h3, ?_⟩, fun _ => hK, fun e he => by cases he⟩
  have : goAt n (none : Option Ex).isSome k = true := by simp [goAt]
  rw [this]
  exact hB k hk cB h1 h3
theorem IterK.mk {Z : List (Nat × Own)} (st1 : St) (h : Wk c st st1) (h1 : OwnLe st1.own Z) : IterK c Z .ret st := ⟨st1, h, h1⟩
theorem IterK.mk' {Z : List (Nat × Own)} (st1 : St) (h : Wk c st st1) (h1 : OwnLe st1.own Z) : IterK c Z .nrm st := ⟨st1, h, h1⟩
theorem Wk.nmK (hnd : (keysO st.own).Nodup) (hn : ∀ n, n ∈ ownNames st.own → n ∈ keysO st.own) (hf : ∀ n, n ∈ c.fn → n ∈ keysO st.own) : Wk c st ⟨[], st.own, keysO st.own⟩ :=
  Wk.mk (by trivial) (OwnLe.of fun k o hm => ⟨o, mem_own? hnd hm, OLe.refl o⟩) hnd (fun k hk => hk) hf (fun s y hm => by simp at hm) (fun k o hm j hj => hn j (ownNames_in hm j hj))
theorem nest_names {X : Type} {dx : X} {cells : X → List D} {K τ e sz : Nat} : ∀ {i : Nat} {G : List (List X)} {n : Nat}, n ∈ namesL (nestC dx cells K τ sz i G) → n ∈ keysO (nestO dx cells K τ e sz i G)
  | i, [], n, h => by simp [nestC, namesL] at h
  | i, g :: G, n, h => by
    simp only [nestC, namesL, List.mem_append] at h
    simp only [nestO]
    rcases h with h | h
    · by_cases hg : g.length ≤ τ
      · rw [if_pos hg] at h; simp [V.names] at h
      · rw [if_neg hg] at h
        simp only [V.names, List.mem_singleton] at h
        rw [if_neg hg]
        simp only [keysO, List.map_cons, List.mem_cons]
        exact .inl h
    · have ih := nest_names (e := e) h
      by_cases hg : g.length ≤ τ
      · rw [if_pos hg]; exact ih
      · rw [if_neg hg]; simp only [keysO, List.map_cons, List.mem_cons] at ih ⊢; exact .inr ih
theorem nest_own {X : Type} {dx : X} {cells : X → List D} {K τ e sz : Nat} {i : Nat} {G : List (List X)} {n : Nat} (h : n ∈ ownNames (nestO dx cells K τ e sz i G)) : n ∈ keysO (nestO dx cells K τ e sz i G) := by
  have : ∀ (l : List (Nat × Own)), (∀ k o, (k, o) ∈ l → ∃ e sz n f, o = .row e sz n f) → ∀ n, n ∈ ownNames l → n ∈ keysO l := by
    intro l
    induction l with
    | nil => intro _ n h; simp [ownNames] at h
    | cons p l ih =>
      obtain ⟨k, o⟩ := p
      intro hr n hn
      obtain ⟨e, sz, m, f, rfl⟩ := hr k o (by simp)
      simp only [ownNames, List.mem_cons] at hn
      simp only [keysO, List.map_cons, List.mem_cons]
      exact hn.imp id (ih (fun k o hm => hr k o (by simp [hm])) n)
  exact this _ (fun k o hm => by obtain ⟨j, g, _, _, _, h5⟩ := nestO_mem hm; exact ⟨_, _, _, _, h5⟩) n h
theorem Wk.envLe {env : List (Nat × V)} (he : EnvLe st.env env) : Wk c st ⟨env, st.own, st.nm⟩ := fun β _ _ H =>
  ⟨β, H.sz, H.df, fun s => EnvLe.get he s _ _ _ _ (H.env s), H.own, H.fr, H.kn, H.nm, H.kp, H.fx⟩
end
end Go.Bx
end
