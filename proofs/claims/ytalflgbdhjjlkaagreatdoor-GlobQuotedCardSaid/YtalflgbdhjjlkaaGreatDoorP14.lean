/- Part 14 of the proof of the law: Ir1. No condition. -/
import Derived.Test.YtalflgbdhjjlkaaGreatDoorP13
import Derived.KernelRfl
import Derived.Test.YtalflgbdhjjlkaaGreatDoorProg
set_option linter.all false
namespace Go.Ae
open Go
set_option maxRecDepth 100000
def F121 : AFunc := ⟨31,[],(.seq (.draw 1 [.run ⟨some 2,.mv (.tmp 0),none⟩,.run ⟨some 3,.mv (.tmp 0),none⟩,.run ⟨some 4,.nilck (.tmp 3),none⟩,.run ⟨some 5,.faddr (.tmp 4) 0,none⟩,.run ⟨some 7,.mv (.tmp 0),none⟩,.run ⟨some 8,.nilck (.tmp 7),none⟩,.run ⟨some 9,.faddr (.tmp 8) 1,none⟩,.run ⟨some 12,.mv (.tmp 0),none⟩,.run ⟨some 13,.nilck (.tmp 12),none⟩,.run ⟨some 14,.faddr (.tmp 13) 2,none⟩,.run ⟨some 6,.load (.tmp 5) none,none⟩,.run ⟨some 10,.load (.tmp 9) none,none⟩,.run ⟨some 11,.toStr (.tmp 10),none⟩,.run ⟨some 15,.load (.tmp 14) none,none⟩,.run ⟨some 16,.toStr (.tmp 15),none⟩,.run ⟨some 17,.build [(.string ⟨#[]⟩),(.string ⟨#[]⟩)] [(0,1,.tmp 11),(1,1,.tmp 16)],none⟩,.nam ⟨some 18,.mkslice 1 2 [(.string ⟨#[]⟩),(.string ⟨#[]⟩)] [(0,2,.tmp 17)],none⟩ 0,.lay ⟨some 18,.mkslice 1 2 [(.string ⟨#[]⟩),(.string ⟨#[]⟩)] [(0,2,.tmp 17)],none⟩ 0,.run ⟨some 19,.app (.tmp 6) (.tmp 18) 2 78,none⟩,.run ⟨some 20,.nilck (.tmp 2),none⟩,.run ⟨some 21,.faddr (.tmp 20) 0,none⟩,.run ⟨none,.store (.tmp 21) (.tmp 19) 1,none⟩])
 (.ops [⟨some 22,.mv (.tmp 0),none⟩,⟨some 23,.mv (.tmp 0),none⟩,⟨some 24,.mv (.tmp 0),none⟩,⟨some 25,.nilck (.tmp 22),none⟩,⟨some 26,.faddr (.tmp 25) 1,none⟩,⟨none,.store (.tmp 26) (.const (.slice none 0 0)) 1,none⟩,⟨some 27,.nilck (.tmp 23),none⟩,⟨some 28,.faddr (.tmp 27) 2,none⟩,⟨none,.store (.tmp 28) (.const (.slice none 0 0)) 1,none⟩,⟨some 29,.nilck (.tmp 24),none⟩,⟨some 30,.faddr (.tmp 29) 3,none⟩,⟨none,.store (.tmp 30) (.const (.bool false)) 1,none⟩]))⟩
theorem is121 : Is Proofs.Tryz.prog 6 121 F121 := mkIs Proofs.Tryz.func121 (by kernel_rfl) (by decide) (by kernel_rfl) Proofs.Tryz.ntmps121 (by kernel_rfl)
def F122 : AFunc := ⟨24,[.tmp 4,.tmp 5],(.seq (.ops [⟨some 4,.mv (.const (.string ⟨#[]⟩)),none⟩,⟨some 5,.mv (.const (.bool false)),none⟩])
 (.seq (.ops [⟨some 9,.mv (.tmp 0),none⟩,⟨some 10,.mv (.tmp 1),none⟩,⟨some 11,.call (.func 114) [.tmp 9,.tmp 10],none⟩,⟨some 8,.mv (.tmp 11),none⟩,⟨some 12,.ext (.tmp 8) 0,none⟩,⟨some 13,.ext (.tmp 8) 1,none⟩,⟨some 6,.mv (.tmp 12),none⟩,⟨some 7,.mv (.tmp 13),none⟩])
 (.seq (.seq (.ops [⟨some 14,.mv (.tmp 7),none⟩,⟨some 15,.un .not (.tmp 14),none⟩])
 (.cond (.tmp 15)
 (.seq (.ops [⟨some 4,.mv (.const (.string ⟨#[]⟩)),none⟩,⟨some 5,.mv (.const (.bool false)),none⟩])
 .ret)
 .skip))
 (.seq (.ops [⟨some 16,.mv (.tmp 0),none⟩,⟨some 17,.nilck (.tmp 16),none⟩,⟨some 18,.faddr (.tmp 17) 1,none⟩,⟨some 19,.load (.tmp 18) none,none⟩,⟨some 20,.mv (.tmp 6),none⟩,⟨some 21,.idx (.tmp 19) (.tmp 20) 2,none⟩,⟨some 22,.faddr (.tmp 21) 1,none⟩,⟨some 23,.load (.tmp 22) none,none⟩,⟨some 4,.mv (.tmp 23),none⟩,⟨some 5,.mv (.const (.bool true)),none⟩])
 .ret))))⟩
theorem is122 : Is Proofs.Tryz.prog 6 122 F122 := mkIs Proofs.Tryz.func122 (by kernel_rfl) (by decide) (by kernel_rfl) Proofs.Tryz.ntmps122 (by kernel_rfl)
def F123 : AFunc := ⟨21,[],(.seq (.ops [⟨some 3,.mv (.const (.int .i64 0)),none⟩])
 (.block 0
 (.loop
 (.seq (.seq (.ops [⟨some 6,.mv (.tmp 3),none⟩,⟨some 7,.load (.tmp 1) none,none⟩,⟨some 8,.lenS (.tmp 7),none⟩,⟨some 9,.bin .lss (.tmp 6) (.tmp 8),none⟩])
 (.cond (.tmp 9)
 .skip
 (.exit 0)))
 (.block 1
 (.seq (.ops [⟨some 11,.load (.tmp 1) none,none⟩,⟨some 12,.mv (.tmp 3),none⟩,⟨some 13,.call (.func 124) [.tmp 11,.tmp 12],none⟩,⟨some 10,.mv (.tmp 13),none⟩,⟨some 14,.ext (.tmp 10) 0,none⟩,⟨some 15,.ext (.tmp 10) 1,none⟩,⟨some 4,.new [(.int .i64 0),(.int .u8 0),(.int .u64 0),(.int .u64 0),(.int .u64 0),(.int .u64 0)] 112,none⟩,⟨none,.store (.tmp 4) (.tmp 14) 6,none⟩,⟨some 5,.mv (.tmp 15),none⟩])
 (.seq (.seq (.ops [⟨some 16,.mv (.tmp 0),none⟩,⟨some 17,.load (.tmp 4) (some 6),none⟩,⟨some 18,.call (.tmp 16) [.tmp 17],none⟩,⟨some 19,.un .not (.tmp 18),none⟩])
 (.cond (.tmp 19)
 .ret
 .skip))
 (.ops [⟨some 20,.mv (.tmp 5),none⟩,⟨some 3,.mv (.tmp 20),none⟩]))))))))⟩
theorem is123 : Is Proofs.Tryz.prog 6 123 F123 := mkIs Proofs.Tryz.func123 (by kernel_rfl) (by decide) (by kernel_rfl) Proofs.Tryz.ntmps123 (by kernel_rfl)
def F124 : AFunc := ⟨54,[.cell 4 (some 6),.tmp 5],(.seq (.ops [⟨some 4,.new [(.int .i64 0),(.int .u8 0),(.int .u64 0),(.int .u64 0),(.int .u64 0),(.int .u64 0)] 112,none⟩,⟨some 5,.mv (.const (.int .i64 0)),none⟩])
 (.seq (.seq (.ops [⟨some 8,.mv (.tmp 0),none⟩,⟨some 9,.mv (.tmp 1),none⟩,⟨some 10,.strAt (.tmp 8) (.tmp 9),none⟩])
 (.block 0
 (.seq (.ops [⟨some 12,.eqv false (.scalar .int) (.tmp 10) (.const (.int .u8 92)),none⟩,⟨some 11,.mv (.tmp 12),none⟩])
 (.cond (.tmp 11)
 (.seq (.ops [⟨some 13,.mv (.tmp 1),none⟩,⟨some 14,.bin .add (.tmp 13) (.const (.int .i64 1)),none⟩,⟨some 15,.mv (.tmp 0),none⟩,⟨some 16,.lenS (.tmp 15),none⟩,⟨some 17,.bin .lss (.tmp 14) (.tmp 16),none⟩])
 (.cond (.tmp 17)
 (.seq (.ops [⟨some 18,.mv (.tmp 0),none⟩,⟨some 19,.mv (.tmp 1),none⟩,⟨some 20,.bin .add (.tmp 19) (.const (.int .i64 1)),none⟩,⟨some 21,.strAt (.tmp 18) (.tmp 20),none⟩,⟨some 22,.build [(.int .i64 0),(.int .u8 0),(.int .u64 0),(.int .u64 0),(.int .u64 0),(.int .u64 0)] [(0,1,(.const (.int .i64 1))),(1,1,.tmp 21)],none⟩,⟨some 23,.mv (.tmp 1),none⟩,⟨some 24,.bin .add (.tmp 23) (.const (.int .i64 2)),none⟩,⟨none,.store (.tmp 4) (.tmp 22) 6,none⟩,⟨some 5,.mv (.tmp 24),none⟩])
 .ret)
 .skip))
 (.seq (.ops [⟨some 26,.eqv false (.scalar .int) (.tmp 10) (.const (.int .u8 63)),none⟩,⟨some 25,.mv (.tmp 26),none⟩])
 (.cond (.tmp 25)
 (.seq (.ops [⟨some 27,.build [(.int .i64 0),(.int .u8 0),(.int .u64 0),(.int .u64 0),(.int .u64 0),(.int .u64 0)] [(0,1,(.const (.int .i64 2)))],none⟩,⟨some 28,.mv (.tmp 1),none⟩,⟨some 29,.bin .add (.tmp 28) (.const (.int .i64 1)),none⟩,⟨none,.store (.tmp 4) (.tmp 27) 6,none⟩,⟨some 5,.mv (.tmp 29),none⟩])
 .ret)
 (.seq (.ops [⟨some 31,.eqv false (.scalar .int) (.tmp 10) (.const (.int .u8 42)),none⟩,⟨some 30,.mv (.tmp 31),none⟩])
 (.cond (.tmp 30)
 (.seq (.ops [⟨some 32,.build [(.int .i64 0),(.int .u8 0),(.int .u64 0),(.int .u64 0),(.int .u64 0),(.int .u64 0)] [(0,1,(.const (.int .i64 3)))],none⟩,⟨some 33,.mv (.tmp 1),none⟩,⟨some 34,.bin .add (.tmp 33) (.const (.int .i64 1)),none⟩,⟨none,.store (.tmp 4) (.tmp 32) 6,none⟩,⟨some 5,.mv (.tmp 34),none⟩])
 .ret)
 (.seq (.ops [⟨some 36,.eqv false (.scalar .int) (.tmp 10) (.const (.int .u8 91)),none⟩,⟨some 35,.mv (.tmp 36),none⟩])
 (.cond (.tmp 35)
 (.seq (.ops [⟨some 38,.mv (.tmp 0),none⟩,⟨some 39,.mv (.tmp 1),none⟩,⟨some 40,.call (.func 170) [.tmp 38,.tmp 39],none⟩,⟨some 37,.mv (.tmp 40),none⟩,⟨some 41,.ext (.tmp 37) 0,none⟩,⟨some 42,.ext (.tmp 37) 1,none⟩,⟨some 6,.new [(.int .u64 0),(.int .u64 0),(.int .u64 0),(.int .u64 0)] 110,none⟩,⟨none,.store (.tmp 6) (.tmp 41) 4,none⟩,⟨some 7,.mv (.tmp 42),none⟩])
 (.seq (.ops [⟨some 43,.mv (.tmp 7),none⟩,⟨some 44,.bin .gtr (.tmp 43) (.const (.int .i64 0)),none⟩])
 (.cond (.tmp 44)
 (.seq (.ops [⟨some 45,.load (.tmp 6) (some 4),none⟩,⟨some 46,.build [(.int .i64 0),(.int .u8 0),(.int .u64 0),(.int .u64 0),(.int .u64 0),(.int .u64 0)] [(0,1,(.const (.int .i64 4))),(2,4,.tmp 45)],none⟩,⟨some 47,.mv (.tmp 7),none⟩,⟨none,.store (.tmp 4) (.tmp 46) 6,none⟩,⟨some 5,.mv (.tmp 47),none⟩])
 .ret)
 .skip)))
 .skip))))))))))
 (.seq (.ops [⟨some 48,.mv (.tmp 0),none⟩,⟨some 49,.mv (.tmp 1),none⟩,⟨some 50,.strAt (.tmp 48) (.tmp 49),none⟩,⟨some 51,.build [(.int .i64 0),(.int .u8 0),(.int .u64 0),(.int .u64 0),(.int .u64 0),(.int .u64 0)] [(0,1,(.const (.int .i64 1))),(1,1,.tmp 50)],none⟩,⟨some 52,.mv (.tmp 1),none⟩,⟨some 53,.bin .add (.tmp 52) (.const (.int .i64 1)),none⟩,⟨none,.store (.tmp 4) (.tmp 51) 6,none⟩,⟨some 5,.mv (.tmp 53),none⟩])
 .ret)))⟩
theorem is124 : Is Proofs.Tryz.prog 6 124 F124 := mkIs Proofs.Tryz.func124 (by kernel_rfl) (by decide) (by kernel_rfl) Proofs.Tryz.ntmps124 (by kernel_rfl)
def F136 : AFunc := ⟨20,[],(.seq (.ops [⟨some 2,.mv (.tmp 0),none⟩,⟨some 3,.nilck (.tmp 2),none⟩,⟨some 4,.faddr (.tmp 3) 0,none⟩,⟨some 5,.load (.tmp 4) none,none⟩,⟨some 6,.eqv false .ptr (.tmp 5) (.const (.pointer none)),none⟩])
 (.cond (.tmp 6)
 (.ops [⟨some 7,.mv (.tmp 0),none⟩,⟨some 8,.mv (.tmp 0),none⟩,⟨some 9,.toU (.tmp 8),none⟩,⟨some 10,.call (.func 176) [.tmp 9],none⟩,⟨some 11,.ofU (.tmp 10) 163 2,none⟩,⟨some 12,.nilck (.tmp 7),none⟩,⟨some 13,.faddr (.tmp 12) 0,none⟩,⟨none,.store (.tmp 13) (.tmp 11) 1,none⟩])
 (.seq (.ops [⟨some 14,.mv (.tmp 0),none⟩,⟨some 15,.nilck (.tmp 14),none⟩,⟨some 16,.faddr (.tmp 15) 0,none⟩,⟨some 17,.load (.tmp 16) none,none⟩,⟨some 18,.mv (.tmp 0),none⟩,⟨some 19,.eqv true .ptr (.tmp 17) (.tmp 18),none⟩])
 (.cond (.tmp 19)
 .bad
 .skip))))⟩
theorem is136 : Is Proofs.Tryz.prog 6 136 F136 := mkIs Proofs.Tryz.func136 (by kernel_rfl) (by decide) (by kernel_rfl) Proofs.Tryz.ntmps136 (by kernel_rfl)
def F137 : AFunc := ⟨48,[.tmp 2],(.seq (.ops [⟨some 2,.mv (.const (.int .i64 0)),none⟩])
 (.seq (.block 0
 (.seq (.seq (.ops [⟨some 4,.mv (.tmp 0),none⟩,⟨some 5,.eqv false (.scalar .int) (.tmp 4) (.const (.int .u8 32)),none⟩,⟨some 3,.mv (.tmp 5),none⟩])
 (.cond (.tmp 3)
 .skip
 (.ops [⟨some 6,.mv (.tmp 0),none⟩,⟨some 7,.eqv false (.scalar .int) (.tmp 6) (.const (.int .u8 9)),none⟩,⟨some 3,.mv (.tmp 7),none⟩])))
 (.cond (.tmp 3)
 (.seq (.ops [⟨some 2,.mv (.const (.int .i64 1)),none⟩])
 .ret)
 (.seq (.ops [⟨some 9,.mv (.tmp 0),none⟩,⟨some 10,.eqv false (.scalar .int) (.tmp 9) (.const (.int .u8 10)),none⟩,⟨some 8,.mv (.tmp 10),none⟩])
 (.cond (.tmp 8)
 (.seq (.ops [⟨some 2,.mv (.const (.int .i64 2)),none⟩])
 .ret)
 (.seq (.ops [⟨some 12,.mv (.tmp 0),none⟩,⟨some 13,.bin .geq (.tmp 12) (.const (.int .u8 48)),none⟩,⟨some 14,.mv (.tmp 13),none⟩,⟨some 15,.mv (.tmp 0),(some (14,true))⟩,⟨some 16,.bin .leq (.tmp 15) (.const (.int .u8 57)),(some (14,true))⟩,⟨some 17,.pick (.tmp 14) (.tmp 16) (.const (.bool false)),none⟩,⟨some 11,.mv (.tmp 17),none⟩])
 (.cond (.tmp 11)
 (.seq (.ops [⟨some 2,.mv (.const (.int .i64 6)),none⟩])
 .ret)
 (.seq (.seq (.ops [⟨some 19,.mv (.tmp 0),none⟩,⟨some 20,.bin .geq (.tmp 19) (.const (.int .u8 97)),none⟩,⟨some 21,.mv (.tmp 20),none⟩,⟨some 22,.mv (.tmp 0),(some (21,true))⟩,⟨some 23,.bin .leq (.tmp 22) (.const (.int .u8 122)),(some (21,true))⟩,⟨some 24,.pick (.tmp 21) (.tmp 23) (.const (.bool false)),none⟩,⟨some 18,.mv (.tmp 24),none⟩])
 (.cond (.tmp 18)
 .skip
 (.seq (.ops [⟨some 25,.mv (.tmp 0),none⟩,⟨some 26,.bin .geq (.tmp 25) (.const (.int .u8 65)),none⟩,⟨some 27,.mv (.tmp 26),none⟩,⟨some 28,.mv (.tmp 0),(some (27,true))⟩,⟨some 29,.bin .leq (.tmp 28) (.const (.int .u8 90)),(some (27,true))⟩,⟨some 30,.pick (.tmp 27) (.tmp 29) (.const (.bool false)),none⟩,⟨some 18,.mv (.tmp 30),none⟩])
 (.cond (.tmp 18)
 .skip
 (.ops [⟨some 31,.mv (.tmp 0),none⟩,⟨some 32,.eqv false (.scalar .int) (.tmp 31) (.const (.int .u8 95)),none⟩,⟨some 18,.mv (.tmp 32),none⟩])))))
 (.cond (.tmp 18)
 (.seq (.ops [⟨some 2,.mv (.const (.int .i64 5)),none⟩])
 .ret)
 .skip)))))))))
 (.seq (.seq (.ops [⟨some 33,.mv (.tmp 0),none⟩])
 (.block 1
 (.seq (.seq (.ops [⟨some 35,.eqv false (.scalar .int) (.tmp 33) (.const (.int .u8 124)),none⟩,⟨some 34,.mv (.tmp 35),none⟩])
 (.cond (.tmp 34)
 .skip
 (.seq (.ops [⟨some 36,.eqv false (.scalar .int) (.tmp 33) (.const (.int .u8 38)),none⟩,⟨some 34,.mv (.tmp 36),none⟩])
 (.cond (.tmp 34)
 .skip
 (.seq (.ops [⟨some 37,.eqv false (.scalar .int) (.tmp 33) (.const (.int .u8 59)),none⟩,⟨some 34,.mv (.tmp 37),none⟩])
 (.cond (.tmp 34)
 .skip
 (.seq (.ops [⟨some 38,.eqv false (.scalar .int) (.tmp 33) (.const (.int .u8 60)),none⟩,⟨some 34,.mv (.tmp 38),none⟩])
 (.cond (.tmp 34)
 .skip
 (.seq (.ops [⟨some 39,.eqv false (.scalar .int) (.tmp 33) (.const (.int .u8 62)),none⟩,⟨some 34,.mv (.tmp 39),none⟩])
 (.cond (.tmp 34)
 .skip
 (.seq (.ops [⟨some 40,.eqv false (.scalar .int) (.tmp 33) (.const (.int .u8 40)),none⟩,⟨some 34,.mv (.tmp 40),none⟩])
 (.cond (.tmp 34)
 .skip
 (.ops [⟨some 41,.eqv false (.scalar .int) (.tmp 33) (.const (.int .u8 41)),none⟩,⟨some 34,.mv (.tmp 41),none⟩])))))))))))))
 (.cond (.tmp 34)
 (.seq (.ops [⟨some 2,.mv (.const (.int .i64 3)),none⟩])
 .ret)
 (.seq (.seq (.ops [⟨some 43,.eqv false (.scalar .int) (.tmp 33) (.const (.int .u8 92)),none⟩,⟨some 42,.mv (.tmp 43),none⟩])
 (.cond (.tmp 42)
 .skip
 (.seq (.ops [⟨some 44,.eqv false (.scalar .int) (.tmp 33) (.const (.int .u8 39)),none⟩,⟨some 42,.mv (.tmp 44),none⟩])
 (.cond (.tmp 42)
 .skip
 (.seq (.ops [⟨some 45,.eqv false (.scalar .int) (.tmp 33) (.const (.int .u8 34)),none⟩,⟨some 42,.mv (.tmp 45),none⟩])
 (.cond (.tmp 42)
 .skip
 (.seq (.ops [⟨some 46,.eqv false (.scalar .int) (.tmp 33) (.const (.int .u8 96)),none⟩,⟨some 42,.mv (.tmp 46),none⟩])
 (.cond (.tmp 42)
 .skip
 (.ops [⟨some 47,.eqv false (.scalar .int) (.tmp 33) (.const (.int .u8 36)),none⟩,⟨some 42,.mv (.tmp 47),none⟩])))))))))
 (.cond (.tmp 42)
 (.seq (.ops [⟨some 2,.mv (.const (.int .i64 4)),none⟩])
 .ret)
 .skip))))))
 (.seq (.ops [⟨some 2,.mv (.const (.int .i64 0)),none⟩])
 .ret))))⟩
theorem is137 : Is Proofs.Tryz.prog 6 137 F137 := mkIs Proofs.Tryz.func137 (by kernel_rfl) (by decide) (by kernel_rfl) Proofs.Tryz.ntmps137 (by kernel_rfl)
def F138 : AFunc := ⟨21,[.tmp 2],(.seq (.ops [⟨some 2,.mv (.const (.bool false)),none⟩])
 (.seq (.seq (.ops [⟨some 3,.mv (.tmp 0),none⟩])
 (.block 0
 (.seq (.seq (.ops [⟨some 5,.eqv false (.scalar .str) (.tmp 3) (.const (.string ⟨#[33]⟩)),none⟩,⟨some 4,.mv (.tmp 5),none⟩])
 (.cond (.tmp 4)
 .skip
 (.seq (.ops [⟨some 6,.eqv false (.scalar .str) (.tmp 3) (.const (.string ⟨#[123]⟩)),none⟩,⟨some 4,.mv (.tmp 6),none⟩])
 (.cond (.tmp 4)
 .skip
 (.seq (.ops [⟨some 7,.eqv false (.scalar .str) (.tmp 3) (.const (.string ⟨#[125]⟩)),none⟩,⟨some 4,.mv (.tmp 7),none⟩])
 (.cond (.tmp 4)
 .skip
 (.seq (.ops [⟨some 8,.eqv false (.scalar .str) (.tmp 3) (.const (.string ⟨#[99,97,115,101]⟩)),none⟩,⟨some 4,.mv (.tmp 8),none⟩])
 (.cond (.tmp 4)
 .skip
 (.seq (.ops [⟨some 9,.eqv false (.scalar .str) (.tmp 3) (.const (.string ⟨#[100,111]⟩)),none⟩,⟨some 4,.mv (.tmp 9),none⟩])
 (.cond (.tmp 4)
 .skip
 (.seq (.ops [⟨some 10,.eqv false (.scalar .str) (.tmp 3) (.const (.string ⟨#[100,111,110,101]⟩)),none⟩,⟨some 4,.mv (.tmp 10),none⟩])
 (.cond (.tmp 4)
 .skip
 (.seq (.ops [⟨some 11,.eqv false (.scalar .str) (.tmp 3) (.const (.string ⟨#[101,108,105,102]⟩)),none⟩,⟨some 4,.mv (.tmp 11),none⟩])
 (.cond (.tmp 4)
 .skip
 (.seq (.ops [⟨some 12,.eqv false (.scalar .str) (.tmp 3) (.const (.string ⟨#[101,108,115,101]⟩)),none⟩,⟨some 4,.mv (.tmp 12),none⟩])
 (.cond (.tmp 4)
 .skip
 (.seq (.ops [⟨some 13,.eqv false (.scalar .str) (.tmp 3) (.const (.string ⟨#[101,115,97,99]⟩)),none⟩,⟨some 4,.mv (.tmp 13),none⟩])
 (.cond (.tmp 4)
 .skip
 (.seq (.ops [⟨some 14,.eqv false (.scalar .str) (.tmp 3) (.const (.string ⟨#[102,105]⟩)),none⟩,⟨some 4,.mv (.tmp 14),none⟩])
 (.cond (.tmp 4)
 .skip
 (.seq (.ops [⟨some 15,.eqv false (.scalar .str) (.tmp 3) (.const (.string ⟨#[102,111,114]⟩)),none⟩,⟨some 4,.mv (.tmp 15),none⟩])
 (.cond (.tmp 4)
 .skip
 (.seq (.ops [⟨some 16,.eqv false (.scalar .str) (.tmp 3) (.const (.string ⟨#[105,102]⟩)),none⟩,⟨some 4,.mv (.tmp 16),none⟩])
 (.cond (.tmp 4)
 .skip
 (.seq (.ops [⟨some 17,.eqv false (.scalar .str) (.tmp 3) (.const (.string ⟨#[105,110]⟩)),none⟩,⟨some 4,.mv (.tmp 17),none⟩])
 (.cond (.tmp 4)
 .skip
 (.seq (.ops [⟨some 18,.eqv false (.scalar .str) (.tmp 3) (.const (.string ⟨#[116,104,101,110]⟩)),none⟩,⟨some 4,.mv (.tmp 18),none⟩])
 (.cond (.tmp 4)
 .skip
 (.seq (.ops [⟨some 19,.eqv false (.scalar .str) (.tmp 3) (.const (.string ⟨#[117,110,116,105,108]⟩)),none⟩,⟨some 4,.mv (.tmp 19),none⟩])
 (.cond (.tmp 4)
 .skip
 (.ops [⟨some 20,.eqv false (.scalar .str) (.tmp 3) (.const (.string ⟨#[119,104,105,108,101]⟩)),none⟩,⟨some 4,.mv (.tmp 20),none⟩])))))))))))))))))))))))))))))))
 (.cond (.tmp 4)
 (.seq (.ops [⟨some 2,.mv (.const (.bool true)),none⟩])
 .ret)
 .skip))))
 (.seq (.ops [⟨some 2,.mv (.const (.bool false)),none⟩])
 .ret)))⟩
theorem is138 : Is Proofs.Tryz.prog 6 138 F138 := mkIs Proofs.Tryz.func138 (by kernel_rfl) (by decide) (by kernel_rfl) Proofs.Tryz.ntmps138 (by kernel_rfl)
def F139 : AFunc := ⟨8,[.tmp 4],(.seq (.ops [⟨some 4,.mv (.const (.int .i64 0)),none⟩])
 (.seq (.ops [⟨some 5,.mv (.tmp 0),none⟩,⟨some 6,.mv (.tmp 1),none⟩,⟨some 7,.call (.func 177) [.tmp 5,.tmp 6,(.func 178)],none⟩,⟨some 4,.mv (.tmp 7),none⟩])
 .ret))⟩
theorem is139 : Is Proofs.Tryz.prog 6 139 F139 := mkIs Proofs.Tryz.func139 (by kernel_rfl) (by decide) (by kernel_rfl) Proofs.Tryz.ntmps139 (by kernel_rfl)
def F140 : AFunc := ⟨104,[.tmp 8],(.seq (.ops [⟨some 8,.mv (.const (.string ⟨#[]⟩)),none⟩])
 (.seq (.seq (.ops [⟨some 16,.mv (.tmp 1),none⟩,⟨some 17,.mv (.tmp 2),none⟩,⟨some 18,.eqv false (.scalar .str) (.tmp 16) (.tmp 17),none⟩,⟨some 19,.mv (.tmp 18),none⟩,⟨some 20,.mv (.tmp 3),(some (19,false))⟩,⟨some 21,.eqv false (.scalar .int) (.tmp 20) (.const (.int .i64 0)),(some (19,false))⟩,⟨some 22,.pick (.tmp 19) (.const (.bool true)) (.tmp 21),none⟩])
 (.cond (.tmp 22)
 (.seq (.ops [⟨some 23,.mv (.tmp 0),none⟩,⟨some 8,.mv (.tmp 23),none⟩])
 .ret)
 .skip))
 (.seq (.seq (.ops [⟨some 24,.mv (.tmp 0),none⟩,⟨some 25,.mv (.tmp 1),none⟩,⟨some 26,.call (.func 179) [.tmp 24,.tmp 25],none⟩,⟨some 9,.mv (.tmp 26),none⟩])
 (.seq (.ops [⟨some 27,.mv (.tmp 9),none⟩,⟨some 28,.eqv false (.scalar .int) (.tmp 27) (.const (.int .i64 0)),none⟩])
 (.cond (.tmp 28)
 (.seq (.ops [⟨some 29,.mv (.tmp 0),none⟩,⟨some 8,.mv (.tmp 29),none⟩])
 .ret)
 (.seq (.ops [⟨some 30,.mv (.tmp 3),none⟩,⟨some 31,.bin .lss (.tmp 30) (.const (.int .i64 0)),none⟩,⟨some 32,.mv (.tmp 31),none⟩,⟨some 33,.mv (.tmp 9),(some (32,false))⟩,⟨some 34,.mv (.tmp 3),(some (32,false))⟩,⟨some 35,.bin .lss (.tmp 33) (.tmp 34),(some (32,false))⟩,⟨some 36,.pick (.tmp 32) (.const (.bool true)) (.tmp 35),none⟩])
 (.cond (.tmp 36)
 (.ops [⟨some 37,.mv (.tmp 9),none⟩,⟨some 3,.mv (.tmp 37),none⟩])
 .skip)))))
 (.seq (.ops [⟨some 10,.new [(.pointer none),(.slice none 0 0)] 163,none⟩])
 (.seq (.ops [⟨some 38,.mv (.tmp 0),none⟩,⟨some 39,.lenS (.tmp 38),none⟩,⟨some 40,.mv (.tmp 3),none⟩,⟨some 41,.mv (.tmp 2),none⟩,⟨some 42,.lenS (.tmp 41),none⟩,⟨some 43,.mv (.tmp 1),none⟩,⟨some 44,.lenS (.tmp 43),none⟩,⟨some 45,.bin .sub (.tmp 42) (.tmp 44),none⟩,⟨some 46,.bin .mul (.tmp 40) (.tmp 45),none⟩,⟨some 47,.bin .add (.tmp 39) (.tmp 46),none⟩,⟨some 48,.call (.func 112) [.tmp 10,.tmp 47],none⟩])
 (.seq (.ops [⟨some 11,.mv (.const (.int .i64 0)),none⟩])
 (.seq (.seq (.ops [⟨some 49,.mv (.tmp 1),none⟩,⟨some 50,.lenS (.tmp 49),none⟩,⟨some 51,.bin .gtr (.tmp 50) (.const (.int .i64 0)),none⟩])
 (.cond (.tmp 51)
 (.seq (.ops [⟨some 52,.mv (.tmp 3),none⟩,⟨some 53,.mv (.const (.int .i64 0)),none⟩])
 (.block 0
 (.loop
 (.seq (.ops [⟨some 54,.bin .lss (.tmp 53) (.tmp 52),none⟩])
 (.seq (.cond (.tmp 54)
 .skip
 (.exit 0))
 (.seq (.block 1
 (.seq (.ops [⟨some 55,.mv (.tmp 11),none⟩,⟨some 56,.mv (.tmp 0),none⟩,⟨some 57,.mv (.tmp 11),none⟩,⟨some 58,.slStr (.tmp 56) (some (.tmp 57)) none,none⟩,⟨some 59,.mv (.tmp 1),none⟩,⟨some 60,.call (.func 180) [.tmp 58,.tmp 59],none⟩,⟨some 61,.bin .add (.tmp 55) (.tmp 60),none⟩,⟨some 12,.mv (.tmp 61),none⟩])
 (.seq (.ops [⟨some 62,.mv (.tmp 0),none⟩,⟨some 63,.mv (.tmp 11),none⟩,⟨some 64,.mv (.tmp 12),none⟩,⟨some 65,.slStr (.tmp 62) (some (.tmp 63)) (some (.tmp 64)),none⟩,⟨some 66,.call (.func 95) [.tmp 10,.tmp 65],none⟩])
 (.seq (.ops [⟨some 67,.mv (.tmp 2),none⟩,⟨some 68,.call (.func 95) [.tmp 10,.tmp 67],none⟩])
 (.ops [⟨some 69,.mv (.tmp 12),none⟩,⟨some 70,.mv (.tmp 1),none⟩,⟨some 71,.lenS (.tmp 70),none⟩,⟨some 72,.bin .add (.tmp 69) (.tmp 71),none⟩,⟨some 11,.mv (.tmp 72),none⟩])))))
 (.ops [⟨some 73,.bin .add (.tmp 53) (.const (.int .i64 1)),none⟩,⟨some 53,.mv (.tmp 73),none⟩])))))))
 (.seq (.ops [⟨some 74,.mv (.tmp 2),none⟩,⟨some 75,.call (.func 95) [.tmp 10,.tmp 74],none⟩])
 (.seq (.ops [⟨some 76,.mv (.tmp 3),none⟩,⟨some 77,.bin .sub (.tmp 76) (.const (.int .i64 1)),none⟩,⟨some 78,.mv (.const (.int .i64 0)),none⟩])
 (.block 2
 (.loop
 (.seq (.ops [⟨some 79,.bin .lss (.tmp 78) (.tmp 77),none⟩])
 (.seq (.cond (.tmp 79)
 .skip
 (.exit 2))
 (.seq (.block 3
 (.seq (.ops [⟨some 81,.mv (.tmp 0),none⟩,⟨some 82,.mv (.tmp 11),none⟩,⟨some 83,.slStr (.tmp 81) (some (.tmp 82)) none,none⟩,⟨some 84,.call (.func 181) [.tmp 83],none⟩,⟨some 80,.mv (.tmp 84),none⟩,⟨some 85,.ext (.tmp 80) 0,none⟩,⟨some 86,.ext (.tmp 80) 1,none⟩,⟨some 13,.mv (.tmp 85),none⟩,⟨some 14,.mv (.tmp 86),none⟩])
 (.seq (.ops [⟨some 87,.mv (.tmp 11),none⟩,⟨some 88,.mv (.tmp 14),none⟩,⟨some 89,.bin .add (.tmp 87) (.tmp 88),none⟩,⟨some 15,.mv (.tmp 89),none⟩])
 (.seq (.ops [⟨some 90,.mv (.tmp 0),none⟩,⟨some 91,.mv (.tmp 11),none⟩,⟨some 92,.mv (.tmp 15),none⟩,⟨some 93,.slStr (.tmp 90) (some (.tmp 91)) (some (.tmp 92)),none⟩,⟨some 94,.call (.func 95) [.tmp 10,.tmp 93],none⟩])
 (.seq (.ops [⟨some 95,.mv (.tmp 2),none⟩,⟨some 96,.call (.func 95) [.tmp 10,.tmp 95],none⟩])
 (.ops [⟨some 97,.mv (.tmp 15),none⟩,⟨some 11,.mv (.tmp 97),none⟩]))))))
 (.ops [⟨some 98,.bin .add (.tmp 78) (.const (.int .i64 1)),none⟩,⟨some 78,.mv (.tmp 98),none⟩]))))))))))
 (.seq (.ops [⟨some 99,.mv (.tmp 0),none⟩,⟨some 100,.mv (.tmp 11),none⟩,⟨some 101,.slStr (.tmp 99) (some (.tmp 100)) none,none⟩,⟨some 102,.call (.func 95) [.tmp 10,.tmp 101],none⟩])
 (.seq (.ops [⟨some 103,.call (.func 99) [.tmp 10],none⟩,⟨some 8,.mv (.tmp 103),none⟩])
 .ret)))))))))⟩
theorem is140 : Is Proofs.Tryz.prog 6 140 F140 := mkIs Proofs.Tryz.func140 (by kernel_rfl) (by decide) (by kernel_rfl) Proofs.Tryz.ntmps140 (by kernel_rfl)
def F141 : AFunc := ⟨19,[.tmp 4],(.seq (.ops [⟨some 4,.mv (.const (.int .i64 0)),none⟩])
 (.seq (.seq (.ops [⟨some 6,.mv (.tmp 0),none⟩,⟨some 7,.lenS (.tmp 6),none⟩,⟨some 8,.bin .sub (.tmp 7) (.const (.int .i64 1)),none⟩,⟨some 5,.mv (.tmp 8),none⟩])
 (.block 0
 (.loop
 (.seq (.seq (.ops [⟨some 9,.mv (.tmp 5),none⟩,⟨some 10,.bin .geq (.tmp 9) (.const (.int .i64 0)),none⟩])
 (.cond (.tmp 10)
 .skip
 (.exit 0)))
 (.seq (.block 1
 (.seq (.ops [⟨some 13,.mv (.tmp 0),none⟩,⟨some 14,.mv (.tmp 5),none⟩,⟨some 15,.strAt (.tmp 13) (.tmp 14),none⟩,⟨some 16,.mv (.tmp 1),none⟩,⟨some 17,.eqv false (.scalar .int) (.tmp 15) (.tmp 16),none⟩])
 (.cond (.tmp 17)
 (.seq (.ops [⟨some 18,.mv (.tmp 5),none⟩,⟨some 4,.mv (.tmp 18),none⟩])
 .ret)
 .skip)))
 (.ops [⟨some 11,.mv (.tmp 5),none⟩,⟨some 12,.bin .sub (.tmp 11) (.const (.int .i64 1)),none⟩,⟨some 5,.mv (.tmp 12),none⟩]))))))
 (.seq (.ops [⟨some 4,.mv (.const (.int .i64 (-1))),none⟩])
 .ret)))⟩
theorem is141 : Is Proofs.Tryz.prog 6 141 F141 := mkIs Proofs.Tryz.func141 (by kernel_rfl) (by decide) (by kernel_rfl) Proofs.Tryz.ntmps141 (by kernel_rfl)
def F142 : AFunc := ⟨49,[],(.seq (.ops [⟨some 8,.mv (.tmp 1),none⟩,⟨some 9,.bin .add (.tmp 8) (.const (.int .i64 1)),none⟩,⟨some 6,.mv (.tmp 9),none⟩])
 (.block 0
 (.loop
 (.seq (.seq (.ops [⟨some 10,.mv (.tmp 6),none⟩,⟨some 11,.mv (.tmp 2),none⟩,⟨some 12,.bin .lss (.tmp 10) (.tmp 11),none⟩])
 (.cond (.tmp 12)
 .skip
 (.exit 0)))
 (.seq (.block 1
 (.seq (.ops [⟨some 15,.mv (.tmp 6),none⟩,⟨some 7,.mv (.tmp 15),none⟩])
 (.block 2
 (.loop
 (.seq (.seq (.draw 0 [.run ⟨some 16,.mv (.tmp 7),none⟩,.run ⟨some 17,.mv (.tmp 1),none⟩,.run ⟨some 18,.bin .gtr (.tmp 16) (.tmp 17),none⟩,.run ⟨some 19,.mv (.tmp 18),none⟩,.run ⟨some 20,.mv (.tmp 0),(some (19,true))⟩,.run ⟨some 21,.mv (.tmp 7),(some (19,true))⟩,.run ⟨some 22,.idx (.tmp 20) (.tmp 21) 1,(some (19,true))⟩,.run ⟨some 24,.mv (.tmp 0),(some (19,true))⟩,.run ⟨some 25,.mv (.tmp 7),(some (19,true))⟩,.run ⟨some 26,.bin .sub (.tmp 25) (.const (.int .i64 1)),(some (19,true))⟩,.run ⟨some 27,.idx (.tmp 24) (.tmp 26) 1,(some (19,true))⟩,.run ⟨some 23,.load (.tmp 22) none,(some (19,true))⟩,.run ⟨some 28,.load (.tmp 27) none,(some (19,true))⟩,.run ⟨some 29,.call (.func 148) [.tmp 23,.tmp 28],(some (19,true))⟩,.run ⟨some 30,.pick (.tmp 19) (.tmp 29) (.const (.bool false)),none⟩])
 (.cond (.tmp 30)
 .skip
 (.exit 2)))
 (.seq (.block 3
 (.draw 0 [.run ⟨some 33,.mv (.tmp 0),none⟩,.run ⟨some 34,.mv (.tmp 7),none⟩,.run ⟨some 35,.mv (.tmp 0),none⟩,.run ⟨some 36,.mv (.tmp 7),none⟩,.run ⟨some 37,.bin .sub (.tmp 36) (.const (.int .i64 1)),none⟩,.run ⟨some 38,.mv (.tmp 0),none⟩,.run ⟨some 39,.mv (.tmp 7),none⟩,.run ⟨some 40,.bin .sub (.tmp 39) (.const (.int .i64 1)),none⟩,.run ⟨some 41,.idx (.tmp 38) (.tmp 40) 1,none⟩,.run ⟨some 43,.mv (.tmp 0),none⟩,.run ⟨some 44,.mv (.tmp 7),none⟩,.run ⟨some 45,.idx (.tmp 43) (.tmp 44) 1,none⟩,.run ⟨some 42,.load (.tmp 41) none,none⟩,.run ⟨some 46,.load (.tmp 45) none,none⟩,.run ⟨some 47,.idx (.tmp 33) (.tmp 34) 1,none⟩,.run ⟨none,.store (.tmp 47) (.tmp 42) 1,none⟩,.run ⟨some 48,.idx (.tmp 35) (.tmp 37) 1,none⟩,.run ⟨none,.store (.tmp 48) (.tmp 46) 1,none⟩]))
 (.ops [⟨some 31,.mv (.tmp 7),none⟩,⟨some 32,.bin .sub (.tmp 31) (.const (.int .i64 1)),none⟩,⟨some 7,.mv (.tmp 32),none⟩])))))))
 (.ops [⟨some 13,.mv (.tmp 6),none⟩,⟨some 14,.bin .add (.tmp 13) (.const (.int .i64 1)),none⟩,⟨some 6,.mv (.tmp 14),none⟩]))))))⟩
theorem is142 : Is Proofs.Tryz.prog 6 142 F142 := mkIs Proofs.Tryz.func142 (by kernel_rfl) (by decide) (by kernel_rfl) Proofs.Tryz.ntmps142 (by kernel_rfl)
def F148 : AFunc := ⟨17,[.tmp 4],(.seq (.ops [⟨some 4,.mv (.const (.bool false)),none⟩])
 (.seq (.ops [⟨some 5,.mv (.tmp 0),none⟩,⟨some 6,.call (.func 187) [.tmp 5],none⟩,⟨some 7,.mv (.tmp 6),none⟩,⟨some 8,.mv (.tmp 1),(some (7,true))⟩,⟨some 9,.call (.func 187) [.tmp 8],(some (7,true))⟩,⟨some 10,.un .not (.tmp 9),(some (7,true))⟩,⟨some 11,.pick (.tmp 7) (.tmp 10) (.const (.bool false)),none⟩,⟨some 12,.mv (.tmp 11),none⟩,⟨some 13,.mv (.tmp 0),(some (12,false))⟩,⟨some 14,.mv (.tmp 1),(some (12,false))⟩,⟨some 15,.bin .lss (.tmp 13) (.tmp 14),(some (12,false))⟩,⟨some 16,.pick (.tmp 12) (.const (.bool true)) (.tmp 15),none⟩,⟨some 4,.mv (.tmp 16),none⟩])
 .ret))⟩
theorem is148 : Is Proofs.Tryz.prog 6 148 F148 := mkIs Proofs.Tryz.func148 (by kernel_rfl) (by decide) (by kernel_rfl) Proofs.Tryz.ntmps148 (by kernel_rfl)
def F152 : AFunc := ⟨25,[.tmp 2],(.seq (.ops [⟨some 2,.mv (.const (.int .i64 0)),none⟩])
 (.seq (.seq (.ops [⟨some 3,.mv (.tmp 0),none⟩,⟨some 4,.bin .geq (.tmp 3) (.const (.int .u64 4294967296)),none⟩])
 (.cond (.tmp 4)
 (.seq (.ops [⟨some 5,.mv (.tmp 0),none⟩,⟨some 6,.bin .shr (.tmp 5) (.const (.int .u64 32)),none⟩,⟨some 0,.mv (.tmp 6),none⟩])
 (.ops [⟨some 2,.mv (.const (.int .i64 32)),none⟩]))
 .skip))
 (.seq (.seq (.ops [⟨some 7,.mv (.tmp 0),none⟩,⟨some 8,.bin .geq (.tmp 7) (.const (.int .u64 65536)),none⟩])
 (.cond (.tmp 8)
 (.seq (.ops [⟨some 9,.mv (.tmp 0),none⟩,⟨some 10,.bin .shr (.tmp 9) (.const (.int .u64 16)),none⟩,⟨some 0,.mv (.tmp 10),none⟩])
 (.ops [⟨some 11,.mv (.tmp 2),none⟩,⟨some 12,.bin .add (.tmp 11) (.const (.int .i64 16)),none⟩,⟨some 2,.mv (.tmp 12),none⟩]))
 .skip))
 (.seq (.seq (.ops [⟨some 13,.mv (.tmp 0),none⟩,⟨some 14,.bin .geq (.tmp 13) (.const (.int .u64 256)),none⟩])
 (.cond (.tmp 14)
 (.seq (.ops [⟨some 15,.mv (.tmp 0),none⟩,⟨some 16,.bin .shr (.tmp 15) (.const (.int .u64 8)),none⟩,⟨some 0,.mv (.tmp 16),none⟩])
 (.ops [⟨some 17,.mv (.tmp 2),none⟩,⟨some 18,.bin .add (.tmp 17) (.const (.int .i64 8)),none⟩,⟨some 2,.mv (.tmp 18),none⟩]))
 .skip))
 (.seq (.ops [⟨some 19,.mv (.tmp 2),none⟩,⟨some 20,.mv (.tmp 0),none⟩,⟨some 21,.conv .u8 (.tmp 20),none⟩,⟨some 22,.strAt (.const (.string ⟨#[0,1,2,2,3,3,3,3,4,4,4,4,4,4,4,4,5,5,5,5,5,5,5,5,5,5,5,5,5,5,5,5,6,6,6,6,6,6,6,6,6,6,6,6,6,6,6,6,6,6,6,6,6,6,6,6,6,6,6,6,6,6,6,6,7,7,7,7,7,7,7,7,7,7,7,7,7,7,7,7,7,7,7,7,7,7,7,7,7,7,7,7,7,7,7,7,7,7,7,7,7,7,7,7,7,7,7,7,7,7,7,7,7,7,7,7,7,7,7,7,7,7,7,7,7,7,7,7,8,8,8,8,8,8,8,8,8,8,8,8,8,8,8,8,8,8,8,8,8,8,8,8,8,8,8,8,8,8,8,8,8,8,8,8,8,8,8,8,8,8,8,8,8,8,8,8,8,8,8,8,8,8,8,8,8,8,8,8,8,8,8,8,8,8,8,8,8,8,8,8,8,8,8,8,8,8,8,8,8,8,8,8,8,8,8,8,8,8,8,8,8,8,8,8,8,8,8,8,8,8,8,8,8,8,8,8,8,8,8,8,8,8,8,8,8,8,8,8,8,8,8,8,8,8,8,8]⟩)) (.tmp 21),none⟩,⟨some 23,.conv .i64 (.tmp 22),none⟩,⟨some 24,.bin .add (.tmp 19) (.tmp 23),none⟩,⟨some 2,.mv (.tmp 24),none⟩])
 .ret)))))⟩
theorem is152 : Is Proofs.Tryz.prog 6 152 F152 := mkIs Proofs.Tryz.func152 (by kernel_rfl) (by decide) (by kernel_rfl) Proofs.Tryz.ntmps152 (by kernel_rfl)
def F153 : AFunc := ⟨59,[],(.seq (.seq (.ops [⟨some 12,.load (.tmp 1) none,none⟩,⟨some 13,.call (.func 48) [.tmp 12],none⟩,⟨some 11,.mv (.tmp 13),none⟩,⟨some 14,.ext (.tmp 11) 0,none⟩,⟨some 15,.ext (.tmp 11) 1,none⟩,⟨some 5,.mv (.tmp 14),none⟩,⟨some 6,.mv (.tmp 15),none⟩])
 (.seq (.ops [⟨some 16,.mv (.tmp 6),none⟩])
 (.cond (.tmp 16)
 (.seq (.ops [⟨some 17,.mv (.tmp 0),none⟩,⟨some 18,.mv (.tmp 5),none⟩,⟨some 19,.load (.tmp 2) none,none⟩,⟨some 20,.mv (.tmp 5),none⟩,⟨some 21,.call (.func 45) [.tmp 19,.tmp 20],none⟩,⟨some 22,.call (.tmp 17) [.tmp 18,.tmp 21],none⟩])
 .ret)
 .skip)))
 (.seq (.draw 0 [.run ⟨some 24,.load (.tmp 3) none,none⟩,.run ⟨some 25,.nilck (.tmp 24),none⟩,.run ⟨some 26,.faddr (.tmp 25) 0,none⟩,.run ⟨some 27,.load (.tmp 26) none,none⟩,.run ⟨some 28,.load (.tmp 2) none,none⟩,.run ⟨some 29,.call (.func 154) [.tmp 27,.tmp 28],none⟩,.run ⟨some 23,.mv (.tmp 29),none⟩,.run ⟨some 30,.ext (.tmp 23) 0,none⟩,.run ⟨some 31,.ext (.tmp 23) 1,none⟩,.run ⟨some 7,.mv (.tmp 30),none⟩,.run ⟨some 8,.mv (.tmp 31),none⟩])
 (.seq .skip
 (.seq (.ops [⟨some 32,.mv (.tmp 7),none⟩,⟨some 33,.lenL (.tmp 32),none⟩,⟨some 34,.mv (.const (.int .i64 0)),none⟩])
 (.block 0
 (.loop
 (.seq (.ops [⟨some 35,.bin .lss (.tmp 34) (.tmp 33),none⟩])
 (.seq (.cond (.tmp 35)
 .skip
 (.exit 0))
 (.seq (.block 1
 (.seq (.ops [⟨some 36,.idx (.tmp 32) (.tmp 34) 1,none⟩,⟨some 37,.load (.tmp 36) none,none⟩,⟨some 10,.mv (.tmp 37),none⟩])
 (.seq (.seq (.ops [⟨some 38,.mv (.tmp 10),none⟩,⟨some 39,.call (.func 70) [.tmp 38,(.const (.string ⟨#[46]⟩))],none⟩,⟨some 40,.mv (.tmp 39),none⟩,⟨some 41,.load (.tmp 1) none,(some (40,true))⟩,⟨some 42,.strAt (.tmp 41) (.const (.int .i64 0)),(some (40,true))⟩,⟨some 43,.eqv true (.scalar .int) (.tmp 42) (.const (.int .u8 46)),(some (40,true))⟩,⟨some 44,.pick (.tmp 40) (.tmp 43) (.const (.bool false)),none⟩,⟨some 45,.mv (.tmp 44),none⟩,⟨some 46,.load (.tmp 1) none,(some (45,false))⟩,⟨some 47,.mv (.tmp 10),(some (45,false))⟩,⟨some 48,.call (.func 155) [.tmp 46,.tmp 47],(some (45,false))⟩,⟨some 49,.un .not (.tmp 48),(some (45,false))⟩,⟨some 50,.pick (.tmp 45) (.const (.bool true)) (.tmp 49),none⟩])
 (.cond (.tmp 50)
 (.exit 1)
 .skip))
 (.seq (.ops [⟨some 51,.mv (.tmp 0),none⟩,⟨some 52,.mv (.tmp 10),none⟩,⟨some 53,.load (.tmp 2) none,none⟩,⟨some 54,.mv (.tmp 10),none⟩,⟨some 55,.call (.func 45) [.tmp 53,.tmp 54],none⟩,⟨some 56,.call (.tmp 51) [.tmp 52,.tmp 55],none⟩,⟨some 57,.un .not (.tmp 56),none⟩])
 (.cond (.tmp 57)
 .ret
 .skip)))))
 (.ops [⟨some 58,.bin .add (.tmp 34) (.const (.int .i64 1)),none⟩,⟨some 34,.mv (.tmp 58),none⟩]))))))))))⟩
theorem is153 : Is Proofs.Tryz.prog 6 153 F153 := mkIs Proofs.Tryz.func153 (by kernel_rfl) (by decide) (by kernel_rfl) Proofs.Tryz.ntmps153 (by kernel_rfl)
def F154 : AFunc := ⟨24,[.tmp 4,.tmp 5],(.seq (.ops [⟨some 4,.mv (.const (.slice none 0 0)),none⟩,⟨some 5,.mv (.const (.int .i64 0)),none⟩])
 (.seq (.seq (.ops [⟨some 7,.mv (.tmp 1),none⟩,⟨some 8,.call (.func 61) [.tmp 7],none⟩,⟨some 9,.un .not (.tmp 8),none⟩])
 (.cond (.tmp 9)
 (.seq (.ops [⟨some 4,.mv (.const (.slice none 0 0)),none⟩,⟨some 5,.mv (.const (.int .i64 10)),none⟩])
 .ret)
 .skip))
 (.seq (.ops [⟨some 10,.mv (.tmp 0),none⟩,⟨some 11,.mv (.tmp 1),none⟩,⟨some 12,.call (.func 62) [.tmp 10,.tmp 11],none⟩,⟨some 6,.mv (.tmp 12),none⟩])
 (.seq (.block 0
 (.seq (.ops [⟨some 14,.mv (.tmp 6),none⟩,⟨some 15,.eqv false .ptr (.tmp 14) (.const (.pointer none)),none⟩,⟨some 13,.mv (.tmp 15),none⟩])
 (.cond (.tmp 13)
 (.seq (.ops [⟨some 4,.mv (.const (.slice none 0 0)),none⟩,⟨some 5,.mv (.const (.int .i64 3)),none⟩])
 .ret)
 (.seq (.ops [⟨some 17,.mv (.tmp 6),none⟩,⟨some 18,.nilck (.tmp 17),none⟩,⟨some 19,.faddr (.tmp 18) 0,none⟩,⟨some 20,.load (.tmp 19) none,none⟩,⟨some 21,.eqv true (.scalar .int) (.tmp 20) (.const (.int .i64 1)),none⟩,⟨some 16,.mv (.tmp 21),none⟩])
 (.cond (.tmp 16)
 (.seq (.ops [⟨some 4,.mv (.const (.slice none 0 0)),none⟩,⟨some 5,.mv (.const (.int .i64 11)),none⟩])
 .ret)
 .skip)))))
 (.seq (.ops [⟨some 22,.mv (.tmp 6),none⟩,⟨some 23,.call (.func 188) [.tmp 22],none⟩,⟨some 4,.mv (.tmp 23),none⟩,⟨some 5,.mv (.const (.int .i64 0)),none⟩])
 .ret)))))⟩
theorem is154 : Is Proofs.Tryz.prog 6 154 F154 := mkIs Proofs.Tryz.func154 (by kernel_rfl) (by decide) (by kernel_rfl) Proofs.Tryz.ntmps154 (by kernel_rfl)
def F155 : AFunc := ⟨9,[.tmp 4],(.seq (.ops [⟨some 4,.mv (.const (.bool false)),none⟩])
 (.seq (.ops [⟨some 5,.mv (.tmp 0),none⟩,⟨some 6,.call (.func 190) [.tmp 5],none⟩,⟨some 7,.mv (.tmp 1),none⟩,⟨some 8,.call (.func 189) [.tmp 6,.tmp 7],none⟩,⟨some 4,.mv (.tmp 8),none⟩])
 .ret))⟩
theorem is155 : Is Proofs.Tryz.prog 6 155 F155 := mkIs Proofs.Tryz.func155 (by kernel_rfl) (by decide) (by kernel_rfl) Proofs.Tryz.ntmps155 (by kernel_rfl)
def F156 : AFunc := ⟨23,[.tmp 4,.tmp 5,.tmp 6],(.seq (.ops [⟨some 4,.mv (.const (.string ⟨#[]⟩)),none⟩,⟨some 5,.mv (.const (.string ⟨#[]⟩)),none⟩,⟨some 6,.mv (.const (.bool false)),none⟩])
 (.seq (.seq (.ops [⟨some 8,.mv (.tmp 0),none⟩,⟨some 9,.mv (.tmp 1),none⟩,⟨some 10,.call (.func 191) [.tmp 8,.tmp 9],none⟩,⟨some 7,.mv (.tmp 10),none⟩])
 (.seq (.ops [⟨some 11,.mv (.tmp 7),none⟩,⟨some 12,.bin .geq (.tmp 11) (.const (.int .i64 0)),none⟩])
 (.cond (.tmp 12)
 (.seq (.draw 0 [.run ⟨some 13,.mv (.tmp 0),none⟩,.run ⟨some 14,.mv (.tmp 7),none⟩,.run ⟨some 15,.slStr (.tmp 13) none (some (.tmp 14)),none⟩,.run ⟨some 16,.mv (.tmp 0),none⟩,.run ⟨some 17,.mv (.tmp 7),none⟩,.run ⟨some 18,.mv (.tmp 1),none⟩,.run ⟨some 19,.lenS (.tmp 18),none⟩,.run ⟨some 20,.bin .add (.tmp 17) (.tmp 19),none⟩,.run ⟨some 21,.slStr (.tmp 16) (some (.tmp 20)) none,none⟩,.run ⟨some 4,.mv (.tmp 15),none⟩,.run ⟨some 5,.mv (.tmp 21),none⟩,.run ⟨some 6,.mv (.const (.bool true)),none⟩])
 .ret)
 .skip)))
 (.seq (.ops [⟨some 22,.mv (.tmp 0),none⟩,⟨some 4,.mv (.tmp 22),none⟩,⟨some 5,.mv (.const (.string ⟨#[]⟩)),none⟩,⟨some 6,.mv (.const (.bool false)),none⟩])
 .ret)))⟩
theorem is156 : Is Proofs.Tryz.prog 6 156 F156 := mkIs Proofs.Tryz.func156 (by kernel_rfl) (by decide) (by kernel_rfl) Proofs.Tryz.ntmps156 (by kernel_rfl)
def F157 : AFunc := ⟨30,[],(.seq (.draw 0 [.run ⟨some 5,.mv (.tmp 0),none⟩,.run ⟨some 6,.nilck (.tmp 5),none⟩,.run ⟨some 7,.faddr (.tmp 6) 1,none⟩,.run ⟨some 11,.mv (.tmp 1),none⟩,.run ⟨some 14,.mv (.tmp 0),none⟩,.run ⟨some 15,.nilck (.tmp 14),none⟩,.run ⟨some 16,.faddr (.tmp 15) 1,none⟩,.run ⟨some 8,.load (.tmp 7) none,none⟩,.run ⟨some 17,.load (.tmp 16) none,none⟩,.run ⟨some 18,.lenL (.tmp 17),none⟩,.run ⟨some 9,.capq (.tmp 8),none⟩,.chk ⟨some 17,.load (.tmp 16) none,none⟩,.run ⟨some 10,.bin .mul (.const (.int .i64 2)) (.tmp 9),none⟩,.run ⟨some 12,.bin .add (.tmp 10) (.tmp 11),none⟩,.run ⟨some 13,.call (.func 192) [.tmp 12],none⟩,.chk ⟨some 17,.load (.tmp 16) none,none⟩,.run ⟨some 19,.sl (.tmp 13) none (some (.tmp 18)) 1,none⟩,.run ⟨some 4,.mv (.tmp 19),none⟩])
 (.seq (.ops [⟨some 20,.mv (.tmp 4),none⟩,⟨some 21,.mv (.tmp 0),none⟩,⟨some 22,.nilck (.tmp 21),none⟩,⟨some 23,.faddr (.tmp 22) 1,none⟩,⟨some 24,.load (.tmp 23) none,none⟩,⟨some 25,.copyS (.tmp 20) (.tmp 24) 1,none⟩])
 (.ops [⟨some 26,.mv (.tmp 0),none⟩,⟨some 27,.mv (.tmp 4),none⟩,⟨some 28,.nilck (.tmp 26),none⟩,⟨some 29,.faddr (.tmp 28) 1,none⟩,⟨none,.store (.tmp 29) (.tmp 27) 1,none⟩])))⟩
theorem is157 : Is Proofs.Tryz.prog 6 157 F157 := mkIs Proofs.Tryz.func157 (by kernel_rfl) (by decide) (by kernel_rfl) Proofs.Tryz.ntmps157 (by kernel_rfl)
def F158 : AFunc := ⟨12,[.tmp 2],(.seq (.ops [⟨some 2,.mv (.const (.bool false)),none⟩])
 (.seq (.ops [⟨some 3,.mv (.tmp 0),none⟩,⟨some 4,.eqv true (.scalar .str) (.tmp 3) (.const (.string ⟨#[]⟩)),none⟩,⟨some 5,.mv (.tmp 4),none⟩,⟨some 6,.mv (.tmp 0),(some (5,true))⟩,⟨some 7,.call (.func 193) [.tmp 6,(.const (.int .i64 0))],(some (5,true))⟩,⟨some 8,.mv (.tmp 0),(some (5,true))⟩,⟨some 9,.lenS (.tmp 8),(some (5,true))⟩,⟨some 10,.eqv false (.scalar .int) (.tmp 7) (.tmp 9),(some (5,true))⟩,⟨some 11,.pick (.tmp 5) (.tmp 10) (.const (.bool false)),none⟩,⟨some 2,.mv (.tmp 11),none⟩])
 .ret))⟩
theorem is158 : Is Proofs.Tryz.prog 6 158 F158 := mkIs Proofs.Tryz.func158 (by kernel_rfl) (by decide) (by kernel_rfl) Proofs.Tryz.ntmps158 (by kernel_rfl)
def F160 : AFunc := ⟨49,[.tmp 6,.tmp 7],(.seq (.ops [⟨some 6,.mv (.const (.int .i64 0)),none⟩,⟨some 7,.mv (.const (.bool false)),none⟩])
 (.seq (.ops [⟨some 12,.mv (.tmp 0),none⟩,⟨some 13,.lenL (.tmp 12),none⟩,⟨some 8,.mv (.tmp 13),none⟩])
 (.seq (.ops [⟨some 14,.mv (.tmp 8),none⟩,⟨some 9,.mv (.const (.int .i64 0)),none⟩,⟨some 10,.mv (.tmp 14),none⟩])
 (.seq (.block 0
 (.loop
 (.seq (.seq (.ops [⟨some 15,.mv (.tmp 9),none⟩,⟨some 16,.mv (.tmp 10),none⟩,⟨some 17,.bin .lss (.tmp 15) (.tmp 16),none⟩])
 (.cond (.tmp 17)
 .skip
 (.exit 0)))
 (.block 1
 (.seq (.ops [⟨some 18,.mv (.tmp 9),none⟩,⟨some 19,.mv (.tmp 10),none⟩,⟨some 20,.bin .add (.tmp 18) (.tmp 19),none⟩,⟨some 21,.conv .u64 (.tmp 20),none⟩,⟨some 22,.bin .shr (.tmp 21) (.const (.int .u64 1)),none⟩,⟨some 23,.conv .i64 (.tmp 22),none⟩,⟨some 11,.mv (.tmp 23),none⟩])
 (.seq (.ops [⟨some 24,.mv (.tmp 2),none⟩,⟨some 25,.mv (.tmp 0),none⟩,⟨some 26,.mv (.tmp 11),none⟩,⟨some 27,.idx (.tmp 25) (.tmp 26) 2,none⟩,⟨some 28,.load (.tmp 27) (some 2),none⟩,⟨some 29,.mv (.tmp 1),none⟩,⟨some 30,.call (.tmp 24) [.tmp 28,.tmp 29],none⟩,⟨some 31,.bin .lss (.tmp 30) (.const (.int .i64 0)),none⟩])
 (.cond (.tmp 31)
 (.ops [⟨some 32,.mv (.tmp 11),none⟩,⟨some 33,.bin .add (.tmp 32) (.const (.int .i64 1)),none⟩,⟨some 9,.mv (.tmp 33),none⟩])
 (.ops [⟨some 34,.mv (.tmp 11),none⟩,⟨some 10,.mv (.tmp 34),none⟩]))))))))
 (.seq (.ops [⟨some 35,.mv (.tmp 9),none⟩,⟨some 36,.mv (.tmp 9),none⟩,⟨some 37,.mv (.tmp 8),none⟩,⟨some 38,.bin .lss (.tmp 36) (.tmp 37),none⟩,⟨some 39,.mv (.tmp 38),none⟩,⟨some 40,.mv (.tmp 2),(some (39,true))⟩,⟨some 41,.mv (.tmp 0),(some (39,true))⟩,⟨some 42,.mv (.tmp 9),(some (39,true))⟩,⟨some 43,.idx (.tmp 41) (.tmp 42) 2,(some (39,true))⟩,⟨some 44,.load (.tmp 43) (some 2),(some (39,true))⟩,⟨some 45,.mv (.tmp 1),(some (39,true))⟩,⟨some 46,.call (.tmp 40) [.tmp 44,.tmp 45],(some (39,true))⟩,⟨some 47,.eqv false (.scalar .int) (.tmp 46) (.const (.int .i64 0)),(some (39,true))⟩,⟨some 48,.pick (.tmp 39) (.tmp 47) (.const (.bool false)),none⟩,⟨some 6,.mv (.tmp 35),none⟩,⟨some 7,.mv (.tmp 48),none⟩])
 .ret)))))⟩
theorem is160 : Is Proofs.Tryz.prog 6 160 F160 := mkIs Proofs.Tryz.func160 (by kernel_rfl) (by decide) (by kernel_rfl) Proofs.Tryz.ntmps160 (by kernel_rfl)
def F161 : AFunc := ⟨9,[.tmp 4],(.seq (.ops [⟨some 2,.box (.tmp 0) 90,none⟩,⟨some 4,.mv (.const (.int .i64 0)),none⟩])
 (.seq (.ops [⟨some 5,.faddr (.tmp 2) 0,none⟩,⟨some 6,.load (.tmp 5) none,none⟩,⟨some 7,.mv (.tmp 1),none⟩,⟨some 8,.call (.func 162) [.tmp 6,.tmp 7],none⟩,⟨some 4,.mv (.tmp 8),none⟩])
 .ret))⟩
theorem is161 : Is Proofs.Tryz.prog 6 161 F161 := mkIs Proofs.Tryz.func161 (by kernel_rfl) (by decide) (by kernel_rfl) Proofs.Tryz.ntmps161 (by kernel_rfl)
def F162 : AFunc := ⟨8,[.tmp 4],(.seq (.ops [⟨some 4,.mv (.const (.int .i64 0)),none⟩])
 (.seq (.ops [⟨some 5,.mv (.tmp 0),none⟩,⟨some 6,.mv (.tmp 1),none⟩,⟨some 7,.call (.func 194) [.tmp 5,.tmp 6],none⟩,⟨some 4,.mv (.tmp 7),none⟩])
 .ret))⟩
theorem is162 : Is Proofs.Tryz.prog 6 162 F162 := mkIs Proofs.Tryz.func162 (by kernel_rfl) (by decide) (by kernel_rfl) Proofs.Tryz.ntmps162 (by kernel_rfl)
def F165 : AFunc := ⟨41,[],(.seq (.ops [⟨some 4,.mv (.const (.int .i64 0)),none⟩])
 (.seq (.ops [⟨some 8,.load (.tmp 1) none,none⟩,⟨some 9,.call (.func 166) [.tmp 8],none⟩,⟨some 10,.lenL (.tmp 9),none⟩,⟨some 11,.mv (.const (.int .i64 0)),none⟩])
 (.block 0
 (.loop
 (.seq (.ops [⟨some 12,.bin .lss (.tmp 11) (.tmp 10),none⟩])
 (.seq (.cond (.tmp 12)
 .skip
 (.exit 0))
 (.seq (.block 1
 (.seq (.ops [⟨some 13,.idx (.tmp 9) (.tmp 11) 3,none⟩,⟨some 14,.load (.tmp 13) (some 3),none⟩,⟨some 6,.new [(.bool false),(.bool false),(.string ⟨#[]⟩)] 103,none⟩,⟨none,.store (.tmp 6) (.tmp 14) 3,none⟩])
 (.seq (.ops [⟨some 7,.mv (.const (.int .i64 0)),none⟩])
 (.seq (.seq (.ops [⟨some 15,.faddr (.tmp 6) 0,none⟩,⟨some 16,.load (.tmp 15) none,none⟩])
 (.cond (.tmp 16)
 (.ops [⟨some 18,.load (.tmp 2) none,none⟩,⟨some 19,.load (.tmp 6) (some 3),none⟩,⟨some 20,.call (.func 167) [.tmp 18,.tmp 19],none⟩,⟨some 17,.mv (.tmp 20),none⟩,⟨some 21,.ext (.tmp 17) 0,none⟩,⟨some 22,.ext (.tmp 17) 1,none⟩,⟨some 23,.faddr (.tmp 6) 2,none⟩,⟨none,.store (.tmp 23) (.tmp 21) 1,none⟩,⟨some 7,.mv (.tmp 22),none⟩])
 .skip))
 (.seq (.ops [⟨some 24,.mv (.tmp 4),none⟩,⟨some 25,.faddr (.tmp 6) 2,none⟩,⟨some 26,.load (.tmp 25) none,none⟩,⟨some 27,.lenS (.tmp 26),none⟩,⟨some 28,.bin .add (.tmp 24) (.tmp 27),none⟩,⟨some 4,.mv (.tmp 28),none⟩])
 (.seq (.seq (.ops [⟨some 29,.mv (.tmp 7),none⟩,⟨some 30,.eqv false (.scalar .int) (.tmp 29) (.const (.int .i64 0)),none⟩,⟨some 31,.mv (.tmp 30),none⟩,⟨some 32,.mv (.tmp 4),(some (31,true))⟩,⟨some 33,.bin .gtr (.tmp 32) (.const (.int .i64 1048576)),(some (31,true))⟩,⟨some 34,.pick (.tmp 31) (.tmp 33) (.const (.bool false)),none⟩])
 (.cond (.tmp 34)
 (.ops [⟨some 7,.mv (.const (.int .i64 2)),none⟩])
 .skip))
 (.seq (.ops [⟨some 35,.mv (.tmp 0),none⟩,⟨some 36,.load (.tmp 6) (some 3),none⟩,⟨some 37,.mv (.tmp 7),none⟩,⟨some 38,.call (.tmp 35) [.tmp 36,.tmp 37],none⟩,⟨some 39,.un .not (.tmp 38),none⟩])
 (.cond (.tmp 39)
 .ret
 .skip))))))))
 (.ops [⟨some 40,.bin .add (.tmp 11) (.const (.int .i64 1)),none⟩,⟨some 11,.mv (.tmp 40),none⟩]))))))))⟩
theorem is165 : Is Proofs.Tryz.prog 6 165 F165 := mkIs Proofs.Tryz.func165 (by kernel_rfl) (by decide) (by kernel_rfl) Proofs.Tryz.ntmps165 (by kernel_rfl)
def F166 : AFunc := ⟨7,[.tmp 2],(.seq (.ops [⟨some 2,.mv (.const (.slice none 0 0)),none⟩])
 (.seq (.ops [⟨some 3,.mv (.tmp 0),none⟩,⟨some 4,.call (.func 197) [.tmp 3],none⟩,⟨some 5,.call (.func 198) [.tmp 4],none⟩,⟨some 6,.call (.func 196) [.tmp 5],none⟩,⟨some 2,.mv (.tmp 6),none⟩])
 .ret))⟩
theorem is166 : Is Proofs.Tryz.prog 6 166 F166 := mkIs Proofs.Tryz.func166 (by kernel_rfl) (by decide) (by kernel_rfl) Proofs.Tryz.ntmps166 (by kernel_rfl)
def F168 : AFunc := ⟨50,[],(.seq (.ops [⟨some 6,.load (.tmp 1) none,none⟩,⟨some 7,.lenL (.tmp 6),none⟩,⟨some 8,.mv (.const (.int .i64 0)),none⟩])
 (.block 0
 (.loop
 (.seq (.ops [⟨some 9,.bin .lss (.tmp 8) (.tmp 7),none⟩])
 (.seq (.cond (.tmp 9)
 .skip
 (.exit 0))
 (.seq (.block 1
 (.seq (.ops [⟨some 10,.idx (.tmp 6) (.tmp 8) 3,none⟩,⟨some 11,.load (.tmp 10) (some 3),none⟩,⟨some 4,.new [(.bool false),(.bool false),(.string ⟨#[]⟩)] 103,none⟩,⟨none,.store (.tmp 4) (.tmp 11) 3,none⟩])
 (.seq (.seq (.ops [⟨some 12,.faddr (.tmp 4) 2,none⟩,⟨some 13,.load (.tmp 12) none,none⟩,⟨some 14,.eqv false (.scalar .str) (.tmp 13) (.const (.string ⟨#[]⟩)),none⟩,⟨some 15,.mv (.tmp 14),none⟩,⟨some 16,.faddr (.tmp 4) 1,(some (15,true))⟩,⟨some 17,.load (.tmp 16) none,(some (15,true))⟩,⟨some 18,.pick (.tmp 15) (.tmp 17) (.const (.bool false)),none⟩,⟨some 19,.mv (.tmp 18),none⟩,⟨some 20,.mv (.tmp 0),(some (19,true))⟩,⟨some 21,.build [(.int .u8 0),(.bool false),(.bool false),(.bool false)] [(1,1,(.const (.bool true))),(2,1,(.const (.bool true)))],(some (19,true))⟩,⟨some 22,.call (.tmp 20) [.tmp 21],(some (19,true))⟩,⟨some 23,.un .not (.tmp 22),(some (19,true))⟩,⟨some 24,.pick (.tmp 19) (.tmp 23) (.const (.bool false)),none⟩])
 (.cond (.tmp 24)
 .ret
 .skip))
 (.seq (.ops [⟨some 25,.faddr (.tmp 4) 2,none⟩,⟨some 26,.load (.tmp 25) none,none⟩,⟨some 27,.lenS (.tmp 26),none⟩,⟨some 28,.mv (.const (.int .i64 0)),none⟩])
 (.block 2
 (.loop
 (.seq (.ops [⟨some 29,.bin .lss (.tmp 28) (.tmp 27),none⟩])
 (.seq (.cond (.tmp 29)
 .skip
 (.exit 2))
 (.seq (.block 3
 (.seq (.ops [⟨some 30,.mv (.tmp 28),none⟩,⟨some 5,.mv (.tmp 30),none⟩])
 (.seq (.draw 0 [.run ⟨some 31,.mv (.tmp 0),none⟩,.run ⟨some 32,.faddr (.tmp 4) 2,none⟩,.run ⟨some 34,.mv (.tmp 5),none⟩,.run ⟨some 36,.faddr (.tmp 4) 1,none⟩,.run ⟨some 38,.faddr (.tmp 4) 0,none⟩,.run ⟨some 33,.load (.tmp 32) none,none⟩,.run ⟨some 35,.strAt (.tmp 33) (.tmp 34),none⟩,.run ⟨some 37,.load (.tmp 36) none,none⟩,.run ⟨some 39,.load (.tmp 38) none,none⟩,.run ⟨some 40,.mv (.tmp 39),none⟩,.run ⟨some 41,.faddr (.tmp 4) 1,(some (40,true))⟩,.run ⟨some 42,.load (.tmp 41) none,(some (40,true))⟩,.run ⟨some 43,.un .not (.tmp 42),(some (40,true))⟩,.run ⟨some 44,.pick (.tmp 40) (.tmp 43) (.const (.bool false)),none⟩,.run ⟨some 45,.build [(.int .u8 0),(.bool false),(.bool false),(.bool false)] [(0,1,.tmp 35),(2,1,.tmp 37),(3,1,.tmp 44)],none⟩,.run ⟨some 46,.call (.tmp 31) [.tmp 45],none⟩,.run ⟨some 47,.un .not (.tmp 46),none⟩])
 (.cond (.tmp 47)
 .ret
 .skip))))
 (.ops [⟨some 48,.bin .add (.tmp 28) (.const (.int .i64 1)),none⟩,⟨some 28,.mv (.tmp 48),none⟩]))))))))))
 (.ops [⟨some 49,.bin .add (.tmp 8) (.const (.int .i64 1)),none⟩,⟨some 8,.mv (.tmp 49),none⟩])))))))⟩
theorem is168 : Is Proofs.Tryz.prog 6 168 F168 := mkIs Proofs.Tryz.func168 (by kernel_rfl) (by decide) (by kernel_rfl) Proofs.Tryz.ntmps168 (by kernel_rfl)
def F169 : AFunc := ⟨8,[.tmp 4],(.seq (.ops [⟨some 4,.mv (.const (.int .i64 0)),none⟩])
 (.seq (.ops [⟨some 5,.mv (.tmp 0),none⟩,⟨some 6,.mv (.tmp 1),none⟩,⟨some 7,.call (.func 202) [.tmp 5,.tmp 6],none⟩,⟨some 4,.mv (.tmp 7),none⟩])
 .ret))⟩
theorem is169 : Is Proofs.Tryz.prog 6 169 F169 := mkIs Proofs.Tryz.func169 (by kernel_rfl) (by decide) (by kernel_rfl) Proofs.Tryz.ntmps169 (by kernel_rfl)
def F177 : AFunc := ⟨33,[.tmp 6],(.seq (.ops [⟨some 6,.mv (.const (.int .i64 0)),none⟩])
 (.seq (.seq (.ops [⟨some 8,.mv (.tmp 1),none⟩,⟨some 9,.bin .lss (.tmp 8) (.const (.int .i64 0)),none⟩,⟨some 10,.mv (.tmp 9),none⟩,⟨some 11,.mv (.tmp 1),(some (10,false))⟩,⟨some 12,.mv (.tmp 0),(some (10,false))⟩,⟨some 13,.lenS (.tmp 12),(some (10,false))⟩,⟨some 14,.bin .geq (.tmp 11) (.tmp 13),(some (10,false))⟩,⟨some 15,.pick (.tmp 10) (.const (.bool true)) (.tmp 14),none⟩])
 (.cond (.tmp 15)
 (.seq (.ops [⟨some 6,.mv (.const (.int .i64 0)),none⟩])
 .ret)
 .skip))
 (.seq (.ops [⟨some 7,.mv (.const (.int .i64 0)),none⟩])
 (.seq .skip
 (.seq (.block 0
 (.loop
 (.seq (.seq (.ops [⟨some 16,.mv (.tmp 1),none⟩,⟨some 17,.mv (.tmp 7),none⟩,⟨some 18,.bin .add (.tmp 16) (.tmp 17),none⟩,⟨some 19,.mv (.tmp 0),none⟩,⟨some 20,.lenS (.tmp 19),none⟩,⟨some 21,.bin .lss (.tmp 18) (.tmp 20),none⟩])
 (.cond (.tmp 21)
 .skip
 (.exit 0)))
 (.seq (.block 1
 (.seq (.ops [⟨some 24,.mv (.tmp 2),none⟩,⟨some 25,.mv (.tmp 0),none⟩,⟨some 26,.mv (.tmp 1),none⟩,⟨some 27,.mv (.tmp 7),none⟩,⟨some 28,.bin .add (.tmp 26) (.tmp 27),none⟩,⟨some 29,.strAt (.tmp 25) (.tmp 28),none⟩,⟨some 30,.call (.tmp 24) [.tmp 29],none⟩,⟨some 31,.un .not (.tmp 30),none⟩])
 (.cond (.tmp 31)
 (.exit 0)
 .skip)))
 (.ops [⟨some 22,.mv (.tmp 7),none⟩,⟨some 23,.bin .add (.tmp 22) (.const (.int .i64 1)),none⟩,⟨some 7,.mv (.tmp 23),none⟩])))))
 (.seq (.ops [⟨some 32,.mv (.tmp 7),none⟩,⟨some 6,.mv (.tmp 32),none⟩])
 .ret))))))⟩
theorem is177 : Is Proofs.Tryz.prog 6 177 F177 := mkIs Proofs.Tryz.func177 (by kernel_rfl) (by decide) (by kernel_rfl) Proofs.Tryz.ntmps177 (by kernel_rfl)
def F178 : AFunc := ⟨6,[.tmp 2],(.seq (.ops [⟨some 2,.mv (.const (.bool false)),none⟩])
 (.seq (.ops [⟨some 3,.mv (.tmp 0),none⟩,⟨some 4,.call (.func 137) [.tmp 3],none⟩,⟨some 5,.eqv false (.scalar .int) (.tmp 4) (.const (.int .i64 6)),none⟩,⟨some 2,.mv (.tmp 5),none⟩])
 .ret))⟩
theorem is178 : Is Proofs.Tryz.prog 6 178 F178 := mkIs Proofs.Tryz.func178 (by kernel_rfl) (by decide) (by kernel_rfl) Proofs.Tryz.ntmps178 (by kernel_rfl)
def F179 : AFunc := ⟨34,[.tmp 4],(.seq (.ops [⟨some 4,.mv (.const (.int .i64 0)),none⟩])
 (.seq (.seq (.ops [⟨some 7,.mv (.tmp 1),none⟩,⟨some 8,.lenS (.tmp 7),none⟩,⟨some 9,.eqv false (.scalar .int) (.tmp 8) (.const (.int .i64 0)),none⟩])
 (.cond (.tmp 9)
 (.seq (.ops [⟨some 10,.mv (.tmp 0),none⟩,⟨some 11,.call (.func 207) [.tmp 10],none⟩,⟨some 12,.bin .add (.tmp 11) (.const (.int .i64 1)),none⟩,⟨some 4,.mv (.tmp 12),none⟩])
 .ret)
 .skip))
 (.seq (.seq (.ops [⟨some 13,.mv (.tmp 1),none⟩,⟨some 14,.lenS (.tmp 13),none⟩,⟨some 15,.eqv false (.scalar .int) (.tmp 14) (.const (.int .i64 1)),none⟩])
 (.cond (.tmp 15)
 (.seq (.ops [⟨some 16,.mv (.tmp 0),none⟩,⟨some 17,.mv (.tmp 1),none⟩,⟨some 18,.strAt (.tmp 17) (.const (.int .i64 0)),none⟩,⟨some 19,.call (.func 208) [.tmp 16,.tmp 18],none⟩,⟨some 4,.mv (.tmp 19),none⟩])
 .ret)
 .skip))
 (.seq (.ops [⟨some 5,.mv (.const (.int .i64 0)),none⟩])
 (.block 0
 (.loop
 (.block 1
 (.seq (.ops [⟨some 20,.mv (.tmp 0),none⟩,⟨some 21,.mv (.tmp 1),none⟩,⟨some 22,.call (.func 180) [.tmp 20,.tmp 21],none⟩,⟨some 6,.mv (.tmp 22),none⟩])
 (.seq (.seq (.ops [⟨some 23,.mv (.tmp 6),none⟩,⟨some 24,.eqv false (.scalar .int) (.tmp 23) (.const (.int .i64 (-1))),none⟩])
 (.cond (.tmp 24)
 (.seq (.ops [⟨some 25,.mv (.tmp 5),none⟩,⟨some 4,.mv (.tmp 25),none⟩])
 .ret)
 .skip))
 (.seq (.ops [⟨some 26,.mv (.tmp 5),none⟩,⟨some 27,.bin .add (.tmp 26) (.const (.int .i64 1)),none⟩,⟨some 5,.mv (.tmp 27),none⟩])
 (.ops [⟨some 28,.mv (.tmp 0),none⟩,⟨some 29,.mv (.tmp 6),none⟩,⟨some 30,.mv (.tmp 1),none⟩,⟨some 31,.lenS (.tmp 30),none⟩,⟨some 32,.bin .add (.tmp 29) (.tmp 31),none⟩,⟨some 33,.slStr (.tmp 28) (some (.tmp 32)) none,none⟩,⟨some 0,.mv (.tmp 33),none⟩])))))))))))⟩
theorem is179 : Is Proofs.Tryz.prog 6 179 F179 := mkIs Proofs.Tryz.func179 (by kernel_rfl) (by decide) (by kernel_rfl) Proofs.Tryz.ntmps179 (by kernel_rfl)
def F180 : AFunc := ⟨8,[.tmp 4],(.seq (.ops [⟨some 4,.mv (.const (.int .i64 0)),none⟩])
 (.seq (.ops [⟨some 5,.mv (.tmp 0),none⟩,⟨some 6,.mv (.tmp 1),none⟩,⟨some 7,.call (.func 191) [.tmp 5,.tmp 6],none⟩,⟨some 4,.mv (.tmp 7),none⟩])
 .ret))⟩
theorem is180 : Is Proofs.Tryz.prog 6 180 F180 := mkIs Proofs.Tryz.func180 (by kernel_rfl) (by decide) (by kernel_rfl) Proofs.Tryz.ntmps180 (by kernel_rfl)
def F187 : AFunc := ⟨6,[.tmp 2],(.seq (.ops [⟨some 2,.mv (.const (.bool false)),none⟩])
 (.seq (.ops [⟨some 3,.mv (.tmp 0),none⟩,⟨some 4,.mv (.tmp 0),none⟩,⟨some 5,.eqv true (.scalar .str) (.tmp 3) (.tmp 4),none⟩,⟨some 2,.mv (.tmp 5),none⟩])
 .ret))⟩
theorem is187 : Is Proofs.Tryz.prog 6 187 F187 := mkIs Proofs.Tryz.func187 (by kernel_rfl) (by decide) (by kernel_rfl) Proofs.Tryz.ntmps187 (by kernel_rfl)
def F189 : AFunc := ⟨75,[.tmp 4],(.seq (.ops [⟨some 4,.mv (.const (.bool false)),none⟩])
 (.seq (.ops [⟨some 5,.mv (.const (.int .i64 0)),none⟩,⟨some 6,.mv (.const (.int .i64 0)),none⟩])
 (.seq (.ops [⟨some 7,.mv (.const (.int .i64 (-1))),none⟩,⟨some 8,.mv (.const (.int .i64 0)),none⟩])
 (.seq .skip
 (.seq (.block 0
 (.loop
 (.seq (.seq (.ops [⟨some 9,.mv (.tmp 6),none⟩,⟨some 10,.mv (.tmp 1),none⟩,⟨some 11,.lenS (.tmp 10),none⟩,⟨some 12,.bin .lss (.tmp 9) (.tmp 11),none⟩])
 (.cond (.tmp 12)
 .skip
 (.exit 0)))
 (.block 1
 (.seq (.block 2
 (.seq (.ops [⟨some 14,.mv (.tmp 5),none⟩,⟨some 15,.mv (.tmp 0),none⟩,⟨some 16,.lenL (.tmp 15),none⟩,⟨some 17,.bin .lss (.tmp 14) (.tmp 16),none⟩,⟨some 18,.mv (.tmp 17),none⟩,⟨some 19,.mv (.tmp 0),(some (18,true))⟩,⟨some 20,.mv (.tmp 5),(some (18,true))⟩,⟨some 21,.idx (.tmp 19) (.tmp 20) 6,(some (18,true))⟩,⟨some 22,.faddr (.tmp 21) 0,(some (18,true))⟩,⟨some 23,.load (.tmp 22) none,(some (18,true))⟩,⟨some 24,.eqv false (.scalar .int) (.tmp 23) (.const (.int .i64 3)),(some (18,true))⟩,⟨some 25,.pick (.tmp 18) (.tmp 24) (.const (.bool false)),none⟩,⟨some 13,.mv (.tmp 25),none⟩])
 (.cond (.tmp 13)
 (.seq (.ops [⟨some 26,.mv (.tmp 5),none⟩,⟨some 27,.mv (.tmp 6),none⟩,⟨some 7,.mv (.tmp 26),none⟩,⟨some 8,.mv (.tmp 27),none⟩])
 (.seq (.ops [⟨some 28,.mv (.tmp 5),none⟩,⟨some 29,.bin .add (.tmp 28) (.const (.int .i64 1)),none⟩,⟨some 5,.mv (.tmp 29),none⟩])
 (.exit 1)))
 (.seq (.draw 0 [.run ⟨some 31,.mv (.tmp 5),none⟩,.run ⟨some 32,.mv (.tmp 0),none⟩,.run ⟨some 33,.lenL (.tmp 32),none⟩,.run ⟨some 34,.bin .lss (.tmp 31) (.tmp 33),none⟩,.run ⟨some 35,.mv (.tmp 34),none⟩,.run ⟨some 36,.mv (.tmp 0),(some (35,true))⟩,.run ⟨some 37,.mv (.tmp 5),(some (35,true))⟩,.run ⟨some 38,.idx (.tmp 36) (.tmp 37) 6,(some (35,true))⟩,.run ⟨some 40,.mv (.tmp 1),(some (35,true))⟩,.run ⟨some 41,.mv (.tmp 6),(some (35,true))⟩,.run ⟨some 42,.strAt (.tmp 40) (.tmp 41),(some (35,true))⟩,.run ⟨some 39,.load (.tmp 38) (some 6),(some (35,true))⟩,.run ⟨some 43,.call (.func 211) [.tmp 39,.tmp 42],(some (35,true))⟩,.run ⟨some 44,.pick (.tmp 35) (.tmp 43) (.const (.bool false)),none⟩,.run ⟨some 30,.mv (.tmp 44),none⟩])
 (.cond (.tmp 30)
 (.seq (.ops [⟨some 45,.mv (.tmp 5),none⟩,⟨some 46,.bin .add (.tmp 45) (.const (.int .i64 1)),none⟩,⟨some 5,.mv (.tmp 46),none⟩])
 (.seq (.ops [⟨some 47,.mv (.tmp 6),none⟩,⟨some 48,.bin .add (.tmp 47) (.const (.int .i64 1)),none⟩,⟨some 6,.mv (.tmp 48),none⟩])
 (.exit 1)))
 (.seq (.ops [⟨some 50,.mv (.tmp 7),none⟩,⟨some 51,.bin .lss (.tmp 50) (.const (.int .i64 0)),none⟩,⟨some 49,.mv (.tmp 51),none⟩])
 (.cond (.tmp 49)
 (.seq (.ops [⟨some 4,.mv (.const (.bool false)),none⟩])
 .ret)
 .skip)))))))
 (.seq (.ops [⟨some 52,.mv (.tmp 8),none⟩,⟨some 53,.bin .add (.tmp 52) (.const (.int .i64 1)),none⟩,⟨some 8,.mv (.tmp 53),none⟩])
 (.ops [⟨some 54,.mv (.tmp 7),none⟩,⟨some 55,.bin .add (.tmp 54) (.const (.int .i64 1)),none⟩,⟨some 56,.mv (.tmp 8),none⟩,⟨some 5,.mv (.tmp 55),none⟩,⟨some 6,.mv (.tmp 56),none⟩])))))))
 (.seq (.block 3
 (.loop
 (.seq (.seq (.ops [⟨some 57,.mv (.tmp 5),none⟩,⟨some 58,.mv (.tmp 0),none⟩,⟨some 59,.lenL (.tmp 58),none⟩,⟨some 60,.bin .lss (.tmp 57) (.tmp 59),none⟩,⟨some 61,.mv (.tmp 60),none⟩,⟨some 62,.mv (.tmp 0),(some (61,true))⟩,⟨some 63,.mv (.tmp 5),(some (61,true))⟩,⟨some 64,.idx (.tmp 62) (.tmp 63) 6,(some (61,true))⟩,⟨some 65,.faddr (.tmp 64) 0,(some (61,true))⟩,⟨some 66,.load (.tmp 65) none,(some (61,true))⟩,⟨some 67,.eqv false (.scalar .int) (.tmp 66) (.const (.int .i64 3)),(some (61,true))⟩,⟨some 68,.pick (.tmp 61) (.tmp 67) (.const (.bool false)),none⟩])
 (.cond (.tmp 68)
 .skip
 (.exit 3)))
 (.block 4
 (.ops [⟨some 69,.mv (.tmp 5),none⟩,⟨some 70,.bin .add (.tmp 69) (.const (.int .i64 1)),none⟩,⟨some 5,.mv (.tmp 70),none⟩])))))
 (.seq (.ops [⟨some 71,.mv (.tmp 5),none⟩,⟨some 72,.mv (.tmp 0),none⟩,⟨some 73,.lenL (.tmp 72),none⟩,⟨some 74,.eqv false (.scalar .int) (.tmp 71) (.tmp 73),none⟩,⟨some 4,.mv (.tmp 74),none⟩])
 .ret)))))))⟩
theorem is189 : Is Proofs.Tryz.prog 6 189 F189 := mkIs Proofs.Tryz.func189 (by kernel_rfl) (by decide) (by kernel_rfl) Proofs.Tryz.ntmps189 (by kernel_rfl)
def F190 : AFunc := ⟨6,[.tmp 2],(.seq (.ops [⟨some 2,.mv (.const (.slice none 0 0)),none⟩])
 (.seq (.ops [⟨some 3,.mv (.tmp 0),none⟩,⟨some 4,.call (.func 78) [.tmp 3],none⟩,⟨some 5,.call (.func 212) [.tmp 4],none⟩,⟨some 2,.mv (.tmp 5),none⟩])
 .ret))⟩
theorem is190 : Is Proofs.Tryz.prog 6 190 F190 := mkIs Proofs.Tryz.func190 (by kernel_rfl) (by decide) (by kernel_rfl) Proofs.Tryz.ntmps190 (by kernel_rfl)
def F191 : AFunc := ⟨143,[.tmp 4],(.seq (.ops [⟨some 4,.mv (.const (.int .i64 0)),none⟩])
 (.seq (.ops [⟨some 14,.mv (.tmp 1),none⟩,⟨some 15,.lenS (.tmp 14),none⟩,⟨some 5,.mv (.tmp 15),none⟩])
 (.seq (.block 0
 (.seq (.ops [⟨some 17,.mv (.tmp 5),none⟩,⟨some 18,.eqv false (.scalar .int) (.tmp 17) (.const (.int .i64 0)),none⟩,⟨some 19,.mv (.tmp 18),none⟩,⟨some 20,.mv (.tmp 1),(some (19,false))⟩,⟨some 21,.mv (.tmp 0),(some (19,false))⟩,⟨some 22,.eqv false (.scalar .str) (.tmp 20) (.tmp 21),(some (19,false))⟩,⟨some 23,.pick (.tmp 19) (.const (.bool true)) (.tmp 22),none⟩,⟨some 16,.mv (.tmp 23),none⟩])
 (.cond (.tmp 16)
 (.seq (.ops [⟨some 4,.mv (.const (.int .i64 0)),none⟩])
 .ret)
 (.seq (.ops [⟨some 25,.mv (.tmp 5),none⟩,⟨some 26,.eqv false (.scalar .int) (.tmp 25) (.const (.int .i64 1)),none⟩,⟨some 24,.mv (.tmp 26),none⟩])
 (.cond (.tmp 24)
 (.seq (.ops [⟨some 27,.mv (.tmp 0),none⟩,⟨some 28,.mv (.tmp 1),none⟩,⟨some 29,.strAt (.tmp 28) (.const (.int .i64 0)),none⟩,⟨some 30,.call (.func 169) [.tmp 27,.tmp 29],none⟩,⟨some 4,.mv (.tmp 30),none⟩])
 .ret)
 (.seq (.ops [⟨some 32,.mv (.tmp 5),none⟩,⟨some 33,.mv (.tmp 0),none⟩,⟨some 34,.lenS (.tmp 33),none⟩,⟨some 35,.bin .geq (.tmp 32) (.tmp 34),none⟩,⟨some 31,.mv (.tmp 35),none⟩])
 (.cond (.tmp 31)
 (.seq (.ops [⟨some 4,.mv (.const (.int .i64 (-1))),none⟩])
 .ret)
 (.seq (.ops [⟨some 37,.mv (.tmp 5),none⟩,⟨some 38,.load (.global 0) none,none⟩,⟨some 39,.bin .leq (.tmp 37) (.tmp 38),none⟩,⟨some 40,.mv (.tmp 39),none⟩,⟨some 41,.mv (.tmp 0),(some (40,true))⟩,⟨some 42,.lenS (.tmp 41),(some (40,true))⟩,⟨some 43,.bin .leq (.tmp 42) (.const (.int .i64 64)),(some (40,true))⟩,⟨some 44,.pick (.tmp 40) (.tmp 43) (.const (.bool false)),none⟩,⟨some 36,.mv (.tmp 44),none⟩])
 (.cond (.tmp 36)
 (.seq (.ops [⟨some 45,.mv (.tmp 0),none⟩,⟨some 46,.mv (.tmp 1),none⟩,⟨some 47,.call (.func 213) [.tmp 45,.tmp 46],none⟩,⟨some 4,.mv (.tmp 47),none⟩])
 .ret)
 .skip)))))))))
 (.seq (.ops [⟨some 48,.mv (.tmp 1),none⟩,⟨some 49,.strAt (.tmp 48) (.const (.int .i64 0)),none⟩,⟨some 6,.mv (.tmp 49),none⟩])
 (.seq (.ops [⟨some 50,.mv (.tmp 1),none⟩,⟨some 51,.strAt (.tmp 50) (.const (.int .i64 1)),none⟩,⟨some 7,.mv (.tmp 51),none⟩])
 (.seq (.ops [⟨some 8,.mv (.const (.int .i64 0)),none⟩])
 (.seq (.ops [⟨some 52,.mv (.tmp 0),none⟩,⟨some 53,.lenS (.tmp 52),none⟩,⟨some 54,.mv (.tmp 5),none⟩,⟨some 55,.bin .sub (.tmp 53) (.tmp 54),none⟩,⟨some 56,.bin .add (.tmp 55) (.const (.int .i64 1)),none⟩,⟨some 9,.mv (.tmp 56),none⟩])
 (.seq (.ops [⟨some 10,.mv (.const (.int .i64 0)),none⟩])
 (.seq (.block 1
 (.loop
 (.seq (.seq (.ops [⟨some 57,.mv (.tmp 8),none⟩,⟨some 58,.mv (.tmp 9),none⟩,⟨some 59,.bin .lss (.tmp 57) (.tmp 58),none⟩])
 (.cond (.tmp 59)
 .skip
 (.exit 1)))
 (.block 2
 (.seq (.seq (.ops [⟨some 60,.mv (.tmp 0),none⟩,⟨some 61,.mv (.tmp 8),none⟩,⟨some 62,.strAt (.tmp 60) (.tmp 61),none⟩,⟨some 63,.mv (.tmp 6),none⟩,⟨some 64,.eqv true (.scalar .int) (.tmp 62) (.tmp 63),none⟩])
 (.cond (.tmp 64)
 (.seq (.ops [⟨some 65,.mv (.tmp 0),none⟩,⟨some 66,.mv (.tmp 8),none⟩,⟨some 67,.bin .add (.tmp 66) (.const (.int .i64 1)),none⟩,⟨some 68,.mv (.tmp 9),none⟩,⟨some 69,.slStr (.tmp 65) (some (.tmp 67)) (some (.tmp 68)),none⟩,⟨some 70,.mv (.tmp 6),none⟩,⟨some 71,.call (.func 169) [.tmp 69,.tmp 70],none⟩,⟨some 11,.mv (.tmp 71),none⟩])
 (.seq (.seq (.ops [⟨some 72,.mv (.tmp 11),none⟩,⟨some 73,.bin .lss (.tmp 72) (.const (.int .i64 0)),none⟩])
 (.cond (.tmp 73)
 (.seq (.ops [⟨some 4,.mv (.const (.int .i64 (-1))),none⟩])
 .ret)
 .skip))
 (.ops [⟨some 74,.mv (.tmp 8),none⟩,⟨some 75,.mv (.tmp 11),none⟩,⟨some 76,.bin .add (.tmp 75) (.const (.int .i64 1)),none⟩,⟨some 77,.bin .add (.tmp 74) (.tmp 76),none⟩,⟨some 8,.mv (.tmp 77),none⟩])))
 .skip))
 (.seq (.seq (.ops [⟨some 78,.mv (.tmp 0),none⟩,⟨some 79,.mv (.tmp 8),none⟩,⟨some 80,.bin .add (.tmp 79) (.const (.int .i64 1)),none⟩,⟨some 81,.strAt (.tmp 78) (.tmp 80),none⟩,⟨some 82,.mv (.tmp 7),none⟩,⟨some 83,.eqv false (.scalar .int) (.tmp 81) (.tmp 82),none⟩,⟨some 84,.mv (.tmp 83),none⟩,⟨some 85,.mv (.tmp 0),(some (84,true))⟩,⟨some 86,.mv (.tmp 8),(some (84,true))⟩,⟨some 87,.mv (.tmp 8),(some (84,true))⟩,⟨some 88,.mv (.tmp 5),(some (84,true))⟩,⟨some 89,.bin .add (.tmp 87) (.tmp 88),(some (84,true))⟩,⟨some 90,.slStr (.tmp 85) (some (.tmp 86)) (some (.tmp 89)),(some (84,true))⟩,⟨some 91,.mv (.tmp 1),(some (84,true))⟩,⟨some 92,.eqv false (.scalar .str) (.tmp 90) (.tmp 91),(some (84,true))⟩,⟨some 93,.pick (.tmp 84) (.tmp 92) (.const (.bool false)),none⟩])
 (.cond (.tmp 93)
 (.seq (.ops [⟨some 94,.mv (.tmp 8),none⟩,⟨some 4,.mv (.tmp 94),none⟩])
 .ret)
 .skip))
 (.seq (.ops [⟨some 95,.mv (.tmp 8),none⟩,⟨some 96,.bin .add (.tmp 95) (.const (.int .i64 1)),none⟩,⟨some 8,.mv (.tmp 96),none⟩])
 (.seq (.ops [⟨some 97,.mv (.tmp 10),none⟩,⟨some 98,.bin .add (.tmp 97) (.const (.int .i64 1)),none⟩,⟨some 10,.mv (.tmp 98),none⟩])
 (.seq (.ops [⟨some 99,.mv (.tmp 5),none⟩,⟨some 100,.load (.global 0) none,none⟩,⟨some 101,.bin .leq (.tmp 99) (.tmp 100),none⟩,⟨some 102,.mv (.tmp 101),none⟩,⟨some 103,.mv (.tmp 10),(some (102,true))⟩,⟨some 104,.mv (.tmp 8),(some (102,true))⟩,⟨some 105,.call (.func 214) [.tmp 104],(some (102,true))⟩,⟨some 106,.bin .gtr (.tmp 103) (.tmp 105),(some (102,true))⟩,⟨some 107,.pick (.tmp 102) (.tmp 106) (.const (.bool false)),none⟩])
 (.cond (.tmp 107)
 (.seq (.ops [⟨some 108,.mv (.tmp 0),none⟩,⟨some 109,.mv (.tmp 8),none⟩,⟨some 110,.slStr (.tmp 108) (some (.tmp 109)) none,none⟩,⟨some 111,.mv (.tmp 1),none⟩,⟨some 112,.call (.func 213) [.tmp 110,.tmp 111],none⟩,⟨some 12,.mv (.tmp 112),none⟩])
 (.seq (.seq (.ops [⟨some 113,.mv (.tmp 12),none⟩,⟨some 114,.bin .geq (.tmp 113) (.const (.int .i64 0)),none⟩])
 (.cond (.tmp 114)
 (.seq (.ops [⟨some 115,.mv (.tmp 12),none⟩,⟨some 116,.mv (.tmp 8),none⟩,⟨some 117,.bin .add (.tmp 115) (.tmp 116),none⟩,⟨some 4,.mv (.tmp 117),none⟩])
 .ret)
 .skip))
 (.seq (.ops [⟨some 4,.mv (.const (.int .i64 (-1))),none⟩])
 .ret)))
 (.seq (.ops [⟨some 118,.mv (.tmp 5),none⟩,⟨some 119,.load (.global 0) none,none⟩,⟨some 120,.bin .gtr (.tmp 118) (.tmp 119),none⟩,⟨some 121,.mv (.tmp 120),none⟩,⟨some 122,.mv (.tmp 10),(some (121,true))⟩,⟨some 123,.mv (.tmp 8),(some (121,true))⟩,⟨some 124,.bin .shr (.tmp 123) (.const (.int .u64 4)),(some (121,true))⟩,⟨some 125,.bin .add (.const (.int .i64 4)) (.tmp 124),(some (121,true))⟩,⟨some 126,.bin .geq (.tmp 122) (.tmp 125),(some (121,true))⟩,⟨some 127,.pick (.tmp 121) (.tmp 126) (.const (.bool false)),none⟩,⟨some 128,.mv (.tmp 127),none⟩,⟨some 129,.mv (.tmp 8),(some (128,true))⟩,⟨some 130,.mv (.tmp 9),(some (128,true))⟩,⟨some 131,.bin .lss (.tmp 129) (.tmp 130),(some (128,true))⟩,⟨some 132,.pick (.tmp 128) (.tmp 131) (.const (.bool false)),none⟩])
 (.cond (.tmp 132)
 (.seq (.ops [⟨some 133,.mv (.tmp 0),none⟩,⟨some 134,.mv (.tmp 8),none⟩,⟨some 135,.slStr (.tmp 133) (some (.tmp 134)) none,none⟩,⟨some 136,.mv (.tmp 1),none⟩,⟨some 137,.call (.func 215) [.tmp 135,.tmp 136],none⟩,⟨some 13,.mv (.tmp 137),none⟩])
 (.seq (.seq (.ops [⟨some 138,.mv (.tmp 13),none⟩,⟨some 139,.bin .lss (.tmp 138) (.const (.int .i64 0)),none⟩])
 (.cond (.tmp 139)
 (.seq (.ops [⟨some 4,.mv (.const (.int .i64 (-1))),none⟩])
 .ret)
 .skip))
 (.seq (.ops [⟨some 140,.mv (.tmp 8),none⟩,⟨some 141,.mv (.tmp 13),none⟩,⟨some 142,.bin .add (.tmp 140) (.tmp 141),none⟩,⟨some 4,.mv (.tmp 142),none⟩])
 .ret)))
 .skip))))))))))))
 (.seq (.ops [⟨some 4,.mv (.const (.int .i64 (-1))),none⟩])
 .ret))))))))))⟩
theorem is191 : Is Proofs.Tryz.prog 6 191 F191 := mkIs Proofs.Tryz.func191 (by kernel_rfl) (by decide) (by kernel_rfl) Proofs.Tryz.ntmps191 (by kernel_rfl)
def F193 : AFunc := ⟨12,[.tmp 4],(.seq (.ops [⟨some 4,.mv (.const (.int .i64 0)),none⟩])
 (.seq (.seq (.ops [⟨some 5,.mv (.tmp 0),none⟩,⟨some 6,.mv (.tmp 1),none⟩,⟨some 7,.call (.func 177) [.tmp 5,.tmp 6,(.func 216)],none⟩,⟨some 8,.eqv false (.scalar .int) (.tmp 7) (.const (.int .i64 0)),none⟩])
 (.cond (.tmp 8)
 (.seq (.ops [⟨some 4,.mv (.const (.int .i64 0)),none⟩])
 .ret)
 .skip))
 (.seq (.ops [⟨some 9,.mv (.tmp 0),none⟩,⟨some 10,.mv (.tmp 1),none⟩,⟨some 11,.call (.func 177) [.tmp 9,.tmp 10,(.func 217)],none⟩,⟨some 4,.mv (.tmp 11),none⟩])
 .ret)))⟩
theorem is193 : Is Proofs.Tryz.prog 6 193 F193 := mkIs Proofs.Tryz.func193 (by kernel_rfl) (by decide) (by kernel_rfl) Proofs.Tryz.ntmps193 (by kernel_rfl)
def F194 : AFunc := ⟨8,[.tmp 4],(.seq (.ops [⟨some 4,.mv (.const (.int .i64 0)),none⟩])
 (.seq (.ops [⟨some 5,.mv (.tmp 0),none⟩,⟨some 6,.mv (.tmp 1),none⟩,⟨some 7,.call (.func 218) [.tmp 5,.tmp 6],none⟩,⟨some 4,.mv (.tmp 7),none⟩])
 .ret))⟩
theorem is194 : Is Proofs.Tryz.prog 6 194 F194 := mkIs Proofs.Tryz.func194 (by kernel_rfl) (by decide) (by kernel_rfl) Proofs.Tryz.ntmps194 (by kernel_rfl)
def F196 : AFunc := ⟨5,[.tmp 2],(.seq (.ops [⟨some 2,.mv (.const (.slice none 0 0)),none⟩])
 (.seq (.ops [⟨some 3,.mv (.tmp 0),none⟩,⟨some 4,.call (.func 220) [(.const (.slice none 0 0)),.tmp 3],none⟩,⟨some 2,.mv (.tmp 4),none⟩])
 .ret))⟩
theorem is196 : Is Proofs.Tryz.prog 6 196 F196 := mkIs Proofs.Tryz.func196 (by kernel_rfl) (by decide) (by kernel_rfl) Proofs.Tryz.ntmps196 (by kernel_rfl)
def F197 : AFunc := ⟨32,[.tmp 2],(.seq (.ops [⟨some 2,.mv (.const (.pointer none)),none⟩])
 (.seq (.ops [⟨some 6,.mv (.tmp 0),none⟩,⟨some 7,.mv (.tmp 0),none⟩,⟨some 8,.call (.func 221) [.tmp 7],none⟩,⟨some 9,.mkmap,none⟩,⟨some 10,.build [(.string ⟨#[]⟩),(.slice none 0 0),(.map none)] [(0,1,.tmp 6),(1,1,.tmp 8),(2,1,.tmp 9)],none⟩,⟨some 11,.box (.tmp 10) 275,none⟩,⟨some 3,.mv (.tmp 11),none⟩])
 (.seq (.seq (.ops [⟨some 12,.mv (.tmp 3),none⟩,⟨some 13,.nilck (.tmp 12),none⟩,⟨some 14,.faddr (.tmp 13) 1,none⟩,⟨some 15,.load (.tmp 14) none,none⟩,⟨some 16,.lenL (.tmp 15),none⟩,⟨some 17,.mv (.const (.int .i64 0)),none⟩])
 (.block 0
 (.loop
 (.seq (.ops [⟨some 18,.bin .lss (.tmp 17) (.tmp 16),none⟩])
 (.seq (.cond (.tmp 18)
 .skip
 (.exit 0))
 (.seq (.block 1
 (.seq (.ops [⟨some 19,.mv (.tmp 17),none⟩,⟨some 20,.idx (.tmp 15) (.tmp 17) 5,none⟩,⟨some 21,.load (.tmp 20) (some 5),none⟩,⟨some 5,.new [(.int .i64 0),(.int .i64 0),(.int .i64 0),(.int .i64 0),(.bool false)] 147,none⟩,⟨some 4,.mv (.tmp 19),none⟩,⟨none,.store (.tmp 5) (.tmp 21) 5,none⟩])
 (.draw 0 [.run ⟨some 22,.mv (.tmp 3),none⟩,.run ⟨some 23,.nilck (.tmp 22),none⟩,.run ⟨some 24,.faddr (.tmp 23) 2,none⟩,.run ⟨some 26,.faddr (.tmp 5) 1,none⟩,.run ⟨some 28,.mv (.tmp 4),none⟩,.run ⟨some 29,.bin .add (.tmp 28) (.const (.int .i64 1)),none⟩,.run ⟨some 25,.load (.tmp 24) none,none⟩,.run ⟨some 27,.load (.tmp 26) none,none⟩,.run ⟨none,.mset .int (.tmp 25) (.tmp 27) (.tmp 29),none⟩])))
 (.ops [⟨some 30,.bin .add (.tmp 17) (.const (.int .i64 1)),none⟩,⟨some 17,.mv (.tmp 30),none⟩])))))))
 (.seq (.ops [⟨some 31,.mv (.tmp 3),none⟩,⟨some 2,.mv (.tmp 31),none⟩])
 .ret))))⟩
theorem is197 : Is Proofs.Tryz.prog 6 197 F197 := mkIs Proofs.Tryz.func197 (by kernel_rfl) (by decide) (by kernel_rfl) Proofs.Tryz.ntmps197 (by kernel_rfl)
def F198 : AFunc := ⟨4,[.tmp 2],(.seq (.ops [⟨some 1,.box (.tmp 0) 258,none⟩,⟨some 2,.mv (.const .nilFunc),none⟩])
 (.seq (.ops [⟨some 3,.mkfn 222 [.tmp 1],none⟩,⟨some 2,.mv (.tmp 3),none⟩])
 .ret))⟩
theorem is198 : Is Proofs.Tryz.prog 6 198 F198 := mkIs Proofs.Tryz.func198 (by kernel_rfl) (by decide) (by kernel_rfl) Proofs.Tryz.ntmps198 (by kernel_rfl)
def F211 : AFunc := ⟨22,[.tmp 4],(.seq (.ops [⟨some 2,.box (.tmp 0) 112,none⟩,⟨some 4,.mv (.const (.bool false)),none⟩])
 (.seq (.seq (.ops [⟨some 5,.faddr (.tmp 2) 0,none⟩,⟨some 6,.load (.tmp 5) none,none⟩])
 (.block 0
 (.seq (.ops [⟨some 8,.eqv false (.scalar .int) (.tmp 6) (.const (.int .i64 1)),none⟩,⟨some 7,.mv (.tmp 8),none⟩])
 (.cond (.tmp 7)
 (.seq (.ops [⟨some 9,.faddr (.tmp 2) 1,none⟩,⟨some 10,.load (.tmp 9) none,none⟩,⟨some 11,.mv (.tmp 1),none⟩,⟨some 12,.eqv false (.scalar .int) (.tmp 10) (.tmp 11),none⟩,⟨some 4,.mv (.tmp 12),none⟩])
 .ret)
 (.seq (.ops [⟨some 14,.eqv false (.scalar .int) (.tmp 6) (.const (.int .i64 4)),none⟩,⟨some 13,.mv (.tmp 14),none⟩])
 (.cond (.tmp 13)
 (.seq (.ops [⟨some 15,.faddr (.tmp 2) 2,none⟩,⟨some 16,.load (.tmp 15) (some 4),none⟩,⟨some 17,.mv (.tmp 1),none⟩,⟨some 18,.call (.func 240) [.tmp 16,.tmp 17],none⟩,⟨some 4,.mv (.tmp 18),none⟩])
 .ret)
 .skip))))))
 (.seq (.ops [⟨some 19,.faddr (.tmp 2) 0,none⟩,⟨some 20,.load (.tmp 19) none,none⟩,⟨some 21,.eqv false (.scalar .int) (.tmp 20) (.const (.int .i64 2)),none⟩,⟨some 4,.mv (.tmp 21),none⟩])
 .ret)))⟩
theorem is211 : Is Proofs.Tryz.prog 6 211 F211 := mkIs Proofs.Tryz.func211 (by kernel_rfl) (by decide) (by kernel_rfl) Proofs.Tryz.ntmps211 (by kernel_rfl)
def F212 : AFunc := ⟨5,[.tmp 2],(.seq (.ops [⟨some 2,.mv (.const (.slice none 0 0)),none⟩])
 (.seq (.ops [⟨some 3,.mv (.tmp 0),none⟩,⟨some 4,.call (.func 241) [(.const (.slice none 0 0)),.tmp 3],none⟩,⟨some 2,.mv (.tmp 4),none⟩])
 .ret))⟩
theorem is212 : Is Proofs.Tryz.prog 6 212 F212 := mkIs Proofs.Tryz.func212 (by kernel_rfl) (by decide) (by kernel_rfl) Proofs.Tryz.ntmps212 (by kernel_rfl)
def F216 : AFunc := ⟨6,[.tmp 2],(.seq (.ops [⟨some 2,.mv (.const (.bool false)),none⟩])
 (.seq (.ops [⟨some 3,.mv (.tmp 0),none⟩,⟨some 4,.call (.func 137) [.tmp 3],none⟩,⟨some 5,.eqv false (.scalar .int) (.tmp 4) (.const (.int .i64 5)),none⟩,⟨some 2,.mv (.tmp 5),none⟩])
 .ret))⟩
theorem is216 : Is Proofs.Tryz.prog 6 216 F216 := mkIs Proofs.Tryz.func216 (by kernel_rfl) (by decide) (by kernel_rfl) Proofs.Tryz.ntmps216 (by kernel_rfl)
def F217 : AFunc := ⟨9,[.tmp 2],(.seq (.ops [⟨some 2,.mv (.const (.bool false)),none⟩])
 (.seq (.ops [⟨some 3,.mv (.tmp 0),none⟩,⟨some 4,.call (.func 216) [.tmp 3],none⟩,⟨some 5,.mv (.tmp 4),none⟩,⟨some 6,.mv (.tmp 0),(some (5,false))⟩,⟨some 7,.call (.func 178) [.tmp 6],(some (5,false))⟩,⟨some 8,.pick (.tmp 5) (.const (.bool true)) (.tmp 7),none⟩,⟨some 2,.mv (.tmp 8),none⟩])
 .ret))⟩
theorem is217 : Is Proofs.Tryz.prog 6 217 F217 := mkIs Proofs.Tryz.func217 (by kernel_rfl) (by decide) (by kernel_rfl) Proofs.Tryz.ntmps217 (by kernel_rfl)
def F220 : AFunc := ⟨13,[.tmp 4],(.seq (.ops [⟨some 2,.box (.tmp 0) 67,none⟩,⟨some 4,.mv (.const (.slice none 0 0)),none⟩])
 (.seq (.seq (.ops [⟨some 6,.mv (.tmp 1),none⟩])
 (.block 0
 (.rfunc (.tmp 6) [7]
 (.ops [⟨some 5,.new [(.bool false),(.bool false),(.string ⟨#[]⟩)] 103,none⟩,⟨none,.store (.tmp 5) (.tmp 7) 3,none⟩])
 (.block 1
 (.ops [⟨some 8,.load (.tmp 2) none,none⟩,⟨some 9,.load (.tmp 5) (some 3),none⟩,⟨some 10,.mkslice 1 3 [(.bool false),(.bool false),(.string ⟨#[]⟩)] [(0,3,.tmp 9)],none⟩,⟨some 11,.app (.tmp 8) (.tmp 10) 3 103,none⟩,⟨none,.store (.tmp 2) (.tmp 11) 1,none⟩])))))
 (.seq (.ops [⟨some 12,.load (.tmp 2) none,none⟩,⟨some 4,.mv (.tmp 12),none⟩])
 .ret)))⟩
theorem is220 : Is Proofs.Tryz.prog 6 220 F220 := mkIs Proofs.Tryz.func220 (by kernel_rfl) (by decide) (by kernel_rfl) Proofs.Tryz.ntmps220 (by kernel_rfl)
def F221 : AFunc := ⟨79,[.tmp 2],(.seq (.ops [⟨some 2,.mv (.const (.slice none 0 0)),none⟩])
 (.seq (.ops [⟨some 8,.build [(.slice none 0 0),(.slice none 0 0)] [],none⟩,⟨some 9,.box (.tmp 8) 298,none⟩,⟨some 3,.mv (.tmp 9),none⟩])
 (.seq (.ops [⟨some 10,.call (.func 243) [],none⟩,⟨some 4,.mv (.tmp 10),none⟩])
 (.seq (.seq (.ops [⟨some 11,.mv (.tmp 0),none⟩,⟨some 12,.lenS (.tmp 11),none⟩,⟨some 13,.mv (.const (.int .i64 0)),none⟩])
 (.block 0
 (.loop
 (.seq (.ops [⟨some 14,.bin .lss (.tmp 13) (.tmp 12),none⟩])
 (.seq (.cond (.tmp 14)
 .skip
 (.exit 0))
 (.seq (.block 1
 (.seq (.ops [⟨some 15,.mv (.tmp 13),none⟩,⟨some 5,.mv (.tmp 15),none⟩])
 (.seq (.ops [⟨some 16,.mv (.tmp 4),none⟩,⟨some 17,.mv (.tmp 0),none⟩,⟨some 18,.mv (.tmp 5),none⟩,⟨some 19,.strAt (.tmp 17) (.tmp 18),none⟩,⟨some 20,.call (.func 244) [.tmp 16,.tmp 19],none⟩])
 (.ops [⟨some 21,.mv (.tmp 3),none⟩,⟨some 22,.mv (.tmp 4),none⟩,⟨some 23,.call (.func 246) [.tmp 22],none⟩,⟨some 24,.mv (.tmp 5),none⟩,⟨some 25,.call (.func 245) [.tmp 21,.tmp 23,.tmp 24],none⟩]))))
 (.ops [⟨some 26,.bin .add (.tmp 13) (.const (.int .i64 1)),none⟩,⟨some 13,.mv (.tmp 26),none⟩])))))))
 (.seq (.seq (.ops [⟨some 27,.mv (.tmp 3),none⟩,⟨some 28,.nilck (.tmp 27),none⟩,⟨some 29,.faddr (.tmp 28) 0,none⟩,⟨some 30,.load (.tmp 29) none,none⟩,⟨some 31,.lenL (.tmp 30),none⟩,⟨some 32,.mv (.const (.int .i64 0)),none⟩])
 (.block 2
 (.loop
 (.seq (.ops [⟨some 33,.bin .lss (.tmp 32) (.tmp 31),none⟩])
 (.seq (.cond (.tmp 33)
 .skip
 (.exit 2))
 (.seq (.block 3
 (.seq (.ops [⟨some 34,.mv (.tmp 32),none⟩,⟨some 6,.mv (.tmp 34),none⟩])
 (.seq (.ops [⟨some 35,.mv (.tmp 3),none⟩,⟨some 36,.nilck (.tmp 35),none⟩,⟨some 37,.faddr (.tmp 36) 0,none⟩,⟨some 38,.load (.tmp 37) none,none⟩,⟨some 39,.mv (.tmp 6),none⟩,⟨some 40,.idx (.tmp 38) (.tmp 39) 5,none⟩,⟨some 7,.mv (.tmp 40),none⟩])
 (.seq (.seq (.ops [⟨some 41,.mv (.tmp 7),none⟩,⟨some 42,.nilck (.tmp 41),none⟩,⟨some 43,.faddr (.tmp 42) 4,none⟩,⟨some 44,.load (.tmp 43) none,none⟩])
 (.cond (.tmp 44)
 (.ops [⟨some 45,.mv (.tmp 7),none⟩,⟨some 46,.mv (.tmp 0),none⟩,⟨some 47,.lenS (.tmp 46),none⟩,⟨some 48,.nilck (.tmp 45),none⟩,⟨some 49,.faddr (.tmp 48) 2,none⟩,⟨none,.store (.tmp 49) (.tmp 47) 1,none⟩])
 .skip))
 (.seq (.ops [⟨some 50,.mv (.tmp 7),none⟩,⟨some 51,.nilck (.tmp 50),none⟩,⟨some 52,.faddr (.tmp 51) 0,none⟩,⟨some 53,.load (.tmp 52) none,none⟩,⟨some 54,.eqv false (.scalar .int) (.tmp 53) (.const (.int .i64 12)),none⟩])
 (.cond (.tmp 54)
 (.draw 0 [.run ⟨some 55,.mv (.tmp 7),none⟩,.run ⟨some 56,.mv (.tmp 7),none⟩,.run ⟨some 57,.mv (.tmp 7),none⟩,.run ⟨some 58,.nilck (.tmp 57),none⟩,.run ⟨some 59,.faddr (.tmp 58) 1,none⟩,.run ⟨some 62,.mv (.tmp 0),none⟩,.run ⟨some 63,.mv (.tmp 7),none⟩,.run ⟨some 64,.nilck (.tmp 63),none⟩,.run ⟨some 65,.faddr (.tmp 64) 1,none⟩,.run ⟨some 60,.load (.tmp 59) none,none⟩,.run ⟨some 61,.bin .add (.tmp 60) (.const (.int .i64 1)),none⟩,.run ⟨some 66,.load (.tmp 65) none,none⟩,.run ⟨some 67,.bin .add (.tmp 66) (.const (.int .i64 1)),none⟩,.run ⟨some 68,.call (.func 229) [.tmp 62,.tmp 67],none⟩,.chk ⟨some 60,.load (.tmp 59) none,none⟩,.run ⟨some 69,.bin .add (.tmp 61) (.tmp 68),none⟩,.run ⟨some 70,.nilck (.tmp 55),none⟩,.run ⟨some 71,.faddr (.tmp 70) 2,none⟩,.run ⟨none,.store (.tmp 71) (.tmp 69) 1,none⟩,.run ⟨some 72,.nilck (.tmp 56),none⟩,.run ⟨some 73,.faddr (.tmp 72) 4,none⟩,.run ⟨none,.store (.tmp 73) (.const (.bool false)) 1,none⟩])
 .skip))))))
 (.ops [⟨some 74,.bin .add (.tmp 32) (.const (.int .i64 1)),none⟩,⟨some 32,.mv (.tmp 74),none⟩])))))))
 (.seq (.ops [⟨some 75,.mv (.tmp 3),none⟩,⟨some 76,.nilck (.tmp 75),none⟩,⟨some 77,.faddr (.tmp 76) 0,none⟩,⟨some 78,.load (.tmp 77) none,none⟩,⟨some 2,.mv (.tmp 78),none⟩])
 .ret))))))⟩
theorem is221 : Is Proofs.Tryz.prog 6 221 F221 := mkIs Proofs.Tryz.func221 (by kernel_rfl) (by decide) (by kernel_rfl) Proofs.Tryz.ntmps221 (by kernel_rfl)
def F222 : AFunc := ⟨112,[],(.seq (.ops [⟨some 2,.box (.tmp 0) 261,none⟩])
 (.seq (.ops [⟨some 3,.new [(.slice none 0 0)] 113,none⟩])
 (.seq (.ops [⟨some 10,.mkfn 223 [.tmp 3,.tmp 2],none⟩,⟨some 4,.mv (.tmp 10),none⟩])
 (.seq .skip
 (.seq (.seq (.ops [⟨some 5,.mv (.const (.int .i64 0)),none⟩])
 (.block 0
 (.loop
 (.seq (.seq (.ops [⟨some 11,.mv (.tmp 5),none⟩,⟨some 12,.load (.tmp 1) none,none⟩,⟨some 13,.nilck (.tmp 12),none⟩,⟨some 14,.faddr (.tmp 13) 0,none⟩,⟨some 15,.load (.tmp 14) none,none⟩,⟨some 16,.lenS (.tmp 15),none⟩,⟨some 17,.bin .lss (.tmp 11) (.tmp 16),none⟩])
 (.cond (.tmp 17)
 .skip
 (.exit 0)))
 (.block 1
 (.seq (.ops [⟨some 19,.load (.tmp 1) none,none⟩,⟨some 20,.mv (.tmp 5),none⟩,⟨some 21,.call (.func 224) [.tmp 19,.tmp 20],none⟩,⟨some 18,.mv (.tmp 21),none⟩,⟨some 22,.ext (.tmp 18) 0,none⟩,⟨some 23,.ext (.tmp 18) 1,none⟩,⟨some 6,.new [(.int .i64 0),(.int .i64 0),(.int .i64 0),(.int .i64 0),(.bool false)] 147,none⟩,⟨none,.store (.tmp 6) (.tmp 22) 5,none⟩,⟨some 7,.mv (.tmp 23),none⟩])
 (.seq (.seq (.ops [⟨some 24,.mv (.tmp 7),none⟩,⟨some 25,.un .not (.tmp 24),none⟩])
 (.cond (.tmp 25)
 (.seq (.draw 1 [.run ⟨some 31,.mv (.tmp 5),none⟩,.run ⟨some 26,.load (.tmp 3) none,none⟩,.run ⟨some 27,.load (.tmp 1) none,none⟩,.run ⟨some 28,.nilck (.tmp 27),none⟩,.run ⟨some 29,.faddr (.tmp 28) 0,none⟩,.run ⟨some 30,.load (.tmp 29) none,none⟩,.run ⟨some 32,.strAt (.tmp 30) (.tmp 31),none⟩,.nam ⟨some 33,.mkslice 1 1 [(.int .u8 0)] [(0,1,.tmp 32)],none⟩ 0,.lay ⟨some 33,.mkslice 1 1 [(.int .u8 0)] [(0,1,.tmp 32)],none⟩ 0,.run ⟨some 34,.app (.tmp 26) (.tmp 33) 1 5,none⟩,.run ⟨none,.store (.tmp 3) (.tmp 34) 1,none⟩])
 (.seq (.ops [⟨some 35,.mv (.tmp 5),none⟩,⟨some 36,.bin .add (.tmp 35) (.const (.int .i64 1)),none⟩,⟨some 5,.mv (.tmp 36),none⟩])
 (.exit 1)))
 .skip))
 (.seq (.ops [⟨some 37,.faddr (.tmp 6) 2,none⟩,⟨some 38,.load (.tmp 37) none,none⟩,⟨some 5,.mv (.tmp 38),none⟩])
 (.block 2
 (.seq (.seq (.ops [⟨some 57,.load (.tmp 6) (some 5),none⟩,⟨some 58,.call (.func 225) [.tmp 57],none⟩,⟨some 56,.mv (.tmp 58),none⟩])
 (.cond (.tmp 56)
 .skip
 (.ops [⟨some 59,.faddr (.tmp 6) 0,none⟩,⟨some 60,.load (.tmp 59) none,none⟩,⟨some 61,.eqv false (.scalar .int) (.tmp 60) (.const (.int .i64 14)),none⟩,⟨some 56,.mv (.tmp 61),none⟩])))
 (.cond (.tmp 56)
 (.seq (.draw 0 [.run ⟨some 67,.faddr (.tmp 6) 1,none⟩,.run ⟨some 69,.faddr (.tmp 6) 2,none⟩,.run ⟨some 62,.load (.tmp 3) none,none⟩,.run ⟨some 63,.load (.tmp 1) none,none⟩,.run ⟨some 64,.nilck (.tmp 63),none⟩,.run ⟨some 65,.faddr (.tmp 64) 0,none⟩,.run ⟨some 66,.load (.tmp 65) none,none⟩,.run ⟨some 68,.load (.tmp 67) none,none⟩,.run ⟨some 70,.load (.tmp 69) none,none⟩,.run ⟨some 71,.slStr (.tmp 66) (some (.tmp 68)) (some (.tmp 70)),none⟩,.run ⟨some 72,.appStr (.tmp 62) (.tmp 71) 5,none⟩,.run ⟨none,.store (.tmp 3) (.tmp 72) 1,none⟩])
 (.exit 1))
 (.seq (.seq (.ops [⟨some 74,.faddr (.tmp 6) 0,none⟩,⟨some 75,.load (.tmp 74) none,none⟩,⟨some 76,.eqv false (.scalar .int) (.tmp 75) (.const (.int .i64 13)),none⟩,⟨some 73,.mv (.tmp 76),none⟩])
 (.cond (.tmp 73)
 .skip
 (.ops [⟨some 77,.faddr (.tmp 6) 0,none⟩,⟨some 78,.load (.tmp 77) none,none⟩,⟨some 79,.eqv false (.scalar .int) (.tmp 78) (.const (.int .i64 4)),none⟩,⟨some 73,.mv (.tmp 79),none⟩])))
 (.cond (.tmp 73)
 (.seq (.ops [⟨some 81,.load (.tmp 1) none,none⟩,⟨some 82,.load (.tmp 6) (some 5),none⟩,⟨some 83,.call (.func 226) [.tmp 81,.tmp 82],none⟩,⟨some 80,.mv (.tmp 83),none⟩,⟨some 84,.ext (.tmp 80) 0,none⟩,⟨some 85,.ext (.tmp 80) 1,none⟩,⟨some 8,.new [(.bool false),(.bool false),(.string ⟨#[]⟩)] 103,none⟩,⟨none,.store (.tmp 8) (.tmp 84) 3,none⟩,⟨some 9,.mv (.tmp 85),none⟩])
 (.seq (.ops [⟨some 86,.mv (.tmp 9),none⟩,⟨some 87,.mv (.tmp 86),none⟩,⟨some 88,.mv (.tmp 4),(some (87,true))⟩,⟨some 89,.call (.tmp 88) [],(some (87,true))⟩,⟨some 90,.mv (.tmp 89),(some (87,true))⟩,⟨some 91,.load (.tmp 2) none,(some (90,true))⟩,⟨some 92,.load (.tmp 8) (some 3),(some (90,true))⟩,⟨some 93,.call (.tmp 91) [.tmp 92],(some (90,true))⟩,⟨some 94,.pick (.tmp 90) (.tmp 93) (.const (.bool false)),(some (87,true))⟩,⟨some 95,.un .not (.tmp 94),(some (87,true))⟩,⟨some 96,.pick (.tmp 87) (.tmp 95) (.const (.bool false)),none⟩])
 (.cond (.tmp 96)
 .ret
 .skip)))
 (.seq (.ops [⟨some 98,.faddr (.tmp 6) 0,none⟩,⟨some 99,.load (.tmp 98) none,none⟩,⟨some 100,.eqv false (.scalar .int) (.tmp 99) (.const (.int .i64 5)),none⟩,⟨some 97,.mv (.tmp 100),none⟩])
 (.cond (.tmp 97)
 (.seq (.ops [⟨some 101,.mv (.tmp 4),none⟩,⟨some 102,.call (.tmp 101) [],none⟩,⟨some 103,.mv (.tmp 102),none⟩,⟨some 104,.load (.tmp 1) none,(some (103,true))⟩,⟨some 105,.load (.tmp 6) (some 5),(some (103,true))⟩,⟨some 106,.load (.tmp 2) none,(some (103,true))⟩,⟨some 107,.call (.func 227) [.tmp 104,.tmp 105,.tmp 106],(some (103,true))⟩,⟨some 108,.pick (.tmp 103) (.tmp 107) (.const (.bool false)),none⟩,⟨some 109,.un .not (.tmp 108),none⟩])
 (.cond (.tmp 109)
 .ret
 .skip))
 (.seq (.draw 0 [.run ⟨some 39,.mv (.tmp 4),none⟩,.run ⟨some 40,.call (.tmp 39) [],none⟩,.run ⟨some 41,.mv (.tmp 40),none⟩,.run ⟨some 47,.faddr (.tmp 6) 1,(some (41,true))⟩,.run ⟨some 49,.faddr (.tmp 6) 2,(some (41,true))⟩,.run ⟨some 42,.load (.tmp 2) none,(some (41,true))⟩,.run ⟨some 43,.load (.tmp 1) none,(some (41,true))⟩,.run ⟨some 44,.nilck (.tmp 43),(some (41,true))⟩,.run ⟨some 45,.faddr (.tmp 44) 0,(some (41,true))⟩,.run ⟨some 46,.load (.tmp 45) none,(some (41,true))⟩,.run ⟨some 48,.load (.tmp 47) none,(some (41,true))⟩,.run ⟨some 50,.load (.tmp 49) none,(some (41,true))⟩,.run ⟨some 51,.slStr (.tmp 46) (some (.tmp 48)) (some (.tmp 50)),(some (41,true))⟩,.run ⟨some 52,.build [(.bool false),(.bool false),(.string ⟨#[]⟩)] [(0,1,(.const (.bool true))),(2,1,.tmp 51)],(some (41,true))⟩,.run ⟨some 53,.call (.tmp 42) [.tmp 52],(some (41,true))⟩,.run ⟨some 54,.pick (.tmp 41) (.tmp 53) (.const (.bool false)),none⟩,.run ⟨some 55,.un .not (.tmp 54),none⟩])
 (.cond (.tmp 55)
 .ret
 .skip)))))))))))))))))
 (.ops [⟨some 110,.mv (.tmp 4),none⟩,⟨some 111,.call (.tmp 110) [],none⟩]))))))⟩
theorem is222 : Is Proofs.Tryz.prog 6 222 F222 := mkIs Proofs.Tryz.func222 (by kernel_rfl) (by decide) (by kernel_rfl) Proofs.Tryz.ntmps222 (by kernel_rfl)
def F223 : AFunc := ⟨14,[.tmp 2],(.seq (.ops [⟨some 2,.mv (.const (.bool false)),none⟩])
 (.seq (.ops [⟨some 4,.load (.tmp 0) none,none⟩,⟨some 5,.toStr (.tmp 4),none⟩,⟨some 3,.mv (.tmp 5),none⟩])
 (.seq (.ops [⟨none,.store (.tmp 0) (.const (.slice none 0 0)) 1,none⟩])
 (.seq (.ops [⟨some 6,.mv (.tmp 3),none⟩,⟨some 7,.eqv false (.scalar .str) (.tmp 6) (.const (.string ⟨#[]⟩)),none⟩,⟨some 8,.mv (.tmp 7),none⟩,⟨some 9,.load (.tmp 1) none,(some (8,false))⟩,⟨some 10,.mv (.tmp 3),(some (8,false))⟩,⟨some 11,.build [(.bool false),(.bool false),(.string ⟨#[]⟩)] [(2,1,.tmp 10)],(some (8,false))⟩,⟨some 12,.call (.tmp 9) [.tmp 11],(some (8,false))⟩,⟨some 13,.pick (.tmp 8) (.const (.bool true)) (.tmp 12),none⟩,⟨some 2,.mv (.tmp 13),none⟩])
 .ret))))⟩
theorem is223 : Is Proofs.Tryz.prog 6 223 F223 := mkIs Proofs.Tryz.func223 (by kernel_rfl) (by decide) (by kernel_rfl) Proofs.Tryz.ntmps223 (by kernel_rfl)
def F224 : AFunc := ⟨24,[.cell 4 (some 5),.tmp 5],(.seq (.ops [⟨some 4,.new [(.int .i64 0),(.int .i64 0),(.int .i64 0),(.int .i64 0),(.bool false)] 147,none⟩,⟨some 5,.mv (.const (.bool false)),none⟩])
 (.seq (.ops [⟨some 7,.mv (.tmp 0),none⟩,⟨some 8,.nilck (.tmp 7),none⟩,⟨some 9,.faddr (.tmp 8) 2,none⟩,⟨some 10,.load (.tmp 9) none,none⟩,⟨some 11,.mv (.tmp 1),none⟩,⟨some 12,.look .int (.tmp 10) (.tmp 11) (.int .i64 0) false,none⟩,⟨some 6,.mv (.tmp 12),none⟩])
 (.seq (.seq (.ops [⟨some 13,.mv (.tmp 6),none⟩,⟨some 14,.eqv false (.scalar .int) (.tmp 13) (.const (.int .i64 0)),none⟩])
 (.cond (.tmp 14)
 (.seq (.ops [⟨some 15,.build [(.int .i64 0),(.int .i64 0),(.int .i64 0),(.int .i64 0),(.bool false)] [],none⟩,⟨none,.store (.tmp 4) (.tmp 15) 5,none⟩,⟨some 5,.mv (.const (.bool false)),none⟩])
 .ret)
 .skip))
 (.seq (.ops [⟨some 16,.mv (.tmp 0),none⟩,⟨some 17,.nilck (.tmp 16),none⟩,⟨some 18,.faddr (.tmp 17) 1,none⟩,⟨some 19,.load (.tmp 18) none,none⟩,⟨some 20,.mv (.tmp 6),none⟩,⟨some 21,.bin .sub (.tmp 20) (.const (.int .i64 1)),none⟩,⟨some 22,.idx (.tmp 19) (.tmp 21) 5,none⟩,⟨some 23,.load (.tmp 22) (some 5),none⟩,⟨none,.store (.tmp 4) (.tmp 23) 5,none⟩,⟨some 5,.mv (.const (.bool true)),none⟩])
 .ret))))⟩
theorem is224 : Is Proofs.Tryz.prog 6 224 F224 := mkIs Proofs.Tryz.func224 (by kernel_rfl) (by decide) (by kernel_rfl) Proofs.Tryz.ntmps224 (by kernel_rfl)
def F225 : AFunc := ⟨14,[.tmp 2],(.seq (.ops [⟨some 1,.box (.tmp 0) 147,none⟩,⟨some 2,.mv (.const (.bool false)),none⟩])
 (.seq (.ops [⟨some 3,.faddr (.tmp 1) 0,none⟩,⟨some 4,.load (.tmp 3) none,none⟩,⟨some 5,.eqv false (.scalar .int) (.tmp 4) (.const (.int .i64 12)),none⟩,⟨some 6,.mv (.tmp 5),none⟩,⟨some 7,.faddr (.tmp 1) 2,(some (6,true))⟩,⟨some 8,.load (.tmp 7) none,(some (6,true))⟩,⟨some 9,.faddr (.tmp 1) 1,(some (6,true))⟩,⟨some 10,.load (.tmp 9) none,(some (6,true))⟩,⟨some 11,.bin .add (.tmp 10) (.const (.int .i64 1)),(some (6,true))⟩,⟨some 12,.eqv false (.scalar .int) (.tmp 8) (.tmp 11),(some (6,true))⟩,⟨some 13,.pick (.tmp 6) (.tmp 12) (.const (.bool false)),none⟩,⟨some 2,.mv (.tmp 13),none⟩])
 .ret))⟩
theorem is225 : Is Proofs.Tryz.prog 6 225 F225 := mkIs Proofs.Tryz.func225 (by kernel_rfl) (by decide) (by kernel_rfl) Proofs.Tryz.ntmps225 (by kernel_rfl)
def F226 : AFunc := ⟨43,[.cell 4 (some 3),.tmp 5],(.seq (.ops [⟨some 3,.box (.tmp 1) 147,none⟩,⟨some 4,.new [(.bool false),(.bool false),(.string ⟨#[]⟩)] 103,none⟩,⟨some 5,.mv (.const (.bool false)),none⟩])
 (.seq (.seq (.ops [⟨some 9,.faddr (.tmp 3) 0,none⟩,⟨some 10,.load (.tmp 9) none,none⟩,⟨some 11,.eqv false (.scalar .int) (.tmp 10) (.const (.int .i64 4)),none⟩])
 (.cond (.tmp 11)
 (.seq (.ops [⟨some 13,.load (.tmp 3) (some 5),none⟩,⟨some 14,.call (.func 247) [.tmp 13],none⟩,⟨some 12,.mv (.tmp 14),none⟩,⟨some 15,.ext (.tmp 12) 0,none⟩,⟨some 16,.ext (.tmp 12) 1,none⟩,⟨some 6,.mv (.tmp 15),none⟩,⟨some 7,.mv (.tmp 16),none⟩])
 (.seq (.ops [⟨some 17,.mv (.tmp 0),none⟩,⟨some 18,.nilck (.tmp 17),none⟩,⟨some 19,.faddr (.tmp 18) 0,none⟩,⟨some 20,.load (.tmp 19) none,none⟩,⟨some 21,.mv (.tmp 6),none⟩,⟨some 22,.mv (.tmp 7),none⟩,⟨some 23,.slStr (.tmp 20) (some (.tmp 21)) (some (.tmp 22)),none⟩,⟨some 24,.build [(.bool false),(.bool false),(.string ⟨#[]⟩)] [(1,1,(.const (.bool true))),(2,1,.tmp 23)],none⟩,⟨none,.store (.tmp 4) (.tmp 24) 3,none⟩,⟨some 5,.mv (.const (.bool true)),none⟩])
 .ret))
 .skip))
 (.seq (.draw 0 [.run ⟨some 25,.mv (.tmp 0),none⟩,.run ⟨some 26,.nilck (.tmp 25),none⟩,.run ⟨some 27,.faddr (.tmp 26) 0,none⟩,.run ⟨some 29,.faddr (.tmp 3) 1,none⟩,.run ⟨some 32,.faddr (.tmp 3) 2,none⟩,.run ⟨some 28,.load (.tmp 27) none,none⟩,.run ⟨some 30,.load (.tmp 29) none,none⟩,.run ⟨some 31,.bin .add (.tmp 30) (.const (.int .i64 1)),none⟩,.run ⟨some 33,.load (.tmp 32) none,none⟩,.run ⟨some 34,.slStr (.tmp 28) (some (.tmp 31)) (some (.tmp 33)),none⟩,.run ⟨some 8,.mv (.tmp 34),none⟩])
 (.seq (.ops [⟨some 35,.mv (.tmp 8),none⟩,⟨some 36,.build [(.bool false),(.bool false),(.string ⟨#[]⟩)] [(1,1,(.const (.bool true))),(2,1,.tmp 35)],none⟩,⟨some 37,.mv (.tmp 8),none⟩,⟨some 38,.eqv true (.scalar .str) (.tmp 37) (.const (.string ⟨#[]⟩)),none⟩,⟨some 39,.mv (.tmp 38),none⟩,⟨some 40,.mv (.tmp 8),(some (39,true))⟩,⟨some 41,.eqv true (.scalar .str) (.tmp 40) (.const (.string ⟨#[10]⟩)),(some (39,true))⟩,⟨some 42,.pick (.tmp 39) (.tmp 41) (.const (.bool false)),none⟩,⟨none,.store (.tmp 4) (.tmp 36) 3,none⟩,⟨some 5,.mv (.tmp 42),none⟩])
 .ret))))⟩
theorem is226 : Is Proofs.Tryz.prog 6 226 F226 := mkIs Proofs.Tryz.func226 (by kernel_rfl) (by decide) (by kernel_rfl) Proofs.Tryz.ntmps226 (by kernel_rfl)
def F227 : AFunc := ⟨95,[.tmp 6],(.seq (.ops [⟨some 4,.box (.tmp 1) 147,none⟩,⟨some 6,.mv (.const (.bool false)),none⟩])
 (.seq (.ops [⟨some 15,.load (.tmp 4) (some 5),none⟩,⟨some 16,.call (.func 247) [.tmp 15],none⟩,⟨some 14,.mv (.tmp 16),none⟩,⟨some 17,.ext (.tmp 14) 0,none⟩,⟨some 18,.ext (.tmp 14) 1,none⟩,⟨some 7,.mv (.tmp 17),none⟩,⟨some 8,.mv (.tmp 18),none⟩])
 (.seq (.ops [⟨some 9,.mv (.const (.slice none 0 0)),none⟩])
 (.seq (.ops [⟨some 10,.mv (.const (.bool false)),none⟩])
 (.seq (.seq (.ops [⟨some 19,.mv (.tmp 7),none⟩,⟨some 11,.mv (.tmp 19),none⟩])
 (.block 0
 (.loop
 (.seq (.seq (.ops [⟨some 20,.mv (.tmp 11),none⟩,⟨some 21,.mv (.tmp 8),none⟩,⟨some 22,.bin .lss (.tmp 20) (.tmp 21),none⟩])
 (.cond (.tmp 22)
 .skip
 (.exit 0)))
 (.block 1
 (.seq (.ops [⟨some 24,.mv (.tmp 0),none⟩,⟨some 25,.mv (.tmp 11),none⟩,⟨some 26,.call (.func 224) [.tmp 24,.tmp 25],none⟩,⟨some 23,.mv (.tmp 26),none⟩,⟨some 27,.ext (.tmp 23) 0,none⟩,⟨some 28,.ext (.tmp 23) 1,none⟩,⟨some 12,.new [(.int .i64 0),(.int .i64 0),(.int .i64 0),(.int .i64 0),(.bool false)] 147,none⟩,⟨none,.store (.tmp 12) (.tmp 27) 5,none⟩,⟨some 13,.mv (.tmp 28),none⟩])
 (.block 2
 (.seq (.ops [⟨some 56,.mv (.tmp 13),none⟩,⟨some 57,.un .not (.tmp 56),none⟩,⟨some 58,.mv (.tmp 57),none⟩,⟨some 59,.load (.tmp 12) (some 5),(some (58,false))⟩,⟨some 60,.call (.func 225) [.tmp 59],(some (58,false))⟩,⟨some 61,.pick (.tmp 58) (.const (.bool true)) (.tmp 60),none⟩,⟨some 55,.mv (.tmp 61),none⟩])
 (.cond (.tmp 55)
 (.seq (.ops [⟨some 62,.mv (.tmp 9),none⟩,⟨some 63,.mv (.tmp 0),none⟩,⟨some 64,.nilck (.tmp 63),none⟩,⟨some 65,.faddr (.tmp 64) 0,none⟩,⟨some 66,.load (.tmp 65) none,none⟩,⟨some 67,.mv (.tmp 11),none⟩,⟨some 68,.strAt (.tmp 66) (.tmp 67),none⟩,⟨some 69,.mkslice 1 1 [(.int .u8 0)] [(0,1,.tmp 68)],none⟩,⟨some 70,.app (.tmp 62) (.tmp 69) 1 5,none⟩,⟨some 9,.mv (.tmp 70),none⟩])
 (.ops [⟨some 71,.mv (.tmp 11),none⟩,⟨some 72,.bin .add (.tmp 71) (.const (.int .i64 1)),none⟩,⟨some 11,.mv (.tmp 72),none⟩]))
 (.seq (.ops [⟨some 74,.faddr (.tmp 12) 0,none⟩,⟨some 75,.load (.tmp 74) none,none⟩,⟨some 76,.eqv false (.scalar .int) (.tmp 75) (.const (.int .i64 13)),none⟩,⟨some 73,.mv (.tmp 76),none⟩])
 (.cond (.tmp 73)
 (.seq (.ops [⟨some 77,.mv (.tmp 9),none⟩,⟨some 78,.mv (.tmp 0),none⟩,⟨some 79,.load (.tmp 12) (some 5),none⟩,⟨some 80,.call (.func 248) [.tmp 78,.tmp 79],none⟩,⟨some 81,.appStr (.tmp 77) (.tmp 80) 5,none⟩,⟨some 9,.mv (.tmp 81),none⟩])
 (.ops [⟨some 82,.faddr (.tmp 12) 2,none⟩,⟨some 83,.load (.tmp 82) none,none⟩,⟨some 11,.mv (.tmp 83),none⟩]))
 (.seq (.seq (.ops [⟨some 29,.mv (.tmp 9),none⟩,⟨some 30,.lenL (.tmp 29),none⟩,⟨some 31,.bin .gtr (.tmp 30) (.const (.int .i64 0)),none⟩,⟨some 32,.mv (.tmp 31),none⟩,⟨some 33,.mv (.tmp 2),(some (32,true))⟩,⟨some 34,.mv (.tmp 9),(some (32,true))⟩,⟨some 35,.toStr (.tmp 34),(some (32,true))⟩,⟨some 36,.build [(.bool false),(.bool false),(.string ⟨#[]⟩)] [(1,1,(.const (.bool true))),(2,1,.tmp 35)],(some (32,true))⟩,⟨some 37,.call (.tmp 33) [.tmp 36],(some (32,true))⟩,⟨some 38,.un .not (.tmp 37),(some (32,true))⟩,⟨some 39,.pick (.tmp 32) (.tmp 38) (.const (.bool false)),none⟩])
 (.cond (.tmp 39)
 (.seq (.ops [⟨some 6,.mv (.const (.bool false)),none⟩])
 .ret)
 .skip))
 (.seq (.seq (.draw 0 [.run ⟨some 40,.mv (.tmp 2),none⟩,.run ⟨some 41,.mv (.tmp 0),none⟩,.run ⟨some 42,.nilck (.tmp 41),none⟩,.run ⟨some 43,.faddr (.tmp 42) 0,none⟩,.run ⟨some 45,.faddr (.tmp 12) 1,none⟩,.run ⟨some 47,.faddr (.tmp 12) 2,none⟩,.run ⟨some 44,.load (.tmp 43) none,none⟩,.run ⟨some 46,.load (.tmp 45) none,none⟩,.run ⟨some 48,.load (.tmp 47) none,none⟩,.run ⟨some 49,.slStr (.tmp 44) (some (.tmp 46)) (some (.tmp 48)),none⟩,.run ⟨some 50,.build [(.bool false),(.bool false),(.string ⟨#[]⟩)] [(0,1,(.const (.bool true))),(1,1,(.const (.bool true))),(2,1,.tmp 49)],none⟩,.run ⟨some 51,.call (.tmp 40) [.tmp 50],none⟩,.run ⟨some 52,.un .not (.tmp 51),none⟩])
 (.cond (.tmp 52)
 (.seq (.ops [⟨some 6,.mv (.const (.bool false)),none⟩])
 .ret)
 .skip))
 (.draw 0 [.run ⟨some 53,.faddr (.tmp 12) 2,none⟩,.run ⟨some 9,.mv (.const (.slice none 0 0)),none⟩,.run ⟨some 10,.mv (.const (.bool true)),none⟩,.run ⟨some 54,.load (.tmp 53) none,none⟩,.run ⟨some 11,.mv (.tmp 54),none⟩]))))))))))))))
 (.seq (.seq (.ops [⟨some 84,.mv (.tmp 9),none⟩,⟨some 85,.lenL (.tmp 84),none⟩,⟨some 86,.eqv false (.scalar .int) (.tmp 85) (.const (.int .i64 0)),none⟩,⟨some 87,.mv (.tmp 86),none⟩,⟨some 88,.mv (.tmp 10),(some (87,true))⟩,⟨some 89,.pick (.tmp 87) (.tmp 88) (.const (.bool false)),none⟩])
 (.cond (.tmp 89)
 (.seq (.ops [⟨some 6,.mv (.const (.bool true)),none⟩])
 .ret)
 .skip))
 (.seq (.ops [⟨some 90,.mv (.tmp 2),none⟩,⟨some 91,.mv (.tmp 9),none⟩,⟨some 92,.toStr (.tmp 91),none⟩,⟨some 93,.build [(.bool false),(.bool false),(.string ⟨#[]⟩)] [(1,1,(.const (.bool true))),(2,1,.tmp 92)],none⟩,⟨some 94,.call (.tmp 90) [.tmp 93],none⟩,⟨some 6,.mv (.tmp 94),none⟩])
 .ret)))))))⟩
theorem is227 : Is Proofs.Tryz.prog 6 227 F227 := mkIs Proofs.Tryz.func227 (by kernel_rfl) (by decide) (by kernel_rfl) Proofs.Tryz.ntmps227 (by kernel_rfl)
def F241 : AFunc := ⟨13,[.tmp 4],(.seq (.ops [⟨some 2,.box (.tmp 0) 75,none⟩,⟨some 4,.mv (.const (.slice none 0 0)),none⟩])
 (.seq (.seq (.ops [⟨some 6,.mv (.tmp 1),none⟩])
 (.block 0
 (.rfunc (.tmp 6) [7]
 (.ops [⟨some 5,.new [(.int .i64 0),(.int .u8 0),(.int .u64 0),(.int .u64 0),(.int .u64 0),(.int .u64 0)] 112,none⟩,⟨none,.store (.tmp 5) (.tmp 7) 6,none⟩])
 (.block 1
 (.ops [⟨some 8,.load (.tmp 2) none,none⟩,⟨some 9,.load (.tmp 5) (some 6),none⟩,⟨some 10,.mkslice 1 6 [(.int .i64 0),(.int .u8 0),(.int .u64 0),(.int .u64 0),(.int .u64 0),(.int .u64 0)] [(0,6,.tmp 9)],none⟩,⟨some 11,.app (.tmp 8) (.tmp 10) 6 112,none⟩,⟨none,.store (.tmp 2) (.tmp 11) 1,none⟩])))))
 (.seq (.ops [⟨some 12,.load (.tmp 2) none,none⟩,⟨some 4,.mv (.tmp 12),none⟩])
 .ret)))⟩
theorem is241 : Is Proofs.Tryz.prog 6 241 F241 := mkIs Proofs.Tryz.func241 (by kernel_rfl) (by decide) (by kernel_rfl) Proofs.Tryz.ntmps241 (by kernel_rfl)
def F243 : AFunc := ⟨5,[.tmp 0],(.seq (.ops [⟨some 0,.mv (.const (.pointer none)),none⟩])
 (.seq (.ops [⟨some 1,.build [(.int .i64 0),(.int .i64 0)] [(0,1,(.const (.int .i64 0)))],none⟩,⟨some 2,.mkslice 1 2 [(.int .i64 0),(.int .i64 0)] [(0,2,.tmp 1)],none⟩,⟨some 3,.build [(.slice none 0 0),(.bool false),(.int .i64 0)] [(0,1,.tmp 2),(1,1,(.const (.bool true)))],none⟩,⟨some 4,.box (.tmp 3) 319,none⟩,⟨some 0,.mv (.tmp 4),none⟩])
 .ret))⟩
theorem is243 : Is Proofs.Tryz.prog 6 243 F243 := mkIs Proofs.Tryz.func243 (by kernel_rfl) (by decide) (by kernel_rfl) Proofs.Tryz.ntmps243 (by kernel_rfl)
def F244 : AFunc := ⟨65,[],(.seq (.seq (.ops [⟨some 5,.mv (.tmp 0),none⟩,⟨some 6,.nilck (.tmp 5),none⟩,⟨some 7,.faddr (.tmp 6) 0,none⟩,⟨some 8,.load (.tmp 7) none,none⟩,⟨some 9,.lenL (.tmp 8),none⟩,⟨some 10,.eqv false (.scalar .int) (.tmp 9) (.const (.int .i64 0)),none⟩])
 (.cond (.tmp 10)
 (.ops [⟨some 11,.mv (.tmp 0),none⟩,⟨some 12,.call (.func 243) [],none⟩,⟨some 13,.nilck (.tmp 12),none⟩,⟨some 14,.load (.tmp 13) (some 3),none⟩,⟨some 15,.nilck (.tmp 11),none⟩,⟨none,.store (.tmp 15) (.tmp 14) 3,none⟩])
 .skip))
 (.seq .skip
 (.seq (.block 0
 (.loop
 (.block 1
 (.seq (.draw 0 [.run ⟨some 16,.mv (.tmp 0),none⟩,.run ⟨some 17,.nilck (.tmp 16),none⟩,.run ⟨some 18,.faddr (.tmp 17) 0,none⟩,.run ⟨some 20,.mv (.tmp 0),none⟩,.run ⟨some 21,.nilck (.tmp 20),none⟩,.run ⟨some 22,.faddr (.tmp 21) 0,none⟩,.run ⟨some 19,.load (.tmp 18) none,none⟩,.run ⟨some 23,.load (.tmp 22) none,none⟩,.run ⟨some 24,.lenL (.tmp 23),none⟩,.run ⟨some 25,.bin .sub (.tmp 24) (.const (.int .i64 1)),none⟩,.run ⟨some 26,.idx (.tmp 19) (.tmp 25) 2,none⟩,.run ⟨some 27,.faddr (.tmp 26) 0,none⟩,.run ⟨some 28,.load (.tmp 27) none,none⟩,.run ⟨some 4,.mv (.tmp 28),none⟩])
 (.seq (.ops [⟨some 29,.mv (.tmp 4),none⟩])
 (.block 2
 (.seq (.ops [⟨some 35,.eqv false (.scalar .int) (.tmp 29) (.const (.int .i64 12)),none⟩,⟨some 34,.mv (.tmp 35),none⟩])
 (.cond (.tmp 34)
 (.seq (.ops [⟨some 36,.mv (.tmp 0),none⟩,⟨some 37,.mv (.tmp 1),none⟩,⟨some 38,.call (.func 259) [.tmp 36,.tmp 37],none⟩])
 (.cond (.tmp 38)
 (.exit 0)
 .skip))
 (.seq (.ops [⟨some 40,.eqv false (.scalar .int) (.tmp 29) (.const (.int .i64 3)),none⟩,⟨some 39,.mv (.tmp 40),none⟩])
 (.cond (.tmp 39)
 (.seq (.seq (.ops [⟨some 41,.mv (.tmp 1),none⟩,⟨some 42,.eqv false (.scalar .int) (.tmp 41) (.const (.int .u8 40)),none⟩])
 (.cond (.tmp 42)
 (.seq (.ops [⟨some 43,.mv (.tmp 0),none⟩,⟨some 44,.call (.func 260) [.tmp 43,(.const (.int .i64 9))],none⟩])
 (.seq (.ops [⟨some 45,.mv (.tmp 0),none⟩,⟨some 46,.nilck (.tmp 45),none⟩,⟨some 47,.faddr (.tmp 46) 1,none⟩,⟨none,.store (.tmp 47) (.const (.bool false)) 1,none⟩])
 (.exit 0)))
 .skip))
 (.ops [⟨some 48,.mv (.tmp 0),none⟩,⟨some 49,.call (.func 260) [.tmp 48,(.const (.int .i64 1))],none⟩]))
 (.seq (.ops [⟨some 51,.eqv false (.scalar .int) (.tmp 29) (.const (.int .i64 11)),none⟩,⟨some 50,.mv (.tmp 51),none⟩])
 (.cond (.tmp 50)
 (.seq (.seq (.ops [⟨some 52,.mv (.tmp 1),none⟩,⟨some 53,.eqv false (.scalar .int) (.tmp 52) (.const (.int .u8 41)),none⟩])
 (.cond (.tmp 53)
 (.seq (.ops [⟨some 54,.mv (.tmp 0),none⟩,⟨some 55,.call (.func 261) [.tmp 54],none⟩])
 (.exit 0))
 .skip))
 (.ops [⟨some 56,.mv (.tmp 0),none⟩,⟨some 57,.call (.func 260) [.tmp 56,(.const (.int .i64 9))],none⟩]))
 (.seq (.ops [⟨some 30,.mv (.tmp 0),none⟩,⟨some 31,.mv (.tmp 4),none⟩,⟨some 32,.mv (.tmp 1),none⟩,⟨some 33,.call (.func 262) [.tmp 30,.tmp 31,.tmp 32],none⟩])
 (.exit 0))))))))))))))
 (.ops [⟨some 58,.mv (.tmp 0),none⟩,⟨some 59,.nilck (.tmp 58),none⟩,⟨some 60,.faddr (.tmp 59) 2,none⟩,⟨some 61,.load (.tmp 60) none,none⟩,⟨some 62,.bin .add (.tmp 61) (.const (.int .i64 1)),none⟩,⟨some 63,.nilck (.tmp 58),none⟩,⟨some 64,.faddr (.tmp 63) 2,none⟩,⟨none,.store (.tmp 64) (.tmp 62) 1,none⟩]))))⟩
theorem is244 : Is Proofs.Tryz.prog 6 244 F244 := mkIs Proofs.Tryz.func244 (by kernel_rfl) (by decide) (by kernel_rfl) Proofs.Tryz.ntmps244 (by kernel_rfl)
def F245 : AFunc := ⟨148,[],(.seq (.ops [⟨some 11,.mv (.tmp 1),none⟩,⟨some 12,.sl (.tmp 11) (some (.const (.int .i64 1))) none 2,none⟩,⟨some 1,.mv (.tmp 12),none⟩])
 (.seq (.seq (.ops [⟨some 13,.mv (.tmp 0),none⟩,⟨some 14,.nilck (.tmp 13),none⟩,⟨some 15,.faddr (.tmp 14) 1,none⟩,⟨some 16,.load (.tmp 15) none,none⟩,⟨some 17,.lenL (.tmp 16),none⟩,⟨some 6,.mv (.tmp 17),none⟩])
 (.block 0
 (.loop
 (.seq (.seq (.ops [⟨some 18,.mv (.tmp 6),none⟩,⟨some 19,.bin .gtr (.tmp 18) (.const (.int .i64 0)),none⟩])
 (.cond (.tmp 19)
 .skip
 (.exit 0)))
 (.seq (.block 1
 (.seq (.ops [⟨some 22,.mv (.tmp 0),none⟩,⟨some 23,.nilck (.tmp 22),none⟩,⟨some 24,.faddr (.tmp 23) 1,none⟩,⟨some 25,.load (.tmp 24) none,none⟩,⟨some 26,.mv (.tmp 6),none⟩,⟨some 27,.bin .sub (.tmp 26) (.const (.int .i64 1)),none⟩,⟨some 28,.idx (.tmp 25) (.tmp 27) 1,none⟩,⟨some 29,.load (.tmp 28) none,none⟩,⟨some 7,.mv (.tmp 29),none⟩])
 (.seq (.seq (.draw 0 [.run ⟨some 30,.mv (.tmp 6),none⟩,.run ⟨some 31,.mv (.tmp 1),none⟩,.run ⟨some 32,.lenL (.tmp 31),none⟩,.run ⟨some 33,.bin .leq (.tmp 30) (.tmp 32),none⟩,.run ⟨some 34,.mv (.tmp 33),none⟩,.run ⟨some 35,.mv (.tmp 1),(some (34,true))⟩,.run ⟨some 36,.mv (.tmp 6),(some (34,true))⟩,.run ⟨some 37,.bin .sub (.tmp 36) (.const (.int .i64 1)),(some (34,true))⟩,.run ⟨some 38,.idx (.tmp 35) (.tmp 37) 2,(some (34,true))⟩,.run ⟨some 39,.faddr (.tmp 38) 1,(some (34,true))⟩,.run ⟨some 41,.mv (.tmp 0),(some (34,true))⟩,.run ⟨some 42,.nilck (.tmp 41),(some (34,true))⟩,.run ⟨some 43,.faddr (.tmp 42) 0,(some (34,true))⟩,.run ⟨some 45,.mv (.tmp 7),(some (34,true))⟩,.run ⟨some 40,.load (.tmp 39) none,(some (34,true))⟩,.run ⟨some 44,.load (.tmp 43) none,(some (34,true))⟩,.run ⟨some 46,.idx (.tmp 44) (.tmp 45) 5,(some (34,true))⟩,.run ⟨some 47,.faddr (.tmp 46) 1,(some (34,true))⟩,.run ⟨some 48,.load (.tmp 47) none,(some (34,true))⟩,.run ⟨some 49,.eqv false (.scalar .int) (.tmp 40) (.tmp 48),(some (34,true))⟩,.run ⟨some 50,.pick (.tmp 34) (.tmp 49) (.const (.bool false)),none⟩])
 (.cond (.tmp 50)
 (.exit 0)
 .skip))
 (.seq (.draw 0 [.run ⟨some 51,.mv (.tmp 0),none⟩,.run ⟨some 52,.nilck (.tmp 51),none⟩,.run ⟨some 53,.faddr (.tmp 52) 0,none⟩,.run ⟨some 55,.mv (.tmp 7),none⟩,.run ⟨some 56,.mv (.tmp 0),none⟩,.run ⟨some 57,.nilck (.tmp 56),none⟩,.run ⟨some 58,.faddr (.tmp 57) 0,none⟩,.run ⟨some 60,.mv (.tmp 7),none⟩,.run ⟨some 61,.mv (.tmp 2),none⟩,.run ⟨some 62,.bin .add (.tmp 61) (.const (.int .i64 1)),none⟩,.run ⟨some 54,.load (.tmp 53) none,none⟩,.run ⟨some 59,.load (.tmp 58) none,none⟩,.run ⟨some 63,.idx (.tmp 54) (.tmp 55) 5,none⟩,.run ⟨some 64,.faddr (.tmp 63) 2,none⟩,.run ⟨none,.store (.tmp 64) (.tmp 62) 1,none⟩,.run ⟨some 65,.idx (.tmp 59) (.tmp 60) 5,none⟩,.run ⟨some 66,.faddr (.tmp 65) 4,none⟩,.run ⟨none,.store (.tmp 66) (.const (.bool false)) 1,none⟩])
 (.ops [⟨some 67,.mv (.tmp 0),none⟩,⟨some 68,.mv (.tmp 0),none⟩,⟨some 69,.nilck (.tmp 68),none⟩,⟨some 70,.faddr (.tmp 69) 1,none⟩,⟨some 71,.load (.tmp 70) none,none⟩,⟨some 72,.mv (.tmp 6),none⟩,⟨some 73,.bin .sub (.tmp 72) (.const (.int .i64 1)),none⟩,⟨some 74,.sl (.tmp 71) none (some (.tmp 73)) 1,none⟩,⟨some 75,.nilck (.tmp 67),none⟩,⟨some 76,.faddr (.tmp 75) 1,none⟩,⟨none,.store (.tmp 76) (.tmp 74) 1,none⟩])))))
 (.ops [⟨some 20,.mv (.tmp 6),none⟩,⟨some 21,.bin .sub (.tmp 20) (.const (.int .i64 1)),none⟩,⟨some 6,.mv (.tmp 21),none⟩]))))))
 (.seq (.ops [⟨some 77,.mv (.tmp 1),none⟩,⟨some 78,.lenL (.tmp 77),none⟩,⟨some 79,.mv (.const (.int .i64 0)),none⟩])
 (.block 2
 (.loop
 (.seq (.ops [⟨some 80,.bin .lss (.tmp 79) (.tmp 78),none⟩])
 (.seq (.cond (.tmp 80)
 .skip
 (.exit 2))
 (.seq (.block 3
 (.seq (.ops [⟨some 81,.mv (.tmp 79),none⟩,⟨some 82,.idx (.tmp 77) (.tmp 79) 2,none⟩,⟨some 83,.load (.tmp 82) (some 2),none⟩,⟨some 9,.new [(.int .i64 0),(.int .i64 0)] 317,none⟩,⟨some 8,.mv (.tmp 81),none⟩,⟨none,.store (.tmp 9) (.tmp 83) 2,none⟩])
 (.seq (.seq (.ops [⟨some 84,.mv (.tmp 8),none⟩,⟨some 85,.mv (.tmp 0),none⟩,⟨some 86,.nilck (.tmp 85),none⟩,⟨some 87,.faddr (.tmp 86) 1,none⟩,⟨some 88,.load (.tmp 87) none,none⟩,⟨some 89,.lenL (.tmp 88),none⟩,⟨some 90,.bin .lss (.tmp 84) (.tmp 89),none⟩])
 (.cond (.tmp 90)
 (.seq (.draw 0 [.run ⟨some 91,.mv (.tmp 0),none⟩,.run ⟨some 92,.nilck (.tmp 91),none⟩,.run ⟨some 93,.faddr (.tmp 92) 0,none⟩,.run ⟨some 95,.mv (.tmp 0),none⟩,.run ⟨some 96,.nilck (.tmp 95),none⟩,.run ⟨some 97,.faddr (.tmp 96) 1,none⟩,.run ⟨some 99,.mv (.tmp 8),none⟩,.run ⟨some 102,.faddr (.tmp 9) 0,none⟩,.run ⟨some 94,.load (.tmp 93) none,none⟩,.run ⟨some 98,.load (.tmp 97) none,none⟩,.run ⟨some 100,.idx (.tmp 98) (.tmp 99) 1,none⟩,.run ⟨some 101,.load (.tmp 100) none,none⟩,.run ⟨some 103,.load (.tmp 102) none,none⟩,.run ⟨some 104,.call (.func 263) [.tmp 103],none⟩,.chk ⟨some 94,.load (.tmp 93) none,none⟩,.chk ⟨some 98,.load (.tmp 97) none,none⟩,.chk ⟨some 101,.load (.tmp 100) none,none⟩,.run ⟨some 105,.idx (.tmp 94) (.tmp 101) 5,none⟩,.run ⟨some 106,.faddr (.tmp 105) 0,none⟩,.run ⟨none,.store (.tmp 106) (.tmp 104) 1,none⟩])
 (.exit 3))
 .skip))
 (.seq (.ops [⟨some 10,.mv (.const (.int .i64 (-1))),none⟩])
 (.seq (.seq (.ops [⟨some 107,.mv (.tmp 8),none⟩,⟨some 108,.bin .gtr (.tmp 107) (.const (.int .i64 0)),none⟩])
 (.cond (.tmp 108)
 (.ops [⟨some 109,.mv (.tmp 0),none⟩,⟨some 110,.nilck (.tmp 109),none⟩,⟨some 111,.faddr (.tmp 110) 1,none⟩,⟨some 112,.load (.tmp 111) none,none⟩,⟨some 113,.mv (.tmp 8),none⟩,⟨some 114,.bin .sub (.tmp 113) (.const (.int .i64 1)),none⟩,⟨some 115,.idx (.tmp 112) (.tmp 114) 1,none⟩,⟨some 116,.load (.tmp 115) none,none⟩,⟨some 10,.mv (.tmp 116),none⟩])
 .skip))
 (.seq (.draw 1 [.run ⟨some 117,.mv (.tmp 0),none⟩,.run ⟨some 118,.mv (.tmp 0),none⟩,.run ⟨some 119,.nilck (.tmp 118),none⟩,.run ⟨some 120,.faddr (.tmp 119) 1,none⟩,.run ⟨some 122,.mv (.tmp 0),none⟩,.run ⟨some 123,.nilck (.tmp 122),none⟩,.run ⟨some 124,.faddr (.tmp 123) 0,none⟩,.run ⟨some 121,.load (.tmp 120) none,none⟩,.run ⟨some 125,.load (.tmp 124) none,none⟩,.run ⟨some 126,.lenL (.tmp 125),none⟩,.nam ⟨some 127,.mkslice 1 1 [(.int .i64 0)] [(0,1,.tmp 126)],none⟩ 0,.lay ⟨some 127,.mkslice 1 1 [(.int .i64 0)] [(0,1,.tmp 126)],none⟩ 0,.run ⟨some 128,.app (.tmp 121) (.tmp 127) 1 3,none⟩,.run ⟨some 129,.nilck (.tmp 117),none⟩,.run ⟨some 130,.faddr (.tmp 129) 1,none⟩,.run ⟨none,.store (.tmp 130) (.tmp 128) 1,none⟩])
 (.draw 1 [.run ⟨some 131,.mv (.tmp 0),none⟩,.run ⟨some 132,.mv (.tmp 0),none⟩,.run ⟨some 133,.nilck (.tmp 132),none⟩,.run ⟨some 134,.faddr (.tmp 133) 0,none⟩,.run ⟨some 136,.faddr (.tmp 9) 0,none⟩,.run ⟨some 139,.faddr (.tmp 9) 1,none⟩,.run ⟨some 141,.mv (.tmp 10),none⟩,.run ⟨some 135,.load (.tmp 134) none,none⟩,.run ⟨some 137,.load (.tmp 136) none,none⟩,.run ⟨some 140,.load (.tmp 139) none,none⟩,.run ⟨some 138,.call (.func 263) [.tmp 137],none⟩,.chk ⟨some 135,.load (.tmp 134) none,none⟩,.chk ⟨some 140,.load (.tmp 139) none,none⟩,.run ⟨some 142,.build [(.int .i64 0),(.int .i64 0),(.int .i64 0),(.int .i64 0),(.bool false)] [(0,1,.tmp 138),(1,1,.tmp 140),(3,1,.tmp 141),(4,1,(.const (.bool true)))],none⟩,.nam ⟨some 143,.mkslice 1 5 [(.int .i64 0),(.int .i64 0),(.int .i64 0),(.int .i64 0),(.bool false)] [(0,5,.tmp 142)],none⟩ 0,.lay ⟨some 143,.mkslice 1 5 [(.int .i64 0),(.int .i64 0),(.int .i64 0),(.int .i64 0),(.bool false)] [(0,5,.tmp 142)],none⟩ 0,.run ⟨some 144,.app (.tmp 135) (.tmp 143) 5 147,none⟩,.run ⟨some 145,.nilck (.tmp 131),none⟩,.run ⟨some 146,.faddr (.tmp 145) 0,none⟩,.run ⟨none,.store (.tmp 146) (.tmp 144) 1,none⟩])))))))
 (.ops [⟨some 147,.bin .add (.tmp 79) (.const (.int .i64 1)),none⟩,⟨some 79,.mv (.tmp 147),none⟩])))))))))⟩
theorem is245 : Is Proofs.Tryz.prog 6 245 F245 := mkIs Proofs.Tryz.func245 (by kernel_rfl) (by decide) (by kernel_rfl) Proofs.Tryz.ntmps245 (by kernel_rfl)
def F246 : AFunc := ⟨16,[.tmp 2],(.seq (.ops [⟨some 2,.mv (.const (.slice none 0 0)),none⟩])
 (.seq (.seq (.ops [⟨some 3,.mv (.tmp 0),none⟩,⟨some 4,.nilck (.tmp 3),none⟩,⟨some 5,.faddr (.tmp 4) 0,none⟩,⟨some 6,.load (.tmp 5) none,none⟩,⟨some 7,.lenL (.tmp 6),none⟩,⟨some 8,.eqv false (.scalar .int) (.tmp 7) (.const (.int .i64 0)),none⟩])
 (.cond (.tmp 8)
 (.seq (.ops [⟨some 9,.build [(.int .i64 0),(.int .i64 0)] [(0,1,(.const (.int .i64 0)))],none⟩,⟨some 10,.mkslice 1 2 [(.int .i64 0),(.int .i64 0)] [(0,2,.tmp 9)],none⟩,⟨some 2,.mv (.tmp 10),none⟩])
 .ret)
 .skip))
 (.seq (.ops [⟨some 11,.mv (.tmp 0),none⟩,⟨some 12,.nilck (.tmp 11),none⟩,⟨some 13,.faddr (.tmp 12) 0,none⟩,⟨some 14,.load (.tmp 13) none,none⟩,⟨some 15,.call (.func 264) [.tmp 14],none⟩,⟨some 2,.mv (.tmp 15),none⟩])
 .ret)))⟩
theorem is246 : Is Proofs.Tryz.prog 6 246 F246 := mkIs Proofs.Tryz.func246 (by kernel_rfl) (by decide) (by kernel_rfl) Proofs.Tryz.ntmps246 (by kernel_rfl)
def F247 : AFunc := ⟨30,[.tmp 2,.tmp 3],(.seq (.ops [⟨some 1,.box (.tmp 0) 147,none⟩,⟨some 2,.mv (.const (.int .i64 0)),none⟩,⟨some 3,.mv (.const (.int .i64 0)),none⟩])
 (.seq (.ops [⟨some 4,.mv (.const (.int .i64 1)),none⟩,⟨some 5,.mv (.const (.int .i64 1)),none⟩])
 (.seq (.seq (.ops [⟨some 6,.faddr (.tmp 1) 0,none⟩,⟨some 7,.load (.tmp 6) none,none⟩])
 (.block 0
 (.seq (.seq (.ops [⟨some 9,.eqv false (.scalar .int) (.tmp 7) (.const (.int .i64 1)),none⟩,⟨some 8,.mv (.tmp 9),none⟩])
 (.cond (.tmp 8)
 .skip
 (.seq (.ops [⟨some 10,.eqv false (.scalar .int) (.tmp 7) (.const (.int .i64 7)),none⟩,⟨some 8,.mv (.tmp 10),none⟩])
 (.cond (.tmp 8)
 .skip
 (.ops [⟨some 11,.eqv false (.scalar .int) (.tmp 7) (.const (.int .i64 8)),none⟩,⟨some 8,.mv (.tmp 11),none⟩])))))
 (.cond (.tmp 8)
 (.ops [⟨some 4,.mv (.const (.int .i64 2)),none⟩])
 (.seq (.ops [⟨some 13,.eqv false (.scalar .int) (.tmp 7) (.const (.int .i64 9)),none⟩,⟨some 12,.mv (.tmp 13),none⟩])
 (.cond (.tmp 12)
 (.ops [⟨some 4,.mv (.const (.int .i64 3)),none⟩,⟨some 5,.mv (.const (.int .i64 2)),none⟩])
 (.seq (.seq (.ops [⟨some 15,.eqv false (.scalar .int) (.tmp 7) (.const (.int .i64 13)),none⟩,⟨some 14,.mv (.tmp 15),none⟩])
 (.cond (.tmp 14)
 .skip
 (.ops [⟨some 16,.eqv false (.scalar .int) (.tmp 7) (.const (.int .i64 12)),none⟩,⟨some 14,.mv (.tmp 16),none⟩])))
 (.cond (.tmp 14)
 (.ops [⟨some 5,.mv (.const (.int .i64 0)),none⟩])
 .skip))))))))
 (.seq (.seq (.ops [⟨some 17,.faddr (.tmp 1) 4,none⟩,⟨some 18,.load (.tmp 17) none,none⟩])
 (.cond (.tmp 18)
 (.ops [⟨some 5,.mv (.const (.int .i64 0)),none⟩])
 .skip))
 (.seq (.ops [⟨some 19,.faddr (.tmp 1) 1,none⟩,⟨some 20,.load (.tmp 19) none,none⟩,⟨some 21,.mv (.tmp 4),none⟩,⟨some 22,.bin .add (.tmp 20) (.tmp 21),none⟩,⟨some 2,.mv (.tmp 22),none⟩])
 (.seq (.draw 0 [.run ⟨some 23,.mv (.tmp 2),none⟩,.run ⟨some 24,.faddr (.tmp 1) 2,none⟩,.run ⟨some 26,.mv (.tmp 5),none⟩,.run ⟨some 28,.mv (.tmp 2),none⟩,.run ⟨some 2,.mv (.tmp 23),none⟩,.run ⟨some 25,.load (.tmp 24) none,none⟩,.run ⟨some 27,.bin .sub (.tmp 25) (.tmp 26),none⟩,.run ⟨some 29,.mx (.tmp 27) (.tmp 28),none⟩,.run ⟨some 3,.mv (.tmp 29),none⟩])
 .ret))))))⟩
theorem is247 : Is Proofs.Tryz.prog 6 247 F247 := mkIs Proofs.Tryz.func247 (by kernel_rfl) (by decide) (by kernel_rfl) Proofs.Tryz.ntmps247 (by kernel_rfl)
def F248 : AFunc := ⟨40,[.tmp 4],(.seq (.ops [⟨some 3,.box (.tmp 1) 147,none⟩,⟨some 4,.mv (.const (.string ⟨#[]⟩)),none⟩])
 (.seq (.seq (.ops [⟨some 6,.faddr (.tmp 3) 2,none⟩,⟨some 7,.load (.tmp 6) none,none⟩,⟨some 8,.faddr (.tmp 3) 1,none⟩,⟨some 9,.load (.tmp 8) none,none⟩,⟨some 10,.bin .sub (.tmp 7) (.tmp 9),none⟩,⟨some 11,.bin .lss (.tmp 10) (.const (.int .i64 2)),none⟩])
 (.cond (.tmp 11)
 (.seq (.ops [⟨some 4,.mv (.const (.string ⟨#[]⟩)),none⟩])
 .ret)
 .skip))
 (.seq (.seq (.draw 0 [.run ⟨some 12,.mv (.tmp 0),none⟩,.run ⟨some 13,.nilck (.tmp 12),none⟩,.run ⟨some 14,.faddr (.tmp 13) 0,none⟩,.run ⟨some 16,.faddr (.tmp 3) 1,none⟩,.run ⟨some 15,.load (.tmp 14) none,none⟩,.run ⟨some 17,.load (.tmp 16) none,none⟩,.run ⟨some 18,.bin .add (.tmp 17) (.const (.int .i64 1)),none⟩,.run ⟨some 19,.strAt (.tmp 15) (.tmp 18),none⟩,.run ⟨some 5,.mv (.tmp 19),none⟩])
 (.seq (.ops [⟨some 20,.mv (.tmp 5),none⟩])
 (.block 0
 (.seq (.seq (.ops [⟨some 22,.eqv false (.scalar .int) (.tmp 20) (.const (.int .u8 36)),none⟩,⟨some 21,.mv (.tmp 22),none⟩])
 (.cond (.tmp 21)
 .skip
 (.seq (.ops [⟨some 23,.eqv false (.scalar .int) (.tmp 20) (.const (.int .u8 96)),none⟩,⟨some 21,.mv (.tmp 23),none⟩])
 (.cond (.tmp 21)
 .skip
 (.seq (.ops [⟨some 24,.eqv false (.scalar .int) (.tmp 20) (.const (.int .u8 34)),none⟩,⟨some 21,.mv (.tmp 24),none⟩])
 (.cond (.tmp 21)
 .skip
 (.ops [⟨some 25,.eqv false (.scalar .int) (.tmp 20) (.const (.int .u8 92)),none⟩,⟨some 21,.mv (.tmp 25),none⟩])))))))
 (.cond (.tmp 21)
 (.seq (.ops [⟨some 26,.mv (.tmp 5),none⟩,⟨some 27,.mkslice 1 1 [(.int .u8 0)] [(0,1,.tmp 26)],none⟩,⟨some 28,.toStr (.tmp 27),none⟩,⟨some 4,.mv (.tmp 28),none⟩])
 .ret)
 (.seq (.ops [⟨some 30,.eqv false (.scalar .int) (.tmp 20) (.const (.int .u8 10)),none⟩,⟨some 29,.mv (.tmp 30),none⟩])
 (.cond (.tmp 29)
 (.seq (.ops [⟨some 4,.mv (.const (.string ⟨#[]⟩)),none⟩])
 .ret)
 .skip)))))))
 (.seq (.draw 0 [.run ⟨some 31,.mv (.tmp 0),none⟩,.run ⟨some 32,.nilck (.tmp 31),none⟩,.run ⟨some 33,.faddr (.tmp 32) 0,none⟩,.run ⟨some 35,.faddr (.tmp 3) 1,none⟩,.run ⟨some 37,.faddr (.tmp 3) 2,none⟩,.run ⟨some 34,.load (.tmp 33) none,none⟩,.run ⟨some 36,.load (.tmp 35) none,none⟩,.run ⟨some 38,.load (.tmp 37) none,none⟩,.run ⟨some 39,.slStr (.tmp 34) (some (.tmp 36)) (some (.tmp 38)),none⟩,.run ⟨some 4,.mv (.tmp 39),none⟩])
 .ret))))⟩
theorem is248 : Is Proofs.Tryz.prog 6 248 F248 := mkIs Proofs.Tryz.func248 (by kernel_rfl) (by decide) (by kernel_rfl) Proofs.Tryz.ntmps248 (by kernel_rfl)
def F261 : AFunc := ⟨22,[],(.seq (.ops [⟨some 2,.mv (.tmp 0),none⟩,⟨some 3,.nilck (.tmp 2),none⟩,⟨some 4,.faddr (.tmp 3) 0,none⟩,⟨some 5,.load (.tmp 4) none,none⟩,⟨some 6,.lenL (.tmp 5),none⟩,⟨some 7,.bin .gtr (.tmp 6) (.const (.int .i64 1)),none⟩])
 (.cond (.tmp 7)
 (.draw 0 [.run ⟨some 8,.mv (.tmp 0),none⟩,.run ⟨some 9,.mv (.tmp 0),none⟩,.run ⟨some 10,.nilck (.tmp 9),none⟩,.run ⟨some 11,.faddr (.tmp 10) 0,none⟩,.run ⟨some 13,.mv (.tmp 0),none⟩,.run ⟨some 14,.nilck (.tmp 13),none⟩,.run ⟨some 15,.faddr (.tmp 14) 0,none⟩,.run ⟨some 12,.load (.tmp 11) none,none⟩,.run ⟨some 16,.load (.tmp 15) none,none⟩,.run ⟨some 17,.lenL (.tmp 16),none⟩,.run ⟨some 18,.bin .sub (.tmp 17) (.const (.int .i64 1)),none⟩,.run ⟨some 19,.sl (.tmp 12) none (some (.tmp 18)) 2,none⟩,.run ⟨some 20,.nilck (.tmp 8),none⟩,.run ⟨some 21,.faddr (.tmp 20) 0,none⟩,.run ⟨none,.store (.tmp 21) (.tmp 19) 1,none⟩])
 .skip))⟩
theorem is261 : Is Proofs.Tryz.prog 6 261 F261 := mkIs Proofs.Tryz.func261 (by kernel_rfl) (by decide) (by kernel_rfl) Proofs.Tryz.ntmps261 (by kernel_rfl)
end Go.Ae
