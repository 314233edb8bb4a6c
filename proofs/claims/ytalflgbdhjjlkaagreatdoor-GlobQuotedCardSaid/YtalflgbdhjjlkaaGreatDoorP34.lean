/- Part 34 of the proof of the law: N188. No condition. -/
import Derived.Test.YtalflgbdhjjlkaaGreatDoorP33
import Derived.KernelRfl
import Derived.Test.YtalflgbdhjjlkaaGreatDoorProg
set_option linter.all false
namespace Go.Ae
open Go
set_option maxRecDepth 100000
def l0_188 : List AItem := [⟨some 2,.mv (.const (.slice none 0 0)),none⟩]
def l1_188 : List AItem := [⟨some 3,.mv (.const (.slice none 0 0)),none⟩]
def a_188 : List AItem := [⟨some 5,.mv (.tmp 0),none⟩,⟨some 6,.nilck (.tmp 5),none⟩,⟨some 7,.faddr (.tmp 6) 1,none⟩,⟨some 8,.load (.tmp 7) none,none⟩]
def b_188 : List AItem := [⟨some 11,.ext (.tmp 10) 0,none⟩]
def c_188 : List AItem := [⟨some 13,.ext (.tmp 12) 0,none⟩,⟨some 4,.mv (.tmp 13),none⟩]
def d_188 : List AItem := [⟨some 14,.mv (.tmp 3),none⟩,
     ⟨some 15,.mv (.tmp 4),none⟩,
     ⟨some 16,.mkslice 1 1 [(.string ⟨#[]⟩)] [(0,1,.tmp 15)],none⟩,
     ⟨some 17,.app (.tmp 14) (.tmp 16) 1 9,none⟩,
     ⟨some 3,.mv (.tmp 17),none⟩]
def r_188 : ACode := (.seq (.ops [⟨some 18,.mv (.tmp 3),none⟩,
  ⟨some 19,.call (.func 65) [.tmp 18],none⟩])
 (.seq (.ops [⟨some 20,.mv (.tmp 3),none⟩,
  ⟨some 2,.mv (.tmp 20),none⟩])
 .ret))
noncomputable def seqL : Code → Code | .seq x _ => x | c => c
noncomputable def seqR : Code → Code | .seq _ y => y | c => c
noncomputable def regO : Code → Array Oper | .region _ o _ => o | _ => #[]
noncomputable def inB : Code → Code | .block _ c => c | .loop c => c | c => c
noncomputable def b188 : Code := match Proofs.Tryz.f188.body with | some c => c | none => .skip
noncomputable def m188 : Code := seqL (seqR (seqR b188))
noncomputable def x188 : Code := inB (inB (seqR m188))
noncomputable def oA188 : Array Oper := regO (seqL m188)
noncomputable def oB188 : Array Oper := regO (seqL x188)
noncomputable def y188 : Code := inB (seqR (seqR x188))
noncomputable def oC188 : Array Oper := regO (seqL y188)
noncomputable def oD188 : Array Oper := regO (seqR y188)
noncomputable def op188 (o : Array Oper) (i : Nat) : Oper := o.getD i { op := .ready 0,dst := none,type := 0,pos := "",after := #[],guard := none }
theorem mc188 : MCode Proofs.Tryz.prog 6 9 10 12 (.tmp 8) oA188 oB188 oC188 oD188 4 1 2 a_188 b_188 c_188 d_188 where
 a1 := by kernel_rfl
 a2 := by kernel_rfl
 a3 := ⟨op188 oA188 4,119,_,_,by kernel_rfl,by kernel_rfl,by kernel_rfl,by kernel_rfl,(by kernel_rfl : Program.underlying Proofs.Tryz.prog 119 = some (.map 9 118)),by decide⟩
 b1 := by kernel_rfl
 b2 := ⟨op188 oB188 0,by kernel_rfl,by kernel_rfl,by kernel_rfl,by kernel_rfl⟩
 b3 := by kernel_rfl
 c1 := by kernel_rfl
 c2 := ⟨op188 oC188 0,by kernel_rfl,by kernel_rfl,by kernel_rfl,by kernel_rfl⟩
 c3 := by kernel_rfl
 d := by kernel_rfl
theorem is188mr : IsMR Proofs.Tryz.prog 6 188 21 [.tmp 2] l0_188 l1_188 9 10 11 12 (.tmp 8) a_188 b_188 c_188 d_188 r_188 :=
 ⟨⟨Proofs.Tryz.f188,seqL b188,seqL (seqR b188),seqR (seqR (seqR b188)),0,1,2,3,4,5,oA188,oB188,oC188,oD188,4,1,2,Proofs.Tryz.func188,by kernel_rfl,by decide,by kernel_rfl,by kernel_rfl,mc188,by kernel_rfl,Proofs.Tryz.ntmps188,by kernel_rfl⟩⟩
end Go.Ae
