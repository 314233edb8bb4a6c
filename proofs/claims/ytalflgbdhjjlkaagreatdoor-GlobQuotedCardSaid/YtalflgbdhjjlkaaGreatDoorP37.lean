/- Part 37 of the proof of the law: Aw. No condition. -/
import Derived.Test.YtalflgbdhjjlkaaGreatDoorP36
set_option linter.all false
namespace Go.Ae
open Go
set_option maxRecDepth 1000000
theorem awake_run : resT (callN tabF specW 100 (.func (.func 5) #[] #[]) [] (H00 6)) = true := by kernel_rfl
theorem c5 {K : Cx} (hP : K.P = Proofs.Tryz.prog) (hG : K.G0 = 6) (hK : Cfg K) (hJ : JoinIs K) (hX : XIs K) {H : Heap} {Q : Value → Heap → Prop} (hQ : Q (.bool true) H) : FC K 5 [] H Q :=
 closed_of hK (by rw [hP,hG]; exact tabF_ok) (specW_ok hP hG hK hJ hX) 100 5 (by rw [hG]; exact awake_run) hQ
end Go.Ae
