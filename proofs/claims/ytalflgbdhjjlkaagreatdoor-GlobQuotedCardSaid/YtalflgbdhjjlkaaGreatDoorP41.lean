/- Part 41 of the proof of the law: Gq. No condition. -/
import Derived.Test.YtalflgbdhjjlkaaGreatDoorP40
set_option linter.all false
namespace Go.Proofs.YtalflgbdhjjlkaaGreatDoor
open Go Go.Ae
theorem main_gq : MainGQ := fun K hP hG hK wd text H hw =>
 c4 hK (getGlobIs hP hG hK) (fun H Q hQ => c5 hP hG hK (getJoinIs hP hG hK) ⟨fun _ _ _ h => x_x202 hP h,fun _ _ _ h => x_x208 hP h,fun _ _ _ h => x_x218 hP h,fun _ _ _ h => x_x176 hP h⟩ hQ) hw
theorem globQuoted : Rows.GlobQuotedCardSaid := gq_card main_gq
end Go.Proofs.YtalflgbdhjjlkaaGreatDoor
