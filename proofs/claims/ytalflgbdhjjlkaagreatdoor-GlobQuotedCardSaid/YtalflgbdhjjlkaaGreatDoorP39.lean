/- Part 39 of the proof of the law: Cw6. No condition. -/
import Derived.Test.YtalflgbdhjjlkaaGreatDoorP38
import Derived.Test.YtalflgbdhjjlkaaGreatDoorRows
import Derived.Test.YtalflgbdhjjlkaaGreatDoorTie
import Derived.Test.YtalflgbdhjjlkaaGreatDoorCards
import Derived.ChangeSame
import Derived.ChangeVars
import Derived.JoinedOf
import Derived.RowKit
import Derived.RowKitTokens
import Derived.LaidLaws
import Derived.LaidHandle
import Derived.Carry
import Derived.SevenTiedAt
import Derived.LaidOnce
import Derived.Stop.Joined
set_option linter.all false
namespace Go.Proofs.YtalflgbdhjjlkaaGreatDoor
open Go Go.Ae Go.ChangeShapes Go.WideShapes Go.RowKit
set_option maxRecDepth 100000
theorem own : ownKnob Tryz.prog.godebug = none := by kernel_rfl
theorem laidOut : laidOutB Tryz.prog = true := by kernel_rfl
def litV : Lit → Value
 | .int k n => .int k n
 | .bool b => .bool b
 | _ => .bool false
def flatD : Nat → DataW Unit → List Value
 | 0,_ => []
 | _ + 1,.lit l => [litV l]
 | n + 1,.agg ps => ps.flatMap (flatD n)
 | _ + 1,_ => []
def layG (g : Nat) (d : DataW Unit) (h : Array Obj) : Array Obj := h.modify g fun
 | .cells _ t fr => .cells (flatD 5 d).toArray t fr
 | o => o
noncomputable def laidWorld (os : Os) : World :=
 let w0 := World.holding Tryz.prog os ⟨#[],#[],[]⟩
 { w0 with heap := layG 1 Rows.laid_unicode_utf8_first (layG 2 Rows.laid_unicode_utf8_acceptRanges (layG 3 Rows.laid_internal_strconv_uint64pow10 (layG 4 Rows.laid_math_bits_deBruijn32tab (layG 5 Rows.laid_math_bits_deBruijn64tab w0.heap)))) }
theorem laidWorld_met (os : Os) (args : Array Value) : laidMetH Tryz.prog Rows.globQuotedRow.laid ((laidWorld os).forCall (fun _ _ => 0) ⟨#[],args,[]⟩).memory :=
 laidMetH_of_parts (laidMet_of_run' 8 (by kernel_rfl) (by kernel_rfl)) (by kernel_rfl)
def MainGQ : Prop := ∀ (K : Cx),K.P = Tryz.prog → K.G0 = 6 → Cfg K → ∀ (wd : Wd) (text : ByteArray) (H : Ae.Heap),wd.ok H → FC K 4 [wd.v,.string text] H fun v _ => v = .bool true
end Go.Proofs.YtalflgbdhjjlkaaGreatDoor
