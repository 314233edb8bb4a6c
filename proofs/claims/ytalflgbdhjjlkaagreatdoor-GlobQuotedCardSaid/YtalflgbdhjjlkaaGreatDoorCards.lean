/-
  DERIVED. GIVEN WITH THE SEED: THE CARDS: each row of YtalflgbdhjjlkaaGreatDoorRows.lean that lists a variable, with what it lists TIED to the program's text (the seventh form; the later family's looks); each row that meets fmt, with fmt's text TOLD by the authors' own Lean function (tested against real Go, not proved from fmt's source: count such statements apart). THE CARD IS WHAT COUNTS. Prove the row's statement (the work); the ties are given (YtalflgbdhjjlkaaGreatDoorTie.lean); close each card by the builder's one call (the guide's Derived/Test/ToyasCard.lean, 'card_holds'). Laid BY PROGRAM, IN A SANDBOX (cutbox-door.mjs). By AI agents, Wed Nov 11 2026. No macro, syntax, notation, axiom, sorry.
-/
import Derived.Test.YtalflgbdhjjlkaaGreatDoorRows
import GoSem.ClaimSeven
namespace Go.Proofs.YtalflgbdhjjlkaaGreatDoor
namespace Rows

/-- THE TIED CARD OF 'quillwortlaw27.GlobWords'. -/
def globWordsCard : Claim7 := { stood := { row := globWordsRow, standIns := [], harness := (true, "cade12d11c0bac8a4ba3074860468d3d1ff46f2fb60db6252c1c36a58deab16c"), looks := false }, kinds := [], alts := [], laidByText := true, laidKinds := [.data, .data, .data], laidTests := true, laidLooks := .later }
def GlobWordsCardSaid : Prop := Claim7.holds Tryz.pinned (.plain (OpenSpec.ofChange globWordsSpec)) globWordsCard

/-- THE TIED CARD OF 'quillwortlaw27.GlobQuoted'. -/
def globQuotedCard : Claim7 := { stood := { row := globQuotedRow, standIns := [], harness := (true, "cade12d11c0bac8a4ba3074860468d3d1ff46f2fb60db6252c1c36a58deab16c"), looks := false }, kinds := [], alts := [], laidByText := true, laidKinds := [.data, .data, .data, .data, .pinned], laidTests := true, laidLooks := .later }
def GlobQuotedCardSaid : Prop := Claim7.holds Tryz.pinned (.plain (OpenSpec.ofChange globQuotedSpec)) globQuotedCard

/-- THE SECOND FORM's CARD OF 'quillwortlaw27.GlobWords'. -/
def globWordsUptoCard : Claim7 := { stood := { row := globWordsUptoRow, standIns := [], harness := (true, "cade12d11c0bac8a4ba3074860468d3d1ff46f2fb60db6252c1c36a58deab16c"), looks := false }, kinds := [], alts := [], laidByText := true, laidKinds := [.data, .data, .data], laidTests := true, laidLooks := .later }
def GlobWordsUptoCardSaid : Prop := Claim7.holds Tryz.pinned (.plain (OpenSpec.upto globWordsSpec)) globWordsUptoCard

/-- THE SECOND FORM's CARD OF 'quillwortlaw27.GlobQuoted'. -/
def globQuotedUptoCard : Claim7 := { stood := { row := globQuotedUptoRow, standIns := [], harness := (true, "cade12d11c0bac8a4ba3074860468d3d1ff46f2fb60db6252c1c36a58deab16c"), looks := false }, kinds := [], alts := [], laidByText := true, laidKinds := [.data, .data, .data, .data, .pinned], laidTests := true, laidLooks := .later }
def GlobQuotedUptoCardSaid : Prop := Claim7.holds Tryz.pinned (.plain (OpenSpec.upto globQuotedSpec)) globQuotedUptoCard
end Rows
end Go.Proofs.YtalflgbdhjjlkaaGreatDoor
