/-
  DERIVED. GIVEN WITH THE SEED: THE CARDS: each row of YtipllcepoijbiaaDoorRows.lean that lists a variable, with what it lists TIED to the program's text (the seventh form; the later family's looks); each row that meets fmt, with fmt's text TOLD by the authors' own Lean function (tested against real Go, not proved from fmt's source: count such statements apart). THE CARD IS WHAT COUNTS. Prove the row's statement (the work); the ties are given (YtipllcepoijbiaaDoorTie.lean); close each card by the builder's one call (the guide's Derived/Test/ToyasCard.lean, 'card_holds'). Laid BY PROGRAM, IN A SANDBOX (cutbox-door.mjs). By AI agents, Wed Nov 11 2026. No macro, syntax, notation, axiom, sorry.
-/
import Derived.Test.YtipllcepoijbiaaDoorRows
import GoSem.ClaimSeven
namespace Go.Proofs.YtipllcepoijbiaaDoor
namespace Rows

/-- THE TIED CARD OF 'boomeranglaw06.VmEnd'. -/
def vmEndCard : Claim7 := { stood := { row := vmEndRow, standIns := [], harness := (true, "86a1cd689bec144b16402fc5f36b4d08b677cc8b789a2fcaeb514dd8e9277331"), looks := false }, kinds := [], alts := [], laidByText := true, laidKinds := [.data], laidTests := true, laidLooks := .later }
def VmEndCardSaid : Prop := Claim7.holds Tryd.pinned (.plain (OpenSpec.ofChange vmEndSpec)) vmEndCard

/-- THE TIED CARD OF 'boomeranglaw06.VmNil'. -/
def vmNilCard : Claim7 := { stood := { row := vmNilRow, standIns := [], harness := (true, "86a1cd689bec144b16402fc5f36b4d08b677cc8b789a2fcaeb514dd8e9277331"), looks := false }, kinds := [], alts := [], laidByText := true, laidKinds := [.data], laidTests := true, laidLooks := .later }
def VmNilCardSaid : Prop := Claim7.holds Tryd.pinned (.plain (OpenSpec.ofChange vmNilSpec)) vmNilCard

/-- THE SECOND FORM's CARD OF 'boomeranglaw06.VmEnd'. -/
def vmEndUptoCard : Claim7 := { stood := { row := vmEndUptoRow, standIns := [], harness := (true, "86a1cd689bec144b16402fc5f36b4d08b677cc8b789a2fcaeb514dd8e9277331"), looks := false }, kinds := [], alts := [], laidByText := true, laidKinds := [.data], laidTests := true, laidLooks := .later }
def VmEndUptoCardSaid : Prop := Claim7.holds Tryd.pinned (.plain (OpenSpec.upto vmEndSpec)) vmEndUptoCard

/-- THE SECOND FORM's CARD OF 'boomeranglaw06.VmNil'. -/
def vmNilUptoCard : Claim7 := { stood := { row := vmNilUptoRow, standIns := [], harness := (true, "86a1cd689bec144b16402fc5f36b4d08b677cc8b789a2fcaeb514dd8e9277331"), looks := false }, kinds := [], alts := [], laidByText := true, laidKinds := [.data], laidTests := true, laidLooks := .later }
def VmNilUptoCardSaid : Prop := Claim7.holds Tryd.pinned (.plain (OpenSpec.upto vmNilSpec)) vmNilUptoCard
end Rows
end Go.Proofs.YtipllcepoijbiaaDoor
