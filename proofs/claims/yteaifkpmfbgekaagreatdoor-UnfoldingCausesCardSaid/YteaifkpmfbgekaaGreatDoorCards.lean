/-
  DERIVED. GIVEN WITH THE SEED: THE CARDS: each row of YteaifkpmfbgekaaGreatDoorRows.lean that lists a variable, with what it lists TIED to the program's text (the seventh form; the later family's looks); each row that meets fmt, with fmt's text TOLD by the authors' own Lean function (tested against real Go, not proved from fmt's source: count such statements apart). THE CARD IS WHAT COUNTS. Prove the row's statement (the work); the ties are given (YteaifkpmfbgekaaGreatDoorTie.lean); close each card by the builder's one call (the guide's Derived/Test/ToyasCard.lean, 'card_holds'). Laid BY PROGRAM, IN A SANDBOX (cutbox-door.mjs). By AI agents, Wed Nov 11 2026. No macro, syntax, notation, axiom, sorry.
-/
import Derived.Test.YteaifkpmfbgekaaGreatDoorRows
import GoSem.ClaimSeven
namespace Go.Proofs.YteaifkpmfbgekaaGreatDoor
namespace Rows

/-- THE TIED CARD OF 'scarfjointlaw51.UnfoldingCauses'. -/
def unfoldingCausesCard : Claim7 := { stood := { row := unfoldingCausesRow, standIns := [], harness := (true, "3db73ab5d76d081bd51f6d12aa119c77ef02a10c9205e572c24fc2fa65abee83"), looks := false }, kinds := [], alts := [], laidByText := true, laidKinds := [.data], laidTests := true, laidLooks := .later }
def UnfoldingCausesCardSaid : Prop := Claim7.holds Tryz.pinned (.plain (OpenSpec.ofChange unfoldingCausesSpec)) unfoldingCausesCard

/-- THE SECOND FORM's CARD OF 'scarfjointlaw51.UnfoldingCauses'. -/
def unfoldingCausesUptoCard : Claim7 := { stood := { row := unfoldingCausesUptoRow, standIns := [], harness := (true, "3db73ab5d76d081bd51f6d12aa119c77ef02a10c9205e572c24fc2fa65abee83"), looks := false }, kinds := [], alts := [], laidByText := true, laidKinds := [.data], laidTests := true, laidLooks := .later }
def UnfoldingCausesUptoCardSaid : Prop := Claim7.holds Tryz.pinned (.plain (OpenSpec.upto unfoldingCausesSpec)) unfoldingCausesUptoCard
end Rows
end Go.Proofs.YteaifkpmfbgekaaGreatDoor
