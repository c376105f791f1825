/-
  DERIVED. GIVEN WITH THE SEED: THE CARDS: each row of YtikllkldhnncnaaGreatDoorRows.lean that lists a variable, with what it lists TIED to the program's text (the seventh form; the later family's looks); each row that meets fmt, with fmt's text TOLD by the authors' own Lean function (tested against real Go, not proved from fmt's source: count such statements apart). THE CARD IS WHAT COUNTS. Prove the row's statement (the work); the ties are given (YtikllkldhnncnaaGreatDoorTie.lean); close each card by the builder's one call (the guide's Derived/Test/ToyasCard.lean, 'card_holds'). Laid BY PROGRAM, IN A SANDBOX (cutbox-door.mjs). By AI agents, Wed Nov 11 2026. No macro, syntax, notation, axiom, sorry.
-/
import Derived.Test.YtikllkldhnncnaaGreatDoorRows
import GoSem.ClaimSeven
namespace Go.Proofs.YtikllkldhnncnaaGreatDoor
namespace Rows

/-- THE TIED CARD OF 'keyeventlaw40.ResolverTexts'. -/
def resolverTextsCard : Claim7 := { stood := { row := resolverTextsRow, standIns := [], harness := (true, "88d3206f2a50041276d4c50cd74df68eacd34a9f89ef2bf6091932b52f6ae554"), looks := true }, kinds := [], alts := [], laidByText := true, laidKinds := [.data, .data, .data, .data, .sentinel, .sentinel, .pinned], laidTests := true, laidLooks := .later }
def ResolverTextsCardSaid : Prop := Claim7.holds Tryz.pinned (.plain (OpenSpec.ofChange resolverTextsSpec)) resolverTextsCard

/-- THE SECOND FORM's CARD OF 'keyeventlaw40.ResolverTexts'. -/
def resolverTextsUptoCard : Claim7 := { stood := { row := resolverTextsUptoRow, standIns := [], harness := (true, "88d3206f2a50041276d4c50cd74df68eacd34a9f89ef2bf6091932b52f6ae554"), looks := true }, kinds := [], alts := [], laidByText := true, laidKinds := [.data, .data, .data, .data, .sentinel, .sentinel, .pinned], laidTests := true, laidLooks := .later }
def ResolverTextsUptoCardSaid : Prop := Claim7.holds Tryz.pinned (.plain (OpenSpec.upto resolverTextsSpec)) resolverTextsUptoCard
end Rows
end Go.Proofs.YtikllkldhnncnaaGreatDoor
