/-
  DERIVED. GIVEN WITH THE SEED: THE CARDS: each row of YtliijbndfcjpfaaGreatDoorRows.lean that lists a variable, with what it lists TIED to the program's text (the seventh form; the later family's looks); each row that meets fmt, with fmt's text TOLD by the authors' own Lean function (tested against real Go, not proved from fmt's source: count such statements apart). THE CARD IS WHAT COUNTS. Prove the row's statement (the work); the ties are given (YtliijbndfcjpfaaGreatDoorTie.lean); close each card by the builder's one call (the guide's Derived/Test/ToyasCard.lean, 'card_holds'). Laid BY PROGRAM, IN A SANDBOX (cutbox-door.mjs). By AI agents, Wed Nov 11 2026. No macro, syntax, notation, axiom, sorry.
-/
import Derived.Test.YtliijbndfcjpfaaGreatDoorRows
import GoSem.ClaimSeven
namespace Go.Proofs.YtliijbndfcjpfaaGreatDoor
namespace Rows

/-- THE TIED CARD OF 'marionettelaw24.WorldPicks'. -/
def worldPicksCard : Claim7 := { stood := { row := worldPicksRow, standIns := [], harness := (true, "58d11cb07803a6e54f6f43fcc5ee584cb932530e49a9949ecc587b4c510617a4"), looks := true }, kinds := [], alts := [], laidByText := true, laidKinds := [.data, .handle, .sentinel, .sentinel, .pinned], laidTests := true, laidLooks := .later }
def WorldPicksCardSaid : Prop := Claim7.holds Tryz.pinned (.plain (OpenSpec.ofChange worldPicksSpec)) worldPicksCard

/-- THE TIED CARD OF 'marionettelaw24.WorldEnds'. -/
def worldEndsCard : Claim7 := { stood := { row := worldEndsRow, standIns := [], harness := (true, "58d11cb07803a6e54f6f43fcc5ee584cb932530e49a9949ecc587b4c510617a4"), looks := true }, kinds := [], alts := [], laidByText := true, laidKinds := [.data, .data, .handle, .sentinel, .sentinel, .pinned], laidTests := true, laidLooks := .later }
def WorldEndsCardSaid : Prop := Claim7.holds Tryz.pinned (.plain (OpenSpec.ofChange worldEndsSpec)) worldEndsCard

/-- THE TIED CARD OF 'marionettelaw24.WorldNone'. -/
def worldNoneCard : Claim7 := { stood := { row := worldNoneRow, standIns := [], harness := (true, "58d11cb07803a6e54f6f43fcc5ee584cb932530e49a9949ecc587b4c510617a4"), looks := true }, kinds := [], alts := [], laidByText := true, laidKinds := [.data, .data, .handle, .sentinel, .sentinel, .pinned], laidTests := true, laidLooks := .later }
def WorldNoneCardSaid : Prop := Claim7.holds Tryz.pinned (.plain (OpenSpec.ofChange worldNoneSpec)) worldNoneCard

/-- THE SECOND FORM's CARD OF 'marionettelaw24.WorldPicks'. -/
def worldPicksUptoCard : Claim7 := { stood := { row := worldPicksUptoRow, standIns := [], harness := (true, "58d11cb07803a6e54f6f43fcc5ee584cb932530e49a9949ecc587b4c510617a4"), looks := true }, kinds := [], alts := [], laidByText := true, laidKinds := [.data, .handle, .sentinel, .sentinel, .pinned], laidTests := true, laidLooks := .later }
def WorldPicksUptoCardSaid : Prop := Claim7.holds Tryz.pinned (.plain (OpenSpec.upto worldPicksSpec)) worldPicksUptoCard

/-- THE SECOND FORM's CARD OF 'marionettelaw24.WorldEnds'. -/
def worldEndsUptoCard : Claim7 := { stood := { row := worldEndsUptoRow, standIns := [], harness := (true, "58d11cb07803a6e54f6f43fcc5ee584cb932530e49a9949ecc587b4c510617a4"), looks := true }, kinds := [], alts := [], laidByText := true, laidKinds := [.data, .data, .handle, .sentinel, .sentinel, .pinned], laidTests := true, laidLooks := .later }
def WorldEndsUptoCardSaid : Prop := Claim7.holds Tryz.pinned (.plain (OpenSpec.upto worldEndsSpec)) worldEndsUptoCard

/-- THE SECOND FORM's CARD OF 'marionettelaw24.WorldNone'. -/
def worldNoneUptoCard : Claim7 := { stood := { row := worldNoneUptoRow, standIns := [], harness := (true, "58d11cb07803a6e54f6f43fcc5ee584cb932530e49a9949ecc587b4c510617a4"), looks := true }, kinds := [], alts := [], laidByText := true, laidKinds := [.data, .data, .handle, .sentinel, .sentinel, .pinned], laidTests := true, laidLooks := .later }
def WorldNoneUptoCardSaid : Prop := Claim7.holds Tryz.pinned (.plain (OpenSpec.upto worldNoneSpec)) worldNoneUptoCard
end Rows
end Go.Proofs.YtliijbndfcjpfaaGreatDoor
