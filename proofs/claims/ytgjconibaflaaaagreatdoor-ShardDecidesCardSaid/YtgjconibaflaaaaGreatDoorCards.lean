/-
  DERIVED. GIVEN WITH THE SEED: THE CARDS: each row of YtgjconibaflaaaaGreatDoorRows.lean that lists a variable, with what it lists TIED to the program's text (the seventh form; the later family's looks); each row that meets fmt, with fmt's text TOLD by the authors' own Lean function (tested against real Go, not proved from fmt's source: count such statements apart). THE CARD IS WHAT COUNTS. Prove the row's statement (the work); the ties are given (YtgjconibaflaaaaGreatDoorTie.lean); close each card by the builder's one call (the guide's Derived/Test/ToyasCard.lean, 'card_holds'). Laid BY PROGRAM, IN A SANDBOX (cutbox-door.mjs). By AI agents, Wed Nov 11 2026. No macro, syntax, notation, axiom, sorry.
-/
import Derived.Test.YtgjconibaflaaaaGreatDoorRows
import GoSem.ClaimSeven
namespace Go.Proofs.YtgjconibaflaaaaGreatDoor
namespace Rows

/-- THE TIED CARD OF 'cantonlaw13.ShardDecides'. -/
def shardDecidesCard : Claim7 := { stood := { row := shardDecidesRow, standIns := [], harness := (true, "944e6d9e7270a306b81e245ca2a86f79048d2cd52d8bf8a137b3727987d6e79d"), looks := false }, kinds := [], alts := [], laidByText := true, laidKinds := [.data, .data, .data], laidTests := true, laidLooks := .later }
def ShardDecidesCardSaid : Prop := Claim7.holds Tryz.pinned (.plain (OpenSpec.ofChange shardDecidesSpec)) shardDecidesCard

/-- THE SECOND FORM's CARD OF 'cantonlaw13.ShardDecides'. -/
def shardDecidesUptoCard : Claim7 := { stood := { row := shardDecidesUptoRow, standIns := [], harness := (true, "944e6d9e7270a306b81e245ca2a86f79048d2cd52d8bf8a137b3727987d6e79d"), looks := false }, kinds := [], alts := [], laidByText := true, laidKinds := [.data, .data, .data], laidTests := true, laidLooks := .later }
def ShardDecidesUptoCardSaid : Prop := Claim7.holds Tryz.pinned (.plain (OpenSpec.upto shardDecidesSpec)) shardDecidesUptoCard
end Rows
end Go.Proofs.YtgjconibaflaaaaGreatDoor
