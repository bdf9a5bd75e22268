/-
  DERIVED. GIVEN WITH THE SEED: THE CARDS: each row of YtfiflkjniodbeaaGreatDoorRows.lean that lists a variable, with what it lists TIED to the program's text (the seventh form; the later family's looks); each row that meets fmt, with fmt's text TOLD by the authors' own Lean function (tested against real Go, not proved from fmt's source: count such statements apart). THE CARD IS WHAT COUNTS. Prove the row's statement (the work); the ties are given (YtfiflkjniodbeaaGreatDoorTie.lean); close each card by the builder's one call (the guide's Derived/Test/ToyasCard.lean, 'card_holds'). Laid BY PROGRAM, IN A SANDBOX (cutbox-door.mjs). By AI agents, Wed Nov 11 2026. No macro, syntax, notation, axiom, sorry.
-/
import Derived.Test.YtfiflkjniodbeaaGreatDoorRows
import GoSem.ClaimSeven
namespace Go.Proofs.YtfiflkjniodbeaaGreatDoor
namespace Rows

/-- THE TIED CARD OF 'assizelaw28.ReachCheckSpec'. -/
def reachCheckSpecCard : Claim7 := { stood := { row := reachCheckSpecRow, standIns := [], harness := (true, "dfa59dfd37c459f8ce856072ff6fb5f5aaf296b0c79e25e50ce51e8977896b3f"), looks := true }, kinds := [], alts := [], laidByText := true, laidKinds := [.data, .data, .data, .widerDeep], laidTests := true, laidLooks := .later }
def ReachCheckSpecCardSaid : Prop := Claim7.holds Tryz.pinned (.plain (OpenSpec.ofChange reachCheckSpecSpec)) reachCheckSpecCard

/-- THE TIED CARD OF 'assizelaw28.ReachDecideSpec'. -/
def reachDecideSpecCard : Claim7 := { stood := { row := reachDecideSpecRow, standIns := [], harness := (true, "dfa59dfd37c459f8ce856072ff6fb5f5aaf296b0c79e25e50ce51e8977896b3f"), looks := true }, kinds := [], alts := [], laidByText := true, laidKinds := [.data, .data, .data, .widerDeep], laidTests := true, laidLooks := .later }
def ReachDecideSpecCardSaid : Prop := Claim7.holds Tryz.pinned (.plain (OpenSpec.ofChange reachDecideSpecSpec)) reachDecideSpecCard

/-- THE SECOND FORM's CARD OF 'assizelaw28.ReachCheckSpec'. -/
def reachCheckSpecUptoCard : Claim7 := { stood := { row := reachCheckSpecUptoRow, standIns := [], harness := (true, "dfa59dfd37c459f8ce856072ff6fb5f5aaf296b0c79e25e50ce51e8977896b3f"), looks := true }, kinds := [], alts := [], laidByText := true, laidKinds := [.data, .data, .data, .widerDeep], laidTests := true, laidLooks := .later }
def ReachCheckSpecUptoCardSaid : Prop := Claim7.holds Tryz.pinned (.plain (OpenSpec.upto reachCheckSpecSpec)) reachCheckSpecUptoCard

/-- THE SECOND FORM's CARD OF 'assizelaw28.ReachDecideSpec'. -/
def reachDecideSpecUptoCard : Claim7 := { stood := { row := reachDecideSpecUptoRow, standIns := [], harness := (true, "dfa59dfd37c459f8ce856072ff6fb5f5aaf296b0c79e25e50ce51e8977896b3f"), looks := true }, kinds := [], alts := [], laidByText := true, laidKinds := [.data, .data, .data, .widerDeep], laidTests := true, laidLooks := .later }
def ReachDecideSpecUptoCardSaid : Prop := Claim7.holds Tryz.pinned (.plain (OpenSpec.upto reachDecideSpecSpec)) reachDecideSpecUptoCard
end Rows
end Go.Proofs.YtfiflkjniodbeaaGreatDoor
