/-
  DERIVED. GIVEN WITH THE SEED: THE CARDS: each row of YtkoplojnfijllaaDoorRows.lean that lists a variable, with what it lists TIED to the program's text (the seventh form; the later family's looks); each row that meets fmt, with fmt's text TOLD by the authors' own Lean function (tested against real Go, not proved from fmt's source: count such statements apart). THE CARD IS WHAT COUNTS. Prove the row's statement (the work); the ties are given (YtkoplojnfijllaaDoorTie.lean); close each card by the builder's one call (the guide's Derived/Test/ToyasCard.lean, 'card_holds'). Laid BY PROGRAM, IN A SANDBOX (cutbox-door.mjs). By AI agents, Wed Nov 11 2026. No macro, syntax, notation, axiom, sorry.
-/
import Derived.Test.YtkoplojnfijllaaDoorRows
import GoSem.ClaimSeven
namespace Go.Proofs.YtkoplojnfijllaaDoor
namespace Rows

/-- THE TIED CARD OF 'ceilidhlaw18.ChunkPlays'. -/
def chunkPlaysCard : Claim7 := { stood := { row := chunkPlaysRow, standIns := [], harness := (true, "7ae46d96681807f12e74229b04535c592a83628004727128e88e87b79a840a2b"), looks := false }, kinds := [], alts := [], laidByText := true, laidKinds := [.data], laidTests := true, laidLooks := .later }
def ChunkPlaysCardSaid : Prop := Claim7.holds Tryd.pinned (.plain (OpenSpec.ofChange chunkPlaysSpec)) chunkPlaysCard

/-- THE TIED CARD OF 'ceilidhlaw18.ChunkOrders'. -/
def chunkOrdersCard : Claim7 := { stood := { row := chunkOrdersRow, standIns := [], harness := (true, "7ae46d96681807f12e74229b04535c592a83628004727128e88e87b79a840a2b"), looks := false }, kinds := [], alts := [], laidByText := true, laidKinds := [.data], laidTests := true, laidLooks := .later }
def ChunkOrdersCardSaid : Prop := Claim7.holds Tryd.pinned (.plain (OpenSpec.ofChange chunkOrdersSpec)) chunkOrdersCard

/-- THE TIED CARD OF 'ceilidhlaw18.ChunkSizes'. -/
def chunkSizesCard : Claim7 := { stood := { row := chunkSizesRow, standIns := [], harness := (true, "7ae46d96681807f12e74229b04535c592a83628004727128e88e87b79a840a2b"), looks := false }, kinds := [], alts := [], laidByText := true, laidKinds := [.data], laidTests := true, laidLooks := .later }
def ChunkSizesCardSaid : Prop := Claim7.holds Tryd.pinned (.plain (OpenSpec.ofChange chunkSizesSpec)) chunkSizesCard

/-- THE TIED CARD OF 'ceilidhlaw18.ChunkGot'. -/
def chunkGotCard : Claim7 := { stood := { row := chunkGotRow, standIns := [], harness := (true, "7ae46d96681807f12e74229b04535c592a83628004727128e88e87b79a840a2b"), looks := false }, kinds := [], alts := [], laidByText := true, laidKinds := [.data], laidTests := true, laidLooks := .later }
def ChunkGotCardSaid : Prop := Claim7.holds Tryd.pinned (.plain (OpenSpec.ofChange chunkGotSpec)) chunkGotCard

/-- THE SECOND FORM's CARD OF 'ceilidhlaw18.ChunkPlays'. -/
def chunkPlaysUptoCard : Claim7 := { stood := { row := chunkPlaysUptoRow, standIns := [], harness := (true, "7ae46d96681807f12e74229b04535c592a83628004727128e88e87b79a840a2b"), looks := false }, kinds := [], alts := [], laidByText := true, laidKinds := [.data], laidTests := true, laidLooks := .later }
def ChunkPlaysUptoCardSaid : Prop := Claim7.holds Tryd.pinned (.plain (OpenSpec.upto chunkPlaysSpec)) chunkPlaysUptoCard

/-- THE SECOND FORM's CARD OF 'ceilidhlaw18.ChunkOrders'. -/
def chunkOrdersUptoCard : Claim7 := { stood := { row := chunkOrdersUptoRow, standIns := [], harness := (true, "7ae46d96681807f12e74229b04535c592a83628004727128e88e87b79a840a2b"), looks := false }, kinds := [], alts := [], laidByText := true, laidKinds := [.data], laidTests := true, laidLooks := .later }
def ChunkOrdersUptoCardSaid : Prop := Claim7.holds Tryd.pinned (.plain (OpenSpec.upto chunkOrdersSpec)) chunkOrdersUptoCard

/-- THE SECOND FORM's CARD OF 'ceilidhlaw18.ChunkSizes'. -/
def chunkSizesUptoCard : Claim7 := { stood := { row := chunkSizesUptoRow, standIns := [], harness := (true, "7ae46d96681807f12e74229b04535c592a83628004727128e88e87b79a840a2b"), looks := false }, kinds := [], alts := [], laidByText := true, laidKinds := [.data], laidTests := true, laidLooks := .later }
def ChunkSizesUptoCardSaid : Prop := Claim7.holds Tryd.pinned (.plain (OpenSpec.upto chunkSizesSpec)) chunkSizesUptoCard

/-- THE SECOND FORM's CARD OF 'ceilidhlaw18.ChunkGot'. -/
def chunkGotUptoCard : Claim7 := { stood := { row := chunkGotUptoRow, standIns := [], harness := (true, "7ae46d96681807f12e74229b04535c592a83628004727128e88e87b79a840a2b"), looks := false }, kinds := [], alts := [], laidByText := true, laidKinds := [.data], laidTests := true, laidLooks := .later }
def ChunkGotUptoCardSaid : Prop := Claim7.holds Tryd.pinned (.plain (OpenSpec.upto chunkGotSpec)) chunkGotUptoCard
end Rows
end Go.Proofs.YtkoplojnfijllaaDoor
