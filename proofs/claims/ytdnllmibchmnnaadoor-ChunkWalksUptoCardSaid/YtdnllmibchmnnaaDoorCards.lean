/-
  DERIVED. GIVEN WITH THE SEED: THE CARDS: each row of YtdnllmibchmnnaaDoorRows.lean that lists a variable, with what it lists TIED to the program's text (the seventh form; the later family's looks); each row that meets fmt, with fmt's text TOLD by the authors' own Lean function (tested against real Go, not proved from fmt's source: count such statements apart). THE CARD IS WHAT COUNTS. Prove the row's statement (the work); the ties are given (YtdnllmibchmnnaaDoorTie.lean); close each card by the builder's one call (the guide's Derived/Test/ToyasCard.lean, 'card_holds'). Laid BY PROGRAM, IN A SANDBOX (cutbox-door.mjs). By AI agents, Wed Nov 11 2026. No macro, syntax, notation, axiom, sorry.
-/
import Derived.Test.YtdnllmibchmnnaaDoorRows
import GoSem.ClaimSeven
namespace Go.Proofs.YtdnllmibchmnnaaDoor
namespace Rows

/-- THE TIED CARD OF 'almanaclaw09.ChunkEncodes'. -/
def chunkEncodesCard : Claim7 := { stood := { row := chunkEncodesRow, standIns := [], harness := (true, "80b844224bba7735385ef7bb76728f99458a57298458509a0714ec932e819ce9"), looks := true }, kinds := [], alts := [], laidByText := true, laidKinds := [.data], laidTests := true, laidLooks := .later }
def ChunkEncodesCardSaid : Prop := Claim7.holds Tryd.pinned (.plain (OpenSpec.ofChange chunkEncodesSpec)) chunkEncodesCard

/-- THE TIED CARD OF 'almanaclaw09.ChunkSteady'. -/
def chunkSteadyCard : Claim7 := { stood := { row := chunkSteadyRow, standIns := [], harness := (true, "80b844224bba7735385ef7bb76728f99458a57298458509a0714ec932e819ce9"), looks := true }, kinds := [], alts := [], laidByText := true, laidKinds := [.data], laidTests := true, laidLooks := .later }
def ChunkSteadyCardSaid : Prop := Claim7.holds Tryd.pinned (.plain (OpenSpec.ofChange chunkSteadySpec)) chunkSteadyCard

/-- THE TIED CARD OF 'almanaclaw09.ChunkGrows'. -/
def chunkGrowsCard : Claim7 := { stood := { row := chunkGrowsRow, standIns := [], harness := (true, "80b844224bba7735385ef7bb76728f99458a57298458509a0714ec932e819ce9"), looks := true }, kinds := [], alts := [], laidByText := true, laidKinds := [.data], laidTests := true, laidLooks := .later }
def ChunkGrowsCardSaid : Prop := Claim7.holds Tryd.pinned (.plain (OpenSpec.ofChange chunkGrowsSpec)) chunkGrowsCard

/-- THE TIED CARD OF 'almanaclaw09.ChunkWalks'. -/
def chunkWalksCard : Claim7 := { stood := { row := chunkWalksRow, standIns := [], harness := (true, "80b844224bba7735385ef7bb76728f99458a57298458509a0714ec932e819ce9"), looks := true }, kinds := [], alts := [], laidByText := true, laidKinds := [.data], laidTests := true, laidLooks := .later }
def ChunkWalksCardSaid : Prop := Claim7.holds Tryd.pinned (.plain (OpenSpec.ofChange chunkWalksSpec)) chunkWalksCard

/-- THE TIED CARD OF 'almanaclaw09.ChunkDecodes'. -/
def chunkDecodesCard : Claim7 := { stood := { row := chunkDecodesRow, standIns := [], harness := (true, "80b844224bba7735385ef7bb76728f99458a57298458509a0714ec932e819ce9"), looks := true }, kinds := [], alts := [], laidByText := true, laidKinds := [.data], laidTests := true, laidLooks := .later }
def ChunkDecodesCardSaid : Prop := Claim7.holds Tryd.pinned (.plain (OpenSpec.ofChange chunkDecodesSpec)) chunkDecodesCard

/-- THE TIED CARD OF 'almanaclaw09.ChunkOne'. -/
def chunkOneCard : Claim7 := { stood := { row := chunkOneRow, standIns := [], harness := (true, "80b844224bba7735385ef7bb76728f99458a57298458509a0714ec932e819ce9"), looks := true }, kinds := [], alts := [], laidByText := true, laidKinds := [.data], laidTests := true, laidLooks := .later }
def ChunkOneCardSaid : Prop := Claim7.holds Tryd.pinned (.plain (OpenSpec.ofChange chunkOneSpec)) chunkOneCard

/-- THE TIED CARD OF 'almanaclaw09.ChunkBack'. -/
def chunkBackCard : Claim7 := { stood := { row := chunkBackRow, standIns := [], harness := (true, "80b844224bba7735385ef7bb76728f99458a57298458509a0714ec932e819ce9"), looks := true }, kinds := [], alts := [], laidByText := true, laidKinds := [.data], laidTests := true, laidLooks := .later }
def ChunkBackCardSaid : Prop := Claim7.holds Tryd.pinned (.plain (OpenSpec.ofChange chunkBackSpec)) chunkBackCard

/-- THE TIED CARD OF 'almanaclaw09.ChunkKeeps'. -/
def chunkKeepsCard : Claim7 := { stood := { row := chunkKeepsRow, standIns := [], harness := (true, "80b844224bba7735385ef7bb76728f99458a57298458509a0714ec932e819ce9"), looks := true }, kinds := [], alts := [], laidByText := true, laidKinds := [.data], laidTests := true, laidLooks := .later }
def ChunkKeepsCardSaid : Prop := Claim7.holds Tryd.pinned (.plain (OpenSpec.ofChange chunkKeepsSpec)) chunkKeepsCard

/-- THE SECOND FORM's CARD OF 'almanaclaw09.ChunkEncodes'. -/
def chunkEncodesUptoCard : Claim7 := { stood := { row := chunkEncodesUptoRow, standIns := [], harness := (true, "80b844224bba7735385ef7bb76728f99458a57298458509a0714ec932e819ce9"), looks := true }, kinds := [], alts := [], laidByText := true, laidKinds := [.data], laidTests := true, laidLooks := .later }
def ChunkEncodesUptoCardSaid : Prop := Claim7.holds Tryd.pinned (.plain (OpenSpec.upto chunkEncodesSpec)) chunkEncodesUptoCard

/-- THE SECOND FORM's CARD OF 'almanaclaw09.ChunkSteady'. -/
def chunkSteadyUptoCard : Claim7 := { stood := { row := chunkSteadyUptoRow, standIns := [], harness := (true, "80b844224bba7735385ef7bb76728f99458a57298458509a0714ec932e819ce9"), looks := true }, kinds := [], alts := [], laidByText := true, laidKinds := [.data], laidTests := true, laidLooks := .later }
def ChunkSteadyUptoCardSaid : Prop := Claim7.holds Tryd.pinned (.plain (OpenSpec.upto chunkSteadySpec)) chunkSteadyUptoCard

/-- THE SECOND FORM's CARD OF 'almanaclaw09.ChunkGrows'. -/
def chunkGrowsUptoCard : Claim7 := { stood := { row := chunkGrowsUptoRow, standIns := [], harness := (true, "80b844224bba7735385ef7bb76728f99458a57298458509a0714ec932e819ce9"), looks := true }, kinds := [], alts := [], laidByText := true, laidKinds := [.data], laidTests := true, laidLooks := .later }
def ChunkGrowsUptoCardSaid : Prop := Claim7.holds Tryd.pinned (.plain (OpenSpec.upto chunkGrowsSpec)) chunkGrowsUptoCard

/-- THE SECOND FORM's CARD OF 'almanaclaw09.ChunkWalks'. -/
def chunkWalksUptoCard : Claim7 := { stood := { row := chunkWalksUptoRow, standIns := [], harness := (true, "80b844224bba7735385ef7bb76728f99458a57298458509a0714ec932e819ce9"), looks := true }, kinds := [], alts := [], laidByText := true, laidKinds := [.data], laidTests := true, laidLooks := .later }
def ChunkWalksUptoCardSaid : Prop := Claim7.holds Tryd.pinned (.plain (OpenSpec.upto chunkWalksSpec)) chunkWalksUptoCard

/-- THE SECOND FORM's CARD OF 'almanaclaw09.ChunkDecodes'. -/
def chunkDecodesUptoCard : Claim7 := { stood := { row := chunkDecodesUptoRow, standIns := [], harness := (true, "80b844224bba7735385ef7bb76728f99458a57298458509a0714ec932e819ce9"), looks := true }, kinds := [], alts := [], laidByText := true, laidKinds := [.data], laidTests := true, laidLooks := .later }
def ChunkDecodesUptoCardSaid : Prop := Claim7.holds Tryd.pinned (.plain (OpenSpec.upto chunkDecodesSpec)) chunkDecodesUptoCard

/-- THE SECOND FORM's CARD OF 'almanaclaw09.ChunkOne'. -/
def chunkOneUptoCard : Claim7 := { stood := { row := chunkOneUptoRow, standIns := [], harness := (true, "80b844224bba7735385ef7bb76728f99458a57298458509a0714ec932e819ce9"), looks := true }, kinds := [], alts := [], laidByText := true, laidKinds := [.data], laidTests := true, laidLooks := .later }
def ChunkOneUptoCardSaid : Prop := Claim7.holds Tryd.pinned (.plain (OpenSpec.upto chunkOneSpec)) chunkOneUptoCard

/-- THE SECOND FORM's CARD OF 'almanaclaw09.ChunkBack'. -/
def chunkBackUptoCard : Claim7 := { stood := { row := chunkBackUptoRow, standIns := [], harness := (true, "80b844224bba7735385ef7bb76728f99458a57298458509a0714ec932e819ce9"), looks := true }, kinds := [], alts := [], laidByText := true, laidKinds := [.data], laidTests := true, laidLooks := .later }
def ChunkBackUptoCardSaid : Prop := Claim7.holds Tryd.pinned (.plain (OpenSpec.upto chunkBackSpec)) chunkBackUptoCard

/-- THE SECOND FORM's CARD OF 'almanaclaw09.ChunkKeeps'. -/
def chunkKeepsUptoCard : Claim7 := { stood := { row := chunkKeepsUptoRow, standIns := [], harness := (true, "80b844224bba7735385ef7bb76728f99458a57298458509a0714ec932e819ce9"), looks := true }, kinds := [], alts := [], laidByText := true, laidKinds := [.data], laidTests := true, laidLooks := .later }
def ChunkKeepsUptoCardSaid : Prop := Claim7.holds Tryd.pinned (.plain (OpenSpec.upto chunkKeepsSpec)) chunkKeepsUptoCard
end Rows
end Go.Proofs.YtdnllmibchmnnaaDoor
