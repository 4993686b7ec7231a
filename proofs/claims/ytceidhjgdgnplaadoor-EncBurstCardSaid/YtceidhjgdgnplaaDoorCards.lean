/-
  DERIVED. GIVEN WITH THE SEED: THE CARDS: each row of YtceidhjgdgnplaaDoorRows.lean that lists a variable, with what it lists TIED to the program's text (the seventh form; the later family's looks); each row that meets fmt, with fmt's text TOLD by the authors' own Lean function (tested against real Go, not proved from fmt's source: count such statements apart). THE CARD IS WHAT COUNTS. Prove the row's statement (the work); the ties are given (YtceidhjgdgnplaaDoorTie.lean); close each card by the builder's one call (the guide's Derived/Test/ToyasCard.lean, 'card_holds'). Laid BY PROGRAM, IN A SANDBOX (cutbox-door.mjs). By AI agents, Wed Nov 11 2026. No macro, syntax, notation, axiom, sorry.
-/
import Derived.Test.YtceidhjgdgnplaaDoorRows
import GoSem.ClaimSeven
namespace Go.Proofs.YtceidhjgdgnplaaDoor
namespace Rows

/-- THE TIED CARD OF 'almanaclaw02.EncSums'. -/
def encSumsCard : Claim7 := { stood := { row := encSumsRow, standIns := [], harness := (true, "f3cbacdc4b5b8f0671a813cadfaed72e5807a574aa6caa3efdabc039666801dc"), looks := true }, kinds := [], alts := [], laidByText := true, laidKinds := [.data], laidTests := true, laidLooks := .later }
def EncSumsCardSaid : Prop := Claim7.holds Tryd.pinned (.plain (OpenSpec.ofChange encSumsSpec)) encSumsCard

/-- THE TIED CARD OF 'almanaclaw02.EncSeals'. -/
def encSealsCard : Claim7 := { stood := { row := encSealsRow, standIns := [], harness := (true, "f3cbacdc4b5b8f0671a813cadfaed72e5807a574aa6caa3efdabc039666801dc"), looks := true }, kinds := [], alts := [], laidByText := true, laidKinds := [.data], laidTests := true, laidLooks := .later }
def EncSealsCardSaid : Prop := Claim7.holds Tryd.pinned (.plain (OpenSpec.ofChange encSealsSpec)) encSealsCard

/-- THE TIED CARD OF 'almanaclaw02.EncUints'. -/
def encUintsCard : Claim7 := { stood := { row := encUintsRow, standIns := [], harness := (true, "f3cbacdc4b5b8f0671a813cadfaed72e5807a574aa6caa3efdabc039666801dc"), looks := true }, kinds := [], alts := [], laidByText := true, laidKinds := [.data], laidTests := true, laidLooks := .later }
def EncUintsCardSaid : Prop := Claim7.holds Tryd.pinned (.plain (OpenSpec.ofChange encUintsSpec)) encUintsCard

/-- THE TIED CARD OF 'almanaclaw02.EncFrames'. -/
def encFramesCard : Claim7 := { stood := { row := encFramesRow, standIns := [], harness := (true, "f3cbacdc4b5b8f0671a813cadfaed72e5807a574aa6caa3efdabc039666801dc"), looks := true }, kinds := [], alts := [], laidByText := true, laidKinds := [.data], laidTests := true, laidLooks := .later }
def EncFramesCardSaid : Prop := Claim7.holds Tryd.pinned (.plain (OpenSpec.ofChange encFramesSpec)) encFramesCard

/-- THE TIED CARD OF 'almanaclaw02.EncInts'. -/
def encIntsCard : Claim7 := { stood := { row := encIntsRow, standIns := [], harness := (true, "f3cbacdc4b5b8f0671a813cadfaed72e5807a574aa6caa3efdabc039666801dc"), looks := true }, kinds := [], alts := [], laidByText := true, laidKinds := [.data], laidTests := true, laidLooks := .later }
def EncIntsCardSaid : Prop := Claim7.holds Tryd.pinned (.plain (OpenSpec.ofChange encIntsSpec)) encIntsCard

/-- THE TIED CARD OF 'almanaclaw02.EncOne'. -/
def encOneCard : Claim7 := { stood := { row := encOneRow, standIns := [], harness := (true, "f3cbacdc4b5b8f0671a813cadfaed72e5807a574aa6caa3efdabc039666801dc"), looks := true }, kinds := [], alts := [], laidByText := true, laidKinds := [.data], laidTests := true, laidLooks := .later }
def EncOneCardSaid : Prop := Claim7.holds Tryd.pinned (.plain (OpenSpec.ofChange encOneSpec)) encOneCard

/-- THE TIED CARD OF 'almanaclaw02.EncTexts'. -/
def encTextsCard : Claim7 := { stood := { row := encTextsRow, standIns := [], harness := (true, "f3cbacdc4b5b8f0671a813cadfaed72e5807a574aa6caa3efdabc039666801dc"), looks := true }, kinds := [], alts := [], laidByText := true, laidKinds := [.data], laidTests := true, laidLooks := .later }
def EncTextsCardSaid : Prop := Claim7.holds Tryd.pinned (.plain (OpenSpec.ofChange encTextsSpec)) encTextsCard

/-- THE TIED CARD OF 'almanaclaw02.EncBurst'. -/
def encBurstCard : Claim7 := { stood := { row := encBurstRow, standIns := [], harness := (true, "f3cbacdc4b5b8f0671a813cadfaed72e5807a574aa6caa3efdabc039666801dc"), looks := true }, kinds := [], alts := [], laidByText := true, laidKinds := [.data], laidTests := true, laidLooks := .later }
def EncBurstCardSaid : Prop := Claim7.holds Tryd.pinned (.plain (OpenSpec.ofChange encBurstSpec)) encBurstCard

/-- THE TIED CARD OF 'almanaclaw02.EncBack'. -/
def encBackCard : Claim7 := { stood := { row := encBackRow, standIns := [], harness := (true, "f3cbacdc4b5b8f0671a813cadfaed72e5807a574aa6caa3efdabc039666801dc"), looks := true }, kinds := [], alts := [], laidByText := true, laidKinds := [.data], laidTests := true, laidLooks := .later }
def EncBackCardSaid : Prop := Claim7.holds Tryd.pinned (.plain (OpenSpec.ofChange encBackSpec)) encBackCard

/-- THE TIED CARD OF 'almanaclaw09.ChunkEncodes'. -/
def chunkEncodesCard : Claim7 := { stood := { row := chunkEncodesRow, standIns := [], harness := (true, "f3cbacdc4b5b8f0671a813cadfaed72e5807a574aa6caa3efdabc039666801dc"), looks := true }, kinds := [], alts := [], laidByText := true, laidKinds := [.data], laidTests := true, laidLooks := .later }
def ChunkEncodesCardSaid : Prop := Claim7.holds Tryd.pinned (.plain (OpenSpec.ofChange chunkEncodesSpec)) chunkEncodesCard

/-- THE TIED CARD OF 'almanaclaw09.ChunkSteady'. -/
def chunkSteadyCard : Claim7 := { stood := { row := chunkSteadyRow, standIns := [], harness := (true, "f3cbacdc4b5b8f0671a813cadfaed72e5807a574aa6caa3efdabc039666801dc"), looks := true }, kinds := [], alts := [], laidByText := true, laidKinds := [.data], laidTests := true, laidLooks := .later }
def ChunkSteadyCardSaid : Prop := Claim7.holds Tryd.pinned (.plain (OpenSpec.ofChange chunkSteadySpec)) chunkSteadyCard

/-- THE TIED CARD OF 'almanaclaw09.ChunkGrows'. -/
def chunkGrowsCard : Claim7 := { stood := { row := chunkGrowsRow, standIns := [], harness := (true, "f3cbacdc4b5b8f0671a813cadfaed72e5807a574aa6caa3efdabc039666801dc"), looks := true }, kinds := [], alts := [], laidByText := true, laidKinds := [.data], laidTests := true, laidLooks := .later }
def ChunkGrowsCardSaid : Prop := Claim7.holds Tryd.pinned (.plain (OpenSpec.ofChange chunkGrowsSpec)) chunkGrowsCard

/-- THE TIED CARD OF 'almanaclaw09.ChunkWalks'. -/
def chunkWalksCard : Claim7 := { stood := { row := chunkWalksRow, standIns := [], harness := (true, "f3cbacdc4b5b8f0671a813cadfaed72e5807a574aa6caa3efdabc039666801dc"), looks := true }, kinds := [], alts := [], laidByText := true, laidKinds := [.data], laidTests := true, laidLooks := .later }
def ChunkWalksCardSaid : Prop := Claim7.holds Tryd.pinned (.plain (OpenSpec.ofChange chunkWalksSpec)) chunkWalksCard

/-- THE TIED CARD OF 'almanaclaw09.ChunkDecodes'. -/
def chunkDecodesCard : Claim7 := { stood := { row := chunkDecodesRow, standIns := [], harness := (true, "f3cbacdc4b5b8f0671a813cadfaed72e5807a574aa6caa3efdabc039666801dc"), looks := true }, kinds := [], alts := [], laidByText := true, laidKinds := [.data], laidTests := true, laidLooks := .later }
def ChunkDecodesCardSaid : Prop := Claim7.holds Tryd.pinned (.plain (OpenSpec.ofChange chunkDecodesSpec)) chunkDecodesCard

/-- THE TIED CARD OF 'almanaclaw09.ChunkOne'. -/
def chunkOneCard : Claim7 := { stood := { row := chunkOneRow, standIns := [], harness := (true, "f3cbacdc4b5b8f0671a813cadfaed72e5807a574aa6caa3efdabc039666801dc"), looks := true }, kinds := [], alts := [], laidByText := true, laidKinds := [.data], laidTests := true, laidLooks := .later }
def ChunkOneCardSaid : Prop := Claim7.holds Tryd.pinned (.plain (OpenSpec.ofChange chunkOneSpec)) chunkOneCard

/-- THE TIED CARD OF 'almanaclaw09.ChunkBack'. -/
def chunkBackCard : Claim7 := { stood := { row := chunkBackRow, standIns := [], harness := (true, "f3cbacdc4b5b8f0671a813cadfaed72e5807a574aa6caa3efdabc039666801dc"), looks := true }, kinds := [], alts := [], laidByText := true, laidKinds := [.data], laidTests := true, laidLooks := .later }
def ChunkBackCardSaid : Prop := Claim7.holds Tryd.pinned (.plain (OpenSpec.ofChange chunkBackSpec)) chunkBackCard

/-- THE TIED CARD OF 'almanaclaw09.ChunkKeeps'. -/
def chunkKeepsCard : Claim7 := { stood := { row := chunkKeepsRow, standIns := [], harness := (true, "f3cbacdc4b5b8f0671a813cadfaed72e5807a574aa6caa3efdabc039666801dc"), looks := true }, kinds := [], alts := [], laidByText := true, laidKinds := [.data], laidTests := true, laidLooks := .later }
def ChunkKeepsCardSaid : Prop := Claim7.holds Tryd.pinned (.plain (OpenSpec.ofChange chunkKeepsSpec)) chunkKeepsCard

/-- THE SECOND FORM's CARD OF 'almanaclaw02.EncSums'. -/
def encSumsUptoCard : Claim7 := { stood := { row := encSumsUptoRow, standIns := [], harness := (true, "f3cbacdc4b5b8f0671a813cadfaed72e5807a574aa6caa3efdabc039666801dc"), looks := true }, kinds := [], alts := [], laidByText := true, laidKinds := [.data], laidTests := true, laidLooks := .later }
def EncSumsUptoCardSaid : Prop := Claim7.holds Tryd.pinned (.plain (OpenSpec.upto encSumsSpec)) encSumsUptoCard

/-- THE SECOND FORM's CARD OF 'almanaclaw02.EncSeals'. -/
def encSealsUptoCard : Claim7 := { stood := { row := encSealsUptoRow, standIns := [], harness := (true, "f3cbacdc4b5b8f0671a813cadfaed72e5807a574aa6caa3efdabc039666801dc"), looks := true }, kinds := [], alts := [], laidByText := true, laidKinds := [.data], laidTests := true, laidLooks := .later }
def EncSealsUptoCardSaid : Prop := Claim7.holds Tryd.pinned (.plain (OpenSpec.upto encSealsSpec)) encSealsUptoCard

/-- THE SECOND FORM's CARD OF 'almanaclaw02.EncUints'. -/
def encUintsUptoCard : Claim7 := { stood := { row := encUintsUptoRow, standIns := [], harness := (true, "f3cbacdc4b5b8f0671a813cadfaed72e5807a574aa6caa3efdabc039666801dc"), looks := true }, kinds := [], alts := [], laidByText := true, laidKinds := [.data], laidTests := true, laidLooks := .later }
def EncUintsUptoCardSaid : Prop := Claim7.holds Tryd.pinned (.plain (OpenSpec.upto encUintsSpec)) encUintsUptoCard

/-- THE SECOND FORM's CARD OF 'almanaclaw02.EncFrames'. -/
def encFramesUptoCard : Claim7 := { stood := { row := encFramesUptoRow, standIns := [], harness := (true, "f3cbacdc4b5b8f0671a813cadfaed72e5807a574aa6caa3efdabc039666801dc"), looks := true }, kinds := [], alts := [], laidByText := true, laidKinds := [.data], laidTests := true, laidLooks := .later }
def EncFramesUptoCardSaid : Prop := Claim7.holds Tryd.pinned (.plain (OpenSpec.upto encFramesSpec)) encFramesUptoCard

/-- THE SECOND FORM's CARD OF 'almanaclaw02.EncInts'. -/
def encIntsUptoCard : Claim7 := { stood := { row := encIntsUptoRow, standIns := [], harness := (true, "f3cbacdc4b5b8f0671a813cadfaed72e5807a574aa6caa3efdabc039666801dc"), looks := true }, kinds := [], alts := [], laidByText := true, laidKinds := [.data], laidTests := true, laidLooks := .later }
def EncIntsUptoCardSaid : Prop := Claim7.holds Tryd.pinned (.plain (OpenSpec.upto encIntsSpec)) encIntsUptoCard

/-- THE SECOND FORM's CARD OF 'almanaclaw02.EncOne'. -/
def encOneUptoCard : Claim7 := { stood := { row := encOneUptoRow, standIns := [], harness := (true, "f3cbacdc4b5b8f0671a813cadfaed72e5807a574aa6caa3efdabc039666801dc"), looks := true }, kinds := [], alts := [], laidByText := true, laidKinds := [.data], laidTests := true, laidLooks := .later }
def EncOneUptoCardSaid : Prop := Claim7.holds Tryd.pinned (.plain (OpenSpec.upto encOneSpec)) encOneUptoCard

/-- THE SECOND FORM's CARD OF 'almanaclaw02.EncTexts'. -/
def encTextsUptoCard : Claim7 := { stood := { row := encTextsUptoRow, standIns := [], harness := (true, "f3cbacdc4b5b8f0671a813cadfaed72e5807a574aa6caa3efdabc039666801dc"), looks := true }, kinds := [], alts := [], laidByText := true, laidKinds := [.data], laidTests := true, laidLooks := .later }
def EncTextsUptoCardSaid : Prop := Claim7.holds Tryd.pinned (.plain (OpenSpec.upto encTextsSpec)) encTextsUptoCard

/-- THE SECOND FORM's CARD OF 'almanaclaw02.EncBurst'. -/
def encBurstUptoCard : Claim7 := { stood := { row := encBurstUptoRow, standIns := [], harness := (true, "f3cbacdc4b5b8f0671a813cadfaed72e5807a574aa6caa3efdabc039666801dc"), looks := true }, kinds := [], alts := [], laidByText := true, laidKinds := [.data], laidTests := true, laidLooks := .later }
def EncBurstUptoCardSaid : Prop := Claim7.holds Tryd.pinned (.plain (OpenSpec.upto encBurstSpec)) encBurstUptoCard

/-- THE SECOND FORM's CARD OF 'almanaclaw02.EncBack'. -/
def encBackUptoCard : Claim7 := { stood := { row := encBackUptoRow, standIns := [], harness := (true, "f3cbacdc4b5b8f0671a813cadfaed72e5807a574aa6caa3efdabc039666801dc"), looks := true }, kinds := [], alts := [], laidByText := true, laidKinds := [.data], laidTests := true, laidLooks := .later }
def EncBackUptoCardSaid : Prop := Claim7.holds Tryd.pinned (.plain (OpenSpec.upto encBackSpec)) encBackUptoCard

/-- THE SECOND FORM's CARD OF 'almanaclaw09.ChunkEncodes'. -/
def chunkEncodesUptoCard : Claim7 := { stood := { row := chunkEncodesUptoRow, standIns := [], harness := (true, "f3cbacdc4b5b8f0671a813cadfaed72e5807a574aa6caa3efdabc039666801dc"), looks := true }, kinds := [], alts := [], laidByText := true, laidKinds := [.data], laidTests := true, laidLooks := .later }
def ChunkEncodesUptoCardSaid : Prop := Claim7.holds Tryd.pinned (.plain (OpenSpec.upto chunkEncodesSpec)) chunkEncodesUptoCard

/-- THE SECOND FORM's CARD OF 'almanaclaw09.ChunkSteady'. -/
def chunkSteadyUptoCard : Claim7 := { stood := { row := chunkSteadyUptoRow, standIns := [], harness := (true, "f3cbacdc4b5b8f0671a813cadfaed72e5807a574aa6caa3efdabc039666801dc"), looks := true }, kinds := [], alts := [], laidByText := true, laidKinds := [.data], laidTests := true, laidLooks := .later }
def ChunkSteadyUptoCardSaid : Prop := Claim7.holds Tryd.pinned (.plain (OpenSpec.upto chunkSteadySpec)) chunkSteadyUptoCard

/-- THE SECOND FORM's CARD OF 'almanaclaw09.ChunkGrows'. -/
def chunkGrowsUptoCard : Claim7 := { stood := { row := chunkGrowsUptoRow, standIns := [], harness := (true, "f3cbacdc4b5b8f0671a813cadfaed72e5807a574aa6caa3efdabc039666801dc"), looks := true }, kinds := [], alts := [], laidByText := true, laidKinds := [.data], laidTests := true, laidLooks := .later }
def ChunkGrowsUptoCardSaid : Prop := Claim7.holds Tryd.pinned (.plain (OpenSpec.upto chunkGrowsSpec)) chunkGrowsUptoCard

/-- THE SECOND FORM's CARD OF 'almanaclaw09.ChunkWalks'. -/
def chunkWalksUptoCard : Claim7 := { stood := { row := chunkWalksUptoRow, standIns := [], harness := (true, "f3cbacdc4b5b8f0671a813cadfaed72e5807a574aa6caa3efdabc039666801dc"), looks := true }, kinds := [], alts := [], laidByText := true, laidKinds := [.data], laidTests := true, laidLooks := .later }
def ChunkWalksUptoCardSaid : Prop := Claim7.holds Tryd.pinned (.plain (OpenSpec.upto chunkWalksSpec)) chunkWalksUptoCard

/-- THE SECOND FORM's CARD OF 'almanaclaw09.ChunkDecodes'. -/
def chunkDecodesUptoCard : Claim7 := { stood := { row := chunkDecodesUptoRow, standIns := [], harness := (true, "f3cbacdc4b5b8f0671a813cadfaed72e5807a574aa6caa3efdabc039666801dc"), looks := true }, kinds := [], alts := [], laidByText := true, laidKinds := [.data], laidTests := true, laidLooks := .later }
def ChunkDecodesUptoCardSaid : Prop := Claim7.holds Tryd.pinned (.plain (OpenSpec.upto chunkDecodesSpec)) chunkDecodesUptoCard

/-- THE SECOND FORM's CARD OF 'almanaclaw09.ChunkOne'. -/
def chunkOneUptoCard : Claim7 := { stood := { row := chunkOneUptoRow, standIns := [], harness := (true, "f3cbacdc4b5b8f0671a813cadfaed72e5807a574aa6caa3efdabc039666801dc"), looks := true }, kinds := [], alts := [], laidByText := true, laidKinds := [.data], laidTests := true, laidLooks := .later }
def ChunkOneUptoCardSaid : Prop := Claim7.holds Tryd.pinned (.plain (OpenSpec.upto chunkOneSpec)) chunkOneUptoCard

/-- THE SECOND FORM's CARD OF 'almanaclaw09.ChunkBack'. -/
def chunkBackUptoCard : Claim7 := { stood := { row := chunkBackUptoRow, standIns := [], harness := (true, "f3cbacdc4b5b8f0671a813cadfaed72e5807a574aa6caa3efdabc039666801dc"), looks := true }, kinds := [], alts := [], laidByText := true, laidKinds := [.data], laidTests := true, laidLooks := .later }
def ChunkBackUptoCardSaid : Prop := Claim7.holds Tryd.pinned (.plain (OpenSpec.upto chunkBackSpec)) chunkBackUptoCard

/-- THE SECOND FORM's CARD OF 'almanaclaw09.ChunkKeeps'. -/
def chunkKeepsUptoCard : Claim7 := { stood := { row := chunkKeepsUptoRow, standIns := [], harness := (true, "f3cbacdc4b5b8f0671a813cadfaed72e5807a574aa6caa3efdabc039666801dc"), looks := true }, kinds := [], alts := [], laidByText := true, laidKinds := [.data], laidTests := true, laidLooks := .later }
def ChunkKeepsUptoCardSaid : Prop := Claim7.holds Tryd.pinned (.plain (OpenSpec.upto chunkKeepsSpec)) chunkKeepsUptoCard
end Rows
end Go.Proofs.YtceidhjgdgnplaaDoor
