/-
  DERIVED. GIVEN WITH THE SEED: THE CARDS: each row of YtgebekklkodpaaaDoorRows.lean that lists a variable, with what it lists TIED to the program's text (the seventh form; the later family's looks); each row that meets fmt, with fmt's text TOLD by the authors' own Lean function (tested against real Go, not proved from fmt's source: count such statements apart). THE CARD IS WHAT COUNTS. Prove the row's statement (the work); the ties are given (YtgebekklkodpaaaDoorTie.lean); close each card by the builder's one call (the guide's Derived/Test/ToyasCard.lean, 'card_holds'). Laid BY PROGRAM, IN A SANDBOX (cutbox-door.mjs). By AI agents, Wed Nov 11 2026. No macro, syntax, notation, axiom, sorry.
-/
import Derived.Test.YtgebekklkodpaaaDoorRows
import GoSem.ClaimSeven
namespace Go.Proofs.YtgebekklkodpaaaDoor
namespace Rows

/-- THE TIED CARD OF 'concordlaw02.FrameJoins'. -/
def frameJoinsCard : Claim7 := { stood := { row := frameJoinsRow, standIns := [], harness := (true, "39c9243dc7b9514eecc1f02b023d42bbca4a3c1632f2e3a05b94d4a7fbd45887"), looks := true }, kinds := [], alts := [], laidByText := true, laidKinds := [.data], laidTests := true, laidLooks := .later }
def FrameJoinsCardSaid : Prop := Claim7.holds Tryd.pinned (.plain (OpenSpec.ofChange frameJoinsSpec)) frameJoinsCard

/-- THE TIED CARD OF 'concordlaw02.FrameEncodes'. -/
def frameEncodesCard : Claim7 := { stood := { row := frameEncodesRow, standIns := [], harness := (true, "39c9243dc7b9514eecc1f02b023d42bbca4a3c1632f2e3a05b94d4a7fbd45887"), looks := true }, kinds := [], alts := [], laidByText := true, laidKinds := [.sentinel, .sentinel, .sentinel, .sentinel, .sentinel, .sentinel, .sentinel, .sentinel, .sentinel, .sentinel, .sentinel, .sentinel, .sentinel, .sentinel, .sentinel, .sentinel, .sentinel, .sentinel, .sentinel, .sentinel, .sentinel, .sentinel, .sentinel, .sentinel, .data], laidTests := true, laidLooks := .later }
def FrameEncodesCardSaid : Prop := Claim7.holds Tryd.pinned (.plain (OpenSpec.ofChange frameEncodesSpec)) frameEncodesCard

/-- THE TIED CARD OF 'concordlaw02.FrameSums'. -/
def frameSumsCard : Claim7 := { stood := { row := frameSumsRow, standIns := [], harness := (true, "39c9243dc7b9514eecc1f02b023d42bbca4a3c1632f2e3a05b94d4a7fbd45887"), looks := true }, kinds := [], alts := [], laidByText := true, laidKinds := [.sentinel, .data, .data], laidTests := true, laidLooks := .later }
def FrameSumsCardSaid : Prop := Claim7.holds Tryd.pinned (.plain (OpenSpec.ofChange frameSumsSpec)) frameSumsCard

/-- THE TIED CARD OF 'concordlaw02.FramePacks'. -/
def framePacksCard : Claim7 := { stood := { row := framePacksRow, standIns := [], harness := (true, "39c9243dc7b9514eecc1f02b023d42bbca4a3c1632f2e3a05b94d4a7fbd45887"), looks := true }, kinds := [], alts := [], laidByText := true, laidKinds := [.sentinel, .sentinel, .sentinel, .sentinel, .sentinel, .sentinel, .sentinel, .sentinel, .sentinel, .sentinel, .sentinel, .sentinel, .sentinel, .sentinel, .sentinel, .sentinel, .sentinel, .sentinel, .sentinel, .sentinel, .sentinel, .sentinel, .sentinel, .sentinel, .data, .data], laidTests := true, laidLooks := .later }
def FramePacksCardSaid : Prop := Claim7.holds Tryd.pinned (.plain (OpenSpec.ofChange framePacksSpec)) framePacksCard

/-- THE TIED CARD OF 'concordlaw02.FrameSplits'. -/
def frameSplitsCard : Claim7 := { stood := { row := frameSplitsRow, standIns := [], harness := (true, "39c9243dc7b9514eecc1f02b023d42bbca4a3c1632f2e3a05b94d4a7fbd45887"), looks := true }, kinds := [], alts := [], laidByText := true, laidKinds := [.sentinel, .data], laidTests := true, laidLooks := .later }
def FrameSplitsCardSaid : Prop := Claim7.holds Tryd.pinned (.plain (OpenSpec.ofChange frameSplitsSpec)) frameSplitsCard

/-- THE TIED CARD OF 'concordlaw02.FrameSteps'. -/
def frameStepsCard : Claim7 := { stood := { row := frameStepsRow, standIns := [], harness := (true, "39c9243dc7b9514eecc1f02b023d42bbca4a3c1632f2e3a05b94d4a7fbd45887"), looks := true }, kinds := [], alts := [], laidByText := true, laidKinds := [.sentinel, .data], laidTests := true, laidLooks := .later }
def FrameStepsCardSaid : Prop := Claim7.holds Tryd.pinned (.plain (OpenSpec.ofChange frameStepsSpec)) frameStepsCard

/-- THE TIED CARD OF 'concordlaw02.FrameDecodes'. -/
def frameDecodesCard : Claim7 := { stood := { row := frameDecodesRow, standIns := [], harness := (true, "39c9243dc7b9514eecc1f02b023d42bbca4a3c1632f2e3a05b94d4a7fbd45887"), looks := true }, kinds := [], alts := [], laidByText := true, laidKinds := [.sentinel, .sentinel, .sentinel, .sentinel, .sentinel, .sentinel, .sentinel, .sentinel, .sentinel, .sentinel, .sentinel, .sentinel, .sentinel, .sentinel, .sentinel, .sentinel, .sentinel, .sentinel, .sentinel, .sentinel, .sentinel, .sentinel, .sentinel, .sentinel, .data], laidTests := true, laidLooks := .later }
def FrameDecodesCardSaid : Prop := Claim7.holds Tryd.pinned (.plain (OpenSpec.ofChange frameDecodesSpec)) frameDecodesCard

/-- THE TIED CARD OF 'concordlaw02.FrameThere'. -/
def frameThereCard : Claim7 := { stood := { row := frameThereRow, standIns := [], harness := (true, "39c9243dc7b9514eecc1f02b023d42bbca4a3c1632f2e3a05b94d4a7fbd45887"), looks := true }, kinds := [], alts := [], laidByText := true, laidKinds := [.sentinel, .sentinel, .sentinel, .sentinel, .sentinel, .sentinel, .sentinel, .sentinel, .sentinel, .sentinel, .sentinel, .sentinel, .sentinel, .sentinel, .sentinel, .sentinel, .sentinel, .sentinel, .sentinel, .sentinel, .sentinel, .sentinel, .sentinel, .sentinel, .data], laidTests := true, laidLooks := .later }
def FrameThereCardSaid : Prop := Claim7.holds Tryd.pinned (.plain (OpenSpec.ofChange frameThereSpec)) frameThereCard

/-- THE TIED CARD OF 'concordlaw02.FrameSpoilt'. -/
def frameSpoiltCard : Claim7 := { stood := { row := frameSpoiltRow, standIns := [], harness := (true, "39c9243dc7b9514eecc1f02b023d42bbca4a3c1632f2e3a05b94d4a7fbd45887"), looks := true }, kinds := [], alts := [], laidByText := true, laidKinds := [.sentinel, .sentinel, .sentinel, .sentinel, .sentinel, .sentinel, .sentinel, .sentinel, .sentinel, .sentinel, .sentinel, .sentinel, .sentinel, .sentinel, .sentinel, .sentinel, .sentinel, .sentinel, .sentinel, .sentinel, .sentinel, .sentinel, .sentinel, .sentinel, .data], laidTests := true, laidLooks := .later }
def FrameSpoiltCardSaid : Prop := Claim7.holds Tryd.pinned (.plain (OpenSpec.ofChange frameSpoiltSpec)) frameSpoiltCard

/-- THE TIED CARD OF 'concordlaw02.FrameOwnsBlock'. -/
def frameOwnsBlockCard : Claim7 := { stood := { row := frameOwnsBlockRow, standIns := [], harness := (true, "39c9243dc7b9514eecc1f02b023d42bbca4a3c1632f2e3a05b94d4a7fbd45887"), looks := true }, kinds := [], alts := [], laidByText := true, laidKinds := [.sentinel, .sentinel, .sentinel, .sentinel, .data, .data], laidTests := true, laidLooks := .later }
def FrameOwnsBlockCardSaid : Prop := Claim7.holds Tryd.pinned (.plain (OpenSpec.ofChange frameOwnsBlockSpec)) frameOwnsBlockCard

/-- THE TIED CARD OF 'concordlaw02.FrameScans'. -/
def frameScansCard : Claim7 := { stood := { row := frameScansRow, standIns := [], harness := (true, "39c9243dc7b9514eecc1f02b023d42bbca4a3c1632f2e3a05b94d4a7fbd45887"), looks := true }, kinds := [], alts := [], laidByText := true, laidKinds := [.sentinel, .sentinel, .sentinel, .sentinel, .data], laidTests := true, laidLooks := .later }
def FrameScansCardSaid : Prop := Claim7.holds Tryd.pinned (.plain (OpenSpec.ofChange frameScansSpec)) frameScansCard

/-- THE TIED CARD OF 'concordlaw02.FrameChains'. -/
def frameChainsCard : Claim7 := { stood := { row := frameChainsRow, standIns := [], harness := (true, "39c9243dc7b9514eecc1f02b023d42bbca4a3c1632f2e3a05b94d4a7fbd45887"), looks := true }, kinds := [], alts := [], laidByText := true, laidKinds := [.sentinel, .sentinel, .sentinel, .sentinel, .data], laidTests := true, laidLooks := .later }
def FrameChainsCardSaid : Prop := Claim7.holds Tryd.pinned (.plain (OpenSpec.ofChange frameChainsSpec)) frameChainsCard

/-- THE TIED CARD OF 'concordlaw02.FrameOwnsScan'. -/
def frameOwnsScanCard : Claim7 := { stood := { row := frameOwnsScanRow, standIns := [], harness := (true, "39c9243dc7b9514eecc1f02b023d42bbca4a3c1632f2e3a05b94d4a7fbd45887"), looks := true }, kinds := [], alts := [], laidByText := true, laidKinds := [.sentinel, .sentinel, .sentinel, .sentinel, .data], laidTests := true, laidLooks := .later }
def FrameOwnsScanCardSaid : Prop := Claim7.holds Tryd.pinned (.plain (OpenSpec.ofChange frameOwnsScanSpec)) frameOwnsScanCard

/-- THE TIED CARD OF 'concordlaw02.FrameUnpacks'. -/
def frameUnpacksCard : Claim7 := { stood := { row := frameUnpacksRow, standIns := [], harness := (true, "39c9243dc7b9514eecc1f02b023d42bbca4a3c1632f2e3a05b94d4a7fbd45887"), looks := true }, kinds := [], alts := [], laidByText := true, laidKinds := [.sentinel, .sentinel, .sentinel, .sentinel, .sentinel, .sentinel, .sentinel, .sentinel, .sentinel, .sentinel, .sentinel, .sentinel, .sentinel, .sentinel, .sentinel, .sentinel, .sentinel, .sentinel, .sentinel, .sentinel, .sentinel, .sentinel, .sentinel, .sentinel, .data, .data], laidTests := true, laidLooks := .later }
def FrameUnpacksCardSaid : Prop := Claim7.holds Tryd.pinned (.plain (OpenSpec.ofChange frameUnpacksSpec)) frameUnpacksCard

/-- THE TIED CARD OF 'concordlaw02.FrameSealed'. -/
def frameSealedCard : Claim7 := { stood := { row := frameSealedRow, standIns := [], harness := (true, "39c9243dc7b9514eecc1f02b023d42bbca4a3c1632f2e3a05b94d4a7fbd45887"), looks := true }, kinds := [], alts := [], laidByText := true, laidKinds := [.sentinel, .sentinel, .sentinel, .sentinel, .sentinel, .sentinel, .sentinel, .sentinel, .sentinel, .sentinel, .sentinel, .sentinel, .sentinel, .sentinel, .sentinel, .sentinel, .sentinel, .sentinel, .sentinel, .sentinel, .sentinel, .sentinel, .sentinel, .sentinel, .data, .data], laidTests := true, laidLooks := .later }
def FrameSealedCardSaid : Prop := Claim7.holds Tryd.pinned (.plain (OpenSpec.ofChange frameSealedSpec)) frameSealedCard

/-- THE TIED CARD OF 'concordlaw02.FrameWhole'. -/
def frameWholeCard : Claim7 := { stood := { row := frameWholeRow, standIns := [], harness := (true, "39c9243dc7b9514eecc1f02b023d42bbca4a3c1632f2e3a05b94d4a7fbd45887"), looks := true }, kinds := [], alts := [], laidByText := true, laidKinds := [.sentinel, .sentinel, .sentinel, .sentinel, .sentinel, .sentinel, .sentinel, .sentinel, .sentinel, .sentinel, .sentinel, .sentinel, .sentinel, .sentinel, .sentinel, .sentinel, .sentinel, .sentinel, .sentinel, .sentinel, .sentinel, .sentinel, .sentinel, .sentinel, .data, .data], laidTests := true, laidLooks := .later }
def FrameWholeCardSaid : Prop := Claim7.holds Tryd.pinned (.plain (OpenSpec.ofChange frameWholeSpec)) frameWholeCard

/-- THE TIED CARD OF 'concordlaw02.FrameTurned'. -/
def frameTurnedCard : Claim7 := { stood := { row := frameTurnedRow, standIns := [], harness := (true, "39c9243dc7b9514eecc1f02b023d42bbca4a3c1632f2e3a05b94d4a7fbd45887"), looks := true }, kinds := [], alts := [], laidByText := true, laidKinds := [.sentinel, .sentinel, .sentinel, .sentinel, .sentinel, .sentinel, .sentinel, .sentinel, .sentinel, .sentinel, .sentinel, .sentinel, .sentinel, .sentinel, .sentinel, .sentinel, .sentinel, .sentinel, .sentinel, .sentinel, .sentinel, .sentinel, .sentinel, .sentinel, .data, .data], laidTests := true, laidLooks := .later }
def FrameTurnedCardSaid : Prop := Claim7.holds Tryd.pinned (.plain (OpenSpec.ofChange frameTurnedSpec)) frameTurnedCard

/-- THE TIED CARD OF 'concordlaw02.FrameOwnsImage'. -/
def frameOwnsImageCard : Claim7 := { stood := { row := frameOwnsImageRow, standIns := [], harness := (true, "39c9243dc7b9514eecc1f02b023d42bbca4a3c1632f2e3a05b94d4a7fbd45887"), looks := true }, kinds := [], alts := [], laidByText := true, laidKinds := [.sentinel, .sentinel, .sentinel, .sentinel, .sentinel, .data, .data], laidTests := true, laidLooks := .later }
def FrameOwnsImageCardSaid : Prop := Claim7.holds Tryd.pinned (.plain (OpenSpec.ofChange frameOwnsImageSpec)) frameOwnsImageCard

/-- THE SECOND FORM's CARD OF 'concordlaw02.FrameJoins'. -/
def frameJoinsUptoCard : Claim7 := { stood := { row := frameJoinsUptoRow, standIns := [], harness := (true, "39c9243dc7b9514eecc1f02b023d42bbca4a3c1632f2e3a05b94d4a7fbd45887"), looks := true }, kinds := [], alts := [], laidByText := true, laidKinds := [.data], laidTests := true, laidLooks := .later }
def FrameJoinsUptoCardSaid : Prop := Claim7.holds Tryd.pinned (.plain (OpenSpec.upto frameJoinsSpec)) frameJoinsUptoCard

/-- THE SECOND FORM's CARD OF 'concordlaw02.FrameEncodes'. -/
def frameEncodesUptoCard : Claim7 := { stood := { row := frameEncodesUptoRow, standIns := [], harness := (true, "39c9243dc7b9514eecc1f02b023d42bbca4a3c1632f2e3a05b94d4a7fbd45887"), looks := true }, kinds := [], alts := [], laidByText := true, laidKinds := [.sentinel, .sentinel, .sentinel, .sentinel, .sentinel, .sentinel, .sentinel, .sentinel, .sentinel, .sentinel, .sentinel, .sentinel, .sentinel, .sentinel, .sentinel, .sentinel, .sentinel, .sentinel, .sentinel, .sentinel, .sentinel, .sentinel, .sentinel, .sentinel, .data], laidTests := true, laidLooks := .later }
def FrameEncodesUptoCardSaid : Prop := Claim7.holds Tryd.pinned (.plain (OpenSpec.upto frameEncodesSpec)) frameEncodesUptoCard

/-- THE SECOND FORM's CARD OF 'concordlaw02.FrameSums'. -/
def frameSumsUptoCard : Claim7 := { stood := { row := frameSumsUptoRow, standIns := [], harness := (true, "39c9243dc7b9514eecc1f02b023d42bbca4a3c1632f2e3a05b94d4a7fbd45887"), looks := true }, kinds := [], alts := [], laidByText := true, laidKinds := [.sentinel, .data, .data], laidTests := true, laidLooks := .later }
def FrameSumsUptoCardSaid : Prop := Claim7.holds Tryd.pinned (.plain (OpenSpec.upto frameSumsSpec)) frameSumsUptoCard

/-- THE SECOND FORM's CARD OF 'concordlaw02.FramePacks'. -/
def framePacksUptoCard : Claim7 := { stood := { row := framePacksUptoRow, standIns := [], harness := (true, "39c9243dc7b9514eecc1f02b023d42bbca4a3c1632f2e3a05b94d4a7fbd45887"), looks := true }, kinds := [], alts := [], laidByText := true, laidKinds := [.sentinel, .sentinel, .sentinel, .sentinel, .sentinel, .sentinel, .sentinel, .sentinel, .sentinel, .sentinel, .sentinel, .sentinel, .sentinel, .sentinel, .sentinel, .sentinel, .sentinel, .sentinel, .sentinel, .sentinel, .sentinel, .sentinel, .sentinel, .sentinel, .data, .data], laidTests := true, laidLooks := .later }
def FramePacksUptoCardSaid : Prop := Claim7.holds Tryd.pinned (.plain (OpenSpec.upto framePacksSpec)) framePacksUptoCard

/-- THE SECOND FORM's CARD OF 'concordlaw02.FrameSplits'. -/
def frameSplitsUptoCard : Claim7 := { stood := { row := frameSplitsUptoRow, standIns := [], harness := (true, "39c9243dc7b9514eecc1f02b023d42bbca4a3c1632f2e3a05b94d4a7fbd45887"), looks := true }, kinds := [], alts := [], laidByText := true, laidKinds := [.sentinel, .data], laidTests := true, laidLooks := .later }
def FrameSplitsUptoCardSaid : Prop := Claim7.holds Tryd.pinned (.plain (OpenSpec.upto frameSplitsSpec)) frameSplitsUptoCard

/-- THE SECOND FORM's CARD OF 'concordlaw02.FrameSteps'. -/
def frameStepsUptoCard : Claim7 := { stood := { row := frameStepsUptoRow, standIns := [], harness := (true, "39c9243dc7b9514eecc1f02b023d42bbca4a3c1632f2e3a05b94d4a7fbd45887"), looks := true }, kinds := [], alts := [], laidByText := true, laidKinds := [.sentinel, .data], laidTests := true, laidLooks := .later }
def FrameStepsUptoCardSaid : Prop := Claim7.holds Tryd.pinned (.plain (OpenSpec.upto frameStepsSpec)) frameStepsUptoCard

/-- THE SECOND FORM's CARD OF 'concordlaw02.FrameDecodes'. -/
def frameDecodesUptoCard : Claim7 := { stood := { row := frameDecodesUptoRow, standIns := [], harness := (true, "39c9243dc7b9514eecc1f02b023d42bbca4a3c1632f2e3a05b94d4a7fbd45887"), looks := true }, kinds := [], alts := [], laidByText := true, laidKinds := [.sentinel, .sentinel, .sentinel, .sentinel, .sentinel, .sentinel, .sentinel, .sentinel, .sentinel, .sentinel, .sentinel, .sentinel, .sentinel, .sentinel, .sentinel, .sentinel, .sentinel, .sentinel, .sentinel, .sentinel, .sentinel, .sentinel, .sentinel, .sentinel, .data], laidTests := true, laidLooks := .later }
def FrameDecodesUptoCardSaid : Prop := Claim7.holds Tryd.pinned (.plain (OpenSpec.upto frameDecodesSpec)) frameDecodesUptoCard

/-- THE SECOND FORM's CARD OF 'concordlaw02.FrameThere'. -/
def frameThereUptoCard : Claim7 := { stood := { row := frameThereUptoRow, standIns := [], harness := (true, "39c9243dc7b9514eecc1f02b023d42bbca4a3c1632f2e3a05b94d4a7fbd45887"), looks := true }, kinds := [], alts := [], laidByText := true, laidKinds := [.sentinel, .sentinel, .sentinel, .sentinel, .sentinel, .sentinel, .sentinel, .sentinel, .sentinel, .sentinel, .sentinel, .sentinel, .sentinel, .sentinel, .sentinel, .sentinel, .sentinel, .sentinel, .sentinel, .sentinel, .sentinel, .sentinel, .sentinel, .sentinel, .data], laidTests := true, laidLooks := .later }
def FrameThereUptoCardSaid : Prop := Claim7.holds Tryd.pinned (.plain (OpenSpec.upto frameThereSpec)) frameThereUptoCard

/-- THE SECOND FORM's CARD OF 'concordlaw02.FrameSpoilt'. -/
def frameSpoiltUptoCard : Claim7 := { stood := { row := frameSpoiltUptoRow, standIns := [], harness := (true, "39c9243dc7b9514eecc1f02b023d42bbca4a3c1632f2e3a05b94d4a7fbd45887"), looks := true }, kinds := [], alts := [], laidByText := true, laidKinds := [.sentinel, .sentinel, .sentinel, .sentinel, .sentinel, .sentinel, .sentinel, .sentinel, .sentinel, .sentinel, .sentinel, .sentinel, .sentinel, .sentinel, .sentinel, .sentinel, .sentinel, .sentinel, .sentinel, .sentinel, .sentinel, .sentinel, .sentinel, .sentinel, .data], laidTests := true, laidLooks := .later }
def FrameSpoiltUptoCardSaid : Prop := Claim7.holds Tryd.pinned (.plain (OpenSpec.upto frameSpoiltSpec)) frameSpoiltUptoCard

/-- THE SECOND FORM's CARD OF 'concordlaw02.FrameOwnsBlock'. -/
def frameOwnsBlockUptoCard : Claim7 := { stood := { row := frameOwnsBlockUptoRow, standIns := [], harness := (true, "39c9243dc7b9514eecc1f02b023d42bbca4a3c1632f2e3a05b94d4a7fbd45887"), looks := true }, kinds := [], alts := [], laidByText := true, laidKinds := [.sentinel, .sentinel, .sentinel, .sentinel, .data, .data], laidTests := true, laidLooks := .later }
def FrameOwnsBlockUptoCardSaid : Prop := Claim7.holds Tryd.pinned (.plain (OpenSpec.upto frameOwnsBlockSpec)) frameOwnsBlockUptoCard

/-- THE SECOND FORM's CARD OF 'concordlaw02.FrameScans'. -/
def frameScansUptoCard : Claim7 := { stood := { row := frameScansUptoRow, standIns := [], harness := (true, "39c9243dc7b9514eecc1f02b023d42bbca4a3c1632f2e3a05b94d4a7fbd45887"), looks := true }, kinds := [], alts := [], laidByText := true, laidKinds := [.sentinel, .sentinel, .sentinel, .sentinel, .data], laidTests := true, laidLooks := .later }
def FrameScansUptoCardSaid : Prop := Claim7.holds Tryd.pinned (.plain (OpenSpec.upto frameScansSpec)) frameScansUptoCard

/-- THE SECOND FORM's CARD OF 'concordlaw02.FrameChains'. -/
def frameChainsUptoCard : Claim7 := { stood := { row := frameChainsUptoRow, standIns := [], harness := (true, "39c9243dc7b9514eecc1f02b023d42bbca4a3c1632f2e3a05b94d4a7fbd45887"), looks := true }, kinds := [], alts := [], laidByText := true, laidKinds := [.sentinel, .sentinel, .sentinel, .sentinel, .data], laidTests := true, laidLooks := .later }
def FrameChainsUptoCardSaid : Prop := Claim7.holds Tryd.pinned (.plain (OpenSpec.upto frameChainsSpec)) frameChainsUptoCard

/-- THE SECOND FORM's CARD OF 'concordlaw02.FrameOwnsScan'. -/
def frameOwnsScanUptoCard : Claim7 := { stood := { row := frameOwnsScanUptoRow, standIns := [], harness := (true, "39c9243dc7b9514eecc1f02b023d42bbca4a3c1632f2e3a05b94d4a7fbd45887"), looks := true }, kinds := [], alts := [], laidByText := true, laidKinds := [.sentinel, .sentinel, .sentinel, .sentinel, .data], laidTests := true, laidLooks := .later }
def FrameOwnsScanUptoCardSaid : Prop := Claim7.holds Tryd.pinned (.plain (OpenSpec.upto frameOwnsScanSpec)) frameOwnsScanUptoCard

/-- THE SECOND FORM's CARD OF 'concordlaw02.FrameUnpacks'. -/
def frameUnpacksUptoCard : Claim7 := { stood := { row := frameUnpacksUptoRow, standIns := [], harness := (true, "39c9243dc7b9514eecc1f02b023d42bbca4a3c1632f2e3a05b94d4a7fbd45887"), looks := true }, kinds := [], alts := [], laidByText := true, laidKinds := [.sentinel, .sentinel, .sentinel, .sentinel, .sentinel, .sentinel, .sentinel, .sentinel, .sentinel, .sentinel, .sentinel, .sentinel, .sentinel, .sentinel, .sentinel, .sentinel, .sentinel, .sentinel, .sentinel, .sentinel, .sentinel, .sentinel, .sentinel, .sentinel, .data, .data], laidTests := true, laidLooks := .later }
def FrameUnpacksUptoCardSaid : Prop := Claim7.holds Tryd.pinned (.plain (OpenSpec.upto frameUnpacksSpec)) frameUnpacksUptoCard

/-- THE SECOND FORM's CARD OF 'concordlaw02.FrameSealed'. -/
def frameSealedUptoCard : Claim7 := { stood := { row := frameSealedUptoRow, standIns := [], harness := (true, "39c9243dc7b9514eecc1f02b023d42bbca4a3c1632f2e3a05b94d4a7fbd45887"), looks := true }, kinds := [], alts := [], laidByText := true, laidKinds := [.sentinel, .sentinel, .sentinel, .sentinel, .sentinel, .sentinel, .sentinel, .sentinel, .sentinel, .sentinel, .sentinel, .sentinel, .sentinel, .sentinel, .sentinel, .sentinel, .sentinel, .sentinel, .sentinel, .sentinel, .sentinel, .sentinel, .sentinel, .sentinel, .data, .data], laidTests := true, laidLooks := .later }
def FrameSealedUptoCardSaid : Prop := Claim7.holds Tryd.pinned (.plain (OpenSpec.upto frameSealedSpec)) frameSealedUptoCard

/-- THE SECOND FORM's CARD OF 'concordlaw02.FrameWhole'. -/
def frameWholeUptoCard : Claim7 := { stood := { row := frameWholeUptoRow, standIns := [], harness := (true, "39c9243dc7b9514eecc1f02b023d42bbca4a3c1632f2e3a05b94d4a7fbd45887"), looks := true }, kinds := [], alts := [], laidByText := true, laidKinds := [.sentinel, .sentinel, .sentinel, .sentinel, .sentinel, .sentinel, .sentinel, .sentinel, .sentinel, .sentinel, .sentinel, .sentinel, .sentinel, .sentinel, .sentinel, .sentinel, .sentinel, .sentinel, .sentinel, .sentinel, .sentinel, .sentinel, .sentinel, .sentinel, .data, .data], laidTests := true, laidLooks := .later }
def FrameWholeUptoCardSaid : Prop := Claim7.holds Tryd.pinned (.plain (OpenSpec.upto frameWholeSpec)) frameWholeUptoCard

/-- THE SECOND FORM's CARD OF 'concordlaw02.FrameTurned'. -/
def frameTurnedUptoCard : Claim7 := { stood := { row := frameTurnedUptoRow, standIns := [], harness := (true, "39c9243dc7b9514eecc1f02b023d42bbca4a3c1632f2e3a05b94d4a7fbd45887"), looks := true }, kinds := [], alts := [], laidByText := true, laidKinds := [.sentinel, .sentinel, .sentinel, .sentinel, .sentinel, .sentinel, .sentinel, .sentinel, .sentinel, .sentinel, .sentinel, .sentinel, .sentinel, .sentinel, .sentinel, .sentinel, .sentinel, .sentinel, .sentinel, .sentinel, .sentinel, .sentinel, .sentinel, .sentinel, .data, .data], laidTests := true, laidLooks := .later }
def FrameTurnedUptoCardSaid : Prop := Claim7.holds Tryd.pinned (.plain (OpenSpec.upto frameTurnedSpec)) frameTurnedUptoCard

/-- THE SECOND FORM's CARD OF 'concordlaw02.FrameOwnsImage'. -/
def frameOwnsImageUptoCard : Claim7 := { stood := { row := frameOwnsImageUptoRow, standIns := [], harness := (true, "39c9243dc7b9514eecc1f02b023d42bbca4a3c1632f2e3a05b94d4a7fbd45887"), looks := true }, kinds := [], alts := [], laidByText := true, laidKinds := [.sentinel, .sentinel, .sentinel, .sentinel, .sentinel, .data, .data], laidTests := true, laidLooks := .later }
def FrameOwnsImageUptoCardSaid : Prop := Claim7.holds Tryd.pinned (.plain (OpenSpec.upto frameOwnsImageSpec)) frameOwnsImageUptoCard
end Rows
end Go.Proofs.YtgebekklkodpaaaDoor
