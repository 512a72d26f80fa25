/-
  DERIVED. GIVEN WITH THE SEED: THE CARDS: each row of YtmkbbekeimnajaaDoorRows.lean that lists a variable, with what it lists TIED to the program's text (the seventh form; the later family's looks); each row that meets fmt, with fmt's text TOLD by the authors' own Lean function (tested against real Go, not proved from fmt's source: count such statements apart). THE CARD IS WHAT COUNTS. Prove the row's statement (the work); the ties are given (YtmkbbekeimnajaaDoorTie.lean); close each card by the builder's one call (the guide's Derived/Test/ToyasCard.lean, 'card_holds'). Laid BY PROGRAM, IN A SANDBOX (cutbox-door.mjs). By AI agents, Wed Nov 11 2026. No macro, syntax, notation, axiom, sorry.
-/
import Derived.Test.YtmkbbekeimnajaaDoorRows
import GoSem.ClaimSeven
namespace Go.Proofs.YtmkbbekeimnajaaDoor
namespace Rows

/-- THE TIED CARD OF 'concordlaw03.DocsetIters'. -/
def docsetItersCard : Claim7 := { stood := { row := docsetItersRow, standIns := [], harness := (true, "41c17cb4ba2eb5e0fa85ce943ed77dc917858f2fe80b04bc875cdd864d8b5977"), looks := true }, kinds := [], alts := [], laidByText := true, laidKinds := [.data, .sentinel, .sentinel, .sentinel, .sentinel, .sentinel, .sentinel, .sentinel, .sentinel, .sentinel, .sentinel, .sentinel, .sentinel, .sentinel, .sentinel, .sentinel, .sentinel, .sentinel, .sentinel, .sentinel, .sentinel, .sentinel, .sentinel, .sentinel, .sentinel], laidTests := true, laidLooks := .later }
def DocsetItersCardSaid : Prop := Claim7.holds Tryd.pinned (.plain (OpenSpec.ofChange docsetItersSpec)) docsetItersCard

/-- THE TIED CARD OF 'concordlaw03.DocsetRanks'. -/
def docsetRanksCard : Claim7 := { stood := { row := docsetRanksRow, standIns := [], harness := (true, "41c17cb4ba2eb5e0fa85ce943ed77dc917858f2fe80b04bc875cdd864d8b5977"), looks := true }, kinds := [], alts := [], laidByText := true, laidKinds := [.data, .sentinel, .sentinel, .sentinel, .sentinel, .sentinel, .sentinel, .sentinel, .sentinel, .sentinel, .sentinel, .sentinel, .sentinel, .sentinel, .sentinel, .sentinel, .sentinel, .sentinel, .sentinel, .sentinel, .sentinel, .sentinel, .sentinel, .sentinel, .sentinel], laidTests := true, laidLooks := .later }
def DocsetRanksCardSaid : Prop := Claim7.holds Tryd.pinned (.plain (OpenSpec.ofChange docsetRanksSpec)) docsetRanksCard

/-- THE TIED CARD OF 'concordlaw03.DocsetAlgebra'. -/
def docsetAlgebraCard : Claim7 := { stood := { row := docsetAlgebraRow, standIns := [], harness := (true, "41c17cb4ba2eb5e0fa85ce943ed77dc917858f2fe80b04bc875cdd864d8b5977"), looks := true }, kinds := [], alts := [], laidByText := true, laidKinds := [.data, .sentinel, .sentinel, .sentinel, .sentinel, .sentinel, .sentinel, .sentinel, .sentinel, .sentinel, .sentinel, .sentinel, .sentinel, .sentinel, .sentinel, .sentinel, .sentinel, .sentinel, .sentinel, .sentinel, .sentinel, .sentinel, .sentinel, .sentinel, .sentinel], laidTests := true, laidLooks := .later }
def DocsetAlgebraCardSaid : Prop := Claim7.holds Tryd.pinned (.plain (OpenSpec.ofChange docsetAlgebraSpec)) docsetAlgebraCard

/-- THE TIED CARD OF 'concordlaw03.DocsetReads'. -/
def docsetReadsCard : Claim7 := { stood := { row := docsetReadsRow, standIns := [], harness := (true, "41c17cb4ba2eb5e0fa85ce943ed77dc917858f2fe80b04bc875cdd864d8b5977"), looks := true }, kinds := [], alts := [], laidByText := true, laidKinds := [.data, .sentinel, .sentinel, .sentinel, .sentinel, .sentinel, .sentinel, .sentinel, .sentinel, .sentinel, .sentinel, .sentinel, .sentinel, .sentinel, .sentinel, .sentinel, .sentinel, .sentinel, .sentinel, .sentinel, .sentinel, .sentinel, .sentinel, .sentinel, .sentinel], laidTests := true, laidLooks := .later }
def DocsetReadsCardSaid : Prop := Claim7.holds Tryd.pinned (.plain (OpenSpec.ofChange docsetReadsSpec)) docsetReadsCard

/-- THE TIED CARD OF 'concordlaw03.DocsetOneForm'. -/
def docsetOneFormCard : Claim7 := { stood := { row := docsetOneFormRow, standIns := [], harness := (true, "41c17cb4ba2eb5e0fa85ce943ed77dc917858f2fe80b04bc875cdd864d8b5977"), looks := true }, kinds := [], alts := [], laidByText := true, laidKinds := [.data, .sentinel, .sentinel, .sentinel, .sentinel, .sentinel, .sentinel, .sentinel, .sentinel, .sentinel, .sentinel, .sentinel, .sentinel, .sentinel, .sentinel, .sentinel, .sentinel, .sentinel, .sentinel, .sentinel, .sentinel, .sentinel, .sentinel, .sentinel, .sentinel], laidTests := true, laidLooks := .later }
def DocsetOneFormCardSaid : Prop := Claim7.holds Tryd.pinned (.plain (OpenSpec.ofChange docsetOneFormSpec)) docsetOneFormCard

/-- THE TIED CARD OF 'concordlaw03.DocsetCanon'. -/
def docsetCanonCard : Claim7 := { stood := { row := docsetCanonRow, standIns := [], harness := (true, "41c17cb4ba2eb5e0fa85ce943ed77dc917858f2fe80b04bc875cdd864d8b5977"), looks := true }, kinds := [], alts := [], laidByText := true, laidKinds := [.data, .sentinel, .sentinel, .sentinel, .sentinel, .sentinel, .sentinel, .sentinel, .sentinel, .sentinel, .sentinel, .sentinel, .sentinel, .sentinel, .sentinel, .sentinel, .sentinel, .sentinel, .sentinel, .sentinel, .sentinel, .sentinel, .sentinel, .sentinel, .sentinel], laidTests := true, laidLooks := .later }
def DocsetCanonCardSaid : Prop := Claim7.holds Tryd.pinned (.plain (OpenSpec.ofChange docsetCanonSpec)) docsetCanonCard

/-- THE TIED CARD OF 'concordlaw03.DocsetMemory'. -/
def docsetMemoryCard : Claim7 := { stood := { row := docsetMemoryRow, standIns := [], harness := (true, "41c17cb4ba2eb5e0fa85ce943ed77dc917858f2fe80b04bc875cdd864d8b5977"), looks := true }, kinds := [], alts := [], laidByText := true, laidKinds := [.data, .sentinel, .sentinel, .sentinel, .sentinel, .sentinel, .sentinel, .sentinel, .sentinel, .sentinel, .sentinel, .sentinel, .sentinel, .sentinel, .sentinel, .sentinel, .sentinel, .sentinel, .sentinel, .sentinel, .sentinel, .sentinel, .sentinel, .sentinel, .sentinel], laidTests := true, laidLooks := .later }
def DocsetMemoryCardSaid : Prop := Claim7.holds Tryd.pinned (.plain (OpenSpec.ofChange docsetMemorySpec)) docsetMemoryCard

/-- THE TIED CARD OF 'concordlaw03.DocsetPlays'. -/
def docsetPlaysCard : Claim7 := { stood := { row := docsetPlaysRow, standIns := [], harness := (true, "41c17cb4ba2eb5e0fa85ce943ed77dc917858f2fe80b04bc875cdd864d8b5977"), looks := true }, kinds := [], alts := [], laidByText := true, laidKinds := [.data, .sentinel, .sentinel, .sentinel, .sentinel, .sentinel, .sentinel, .sentinel, .sentinel, .sentinel, .sentinel, .sentinel, .sentinel, .sentinel, .sentinel, .sentinel, .sentinel, .sentinel, .sentinel, .sentinel, .sentinel, .sentinel, .sentinel, .sentinel, .sentinel], laidTests := true, laidLooks := .later }
def DocsetPlaysCardSaid : Prop := Claim7.holds Tryd.pinned (.plain (OpenSpec.ofChange docsetPlaysSpec)) docsetPlaysCard

/-- THE SECOND FORM's CARD OF 'concordlaw03.DocsetIters'. -/
def docsetItersUptoCard : Claim7 := { stood := { row := docsetItersUptoRow, standIns := [], harness := (true, "41c17cb4ba2eb5e0fa85ce943ed77dc917858f2fe80b04bc875cdd864d8b5977"), looks := true }, kinds := [], alts := [], laidByText := true, laidKinds := [.data, .sentinel, .sentinel, .sentinel, .sentinel, .sentinel, .sentinel, .sentinel, .sentinel, .sentinel, .sentinel, .sentinel, .sentinel, .sentinel, .sentinel, .sentinel, .sentinel, .sentinel, .sentinel, .sentinel, .sentinel, .sentinel, .sentinel, .sentinel, .sentinel], laidTests := true, laidLooks := .later }
def DocsetItersUptoCardSaid : Prop := Claim7.holds Tryd.pinned (.plain (OpenSpec.upto docsetItersSpec)) docsetItersUptoCard

/-- THE SECOND FORM's CARD OF 'concordlaw03.DocsetRanks'. -/
def docsetRanksUptoCard : Claim7 := { stood := { row := docsetRanksUptoRow, standIns := [], harness := (true, "41c17cb4ba2eb5e0fa85ce943ed77dc917858f2fe80b04bc875cdd864d8b5977"), looks := true }, kinds := [], alts := [], laidByText := true, laidKinds := [.data, .sentinel, .sentinel, .sentinel, .sentinel, .sentinel, .sentinel, .sentinel, .sentinel, .sentinel, .sentinel, .sentinel, .sentinel, .sentinel, .sentinel, .sentinel, .sentinel, .sentinel, .sentinel, .sentinel, .sentinel, .sentinel, .sentinel, .sentinel, .sentinel], laidTests := true, laidLooks := .later }
def DocsetRanksUptoCardSaid : Prop := Claim7.holds Tryd.pinned (.plain (OpenSpec.upto docsetRanksSpec)) docsetRanksUptoCard

/-- THE SECOND FORM's CARD OF 'concordlaw03.DocsetAlgebra'. -/
def docsetAlgebraUptoCard : Claim7 := { stood := { row := docsetAlgebraUptoRow, standIns := [], harness := (true, "41c17cb4ba2eb5e0fa85ce943ed77dc917858f2fe80b04bc875cdd864d8b5977"), looks := true }, kinds := [], alts := [], laidByText := true, laidKinds := [.data, .sentinel, .sentinel, .sentinel, .sentinel, .sentinel, .sentinel, .sentinel, .sentinel, .sentinel, .sentinel, .sentinel, .sentinel, .sentinel, .sentinel, .sentinel, .sentinel, .sentinel, .sentinel, .sentinel, .sentinel, .sentinel, .sentinel, .sentinel, .sentinel], laidTests := true, laidLooks := .later }
def DocsetAlgebraUptoCardSaid : Prop := Claim7.holds Tryd.pinned (.plain (OpenSpec.upto docsetAlgebraSpec)) docsetAlgebraUptoCard

/-- THE SECOND FORM's CARD OF 'concordlaw03.DocsetReads'. -/
def docsetReadsUptoCard : Claim7 := { stood := { row := docsetReadsUptoRow, standIns := [], harness := (true, "41c17cb4ba2eb5e0fa85ce943ed77dc917858f2fe80b04bc875cdd864d8b5977"), looks := true }, kinds := [], alts := [], laidByText := true, laidKinds := [.data, .sentinel, .sentinel, .sentinel, .sentinel, .sentinel, .sentinel, .sentinel, .sentinel, .sentinel, .sentinel, .sentinel, .sentinel, .sentinel, .sentinel, .sentinel, .sentinel, .sentinel, .sentinel, .sentinel, .sentinel, .sentinel, .sentinel, .sentinel, .sentinel], laidTests := true, laidLooks := .later }
def DocsetReadsUptoCardSaid : Prop := Claim7.holds Tryd.pinned (.plain (OpenSpec.upto docsetReadsSpec)) docsetReadsUptoCard

/-- THE SECOND FORM's CARD OF 'concordlaw03.DocsetOneForm'. -/
def docsetOneFormUptoCard : Claim7 := { stood := { row := docsetOneFormUptoRow, standIns := [], harness := (true, "41c17cb4ba2eb5e0fa85ce943ed77dc917858f2fe80b04bc875cdd864d8b5977"), looks := true }, kinds := [], alts := [], laidByText := true, laidKinds := [.data, .sentinel, .sentinel, .sentinel, .sentinel, .sentinel, .sentinel, .sentinel, .sentinel, .sentinel, .sentinel, .sentinel, .sentinel, .sentinel, .sentinel, .sentinel, .sentinel, .sentinel, .sentinel, .sentinel, .sentinel, .sentinel, .sentinel, .sentinel, .sentinel], laidTests := true, laidLooks := .later }
def DocsetOneFormUptoCardSaid : Prop := Claim7.holds Tryd.pinned (.plain (OpenSpec.upto docsetOneFormSpec)) docsetOneFormUptoCard

/-- THE SECOND FORM's CARD OF 'concordlaw03.DocsetCanon'. -/
def docsetCanonUptoCard : Claim7 := { stood := { row := docsetCanonUptoRow, standIns := [], harness := (true, "41c17cb4ba2eb5e0fa85ce943ed77dc917858f2fe80b04bc875cdd864d8b5977"), looks := true }, kinds := [], alts := [], laidByText := true, laidKinds := [.data, .sentinel, .sentinel, .sentinel, .sentinel, .sentinel, .sentinel, .sentinel, .sentinel, .sentinel, .sentinel, .sentinel, .sentinel, .sentinel, .sentinel, .sentinel, .sentinel, .sentinel, .sentinel, .sentinel, .sentinel, .sentinel, .sentinel, .sentinel, .sentinel], laidTests := true, laidLooks := .later }
def DocsetCanonUptoCardSaid : Prop := Claim7.holds Tryd.pinned (.plain (OpenSpec.upto docsetCanonSpec)) docsetCanonUptoCard

/-- THE SECOND FORM's CARD OF 'concordlaw03.DocsetMemory'. -/
def docsetMemoryUptoCard : Claim7 := { stood := { row := docsetMemoryUptoRow, standIns := [], harness := (true, "41c17cb4ba2eb5e0fa85ce943ed77dc917858f2fe80b04bc875cdd864d8b5977"), looks := true }, kinds := [], alts := [], laidByText := true, laidKinds := [.data, .sentinel, .sentinel, .sentinel, .sentinel, .sentinel, .sentinel, .sentinel, .sentinel, .sentinel, .sentinel, .sentinel, .sentinel, .sentinel, .sentinel, .sentinel, .sentinel, .sentinel, .sentinel, .sentinel, .sentinel, .sentinel, .sentinel, .sentinel, .sentinel], laidTests := true, laidLooks := .later }
def DocsetMemoryUptoCardSaid : Prop := Claim7.holds Tryd.pinned (.plain (OpenSpec.upto docsetMemorySpec)) docsetMemoryUptoCard

/-- THE SECOND FORM's CARD OF 'concordlaw03.DocsetPlays'. -/
def docsetPlaysUptoCard : Claim7 := { stood := { row := docsetPlaysUptoRow, standIns := [], harness := (true, "41c17cb4ba2eb5e0fa85ce943ed77dc917858f2fe80b04bc875cdd864d8b5977"), looks := true }, kinds := [], alts := [], laidByText := true, laidKinds := [.data, .sentinel, .sentinel, .sentinel, .sentinel, .sentinel, .sentinel, .sentinel, .sentinel, .sentinel, .sentinel, .sentinel, .sentinel, .sentinel, .sentinel, .sentinel, .sentinel, .sentinel, .sentinel, .sentinel, .sentinel, .sentinel, .sentinel, .sentinel, .sentinel], laidTests := true, laidLooks := .later }
def DocsetPlaysUptoCardSaid : Prop := Claim7.holds Tryd.pinned (.plain (OpenSpec.upto docsetPlaysSpec)) docsetPlaysUptoCard
end Rows
end Go.Proofs.YtmkbbekeimnajaaDoor
