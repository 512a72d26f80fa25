/-
  DERIVED. GIVEN WITH THE SEED: THE CARDS: each row of YtbimpoabiafdaaaDoorRows.lean that lists a variable, with what it lists TIED to the program's text (the seventh form; the later family's looks); each row that meets fmt, with fmt's text TOLD by the authors' own Lean function (tested against real Go, not proved from fmt's source: count such statements apart). THE CARD IS WHAT COUNTS. Prove the row's statement (the work); the ties are given (YtbimpoabiafdaaaDoorTie.lean); close each card by the builder's one call (the guide's Derived/Test/ToyasCard.lean, 'card_holds'). Laid BY PROGRAM, IN A SANDBOX (cutbox-door.mjs). By AI agents, Wed Nov 11 2026. No macro, syntax, notation, axiom, sorry.
-/
import Derived.Test.YtbimpoabiafdaaaDoorRows
import GoSem.ClaimSeven
namespace Go.Proofs.YtbimpoabiafdaaaDoor
namespace Rows

/-- THE TIED CARD OF 'concordlaw21.VerifyPlays'. -/
def verifyPlaysCard : Claim7 := { stood := { row := verifyPlaysRow, standIns := [], harness := (true, "da24d8706ed790e42427d4eb643abb864fde48f8df255f872eb8a95ca68f6b9d"), looks := true }, kinds := [], alts := [], laidByText := true, laidKinds := [.sentinel, .sentinel, .sentinel, .sentinel, .sentinel, .sentinel, .sentinel, .sentinel, .sentinel, .sentinel, .sentinel, .sentinel, .sentinel, .sentinel, .sentinel, .sentinel, .sentinel, .sentinel, .sentinel, .sentinel, .sentinel, .sentinel, .sentinel, .sentinel, .data], laidTests := true, laidLooks := .later }
def VerifyPlaysCardSaid : Prop := Claim7.holds Tryd.pinned (.plain (OpenSpec.ofChange verifyPlaysSpec)) verifyPlaysCard

/-- THE TIED CARD OF 'concordlaw21.VerifyMemory'. -/
def verifyMemoryCard : Claim7 := { stood := { row := verifyMemoryRow, standIns := [], harness := (true, "da24d8706ed790e42427d4eb643abb864fde48f8df255f872eb8a95ca68f6b9d"), looks := true }, kinds := [], alts := [], laidByText := true, laidKinds := [.sentinel, .sentinel, .sentinel, .sentinel, .sentinel, .sentinel, .sentinel, .sentinel, .sentinel, .sentinel, .sentinel, .sentinel, .sentinel, .sentinel, .sentinel, .sentinel, .sentinel, .sentinel, .sentinel, .sentinel, .sentinel, .sentinel, .sentinel, .sentinel, .data], laidTests := true, laidLooks := .later }
def VerifyMemoryCardSaid : Prop := Claim7.holds Tryd.pinned (.plain (OpenSpec.ofChange verifyMemorySpec)) verifyMemoryCard

/-- THE TIED CARD OF 'concordlaw21.VerifySound'. -/
def verifySoundCard : Claim7 := { stood := { row := verifySoundRow, standIns := [], harness := (true, "da24d8706ed790e42427d4eb643abb864fde48f8df255f872eb8a95ca68f6b9d"), looks := true }, kinds := [], alts := [], laidByText := true, laidKinds := [.sentinel, .sentinel, .sentinel, .sentinel, .sentinel, .sentinel, .sentinel, .sentinel, .sentinel, .sentinel, .sentinel, .sentinel, .sentinel, .sentinel, .sentinel, .sentinel, .sentinel, .sentinel, .sentinel, .sentinel, .sentinel, .sentinel, .sentinel, .sentinel, .data], laidTests := true, laidLooks := .later }
def VerifySoundCardSaid : Prop := Claim7.holds Tryd.pinned (.plain (OpenSpec.ofChange verifySoundSpec)) verifySoundCard

/-- THE TIED CARD OF 'concordlaw21.VerifyWay'. -/
def verifyWayCard : Claim7 := { stood := { row := verifyWayRow, standIns := [], harness := (true, "da24d8706ed790e42427d4eb643abb864fde48f8df255f872eb8a95ca68f6b9d"), looks := true }, kinds := [], alts := [], laidByText := true, laidKinds := [.sentinel, .sentinel, .sentinel, .sentinel, .sentinel, .sentinel, .sentinel, .sentinel, .sentinel, .sentinel, .sentinel, .sentinel, .sentinel, .sentinel, .sentinel, .sentinel, .sentinel, .sentinel, .sentinel, .sentinel, .sentinel, .sentinel, .sentinel, .sentinel, .data], laidTests := true, laidLooks := .later }
def VerifyWayCardSaid : Prop := Claim7.holds Tryd.pinned (.plain (OpenSpec.ofChange verifyWaySpec)) verifyWayCard

/-- THE TIED CARD OF 'concordlaw21.VerifyMore'. -/
def verifyMoreCard : Claim7 := { stood := { row := verifyMoreRow, standIns := [], harness := (true, "da24d8706ed790e42427d4eb643abb864fde48f8df255f872eb8a95ca68f6b9d"), looks := true }, kinds := [], alts := [], laidByText := true, laidKinds := [.sentinel, .sentinel, .sentinel, .sentinel, .sentinel, .sentinel, .sentinel, .sentinel, .sentinel, .sentinel, .sentinel, .sentinel, .sentinel, .sentinel, .sentinel, .sentinel, .sentinel, .sentinel, .sentinel, .sentinel, .sentinel, .sentinel, .sentinel, .sentinel, .data], laidTests := true, laidLooks := .later }
def VerifyMoreCardSaid : Prop := Claim7.holds Tryd.pinned (.plain (OpenSpec.ofChange verifyMoreSpec)) verifyMoreCard

/-- THE SECOND FORM's CARD OF 'concordlaw21.VerifyPlays'. -/
def verifyPlaysUptoCard : Claim7 := { stood := { row := verifyPlaysUptoRow, standIns := [], harness := (true, "da24d8706ed790e42427d4eb643abb864fde48f8df255f872eb8a95ca68f6b9d"), looks := true }, kinds := [], alts := [], laidByText := true, laidKinds := [.sentinel, .sentinel, .sentinel, .sentinel, .sentinel, .sentinel, .sentinel, .sentinel, .sentinel, .sentinel, .sentinel, .sentinel, .sentinel, .sentinel, .sentinel, .sentinel, .sentinel, .sentinel, .sentinel, .sentinel, .sentinel, .sentinel, .sentinel, .sentinel, .data], laidTests := true, laidLooks := .later }
def VerifyPlaysUptoCardSaid : Prop := Claim7.holds Tryd.pinned (.plain (OpenSpec.upto verifyPlaysSpec)) verifyPlaysUptoCard

/-- THE SECOND FORM's CARD OF 'concordlaw21.VerifyMemory'. -/
def verifyMemoryUptoCard : Claim7 := { stood := { row := verifyMemoryUptoRow, standIns := [], harness := (true, "da24d8706ed790e42427d4eb643abb864fde48f8df255f872eb8a95ca68f6b9d"), looks := true }, kinds := [], alts := [], laidByText := true, laidKinds := [.sentinel, .sentinel, .sentinel, .sentinel, .sentinel, .sentinel, .sentinel, .sentinel, .sentinel, .sentinel, .sentinel, .sentinel, .sentinel, .sentinel, .sentinel, .sentinel, .sentinel, .sentinel, .sentinel, .sentinel, .sentinel, .sentinel, .sentinel, .sentinel, .data], laidTests := true, laidLooks := .later }
def VerifyMemoryUptoCardSaid : Prop := Claim7.holds Tryd.pinned (.plain (OpenSpec.upto verifyMemorySpec)) verifyMemoryUptoCard

/-- THE SECOND FORM's CARD OF 'concordlaw21.VerifySound'. -/
def verifySoundUptoCard : Claim7 := { stood := { row := verifySoundUptoRow, standIns := [], harness := (true, "da24d8706ed790e42427d4eb643abb864fde48f8df255f872eb8a95ca68f6b9d"), looks := true }, kinds := [], alts := [], laidByText := true, laidKinds := [.sentinel, .sentinel, .sentinel, .sentinel, .sentinel, .sentinel, .sentinel, .sentinel, .sentinel, .sentinel, .sentinel, .sentinel, .sentinel, .sentinel, .sentinel, .sentinel, .sentinel, .sentinel, .sentinel, .sentinel, .sentinel, .sentinel, .sentinel, .sentinel, .data], laidTests := true, laidLooks := .later }
def VerifySoundUptoCardSaid : Prop := Claim7.holds Tryd.pinned (.plain (OpenSpec.upto verifySoundSpec)) verifySoundUptoCard

/-- THE SECOND FORM's CARD OF 'concordlaw21.VerifyWay'. -/
def verifyWayUptoCard : Claim7 := { stood := { row := verifyWayUptoRow, standIns := [], harness := (true, "da24d8706ed790e42427d4eb643abb864fde48f8df255f872eb8a95ca68f6b9d"), looks := true }, kinds := [], alts := [], laidByText := true, laidKinds := [.sentinel, .sentinel, .sentinel, .sentinel, .sentinel, .sentinel, .sentinel, .sentinel, .sentinel, .sentinel, .sentinel, .sentinel, .sentinel, .sentinel, .sentinel, .sentinel, .sentinel, .sentinel, .sentinel, .sentinel, .sentinel, .sentinel, .sentinel, .sentinel, .data], laidTests := true, laidLooks := .later }
def VerifyWayUptoCardSaid : Prop := Claim7.holds Tryd.pinned (.plain (OpenSpec.upto verifyWaySpec)) verifyWayUptoCard

/-- THE SECOND FORM's CARD OF 'concordlaw21.VerifyMore'. -/
def verifyMoreUptoCard : Claim7 := { stood := { row := verifyMoreUptoRow, standIns := [], harness := (true, "da24d8706ed790e42427d4eb643abb864fde48f8df255f872eb8a95ca68f6b9d"), looks := true }, kinds := [], alts := [], laidByText := true, laidKinds := [.sentinel, .sentinel, .sentinel, .sentinel, .sentinel, .sentinel, .sentinel, .sentinel, .sentinel, .sentinel, .sentinel, .sentinel, .sentinel, .sentinel, .sentinel, .sentinel, .sentinel, .sentinel, .sentinel, .sentinel, .sentinel, .sentinel, .sentinel, .sentinel, .data], laidTests := true, laidLooks := .later }
def VerifyMoreUptoCardSaid : Prop := Claim7.holds Tryd.pinned (.plain (OpenSpec.upto verifyMoreSpec)) verifyMoreUptoCard
end Rows
end Go.Proofs.YtbimpoabiafdaaaDoor
