/-
  DERIVED. GIVEN WITH THE SEED: THE CARDS: each row of YtabklmkdneoaaaaDoorRows.lean that lists a variable, with what it lists TIED to the program's text (the seventh form; the later family's looks); each row that meets fmt, with fmt's text TOLD by the authors' own Lean function (tested against real Go, not proved from fmt's source: count such statements apart). THE CARD IS WHAT COUNTS. Prove the row's statement (the work); the ties are given (YtabklmkdneoaaaaDoorTie.lean); close each card by the builder's one call (the guide's Derived/Test/ToyasCard.lean, 'card_holds'). Laid BY PROGRAM, IN A SANDBOX (cutbox-door.mjs). By AI agents, Wed Nov 11 2026. No macro, syntax, notation, axiom, sorry.
-/
import Derived.Test.YtabklmkdneoaaaaDoorRows
import GoSem.ClaimSeven
namespace Go.Proofs.YtabklmkdneoaaaaDoor
namespace Rows

/-- THE TIED CARD OF 'kinlaw4.UnitLong'. -/
def unitLongCard : Claim7 := { stood := { row := unitLongRow, standIns := [], harness := (true, "c5e4b22e8a3c73c5d296f7cceced3531ab6b2db455c82d5a51f87fececbb0100"), looks := true }, kinds := [], alts := [], laidByText := true, laidKinds := [.handle], laidTests := true, laidLooks := .later }
def UnitLongCardSaid : Prop := Claim7.holds Tryd.pinned (.plain (OpenSpec.ofChange unitLongSpec)) unitLongCard

/-- THE TIED CARD OF 'kinlaw4.UnitNexts'. -/
def unitNextsCard : Claim7 := { stood := { row := unitNextsRow, standIns := [], harness := (true, "c5e4b22e8a3c73c5d296f7cceced3531ab6b2db455c82d5a51f87fececbb0100"), looks := true }, kinds := [], alts := [], laidByText := true, laidKinds := [.handle], laidTests := true, laidLooks := .later }
def UnitNextsCardSaid : Prop := Claim7.holds Tryd.pinned (.plain (OpenSpec.ofChange unitNextsSpec)) unitNextsCard

/-- THE TIED CARD OF 'kinlaw4.UnitTurned'. -/
def unitTurnedCard : Claim7 := { stood := { row := unitTurnedRow, standIns := [], harness := (true, "c5e4b22e8a3c73c5d296f7cceced3531ab6b2db455c82d5a51f87fececbb0100"), looks := true }, kinds := [], alts := [], laidByText := true, laidKinds := [.handle], laidTests := true, laidLooks := .later }
def UnitTurnedCardSaid : Prop := Claim7.holds Tryd.pinned (.plain (OpenSpec.ofChange unitTurnedSpec)) unitTurnedCard

/-- THE TIED CARD OF 'kinlaw4.UnitMakes'. -/
def unitMakesCard : Claim7 := { stood := { row := unitMakesRow, standIns := [], harness := (true, "c5e4b22e8a3c73c5d296f7cceced3531ab6b2db455c82d5a51f87fececbb0100"), looks := true }, kinds := [], alts := [], laidByText := true, laidKinds := [.handle], laidTests := true, laidLooks := .later }
def UnitMakesCardSaid : Prop := Claim7.holds Tryd.pinned (.plain (OpenSpec.ofChange unitMakesSpec)) unitMakesCard

/-- THE TIED CARD OF 'kinlaw4.UnitSplits'. -/
def unitSplitsCard : Claim7 := { stood := { row := unitSplitsRow, standIns := [], harness := (true, "c5e4b22e8a3c73c5d296f7cceced3531ab6b2db455c82d5a51f87fececbb0100"), looks := true }, kinds := [], alts := [], laidByText := true, laidKinds := [.handle], laidTests := true, laidLooks := .later }
def UnitSplitsCardSaid : Prop := Claim7.holds Tryd.pinned (.plain (OpenSpec.ofChange unitSplitsSpec)) unitSplitsCard

/-- THE TIED CARD OF 'kinlaw4.UnitBack'. -/
def unitBackCard : Claim7 := { stood := { row := unitBackRow, standIns := [], harness := (true, "c5e4b22e8a3c73c5d296f7cceced3531ab6b2db455c82d5a51f87fececbb0100"), looks := true }, kinds := [], alts := [], laidByText := true, laidKinds := [.handle], laidTests := true, laidLooks := .later }
def UnitBackCardSaid : Prop := Claim7.holds Tryd.pinned (.plain (OpenSpec.ofChange unitBackSpec)) unitBackCard

/-- THE TIED CARD OF 'kinlaw4.UnitJoins'. -/
def unitJoinsCard : Claim7 := { stood := { row := unitJoinsRow, standIns := [], harness := (true, "c5e4b22e8a3c73c5d296f7cceced3531ab6b2db455c82d5a51f87fececbb0100"), looks := true }, kinds := [], alts := [], laidByText := true, laidKinds := [.handle], laidTests := true, laidLooks := .later }
def UnitJoinsCardSaid : Prop := Claim7.holds Tryd.pinned (.plain (OpenSpec.ofChange unitJoinsSpec)) unitJoinsCard

/-- THE TIED CARD OF 'kinlaw27.JobReplays'. -/
def jobReplaysCard : Claim7 := { stood := { row := jobReplaysRow, standIns := [], harness := (true, "c5e4b22e8a3c73c5d296f7cceced3531ab6b2db455c82d5a51f87fececbb0100"), looks := true }, kinds := [], alts := [], laidByText := true, laidKinds := [.handle], laidTests := true, laidLooks := .later }
def JobReplaysCardSaid : Prop := Claim7.holds Tryd.pinned (.plain (OpenSpec.ofChange jobReplaysSpec)) jobReplaysCard

/-- THE TIED CARD OF 'kinlaw27.JobEnds'. -/
def jobEndsCard : Claim7 := { stood := { row := jobEndsRow, standIns := [], harness := (true, "c5e4b22e8a3c73c5d296f7cceced3531ab6b2db455c82d5a51f87fececbb0100"), looks := true }, kinds := [], alts := [], laidByText := true, laidKinds := [.handle], laidTests := true, laidLooks := .later }
def JobEndsCardSaid : Prop := Claim7.holds Tryd.pinned (.plain (OpenSpec.ofChange jobEndsSpec)) jobEndsCard

/-- THE TIED CARD OF 'kinlaw27.JobPlays'. -/
def jobPlaysCard : Claim7 := { stood := { row := jobPlaysRow, standIns := [], harness := (true, "c5e4b22e8a3c73c5d296f7cceced3531ab6b2db455c82d5a51f87fececbb0100"), looks := true }, kinds := [], alts := [], laidByText := true, laidKinds := [.handle], laidTests := true, laidLooks := .later }
def JobPlaysCardSaid : Prop := Claim7.holds Tryd.pinned (.plain (OpenSpec.ofChange jobPlaysSpec)) jobPlaysCard

/-- THE TIED CARD OF 'kinlaw27.JobApart'. -/
def jobApartCard : Claim7 := { stood := { row := jobApartRow, standIns := [], harness := (true, "c5e4b22e8a3c73c5d296f7cceced3531ab6b2db455c82d5a51f87fececbb0100"), looks := true }, kinds := [], alts := [], laidByText := true, laidKinds := [.handle], laidTests := true, laidLooks := .later }
def JobApartCardSaid : Prop := Claim7.holds Tryd.pinned (.plain (OpenSpec.ofChange jobApartSpec)) jobApartCard

/-- THE TIED CARD OF 'kinlaw27.JobStays'. -/
def jobStaysCard : Claim7 := { stood := { row := jobStaysRow, standIns := [], harness := (true, "c5e4b22e8a3c73c5d296f7cceced3531ab6b2db455c82d5a51f87fececbb0100"), looks := true }, kinds := [], alts := [], laidByText := true, laidKinds := [.handle], laidTests := true, laidLooks := .later }
def JobStaysCardSaid : Prop := Claim7.holds Tryd.pinned (.plain (OpenSpec.ofChange jobStaysSpec)) jobStaysCard

/-- THE TIED CARD OF 'kinlaw26.LogPacks'. -/
def logPacksCard : Claim7 := { stood := { row := logPacksRow, standIns := [], harness := (true, "c5e4b22e8a3c73c5d296f7cceced3531ab6b2db455c82d5a51f87fececbb0100"), looks := true }, kinds := [], alts := [], laidByText := true, laidKinds := [.handle], laidTests := true, laidLooks := .later }
def LogPacksCardSaid : Prop := Claim7.holds Tryd.pinned (.plain (OpenSpec.ofChange logPacksSpec)) logPacksCard

/-- THE TIED CARD OF 'kinlaw26.LogScans'. -/
def logScansCard : Claim7 := { stood := { row := logScansRow, standIns := [], harness := (true, "c5e4b22e8a3c73c5d296f7cceced3531ab6b2db455c82d5a51f87fececbb0100"), looks := true }, kinds := [], alts := [], laidByText := true, laidKinds := [.handle], laidTests := true, laidLooks := .later }
def LogScansCardSaid : Prop := Claim7.holds Tryd.pinned (.plain (OpenSpec.ofChange logScansSpec)) logScansCard

/-- THE TIED CARD OF 'kinlaw26.LogBack'. -/
def logBackCard : Claim7 := { stood := { row := logBackRow, standIns := [], harness := (true, "c5e4b22e8a3c73c5d296f7cceced3531ab6b2db455c82d5a51f87fececbb0100"), looks := true }, kinds := [], alts := [], laidByText := true, laidKinds := [.handle], laidTests := true, laidLooks := .later }
def LogBackCardSaid : Prop := Claim7.holds Tryd.pinned (.plain (OpenSpec.ofChange logBackSpec)) logBackCard

/-- THE TIED CARD OF 'kinlaw26.LogAgain'. -/
def logAgainCard : Claim7 := { stood := { row := logAgainRow, standIns := [], harness := (true, "c5e4b22e8a3c73c5d296f7cceced3531ab6b2db455c82d5a51f87fececbb0100"), looks := true }, kinds := [], alts := [], laidByText := true, laidKinds := [.handle], laidTests := true, laidLooks := .later }
def LogAgainCardSaid : Prop := Claim7.holds Tryd.pinned (.plain (OpenSpec.ofChange logAgainSpec)) logAgainCard

/-- THE TIED CARD OF 'kinlaw26.LogJoins'. -/
def logJoinsCard : Claim7 := { stood := { row := logJoinsRow, standIns := [], harness := (true, "c5e4b22e8a3c73c5d296f7cceced3531ab6b2db455c82d5a51f87fececbb0100"), looks := true }, kinds := [], alts := [], laidByText := true, laidKinds := [.handle], laidTests := true, laidLooks := .later }
def LogJoinsCardSaid : Prop := Claim7.holds Tryd.pinned (.plain (OpenSpec.ofChange logJoinsSpec)) logJoinsCard

/-- THE TIED CARD OF 'kinlaw26.LogKeys'. -/
def logKeysCard : Claim7 := { stood := { row := logKeysRow, standIns := [], harness := (true, "c5e4b22e8a3c73c5d296f7cceced3531ab6b2db455c82d5a51f87fececbb0100"), looks := true }, kinds := [], alts := [], laidByText := true, laidKinds := [.handle], laidTests := true, laidLooks := .later }
def LogKeysCardSaid : Prop := Claim7.holds Tryd.pinned (.plain (OpenSpec.ofChange logKeysSpec)) logKeysCard

/-- THE SECOND FORM's CARD OF 'kinlaw4.UnitLong'. -/
def unitLongUptoCard : Claim7 := { stood := { row := unitLongUptoRow, standIns := [], harness := (true, "c5e4b22e8a3c73c5d296f7cceced3531ab6b2db455c82d5a51f87fececbb0100"), looks := true }, kinds := [], alts := [], laidByText := true, laidKinds := [.handle], laidTests := true, laidLooks := .later }
def UnitLongUptoCardSaid : Prop := Claim7.holds Tryd.pinned (.plain (OpenSpec.upto unitLongSpec)) unitLongUptoCard

/-- THE SECOND FORM's CARD OF 'kinlaw4.UnitNexts'. -/
def unitNextsUptoCard : Claim7 := { stood := { row := unitNextsUptoRow, standIns := [], harness := (true, "c5e4b22e8a3c73c5d296f7cceced3531ab6b2db455c82d5a51f87fececbb0100"), looks := true }, kinds := [], alts := [], laidByText := true, laidKinds := [.handle], laidTests := true, laidLooks := .later }
def UnitNextsUptoCardSaid : Prop := Claim7.holds Tryd.pinned (.plain (OpenSpec.upto unitNextsSpec)) unitNextsUptoCard

/-- THE SECOND FORM's CARD OF 'kinlaw4.UnitTurned'. -/
def unitTurnedUptoCard : Claim7 := { stood := { row := unitTurnedUptoRow, standIns := [], harness := (true, "c5e4b22e8a3c73c5d296f7cceced3531ab6b2db455c82d5a51f87fececbb0100"), looks := true }, kinds := [], alts := [], laidByText := true, laidKinds := [.handle], laidTests := true, laidLooks := .later }
def UnitTurnedUptoCardSaid : Prop := Claim7.holds Tryd.pinned (.plain (OpenSpec.upto unitTurnedSpec)) unitTurnedUptoCard

/-- THE SECOND FORM's CARD OF 'kinlaw4.UnitMakes'. -/
def unitMakesUptoCard : Claim7 := { stood := { row := unitMakesUptoRow, standIns := [], harness := (true, "c5e4b22e8a3c73c5d296f7cceced3531ab6b2db455c82d5a51f87fececbb0100"), looks := true }, kinds := [], alts := [], laidByText := true, laidKinds := [.handle], laidTests := true, laidLooks := .later }
def UnitMakesUptoCardSaid : Prop := Claim7.holds Tryd.pinned (.plain (OpenSpec.upto unitMakesSpec)) unitMakesUptoCard

/-- THE SECOND FORM's CARD OF 'kinlaw4.UnitSplits'. -/
def unitSplitsUptoCard : Claim7 := { stood := { row := unitSplitsUptoRow, standIns := [], harness := (true, "c5e4b22e8a3c73c5d296f7cceced3531ab6b2db455c82d5a51f87fececbb0100"), looks := true }, kinds := [], alts := [], laidByText := true, laidKinds := [.handle], laidTests := true, laidLooks := .later }
def UnitSplitsUptoCardSaid : Prop := Claim7.holds Tryd.pinned (.plain (OpenSpec.upto unitSplitsSpec)) unitSplitsUptoCard

/-- THE SECOND FORM's CARD OF 'kinlaw4.UnitBack'. -/
def unitBackUptoCard : Claim7 := { stood := { row := unitBackUptoRow, standIns := [], harness := (true, "c5e4b22e8a3c73c5d296f7cceced3531ab6b2db455c82d5a51f87fececbb0100"), looks := true }, kinds := [], alts := [], laidByText := true, laidKinds := [.handle], laidTests := true, laidLooks := .later }
def UnitBackUptoCardSaid : Prop := Claim7.holds Tryd.pinned (.plain (OpenSpec.upto unitBackSpec)) unitBackUptoCard

/-- THE SECOND FORM's CARD OF 'kinlaw4.UnitJoins'. -/
def unitJoinsUptoCard : Claim7 := { stood := { row := unitJoinsUptoRow, standIns := [], harness := (true, "c5e4b22e8a3c73c5d296f7cceced3531ab6b2db455c82d5a51f87fececbb0100"), looks := true }, kinds := [], alts := [], laidByText := true, laidKinds := [.handle], laidTests := true, laidLooks := .later }
def UnitJoinsUptoCardSaid : Prop := Claim7.holds Tryd.pinned (.plain (OpenSpec.upto unitJoinsSpec)) unitJoinsUptoCard

/-- THE SECOND FORM's CARD OF 'kinlaw27.JobReplays'. -/
def jobReplaysUptoCard : Claim7 := { stood := { row := jobReplaysUptoRow, standIns := [], harness := (true, "c5e4b22e8a3c73c5d296f7cceced3531ab6b2db455c82d5a51f87fececbb0100"), looks := true }, kinds := [], alts := [], laidByText := true, laidKinds := [.handle], laidTests := true, laidLooks := .later }
def JobReplaysUptoCardSaid : Prop := Claim7.holds Tryd.pinned (.plain (OpenSpec.upto jobReplaysSpec)) jobReplaysUptoCard

/-- THE SECOND FORM's CARD OF 'kinlaw27.JobEnds'. -/
def jobEndsUptoCard : Claim7 := { stood := { row := jobEndsUptoRow, standIns := [], harness := (true, "c5e4b22e8a3c73c5d296f7cceced3531ab6b2db455c82d5a51f87fececbb0100"), looks := true }, kinds := [], alts := [], laidByText := true, laidKinds := [.handle], laidTests := true, laidLooks := .later }
def JobEndsUptoCardSaid : Prop := Claim7.holds Tryd.pinned (.plain (OpenSpec.upto jobEndsSpec)) jobEndsUptoCard

/-- THE SECOND FORM's CARD OF 'kinlaw27.JobPlays'. -/
def jobPlaysUptoCard : Claim7 := { stood := { row := jobPlaysUptoRow, standIns := [], harness := (true, "c5e4b22e8a3c73c5d296f7cceced3531ab6b2db455c82d5a51f87fececbb0100"), looks := true }, kinds := [], alts := [], laidByText := true, laidKinds := [.handle], laidTests := true, laidLooks := .later }
def JobPlaysUptoCardSaid : Prop := Claim7.holds Tryd.pinned (.plain (OpenSpec.upto jobPlaysSpec)) jobPlaysUptoCard

/-- THE SECOND FORM's CARD OF 'kinlaw27.JobApart'. -/
def jobApartUptoCard : Claim7 := { stood := { row := jobApartUptoRow, standIns := [], harness := (true, "c5e4b22e8a3c73c5d296f7cceced3531ab6b2db455c82d5a51f87fececbb0100"), looks := true }, kinds := [], alts := [], laidByText := true, laidKinds := [.handle], laidTests := true, laidLooks := .later }
def JobApartUptoCardSaid : Prop := Claim7.holds Tryd.pinned (.plain (OpenSpec.upto jobApartSpec)) jobApartUptoCard

/-- THE SECOND FORM's CARD OF 'kinlaw27.JobStays'. -/
def jobStaysUptoCard : Claim7 := { stood := { row := jobStaysUptoRow, standIns := [], harness := (true, "c5e4b22e8a3c73c5d296f7cceced3531ab6b2db455c82d5a51f87fececbb0100"), looks := true }, kinds := [], alts := [], laidByText := true, laidKinds := [.handle], laidTests := true, laidLooks := .later }
def JobStaysUptoCardSaid : Prop := Claim7.holds Tryd.pinned (.plain (OpenSpec.upto jobStaysSpec)) jobStaysUptoCard

/-- THE SECOND FORM's CARD OF 'kinlaw26.LogPacks'. -/
def logPacksUptoCard : Claim7 := { stood := { row := logPacksUptoRow, standIns := [], harness := (true, "c5e4b22e8a3c73c5d296f7cceced3531ab6b2db455c82d5a51f87fececbb0100"), looks := true }, kinds := [], alts := [], laidByText := true, laidKinds := [.handle], laidTests := true, laidLooks := .later }
def LogPacksUptoCardSaid : Prop := Claim7.holds Tryd.pinned (.plain (OpenSpec.upto logPacksSpec)) logPacksUptoCard

/-- THE SECOND FORM's CARD OF 'kinlaw26.LogScans'. -/
def logScansUptoCard : Claim7 := { stood := { row := logScansUptoRow, standIns := [], harness := (true, "c5e4b22e8a3c73c5d296f7cceced3531ab6b2db455c82d5a51f87fececbb0100"), looks := true }, kinds := [], alts := [], laidByText := true, laidKinds := [.handle], laidTests := true, laidLooks := .later }
def LogScansUptoCardSaid : Prop := Claim7.holds Tryd.pinned (.plain (OpenSpec.upto logScansSpec)) logScansUptoCard

/-- THE SECOND FORM's CARD OF 'kinlaw26.LogBack'. -/
def logBackUptoCard : Claim7 := { stood := { row := logBackUptoRow, standIns := [], harness := (true, "c5e4b22e8a3c73c5d296f7cceced3531ab6b2db455c82d5a51f87fececbb0100"), looks := true }, kinds := [], alts := [], laidByText := true, laidKinds := [.handle], laidTests := true, laidLooks := .later }
def LogBackUptoCardSaid : Prop := Claim7.holds Tryd.pinned (.plain (OpenSpec.upto logBackSpec)) logBackUptoCard

/-- THE SECOND FORM's CARD OF 'kinlaw26.LogAgain'. -/
def logAgainUptoCard : Claim7 := { stood := { row := logAgainUptoRow, standIns := [], harness := (true, "c5e4b22e8a3c73c5d296f7cceced3531ab6b2db455c82d5a51f87fececbb0100"), looks := true }, kinds := [], alts := [], laidByText := true, laidKinds := [.handle], laidTests := true, laidLooks := .later }
def LogAgainUptoCardSaid : Prop := Claim7.holds Tryd.pinned (.plain (OpenSpec.upto logAgainSpec)) logAgainUptoCard

/-- THE SECOND FORM's CARD OF 'kinlaw26.LogJoins'. -/
def logJoinsUptoCard : Claim7 := { stood := { row := logJoinsUptoRow, standIns := [], harness := (true, "c5e4b22e8a3c73c5d296f7cceced3531ab6b2db455c82d5a51f87fececbb0100"), looks := true }, kinds := [], alts := [], laidByText := true, laidKinds := [.handle], laidTests := true, laidLooks := .later }
def LogJoinsUptoCardSaid : Prop := Claim7.holds Tryd.pinned (.plain (OpenSpec.upto logJoinsSpec)) logJoinsUptoCard

/-- THE SECOND FORM's CARD OF 'kinlaw26.LogKeys'. -/
def logKeysUptoCard : Claim7 := { stood := { row := logKeysUptoRow, standIns := [], harness := (true, "c5e4b22e8a3c73c5d296f7cceced3531ab6b2db455c82d5a51f87fececbb0100"), looks := true }, kinds := [], alts := [], laidByText := true, laidKinds := [.handle], laidTests := true, laidLooks := .later }
def LogKeysUptoCardSaid : Prop := Claim7.holds Tryd.pinned (.plain (OpenSpec.upto logKeysSpec)) logKeysUptoCard
end Rows
end Go.Proofs.YtabklmkdneoaaaaDoor
