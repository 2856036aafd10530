/-
  DERIVED. GIVEN WITH THE SEED: THE CARDS: each row of YtdbdebcakemmbaaGreatDoorRows.lean that lists a variable, with what it lists TIED to the program's text (the seventh form; the later family's looks); each row that meets fmt, with fmt's text TOLD by the authors' own Lean function (tested against real Go, not proved from fmt's source: count such statements apart). THE CARD IS WHAT COUNTS. Prove the row's statement (the work); the ties are given (YtdbdebcakemmbaaGreatDoorTie.lean); close each card by the builder's one call (the guide's Derived/Test/ToyasCard.lean, 'card_holds'). Laid BY PROGRAM, IN A SANDBOX (cutbox-door.mjs). By AI agents, Wed Nov 11 2026. No macro, syntax, notation, axiom, sorry.
-/
import Derived.Test.YtdbdebcakemmbaaGreatDoorRows
import GoSem.ClaimSeven
namespace Go.Proofs.YtdbdebcakemmbaaGreatDoor
namespace Rows

/-- THE TIED CARD OF 'hubbublaw20.BrokerCodes'. -/
def brokerCodesCard : Claim7 := { stood := { row := brokerCodesRow, standIns := [], harness := (true, "e5454f319455f613c88a973af18aa1a006cfd0b99fd65e7490447de3842a1219"), looks := false }, kinds := [], alts := [], laidByText := true, laidKinds := [.data, .data, .data, .data, .pinned], laidTests := true, laidLooks := .later }
def BrokerCodesCardSaid : Prop := Claim7.holds Tryz.pinned (.plain (OpenSpec.ofChange brokerCodesSpec)) brokerCodesCard

/-- THE TIED CARD OF 'hubbublaw20.BrokerFresh'. -/
def brokerFreshCard : Claim7 := { stood := { row := brokerFreshRow, standIns := [], harness := (true, "e5454f319455f613c88a973af18aa1a006cfd0b99fd65e7490447de3842a1219"), looks := false }, kinds := [], alts := [], laidByText := true, laidKinds := [.data, .data, .data, .data, .pinned], laidTests := true, laidLooks := .later }
def BrokerFreshCardSaid : Prop := Claim7.holds Tryz.pinned (.plain (OpenSpec.ofChange brokerFreshSpec)) brokerFreshCard

/-- THE TIED CARD OF 'hubbublaw20.BrokerRetained'. -/
def brokerRetainedCard : Claim7 := { stood := { row := brokerRetainedRow, standIns := [], harness := (true, "e5454f319455f613c88a973af18aa1a006cfd0b99fd65e7490447de3842a1219"), looks := false }, kinds := [], alts := [], laidByText := true, laidKinds := [.data, .data, .data, .data, .pinned], laidTests := true, laidLooks := .later }
def BrokerRetainedCardSaid : Prop := Claim7.holds Tryz.pinned (.plain (OpenSpec.ofChange brokerRetainedSpec)) brokerRetainedCard

/-- THE TIED CARD OF 'hubbublaw20.BrokerKeeps'. -/
def brokerKeepsCard : Claim7 := { stood := { row := brokerKeepsRow, standIns := [], harness := (true, "e5454f319455f613c88a973af18aa1a006cfd0b99fd65e7490447de3842a1219"), looks := false }, kinds := [], alts := [], laidByText := true, laidKinds := [.data, .data, .data, .data, .pinned], laidTests := true, laidLooks := .later }
def BrokerKeepsCardSaid : Prop := Claim7.holds Tryz.pinned (.plain (OpenSpec.ofChange brokerKeepsSpec)) brokerKeepsCard

/-- THE TIED CARD OF 'hubbublaw20.BrokerWills'. -/
def brokerWillsCard : Claim7 := { stood := { row := brokerWillsRow, standIns := [], harness := (true, "e5454f319455f613c88a973af18aa1a006cfd0b99fd65e7490447de3842a1219"), looks := false }, kinds := [], alts := [], laidByText := true, laidKinds := [.data, .data, .data, .data, .pinned], laidTests := true, laidLooks := .later }
def BrokerWillsCardSaid : Prop := Claim7.holds Tryz.pinned (.plain (OpenSpec.ofChange brokerWillsSpec)) brokerWillsCard

/-- THE TIED CARD OF 'hubbublaw20.BrokerTakes'. -/
def brokerTakesCard : Claim7 := { stood := { row := brokerTakesRow, standIns := [], harness := (true, "e5454f319455f613c88a973af18aa1a006cfd0b99fd65e7490447de3842a1219"), looks := false }, kinds := [], alts := [], laidByText := true, laidKinds := [.data, .data, .data, .data, .pinned], laidTests := true, laidLooks := .later }
def BrokerTakesCardSaid : Prop := Claim7.holds Tryz.pinned (.plain (OpenSpec.ofChange brokerTakesSpec)) brokerTakesCard

/-- THE TIED CARD OF 'hubbublaw20.BrokerFilters'. -/
def brokerFiltersCard : Claim7 := { stood := { row := brokerFiltersRow, standIns := [], harness := (true, "e5454f319455f613c88a973af18aa1a006cfd0b99fd65e7490447de3842a1219"), looks := false }, kinds := [], alts := [], laidByText := true, laidKinds := [.data, .data, .data, .data, .pinned], laidTests := true, laidLooks := .later }
def BrokerFiltersCardSaid : Prop := Claim7.holds Tryz.pinned (.plain (OpenSpec.ofChange brokerFiltersSpec)) brokerFiltersCard

/-- THE TIED CARD OF 'hubbublaw20.BrokerSessions'. -/
def brokerSessionsCard : Claim7 := { stood := { row := brokerSessionsRow, standIns := [], harness := (true, "e5454f319455f613c88a973af18aa1a006cfd0b99fd65e7490447de3842a1219"), looks := false }, kinds := [], alts := [], laidByText := true, laidKinds := [.data, .data, .data, .data, .pinned], laidTests := true, laidLooks := .later }
def BrokerSessionsCardSaid : Prop := Claim7.holds Tryz.pinned (.plain (OpenSpec.ofChange brokerSessionsSpec)) brokerSessionsCard

/-- THE SECOND FORM's CARD OF 'hubbublaw20.BrokerCodes'. -/
def brokerCodesUptoCard : Claim7 := { stood := { row := brokerCodesUptoRow, standIns := [], harness := (true, "e5454f319455f613c88a973af18aa1a006cfd0b99fd65e7490447de3842a1219"), looks := false }, kinds := [], alts := [], laidByText := true, laidKinds := [.data, .data, .data, .data, .pinned], laidTests := true, laidLooks := .later }
def BrokerCodesUptoCardSaid : Prop := Claim7.holds Tryz.pinned (.plain (OpenSpec.upto brokerCodesSpec)) brokerCodesUptoCard

/-- THE SECOND FORM's CARD OF 'hubbublaw20.BrokerFresh'. -/
def brokerFreshUptoCard : Claim7 := { stood := { row := brokerFreshUptoRow, standIns := [], harness := (true, "e5454f319455f613c88a973af18aa1a006cfd0b99fd65e7490447de3842a1219"), looks := false }, kinds := [], alts := [], laidByText := true, laidKinds := [.data, .data, .data, .data, .pinned], laidTests := true, laidLooks := .later }
def BrokerFreshUptoCardSaid : Prop := Claim7.holds Tryz.pinned (.plain (OpenSpec.upto brokerFreshSpec)) brokerFreshUptoCard

/-- THE SECOND FORM's CARD OF 'hubbublaw20.BrokerRetained'. -/
def brokerRetainedUptoCard : Claim7 := { stood := { row := brokerRetainedUptoRow, standIns := [], harness := (true, "e5454f319455f613c88a973af18aa1a006cfd0b99fd65e7490447de3842a1219"), looks := false }, kinds := [], alts := [], laidByText := true, laidKinds := [.data, .data, .data, .data, .pinned], laidTests := true, laidLooks := .later }
def BrokerRetainedUptoCardSaid : Prop := Claim7.holds Tryz.pinned (.plain (OpenSpec.upto brokerRetainedSpec)) brokerRetainedUptoCard

/-- THE SECOND FORM's CARD OF 'hubbublaw20.BrokerKeeps'. -/
def brokerKeepsUptoCard : Claim7 := { stood := { row := brokerKeepsUptoRow, standIns := [], harness := (true, "e5454f319455f613c88a973af18aa1a006cfd0b99fd65e7490447de3842a1219"), looks := false }, kinds := [], alts := [], laidByText := true, laidKinds := [.data, .data, .data, .data, .pinned], laidTests := true, laidLooks := .later }
def BrokerKeepsUptoCardSaid : Prop := Claim7.holds Tryz.pinned (.plain (OpenSpec.upto brokerKeepsSpec)) brokerKeepsUptoCard

/-- THE SECOND FORM's CARD OF 'hubbublaw20.BrokerWills'. -/
def brokerWillsUptoCard : Claim7 := { stood := { row := brokerWillsUptoRow, standIns := [], harness := (true, "e5454f319455f613c88a973af18aa1a006cfd0b99fd65e7490447de3842a1219"), looks := false }, kinds := [], alts := [], laidByText := true, laidKinds := [.data, .data, .data, .data, .pinned], laidTests := true, laidLooks := .later }
def BrokerWillsUptoCardSaid : Prop := Claim7.holds Tryz.pinned (.plain (OpenSpec.upto brokerWillsSpec)) brokerWillsUptoCard

/-- THE SECOND FORM's CARD OF 'hubbublaw20.BrokerTakes'. -/
def brokerTakesUptoCard : Claim7 := { stood := { row := brokerTakesUptoRow, standIns := [], harness := (true, "e5454f319455f613c88a973af18aa1a006cfd0b99fd65e7490447de3842a1219"), looks := false }, kinds := [], alts := [], laidByText := true, laidKinds := [.data, .data, .data, .data, .pinned], laidTests := true, laidLooks := .later }
def BrokerTakesUptoCardSaid : Prop := Claim7.holds Tryz.pinned (.plain (OpenSpec.upto brokerTakesSpec)) brokerTakesUptoCard

/-- THE SECOND FORM's CARD OF 'hubbublaw20.BrokerFilters'. -/
def brokerFiltersUptoCard : Claim7 := { stood := { row := brokerFiltersUptoRow, standIns := [], harness := (true, "e5454f319455f613c88a973af18aa1a006cfd0b99fd65e7490447de3842a1219"), looks := false }, kinds := [], alts := [], laidByText := true, laidKinds := [.data, .data, .data, .data, .pinned], laidTests := true, laidLooks := .later }
def BrokerFiltersUptoCardSaid : Prop := Claim7.holds Tryz.pinned (.plain (OpenSpec.upto brokerFiltersSpec)) brokerFiltersUptoCard

/-- THE SECOND FORM's CARD OF 'hubbublaw20.BrokerSessions'. -/
def brokerSessionsUptoCard : Claim7 := { stood := { row := brokerSessionsUptoRow, standIns := [], harness := (true, "e5454f319455f613c88a973af18aa1a006cfd0b99fd65e7490447de3842a1219"), looks := false }, kinds := [], alts := [], laidByText := true, laidKinds := [.data, .data, .data, .data, .pinned], laidTests := true, laidLooks := .later }
def BrokerSessionsUptoCardSaid : Prop := Claim7.holds Tryz.pinned (.plain (OpenSpec.upto brokerSessionsSpec)) brokerSessionsUptoCard
end Rows
end Go.Proofs.YtdbdebcakemmbaaGreatDoor
