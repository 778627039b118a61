/-
  DERIVED. GIVEN WITH THE SEED: THE CARDS: each row of YtfbafjlhdbjgoaaDoorRows.lean that lists a variable, with what it lists TIED to the program's text (the seventh form; the later family's looks); each row that meets fmt, with fmt's text TOLD by the authors' own Lean function (tested against real Go, not proved from fmt's source: count such statements apart). THE CARD IS WHAT COUNTS. Prove the row's statement (the work); the ties are given (YtfbafjlhdbjgoaaDoorTie.lean); close each card by the builder's one call (the guide's Derived/Test/ToyasCard.lean, 'card_holds'). Laid BY PROGRAM, IN A SANDBOX (cutbox-door.mjs). By AI agents, Wed Nov 11 2026. No macro, syntax, notation, axiom, sorry.
-/
import Derived.Test.YtfbafjlhdbjgoaaDoorRows
import GoSem.ClaimSeven
namespace Go.Proofs.YtfbafjlhdbjgoaaDoor
namespace Rows

/-- THE TIED CARD OF 'tegulalaw40.OrderBefore'. -/
def orderBeforeCard : Claim7 := { stood := { row := orderBeforeRow, standIns := [], harness := (true, "5d3e4e24d8391d1919e1a0b4faeda892b51bbe6c16d59efee91f9f375fd89707"), looks := false }, kinds := [], alts := [], laidByText := true, laidKinds := [.data, .pinned], laidTests := true, laidLooks := .later }
def OrderBeforeCardSaid : Prop := Claim7.holds Tryd.pinned (.plain (OpenSpec.ofChange orderBeforeSpec)) orderBeforeCard

/-- THE TIED CARD OF 'tegulalaw40.OrderEligible'. -/
def orderEligibleCard : Claim7 := { stood := { row := orderEligibleRow, standIns := [], harness := (true, "5d3e4e24d8391d1919e1a0b4faeda892b51bbe6c16d59efee91f9f375fd89707"), looks := false }, kinds := [], alts := [], laidByText := true, laidKinds := [.data, .pinned], laidTests := true, laidLooks := .later }
def OrderEligibleCardSaid : Prop := Claim7.holds Tryd.pinned (.plain (OpenSpec.ofChange orderEligibleSpec)) orderEligibleCard

/-- THE TIED CARD OF 'tegulalaw40.OrderRespects'. -/
def orderRespectsCard : Claim7 := { stood := { row := orderRespectsRow, standIns := [], harness := (true, "5d3e4e24d8391d1919e1a0b4faeda892b51bbe6c16d59efee91f9f375fd89707"), looks := false }, kinds := [], alts := [], laidByText := true, laidKinds := [.data, .pinned], laidTests := true, laidLooks := .later }
def OrderRespectsCardSaid : Prop := Claim7.holds Tryd.pinned (.plain (OpenSpec.ofChange orderRespectsSpec)) orderRespectsCard

/-- THE TIED CARD OF 'tegulalaw41.QueueLive'. -/
def queueLiveCard : Claim7 := { stood := { row := queueLiveRow, standIns := [], harness := (true, "5d3e4e24d8391d1919e1a0b4faeda892b51bbe6c16d59efee91f9f375fd89707"), looks := false }, kinds := [], alts := [], laidByText := true, laidKinds := [.data, .pinned], laidTests := true, laidLooks := .later }
def QueueLiveCardSaid : Prop := Claim7.holds Tryd.pinned (.plain (OpenSpec.ofChange queueLiveSpec)) queueLiveCard

/-- THE TIED CARD OF 'tegulalaw41.QueueNil'. -/
def queueNilCard : Claim7 := { stood := { row := queueNilRow, standIns := [], harness := (true, "5d3e4e24d8391d1919e1a0b4faeda892b51bbe6c16d59efee91f9f375fd89707"), looks := false }, kinds := [], alts := [], laidByText := true, laidKinds := [.data, .pinned], laidTests := true, laidLooks := .later }
def QueueNilCardSaid : Prop := Claim7.holds Tryd.pinned (.plain (OpenSpec.ofChange queueNilSpec)) queueNilCard

/-- THE TIED CARD OF 'tegulalaw40.OrderLevels'. -/
def orderLevelsCard : Claim7 := { stood := { row := orderLevelsRow, standIns := [], harness := (true, "5d3e4e24d8391d1919e1a0b4faeda892b51bbe6c16d59efee91f9f375fd89707"), looks := false }, kinds := [], alts := [], laidByText := true, laidKinds := [.data, .pinned], laidTests := true, laidLooks := .later }
def OrderLevelsCardSaid : Prop := Claim7.holds Tryd.pinned (.plain (OpenSpec.ofChange orderLevelsSpec)) orderLevelsCard

/-- THE TIED CARD OF 'tegulalaw40.OrderRuns'. -/
def orderRunsCard : Claim7 := { stood := { row := orderRunsRow, standIns := [], harness := (true, "5d3e4e24d8391d1919e1a0b4faeda892b51bbe6c16d59efee91f9f375fd89707"), looks := false }, kinds := [], alts := [], laidByText := true, laidKinds := [.data, .pinned], laidTests := true, laidLooks := .later }
def OrderRunsCardSaid : Prop := Claim7.holds Tryd.pinned (.plain (OpenSpec.ofChange orderRunsSpec)) orderRunsCard

/-- THE TIED CARD OF 'tegulalaw40.OrderArises'. -/
def orderArisesCard : Claim7 := { stood := { row := orderArisesRow, standIns := [], harness := (true, "5d3e4e24d8391d1919e1a0b4faeda892b51bbe6c16d59efee91f9f375fd89707"), looks := false }, kinds := [], alts := [], laidByText := true, laidKinds := [.data, .pinned], laidTests := true, laidLooks := .later }
def OrderArisesCardSaid : Prop := Claim7.holds Tryd.pinned (.plain (OpenSpec.ofChange orderArisesSpec)) orderArisesCard

/-- THE TIED CARD OF 'tegulalaw40.OrderFences'. -/
def orderFencesCard : Claim7 := { stood := { row := orderFencesRow, standIns := [], harness := (true, "5d3e4e24d8391d1919e1a0b4faeda892b51bbe6c16d59efee91f9f375fd89707"), looks := false }, kinds := [], alts := [], laidByText := true, laidKinds := [.data, .pinned], laidTests := true, laidLooks := .later }
def OrderFencesCardSaid : Prop := Claim7.holds Tryd.pinned (.plain (OpenSpec.ofChange orderFencesSpec)) orderFencesCard

/-- THE TIED CARD OF 'tegulalaw40.OrderByLevels'. -/
def orderByLevelsCard : Claim7 := { stood := { row := orderByLevelsRow, standIns := [], harness := (true, "5d3e4e24d8391d1919e1a0b4faeda892b51bbe6c16d59efee91f9f375fd89707"), looks := false }, kinds := [], alts := [], laidByText := true, laidKinds := [.data, .pinned], laidTests := true, laidLooks := .later }
def OrderByLevelsCardSaid : Prop := Claim7.holds Tryd.pinned (.plain (OpenSpec.ofChange orderByLevelsSpec)) orderByLevelsCard

/-- THE TIED CARD OF 'tegulalaw41.QueueOrder'. -/
def queueOrderCard : Claim7 := { stood := { row := queueOrderRow, standIns := [], harness := (true, "5d3e4e24d8391d1919e1a0b4faeda892b51bbe6c16d59efee91f9f375fd89707"), looks := false }, kinds := [], alts := [], laidByText := true, laidKinds := [.data, .pinned], laidTests := true, laidLooks := .later }
def QueueOrderCardSaid : Prop := Claim7.holds Tryd.pinned (.plain (OpenSpec.ofChange queueOrderSpec)) queueOrderCard

/-- THE TIED CARD OF 'tegulalaw41.QueueLimit'. -/
def queueLimitCard : Claim7 := { stood := { row := queueLimitRow, standIns := [], harness := (true, "5d3e4e24d8391d1919e1a0b4faeda892b51bbe6c16d59efee91f9f375fd89707"), looks := false }, kinds := [], alts := [], laidByText := true, laidKinds := [.data, .pinned], laidTests := true, laidLooks := .later }
def QueueLimitCardSaid : Prop := Claim7.holds Tryd.pinned (.plain (OpenSpec.ofChange queueLimitSpec)) queueLimitCard

/-- THE TIED CARD OF 'tegulalaw41.QueueCancel'. -/
def queueCancelCard : Claim7 := { stood := { row := queueCancelRow, standIns := [], harness := (true, "5d3e4e24d8391d1919e1a0b4faeda892b51bbe6c16d59efee91f9f375fd89707"), looks := false }, kinds := [], alts := [], laidByText := true, laidKinds := [.data, .pinned], laidTests := true, laidLooks := .later }
def QueueCancelCardSaid : Prop := Claim7.holds Tryd.pinned (.plain (OpenSpec.ofChange queueCancelSpec)) queueCancelCard

/-- THE TIED CARD OF 'tegulalaw41.QueueCopy'. -/
def queueCopyCard : Claim7 := { stood := { row := queueCopyRow, standIns := [], harness := (true, "5d3e4e24d8391d1919e1a0b4faeda892b51bbe6c16d59efee91f9f375fd89707"), looks := false }, kinds := [], alts := [], laidByText := true, laidKinds := [.data, .pinned], laidTests := true, laidLooks := .later }
def QueueCopyCardSaid : Prop := Claim7.holds Tryd.pinned (.plain (OpenSpec.ofChange queueCopySpec)) queueCopyCard

/-- THE TIED CARD OF 'tegulalaw41.QueueCalls'. -/
def queueCallsCard : Claim7 := { stood := { row := queueCallsRow, standIns := [], harness := (true, "5d3e4e24d8391d1919e1a0b4faeda892b51bbe6c16d59efee91f9f375fd89707"), looks := false }, kinds := [], alts := [], laidByText := true, laidKinds := [.data, .pinned], laidTests := true, laidLooks := .later }
def QueueCallsCardSaid : Prop := Claim7.holds Tryd.pinned (.plain (OpenSpec.ofChange queueCallsSpec)) queueCallsCard

/-- THE SECOND FORM's CARD OF 'tegulalaw40.OrderBefore'. -/
def orderBeforeUptoCard : Claim7 := { stood := { row := orderBeforeUptoRow, standIns := [], harness := (true, "5d3e4e24d8391d1919e1a0b4faeda892b51bbe6c16d59efee91f9f375fd89707"), looks := false }, kinds := [], alts := [], laidByText := true, laidKinds := [.data, .pinned], laidTests := true, laidLooks := .later }
def OrderBeforeUptoCardSaid : Prop := Claim7.holds Tryd.pinned (.plain (OpenSpec.upto orderBeforeSpec)) orderBeforeUptoCard

/-- THE SECOND FORM's CARD OF 'tegulalaw40.OrderEligible'. -/
def orderEligibleUptoCard : Claim7 := { stood := { row := orderEligibleUptoRow, standIns := [], harness := (true, "5d3e4e24d8391d1919e1a0b4faeda892b51bbe6c16d59efee91f9f375fd89707"), looks := false }, kinds := [], alts := [], laidByText := true, laidKinds := [.data, .pinned], laidTests := true, laidLooks := .later }
def OrderEligibleUptoCardSaid : Prop := Claim7.holds Tryd.pinned (.plain (OpenSpec.upto orderEligibleSpec)) orderEligibleUptoCard

/-- THE SECOND FORM's CARD OF 'tegulalaw40.OrderRespects'. -/
def orderRespectsUptoCard : Claim7 := { stood := { row := orderRespectsUptoRow, standIns := [], harness := (true, "5d3e4e24d8391d1919e1a0b4faeda892b51bbe6c16d59efee91f9f375fd89707"), looks := false }, kinds := [], alts := [], laidByText := true, laidKinds := [.data, .pinned], laidTests := true, laidLooks := .later }
def OrderRespectsUptoCardSaid : Prop := Claim7.holds Tryd.pinned (.plain (OpenSpec.upto orderRespectsSpec)) orderRespectsUptoCard

/-- THE SECOND FORM's CARD OF 'tegulalaw41.QueueLive'. -/
def queueLiveUptoCard : Claim7 := { stood := { row := queueLiveUptoRow, standIns := [], harness := (true, "5d3e4e24d8391d1919e1a0b4faeda892b51bbe6c16d59efee91f9f375fd89707"), looks := false }, kinds := [], alts := [], laidByText := true, laidKinds := [.data, .pinned], laidTests := true, laidLooks := .later }
def QueueLiveUptoCardSaid : Prop := Claim7.holds Tryd.pinned (.plain (OpenSpec.upto queueLiveSpec)) queueLiveUptoCard

/-- THE SECOND FORM's CARD OF 'tegulalaw41.QueueNil'. -/
def queueNilUptoCard : Claim7 := { stood := { row := queueNilUptoRow, standIns := [], harness := (true, "5d3e4e24d8391d1919e1a0b4faeda892b51bbe6c16d59efee91f9f375fd89707"), looks := false }, kinds := [], alts := [], laidByText := true, laidKinds := [.data, .pinned], laidTests := true, laidLooks := .later }
def QueueNilUptoCardSaid : Prop := Claim7.holds Tryd.pinned (.plain (OpenSpec.upto queueNilSpec)) queueNilUptoCard

/-- THE SECOND FORM's CARD OF 'tegulalaw40.OrderLevels'. -/
def orderLevelsUptoCard : Claim7 := { stood := { row := orderLevelsUptoRow, standIns := [], harness := (true, "5d3e4e24d8391d1919e1a0b4faeda892b51bbe6c16d59efee91f9f375fd89707"), looks := false }, kinds := [], alts := [], laidByText := true, laidKinds := [.data, .pinned], laidTests := true, laidLooks := .later }
def OrderLevelsUptoCardSaid : Prop := Claim7.holds Tryd.pinned (.plain (OpenSpec.upto orderLevelsSpec)) orderLevelsUptoCard

/-- THE SECOND FORM's CARD OF 'tegulalaw40.OrderRuns'. -/
def orderRunsUptoCard : Claim7 := { stood := { row := orderRunsUptoRow, standIns := [], harness := (true, "5d3e4e24d8391d1919e1a0b4faeda892b51bbe6c16d59efee91f9f375fd89707"), looks := false }, kinds := [], alts := [], laidByText := true, laidKinds := [.data, .pinned], laidTests := true, laidLooks := .later }
def OrderRunsUptoCardSaid : Prop := Claim7.holds Tryd.pinned (.plain (OpenSpec.upto orderRunsSpec)) orderRunsUptoCard

/-- THE SECOND FORM's CARD OF 'tegulalaw40.OrderArises'. -/
def orderArisesUptoCard : Claim7 := { stood := { row := orderArisesUptoRow, standIns := [], harness := (true, "5d3e4e24d8391d1919e1a0b4faeda892b51bbe6c16d59efee91f9f375fd89707"), looks := false }, kinds := [], alts := [], laidByText := true, laidKinds := [.data, .pinned], laidTests := true, laidLooks := .later }
def OrderArisesUptoCardSaid : Prop := Claim7.holds Tryd.pinned (.plain (OpenSpec.upto orderArisesSpec)) orderArisesUptoCard

/-- THE SECOND FORM's CARD OF 'tegulalaw40.OrderFences'. -/
def orderFencesUptoCard : Claim7 := { stood := { row := orderFencesUptoRow, standIns := [], harness := (true, "5d3e4e24d8391d1919e1a0b4faeda892b51bbe6c16d59efee91f9f375fd89707"), looks := false }, kinds := [], alts := [], laidByText := true, laidKinds := [.data, .pinned], laidTests := true, laidLooks := .later }
def OrderFencesUptoCardSaid : Prop := Claim7.holds Tryd.pinned (.plain (OpenSpec.upto orderFencesSpec)) orderFencesUptoCard

/-- THE SECOND FORM's CARD OF 'tegulalaw40.OrderByLevels'. -/
def orderByLevelsUptoCard : Claim7 := { stood := { row := orderByLevelsUptoRow, standIns := [], harness := (true, "5d3e4e24d8391d1919e1a0b4faeda892b51bbe6c16d59efee91f9f375fd89707"), looks := false }, kinds := [], alts := [], laidByText := true, laidKinds := [.data, .pinned], laidTests := true, laidLooks := .later }
def OrderByLevelsUptoCardSaid : Prop := Claim7.holds Tryd.pinned (.plain (OpenSpec.upto orderByLevelsSpec)) orderByLevelsUptoCard

/-- THE SECOND FORM's CARD OF 'tegulalaw41.QueueOrder'. -/
def queueOrderUptoCard : Claim7 := { stood := { row := queueOrderUptoRow, standIns := [], harness := (true, "5d3e4e24d8391d1919e1a0b4faeda892b51bbe6c16d59efee91f9f375fd89707"), looks := false }, kinds := [], alts := [], laidByText := true, laidKinds := [.data, .pinned], laidTests := true, laidLooks := .later }
def QueueOrderUptoCardSaid : Prop := Claim7.holds Tryd.pinned (.plain (OpenSpec.upto queueOrderSpec)) queueOrderUptoCard

/-- THE SECOND FORM's CARD OF 'tegulalaw41.QueueLimit'. -/
def queueLimitUptoCard : Claim7 := { stood := { row := queueLimitUptoRow, standIns := [], harness := (true, "5d3e4e24d8391d1919e1a0b4faeda892b51bbe6c16d59efee91f9f375fd89707"), looks := false }, kinds := [], alts := [], laidByText := true, laidKinds := [.data, .pinned], laidTests := true, laidLooks := .later }
def QueueLimitUptoCardSaid : Prop := Claim7.holds Tryd.pinned (.plain (OpenSpec.upto queueLimitSpec)) queueLimitUptoCard

/-- THE SECOND FORM's CARD OF 'tegulalaw41.QueueCancel'. -/
def queueCancelUptoCard : Claim7 := { stood := { row := queueCancelUptoRow, standIns := [], harness := (true, "5d3e4e24d8391d1919e1a0b4faeda892b51bbe6c16d59efee91f9f375fd89707"), looks := false }, kinds := [], alts := [], laidByText := true, laidKinds := [.data, .pinned], laidTests := true, laidLooks := .later }
def QueueCancelUptoCardSaid : Prop := Claim7.holds Tryd.pinned (.plain (OpenSpec.upto queueCancelSpec)) queueCancelUptoCard

/-- THE SECOND FORM's CARD OF 'tegulalaw41.QueueCopy'. -/
def queueCopyUptoCard : Claim7 := { stood := { row := queueCopyUptoRow, standIns := [], harness := (true, "5d3e4e24d8391d1919e1a0b4faeda892b51bbe6c16d59efee91f9f375fd89707"), looks := false }, kinds := [], alts := [], laidByText := true, laidKinds := [.data, .pinned], laidTests := true, laidLooks := .later }
def QueueCopyUptoCardSaid : Prop := Claim7.holds Tryd.pinned (.plain (OpenSpec.upto queueCopySpec)) queueCopyUptoCard

/-- THE SECOND FORM's CARD OF 'tegulalaw41.QueueCalls'. -/
def queueCallsUptoCard : Claim7 := { stood := { row := queueCallsUptoRow, standIns := [], harness := (true, "5d3e4e24d8391d1919e1a0b4faeda892b51bbe6c16d59efee91f9f375fd89707"), looks := false }, kinds := [], alts := [], laidByText := true, laidKinds := [.data, .pinned], laidTests := true, laidLooks := .later }
def QueueCallsUptoCardSaid : Prop := Claim7.holds Tryd.pinned (.plain (OpenSpec.upto queueCallsSpec)) queueCallsUptoCard
end Rows
end Go.Proofs.YtfbafjlhdbjgoaaDoor
