/-
  DERIVED. GIVEN WITH THE SEED: THE CARDS: each row of YtbikkfomnbmkpaaDoorRows.lean that lists a variable, with what it lists TIED to the program's text (the seventh form; the later family's looks); each row that meets fmt, with fmt's text TOLD by the authors' own Lean function (tested against real Go, not proved from fmt's source: count such statements apart). THE CARD IS WHAT COUNTS. Prove the row's statement (the work); the ties are given (YtbikkfomnbmkpaaDoorTie.lean); close each card by the builder's one call (the guide's Derived/Test/ToyasCard.lean, 'card_holds'). Laid BY PROGRAM, IN A SANDBOX (cutbox-door.mjs). By AI agents, Wed Nov 11 2026. No macro, syntax, notation, axiom, sorry.
-/
import Derived.Test.YtbikkfomnbmkpaaDoorRows
import GoSem.ClaimSeven
namespace Go.Proofs.YtbikkfomnbmkpaaDoor
namespace Rows

/-- THE TIED CARD OF 'familychecklaw02.ProtocolEvaluates'. -/
def protocolEvaluatesCard : Claim7 := { stood := { row := protocolEvaluatesRow, standIns := [], harness := (true, "aef05dcac5dcee0a5b1f0290f03579b3877fe328446ff135571c87b99764670f"), looks := false }, kinds := [], alts := [], laidByText := true, laidKinds := [.data, .data, .data, .listed, .data], laidTests := true, laidLooks := .later }
def ProtocolEvaluatesCardSaid : Prop := Claim7.holds Tryd.pinned (.plain (OpenSpec.ofChange protocolEvaluatesSpec)) protocolEvaluatesCard

/-- THE TIED CARD OF 'familychecklaw02.ProtocolEqualsProperty'. -/
def protocolEqualsPropertyCard : Claim7 := { stood := { row := protocolEqualsPropertyRow, standIns := [], harness := (true, "aef05dcac5dcee0a5b1f0290f03579b3877fe328446ff135571c87b99764670f"), looks := false }, kinds := [], alts := [], laidByText := true, laidKinds := [.data, .data, .data, .listed, .data], laidTests := true, laidLooks := .later }
def ProtocolEqualsPropertyCardSaid : Prop := Claim7.holds Tryd.pinned (.plain (OpenSpec.ofChange protocolEqualsPropertySpec)) protocolEqualsPropertyCard

/-- THE TIED CARD OF 'familychecklaw02.ProtocolEquals'. -/
def protocolEqualsCard : Claim7 := { stood := { row := protocolEqualsRow, standIns := [], harness := (true, "aef05dcac5dcee0a5b1f0290f03579b3877fe328446ff135571c87b99764670f"), looks := false }, kinds := [], alts := [], laidByText := true, laidKinds := [.data, .data, .data, .listed, .data], laidTests := true, laidLooks := .later }
def ProtocolEqualsCardSaid : Prop := Claim7.holds Tryd.pinned (.plain (OpenSpec.ofChange protocolEqualsSpec)) protocolEqualsCard

/-- THE TIED CARD OF 'familychecklaw02.ProtocolOrders'. -/
def protocolOrdersCard : Claim7 := { stood := { row := protocolOrdersRow, standIns := [], harness := (true, "aef05dcac5dcee0a5b1f0290f03579b3877fe328446ff135571c87b99764670f"), looks := false }, kinds := [], alts := [], laidByText := true, laidKinds := [.data, .data, .data, .listed, .data], laidTests := true, laidLooks := .later }
def ProtocolOrdersCardSaid : Prop := Claim7.holds Tryd.pinned (.plain (OpenSpec.ofChange protocolOrdersSpec)) protocolOrdersCard

/-- THE SECOND FORM's CARD OF 'familychecklaw02.ProtocolEvaluates'. -/
def protocolEvaluatesUptoCard : Claim7 := { stood := { row := protocolEvaluatesUptoRow, standIns := [], harness := (true, "aef05dcac5dcee0a5b1f0290f03579b3877fe328446ff135571c87b99764670f"), looks := false }, kinds := [], alts := [], laidByText := true, laidKinds := [.data, .data, .data, .listed, .data], laidTests := true, laidLooks := .later }
def ProtocolEvaluatesUptoCardSaid : Prop := Claim7.holds Tryd.pinned (.plain (OpenSpec.upto protocolEvaluatesSpec)) protocolEvaluatesUptoCard

/-- THE SECOND FORM's CARD OF 'familychecklaw02.ProtocolEqualsProperty'. -/
def protocolEqualsPropertyUptoCard : Claim7 := { stood := { row := protocolEqualsPropertyUptoRow, standIns := [], harness := (true, "aef05dcac5dcee0a5b1f0290f03579b3877fe328446ff135571c87b99764670f"), looks := false }, kinds := [], alts := [], laidByText := true, laidKinds := [.data, .data, .data, .listed, .data], laidTests := true, laidLooks := .later }
def ProtocolEqualsPropertyUptoCardSaid : Prop := Claim7.holds Tryd.pinned (.plain (OpenSpec.upto protocolEqualsPropertySpec)) protocolEqualsPropertyUptoCard

/-- THE SECOND FORM's CARD OF 'familychecklaw02.ProtocolEquals'. -/
def protocolEqualsUptoCard : Claim7 := { stood := { row := protocolEqualsUptoRow, standIns := [], harness := (true, "aef05dcac5dcee0a5b1f0290f03579b3877fe328446ff135571c87b99764670f"), looks := false }, kinds := [], alts := [], laidByText := true, laidKinds := [.data, .data, .data, .listed, .data], laidTests := true, laidLooks := .later }
def ProtocolEqualsUptoCardSaid : Prop := Claim7.holds Tryd.pinned (.plain (OpenSpec.upto protocolEqualsSpec)) protocolEqualsUptoCard

/-- THE SECOND FORM's CARD OF 'familychecklaw02.ProtocolOrders'. -/
def protocolOrdersUptoCard : Claim7 := { stood := { row := protocolOrdersUptoRow, standIns := [], harness := (true, "aef05dcac5dcee0a5b1f0290f03579b3877fe328446ff135571c87b99764670f"), looks := false }, kinds := [], alts := [], laidByText := true, laidKinds := [.data, .data, .data, .listed, .data], laidTests := true, laidLooks := .later }
def ProtocolOrdersUptoCardSaid : Prop := Claim7.holds Tryd.pinned (.plain (OpenSpec.upto protocolOrdersSpec)) protocolOrdersUptoCard
end Rows
end Go.Proofs.YtbikkfomnbmkpaaDoor
