/-
  DERIVED. GIVEN WITH THE SEED: THE CARDS: each row of YtalbbifgkninmaaDoorRows.lean that lists a variable, with what it lists TIED to the program's text (the seventh form; the later family's looks); each row that meets fmt, with fmt's text TOLD by the authors' own Lean function (tested against real Go, not proved from fmt's source: count such statements apart). THE CARD IS WHAT COUNTS. Prove the row's statement (the work); the ties are given (YtalbbifgkninmaaDoorTie.lean); close each card by the builder's one call (the guide's Derived/Test/ToyasCard.lean, 'card_holds'). Laid BY PROGRAM, IN A SANDBOX (cutbox-door.mjs). By AI agents, Wed Nov 11 2026. No macro, syntax, notation, axiom, sorry.
-/
import Derived.Test.YtalbbifgkninmaaDoorRows
import GoSem.ClaimSeven
namespace Go.Proofs.YtalbbifgkninmaaDoor
namespace Rows

/-- THE TIED CARD OF 'chandlerylaw02.BaseHex'. -/
def baseHexCard : Claim7 := { stood := { row := baseHexRow, standIns := [], harness := (true, "3d0627b4a7473662bb21b00874ec143dfd9aa356185516009fe75ba14fb2f66e"), looks := false }, kinds := [], alts := [], laidByText := true, laidKinds := [.data, .pinned], laidTests := true, laidLooks := .later }
def BaseHexCardSaid : Prop := Claim7.holds Tryd.pinned (.plain (OpenSpec.ofChange baseHexSpec)) baseHexCard

/-- THE TIED CARD OF 'chandlerylaw02.BaseDecodes'. -/
def baseDecodesCard : Claim7 := { stood := { row := baseDecodesRow, standIns := [], harness := (true, "3d0627b4a7473662bb21b00874ec143dfd9aa356185516009fe75ba14fb2f66e"), looks := false }, kinds := [], alts := [], laidByText := true, laidKinds := [.data, .pinned], laidTests := true, laidLooks := .later }
def BaseDecodesCardSaid : Prop := Claim7.holds Tryd.pinned (.plain (OpenSpec.ofChange baseDecodesSpec)) baseDecodesCard

/-- THE TIED CARD OF 'chandlerylaw02.BaseBack'. -/
def baseBackCard : Claim7 := { stood := { row := baseBackRow, standIns := [], harness := (true, "3d0627b4a7473662bb21b00874ec143dfd9aa356185516009fe75ba14fb2f66e"), looks := false }, kinds := [], alts := [], laidByText := true, laidKinds := [.data, .pinned], laidTests := true, laidLooks := .later }
def BaseBackCardSaid : Prop := Claim7.holds Tryd.pinned (.plain (OpenSpec.ofChange baseBackSpec)) baseBackCard

/-- THE TIED CARD OF 'chandlerylaw02.BaseOrder'. -/
def baseOrderCard : Claim7 := { stood := { row := baseOrderRow, standIns := [], harness := (true, "3d0627b4a7473662bb21b00874ec143dfd9aa356185516009fe75ba14fb2f66e"), looks := false }, kinds := [], alts := [], laidByText := true, laidKinds := [.data, .pinned], laidTests := true, laidLooks := .later }
def BaseOrderCardSaid : Prop := Claim7.holds Tryd.pinned (.plain (OpenSpec.ofChange baseOrderSpec)) baseOrderCard

/-- THE TIED CARD OF 'chandlerylaw02.BaseNoughts'. -/
def baseNoughtsCard : Claim7 := { stood := { row := baseNoughtsRow, standIns := [], harness := (true, "3d0627b4a7473662bb21b00874ec143dfd9aa356185516009fe75ba14fb2f66e"), looks := false }, kinds := [], alts := [], laidByText := true, laidKinds := [.data, .pinned], laidTests := true, laidLooks := .later }
def BaseNoughtsCardSaid : Prop := Claim7.holds Tryd.pinned (.plain (OpenSpec.ofChange baseNoughtsSpec)) baseNoughtsCard

/-- THE TIED CARD OF 'chandlerylaw02.BaseEncodes'. -/
def baseEncodesCard : Claim7 := { stood := { row := baseEncodesRow, standIns := [], harness := (true, "3d0627b4a7473662bb21b00874ec143dfd9aa356185516009fe75ba14fb2f66e"), looks := false }, kinds := [], alts := [], laidByText := true, laidKinds := [.data, .pinned], laidTests := true, laidLooks := .later }
def BaseEncodesCardSaid : Prop := Claim7.holds Tryd.pinned (.plain (OpenSpec.ofChange baseEncodesSpec)) baseEncodesCard

/-- THE SECOND FORM's CARD OF 'chandlerylaw02.BaseHex'. -/
def baseHexUptoCard : Claim7 := { stood := { row := baseHexUptoRow, standIns := [], harness := (true, "3d0627b4a7473662bb21b00874ec143dfd9aa356185516009fe75ba14fb2f66e"), looks := false }, kinds := [], alts := [], laidByText := true, laidKinds := [.data, .pinned], laidTests := true, laidLooks := .later }
def BaseHexUptoCardSaid : Prop := Claim7.holds Tryd.pinned (.plain (OpenSpec.upto baseHexSpec)) baseHexUptoCard

/-- THE SECOND FORM's CARD OF 'chandlerylaw02.BaseDecodes'. -/
def baseDecodesUptoCard : Claim7 := { stood := { row := baseDecodesUptoRow, standIns := [], harness := (true, "3d0627b4a7473662bb21b00874ec143dfd9aa356185516009fe75ba14fb2f66e"), looks := false }, kinds := [], alts := [], laidByText := true, laidKinds := [.data, .pinned], laidTests := true, laidLooks := .later }
def BaseDecodesUptoCardSaid : Prop := Claim7.holds Tryd.pinned (.plain (OpenSpec.upto baseDecodesSpec)) baseDecodesUptoCard

/-- THE SECOND FORM's CARD OF 'chandlerylaw02.BaseBack'. -/
def baseBackUptoCard : Claim7 := { stood := { row := baseBackUptoRow, standIns := [], harness := (true, "3d0627b4a7473662bb21b00874ec143dfd9aa356185516009fe75ba14fb2f66e"), looks := false }, kinds := [], alts := [], laidByText := true, laidKinds := [.data, .pinned], laidTests := true, laidLooks := .later }
def BaseBackUptoCardSaid : Prop := Claim7.holds Tryd.pinned (.plain (OpenSpec.upto baseBackSpec)) baseBackUptoCard

/-- THE SECOND FORM's CARD OF 'chandlerylaw02.BaseOrder'. -/
def baseOrderUptoCard : Claim7 := { stood := { row := baseOrderUptoRow, standIns := [], harness := (true, "3d0627b4a7473662bb21b00874ec143dfd9aa356185516009fe75ba14fb2f66e"), looks := false }, kinds := [], alts := [], laidByText := true, laidKinds := [.data, .pinned], laidTests := true, laidLooks := .later }
def BaseOrderUptoCardSaid : Prop := Claim7.holds Tryd.pinned (.plain (OpenSpec.upto baseOrderSpec)) baseOrderUptoCard

/-- THE SECOND FORM's CARD OF 'chandlerylaw02.BaseNoughts'. -/
def baseNoughtsUptoCard : Claim7 := { stood := { row := baseNoughtsUptoRow, standIns := [], harness := (true, "3d0627b4a7473662bb21b00874ec143dfd9aa356185516009fe75ba14fb2f66e"), looks := false }, kinds := [], alts := [], laidByText := true, laidKinds := [.data, .pinned], laidTests := true, laidLooks := .later }
def BaseNoughtsUptoCardSaid : Prop := Claim7.holds Tryd.pinned (.plain (OpenSpec.upto baseNoughtsSpec)) baseNoughtsUptoCard

/-- THE SECOND FORM's CARD OF 'chandlerylaw02.BaseEncodes'. -/
def baseEncodesUptoCard : Claim7 := { stood := { row := baseEncodesUptoRow, standIns := [], harness := (true, "3d0627b4a7473662bb21b00874ec143dfd9aa356185516009fe75ba14fb2f66e"), looks := false }, kinds := [], alts := [], laidByText := true, laidKinds := [.data, .pinned], laidTests := true, laidLooks := .later }
def BaseEncodesUptoCardSaid : Prop := Claim7.holds Tryd.pinned (.plain (OpenSpec.upto baseEncodesSpec)) baseEncodesUptoCard
end Rows
end Go.Proofs.YtalbbifgkninmaaDoor
