/-
  DERIVED. GIVEN WITH THE SEED: THE CARDS: each row of YthnchdbkgenjhaaDoorRows.lean that lists a variable, with what it lists TIED to the program's text (the seventh form; the later family's looks); each row that meets fmt, with fmt's text TOLD by the authors' own Lean function (tested against real Go, not proved from fmt's source: count such statements apart). THE CARD IS WHAT COUNTS. Prove the row's statement (the work); the ties are given (YthnchdbkgenjhaaDoorTie.lean); close each card by the builder's one call (the guide's Derived/Test/ToyasCard.lean, 'card_holds'). Laid BY PROGRAM, IN A SANDBOX (cutbox-door.mjs). By AI agents, Wed Nov 11 2026. No macro, syntax, notation, axiom, sorry.
-/
import Derived.Test.YthnchdbkgenjhaaDoorRows
import GoSem.ClaimSeven
namespace Go.Proofs.YthnchdbkgenjhaaDoor
namespace Rows

/-- THE TIED CARD OF 'chandlerylaw22.InfoLays'. -/
def infoLaysCard : Claim7 := { stood := { row := infoLaysRow, standIns := [], harness := (true, "ae861f59f64a8183b4b5a1915d911a2a260708550cb7858e293fe53cf6908b4a"), looks := false }, kinds := [], alts := [], laidByText := true, laidKinds := [.data, .pinned], laidTests := true, laidLooks := .later }
def InfoLaysCardSaid : Prop := Claim7.holds Tryd.pinned (.plain (OpenSpec.ofChange infoLaysSpec)) infoLaysCard

/-- THE TIED CARD OF 'chandlerylaw22.InfoRow'. -/
def infoRowCard : Claim7 := { stood := { row := infoRowRow, standIns := [], harness := (true, "ae861f59f64a8183b4b5a1915d911a2a260708550cb7858e293fe53cf6908b4a"), looks := false }, kinds := [], alts := [], laidByText := true, laidKinds := [.data, .pinned], laidTests := true, laidLooks := .later }
def InfoRowCardSaid : Prop := Claim7.holds Tryd.pinned (.plain (OpenSpec.ofChange infoRowSpec)) infoRowCard

/-- THE TIED CARD OF 'chandlerylaw22.InfoBack'. -/
def infoBackCard : Claim7 := { stood := { row := infoBackRow, standIns := [], harness := (true, "ae861f59f64a8183b4b5a1915d911a2a260708550cb7858e293fe53cf6908b4a"), looks := false }, kinds := [], alts := [], laidByText := true, laidKinds := [.data, .pinned], laidTests := true, laidLooks := .later }
def InfoBackCardSaid : Prop := Claim7.holds Tryd.pinned (.plain (OpenSpec.ofChange infoBackSpec)) infoBackCard

/-- THE TIED CARD OF 'chandlerylaw22.InfoAgain'. -/
def infoAgainCard : Claim7 := { stood := { row := infoAgainRow, standIns := [], harness := (true, "ae861f59f64a8183b4b5a1915d911a2a260708550cb7858e293fe53cf6908b4a"), looks := false }, kinds := [], alts := [], laidByText := true, laidKinds := [.data, .pinned], laidTests := true, laidLooks := .later }
def InfoAgainCardSaid : Prop := Claim7.holds Tryd.pinned (.plain (OpenSpec.ofChange infoAgainSpec)) infoAgainCard

/-- THE SECOND FORM's CARD OF 'chandlerylaw22.InfoLays'. -/
def infoLaysUptoCard : Claim7 := { stood := { row := infoLaysUptoRow, standIns := [], harness := (true, "ae861f59f64a8183b4b5a1915d911a2a260708550cb7858e293fe53cf6908b4a"), looks := false }, kinds := [], alts := [], laidByText := true, laidKinds := [.data, .pinned], laidTests := true, laidLooks := .later }
def InfoLaysUptoCardSaid : Prop := Claim7.holds Tryd.pinned (.plain (OpenSpec.upto infoLaysSpec)) infoLaysUptoCard

/-- THE SECOND FORM's CARD OF 'chandlerylaw22.InfoRow'. -/
def infoRowUptoCard : Claim7 := { stood := { row := infoRowUptoRow, standIns := [], harness := (true, "ae861f59f64a8183b4b5a1915d911a2a260708550cb7858e293fe53cf6908b4a"), looks := false }, kinds := [], alts := [], laidByText := true, laidKinds := [.data, .pinned], laidTests := true, laidLooks := .later }
def InfoRowUptoCardSaid : Prop := Claim7.holds Tryd.pinned (.plain (OpenSpec.upto infoRowSpec)) infoRowUptoCard

/-- THE SECOND FORM's CARD OF 'chandlerylaw22.InfoBack'. -/
def infoBackUptoCard : Claim7 := { stood := { row := infoBackUptoRow, standIns := [], harness := (true, "ae861f59f64a8183b4b5a1915d911a2a260708550cb7858e293fe53cf6908b4a"), looks := false }, kinds := [], alts := [], laidByText := true, laidKinds := [.data, .pinned], laidTests := true, laidLooks := .later }
def InfoBackUptoCardSaid : Prop := Claim7.holds Tryd.pinned (.plain (OpenSpec.upto infoBackSpec)) infoBackUptoCard

/-- THE SECOND FORM's CARD OF 'chandlerylaw22.InfoAgain'. -/
def infoAgainUptoCard : Claim7 := { stood := { row := infoAgainUptoRow, standIns := [], harness := (true, "ae861f59f64a8183b4b5a1915d911a2a260708550cb7858e293fe53cf6908b4a"), looks := false }, kinds := [], alts := [], laidByText := true, laidKinds := [.data, .pinned], laidTests := true, laidLooks := .later }
def InfoAgainUptoCardSaid : Prop := Claim7.holds Tryd.pinned (.plain (OpenSpec.upto infoAgainSpec)) infoAgainUptoCard
end Rows
end Go.Proofs.YthnchdbkgenjhaaDoor
