/-
  DERIVED. GIVEN WITH THE SEED: THE CARDS: each row of YtecohedcbnfibaaDoorRows.lean that lists a variable, with what it lists TIED to the program's text (the seventh form; the later family's looks); each row that meets fmt, with fmt's text TOLD by the authors' own Lean function (tested against real Go, not proved from fmt's source: count such statements apart). THE CARD IS WHAT COUNTS. Prove the row's statement (the work); the ties are given (YtecohedcbnfibaaDoorTie.lean); close each card by the builder's one call (the guide's Derived/Test/ToyasCard.lean, 'card_holds'). Laid BY PROGRAM, IN A SANDBOX (cutbox-door.mjs). By AI agents, Wed Nov 11 2026. No macro, syntax, notation, axiom, sorry.
-/
import Derived.Test.YtecohedcbnfibaaDoorRows
import GoSem.ClaimSeven
namespace Go.Proofs.YtecohedcbnfibaaDoor
namespace Rows

/-- THE TIED CARD OF 'interleaflaw08.LabelRights'. -/
def labelRightsCard : Claim7 := { stood := { row := labelRightsRow, standIns := [], harness := (true, "f34f01d4d7b90a31c7c84f0c06615c12f41545dd0d1282ecb26e7d03a554182e"), looks := false }, kinds := [], alts := [], laidByText := true, laidKinds := [.data], laidTests := true, laidLooks := .later }
def LabelRightsCardSaid : Prop := Claim7.holds Tryd.pinned (.plain (OpenSpec.ofChange labelRightsSpec)) labelRightsCard

/-- THE TIED CARD OF 'interleaflaw08.LabelForms'. -/
def labelFormsCard : Claim7 := { stood := { row := labelFormsRow, standIns := [], harness := (true, "f34f01d4d7b90a31c7c84f0c06615c12f41545dd0d1282ecb26e7d03a554182e"), looks := false }, kinds := [], alts := [], laidByText := true, laidKinds := [.data], laidTests := true, laidLooks := .later }
def LabelFormsCardSaid : Prop := Claim7.holds Tryd.pinned (.plain (OpenSpec.ofChange labelFormsSpec)) labelFormsCard

/-- THE TIED CARD OF 'interleaflaw08.LabelNil'. -/
def labelNilCard : Claim7 := { stood := { row := labelNilRow, standIns := [], harness := (true, "f34f01d4d7b90a31c7c84f0c06615c12f41545dd0d1282ecb26e7d03a554182e"), looks := false }, kinds := [], alts := [], laidByText := true, laidKinds := [.data], laidTests := true, laidLooks := .later }
def LabelNilCardSaid : Prop := Claim7.holds Tryd.pinned (.plain (OpenSpec.ofChange labelNilSpec)) labelNilCard

/-- THE TIED CARD OF 'interleaflaw08.LabelFull'. -/
def labelFullCard : Claim7 := { stood := { row := labelFullRow, standIns := [], harness := (true, "f34f01d4d7b90a31c7c84f0c06615c12f41545dd0d1282ecb26e7d03a554182e"), looks := false }, kinds := [], alts := [], laidByText := true, laidKinds := [.data], laidTests := true, laidLooks := .later }
def LabelFullCardSaid : Prop := Claim7.holds Tryd.pinned (.plain (OpenSpec.ofChange labelFullSpec)) labelFullCard

/-- THE TIED CARD OF 'interleaflaw08.LabelBytes'. -/
def labelBytesCard : Claim7 := { stood := { row := labelBytesRow, standIns := [], harness := (true, "f34f01d4d7b90a31c7c84f0c06615c12f41545dd0d1282ecb26e7d03a554182e"), looks := false }, kinds := [], alts := [], laidByText := true, laidKinds := [.data], laidTests := true, laidLooks := .later }
def LabelBytesCardSaid : Prop := Claim7.holds Tryd.pinned (.plain (OpenSpec.ofChange labelBytesSpec)) labelBytesCard

/-- THE TIED CARD OF 'interleaflaw08.LabelPlays'. -/
def labelPlaysCard : Claim7 := { stood := { row := labelPlaysRow, standIns := [], harness := (true, "f34f01d4d7b90a31c7c84f0c06615c12f41545dd0d1282ecb26e7d03a554182e"), looks := false }, kinds := [], alts := [], laidByText := true, laidKinds := [.data], laidTests := true, laidLooks := .later }
def LabelPlaysCardSaid : Prop := Claim7.holds Tryd.pinned (.plain (OpenSpec.ofChange labelPlaysSpec)) labelPlaysCard

/-- THE SECOND FORM's CARD OF 'interleaflaw08.LabelRights'. -/
def labelRightsUptoCard : Claim7 := { stood := { row := labelRightsUptoRow, standIns := [], harness := (true, "f34f01d4d7b90a31c7c84f0c06615c12f41545dd0d1282ecb26e7d03a554182e"), looks := false }, kinds := [], alts := [], laidByText := true, laidKinds := [.data], laidTests := true, laidLooks := .later }
def LabelRightsUptoCardSaid : Prop := Claim7.holds Tryd.pinned (.plain (OpenSpec.upto labelRightsSpec)) labelRightsUptoCard

/-- THE SECOND FORM's CARD OF 'interleaflaw08.LabelForms'. -/
def labelFormsUptoCard : Claim7 := { stood := { row := labelFormsUptoRow, standIns := [], harness := (true, "f34f01d4d7b90a31c7c84f0c06615c12f41545dd0d1282ecb26e7d03a554182e"), looks := false }, kinds := [], alts := [], laidByText := true, laidKinds := [.data], laidTests := true, laidLooks := .later }
def LabelFormsUptoCardSaid : Prop := Claim7.holds Tryd.pinned (.plain (OpenSpec.upto labelFormsSpec)) labelFormsUptoCard

/-- THE SECOND FORM's CARD OF 'interleaflaw08.LabelNil'. -/
def labelNilUptoCard : Claim7 := { stood := { row := labelNilUptoRow, standIns := [], harness := (true, "f34f01d4d7b90a31c7c84f0c06615c12f41545dd0d1282ecb26e7d03a554182e"), looks := false }, kinds := [], alts := [], laidByText := true, laidKinds := [.data], laidTests := true, laidLooks := .later }
def LabelNilUptoCardSaid : Prop := Claim7.holds Tryd.pinned (.plain (OpenSpec.upto labelNilSpec)) labelNilUptoCard

/-- THE SECOND FORM's CARD OF 'interleaflaw08.LabelFull'. -/
def labelFullUptoCard : Claim7 := { stood := { row := labelFullUptoRow, standIns := [], harness := (true, "f34f01d4d7b90a31c7c84f0c06615c12f41545dd0d1282ecb26e7d03a554182e"), looks := false }, kinds := [], alts := [], laidByText := true, laidKinds := [.data], laidTests := true, laidLooks := .later }
def LabelFullUptoCardSaid : Prop := Claim7.holds Tryd.pinned (.plain (OpenSpec.upto labelFullSpec)) labelFullUptoCard

/-- THE SECOND FORM's CARD OF 'interleaflaw08.LabelBytes'. -/
def labelBytesUptoCard : Claim7 := { stood := { row := labelBytesUptoRow, standIns := [], harness := (true, "f34f01d4d7b90a31c7c84f0c06615c12f41545dd0d1282ecb26e7d03a554182e"), looks := false }, kinds := [], alts := [], laidByText := true, laidKinds := [.data], laidTests := true, laidLooks := .later }
def LabelBytesUptoCardSaid : Prop := Claim7.holds Tryd.pinned (.plain (OpenSpec.upto labelBytesSpec)) labelBytesUptoCard

/-- THE SECOND FORM's CARD OF 'interleaflaw08.LabelPlays'. -/
def labelPlaysUptoCard : Claim7 := { stood := { row := labelPlaysUptoRow, standIns := [], harness := (true, "f34f01d4d7b90a31c7c84f0c06615c12f41545dd0d1282ecb26e7d03a554182e"), looks := false }, kinds := [], alts := [], laidByText := true, laidKinds := [.data], laidTests := true, laidLooks := .later }
def LabelPlaysUptoCardSaid : Prop := Claim7.holds Tryd.pinned (.plain (OpenSpec.upto labelPlaysSpec)) labelPlaysUptoCard
end Rows
end Go.Proofs.YtecohedcbnfibaaDoor
