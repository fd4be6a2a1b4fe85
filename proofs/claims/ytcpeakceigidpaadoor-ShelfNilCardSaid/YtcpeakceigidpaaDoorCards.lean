/-
  DERIVED. GIVEN WITH THE SEED: THE CARDS: each row of YtcpeakceigidpaaDoorRows.lean that lists a variable, with what it lists TIED to the program's text (the seventh form; the later family's looks); each row that meets fmt, with fmt's text TOLD by the authors' own Lean function (tested against real Go, not proved from fmt's source: count such statements apart). THE CARD IS WHAT COUNTS. Prove the row's statement (the work); the ties are given (YtcpeakceigidpaaDoorTie.lean); close each card by the builder's one call (the guide's Derived/Test/ToyasCard.lean, 'card_holds'). Laid BY PROGRAM, IN A SANDBOX (cutbox-door.mjs). By AI agents, Wed Nov 11 2026. No macro, syntax, notation, axiom, sorry.
-/
import Derived.Test.YtcpeakceigidpaaDoorRows
import GoSem.ClaimSeven
namespace Go.Proofs.YtcpeakceigidpaaDoor
namespace Rows

/-- THE TIED CARD OF 'interleaflaw07.ShelfBytes'. -/
def shelfBytesCard : Claim7 := { stood := { row := shelfBytesRow, standIns := [], harness := (true, "7c07777afe947bdf6429ac2a62d9a0137d80515f6725f369624269ae9f6bb754"), looks := false }, kinds := [], alts := [], laidByText := true, laidKinds := [.data, .data, .data], laidTests := true, laidLooks := .later }
def ShelfBytesCardSaid : Prop := Claim7.holds Tryd.pinned (.plain (OpenSpec.ofChange shelfBytesSpec)) shelfBytesCard

/-- THE TIED CARD OF 'interleaflaw07.ShelfFull'. -/
def shelfFullCard : Claim7 := { stood := { row := shelfFullRow, standIns := [], harness := (true, "7c07777afe947bdf6429ac2a62d9a0137d80515f6725f369624269ae9f6bb754"), looks := false }, kinds := [], alts := [], laidByText := true, laidKinds := [.data, .data, .data], laidTests := true, laidLooks := .later }
def ShelfFullCardSaid : Prop := Claim7.holds Tryd.pinned (.plain (OpenSpec.ofChange shelfFullSpec)) shelfFullCard

/-- THE TIED CARD OF 'interleaflaw07.ShelfForms'. -/
def shelfFormsCard : Claim7 := { stood := { row := shelfFormsRow, standIns := [], harness := (true, "7c07777afe947bdf6429ac2a62d9a0137d80515f6725f369624269ae9f6bb754"), looks := false }, kinds := [], alts := [], laidByText := true, laidKinds := [.data, .data, .data], laidTests := true, laidLooks := .later }
def ShelfFormsCardSaid : Prop := Claim7.holds Tryd.pinned (.plain (OpenSpec.ofChange shelfFormsSpec)) shelfFormsCard

/-- THE TIED CARD OF 'interleaflaw07.ShelfOnce'. -/
def shelfOnceCard : Claim7 := { stood := { row := shelfOnceRow, standIns := [], harness := (true, "7c07777afe947bdf6429ac2a62d9a0137d80515f6725f369624269ae9f6bb754"), looks := false }, kinds := [], alts := [], laidByText := true, laidKinds := [.data, .data, .data], laidTests := true, laidLooks := .later }
def ShelfOnceCardSaid : Prop := Claim7.holds Tryd.pinned (.plain (OpenSpec.ofChange shelfOnceSpec)) shelfOnceCard

/-- THE TIED CARD OF 'interleaflaw07.ShelfKeys'. -/
def shelfKeysCard : Claim7 := { stood := { row := shelfKeysRow, standIns := [], harness := (true, "7c07777afe947bdf6429ac2a62d9a0137d80515f6725f369624269ae9f6bb754"), looks := false }, kinds := [], alts := [], laidByText := true, laidKinds := [.data, .data, .data], laidTests := true, laidLooks := .later }
def ShelfKeysCardSaid : Prop := Claim7.holds Tryd.pinned (.plain (OpenSpec.ofChange shelfKeysSpec)) shelfKeysCard

/-- THE TIED CARD OF 'interleaflaw07.ShelfSettles'. -/
def shelfSettlesCard : Claim7 := { stood := { row := shelfSettlesRow, standIns := [], harness := (true, "7c07777afe947bdf6429ac2a62d9a0137d80515f6725f369624269ae9f6bb754"), looks := false }, kinds := [], alts := [], laidByText := true, laidKinds := [.data, .data, .data], laidTests := true, laidLooks := .later }
def ShelfSettlesCardSaid : Prop := Claim7.holds Tryd.pinned (.plain (OpenSpec.ofChange shelfSettlesSpec)) shelfSettlesCard

/-- THE TIED CARD OF 'interleaflaw07.ShelfNil'. -/
def shelfNilCard : Claim7 := { stood := { row := shelfNilRow, standIns := [], harness := (true, "7c07777afe947bdf6429ac2a62d9a0137d80515f6725f369624269ae9f6bb754"), looks := false }, kinds := [], alts := [], laidByText := true, laidKinds := [.data, .data, .data], laidTests := true, laidLooks := .later }
def ShelfNilCardSaid : Prop := Claim7.holds Tryd.pinned (.plain (OpenSpec.ofChange shelfNilSpec)) shelfNilCard

/-- THE SECOND FORM's CARD OF 'interleaflaw07.ShelfBytes'. -/
def shelfBytesUptoCard : Claim7 := { stood := { row := shelfBytesUptoRow, standIns := [], harness := (true, "7c07777afe947bdf6429ac2a62d9a0137d80515f6725f369624269ae9f6bb754"), looks := false }, kinds := [], alts := [], laidByText := true, laidKinds := [.data, .data, .data], laidTests := true, laidLooks := .later }
def ShelfBytesUptoCardSaid : Prop := Claim7.holds Tryd.pinned (.plain (OpenSpec.upto shelfBytesSpec)) shelfBytesUptoCard

/-- THE SECOND FORM's CARD OF 'interleaflaw07.ShelfFull'. -/
def shelfFullUptoCard : Claim7 := { stood := { row := shelfFullUptoRow, standIns := [], harness := (true, "7c07777afe947bdf6429ac2a62d9a0137d80515f6725f369624269ae9f6bb754"), looks := false }, kinds := [], alts := [], laidByText := true, laidKinds := [.data, .data, .data], laidTests := true, laidLooks := .later }
def ShelfFullUptoCardSaid : Prop := Claim7.holds Tryd.pinned (.plain (OpenSpec.upto shelfFullSpec)) shelfFullUptoCard

/-- THE SECOND FORM's CARD OF 'interleaflaw07.ShelfForms'. -/
def shelfFormsUptoCard : Claim7 := { stood := { row := shelfFormsUptoRow, standIns := [], harness := (true, "7c07777afe947bdf6429ac2a62d9a0137d80515f6725f369624269ae9f6bb754"), looks := false }, kinds := [], alts := [], laidByText := true, laidKinds := [.data, .data, .data], laidTests := true, laidLooks := .later }
def ShelfFormsUptoCardSaid : Prop := Claim7.holds Tryd.pinned (.plain (OpenSpec.upto shelfFormsSpec)) shelfFormsUptoCard

/-- THE SECOND FORM's CARD OF 'interleaflaw07.ShelfOnce'. -/
def shelfOnceUptoCard : Claim7 := { stood := { row := shelfOnceUptoRow, standIns := [], harness := (true, "7c07777afe947bdf6429ac2a62d9a0137d80515f6725f369624269ae9f6bb754"), looks := false }, kinds := [], alts := [], laidByText := true, laidKinds := [.data, .data, .data], laidTests := true, laidLooks := .later }
def ShelfOnceUptoCardSaid : Prop := Claim7.holds Tryd.pinned (.plain (OpenSpec.upto shelfOnceSpec)) shelfOnceUptoCard

/-- THE SECOND FORM's CARD OF 'interleaflaw07.ShelfKeys'. -/
def shelfKeysUptoCard : Claim7 := { stood := { row := shelfKeysUptoRow, standIns := [], harness := (true, "7c07777afe947bdf6429ac2a62d9a0137d80515f6725f369624269ae9f6bb754"), looks := false }, kinds := [], alts := [], laidByText := true, laidKinds := [.data, .data, .data], laidTests := true, laidLooks := .later }
def ShelfKeysUptoCardSaid : Prop := Claim7.holds Tryd.pinned (.plain (OpenSpec.upto shelfKeysSpec)) shelfKeysUptoCard

/-- THE SECOND FORM's CARD OF 'interleaflaw07.ShelfSettles'. -/
def shelfSettlesUptoCard : Claim7 := { stood := { row := shelfSettlesUptoRow, standIns := [], harness := (true, "7c07777afe947bdf6429ac2a62d9a0137d80515f6725f369624269ae9f6bb754"), looks := false }, kinds := [], alts := [], laidByText := true, laidKinds := [.data, .data, .data], laidTests := true, laidLooks := .later }
def ShelfSettlesUptoCardSaid : Prop := Claim7.holds Tryd.pinned (.plain (OpenSpec.upto shelfSettlesSpec)) shelfSettlesUptoCard

/-- THE SECOND FORM's CARD OF 'interleaflaw07.ShelfNil'. -/
def shelfNilUptoCard : Claim7 := { stood := { row := shelfNilUptoRow, standIns := [], harness := (true, "7c07777afe947bdf6429ac2a62d9a0137d80515f6725f369624269ae9f6bb754"), looks := false }, kinds := [], alts := [], laidByText := true, laidKinds := [.data, .data, .data], laidTests := true, laidLooks := .later }
def ShelfNilUptoCardSaid : Prop := Claim7.holds Tryd.pinned (.plain (OpenSpec.upto shelfNilSpec)) shelfNilUptoCard
end Rows
end Go.Proofs.YtcpeakceigidpaaDoor
