/-
  No cell of these rows narrows 'for every input' (looked for: loops, veiled, ifaces, maps, wideKeys, modest, calm, conditions, laid).
  DERIVED. THE GIVEN ROWS OF THIS SEAT. 9 by the template 'for every input the law returns true; each argument reads behind the call as it read before'; 0 by the template 'total and deterministic' (their statements: YtdlhckmdllfamaaTotals.lean).
  GIVEN WITH THE SEED: the statements are not yours to turn. If you find one false, say at which input.
  Laid BY PROGRAM, IN A SANDBOX (cutbox-rows.mjs): the forced cells as the released guide's own fill.sh prints them over the translation ae1638d1c806aeb3… (all of the seat's roots in one cut). By AI agents, Wed Nov 11 2026. No macro, syntax, notation, axiom, sorry.
-/
import Derived.Test.YtdlhckmdllfamaaChecked
import GoSem.Claim
import GoSem.ClaimJoined
import GoSem.ClaimMapViews
import Derived.JoinedTies
import Derived.KernelRfl
namespace Go.Proofs.Ytdlhckmdllfamaa
/- THE CELL 'sum', in the pinned program and in every row, IS THE sha256 OF THE DUMP (.gsa) THAT YtdlhckmdllfamaaProg.lean LOADS. Nothing in Lean hashes anything: it is a label: what it is worth is what the hold of that sum in a sandbox is worth. -/
noncomputable def Try.pinned : Pinned := { name := "ytdlhckmdllfamaa", sum := "ae1638d1c806aeb34ac77066fb9ac4e9eb469a86ffbc5ec6be375ac8772699d3", checked := Try.checked }
namespace Rows
def none {H : Type} : Left H := { results := [], args := [] }

/-- 'interleaflaw13.DiffOf': WHATEVER THE INPUT: true; the input reads as it did. -/
def diffOfSpec : ChangeSpec := { name := "diffOf", fn := fun _ => fun
  | [d1, d2, d3, d4] => { results := [.lit (.bool true)], args := [d1, d2, d3, d4] }
  | _ => none }
def diffOfRow : OpenClaim := { program := "ytdlhckmdllfamaa", sum := "ae1638d1c806aeb34ac77066fb9ac4e9eb469a86ffbc5ec6be375ac8772699d3", func := "interleaf/interleaflaw13.DiffOf", spec := "diffOf", inPlace := ["slices.overlaps[interleaf/api.Elem]"], unfollowed := true, recurses := true, apart := false }
def DiffOfSaid : Prop := diffOfRow.holds Try.pinned (OpenSpec.ofChange diffOfSpec)

/-- ITS FALSE NEIGHBOUR: 'it returns false'. Refute it at one input. -/
def diffOfWrong : ChangeSpec := { name := "diffOf", fn := fun _ => fun
  | [d1, d2, d3, d4] => { results := [.lit (.bool false)], args := [d1, d2, d3, d4] }
  | _ => none }
def DiffOfWrongFalsely : Prop := diffOfRow.holds Try.pinned (OpenSpec.ofChange diffOfWrong)

/-- 'interleaflaw13.DiffCounts': WHATEVER THE INPUT: true; the input reads as it did. -/
def diffCountsSpec : ChangeSpec := { name := "diffCounts", fn := fun _ => fun
  | [d1, d2] => { results := [.lit (.bool true)], args := [d1, d2] }
  | _ => none }
def diffCountsRow : OpenClaim := { program := "ytdlhckmdllfamaa", sum := "ae1638d1c806aeb34ac77066fb9ac4e9eb469a86ffbc5ec6be375ac8772699d3", func := "interleaf/interleaflaw13.DiffCounts", spec := "diffCounts", inPlace := ["slices.overlaps[interleaf/api.Elem]"], unfollowed := true, recurses := true, apart := false }
def DiffCountsSaid : Prop := diffCountsRow.holds Try.pinned (OpenSpec.ofChange diffCountsSpec)

/-- ITS FALSE NEIGHBOUR: 'it returns false'. Refute it at one input. -/
def diffCountsWrong : ChangeSpec := { name := "diffCounts", fn := fun _ => fun
  | [d1, d2] => { results := [.lit (.bool false)], args := [d1, d2] }
  | _ => none }
def DiffCountsWrongFalsely : Prop := diffCountsRow.holds Try.pinned (OpenSpec.ofChange diffCountsWrong)

/-- 'interleaflaw12.EditOne': WHATEVER THE INPUT: true; the input reads as it did. -/
def editOneSpec : ChangeSpec := { name := "editOne", fn := fun _ => fun
  | [d1, d2, d3, d4] => { results := [.lit (.bool true)], args := [d1, d2, d3, d4] }
  | _ => none }
def editOneRow : OpenClaim := { program := "ytdlhckmdllfamaa", sum := "ae1638d1c806aeb34ac77066fb9ac4e9eb469a86ffbc5ec6be375ac8772699d3", func := "interleaf/interleaflaw12.EditOne", spec := "editOne", inPlace := ["slices.overlaps[interleaf/api.Elem]"], unfollowed := true, recurses := true, apart := false }
def EditOneSaid : Prop := editOneRow.holds Try.pinned (OpenSpec.ofChange editOneSpec)

/-- ITS FALSE NEIGHBOUR: 'it returns false'. Refute it at one input. -/
def editOneWrong : ChangeSpec := { name := "editOne", fn := fun _ => fun
  | [d1, d2, d3, d4] => { results := [.lit (.bool false)], args := [d1, d2, d3, d4] }
  | _ => none }
def EditOneWrongFalsely : Prop := editOneRow.holds Try.pinned (OpenSpec.ofChange editOneWrong)

/-- 'interleaflaw12.EditBack': WHATEVER THE INPUT: true; the input reads as it did. -/
def editBackSpec : ChangeSpec := { name := "editBack", fn := fun _ => fun
  | [d1, d2, d3, d4] => { results := [.lit (.bool true)], args := [d1, d2, d3, d4] }
  | _ => none }
def editBackRow : OpenClaim := { program := "ytdlhckmdllfamaa", sum := "ae1638d1c806aeb34ac77066fb9ac4e9eb469a86ffbc5ec6be375ac8772699d3", func := "interleaf/interleaflaw12.EditBack", spec := "editBack", inPlace := ["slices.overlaps[interleaf/api.Elem]"], unfollowed := true, recurses := true, apart := false }
def EditBackSaid : Prop := editBackRow.holds Try.pinned (OpenSpec.ofChange editBackSpec)

/-- ITS FALSE NEIGHBOUR: 'it returns false'. Refute it at one input. -/
def editBackWrong : ChangeSpec := { name := "editBack", fn := fun _ => fun
  | [d1, d2, d3, d4] => { results := [.lit (.bool false)], args := [d1, d2, d3, d4] }
  | _ => none }
def EditBackWrongFalsely : Prop := editBackRow.holds Try.pinned (OpenSpec.ofChange editBackWrong)

/-- 'interleaflaw12.EditAll': WHATEVER THE INPUT: true; the input reads as it did. -/
def editAllSpec : ChangeSpec := { name := "editAll", fn := fun _ => fun
  | [d1, d2, d3] => { results := [.lit (.bool true)], args := [d1, d2, d3] }
  | _ => none }
def editAllRow : OpenClaim := { program := "ytdlhckmdllfamaa", sum := "ae1638d1c806aeb34ac77066fb9ac4e9eb469a86ffbc5ec6be375ac8772699d3", func := "interleaf/interleaflaw12.EditAll", spec := "editAll", inPlace := ["slices.overlaps[interleaf/api.Elem]"], unfollowed := true, recurses := true, apart := false }
def EditAllSaid : Prop := editAllRow.holds Try.pinned (OpenSpec.ofChange editAllSpec)

/-- ITS FALSE NEIGHBOUR: 'it returns false'. Refute it at one input. -/
def editAllWrong : ChangeSpec := { name := "editAll", fn := fun _ => fun
  | [d1, d2, d3] => { results := [.lit (.bool false)], args := [d1, d2, d3] }
  | _ => none }
def EditAllWrongFalsely : Prop := editAllRow.holds Try.pinned (OpenSpec.ofChange editAllWrong)

/-- 'interleaflaw12.EditStands': WHATEVER THE INPUT: true; the input reads as it did. -/
def editStandsSpec : ChangeSpec := { name := "editStands", fn := fun _ => fun
  | [d] => { results := [.lit (.bool true)], args := [d] }
  | _ => none }
def editStandsRow : OpenClaim := { program := "ytdlhckmdllfamaa", sum := "ae1638d1c806aeb34ac77066fb9ac4e9eb469a86ffbc5ec6be375ac8772699d3", func := "interleaf/interleaflaw12.EditStands", spec := "editStands", inPlace := ["slices.overlaps[interleaf/api.Elem]"], unfollowed := true, recurses := true, apart := false }
def EditStandsSaid : Prop := editStandsRow.holds Try.pinned (OpenSpec.ofChange editStandsSpec)

/-- ITS FALSE NEIGHBOUR: 'it returns false'. Refute it at one input. -/
def editStandsWrong : ChangeSpec := { name := "editStands", fn := fun _ => fun
  | [d] => { results := [.lit (.bool false)], args := [d] }
  | _ => none }
def EditStandsWrongFalsely : Prop := editStandsRow.holds Try.pinned (OpenSpec.ofChange editStandsWrong)

/-- 'interleaflaw13.DiffLeads': WHATEVER THE INPUT: true; the input reads as it did. -/
def diffLeadsSpec : ChangeSpec := { name := "diffLeads", fn := fun _ => fun
  | [d1, d2, d3] => { results := [.lit (.bool true)], args := [d1, d2, d3] }
  | _ => none }
def diffLeadsRow : OpenClaim := { program := "ytdlhckmdllfamaa", sum := "ae1638d1c806aeb34ac77066fb9ac4e9eb469a86ffbc5ec6be375ac8772699d3", func := "interleaf/interleaflaw13.DiffLeads", spec := "diffLeads", inPlace := ["slices.overlaps[interleaf/api.Elem]"], unfollowed := true, recurses := true, apart := false }
def DiffLeadsSaid : Prop := diffLeadsRow.holds Try.pinned (OpenSpec.ofChange diffLeadsSpec)

/-- ITS FALSE NEIGHBOUR: 'it returns false'. Refute it at one input. -/
def diffLeadsWrong : ChangeSpec := { name := "diffLeads", fn := fun _ => fun
  | [d1, d2, d3] => { results := [.lit (.bool false)], args := [d1, d2, d3] }
  | _ => none }
def DiffLeadsWrongFalsely : Prop := diffLeadsRow.holds Try.pinned (OpenSpec.ofChange diffLeadsWrong)

/-- 'interleaflaw13.DiffTouches': WHATEVER THE INPUT: true; the input reads as it did. -/
def diffTouchesSpec : ChangeSpec := { name := "diffTouches", fn := fun _ => fun
  | [d1, d2] => { results := [.lit (.bool true)], args := [d1, d2] }
  | _ => none }
def diffTouchesRow : OpenClaim := { program := "ytdlhckmdllfamaa", sum := "ae1638d1c806aeb34ac77066fb9ac4e9eb469a86ffbc5ec6be375ac8772699d3", func := "interleaf/interleaflaw13.DiffTouches", spec := "diffTouches", inPlace := ["slices.overlaps[interleaf/api.Elem]"], unfollowed := true, recurses := true, apart := false }
def DiffTouchesSaid : Prop := diffTouchesRow.holds Try.pinned (OpenSpec.ofChange diffTouchesSpec)

/-- ITS FALSE NEIGHBOUR: 'it returns false'. Refute it at one input. -/
def diffTouchesWrong : ChangeSpec := { name := "diffTouches", fn := fun _ => fun
  | [d1, d2] => { results := [.lit (.bool false)], args := [d1, d2] }
  | _ => none }
def DiffTouchesWrongFalsely : Prop := diffTouchesRow.holds Try.pinned (OpenSpec.ofChange diffTouchesWrong)

/-- 'interleaflaw13.DiffTurned': WHATEVER THE INPUT: true; the input reads as it did. -/
def diffTurnedSpec : ChangeSpec := { name := "diffTurned", fn := fun _ => fun
  | [d1, d2] => { results := [.lit (.bool true)], args := [d1, d2] }
  | _ => none }
def diffTurnedRow : OpenClaim := { program := "ytdlhckmdllfamaa", sum := "ae1638d1c806aeb34ac77066fb9ac4e9eb469a86ffbc5ec6be375ac8772699d3", func := "interleaf/interleaflaw13.DiffTurned", spec := "diffTurned", inPlace := ["slices.overlaps[interleaf/api.Elem]"], unfollowed := true, recurses := true, apart := false }
def DiffTurnedSaid : Prop := diffTurnedRow.holds Try.pinned (OpenSpec.ofChange diffTurnedSpec)

/-- ITS FALSE NEIGHBOUR: 'it returns false'. Refute it at one input. -/
def diffTurnedWrong : ChangeSpec := { name := "diffTurned", fn := fun _ => fun
  | [d1, d2] => { results := [.lit (.bool false)], args := [d1, d2] }
  | _ => none }
def DiffTurnedWrongFalsely : Prop := diffTurnedRow.holds Try.pinned (OpenSpec.ofChange diffTurnedWrong)

/- THE SECOND FORM. 'bulk': how many values and letters a reading holds, each counted each time it is reached (what is shared counts as often as it is met; a slice's spare places count too). A statement '..UptoSaid' is the law's where the arguments, and the package variables that the reading takes, are together of bulk at most 1048576: NARROWER than '..Said'. Prove '..Said' where nothing that the law and all that it calls make is longer than what came in: it says more and counts as full. Else prove '..UptoSaid'. A law counts once. -/
mutual
def uptoBulk {H : Type} : DataW H → Nat
  | .lit (.string bytes) => bytes.length + 1
  | .lit _ => 1
  | .nil => 1
  | .ptr d => uptoBulk d + 1
  | .slice elems spare => uptoBulkAll elems + uptoBulkAll spare + 1
  | .agg parts => uptoBulkAll parts + 1
  | .iface _ d => uptoBulk d + 1
  | .map entries => uptoBulkEntries entries + 1
  | .held _ => 1
def uptoBulkAll {H : Type} : List (DataW H) → Nat
  | [] => 0
  | d :: r => uptoBulk d + uptoBulkAll r
def uptoBulkEntries {H : Type} : List (Lit × DataW H) → Nat
  | [] => 0
  | x :: r => uptoBulkEntry x + uptoBulkEntries r
def uptoBulkEntry {H : Type} : Lit × DataW H → Nat
  | (.string bytes, d) => bytes.length + uptoBulk d + 1
  | (_, d) => uptoBulk d + 1
 end
def uptoSmall : (H : Type) → List (DataW H) → Bool := fun _ ds => decide (uptoBulkAll ds ≤ 1048576)
def OpenSpec.upto (s : _root_.Go.ChangeSpec) : _root_.Go.OpenSpec := { _root_.Go.OpenSpec.ofChange s with cond := some uptoSmall }

/-- 'interleaflaw13.DiffOf', WHERE WHAT IT READS IS OF BULK AT MOST 1048576: true; the input reads as it did. -/
def diffOfUptoRow : OpenClaim := { program := "ytdlhckmdllfamaa", sum := "ae1638d1c806aeb34ac77066fb9ac4e9eb469a86ffbc5ec6be375ac8772699d3", func := "interleaf/interleaflaw13.DiffOf", spec := "diffOf", inPlace := ["slices.overlaps[interleaf/api.Elem]"], unfollowed := true, recurses := true, apart := false, narrowed := true }
def DiffOfUptoSaid : Prop := diffOfUptoRow.holds Try.pinned (OpenSpec.upto diffOfSpec)

/-- 'interleaflaw13.DiffCounts', WHERE WHAT IT READS IS OF BULK AT MOST 1048576: true; the input reads as it did. -/
def diffCountsUptoRow : OpenClaim := { program := "ytdlhckmdllfamaa", sum := "ae1638d1c806aeb34ac77066fb9ac4e9eb469a86ffbc5ec6be375ac8772699d3", func := "interleaf/interleaflaw13.DiffCounts", spec := "diffCounts", inPlace := ["slices.overlaps[interleaf/api.Elem]"], unfollowed := true, recurses := true, apart := false, narrowed := true }
def DiffCountsUptoSaid : Prop := diffCountsUptoRow.holds Try.pinned (OpenSpec.upto diffCountsSpec)

/-- 'interleaflaw12.EditOne', WHERE WHAT IT READS IS OF BULK AT MOST 1048576: true; the input reads as it did. -/
def editOneUptoRow : OpenClaim := { program := "ytdlhckmdllfamaa", sum := "ae1638d1c806aeb34ac77066fb9ac4e9eb469a86ffbc5ec6be375ac8772699d3", func := "interleaf/interleaflaw12.EditOne", spec := "editOne", inPlace := ["slices.overlaps[interleaf/api.Elem]"], unfollowed := true, recurses := true, apart := false, narrowed := true }
def EditOneUptoSaid : Prop := editOneUptoRow.holds Try.pinned (OpenSpec.upto editOneSpec)

/-- 'interleaflaw12.EditBack', WHERE WHAT IT READS IS OF BULK AT MOST 1048576: true; the input reads as it did. -/
def editBackUptoRow : OpenClaim := { program := "ytdlhckmdllfamaa", sum := "ae1638d1c806aeb34ac77066fb9ac4e9eb469a86ffbc5ec6be375ac8772699d3", func := "interleaf/interleaflaw12.EditBack", spec := "editBack", inPlace := ["slices.overlaps[interleaf/api.Elem]"], unfollowed := true, recurses := true, apart := false, narrowed := true }
def EditBackUptoSaid : Prop := editBackUptoRow.holds Try.pinned (OpenSpec.upto editBackSpec)

/-- 'interleaflaw12.EditAll', WHERE WHAT IT READS IS OF BULK AT MOST 1048576: true; the input reads as it did. -/
def editAllUptoRow : OpenClaim := { program := "ytdlhckmdllfamaa", sum := "ae1638d1c806aeb34ac77066fb9ac4e9eb469a86ffbc5ec6be375ac8772699d3", func := "interleaf/interleaflaw12.EditAll", spec := "editAll", inPlace := ["slices.overlaps[interleaf/api.Elem]"], unfollowed := true, recurses := true, apart := false, narrowed := true }
def EditAllUptoSaid : Prop := editAllUptoRow.holds Try.pinned (OpenSpec.upto editAllSpec)

/-- 'interleaflaw12.EditStands', WHERE WHAT IT READS IS OF BULK AT MOST 1048576: true; the input reads as it did. -/
def editStandsUptoRow : OpenClaim := { program := "ytdlhckmdllfamaa", sum := "ae1638d1c806aeb34ac77066fb9ac4e9eb469a86ffbc5ec6be375ac8772699d3", func := "interleaf/interleaflaw12.EditStands", spec := "editStands", inPlace := ["slices.overlaps[interleaf/api.Elem]"], unfollowed := true, recurses := true, apart := false, narrowed := true }
def EditStandsUptoSaid : Prop := editStandsUptoRow.holds Try.pinned (OpenSpec.upto editStandsSpec)

/-- 'interleaflaw13.DiffLeads', WHERE WHAT IT READS IS OF BULK AT MOST 1048576: true; the input reads as it did. -/
def diffLeadsUptoRow : OpenClaim := { program := "ytdlhckmdllfamaa", sum := "ae1638d1c806aeb34ac77066fb9ac4e9eb469a86ffbc5ec6be375ac8772699d3", func := "interleaf/interleaflaw13.DiffLeads", spec := "diffLeads", inPlace := ["slices.overlaps[interleaf/api.Elem]"], unfollowed := true, recurses := true, apart := false, narrowed := true }
def DiffLeadsUptoSaid : Prop := diffLeadsUptoRow.holds Try.pinned (OpenSpec.upto diffLeadsSpec)

/-- 'interleaflaw13.DiffTouches', WHERE WHAT IT READS IS OF BULK AT MOST 1048576: true; the input reads as it did. -/
def diffTouchesUptoRow : OpenClaim := { program := "ytdlhckmdllfamaa", sum := "ae1638d1c806aeb34ac77066fb9ac4e9eb469a86ffbc5ec6be375ac8772699d3", func := "interleaf/interleaflaw13.DiffTouches", spec := "diffTouches", inPlace := ["slices.overlaps[interleaf/api.Elem]"], unfollowed := true, recurses := true, apart := false, narrowed := true }
def DiffTouchesUptoSaid : Prop := diffTouchesUptoRow.holds Try.pinned (OpenSpec.upto diffTouchesSpec)

/-- 'interleaflaw13.DiffTurned', WHERE WHAT IT READS IS OF BULK AT MOST 1048576: true; the input reads as it did. -/
def diffTurnedUptoRow : OpenClaim := { program := "ytdlhckmdllfamaa", sum := "ae1638d1c806aeb34ac77066fb9ac4e9eb469a86ffbc5ec6be375ac8772699d3", func := "interleaf/interleaflaw13.DiffTurned", spec := "diffTurned", inPlace := ["slices.overlaps[interleaf/api.Elem]"], unfollowed := true, recurses := true, apart := false, narrowed := true }
def DiffTurnedUptoSaid : Prop := diffTurnedUptoRow.holds Try.pinned (OpenSpec.upto diffTurnedSpec)

end Rows
end Go.Proofs.Ytdlhckmdllfamaa
