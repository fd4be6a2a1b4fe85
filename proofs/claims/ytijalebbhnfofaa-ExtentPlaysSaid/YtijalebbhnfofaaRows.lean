/-
  No cell of these rows narrows 'for every input' (looked for: loops, veiled, ifaces, maps, wideKeys, modest, calm, conditions, laid).
  DERIVED. THE GIVEN ROWS OF THIS SEAT. 5 by the template 'for every input the law returns true; each argument reads behind the call as it read before'; 0 by the template 'total and deterministic' (their statements: YtijalebbhnfofaaTotals.lean).
  GIVEN WITH THE SEED: the statements are not yours to turn. If you find one false, say at which input.
  Laid BY PROGRAM, IN A SANDBOX (cutbox-rows.mjs): the forced cells as the released guide's own fill.sh prints them over the translation 708dba80382ecb3b… (all of the seat's roots in one cut). By AI agents, Wed Nov 11 2026. No macro, syntax, notation, axiom, sorry.
-/
import Derived.Test.YtijalebbhnfofaaChecked
import GoSem.Claim
import GoSem.ClaimJoined
import GoSem.ClaimMapViews
import Derived.JoinedTies
import Derived.KernelRfl
namespace Go.Proofs.Ytijalebbhnfofaa
/- THE CELL 'sum', in the pinned program and in every row, IS THE sha256 OF THE DUMP (.gsa) THAT YtijalebbhnfofaaProg.lean LOADS. Nothing in Lean hashes anything: it is a label: what it is worth is what the hold of that sum in a sandbox is worth. -/
noncomputable def Try.pinned : Pinned := { name := "ytijalebbhnfofaa", sum := "708dba80382ecb3b968cc4f071f3be19dd5bb197d2f883b36c06ec70307ad130", checked := Try.checked }
namespace Rows
def none {H : Type} : Left H := { results := [], args := [] }

/-- 'interleaflaw06.ExtentFills': WHATEVER THE INPUT: true; the input reads as it did. -/
def extentFillsSpec : ChangeSpec := { name := "extentFills", fn := fun _ => fun
  | [d1, d2] => { results := [.lit (.bool true)], args := [d1, d2] }
  | _ => none }
def extentFillsRow : OpenClaim := { program := "ytijalebbhnfofaa", sum := "708dba80382ecb3b968cc4f071f3be19dd5bb197d2f883b36c06ec70307ad130", func := "interleaf/interleaflaw06.ExtentFills", spec := "extentFills", apart := false }
def ExtentFillsSaid : Prop := extentFillsRow.holds Try.pinned (OpenSpec.ofChange extentFillsSpec)

/-- ITS FALSE NEIGHBOUR: 'it returns false'. Refute it at one input. -/
def extentFillsWrong : ChangeSpec := { name := "extentFills", fn := fun _ => fun
  | [d1, d2] => { results := [.lit (.bool false)], args := [d1, d2] }
  | _ => none }
def ExtentFillsWrongFalsely : Prop := extentFillsRow.holds Try.pinned (OpenSpec.ofChange extentFillsWrong)

/-- 'interleaflaw06.ExtentHoles': WHATEVER THE INPUT: true; the input reads as it did. -/
def extentHolesSpec : ChangeSpec := { name := "extentHoles", fn := fun _ => fun
  | [d1, d2] => { results := [.lit (.bool true)], args := [d1, d2] }
  | _ => none }
def extentHolesRow : OpenClaim := { program := "ytijalebbhnfofaa", sum := "708dba80382ecb3b968cc4f071f3be19dd5bb197d2f883b36c06ec70307ad130", func := "interleaf/interleaflaw06.ExtentHoles", spec := "extentHoles", apart := false }
def ExtentHolesSaid : Prop := extentHolesRow.holds Try.pinned (OpenSpec.ofChange extentHolesSpec)

/-- ITS FALSE NEIGHBOUR: 'it returns false'. Refute it at one input. -/
def extentHolesWrong : ChangeSpec := { name := "extentHoles", fn := fun _ => fun
  | [d1, d2] => { results := [.lit (.bool false)], args := [d1, d2] }
  | _ => none }
def ExtentHolesWrongFalsely : Prop := extentHolesRow.holds Try.pinned (OpenSpec.ofChange extentHolesWrong)

/-- 'interleaflaw06.ExtentBack': WHATEVER THE INPUT: true; the input reads as it did. -/
def extentBackSpec : ChangeSpec := { name := "extentBack", fn := fun _ => fun
  | [d1, d2] => { results := [.lit (.bool true)], args := [d1, d2] }
  | _ => none }
def extentBackRow : OpenClaim := { program := "ytijalebbhnfofaa", sum := "708dba80382ecb3b968cc4f071f3be19dd5bb197d2f883b36c06ec70307ad130", func := "interleaf/interleaflaw06.ExtentBack", spec := "extentBack", apart := false }
def ExtentBackSaid : Prop := extentBackRow.holds Try.pinned (OpenSpec.ofChange extentBackSpec)

/-- ITS FALSE NEIGHBOUR: 'it returns false'. Refute it at one input. -/
def extentBackWrong : ChangeSpec := { name := "extentBack", fn := fun _ => fun
  | [d1, d2] => { results := [.lit (.bool false)], args := [d1, d2] }
  | _ => none }
def ExtentBackWrongFalsely : Prop := extentBackRow.holds Try.pinned (OpenSpec.ofChange extentBackWrong)

/-- 'interleaflaw06.ExtentPlays': WHATEVER THE INPUT: true; the input reads as it did. -/
def extentPlaysSpec : ChangeSpec := { name := "extentPlays", fn := fun _ => fun
  | [d1, d2] => { results := [.lit (.bool true)], args := [d1, d2] }
  | _ => none }
def extentPlaysRow : OpenClaim := { program := "ytijalebbhnfofaa", sum := "708dba80382ecb3b968cc4f071f3be19dd5bb197d2f883b36c06ec70307ad130", func := "interleaf/interleaflaw06.ExtentPlays", spec := "extentPlays", apart := false }
def ExtentPlaysSaid : Prop := extentPlaysRow.holds Try.pinned (OpenSpec.ofChange extentPlaysSpec)

/-- ITS FALSE NEIGHBOUR: 'it returns false'. Refute it at one input. -/
def extentPlaysWrong : ChangeSpec := { name := "extentPlays", fn := fun _ => fun
  | [d1, d2] => { results := [.lit (.bool false)], args := [d1, d2] }
  | _ => none }
def ExtentPlaysWrongFalsely : Prop := extentPlaysRow.holds Try.pinned (OpenSpec.ofChange extentPlaysWrong)

/-- 'interleaflaw06.ExtentNil': WHATEVER THE INPUT: true; the input reads as it did. -/
def extentNilSpec : ChangeSpec := { name := "extentNil", fn := fun _ => fun
  | [d1, d2] => { results := [.lit (.bool true)], args := [d1, d2] }
  | _ => none }
def extentNilRow : OpenClaim := { program := "ytijalebbhnfofaa", sum := "708dba80382ecb3b968cc4f071f3be19dd5bb197d2f883b36c06ec70307ad130", func := "interleaf/interleaflaw06.ExtentNil", spec := "extentNil", apart := false }
def ExtentNilSaid : Prop := extentNilRow.holds Try.pinned (OpenSpec.ofChange extentNilSpec)

/-- ITS FALSE NEIGHBOUR: 'it returns false'. Refute it at one input. -/
def extentNilWrong : ChangeSpec := { name := "extentNil", fn := fun _ => fun
  | [d1, d2] => { results := [.lit (.bool false)], args := [d1, d2] }
  | _ => none }
def ExtentNilWrongFalsely : Prop := extentNilRow.holds Try.pinned (OpenSpec.ofChange extentNilWrong)

/- THE SECOND FORM. 'bulk': how many values and letters a reading holds, each counted each time it is reached (what is shared counts as often as it is met; a slice's spare places count too). A statement '..UptoSaid' is the law's where the arguments, and the package variables that the reading takes, are together of bulk at most 1048576: NARROWER than '..Said'. Prove '..Said' where nothing that the law and all that it calls make is longer than what came in: it says more and counts as full. Else prove '..UptoSaid'. A law counts once. -/
mutual
def uptoBulk {H : Type} : DataW H → Nat
  | .lit (.string bytes) => bytes.length + 1
  | .lit _ => 1
  | .nil => 1
  | .ptr d => uptoBulk d + 1
  | .slice elems spare => uptoBulkAll elems + uptoBulkAll spare + 1
  | .agg parts => uptoBulkAll parts + 1
  | .iface _ d => uptoBulk d + 1
  | .map entries => uptoBulkEntries entries + 1
  | .held _ => 1
def uptoBulkAll {H : Type} : List (DataW H) → Nat
  | [] => 0
  | d :: r => uptoBulk d + uptoBulkAll r
def uptoBulkEntries {H : Type} : List (Lit × DataW H) → Nat
  | [] => 0
  | x :: r => uptoBulkEntry x + uptoBulkEntries r
def uptoBulkEntry {H : Type} : Lit × DataW H → Nat
  | (.string bytes, d) => bytes.length + uptoBulk d + 1
  | (_, d) => uptoBulk d + 1
 end
def uptoSmall : (H : Type) → List (DataW H) → Bool := fun _ ds => decide (uptoBulkAll ds ≤ 1048576)
def OpenSpec.upto (s : _root_.Go.ChangeSpec) : _root_.Go.OpenSpec := { _root_.Go.OpenSpec.ofChange s with cond := some uptoSmall }

/-- 'interleaflaw06.ExtentFills', WHERE WHAT IT READS IS OF BULK AT MOST 1048576: true; the input reads as it did. -/
def extentFillsUptoRow : OpenClaim := { program := "ytijalebbhnfofaa", sum := "708dba80382ecb3b968cc4f071f3be19dd5bb197d2f883b36c06ec70307ad130", func := "interleaf/interleaflaw06.ExtentFills", spec := "extentFills", apart := false, narrowed := true }
def ExtentFillsUptoSaid : Prop := extentFillsUptoRow.holds Try.pinned (OpenSpec.upto extentFillsSpec)

/-- 'interleaflaw06.ExtentHoles', WHERE WHAT IT READS IS OF BULK AT MOST 1048576: true; the input reads as it did. -/
def extentHolesUptoRow : OpenClaim := { program := "ytijalebbhnfofaa", sum := "708dba80382ecb3b968cc4f071f3be19dd5bb197d2f883b36c06ec70307ad130", func := "interleaf/interleaflaw06.ExtentHoles", spec := "extentHoles", apart := false, narrowed := true }
def ExtentHolesUptoSaid : Prop := extentHolesUptoRow.holds Try.pinned (OpenSpec.upto extentHolesSpec)

/-- 'interleaflaw06.ExtentBack', WHERE WHAT IT READS IS OF BULK AT MOST 1048576: true; the input reads as it did. -/
def extentBackUptoRow : OpenClaim := { program := "ytijalebbhnfofaa", sum := "708dba80382ecb3b968cc4f071f3be19dd5bb197d2f883b36c06ec70307ad130", func := "interleaf/interleaflaw06.ExtentBack", spec := "extentBack", apart := false, narrowed := true }
def ExtentBackUptoSaid : Prop := extentBackUptoRow.holds Try.pinned (OpenSpec.upto extentBackSpec)

/-- 'interleaflaw06.ExtentPlays', WHERE WHAT IT READS IS OF BULK AT MOST 1048576: true; the input reads as it did. -/
def extentPlaysUptoRow : OpenClaim := { program := "ytijalebbhnfofaa", sum := "708dba80382ecb3b968cc4f071f3be19dd5bb197d2f883b36c06ec70307ad130", func := "interleaf/interleaflaw06.ExtentPlays", spec := "extentPlays", apart := false, narrowed := true }
def ExtentPlaysUptoSaid : Prop := extentPlaysUptoRow.holds Try.pinned (OpenSpec.upto extentPlaysSpec)

/-- 'interleaflaw06.ExtentNil', WHERE WHAT IT READS IS OF BULK AT MOST 1048576: true; the input reads as it did. -/
def extentNilUptoRow : OpenClaim := { program := "ytijalebbhnfofaa", sum := "708dba80382ecb3b968cc4f071f3be19dd5bb197d2f883b36c06ec70307ad130", func := "interleaf/interleaflaw06.ExtentNil", spec := "extentNil", apart := false, narrowed := true }
def ExtentNilUptoSaid : Prop := extentNilUptoRow.holds Try.pinned (OpenSpec.upto extentNilSpec)

end Rows
end Go.Proofs.Ytijalebbhnfofaa
