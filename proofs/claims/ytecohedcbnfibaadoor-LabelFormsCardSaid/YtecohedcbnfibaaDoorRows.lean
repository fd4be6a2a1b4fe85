/-
  NARROWER THAN 'FOR EVERY INPUT', by the rows' own cells (each row's printed sentence says how): LabelRights: laid · LabelForms: laid · LabelNil: laid · LabelFull: laid · LabelBytes: laid · LabelPlays: laid.
  DERIVED. THE GIVEN ROWS OF THIS SEAT. 6 by the template 'for every input the law returns true; each argument reads behind the call as it read before'; 0 by the template 'total and deterministic' (their statements: YtecohedcbnfibaaDoorTotals.lean).
  GIVEN WITH THE SEED: the statements are not yours to turn. If you find one false, say at which input.
  Laid BY PROGRAM, IN A SANDBOX (cutbox-rows.mjs): the forced cells as the released guide's own fill.sh prints them over the translation e62a4772c6219f6f… (all of the seat's roots in one cut). By AI agents, Wed Nov 11 2026. No macro, syntax, notation, axiom, sorry.
-/
import Derived.Test.YtecohedcbnfibaaDoorChecked
import GoSem.Claim
import GoSem.ClaimJoined
import GoSem.ClaimMapViews
import Derived.JoinedTies
import Derived.KernelRfl
namespace Go.Proofs.YtecohedcbnfibaaDoor
/- THE CELL 'sum', in the pinned program and in every row, IS THE sha256 OF THE DUMP (.gsa) THAT YtecohedcbnfibaaDoorProg.lean LOADS. Nothing in Lean hashes anything: it is a label: what it is worth is what the hold of that sum in a sandbox is worth. -/
noncomputable def Tryd.pinned : Pinned := { name := "ytecohedcbnfibaadoor", sum := "e62a4772c6219f6f6710163f9af67f5af217403113a099702effff659fa3ecee", checked := Tryd.checked }
namespace Rows
def none {H : Type} : Left H := { results := [], args := [] }

/- WHAT THE LISTED PACKAGE-LEVEL VARIABLES READ AS WHEN THE CALL BEGINS. Each datum BY PROGRAM (the guide's laid-datum.mjs) off the statement by which the dump's own 'gosem.cut.vars' lays the variable. In a bare row this is a premise. The card (YtecohedcbnfibaaDoorCards.lean) ties it to the program's text. -/
def laid_interleaf_check_lines {H : Type} : DataW H := .agg [.lit (.int .u32 0), .lit (.int .u32 274646895), .lit (.int .u32 549293790), .lit (.int .u32 820201905), .lit (.int .u32 1098587580), .lit (.int .u32 1361435347), .lit (.int .u32 1640403810), .lit (.int .u32 1905808397), .lit (.int .u32 2197175160), .lit (.int .u32 2460548119), .lit (.int .u32 2722870694), .lit (.int .u32 2987750089), .lit (.int .u32 3280807620), .lit (.int .u32 3553878443), .lit (.int .u32 3811616794), .lit (.int .u32 4084100981)]

/-- 'interleaflaw08.LabelRights': WHATEVER THE INPUT: true; the input reads as it did. -/
def labelRightsSpec : ChangeSpec := { name := "labelRights", fn := fun _ => fun
  | [d] => { results := [.lit (.bool true)], args := [d] }
  | _ => none }
def labelRightsRow : OpenClaim := { program := "ytecohedcbnfibaadoor", sum := "e62a4772c6219f6f6710163f9af67f5af217403113a099702effff659fa3ecee", func := "interleaf/interleaflaw08.LabelRights", spec := "labelRights", inPlace := ["internal/bytealg.abigen_runtime_cmpstring"], unfollowed := true, recurses := true, named := ["interleaf/check.lines"], apart := false, laid := [("interleaf/check.lines", laid_interleaf_check_lines)] }
def LabelRightsSaid : Prop := labelRightsRow.holds Tryd.pinned (OpenSpec.ofChange labelRightsSpec)

/-- ITS FALSE NEIGHBOUR: 'it returns false'. Refute it at one input. -/
def labelRightsWrong : ChangeSpec := { name := "labelRights", fn := fun _ => fun
  | [d] => { results := [.lit (.bool false)], args := [d] }
  | _ => none }
def LabelRightsWrongFalsely : Prop := labelRightsRow.holds Tryd.pinned (OpenSpec.ofChange labelRightsWrong)

/-- 'interleaflaw08.LabelForms': WHATEVER THE INPUT: true; the input reads as it did. -/
def labelFormsSpec : ChangeSpec := { name := "labelForms", fn := fun _ => fun
  | [d1, d2, d3, d4, d5] => { results := [.lit (.bool true)], args := [d1, d2, d3, d4, d5] }
  | _ => none }
def labelFormsRow : OpenClaim := { program := "ytecohedcbnfibaadoor", sum := "e62a4772c6219f6f6710163f9af67f5af217403113a099702effff659fa3ecee", func := "interleaf/interleaflaw08.LabelForms", spec := "labelForms", inPlace := ["internal/bytealg.abigen_runtime_cmpstring"], unfollowed := true, recurses := true, named := ["interleaf/check.lines"], apart := false, laid := [("interleaf/check.lines", laid_interleaf_check_lines)] }
def LabelFormsSaid : Prop := labelFormsRow.holds Tryd.pinned (OpenSpec.ofChange labelFormsSpec)

/-- ITS FALSE NEIGHBOUR: 'it returns false'. Refute it at one input. -/
def labelFormsWrong : ChangeSpec := { name := "labelForms", fn := fun _ => fun
  | [d1, d2, d3, d4, d5] => { results := [.lit (.bool false)], args := [d1, d2, d3, d4, d5] }
  | _ => none }
def LabelFormsWrongFalsely : Prop := labelFormsRow.holds Tryd.pinned (OpenSpec.ofChange labelFormsWrong)

/-- 'interleaflaw08.LabelNil': WHATEVER THE INPUT: true; the input reads as it did. -/
def labelNilSpec : ChangeSpec := { name := "labelNil", fn := fun _ => fun
  | [d1, d2, d3] => { results := [.lit (.bool true)], args := [d1, d2, d3] }
  | _ => none }
def labelNilRow : OpenClaim := { program := "ytecohedcbnfibaadoor", sum := "e62a4772c6219f6f6710163f9af67f5af217403113a099702effff659fa3ecee", func := "interleaf/interleaflaw08.LabelNil", spec := "labelNil", inPlace := ["internal/bytealg.abigen_runtime_cmpstring"], unfollowed := true, recurses := true, named := ["interleaf/check.lines"], apart := false, laid := [("interleaf/check.lines", laid_interleaf_check_lines)] }
def LabelNilSaid : Prop := labelNilRow.holds Tryd.pinned (OpenSpec.ofChange labelNilSpec)

/-- ITS FALSE NEIGHBOUR: 'it returns false'. Refute it at one input. -/
def labelNilWrong : ChangeSpec := { name := "labelNil", fn := fun _ => fun
  | [d1, d2, d3] => { results := [.lit (.bool false)], args := [d1, d2, d3] }
  | _ => none }
def LabelNilWrongFalsely : Prop := labelNilRow.holds Tryd.pinned (OpenSpec.ofChange labelNilWrong)

/-- 'interleaflaw08.LabelFull': WHATEVER THE INPUT: true; the input reads as it did. -/
def labelFullSpec : ChangeSpec := { name := "labelFull", fn := fun _ => fun
  | [d] => { results := [.lit (.bool true)], args := [d] }
  | _ => none }
def labelFullRow : OpenClaim := { program := "ytecohedcbnfibaadoor", sum := "e62a4772c6219f6f6710163f9af67f5af217403113a099702effff659fa3ecee", func := "interleaf/interleaflaw08.LabelFull", spec := "labelFull", inPlace := ["internal/bytealg.abigen_runtime_cmpstring"], unfollowed := true, recurses := true, named := ["interleaf/check.lines"], apart := false, laid := [("interleaf/check.lines", laid_interleaf_check_lines)] }
def LabelFullSaid : Prop := labelFullRow.holds Tryd.pinned (OpenSpec.ofChange labelFullSpec)

/-- ITS FALSE NEIGHBOUR: 'it returns false'. Refute it at one input. -/
def labelFullWrong : ChangeSpec := { name := "labelFull", fn := fun _ => fun
  | [d] => { results := [.lit (.bool false)], args := [d] }
  | _ => none }
def LabelFullWrongFalsely : Prop := labelFullRow.holds Tryd.pinned (OpenSpec.ofChange labelFullWrong)

/-- 'interleaflaw08.LabelBytes': WHATEVER THE INPUT: true; the input reads as it did. -/
def labelBytesSpec : ChangeSpec := { name := "labelBytes", fn := fun _ => fun
  | [d1, d2, d3] => { results := [.lit (.bool true)], args := [d1, d2, d3] }
  | _ => none }
def labelBytesRow : OpenClaim := { program := "ytecohedcbnfibaadoor", sum := "e62a4772c6219f6f6710163f9af67f5af217403113a099702effff659fa3ecee", func := "interleaf/interleaflaw08.LabelBytes", spec := "labelBytes", inPlace := ["internal/bytealg.abigen_runtime_cmpstring"], unfollowed := true, recurses := true, named := ["interleaf/check.lines"], apart := false, laid := [("interleaf/check.lines", laid_interleaf_check_lines)] }
def LabelBytesSaid : Prop := labelBytesRow.holds Tryd.pinned (OpenSpec.ofChange labelBytesSpec)

/-- ITS FALSE NEIGHBOUR: 'it returns false'. Refute it at one input. -/
def labelBytesWrong : ChangeSpec := { name := "labelBytes", fn := fun _ => fun
  | [d1, d2, d3] => { results := [.lit (.bool false)], args := [d1, d2, d3] }
  | _ => none }
def LabelBytesWrongFalsely : Prop := labelBytesRow.holds Tryd.pinned (OpenSpec.ofChange labelBytesWrong)

/-- 'interleaflaw08.LabelPlays': WHATEVER THE INPUT: true; the input reads as it did. -/
def labelPlaysSpec : ChangeSpec := { name := "labelPlays", fn := fun _ => fun
  | [d] => { results := [.lit (.bool true)], args := [d] }
  | _ => none }
def labelPlaysRow : OpenClaim := { program := "ytecohedcbnfibaadoor", sum := "e62a4772c6219f6f6710163f9af67f5af217403113a099702effff659fa3ecee", func := "interleaf/interleaflaw08.LabelPlays", spec := "labelPlays", inPlace := ["internal/bytealg.abigen_runtime_cmpstring"], unfollowed := true, recurses := true, named := ["interleaf/check.lines"], apart := false, laid := [("interleaf/check.lines", laid_interleaf_check_lines)] }
def LabelPlaysSaid : Prop := labelPlaysRow.holds Tryd.pinned (OpenSpec.ofChange labelPlaysSpec)

/-- ITS FALSE NEIGHBOUR: 'it returns false'. Refute it at one input. -/
def labelPlaysWrong : ChangeSpec := { name := "labelPlays", fn := fun _ => fun
  | [d] => { results := [.lit (.bool false)], args := [d] }
  | _ => none }
def LabelPlaysWrongFalsely : Prop := labelPlaysRow.holds Tryd.pinned (OpenSpec.ofChange labelPlaysWrong)

/- THE SECOND FORM. 'bulk': how many values and letters a reading holds, each counted each time it is reached (what is shared counts as often as it is met; a slice's spare places count too). A statement '..UptoSaid' is the law's where the arguments, and the package variables that the reading takes, are together of bulk at most 1048576: NARROWER than '..Said'. Prove '..Said' where nothing that the law and all that it calls make is longer than what came in: it says more and counts as full. Else prove '..UptoSaid'. A law counts once. -/
mutual
def uptoBulk {H : Type} : DataW H → Nat
  | .lit (.string bytes) => bytes.length + 1
  | .lit _ => 1
  | .nil => 1
  | .ptr d => uptoBulk d + 1
  | .slice elems spare => uptoBulkAll elems + uptoBulkAll spare + 1
  | .agg parts => uptoBulkAll parts + 1
  | .iface _ d => uptoBulk d + 1
  | .map entries => uptoBulkEntries entries + 1
  | .held _ => 1
def uptoBulkAll {H : Type} : List (DataW H) → Nat
  | [] => 0
  | d :: r => uptoBulk d + uptoBulkAll r
def uptoBulkEntries {H : Type} : List (Lit × DataW H) → Nat
  | [] => 0
  | x :: r => uptoBulkEntry x + uptoBulkEntries r
def uptoBulkEntry {H : Type} : Lit × DataW H → Nat
  | (.string bytes, d) => bytes.length + uptoBulk d + 1
  | (_, d) => uptoBulk d + 1
 end
def uptoSmall : (H : Type) → List (DataW H) → Bool := fun _ ds => decide (uptoBulkAll ds ≤ 1048576)
def OpenSpec.upto (s : _root_.Go.ChangeSpec) : _root_.Go.OpenSpec := { _root_.Go.OpenSpec.ofChange s with cond := some uptoSmall }

/-- 'interleaflaw08.LabelRights', WHERE WHAT IT READS IS OF BULK AT MOST 1048576: true; the input reads as it did. -/
def labelRightsUptoRow : OpenClaim := { program := "ytecohedcbnfibaadoor", sum := "e62a4772c6219f6f6710163f9af67f5af217403113a099702effff659fa3ecee", func := "interleaf/interleaflaw08.LabelRights", spec := "labelRights", inPlace := ["internal/bytealg.abigen_runtime_cmpstring"], unfollowed := true, recurses := true, named := ["interleaf/check.lines"], apart := false, laid := [("interleaf/check.lines", laid_interleaf_check_lines)], narrowed := true }
def LabelRightsUptoSaid : Prop := labelRightsUptoRow.holds Tryd.pinned (OpenSpec.upto labelRightsSpec)

/-- 'interleaflaw08.LabelForms', WHERE WHAT IT READS IS OF BULK AT MOST 1048576: true; the input reads as it did. -/
def labelFormsUptoRow : OpenClaim := { program := "ytecohedcbnfibaadoor", sum := "e62a4772c6219f6f6710163f9af67f5af217403113a099702effff659fa3ecee", func := "interleaf/interleaflaw08.LabelForms", spec := "labelForms", inPlace := ["internal/bytealg.abigen_runtime_cmpstring"], unfollowed := true, recurses := true, named := ["interleaf/check.lines"], apart := false, laid := [("interleaf/check.lines", laid_interleaf_check_lines)], narrowed := true }
def LabelFormsUptoSaid : Prop := labelFormsUptoRow.holds Tryd.pinned (OpenSpec.upto labelFormsSpec)

/-- 'interleaflaw08.LabelNil', WHERE WHAT IT READS IS OF BULK AT MOST 1048576: true; the input reads as it did. -/
def labelNilUptoRow : OpenClaim := { program := "ytecohedcbnfibaadoor", sum := "e62a4772c6219f6f6710163f9af67f5af217403113a099702effff659fa3ecee", func := "interleaf/interleaflaw08.LabelNil", spec := "labelNil", inPlace := ["internal/bytealg.abigen_runtime_cmpstring"], unfollowed := true, recurses := true, named := ["interleaf/check.lines"], apart := false, laid := [("interleaf/check.lines", laid_interleaf_check_lines)], narrowed := true }
def LabelNilUptoSaid : Prop := labelNilUptoRow.holds Tryd.pinned (OpenSpec.upto labelNilSpec)

/-- 'interleaflaw08.LabelFull', WHERE WHAT IT READS IS OF BULK AT MOST 1048576: true; the input reads as it did. -/
def labelFullUptoRow : OpenClaim := { program := "ytecohedcbnfibaadoor", sum := "e62a4772c6219f6f6710163f9af67f5af217403113a099702effff659fa3ecee", func := "interleaf/interleaflaw08.LabelFull", spec := "labelFull", inPlace := ["internal/bytealg.abigen_runtime_cmpstring"], unfollowed := true, recurses := true, named := ["interleaf/check.lines"], apart := false, laid := [("interleaf/check.lines", laid_interleaf_check_lines)], narrowed := true }
def LabelFullUptoSaid : Prop := labelFullUptoRow.holds Tryd.pinned (OpenSpec.upto labelFullSpec)

/-- 'interleaflaw08.LabelBytes', WHERE WHAT IT READS IS OF BULK AT MOST 1048576: true; the input reads as it did. -/
def labelBytesUptoRow : OpenClaim := { program := "ytecohedcbnfibaadoor", sum := "e62a4772c6219f6f6710163f9af67f5af217403113a099702effff659fa3ecee", func := "interleaf/interleaflaw08.LabelBytes", spec := "labelBytes", inPlace := ["internal/bytealg.abigen_runtime_cmpstring"], unfollowed := true, recurses := true, named := ["interleaf/check.lines"], apart := false, laid := [("interleaf/check.lines", laid_interleaf_check_lines)], narrowed := true }
def LabelBytesUptoSaid : Prop := labelBytesUptoRow.holds Tryd.pinned (OpenSpec.upto labelBytesSpec)

/-- 'interleaflaw08.LabelPlays', WHERE WHAT IT READS IS OF BULK AT MOST 1048576: true; the input reads as it did. -/
def labelPlaysUptoRow : OpenClaim := { program := "ytecohedcbnfibaadoor", sum := "e62a4772c6219f6f6710163f9af67f5af217403113a099702effff659fa3ecee", func := "interleaf/interleaflaw08.LabelPlays", spec := "labelPlays", inPlace := ["internal/bytealg.abigen_runtime_cmpstring"], unfollowed := true, recurses := true, named := ["interleaf/check.lines"], apart := false, laid := [("interleaf/check.lines", laid_interleaf_check_lines)], narrowed := true }
def LabelPlaysUptoSaid : Prop := labelPlaysUptoRow.holds Tryd.pinned (OpenSpec.upto labelPlaysSpec)

end Rows
end Go.Proofs.YtecohedcbnfibaaDoor
