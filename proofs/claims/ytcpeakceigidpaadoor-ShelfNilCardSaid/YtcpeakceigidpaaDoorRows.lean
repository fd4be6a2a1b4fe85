/-
  NARROWER THAN 'FOR EVERY INPUT', by the rows' own cells (each row's printed sentence says how): ShelfBytes: laid · ShelfFull: laid · ShelfForms: laid · ShelfOnce: laid · ShelfKeys: laid · ShelfSettles: laid · ShelfNil: laid.
  DERIVED. THE GIVEN ROWS OF THIS SEAT. 7 by the template 'for every input the law returns true; each argument reads behind the call as it read before'; 0 by the template 'total and deterministic' (their statements: YtcpeakceigidpaaDoorTotals.lean).
  GIVEN WITH THE SEED: the statements are not yours to turn. If you find one false, say at which input.
  Laid BY PROGRAM, IN A SANDBOX (cutbox-rows.mjs): the forced cells as the released guide's own fill.sh prints them over the translation f10d82dec28a682a… (all of the seat's roots in one cut). By AI agents, Wed Nov 11 2026. No macro, syntax, notation, axiom, sorry.
-/
import Derived.Test.YtcpeakceigidpaaDoorChecked
import GoSem.Claim
import GoSem.ClaimJoined
import GoSem.ClaimMapViews
import Derived.JoinedTies
import Derived.KernelRfl
namespace Go.Proofs.YtcpeakceigidpaaDoor
/- THE CELL 'sum', in the pinned program and in every row, IS THE sha256 OF THE DUMP (.gsa) THAT YtcpeakceigidpaaDoorProg.lean LOADS. Nothing in Lean hashes anything: it is a label: what it is worth is what the hold of that sum in a sandbox is worth. -/
noncomputable def Tryd.pinned : Pinned := { name := "ytcpeakceigidpaadoor", sum := "f10d82dec28a682ac6c66bc8fb11cce641d52e4abaf8fe49684164dc83104fa6", checked := Tryd.checked }
namespace Rows
def none {H : Type} : Left H := { results := [], args := [] }

/- WHAT THE LISTED PACKAGE-LEVEL VARIABLES READ AS WHEN THE CALL BEGINS. Each datum BY PROGRAM (the guide's laid-datum.mjs) off the statement by which the dump's own 'gosem.cut.vars' lays the variable. In a bare row this is a premise. The card (YtcpeakceigidpaaDoorCards.lean) ties it to the program's text. -/
def laid_interleaf_check_lines {H : Type} : DataW H := .agg [.lit (.int .u32 0), .lit (.int .u32 274646895), .lit (.int .u32 549293790), .lit (.int .u32 820201905), .lit (.int .u32 1098587580), .lit (.int .u32 1361435347), .lit (.int .u32 1640403810), .lit (.int .u32 1905808397), .lit (.int .u32 2197175160), .lit (.int .u32 2460548119), .lit (.int .u32 2722870694), .lit (.int .u32 2987750089), .lit (.int .u32 3280807620), .lit (.int .u32 3553878443), .lit (.int .u32 3811616794), .lit (.int .u32 4084100981)]
def laid_interleaf_stamp_parts {H : Type} : DataW H := .agg [.lit (.int .u32 1116352408), .lit (.int .u32 1899447441), .lit (.int .u32 3049323471), .lit (.int .u32 3921009573), .lit (.int .u32 961987163), .lit (.int .u32 1508970993), .lit (.int .u32 2453635748), .lit (.int .u32 2870763221), .lit (.int .u32 3624381080), .lit (.int .u32 310598401), .lit (.int .u32 607225278), .lit (.int .u32 1426881987), .lit (.int .u32 1925078388), .lit (.int .u32 2162078206), .lit (.int .u32 2614888103), .lit (.int .u32 3248222580), .lit (.int .u32 3835390401), .lit (.int .u32 4022224774), .lit (.int .u32 264347078), .lit (.int .u32 604807628), .lit (.int .u32 770255983), .lit (.int .u32 1249150122), .lit (.int .u32 1555081692), .lit (.int .u32 1996064986), .lit (.int .u32 2554220882), .lit (.int .u32 2821834349), .lit (.int .u32 2952996808), .lit (.int .u32 3210313671), .lit (.int .u32 3336571891), .lit (.int .u32 3584528711), .lit (.int .u32 113926993), .lit (.int .u32 338241895), .lit (.int .u32 666307205), .lit (.int .u32 773529912), .lit (.int .u32 1294757372), .lit (.int .u32 1396182291), .lit (.int .u32 1695183700), .lit (.int .u32 1986661051), .lit (.int .u32 2177026350), .lit (.int .u32 2456956037), .lit (.int .u32 2730485921), .lit (.int .u32 2820302411), .lit (.int .u32 3259730800), .lit (.int .u32 3345764771), .lit (.int .u32 3516065817), .lit (.int .u32 3600352804), .lit (.int .u32 4094571909), .lit (.int .u32 275423344), .lit (.int .u32 430227734), .lit (.int .u32 506948616), .lit (.int .u32 659060556), .lit (.int .u32 883997877), .lit (.int .u32 958139571), .lit (.int .u32 1322822218), .lit (.int .u32 1537002063), .lit (.int .u32 1747873779), .lit (.int .u32 1955562222), .lit (.int .u32 2024104815), .lit (.int .u32 2227730452), .lit (.int .u32 2361852424), .lit (.int .u32 2428436474), .lit (.int .u32 2756734187), .lit (.int .u32 3204031479), .lit (.int .u32 3329325298)]
def laid_interleaf_stamp_first {H : Type} : DataW H := .agg [.lit (.int .u32 1779033703), .lit (.int .u32 3144134277), .lit (.int .u32 1013904242), .lit (.int .u32 2773480762), .lit (.int .u32 1359893119), .lit (.int .u32 2600822924), .lit (.int .u32 528734635), .lit (.int .u32 1541459225)]

/-- 'interleaflaw07.ShelfBytes': WHATEVER THE INPUT: true; the input reads as it did. -/
def shelfBytesSpec : ChangeSpec := { name := "shelfBytes", fn := fun _ => fun
  | [d] => { results := [.lit (.bool true)], args := [d] }
  | _ => none }
def shelfBytesRow : OpenClaim := { program := "ytcpeakceigidpaadoor", sum := "f10d82dec28a682ac6c66bc8fb11cce641d52e4abaf8fe49684164dc83104fa6", func := "interleaf/interleaflaw07.ShelfBytes", spec := "shelfBytes", unfollowed := true, recurses := true, named := ["interleaf/check.lines", "interleaf/stamp.first", "interleaf/stamp.parts"], apart := false, laid := [("interleaf/check.lines", laid_interleaf_check_lines), ("interleaf/stamp.parts", laid_interleaf_stamp_parts), ("interleaf/stamp.first", laid_interleaf_stamp_first)] }
def ShelfBytesSaid : Prop := shelfBytesRow.holds Tryd.pinned (OpenSpec.ofChange shelfBytesSpec)

/-- ITS FALSE NEIGHBOUR: 'it returns false'. Refute it at one input. -/
def shelfBytesWrong : ChangeSpec := { name := "shelfBytes", fn := fun _ => fun
  | [d] => { results := [.lit (.bool false)], args := [d] }
  | _ => none }
def ShelfBytesWrongFalsely : Prop := shelfBytesRow.holds Tryd.pinned (OpenSpec.ofChange shelfBytesWrong)

/-- 'interleaflaw07.ShelfFull': WHATEVER THE INPUT: true; the input reads as it did. -/
def shelfFullSpec : ChangeSpec := { name := "shelfFull", fn := fun _ => fun
  | [d1, d2] => { results := [.lit (.bool true)], args := [d1, d2] }
  | _ => none }
def shelfFullRow : OpenClaim := { program := "ytcpeakceigidpaadoor", sum := "f10d82dec28a682ac6c66bc8fb11cce641d52e4abaf8fe49684164dc83104fa6", func := "interleaf/interleaflaw07.ShelfFull", spec := "shelfFull", unfollowed := true, recurses := true, named := ["interleaf/check.lines", "interleaf/stamp.first", "interleaf/stamp.parts"], apart := false, laid := [("interleaf/check.lines", laid_interleaf_check_lines), ("interleaf/stamp.parts", laid_interleaf_stamp_parts), ("interleaf/stamp.first", laid_interleaf_stamp_first)] }
def ShelfFullSaid : Prop := shelfFullRow.holds Tryd.pinned (OpenSpec.ofChange shelfFullSpec)

/-- ITS FALSE NEIGHBOUR: 'it returns false'. Refute it at one input. -/
def shelfFullWrong : ChangeSpec := { name := "shelfFull", fn := fun _ => fun
  | [d1, d2] => { results := [.lit (.bool false)], args := [d1, d2] }
  | _ => none }
def ShelfFullWrongFalsely : Prop := shelfFullRow.holds Tryd.pinned (OpenSpec.ofChange shelfFullWrong)

/-- 'interleaflaw07.ShelfForms': WHATEVER THE INPUT: true; the input reads as it did. -/
def shelfFormsSpec : ChangeSpec := { name := "shelfForms", fn := fun _ => fun
  | [d1, d2, d3, d4, d5] => { results := [.lit (.bool true)], args := [d1, d2, d3, d4, d5] }
  | _ => none }
def shelfFormsRow : OpenClaim := { program := "ytcpeakceigidpaadoor", sum := "f10d82dec28a682ac6c66bc8fb11cce641d52e4abaf8fe49684164dc83104fa6", func := "interleaf/interleaflaw07.ShelfForms", spec := "shelfForms", unfollowed := true, recurses := true, named := ["interleaf/check.lines", "interleaf/stamp.first", "interleaf/stamp.parts"], apart := false, laid := [("interleaf/check.lines", laid_interleaf_check_lines), ("interleaf/stamp.parts", laid_interleaf_stamp_parts), ("interleaf/stamp.first", laid_interleaf_stamp_first)] }
def ShelfFormsSaid : Prop := shelfFormsRow.holds Tryd.pinned (OpenSpec.ofChange shelfFormsSpec)

/-- ITS FALSE NEIGHBOUR: 'it returns false'. Refute it at one input. -/
def shelfFormsWrong : ChangeSpec := { name := "shelfForms", fn := fun _ => fun
  | [d1, d2, d3, d4, d5] => { results := [.lit (.bool false)], args := [d1, d2, d3, d4, d5] }
  | _ => none }
def ShelfFormsWrongFalsely : Prop := shelfFormsRow.holds Tryd.pinned (OpenSpec.ofChange shelfFormsWrong)

/-- 'interleaflaw07.ShelfOnce': WHATEVER THE INPUT: true; the input reads as it did. -/
def shelfOnceSpec : ChangeSpec := { name := "shelfOnce", fn := fun _ => fun
  | [d1, d2] => { results := [.lit (.bool true)], args := [d1, d2] }
  | _ => none }
def shelfOnceRow : OpenClaim := { program := "ytcpeakceigidpaadoor", sum := "f10d82dec28a682ac6c66bc8fb11cce641d52e4abaf8fe49684164dc83104fa6", func := "interleaf/interleaflaw07.ShelfOnce", spec := "shelfOnce", unfollowed := true, recurses := true, named := ["interleaf/check.lines", "interleaf/stamp.first", "interleaf/stamp.parts"], apart := false, laid := [("interleaf/check.lines", laid_interleaf_check_lines), ("interleaf/stamp.parts", laid_interleaf_stamp_parts), ("interleaf/stamp.first", laid_interleaf_stamp_first)] }
def ShelfOnceSaid : Prop := shelfOnceRow.holds Tryd.pinned (OpenSpec.ofChange shelfOnceSpec)

/-- ITS FALSE NEIGHBOUR: 'it returns false'. Refute it at one input. -/
def shelfOnceWrong : ChangeSpec := { name := "shelfOnce", fn := fun _ => fun
  | [d1, d2] => { results := [.lit (.bool false)], args := [d1, d2] }
  | _ => none }
def ShelfOnceWrongFalsely : Prop := shelfOnceRow.holds Tryd.pinned (OpenSpec.ofChange shelfOnceWrong)

/-- 'interleaflaw07.ShelfKeys': WHATEVER THE INPUT: true; the input reads as it did. -/
def shelfKeysSpec : ChangeSpec := { name := "shelfKeys", fn := fun _ => fun
  | [d1, d2] => { results := [.lit (.bool true)], args := [d1, d2] }
  | _ => none }
def shelfKeysRow : OpenClaim := { program := "ytcpeakceigidpaadoor", sum := "f10d82dec28a682ac6c66bc8fb11cce641d52e4abaf8fe49684164dc83104fa6", func := "interleaf/interleaflaw07.ShelfKeys", spec := "shelfKeys", unfollowed := true, recurses := true, named := ["interleaf/check.lines", "interleaf/stamp.first", "interleaf/stamp.parts"], apart := false, laid := [("interleaf/check.lines", laid_interleaf_check_lines), ("interleaf/stamp.parts", laid_interleaf_stamp_parts), ("interleaf/stamp.first", laid_interleaf_stamp_first)] }
def ShelfKeysSaid : Prop := shelfKeysRow.holds Tryd.pinned (OpenSpec.ofChange shelfKeysSpec)

/-- ITS FALSE NEIGHBOUR: 'it returns false'. Refute it at one input. -/
def shelfKeysWrong : ChangeSpec := { name := "shelfKeys", fn := fun _ => fun
  | [d1, d2] => { results := [.lit (.bool false)], args := [d1, d2] }
  | _ => none }
def ShelfKeysWrongFalsely : Prop := shelfKeysRow.holds Tryd.pinned (OpenSpec.ofChange shelfKeysWrong)

/-- 'interleaflaw07.ShelfSettles': WHATEVER THE INPUT: true; the input reads as it did. -/
def shelfSettlesSpec : ChangeSpec := { name := "shelfSettles", fn := fun _ => fun
  | [d1, d2] => { results := [.lit (.bool true)], args := [d1, d2] }
  | _ => none }
def shelfSettlesRow : OpenClaim := { program := "ytcpeakceigidpaadoor", sum := "f10d82dec28a682ac6c66bc8fb11cce641d52e4abaf8fe49684164dc83104fa6", func := "interleaf/interleaflaw07.ShelfSettles", spec := "shelfSettles", unfollowed := true, recurses := true, named := ["interleaf/check.lines", "interleaf/stamp.first", "interleaf/stamp.parts"], apart := false, laid := [("interleaf/check.lines", laid_interleaf_check_lines), ("interleaf/stamp.parts", laid_interleaf_stamp_parts), ("interleaf/stamp.first", laid_interleaf_stamp_first)] }
def ShelfSettlesSaid : Prop := shelfSettlesRow.holds Tryd.pinned (OpenSpec.ofChange shelfSettlesSpec)

/-- ITS FALSE NEIGHBOUR: 'it returns false'. Refute it at one input. -/
def shelfSettlesWrong : ChangeSpec := { name := "shelfSettles", fn := fun _ => fun
  | [d1, d2] => { results := [.lit (.bool false)], args := [d1, d2] }
  | _ => none }
def ShelfSettlesWrongFalsely : Prop := shelfSettlesRow.holds Tryd.pinned (OpenSpec.ofChange shelfSettlesWrong)

/-- 'interleaflaw07.ShelfNil': WHATEVER THE INPUT: true; the input reads as it did. -/
def shelfNilSpec : ChangeSpec := { name := "shelfNil", fn := fun _ => fun
  | [d1, d2, d3] => { results := [.lit (.bool true)], args := [d1, d2, d3] }
  | _ => none }
def shelfNilRow : OpenClaim := { program := "ytcpeakceigidpaadoor", sum := "f10d82dec28a682ac6c66bc8fb11cce641d52e4abaf8fe49684164dc83104fa6", func := "interleaf/interleaflaw07.ShelfNil", spec := "shelfNil", unfollowed := true, recurses := true, named := ["interleaf/check.lines", "interleaf/stamp.first", "interleaf/stamp.parts"], apart := false, laid := [("interleaf/check.lines", laid_interleaf_check_lines), ("interleaf/stamp.parts", laid_interleaf_stamp_parts), ("interleaf/stamp.first", laid_interleaf_stamp_first)] }
def ShelfNilSaid : Prop := shelfNilRow.holds Tryd.pinned (OpenSpec.ofChange shelfNilSpec)

/-- ITS FALSE NEIGHBOUR: 'it returns false'. Refute it at one input. -/
def shelfNilWrong : ChangeSpec := { name := "shelfNil", fn := fun _ => fun
  | [d1, d2, d3] => { results := [.lit (.bool false)], args := [d1, d2, d3] }
  | _ => none }
def ShelfNilWrongFalsely : Prop := shelfNilRow.holds Tryd.pinned (OpenSpec.ofChange shelfNilWrong)

/- THE SECOND FORM. 'bulk': how many values and letters a reading holds, each counted each time it is reached (what is shared counts as often as it is met; a slice's spare places count too). A statement '..UptoSaid' is the law's where the arguments, and the package variables that the reading takes, are together of bulk at most 1048576: NARROWER than '..Said'. Prove '..Said' where nothing that the law and all that it calls make is longer than what came in: it says more and counts as full. Else prove '..UptoSaid'. A law counts once. -/
mutual
def uptoBulk {H : Type} : DataW H → Nat
  | .lit (.string bytes) => bytes.length + 1
  | .lit _ => 1
  | .nil => 1
  | .ptr d => uptoBulk d + 1
  | .slice elems spare => uptoBulkAll elems + uptoBulkAll spare + 1
  | .agg parts => uptoBulkAll parts + 1
  | .iface _ d => uptoBulk d + 1
  | .map entries => uptoBulkEntries entries + 1
  | .held _ => 1
def uptoBulkAll {H : Type} : List (DataW H) → Nat
  | [] => 0
  | d :: r => uptoBulk d + uptoBulkAll r
def uptoBulkEntries {H : Type} : List (Lit × DataW H) → Nat
  | [] => 0
  | x :: r => uptoBulkEntry x + uptoBulkEntries r
def uptoBulkEntry {H : Type} : Lit × DataW H → Nat
  | (.string bytes, d) => bytes.length + uptoBulk d + 1
  | (_, d) => uptoBulk d + 1
 end
def uptoSmall : (H : Type) → List (DataW H) → Bool := fun _ ds => decide (uptoBulkAll ds ≤ 1048576)
def OpenSpec.upto (s : _root_.Go.ChangeSpec) : _root_.Go.OpenSpec := { _root_.Go.OpenSpec.ofChange s with cond := some uptoSmall }

/-- 'interleaflaw07.ShelfBytes', WHERE WHAT IT READS IS OF BULK AT MOST 1048576: true; the input reads as it did. -/
def shelfBytesUptoRow : OpenClaim := { program := "ytcpeakceigidpaadoor", sum := "f10d82dec28a682ac6c66bc8fb11cce641d52e4abaf8fe49684164dc83104fa6", func := "interleaf/interleaflaw07.ShelfBytes", spec := "shelfBytes", unfollowed := true, recurses := true, named := ["interleaf/check.lines", "interleaf/stamp.first", "interleaf/stamp.parts"], apart := false, laid := [("interleaf/check.lines", laid_interleaf_check_lines), ("interleaf/stamp.parts", laid_interleaf_stamp_parts), ("interleaf/stamp.first", laid_interleaf_stamp_first)], narrowed := true }
def ShelfBytesUptoSaid : Prop := shelfBytesUptoRow.holds Tryd.pinned (OpenSpec.upto shelfBytesSpec)

/-- 'interleaflaw07.ShelfFull', WHERE WHAT IT READS IS OF BULK AT MOST 1048576: true; the input reads as it did. -/
def shelfFullUptoRow : OpenClaim := { program := "ytcpeakceigidpaadoor", sum := "f10d82dec28a682ac6c66bc8fb11cce641d52e4abaf8fe49684164dc83104fa6", func := "interleaf/interleaflaw07.ShelfFull", spec := "shelfFull", unfollowed := true, recurses := true, named := ["interleaf/check.lines", "interleaf/stamp.first", "interleaf/stamp.parts"], apart := false, laid := [("interleaf/check.lines", laid_interleaf_check_lines), ("interleaf/stamp.parts", laid_interleaf_stamp_parts), ("interleaf/stamp.first", laid_interleaf_stamp_first)], narrowed := true }
def ShelfFullUptoSaid : Prop := shelfFullUptoRow.holds Tryd.pinned (OpenSpec.upto shelfFullSpec)

/-- 'interleaflaw07.ShelfForms', WHERE WHAT IT READS IS OF BULK AT MOST 1048576: true; the input reads as it did. -/
def shelfFormsUptoRow : OpenClaim := { program := "ytcpeakceigidpaadoor", sum := "f10d82dec28a682ac6c66bc8fb11cce641d52e4abaf8fe49684164dc83104fa6", func := "interleaf/interleaflaw07.ShelfForms", spec := "shelfForms", unfollowed := true, recurses := true, named := ["interleaf/check.lines", "interleaf/stamp.first", "interleaf/stamp.parts"], apart := false, laid := [("interleaf/check.lines", laid_interleaf_check_lines), ("interleaf/stamp.parts", laid_interleaf_stamp_parts), ("interleaf/stamp.first", laid_interleaf_stamp_first)], narrowed := true }
def ShelfFormsUptoSaid : Prop := shelfFormsUptoRow.holds Tryd.pinned (OpenSpec.upto shelfFormsSpec)

/-- 'interleaflaw07.ShelfOnce', WHERE WHAT IT READS IS OF BULK AT MOST 1048576: true; the input reads as it did. -/
def shelfOnceUptoRow : OpenClaim := { program := "ytcpeakceigidpaadoor", sum := "f10d82dec28a682ac6c66bc8fb11cce641d52e4abaf8fe49684164dc83104fa6", func := "interleaf/interleaflaw07.ShelfOnce", spec := "shelfOnce", unfollowed := true, recurses := true, named := ["interleaf/check.lines", "interleaf/stamp.first", "interleaf/stamp.parts"], apart := false, laid := [("interleaf/check.lines", laid_interleaf_check_lines), ("interleaf/stamp.parts", laid_interleaf_stamp_parts), ("interleaf/stamp.first", laid_interleaf_stamp_first)], narrowed := true }
def ShelfOnceUptoSaid : Prop := shelfOnceUptoRow.holds Tryd.pinned (OpenSpec.upto shelfOnceSpec)

/-- 'interleaflaw07.ShelfKeys', WHERE WHAT IT READS IS OF BULK AT MOST 1048576: true; the input reads as it did. -/
def shelfKeysUptoRow : OpenClaim := { program := "ytcpeakceigidpaadoor", sum := "f10d82dec28a682ac6c66bc8fb11cce641d52e4abaf8fe49684164dc83104fa6", func := "interleaf/interleaflaw07.ShelfKeys", spec := "shelfKeys", unfollowed := true, recurses := true, named := ["interleaf/check.lines", "interleaf/stamp.first", "interleaf/stamp.parts"], apart := false, laid := [("interleaf/check.lines", laid_interleaf_check_lines), ("interleaf/stamp.parts", laid_interleaf_stamp_parts), ("interleaf/stamp.first", laid_interleaf_stamp_first)], narrowed := true }
def ShelfKeysUptoSaid : Prop := shelfKeysUptoRow.holds Tryd.pinned (OpenSpec.upto shelfKeysSpec)

/-- 'interleaflaw07.ShelfSettles', WHERE WHAT IT READS IS OF BULK AT MOST 1048576: true; the input reads as it did. -/
def shelfSettlesUptoRow : OpenClaim := { program := "ytcpeakceigidpaadoor", sum := "f10d82dec28a682ac6c66bc8fb11cce641d52e4abaf8fe49684164dc83104fa6", func := "interleaf/interleaflaw07.ShelfSettles", spec := "shelfSettles", unfollowed := true, recurses := true, named := ["interleaf/check.lines", "interleaf/stamp.first", "interleaf/stamp.parts"], apart := false, laid := [("interleaf/check.lines", laid_interleaf_check_lines), ("interleaf/stamp.parts", laid_interleaf_stamp_parts), ("interleaf/stamp.first", laid_interleaf_stamp_first)], narrowed := true }
def ShelfSettlesUptoSaid : Prop := shelfSettlesUptoRow.holds Tryd.pinned (OpenSpec.upto shelfSettlesSpec)

/-- 'interleaflaw07.ShelfNil', WHERE WHAT IT READS IS OF BULK AT MOST 1048576: true; the input reads as it did. -/
def shelfNilUptoRow : OpenClaim := { program := "ytcpeakceigidpaadoor", sum := "f10d82dec28a682ac6c66bc8fb11cce641d52e4abaf8fe49684164dc83104fa6", func := "interleaf/interleaflaw07.ShelfNil", spec := "shelfNil", unfollowed := true, recurses := true, named := ["interleaf/check.lines", "interleaf/stamp.first", "interleaf/stamp.parts"], apart := false, laid := [("interleaf/check.lines", laid_interleaf_check_lines), ("interleaf/stamp.parts", laid_interleaf_stamp_parts), ("interleaf/stamp.first", laid_interleaf_stamp_first)], narrowed := true }
def ShelfNilUptoSaid : Prop := shelfNilUptoRow.holds Tryd.pinned (OpenSpec.upto shelfNilSpec)

end Rows
end Go.Proofs.YtcpeakceigidpaaDoor
