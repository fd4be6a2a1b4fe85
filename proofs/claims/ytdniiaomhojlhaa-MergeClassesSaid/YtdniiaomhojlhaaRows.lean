/-
  No cell of these rows narrows 'for every input' (looked for: loops, veiled, ifaces, maps, wideKeys, modest, calm, conditions, laid).
  DERIVED. THE GIVEN ROWS OF THIS SEAT. 10 by the template 'for every input the law returns true; each argument reads behind the call as it read before'; 0 by the template 'total and deterministic' (their statements: YtdniiaomhojlhaaTotals.lean).
  GIVEN WITH THE SEED: the statements are not yours to turn. If you find one false, say at which input.
  Laid BY PROGRAM, IN A SANDBOX (cutbox-rows.mjs): the forced cells as the released guide's own fill.sh prints them over the translation 160a5ade144351eb… (all of the seat's roots in one cut). By AI agents, Wed Nov 11 2026. No macro, syntax, notation, axiom, sorry.
-/
import Derived.Test.YtdniiaomhojlhaaChecked
import GoSem.Claim
import GoSem.ClaimJoined
import GoSem.ClaimMapViews
import Derived.JoinedTies
import Derived.KernelRfl
namespace Go.Proofs.Ytdniiaomhojlhaa
/- THE CELL 'sum', in the pinned program and in every row, IS THE sha256 OF THE DUMP (.gsa) THAT YtdniiaomhojlhaaProg.lean LOADS. Nothing in Lean hashes anything: it is a label: what it is worth is what the hold of that sum in a sandbox is worth. -/
noncomputable def Try.pinned : Pinned := { name := "ytdniiaomhojlhaa", sum := "160a5ade144351ebf3d754dec718522ddec536c2972eb24a4242eba08871baf3", checked := Try.checked }
namespace Rows
def none {H : Type} : Left H := { results := [], args := [] }

/-- 'interleaflaw23.JudgeCells': WHATEVER THE INPUT: true; the input reads as it did. -/
def judgeCellsSpec : ChangeSpec := { name := "judgeCells", fn := fun _ => fun
  | [d1, d2, d3, d4] => { results := [.lit (.bool true)], args := [d1, d2, d3, d4] }
  | _ => none }
def judgeCellsRow : OpenClaim := { program := "ytdniiaomhojlhaa", sum := "160a5ade144351ebf3d754dec718522ddec536c2972eb24a4242eba08871baf3", func := "interleaf/interleaflaw23.JudgeCells", spec := "judgeCells", unfollowed := true, recurses := true, apart := false }
def JudgeCellsSaid : Prop := judgeCellsRow.holds Try.pinned (OpenSpec.ofChange judgeCellsSpec)

/-- ITS FALSE NEIGHBOUR: 'it returns false'. Refute it at one input. -/
def judgeCellsWrong : ChangeSpec := { name := "judgeCells", fn := fun _ => fun
  | [d1, d2, d3, d4] => { results := [.lit (.bool false)], args := [d1, d2, d3, d4] }
  | _ => none }
def JudgeCellsWrongFalsely : Prop := judgeCellsRow.holds Try.pinned (OpenSpec.ofChange judgeCellsWrong)

/-- 'interleaflaw23.JudgeOthers': WHATEVER THE INPUT: true; the input reads as it did. -/
def judgeOthersSpec : ChangeSpec := { name := "judgeOthers", fn := fun _ => fun
  | [d1, d2, d3, d4] => { results := [.lit (.bool true)], args := [d1, d2, d3, d4] }
  | _ => none }
def judgeOthersRow : OpenClaim := { program := "ytdniiaomhojlhaa", sum := "160a5ade144351ebf3d754dec718522ddec536c2972eb24a4242eba08871baf3", func := "interleaf/interleaflaw23.JudgeOthers", spec := "judgeOthers", unfollowed := true, recurses := true, apart := false }
def JudgeOthersSaid : Prop := judgeOthersRow.holds Try.pinned (OpenSpec.ofChange judgeOthersSpec)

/-- ITS FALSE NEIGHBOUR: 'it returns false'. Refute it at one input. -/
def judgeOthersWrong : ChangeSpec := { name := "judgeOthers", fn := fun _ => fun
  | [d1, d2, d3, d4] => { results := [.lit (.bool false)], args := [d1, d2, d3, d4] }
  | _ => none }
def JudgeOthersWrongFalsely : Prop := judgeOthersRow.holds Try.pinned (OpenSpec.ofChange judgeOthersWrong)

/-- 'interleaflaw14.MergeAll': WHATEVER THE INPUT: true; the input reads as it did. -/
def mergeAllSpec : ChangeSpec := { name := "mergeAll", fn := fun _ => fun
  | [d1, d2, d3] => { results := [.lit (.bool true)], args := [d1, d2, d3] }
  | _ => none }
def mergeAllRow : OpenClaim := { program := "ytdniiaomhojlhaa", sum := "160a5ade144351ebf3d754dec718522ddec536c2972eb24a4242eba08871baf3", func := "interleaf/interleaflaw14.MergeAll", spec := "mergeAll", unfollowed := true, recurses := true, apart := false }
def MergeAllSaid : Prop := mergeAllRow.holds Try.pinned (OpenSpec.ofChange mergeAllSpec)

/-- ITS FALSE NEIGHBOUR: 'it returns false'. Refute it at one input. -/
def mergeAllWrong : ChangeSpec := { name := "mergeAll", fn := fun _ => fun
  | [d1, d2, d3] => { results := [.lit (.bool false)], args := [d1, d2, d3] }
  | _ => none }
def MergeAllWrongFalsely : Prop := mergeAllRow.holds Try.pinned (OpenSpec.ofChange mergeAllWrong)

/-- 'interleaflaw14.MergeRaw': WHATEVER THE INPUT: true; the input reads as it did. -/
def mergeRawSpec : ChangeSpec := { name := "mergeRaw", fn := fun _ => fun
  | [d1, d2, d3, d4] => { results := [.lit (.bool true)], args := [d1, d2, d3, d4] }
  | _ => none }
def mergeRawRow : OpenClaim := { program := "ytdniiaomhojlhaa", sum := "160a5ade144351ebf3d754dec718522ddec536c2972eb24a4242eba08871baf3", func := "interleaf/interleaflaw14.MergeRaw", spec := "mergeRaw", unfollowed := true, recurses := true, apart := false }
def MergeRawSaid : Prop := mergeRawRow.holds Try.pinned (OpenSpec.ofChange mergeRawSpec)

/-- ITS FALSE NEIGHBOUR: 'it returns false'. Refute it at one input. -/
def mergeRawWrong : ChangeSpec := { name := "mergeRaw", fn := fun _ => fun
  | [d1, d2, d3, d4] => { results := [.lit (.bool false)], args := [d1, d2, d3, d4] }
  | _ => none }
def MergeRawWrongFalsely : Prop := mergeRawRow.holds Try.pinned (OpenSpec.ofChange mergeRawWrong)

/-- 'interleaflaw14.MergeTurned': WHATEVER THE INPUT: true; the input reads as it did. -/
def mergeTurnedSpec : ChangeSpec := { name := "mergeTurned", fn := fun _ => fun
  | [d1, d2, d3] => { results := [.lit (.bool true)], args := [d1, d2, d3] }
  | _ => none }
def mergeTurnedRow : OpenClaim := { program := "ytdniiaomhojlhaa", sum := "160a5ade144351ebf3d754dec718522ddec536c2972eb24a4242eba08871baf3", func := "interleaf/interleaflaw14.MergeTurned", spec := "mergeTurned", unfollowed := true, recurses := true, apart := false }
def MergeTurnedSaid : Prop := mergeTurnedRow.holds Try.pinned (OpenSpec.ofChange mergeTurnedSpec)

/-- ITS FALSE NEIGHBOUR: 'it returns false'. Refute it at one input. -/
def mergeTurnedWrong : ChangeSpec := { name := "mergeTurned", fn := fun _ => fun
  | [d1, d2, d3] => { results := [.lit (.bool false)], args := [d1, d2, d3] }
  | _ => none }
def MergeTurnedWrongFalsely : Prop := mergeTurnedRow.holds Try.pinned (OpenSpec.ofChange mergeTurnedWrong)

/-- 'interleaflaw14.MergeOne': WHATEVER THE INPUT: true; the input reads as it did. -/
def mergeOneSpec : ChangeSpec := { name := "mergeOne", fn := fun _ => fun
  | [d1, d2] => { results := [.lit (.bool true)], args := [d1, d2] }
  | _ => none }
def mergeOneRow : OpenClaim := { program := "ytdniiaomhojlhaa", sum := "160a5ade144351ebf3d754dec718522ddec536c2972eb24a4242eba08871baf3", func := "interleaf/interleaflaw14.MergeOne", spec := "mergeOne", unfollowed := true, recurses := true, apart := false }
def MergeOneSaid : Prop := mergeOneRow.holds Try.pinned (OpenSpec.ofChange mergeOneSpec)

/-- ITS FALSE NEIGHBOUR: 'it returns false'. Refute it at one input. -/
def mergeOneWrong : ChangeSpec := { name := "mergeOne", fn := fun _ => fun
  | [d1, d2] => { results := [.lit (.bool false)], args := [d1, d2] }
  | _ => none }
def MergeOneWrongFalsely : Prop := mergeOneRow.holds Try.pinned (OpenSpec.ofChange mergeOneWrong)

/-- 'interleaflaw14.MergePicks': WHATEVER THE INPUT: true; the input reads as it did. -/
def mergePicksSpec : ChangeSpec := { name := "mergePicks", fn := fun _ => fun
  | [d1, d2, d3, d4, d5, d6] => { results := [.lit (.bool true)], args := [d1, d2, d3, d4, d5, d6] }
  | _ => none }
def mergePicksRow : OpenClaim := { program := "ytdniiaomhojlhaa", sum := "160a5ade144351ebf3d754dec718522ddec536c2972eb24a4242eba08871baf3", func := "interleaf/interleaflaw14.MergePicks", spec := "mergePicks", unfollowed := true, recurses := true, apart := false }
def MergePicksSaid : Prop := mergePicksRow.holds Try.pinned (OpenSpec.ofChange mergePicksSpec)

/-- ITS FALSE NEIGHBOUR: 'it returns false'. Refute it at one input. -/
def mergePicksWrong : ChangeSpec := { name := "mergePicks", fn := fun _ => fun
  | [d1, d2, d3, d4, d5, d6] => { results := [.lit (.bool false)], args := [d1, d2, d3, d4, d5, d6] }
  | _ => none }
def MergePicksWrongFalsely : Prop := mergePicksRow.holds Try.pinned (OpenSpec.ofChange mergePicksWrong)

/-- 'interleaflaw14.MergeClasses': WHATEVER THE INPUT: true; the input reads as it did. -/
def mergeClassesSpec : ChangeSpec := { name := "mergeClasses", fn := fun _ => fun
  | [d1, d2] => { results := [.lit (.bool true)], args := [d1, d2] }
  | _ => none }
def mergeClassesRow : OpenClaim := { program := "ytdniiaomhojlhaa", sum := "160a5ade144351ebf3d754dec718522ddec536c2972eb24a4242eba08871baf3", func := "interleaf/interleaflaw14.MergeClasses", spec := "mergeClasses", unfollowed := true, recurses := true, apart := false }
def MergeClassesSaid : Prop := mergeClassesRow.holds Try.pinned (OpenSpec.ofChange mergeClassesSpec)

/-- ITS FALSE NEIGHBOUR: 'it returns false'. Refute it at one input. -/
def mergeClassesWrong : ChangeSpec := { name := "mergeClasses", fn := fun _ => fun
  | [d1, d2] => { results := [.lit (.bool false)], args := [d1, d2] }
  | _ => none }
def MergeClassesWrongFalsely : Prop := mergeClassesRow.holds Try.pinned (OpenSpec.ofChange mergeClassesWrong)

/-- 'interleaflaw14.MergeFields': WHATEVER THE INPUT: true; the input reads as it did. -/
def mergeFieldsSpec : ChangeSpec := { name := "mergeFields", fn := fun _ => fun
  | [d1, d2, d3, d4] => { results := [.lit (.bool true)], args := [d1, d2, d3, d4] }
  | _ => none }
def mergeFieldsRow : OpenClaim := { program := "ytdniiaomhojlhaa", sum := "160a5ade144351ebf3d754dec718522ddec536c2972eb24a4242eba08871baf3", func := "interleaf/interleaflaw14.MergeFields", spec := "mergeFields", unfollowed := true, recurses := true, apart := false }
def MergeFieldsSaid : Prop := mergeFieldsRow.holds Try.pinned (OpenSpec.ofChange mergeFieldsSpec)

/-- ITS FALSE NEIGHBOUR: 'it returns false'. Refute it at one input. -/
def mergeFieldsWrong : ChangeSpec := { name := "mergeFields", fn := fun _ => fun
  | [d1, d2, d3, d4] => { results := [.lit (.bool false)], args := [d1, d2, d3, d4] }
  | _ => none }
def MergeFieldsWrongFalsely : Prop := mergeFieldsRow.holds Try.pinned (OpenSpec.ofChange mergeFieldsWrong)

/-- 'interleaflaw23.JudgeMerges': WHATEVER THE INPUT: true; the input reads as it did. -/
def judgeMergesSpec : ChangeSpec := { name := "judgeMerges", fn := fun _ => fun
  | [d1, d2, d3, d4] => { results := [.lit (.bool true)], args := [d1, d2, d3, d4] }
  | _ => none }
def judgeMergesRow : OpenClaim := { program := "ytdniiaomhojlhaa", sum := "160a5ade144351ebf3d754dec718522ddec536c2972eb24a4242eba08871baf3", func := "interleaf/interleaflaw23.JudgeMerges", spec := "judgeMerges", unfollowed := true, recurses := true, apart := false }
def JudgeMergesSaid : Prop := judgeMergesRow.holds Try.pinned (OpenSpec.ofChange judgeMergesSpec)

/-- ITS FALSE NEIGHBOUR: 'it returns false'. Refute it at one input. -/
def judgeMergesWrong : ChangeSpec := { name := "judgeMerges", fn := fun _ => fun
  | [d1, d2, d3, d4] => { results := [.lit (.bool false)], args := [d1, d2, d3, d4] }
  | _ => none }
def JudgeMergesWrongFalsely : Prop := judgeMergesRow.holds Try.pinned (OpenSpec.ofChange judgeMergesWrong)

/- THE SECOND FORM. 'bulk': how many values and letters a reading holds, each counted each time it is reached (what is shared counts as often as it is met; a slice's spare places count too). A statement '..UptoSaid' is the law's where the arguments, and the package variables that the reading takes, are together of bulk at most 1048576: NARROWER than '..Said'. Prove '..Said' where nothing that the law and all that it calls make is longer than what came in: it says more and counts as full. Else prove '..UptoSaid'. A law counts once. -/
mutual
def uptoBulk {H : Type} : DataW H → Nat
  | .lit (.string bytes) => bytes.length + 1
  | .lit _ => 1
  | .nil => 1
  | .ptr d => uptoBulk d + 1
  | .slice elems spare => uptoBulkAll elems + uptoBulkAll spare + 1
  | .agg parts => uptoBulkAll parts + 1
  | .iface _ d => uptoBulk d + 1
  | .map entries => uptoBulkEntries entries + 1
  | .held _ => 1
def uptoBulkAll {H : Type} : List (DataW H) → Nat
  | [] => 0
  | d :: r => uptoBulk d + uptoBulkAll r
def uptoBulkEntries {H : Type} : List (Lit × DataW H) → Nat
  | [] => 0
  | x :: r => uptoBulkEntry x + uptoBulkEntries r
def uptoBulkEntry {H : Type} : Lit × DataW H → Nat
  | (.string bytes, d) => bytes.length + uptoBulk d + 1
  | (_, d) => uptoBulk d + 1
 end
def uptoSmall : (H : Type) → List (DataW H) → Bool := fun _ ds => decide (uptoBulkAll ds ≤ 1048576)
def OpenSpec.upto (s : _root_.Go.ChangeSpec) : _root_.Go.OpenSpec := { _root_.Go.OpenSpec.ofChange s with cond := some uptoSmall }

/-- 'interleaflaw23.JudgeCells', WHERE WHAT IT READS IS OF BULK AT MOST 1048576: true; the input reads as it did. -/
def judgeCellsUptoRow : OpenClaim := { program := "ytdniiaomhojlhaa", sum := "160a5ade144351ebf3d754dec718522ddec536c2972eb24a4242eba08871baf3", func := "interleaf/interleaflaw23.JudgeCells", spec := "judgeCells", unfollowed := true, recurses := true, apart := false, narrowed := true }
def JudgeCellsUptoSaid : Prop := judgeCellsUptoRow.holds Try.pinned (OpenSpec.upto judgeCellsSpec)

/-- 'interleaflaw23.JudgeOthers', WHERE WHAT IT READS IS OF BULK AT MOST 1048576: true; the input reads as it did. -/
def judgeOthersUptoRow : OpenClaim := { program := "ytdniiaomhojlhaa", sum := "160a5ade144351ebf3d754dec718522ddec536c2972eb24a4242eba08871baf3", func := "interleaf/interleaflaw23.JudgeOthers", spec := "judgeOthers", unfollowed := true, recurses := true, apart := false, narrowed := true }
def JudgeOthersUptoSaid : Prop := judgeOthersUptoRow.holds Try.pinned (OpenSpec.upto judgeOthersSpec)

/-- 'interleaflaw14.MergeAll', WHERE WHAT IT READS IS OF BULK AT MOST 1048576: true; the input reads as it did. -/
def mergeAllUptoRow : OpenClaim := { program := "ytdniiaomhojlhaa", sum := "160a5ade144351ebf3d754dec718522ddec536c2972eb24a4242eba08871baf3", func := "interleaf/interleaflaw14.MergeAll", spec := "mergeAll", unfollowed := true, recurses := true, apart := false, narrowed := true }
def MergeAllUptoSaid : Prop := mergeAllUptoRow.holds Try.pinned (OpenSpec.upto mergeAllSpec)

/-- 'interleaflaw14.MergeRaw', WHERE WHAT IT READS IS OF BULK AT MOST 1048576: true; the input reads as it did. -/
def mergeRawUptoRow : OpenClaim := { program := "ytdniiaomhojlhaa", sum := "160a5ade144351ebf3d754dec718522ddec536c2972eb24a4242eba08871baf3", func := "interleaf/interleaflaw14.MergeRaw", spec := "mergeRaw", unfollowed := true, recurses := true, apart := false, narrowed := true }
def MergeRawUptoSaid : Prop := mergeRawUptoRow.holds Try.pinned (OpenSpec.upto mergeRawSpec)

/-- 'interleaflaw14.MergeTurned', WHERE WHAT IT READS IS OF BULK AT MOST 1048576: true; the input reads as it did. -/
def mergeTurnedUptoRow : OpenClaim := { program := "ytdniiaomhojlhaa", sum := "160a5ade144351ebf3d754dec718522ddec536c2972eb24a4242eba08871baf3", func := "interleaf/interleaflaw14.MergeTurned", spec := "mergeTurned", unfollowed := true, recurses := true, apart := false, narrowed := true }
def MergeTurnedUptoSaid : Prop := mergeTurnedUptoRow.holds Try.pinned (OpenSpec.upto mergeTurnedSpec)

/-- 'interleaflaw14.MergeOne', WHERE WHAT IT READS IS OF BULK AT MOST 1048576: true; the input reads as it did. -/
def mergeOneUptoRow : OpenClaim := { program := "ytdniiaomhojlhaa", sum := "160a5ade144351ebf3d754dec718522ddec536c2972eb24a4242eba08871baf3", func := "interleaf/interleaflaw14.MergeOne", spec := "mergeOne", unfollowed := true, recurses := true, apart := false, narrowed := true }
def MergeOneUptoSaid : Prop := mergeOneUptoRow.holds Try.pinned (OpenSpec.upto mergeOneSpec)

/-- 'interleaflaw14.MergePicks', WHERE WHAT IT READS IS OF BULK AT MOST 1048576: true; the input reads as it did. -/
def mergePicksUptoRow : OpenClaim := { program := "ytdniiaomhojlhaa", sum := "160a5ade144351ebf3d754dec718522ddec536c2972eb24a4242eba08871baf3", func := "interleaf/interleaflaw14.MergePicks", spec := "mergePicks", unfollowed := true, recurses := true, apart := false, narrowed := true }
def MergePicksUptoSaid : Prop := mergePicksUptoRow.holds Try.pinned (OpenSpec.upto mergePicksSpec)

/-- 'interleaflaw14.MergeClasses', WHERE WHAT IT READS IS OF BULK AT MOST 1048576: true; the input reads as it did. -/
def mergeClassesUptoRow : OpenClaim := { program := "ytdniiaomhojlhaa", sum := "160a5ade144351ebf3d754dec718522ddec536c2972eb24a4242eba08871baf3", func := "interleaf/interleaflaw14.MergeClasses", spec := "mergeClasses", unfollowed := true, recurses := true, apart := false, narrowed := true }
def MergeClassesUptoSaid : Prop := mergeClassesUptoRow.holds Try.pinned (OpenSpec.upto mergeClassesSpec)

/-- 'interleaflaw14.MergeFields', WHERE WHAT IT READS IS OF BULK AT MOST 1048576: true; the input reads as it did. -/
def mergeFieldsUptoRow : OpenClaim := { program := "ytdniiaomhojlhaa", sum := "160a5ade144351ebf3d754dec718522ddec536c2972eb24a4242eba08871baf3", func := "interleaf/interleaflaw14.MergeFields", spec := "mergeFields", unfollowed := true, recurses := true, apart := false, narrowed := true }
def MergeFieldsUptoSaid : Prop := mergeFieldsUptoRow.holds Try.pinned (OpenSpec.upto mergeFieldsSpec)

/-- 'interleaflaw23.JudgeMerges', WHERE WHAT IT READS IS OF BULK AT MOST 1048576: true; the input reads as it did. -/
def judgeMergesUptoRow : OpenClaim := { program := "ytdniiaomhojlhaa", sum := "160a5ade144351ebf3d754dec718522ddec536c2972eb24a4242eba08871baf3", func := "interleaf/interleaflaw23.JudgeMerges", spec := "judgeMerges", unfollowed := true, recurses := true, apart := false, narrowed := true }
def JudgeMergesUptoSaid : Prop := judgeMergesUptoRow.holds Try.pinned (OpenSpec.upto judgeMergesSpec)

end Rows
end Go.Proofs.Ytdniiaomhojlhaa
