/- Contracts proved by hand: how Shelf.Keys compares. -/
import Derived.Test.YtcpeakceigidpaaDoorVHr
import Derived.Shelf.SlSortCmp.WholeK
set_option linter.all false
namespace Go.Iw
open Go.Iv Go.Proofs Go.RowKit Go.Shelf
attribute [local go_sem] Oper.semAt_some
abbrev Key32 : Type := {l : List Int // l.length = 32}
instance : Inhabited Key32 := ⟨⟨List.replicate 32 0, by simp⟩⟩
end Go.Iw
