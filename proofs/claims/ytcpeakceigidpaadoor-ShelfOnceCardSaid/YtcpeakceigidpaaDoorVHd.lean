/- Contracts proved by hand, together. -/
import Derived.Test.YtcpeakceigidpaaDoorVHn
import Derived.Test.YtcpeakceigidpaaDoorVSh
set_option linter.all false
namespace Go.Iw
open Go.Iv Go.Proofs Go.RowKit Go.Shelf
theorem sort_ok : SortOK := fun blk cap d w hcmp hH hblk hsz =>
 AnyQ.slices_SortFunc_total Tryd.sortKL 32 (fun w => by show (isAgg 29).run Tryd.prog w = _; simp [isAgg, underlying, Tryd.underlying29]) (fun w => sizeOf_run (base_ty 29 (.arr 32 (.int .u8)) (by kernel_rfl))) encK encK_len
  (fun x v hv => by obtain ⟨q, _, rfl⟩ := List.mem_map.1 hv; rfl) cfK swoK 54 #[] blk 0 cap d w (enters_of Tryd.func54 (by kernel_rfl) rfl) hcmp hH hblk (by omega) totK
theorem sort_nil : SortNil := fun p cap w => AnyF.slices_SortFunc_none Tryd.sortKL p cap _ w
theorem XB.good : Go.Iv.Good Tryd.prog 23 XB.F := keys_good sort_ok sort_nil
end Go.Iw
