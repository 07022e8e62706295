/-
  The contracts of the references' small functions on lists (stepstoneref01), in terms of plain functions on lists.
-/
import Derived.Test.YtiekoidlibhoeaaDoorProg
import Derived.Test.YtiekoidlibhoeaaDoorRefPure
import Derived.RegionTactic
import Derived.BigQuiet
import Derived.Deep.QuietTactic
namespace Go.Proofs.YtiekoidlibhoeaaDoor
open Go.RowKit Go.Proofs.YtiekoidlibhoeaaDoorW.PrintWords Go.Proofs.YtiekoidlibhoeaaDoorW.PrintMore
attribute [local go_sem] max2_int min2_int max_two min_two
set_option linter.unusedVariables false
set_option linter.unusedSimpArgs false

theorem info_u64 : (Tryd.prog.info? 66).map (fun i => (i.zero, i.size, i.bytes)) = some (some (.int .u64 0), 1, 8) := by kernel_rfl
theorem info_u16 : (Tryd.prog.info? 40).map (fun i => (i.zero, i.size, i.bytes)) = some (some (.int .u16 0), 1, 2) := by kernel_rfl

end Go.Proofs.YtiekoidlibhoeaaDoor
