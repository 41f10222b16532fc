/- Closed facts of the row: what the law reaches. -/
import Derived.Test.YtakafhbabgpecaaGreatDoorTie
import Derived.JoinedOf
import Derived.Stop.Joined
import Derived.KernelRfl
namespace Go.MaT
open Go.Proofs Go.Proofs.YtakafhbabgpecaaGreatDoor
set_option maxRecDepth 100000
theorem k12 : (Rows.officeNilRow.recurses == Tryz.prog.recurses 3) = true := by kernel_rfl
theorem k13 : (Rows.officeNilRow.named == Tryz.prog.varsNamed 3) = true := by kernel_rfl
end Go.MaT
