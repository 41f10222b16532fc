/- Closed facts of the row: what the law reaches. -/
import Derived.Test.YtakafhbabgpecaaGreatDoorTie
import Derived.JoinedOf
import Derived.Stop.Joined
import Derived.KernelRfl
namespace Go.MaT
open Go.Proofs Go.Proofs.YtakafhbabgpecaaGreatDoor
set_option maxRecDepth 100000
theorem k10 : (Rows.officeNilRow.inPlace == Tryz.prog.inPlace 3) = true := by kernel_rfl
theorem k11 : (Rows.officeNilRow.unfollowed == Tryz.prog.unfollowed 3) = true := by kernel_rfl
end Go.MaT
