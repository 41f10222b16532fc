/- Closed facts of the row: the card's. -/
import Derived.Test.YtakafhbabgpecaaGreatDoorTie
import Derived.JoinedOf
import Derived.Stop.Joined
import Derived.KernelRfl
namespace Go.MaT
open Go.Proofs Go.Proofs.YtakafhbabgpecaaGreatDoor
set_option maxRecDepth 100000
theorem wfByText : Rows.officeNilRow.wfByText (OpenSpec.ofChange Rows.officeNilSpec) = true := by kernel_rfl
theorem noStandIns : ([3, 9, 22].all fun u => !Tryz.prog.wantsStandIn u) = true := by kernel_rfl
end Go.MaT
