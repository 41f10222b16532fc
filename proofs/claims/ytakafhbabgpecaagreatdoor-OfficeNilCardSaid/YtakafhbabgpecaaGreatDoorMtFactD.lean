/- Closed facts of the row: the card's. -/
import Derived.Test.YtakafhbabgpecaaGreatDoorTie
import Derived.JoinedOf
import Derived.Stop.Joined
import Derived.KernelRfl
namespace Go.MaT
open Go.Proofs Go.Proofs.YtakafhbabgpecaaGreatDoor
set_option maxRecDepth 100000
theorem looksIs : true = Tryz.prog.looks [] := by kernel_rfl
theorem mainIs : Tryz.prog.mainIs = some (true, "d2c100bd14df602cda4b4b5625a31b42fadb7d1564e7b75b556bced25637d1cd".toList) := by kernel_rfl
end Go.MaT
