/- Part of the proof of this claim (no condition). -/
import Derived.Test.YtakafhbabgpecaaGreatDoorMtBase
import Derived.KernelRfl
namespace Go.MaT
open Go.Ma Go.Proofs
theorem awake : (match run 4 [] with | some (.bool true, [], 0) => true | _ => false) = true := by kernel_rfl
end Go.MaT
