/- Part of the proof of this claim (no condition). -/
import Derived.Test.YtakafhbabgpecaaGreatDoorMaOcc
import Derived.Test.YtakafhbabgpecaaGreatDoorProg
namespace Go.MaT
open Go.Ma Go.Proofs
def mask : Nat := 259938484909652645285501867540314638637258384897351484890455471071186108304585747177837964318100255555096415358257977601826785216
def md (f : Nat) : Nat := bif Nat.testBit mask f then 0 else 2
def gl (g : Nat) : Option AV := match g with
  | 5 => some (.fp ((List.range 20).map fun i => .int .u64 (10 ^ i)) 0)
  | 10 => some (.fp ([31,28,31,30,31,30,31,31,30,31,30,31].map fun i => .int .i64 i) 0)
  | _ => none
noncomputable def ctx : Ctx := ctxOf Tryz.prog gl md
def base : CallT := orBase (joinBase 62) (occBase 294)
noncomputable def run (f : Nat) (args : List AV) := acall ctx (fnsOf Tryz.prog ctx 1000) base 60 f args [] 0
end Go.MaT
