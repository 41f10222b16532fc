/- OfficeNil of the law of chapter 10: its tied card holds, for every input, without a condition. The law runs the closed example 'awake' by the kernel over an abstract semantics of the model that is proved sound here, and the calls of a nil office by the same semantics with unknown arguments. -/
import Derived.Test.YtakafhbabgpecaaGreatDoorMtCard
namespace Go.Proofs.YtakafhbabgpecaaGreatDoor
theorem officeNil_card : Rows.OfficeNilCardSaid := Go.MaT.card
end Go.Proofs.YtakafhbabgpecaaGreatDoor
