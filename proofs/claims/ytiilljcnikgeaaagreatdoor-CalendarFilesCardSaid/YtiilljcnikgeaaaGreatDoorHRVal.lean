/- (The reference's checks of rules are not reached at this seat.) -/
import Derived.Test.YtiilljcnikgeaaaGreatDoorHCheck
namespace Go.Proofs.YtiilljcnikgeaaaGreatDoor
open Go.RowKit
end Go.Proofs.YtiilljcnikgeaaaGreatDoor
