/- (The reference's checks of rules are not reached at this seat.) -/
import Derived.Test.YtnemgohcjjhfmaaGreatDoorHCheck
namespace Go.Proofs.YtnemgohcjjhfmaaGreatDoor
open Go.RowKit
end Go.Proofs.YtnemgohcjjhfmaaGreatDoor
