/- Nothing: this seat holds none of the reference's dates. -/
import Derived.Test.YtiefjnhnceipmaaDoorDCheck
namespace Go.Proofs.YtiefjnhnceipmaaDoor
end Go.Proofs.YtiefjnhnceipmaaDoor
