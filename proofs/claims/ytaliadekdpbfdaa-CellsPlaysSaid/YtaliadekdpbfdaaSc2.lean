/- Widths; whether it is a component. -/
import Derived.Test.YtaliadekdpbfdaaSc1
import Derived.Handy
namespace Go.Proofs.Ytaliadekdpbfdaa
open Go.RowKit
end Go.Proofs.Ytaliadekdpbfdaa
