/- Widths; whether it is a component. -/
import Derived.Test.YtpfdbkfjjjiamaaSc1
import Derived.Handy
import Derived.Test.YtpfdbkfjjjiamaaNm3
namespace Go.Proofs.Ytpfdbkfjjjiamaa
open Go.RowKit
end Go.Proofs.Ytpfdbkfjjjiamaa
