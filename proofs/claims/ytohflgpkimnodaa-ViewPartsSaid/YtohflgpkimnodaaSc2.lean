/- Widths; whether it is a component. -/
import Derived.Test.YtohflgpkimnodaaSc1
import Derived.Handy
namespace Go.Proofs.Ytohflgpkimnodaa
open Go.RowKit
end Go.Proofs.Ytohflgpkimnodaa
