/- Widths; whether it is a component. -/
import Derived.Test.YtdnkdmdmekdfkaaSc1
import Derived.Handy
namespace Go.Proofs.Ytdnkdmdmekdfkaa
open Go.RowKit
end Go.Proofs.Ytdnkdmdmekdfkaa
