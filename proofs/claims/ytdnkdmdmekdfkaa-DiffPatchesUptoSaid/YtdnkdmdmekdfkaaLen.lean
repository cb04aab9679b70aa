/- math/bits.Len64 (its walk turned from the shelf's worked one), nums.Width. -/
import Derived.Test.YtdnkdmdmekdfkaaRows
import Derived.Lib.Walk
import Derived.Lib.BitFns
import Derived.Lib.Strings
import Derived.Lib.Slices
import Derived.Lib.Small
namespace Go.Proofs.Ytdnkdmdmekdfkaa

end Go.Proofs.Ytdnkdmdmekdfkaa
