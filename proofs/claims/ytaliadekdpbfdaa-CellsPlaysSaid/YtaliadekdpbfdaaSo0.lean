/- Less is a strict weak order. -/
import Derived.Test.YtaliadekdpbfdaaSo1
import Derived.Sort.LotD3
namespace Go.Proofs.Ytaliadekdpbfdaa
open Go.Sort
theorem swoN : SWO ltN := by
  constructor <;> simp [ltN] <;> omega
end Go.Proofs.Ytaliadekdpbfdaa
