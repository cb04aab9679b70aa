/- Less is a strict weak order. -/
import Derived.Test.YtohflgpkimnodaaSo1
import Derived.Sort.LotD3
namespace Go.Proofs.Ytohflgpkimnodaa
open Go.Sort
theorem swoN : SWO ltN := by
  constructor <;> simp [ltN] <;> omega
end Go.Proofs.Ytohflgpkimnodaa
