/- The walks of the reader's End, and of the reference's reader. -/
import Derived.Test.YtefnpkmbjabcmaaDoorBi5
import Derived.Deep.RegionWith
namespace Go.Proofs.YtefnpkmbjabcmaaDoor
open Go.RowKit

end Go.Proofs.YtefnpkmbjabcmaaDoor
