/- The walk of the reference's Get. -/
import Derived.Test.YtlnmefpndgmenaaDoorOct3
import Derived.Deep.RegionWith
namespace Go.Proofs.YtlnmefpndgmenaaDoor
open Go.RowKit

end Go.Proofs.YtlnmefpndgmenaaDoor
