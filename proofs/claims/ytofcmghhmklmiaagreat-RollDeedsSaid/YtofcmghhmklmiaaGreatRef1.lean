/- The walks of the reference's reading functions. -/
import Derived.Test.YtofcmghhmklmiaaGreatInAll
namespace Go.Proofs.YtofcmghhmklmiaaGreat
open Go.RowKit

end Go.Proofs.YtofcmghhmklmiaaGreat
