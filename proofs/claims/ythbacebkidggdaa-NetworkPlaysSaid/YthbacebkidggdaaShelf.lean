/- The shelf's contracts of this seat: none is needed; the library's text on bits is brought for its laws on numbers. -/
import Derived.Shelf.Small.Bits
import Derived.Test.YthbacebkidggdaaProg
namespace Go.Proofs.Ythbacebkidggdaa
end Go.Proofs.Ythbacebkidggdaa
