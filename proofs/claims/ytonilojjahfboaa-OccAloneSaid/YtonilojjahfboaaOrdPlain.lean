/- The order of keys is an order: plain facts. No program here beyond the plain keys. -/
import Derived.Test.YtonilojjahfboaaKyA
import Derived.Test.YtonilojjahfboaaOrder9
namespace Go.Proofs.Ytonilojjahfboaa
open Go.RowKit Go.Maps

end Go.Proofs.Ytonilojjahfboaa
