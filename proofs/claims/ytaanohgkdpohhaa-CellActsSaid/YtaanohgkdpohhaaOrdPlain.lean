/- The order of keys is an order: plain facts. No program here beyond the plain keys. -/
import Derived.Test.YtaanohgkdpohhaaKyA
import Derived.Test.YtaanohgkdpohhaaOrder9
namespace Go.Proofs.Ytaanohgkdpohhaa
open Go.RowKit Go.Maps

end Go.Proofs.Ytaanohgkdpohhaa
