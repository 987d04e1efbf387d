/- Keys, and what was seen, of an argument in memory. Conditions: each lemma's own premises. -/
import Derived.Test.YtaanohgkdpohhaaKyA
import Derived.Test.YtaanohgkdpohhaaCell2
import Derived.Test.YtaanohgkdpohhaaMem
import Derived.Test.YtaanohgkdpohhaaArenaOncePlain
namespace Go.Proofs.Ytaanohgkdpohhaa
open Go.RowKit Go.Maps

end Go.Proofs.Ytaanohgkdpohhaa
