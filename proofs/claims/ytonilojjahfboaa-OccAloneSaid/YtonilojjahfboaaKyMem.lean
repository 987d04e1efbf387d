/- Keys, and what was seen, of an argument in memory. Conditions: each lemma's own premises. -/
import Derived.Test.YtonilojjahfboaaKyBase
import Derived.Test.YtonilojjahfboaaCeA
import Derived.Test.YtonilojjahfboaaMem
import Derived.Test.YtonilojjahfboaaArA
namespace Go.Proofs.Ytonilojjahfboaa
open Go.RowKit Go.Maps

end Go.Proofs.Ytonilojjahfboaa
