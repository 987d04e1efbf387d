/- The order of keys: cell.Order and what it calls. Conditions: each contract's own premises. -/
import Derived.Test.YtonilojjahfboaaKyA
import Derived.Test.YtonilojjahfboaaCeA
import Derived.Lib.Bytealg
import Derived.LoopTactic
namespace Go.Proofs.Ytonilojjahfboaa
open Go.RowKit Go.Maps

end Go.Proofs.Ytonilojjahfboaa
