/- The order of keys: cell.Order and what it calls. Conditions: each contract's own premises. -/
import Derived.Test.YtaanohgkdpohhaaKyA
import Derived.Test.YtaanohgkdpohhaaCell2
import Derived.Lib.Bytealg
import Derived.LoopTactic
namespace Go.Proofs.Ytaanohgkdpohhaa
open Go.RowKit Go.Maps

end Go.Proofs.Ytaanohgkdpohhaa
