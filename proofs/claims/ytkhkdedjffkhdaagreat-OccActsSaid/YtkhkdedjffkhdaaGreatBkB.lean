/- block.Take. Conditions: each contract's own premises. The reference's Take. Conditions: each contract's own premises. -/
import Derived.Test.YtkhkdedjffkhdaaGreatBkA
import Derived.Deep.DeepCutAuto
import Derived.Deep.CutBlock
namespace Go.Proofs.YtkhkdedjffkhdaaGreat
open Go.RowKit Go.Maps

end Go.Proofs.YtkhkdedjffkhdaaGreat
namespace Go.Proofs.YtkhkdedjffkhdaaGreat
open Go.RowKit Go.Maps

end Go.Proofs.YtkhkdedjffkhdaaGreat
