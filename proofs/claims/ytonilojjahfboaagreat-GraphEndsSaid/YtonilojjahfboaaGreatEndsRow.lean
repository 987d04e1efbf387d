/- GraphEnds: the law, and the readers of its argument. Conditions: none. -/
import Derived.Test.YtonilojjahfboaaGreatGe5
import Derived.Test.YtonilojjahfboaaGreatAcMem
