/- GraphFinds: the law, and the readers of its arguments. Conditions: none. -/
import Derived.Test.YtonilojjahfboaaGreatGf5
import Derived.Test.YtonilojjahfboaaGreatAmA
