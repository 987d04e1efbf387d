/- GraphActs: the law, and the readers of its arguments. Conditions: none. -/
import Derived.Test.YtonilojjahfboaaGreatActsLaw16
import Derived.Test.YtonilojjahfboaaGreatAmA
