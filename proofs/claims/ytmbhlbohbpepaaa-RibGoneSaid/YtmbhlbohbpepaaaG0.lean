/- Printed by wip/kit/gen.py: all formulas. -/
import Derived.Test.YtmbhlbohbpepaaaG0p0
import Derived.Test.YtmbhlbohbpepaaaG0p1
import Derived.Test.YtmbhlbohbpepaaaG0p2
