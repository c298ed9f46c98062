/- The parts' law and the three variables. Conditions: none. -/
import Derived.Test.YtfaobbekodifmaaDoorQS
import Derived.Test.YtfaobbekodifmaaDoorQY
