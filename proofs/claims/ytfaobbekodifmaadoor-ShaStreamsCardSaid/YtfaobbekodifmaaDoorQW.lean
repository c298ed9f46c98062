/- The law of streams and the three variables. Conditions: none. -/
import Derived.Test.YtfaobbekodifmaaDoorQV
import Derived.Test.YtfaobbekodifmaaDoorQY
