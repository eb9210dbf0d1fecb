/- The functions, all of them. -/
import Derived.Test.YtfejbgnbganolaaFn1
import Derived.Test.YtfejbgnbganolaaFn2
import Derived.Test.YtfejbgnbganolaaFn3
import Derived.Test.YtfejbgnbganolaaFn4
import Derived.Test.YtfejbgnbganolaaFn5
import Derived.Test.YtfejbgnbganolaaFn6
