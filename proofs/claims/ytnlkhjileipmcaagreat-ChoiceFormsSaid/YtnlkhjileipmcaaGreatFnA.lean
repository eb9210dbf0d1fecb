/- The functions, all of them. -/
import Derived.Test.YtnlkhjileipmcaaGreatFn1
import Derived.Test.YtnlkhjileipmcaaGreatFn2
import Derived.Test.YtnlkhjileipmcaaGreatFn3
import Derived.Test.YtnlkhjileipmcaaGreatFn4
import Derived.Test.YtnlkhjileipmcaaGreatFn5
