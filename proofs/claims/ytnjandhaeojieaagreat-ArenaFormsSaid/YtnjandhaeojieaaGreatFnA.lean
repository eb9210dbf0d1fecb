/- The functions, all of them. -/
import Derived.Test.YtnjandhaeojieaaGreatFn1
import Derived.Test.YtnjandhaeojieaaGreatFn2
import Derived.Test.YtnjandhaeojieaaGreatFn3
import Derived.Test.YtnjandhaeojieaaGreatFn4
