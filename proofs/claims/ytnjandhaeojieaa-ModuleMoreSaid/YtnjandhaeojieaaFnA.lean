/- The functions, all of them. -/
import Derived.Test.YtnjandhaeojieaaFn1
import Derived.Test.YtnjandhaeojieaaFn2
