/- The functions, all of them. -/
import Derived.Test.YtnjandhaeojieaaDoorFn1
import Derived.Test.YtnjandhaeojieaaDoorFn2
