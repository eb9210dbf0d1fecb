/- The functions, all of them. -/
import Derived.Test.YtnjandhaeojieaaDoorFn1
