/- The functions, all of them. -/
import Derived.Test.YtljfhfgbpcaadaaDoorFn1
