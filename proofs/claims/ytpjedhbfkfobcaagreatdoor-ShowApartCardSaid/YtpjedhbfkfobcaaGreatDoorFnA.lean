/- The functions, all of them. -/
import Derived.Test.YtpjedhbfkfobcaaGreatDoorFn1
import Derived.Test.YtpjedhbfkfobcaaGreatDoorFn2
import Derived.Test.YtpjedhbfkfobcaaGreatDoorFn3
import Derived.Test.YtpjedhbfkfobcaaGreatDoorFn4
import Derived.Test.YtpjedhbfkfobcaaGreatDoorFn5
