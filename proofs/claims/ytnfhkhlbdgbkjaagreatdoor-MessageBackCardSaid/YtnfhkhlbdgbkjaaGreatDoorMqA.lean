/- The graft of other seats' texts. -/
import Derived.Test.YtnfhkhlbdgbkjaaGreatDoorFns
import Derived.Test.YtnfhkhlbdgbkjaaGreatDoorMbC
