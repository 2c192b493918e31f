/- Words for users of the engine. -/
import Derived.Test.YtmbodncejejceaaCF5
import Derived.Test.YtmbodncejejceaaCUW0
set_option linter.all false

