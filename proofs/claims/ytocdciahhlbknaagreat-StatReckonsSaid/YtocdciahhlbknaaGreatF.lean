/- Contracts of functions of the given program, by the abstract walk, for law StatReckons: what each one hands back; no condition but those that each theorem states. -/
import Derived.Test.YtocdciahhlbknaaGreatFa
import Derived.Test.YtocdciahhlbknaaGreatFb
import Derived.Test.YtocdciahhlbknaaGreatFc
import Derived.Test.YtocdciahhlbknaaGreatFd
import Derived.Test.YtocdciahhlbknaaGreatFe
import Derived.Test.YtocdciahhlbknaaGreatFf
import Derived.Test.YtocdciahhlbknaaGreatFg
import Derived.Test.YtocdciahhlbknaaGreatFh
