/- Contracts of functions of the given program, by the abstract walk, for law PhraseLess: what each one hands back; no condition but those that each theorem states. -/
import Derived.Test.YtbodcpinpomobaaFa
import Derived.Test.YtbodcpinpomobaaFb
import Derived.Test.YtbodcpinpomobaaFc
import Derived.Test.YtbodcpinpomobaaFd
import Derived.Test.YtbodcpinpomobaaFe
import Derived.Test.YtbodcpinpomobaaFf

