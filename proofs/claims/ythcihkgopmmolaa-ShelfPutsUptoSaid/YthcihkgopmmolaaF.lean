/- Contracts of functions of the given program, by the abstract walk, for law ShelfPutsUpto: what each one hands back; no condition but those that each theorem states. -/
import Derived.Test.YthcihkgopmmolaaFa
import Derived.Test.YthcihkgopmmolaaFb
import Derived.Test.YthcihkgopmmolaaFc
import Derived.Test.YthcihkgopmmolaaFd
import Derived.Test.YthcihkgopmmolaaFe
import Derived.Test.YthcihkgopmmolaaFf

