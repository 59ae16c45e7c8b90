/- Contracts of functions of the given program, by the abstract walk, for law MergeCardsUpto: what each one hands back; no condition but those that each theorem states. -/
import Derived.Test.YthcihkgopmmolaaGreatFa
import Derived.Test.YthcihkgopmmolaaGreatFb
import Derived.Test.YthcihkgopmmolaaGreatFc
import Derived.Test.YthcihkgopmmolaaGreatFd
import Derived.Test.YthcihkgopmmolaaGreatFe
import Derived.Test.YthcihkgopmmolaaGreatFf

