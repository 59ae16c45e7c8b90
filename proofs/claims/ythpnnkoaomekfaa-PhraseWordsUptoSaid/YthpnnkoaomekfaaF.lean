/- Contracts of functions of the given program, by the abstract walk, for law PhraseWordsUpto: what each one hands back; no condition but those that each theorem states. -/
import Derived.Test.YthpnnkoaomekfaaFa
import Derived.Test.YthpnnkoaomekfaaFb
import Derived.Test.YthpnnkoaomekfaaFc
import Derived.Test.YthpnnkoaomekfaaFd
import Derived.Test.YthpnnkoaomekfaaFe
import Derived.Test.YthpnnkoaomekfaaFf

