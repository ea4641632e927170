-- printed with xprint.py over the kit's print
import Derived.Test.YtcohfhclcoiigaaQKeysx0
import Derived.Test.YtcohfhclcoiigaaQKeysx1
import Derived.Test.YtcohfhclcoiigaaQKeysx2
import Derived.Test.YtcohfhclcoiigaaQKeysx3
import Derived.Test.YtcohfhclcoiigaaQKeysx4
import Derived.Test.YtcohfhclcoiigaaQKeysx5
import Derived.Test.YtcohfhclcoiigaaQKeysx6
import Derived.Test.YtcohfhclcoiigaaQKeysx7
import Derived.Test.YtcohfhclcoiigaaQKeysx8
import Derived.Test.YtcohfhclcoiigaaQKeysx9
namespace Go.Proofs.Ytcohfhclcoiigaa.PKeys
open Go.RowKit Go.Proofs.YtcohfhclcoiigaaW.PrintWords Go.Proofs.YtcohfhclcoiigaaW.PrintLast Go.Proofs.YtcohfhclcoiigaaW.PrintMore
attribute [local go_sem] max2_int min2_int max_two min_two max_three min_three max_four min_four   -- for this text's walks alone
set_option linter.unusedVariables false
set_option linter.unusedSimpArgs false

end Go.Proofs.Ytcohfhclcoiigaa.PKeys
