-- Laid by a program of this session, which builds on the kit's print: it takes some functions' texts as they are given to it.
import Derived.Test.YtbmecfpdemoooaaPDecodeBytesx0
import Derived.Test.YtbmecfpdemoooaaPDecodeBytesx1
import Derived.Test.YtbmecfpdemoooaaPDecodeBytesx2
import Derived.Test.YtbmecfpdemoooaaPDecodeBytesx3
import Derived.Test.YtbmecfpdemoooaaPDecodeBytesx4
import Derived.Test.YtbmecfpdemoooaaPDecodeBytesx5
namespace Go.Proofs.Ytbmecfpdemoooaa.PDecodeBytes
open Go.RowKit Go.Proofs.YtbmecfpdemoooaaW.PrintWords Go.Proofs.YtbmecfpdemoooaaW.PrintLast Go.Proofs.YtbmecfpdemoooaaW.PrintMore
attribute [local go_sem] max2_int min2_int max_two min_two max_three min_three max_four min_four   -- for this text's walks alone
set_option linter.unusedVariables false
set_option linter.unusedSimpArgs false

end Go.Proofs.Ytbmecfpdemoooaa.PDecodeBytes
