-- Laid by a program of this session, which builds on the kit's print: it takes some functions' texts as they are given to it.
import Derived.Test.YtbmecfpdemoooaaPDecodeLongx0
import Derived.Test.YtbmecfpdemoooaaPDecodeLongx1
import Derived.Test.YtbmecfpdemoooaaPDecodeLongx2
import Derived.Test.YtbmecfpdemoooaaPDecodeLongx3
import Derived.Test.YtbmecfpdemoooaaPDecodeLongx4
namespace Go.Proofs.Ytbmecfpdemoooaa.PDecodeLong
open Go.RowKit Go.Proofs.YtbmecfpdemoooaaW.PrintWords Go.Proofs.YtbmecfpdemoooaaW.PrintLast Go.Proofs.YtbmecfpdemoooaaW.PrintMore
attribute [local go_sem] max2_int min2_int max_two min_two max_three min_three max_four min_four   -- for this text's walks alone
set_option linter.unusedVariables false
set_option linter.unusedSimpArgs false

end Go.Proofs.Ytbmecfpdemoooaa.PDecodeLong
