-- Laid by a program of this session, which builds on the kit's print: it takes some functions' texts as they are given to it.
import Derived.Test.YtdmiingneodcbaaPDecodeBackx0
import Derived.Test.YtdmiingneodcbaaPDecodeBackx1
import Derived.Test.YtdmiingneodcbaaPDecodeBackx2
import Derived.Test.YtdmiingneodcbaaPDecodeBackx3
import Derived.Test.YtdmiingneodcbaaPDecodeBackx4
import Derived.Test.YtdmiingneodcbaaPDecodeBackx5
namespace Go.Proofs.Ytdmiingneodcbaa.PDecodeBack
open Go.RowKit Go.Proofs.YtdmiingneodcbaaW.PrintWords Go.Proofs.YtdmiingneodcbaaW.PrintLast Go.Proofs.YtdmiingneodcbaaW.PrintMore
attribute [local go_sem] max2_int min2_int max_two min_two max_three min_three max_four min_four   -- for this text's walks alone
set_option linter.unusedVariables false
set_option linter.unusedSimpArgs false

end Go.Proofs.Ytdmiingneodcbaa.PDecodeBack
