-- Laid by a program of this session, which builds on the kit's print: it takes some functions' texts as they are given to it.
import Derived.Test.YtdmiingneodcbaaPDecodeOfx0
import Derived.Test.YtdmiingneodcbaaPDecodeOfx1
import Derived.Test.YtdmiingneodcbaaPDecodeOfx2
import Derived.Test.YtdmiingneodcbaaPDecodeOfx3
import Derived.Test.YtdmiingneodcbaaPDecodeOfx4
import Derived.Test.YtdmiingneodcbaaPDecodeOfx5
import Derived.Test.YtdmiingneodcbaaPDecodeOfx6
namespace Go.Proofs.Ytdmiingneodcbaa.PDecodeOf
open Go.RowKit Go.Proofs.YtdmiingneodcbaaW.PrintWords Go.Proofs.YtdmiingneodcbaaW.PrintLast Go.Proofs.YtdmiingneodcbaaW.PrintMore
attribute [local go_sem] max2_int min2_int max_two min_two max_three min_three max_four min_four   -- for this text's walks alone
set_option linter.unusedVariables false
set_option linter.unusedSimpArgs false

end Go.Proofs.Ytdmiingneodcbaa.PDecodeOf
