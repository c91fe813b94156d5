-- Written by wip/printx.py of this claim's session, over the kit's print and contracts proved by hand.
import Derived.Test.YtjaopgjhmojpnaaX0
import Derived.Test.YtjaopgjhmojpnaaX1
import Derived.Test.YtjaopgjhmojpnaaX2
import Derived.Test.YtjaopgjhmojpnaaX3
import Derived.Test.YtjaopgjhmojpnaaX4
import Derived.Test.YtjaopgjhmojpnaaX5
import Derived.Test.YtjaopgjhmojpnaaX6
import Derived.Test.YtjaopgjhmojpnaaX7
import Derived.Test.YtjaopgjhmojpnaaX8
import Derived.Test.YtjaopgjhmojpnaaX9
import Derived.Test.YtjaopgjhmojpnaaX10
namespace Go.Proofs.Ytjaopgjhmojpnaa.X
open Go.RowKit Go.Proofs.YtjaopgjhmojpnaaW.PrintWords Go.Proofs.YtjaopgjhmojpnaaW.PrintLast Go.Proofs.YtjaopgjhmojpnaaW.PrintMore
attribute [local go_sem] max2_int min2_int max_two min_two max_three min_three max_four min_four   -- for this text's walks alone
set_option linter.unusedVariables false
set_option linter.unusedSimpArgs false

end Go.Proofs.Ytjaopgjhmojpnaa.X
