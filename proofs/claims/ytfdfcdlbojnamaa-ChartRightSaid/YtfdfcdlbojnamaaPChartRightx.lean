-- PRINTED BY print.sh 35421559b90ae4d0a3588c463048766b98c2df88dd9212a6774a882060cdf62d: not written by this session
import Derived.Test.YtfdfcdlbojnamaaPChartRightx0
import Derived.Test.YtfdfcdlbojnamaaPChartRightx1
import Derived.Test.YtfdfcdlbojnamaaPChartRightx2
import Derived.Test.YtfdfcdlbojnamaaPChartRightx3
import Derived.Test.YtfdfcdlbojnamaaPChartRightx4
import Derived.Test.YtfdfcdlbojnamaaPChartRightx5
import Derived.Test.YtfdfcdlbojnamaaPChartRightx6
import Derived.Test.YtfdfcdlbojnamaaPChartRightx7
namespace Go.Proofs.Ytfdfcdlbojnamaa.PChartRight
open Go.RowKit Go.Proofs.YtfdfcdlbojnamaaW.PrintWords Go.Proofs.YtfdfcdlbojnamaaW.PrintLast Go.Proofs.YtfdfcdlbojnamaaW.PrintMore
attribute [local go_sem] max2_int min2_int max_two min_two max_three min_three max_four min_four   -- for this text's walks alone
set_option linter.unusedVariables false
set_option linter.unusedSimpArgs false

end Go.Proofs.Ytfdfcdlbojnamaa.PChartRight
