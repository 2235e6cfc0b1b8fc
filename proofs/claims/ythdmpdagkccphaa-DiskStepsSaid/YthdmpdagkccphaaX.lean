/- All of them. -/
import Derived.Test.YthdmpdagkccphaaXa
import Derived.Test.YthdmpdagkccphaaXb
import Derived.Test.YthdmpdagkccphaaXc
import Derived.Test.YthdmpdagkccphaaXd
