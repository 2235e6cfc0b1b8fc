/- All of them. -/
import Derived.Test.YthdmpdagkccphaaWa
import Derived.Test.YthdmpdagkccphaaWb
import Derived.Test.YthdmpdagkccphaaWc
import Derived.Test.YthdmpdagkccphaaWd
