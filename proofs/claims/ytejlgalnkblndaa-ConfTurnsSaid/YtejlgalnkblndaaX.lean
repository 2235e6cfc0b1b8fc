/- All of them. -/
import Derived.Test.YtejlgalnkblndaaXa
import Derived.Test.YtejlgalnkblndaaXb
import Derived.Test.YtejlgalnkblndaaXc
import Derived.Test.YtejlgalnkblndaaXd
import Derived.Test.YtejlgalnkblndaaXe
import Derived.Test.YtejlgalnkblndaaXf
import Derived.Test.YtejlgalnkblndaaXg
import Derived.Test.YtejlgalnkblndaaXh
