/- ALL CLEAN TEXTS -/
import Derived.Test.YtmhfanpijdgkjaaDoorSa0
import Derived.Test.YtmhfanpijdgkjaaDoorSa1
import Derived.Test.YtmhfanpijdgkjaaDoorSa2
import Derived.Test.YtmhfanpijdgkjaaDoorSa3
import Derived.Test.YtmhfanpijdgkjaaDoorSa4
import Derived.Test.YtmhfanpijdgkjaaDoorSa5
