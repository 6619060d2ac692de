/- BfM, 14 -/
import Derived.Outline
import Derived.Deep.RegionHeld3
import Derived.Deep.RegionWith
import Derived.IntWalk
import Derived.Test.YtmkiphadkmodnaaGreatZBfM13
import Derived.Test.YtmkiphadkmodnaaGreatZBfM0


