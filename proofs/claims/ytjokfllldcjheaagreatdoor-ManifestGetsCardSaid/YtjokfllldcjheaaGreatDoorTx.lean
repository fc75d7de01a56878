/- Rows of texts: read (SR), owned (OT). -/
import Derived.Test.YtjokfllldcjheaaGreatDoorTxt
import Derived.Test.YtjokfllldcjheaaGreatDoorSg
