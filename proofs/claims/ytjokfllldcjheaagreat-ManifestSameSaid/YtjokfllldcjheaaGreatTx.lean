/- Rows of texts: read (SR), owned (OT). -/
import Derived.Test.YtjokfllldcjheaaGreatTxt
import Derived.Test.YtjokfllldcjheaaGreatSg
