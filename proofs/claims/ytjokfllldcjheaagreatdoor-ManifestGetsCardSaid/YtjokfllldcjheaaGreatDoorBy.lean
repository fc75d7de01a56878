/- Slices of bytes: read (RB), owned (OB); a byte of a text. -/
import Derived.Test.YtjokfllldcjheaaGreatDoorShaM
