/- No shelf contract is wanted here. -/
import Derived.Test.YtcldpmkhpmlcbaaGreatDoorProg
