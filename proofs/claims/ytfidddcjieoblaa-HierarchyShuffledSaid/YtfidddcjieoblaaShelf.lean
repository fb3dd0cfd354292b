/-
  No library contract here.
-/
import Derived.Test.YtfidddcjieoblaaProg
