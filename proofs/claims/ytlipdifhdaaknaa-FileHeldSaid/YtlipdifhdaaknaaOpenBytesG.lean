/-
  The walks of FileReads and FileHeld, and what opens their arguments.
-/
import Derived.Test.YtlipdifhdaaknaaFrC
import Derived.Test.YtlipdifhdaaknaaOpenBytesF
