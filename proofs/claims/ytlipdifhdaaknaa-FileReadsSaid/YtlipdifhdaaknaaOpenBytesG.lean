/-
  The walks of FileReads and FileHeld, and what opens their arguments.
-/
import Derived.Test.YtlipdifhdaaknaaFrB
import Derived.Test.YtlipdifhdaaknaaOpenBytesF
