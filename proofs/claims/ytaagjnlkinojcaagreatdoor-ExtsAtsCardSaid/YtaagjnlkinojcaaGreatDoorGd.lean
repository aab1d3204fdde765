/-
  The tables that are laid in the world: the powers of ten. No condition.
-/
import Derived.WalkKit
import Derived.Lib.ItoaNum
namespace Go.Sx
open Go
abbrev gdN : Nat := 0
def gdL : List (Nat × Array Value) := [(gdN, (Lib.pow10Tab.map fun z => Value.int .u64 z).toArray)]
end Go.Sx
