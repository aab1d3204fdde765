/-
  The tables that are laid in the world: none. No condition.
-/
import Derived.WalkKit
namespace Go.Sx
open Go
def gdL:List (Nat×Array Value):= []
end Go.Sx
