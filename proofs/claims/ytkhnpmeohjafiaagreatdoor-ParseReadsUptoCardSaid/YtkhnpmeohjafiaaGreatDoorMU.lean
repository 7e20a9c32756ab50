/- Lemmas. -/
import Derived.Test.YtkhnpmeohjafiaaGreatDoorMT
import Derived.Test.YtkhnpmeohjafiaaGreatDoorMP
import Derived.Laws.StructEq
namespace Go.Proofs.YtkhnpmeohjafiaaGreatDoor
open Go.RowKit
end Go.Proofs.YtkhnpmeohjafiaaGreatDoor
