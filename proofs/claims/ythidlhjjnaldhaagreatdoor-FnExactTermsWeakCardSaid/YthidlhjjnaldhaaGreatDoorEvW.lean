/- What functions tell, out of their bodies: functions that write a box of the caller's. Conditions as in the text before. -/
import Derived.Test.YthidlhjjnaldhaaGreatDoorEvV
namespace Go.Proofs.YthidlhjjnaldhaaGreatDoor.Ev
open Go
section
variable {E : Env} {dep : Nat}
end
section
variable {E : Env} {dep : Nat}
end
end Go.Proofs.YthidlhjjnaldhaaGreatDoor.Ev
