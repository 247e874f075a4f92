/- What a listed package variable holds, cell by cell. -/
import Derived.Test.YtpnfdndjaepbbaaVseX
namespace Go.Vse
open Go Go.ChangeShapes Go.WideShapes Go.RowKit

section
variable {H : Type}
variable {enc : TypeId × Value → H} {P : Program} {w : World} {base : Nat} {spare : Nat → Bool} {held : Bool}

end

end Go.Vse
