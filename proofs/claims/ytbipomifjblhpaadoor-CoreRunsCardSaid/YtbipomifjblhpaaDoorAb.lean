/- This seat's objects: there are none. -/
import Derived.Test.YtbipomifjblhpaaDoorVse2E
import Derived.Test.YtbipomifjblhpaaDoorRows
namespace Go.Proofs.YtbipomifjblhpaaDoor
open Go Go.Vse
instance seatAb : Abst := ⟨Empty, fun _ _ => none, fun _ _ => rfl⟩
instance seatRep : AbstRep := { seatAb with Rep := fun _ _ => False }
noncomputable abbrev P : Program := Tryd.prog
def noCt : Ctrs := fun _ => none
theorem noCt_ok : CtOK P noCt := fun _ _ h => by cases h
end Go.Proofs.YtbipomifjblhpaaDoor
