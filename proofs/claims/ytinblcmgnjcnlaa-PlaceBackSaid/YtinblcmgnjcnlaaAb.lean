/- This seat's objects: there are none. -/
import Derived.Test.YtinblcmgnjcnlaaVse2F
import Derived.Test.YtinblcmgnjcnlaaRows
namespace Go.Proofs.Ytinblcmgnjcnlaa
open Go Go.Vse
inductive AbT where
  | non
instance seatAb : Abst := ⟨AbT, fun _ _ => none, fun _ _ => rfl⟩
instance seatRep : AbstRep := { seatAb with Rep := fun _ _ => False }
noncomputable abbrev P : Program := Try.prog
def noCt : Ctrs := fun _ => none
theorem noCt_ok : CtOK P noCt := fun _ _ h => by cases h
def okI (c0 c1 c2 c3 c4 c5 c6 : Int) : Prop := (1 ≤ c0 ∧ c0 ≤ 4) ∧ (1 ≤ c1 ∧ c1 ≤ 16) ∧ (1 ≤ c2 ∧ c2 ≤ 8) ∧ (1 ≤ c3 ∧ c3 ≤ 4) ∧ (1 ≤ c4 ∧ c4 ≤ 16) ∧ (1 ≤ c5 ∧ c5 ≤ 8) ∧ (1 ≤ c6 ∧ c6 ≤ 4)
end Go.Proofs.Ytinblcmgnjcnlaa
