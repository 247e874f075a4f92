/- This seat's objects: there are none. -/
import Derived.Test.YtjjfnpidgochnaaVse2C
import Derived.Test.YtjjfnpidgochnaaRows
namespace Go.Proofs.Ytjjfnpidgochnaa
open Go Go.Vse
instance seatAb : Abst := ⟨Empty, fun _ _ => none, fun _ _ => rfl⟩
instance seatRep : AbstRep := { seatAb with Rep := fun _ _ => False }
noncomputable abbrev P : Program := Try.prog
abbrev cfg (c0 c1 c2 c3 c4 c5 c6 : Int) : LV := .agg [.s .i64 c0, .s .i64 c1, .s .i64 c2, .s .i64 c3, .s .i64 c4, .s .i64 c5, .s .i64 c6]
def mkOf (g word i : Int) : St := { fr := Tr.but 27 [(0, .s .i64 g), (1, .s .i64 word), (7, .s .i64 (2 * i)), (8, .s .i64 i)], n := 27, m := [], dm := [], wr := [] }
def finOf (x y : Int) : St := { fr := Tr.but 27 [(4, .s .i64 x), (5, .s .i64 y), (6, .b true)], n := 27, m := [], dm := [], wr := [] }
def anySt (n : Nat) : St := { fr := Tr.but n [], n := n, m := [], dm := [], wr := [] }
def noCt : Ctrs := fun _ => none
end Go.Proofs.Ytjjfnpidgochnaa
