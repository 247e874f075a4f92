/- Contracts of functions out of the executor's answers. -/
import Derived.Test.YtpnfdndjaepbbaaVseY
import Derived.Laws.BitsLemmas
namespace Go.Vse
open Go

section
variable [AbstRep]
/-- What a call in a small memory answers, without the names that are left. -/
def outC (r : MEx) : Option (LV × List (Nat × Tok) × List Nat × List Prop) := r.map fun x => (x.1, x.2.1, x.2.2.1, x.2.2.2.1)

theorem callOK_of {P : Program} {opq : Ctrs} (hct : CtOK P opq) {lf n : Nat} {f : FuncId} {args : List LV} {m : List Tok} {nt : Nat} {an : List Ans} {v : LV} {ch : List (Nat × Tok)} {rd : List Nat} {ob : List Prop}
    (h : outC (callX (runF P opq lf n) (.fn f) args m nt an) = some (v, ch, rd, ob)) (ho : AllP ob) : CallOK P f args (rd.map fun k => (k, memOf m k)) v ch := by
  unfold outC at h
  rw [Option.map_eq_some_iff] at h
  obtain ⟨⟨v', ch', rd', ob', an'⟩, h1, h2⟩ := h
  simp only [Prod.mk.injEq] at h2
  obtain ⟨rfl, rfl, rfl, rfl⟩ := h2
  exact fun M hM => (callX_sound (runF_sound P hct lf n) h1 ho).2 M (fun k hk => hM (k, memOf m k) (List.mem_map.2 ⟨k, hk, rfl⟩))

theorem pureOK_of {P : Program} {opq : Ctrs} (hct : CtOK P opq) {lf n : Nat} {f : FuncId} {args : List LV} {an : List Ans} {v : LV} {ob : List Prop}
    (h : outC (callX (runF P opq lf n) (.fn f) args [] 0 an) = some (v, [], [], ob)) (ho : AllP ob) : PureOK P f args v :=
  fun M => callOK_of hct h ho M (fun _ hk => by simp at hk)
end

theorem wrap_i64 {x : Int} (h : -9223372036854775808 ≤ x ∧ x ≤ 9223372036854775807) : IntKind.i64.wrap x = x := by
  rw [IntKind.wrap_i64]; omega

end Go.Vse
