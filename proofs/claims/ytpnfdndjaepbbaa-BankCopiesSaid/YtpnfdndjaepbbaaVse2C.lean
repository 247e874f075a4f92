/- Laws that stand for calls: out of runs; results seen in another way. -/
import Derived.Test.YtpnfdndjaepbbaaVse2B
namespace Go.Vse
open Go

mutual
/-- Numbers and truths that are known, told as such that are not. -/
def symL : LV → LV
  | .i k x => .s k x
  | .b x => .sb x
  | .agg xs => .agg (symLs xs)
  | .tup xs => .tup (symLs xs)
  | x => x
def symLs : List LV → List LV
  | [] => []
  | x :: xs => symL x :: symLs xs
end
mutual
theorem symL_VR {ρ : Env} : ∀ (x : LV) (v : Value), VR ρ (symL x) v ↔ VR ρ x v
  | .i _ _, _ => by simp only [symL, VR]
  | .b _, _ => by simp only [symL, VR]
  | .agg xs, _ => by simp only [symL, VR]; exact ⟨fun ⟨vs, e, h⟩ => ⟨vs, e, (symLs_VRs xs vs).1 h⟩, fun ⟨vs, e, h⟩ => ⟨vs, e, (symLs_VRs xs vs).2 h⟩⟩
  | .tup xs, _ => by simp only [symL, VR]; exact ⟨fun ⟨vs, e, h⟩ => ⟨vs, e, (symLs_VRs xs vs).1 h⟩, fun ⟨vs, e, h⟩ => ⟨vs, e, (symLs_VRs xs vs).2 h⟩⟩
  | .s .., _ => by simp only [symL]
  | .sb _, _ => by simp only [symL]
  | .v _, _ => by simp only [symL]
  | .p0, _ => by simp only [symL]
  | .p .., _ => by simp only [symL]
  | .ps .., _ => by simp only [symL]
  | .n0, _ => by simp only [symL]
  | .sl .., _ => by simp only [symL]
  | .ss .., _ => by simp only [symL]
  | .se _, _ => by simp only [symL]
  | .so .., _ => by simp only [symL]
  | .fn .., _ => by simp only [symL]
  | .yl _, _ => by simp only [symL]
  | .f0, _ => by simp only [symL]
  | .any, _ => by simp only [symL]
theorem symLs_VRs {ρ : Env} : ∀ (xs : List LV) (vs : List Value), VRs ρ (symLs xs) vs ↔ VRs ρ xs vs
  | [], vs => by simp only [symLs]
  | x :: xs, vs => by
    simp only [symLs, VRs]
    exact ⟨fun ⟨v, r, e, h1, h2⟩ => ⟨v, r, e, (symL_VR x v).1 h1, (symLs_VRs xs r).1 h2⟩, fun ⟨v, r, e, h1, h2⟩ => ⟨v, r, e, (symL_VR x v).2 h1, (symLs_VRs xs r).2 h2⟩⟩
end
mutual
theorem symL_wf {A : Nat → Prop} : ∀ (x : LV), (symL x).wf A ↔ x.wf A
  | .i _ _ => by simp only [symL, LV.wf]
  | .b _ => by simp only [symL, LV.wf]
  | .agg xs => by simp only [symL, LV.wf]; exact symLs_wf xs
  | .tup xs => by simp only [symL, LV.wf]; exact symLs_wf xs
  | .s .. => by simp only [symL]
  | .sb _ => by simp only [symL]
  | .v _ => by simp only [symL]
  | .p0 => by simp only [symL]
  | .p .. => by simp only [symL]
  | .ps .. => by simp only [symL]
  | .n0 => by simp only [symL]
  | .sl .. => by simp only [symL]
  | .ss .. => by simp only [symL]
  | .se _ => by simp only [symL]
  | .so .. => by simp only [symL]
  | .fn .. => by simp only [symL]
  | .yl _ => by simp only [symL]
  | .f0 => by simp only [symL]
  | .any => by simp only [symL]
theorem symLs_wf {A : Nat → Prop} : ∀ (xs : List LV), wfL A (symLs xs) ↔ wfL A xs
  | [] => by simp only [symLs]
  | x :: xs => by simp only [symLs, wfL]; rw [symL_wf x, symLs_wf xs]
end

theorem obT {p : Prop} (h : p) : obB true p := h
theorem obF {p : Prop} (h : ¬ p) : obB false p := h

section
variable [AbstRep]
/-- A law of one call on a small memory. -/
def FTrip (P : Program) (f : FuncId) (args : List LV) (m : List Tok) (v : LV) (m' : List Tok) (wr : List Nat) : Prop :=
  FSpec P (.fn f) args (memOf m) v (memOf m') ∧ (∀ k, al (memOf m) k → k ∉ wr → memOf m' k = memOf m k) ∧ (∀ k, (memOf m' k).isRo = true → (memOf m k).isRo = true)

theorem FTrip.run {P : Program} {opq : Ctrs} (hct : CtOK P opq) {lf n : Nat} {f : FuncId} {args : List LV} {m m' : List Tok} {an an' : List Ans} {v : LV} {wr : List Nat} {ob : List Prop}
    (h : runF P opq lf n (.fn f) args m an = some (v, m', wr, ob, an')) (ho : AllP ob) : FTrip P f args m v m' wr := runF_sound P hct lf n _ _ _ _ _ _ _ _ _ h ho

theorem FTrip.pure {P : Program} {f : FuncId} {args : List LV} {v : LV} (h : PureOK P f args v) (m : List Tok) : FTrip P f args m v m [] :=
  ⟨h (memOf m), fun _ _ _ => rfl, fun _ h => h⟩

theorem FTrip.args {P : Program} {f : FuncId} {args args' : List LV} {m m' : List Tok} {v : LV} {wr : List Nat} (h : FTrip P f args m v m' wr) (he : symLs args = symLs args') : FTrip P f args' m v m' wr := by
  obtain ⟨⟨h1, h2, h3⟩, h4, h5⟩ := h
  refine ⟨⟨h1, h2, fun F hF w0 pr ρ w vs R hs hv hw hK => ?_⟩, h4, h5⟩
  exact h3 F hF w0 pr ρ w vs R hs ((symLs_VRs _ _).1 (he ▸ (symLs_VRs _ _).2 hv)) ((symLs_wf _).1 (he ▸ (symLs_wf _).2 hw)) hK

theorem FTrip.val {P : Program} {f : FuncId} {args : List LV} {m m' : List Tok} {v v' : LV} {wr : List Nat} (h : FTrip P f args m v m' wr) (he : symL v = symL v') : FTrip P f args m v' m' wr := by
  obtain ⟨⟨h1, h2, h3⟩, h4, h5⟩ := h
  refine ⟨⟨h1, (symL_wf _).1 (he ▸ (symL_wf _).2 h2), fun F hF w0 pr ρ w vs R hs hv hw hK => ?_⟩, h4, h5⟩
  exact h3 F hF w0 pr ρ w vs R hs hv hw (fun v1 ρ' w' hag hv1 hs' => hK v1 ρ' w' hag ((symL_VR _ _).1 (he ▸ (symL_VR _ _).2 hv1)) hs')

/-- What comes of a call, seen in another way: the tokens that were there stay. -/
def resW (m : List Tok) (src : Src) (v1 : LV) (m1 : List Tok) (v2 : LV) (m2 : List Tok) (wr : List Nat) : Option (List Prop) :=
  if (List.range m.length).all (fun k => (m.getD k .free).isFree || okIn m2 k) && (List.range m2.length).all (fun k => !(m2.getD k .free).isRo || (m.getD k .free).isRo)
      && v2.toks.all (okIn m2)
  then
    match memW m.length src m1 m2, lvW (nameOf src) v1 v2 with
    | some a, some b => some (((List.range m.length).filter fun k => !(wr.contains k) && !(m.getD k .free).isFree).map (fun k => m2.getD k .free = m.getD k .free) ++ (a ++ b))
    | _, _ => none
  else none

theorem al_lt {m : List Tok} {k : Nat} (hk : al (memOf m) k) : k < m.length := by
  rcases Nat.lt_or_ge k m.length with h | h
  · exact h
  · unfold al at hk; rw [memOf_len h] at hk; cases hk

theorem FTrip.res {P : Program} {f : FuncId} {args : List LV} {m m1 m2 : List Tok} {v1 v2 : LV} {wr wr2 : List Nat} (h : FTrip P f args m v1 m1 wr) {src : Src} {r : List Prop} (hr : resW m src v1 m1 v2 m2 wr2 = some r) (ho : AllP r) : FTrip P f args m v2 m2 wr2 := by
  unfold resW at hr
  split at hr
  · rename_i hc
    simp only [Bool.and_eq_true, List.all_eq_true, List.mem_range, Bool.or_eq_true, Bool.not_eq_true'] at hc
    obtain ⟨⟨c1, c2⟩, c3⟩ := hc
    split at hr
    · rename_i a b ha hb
      cases hr
      rw [AllP_append, AllP_append] at ho
      obtain ⟨⟨h1, h2, h3⟩, h4, h5⟩ := h
      refine ⟨⟨fun k hk => ?_, LV.toks_wf _ (fun k hk => okIn_al (c3 k hk)), fun F hF w0 pr ρ w vs R hs hv hw hK => ?_⟩, fun k hk hw => ?_, fun k hk => ?_⟩
      · rcases c1 k (al_lt hk) with e | e
        · unfold al at hk; rw [show memOf m k = m.getD k .free from rfl, e] at hk; cases hk
        · exact okIn_al e
      · refine h3 F hF w0 pr ρ w vs R hs hv hw (fun v' ρ' w' hag hv' hs' => ?_)
        obtain ⟨g1, g2, g3⟩ := memW_sound ha ho.2.1 hs'
        exact hK v' _ w' (fun k hk => (g1 k (al_lt hk)).trans (hag k hk)) (lvW_sound g2 _ _ _ hb ho.2.2 _ hv') g3
      · refine allP_mem ho.1 _ (List.mem_map.2 ⟨k, List.mem_filter.2 ⟨List.mem_range.2 (al_lt hk), ?_⟩, rfl⟩)
        have : (m.getD k .free).isFree = false := hk
        simp only [this, Bool.not_false, Bool.and_true, Bool.not_eq_true']
        simpa using hw
      · rcases Nat.lt_or_ge k m2.length with h | h
        · rcases c2 k h with e | e
          · rw [show memOf m2 k = m2.getD k .free from rfl, e] at hk; cases hk
          · exact e
        · rw [memOf_len h] at hk; cases hk
    · cases hr
  · cases hr

/-- A call, run, and what comes of it seen in another way. -/
def callR (P : Program) (opq : Ctrs) (lf n : Nat) (f : FuncId) (args : List LV) (m : List Tok) (an : List Ans) (src : Src) (v2 : LV) (m2 : List Tok) (wr2 : List Nat) : Option (List Prop) :=
  match runF P opq lf n (.fn f) args m an with
  | some (v, m', _, ob, _) =>
    (match resW m src v m' v2 m2 wr2 with
     | some ob2 => some (ob ++ ob2)
     | none => none)
  | none => none
theorem FTrip.callR {P : Program} {opq : Ctrs} (hct : CtOK P opq) {lf n : Nat} {f : FuncId} {args : List LV} {m : List Tok} {an : List Ans} {src : Src} {v2 : LV} {m2 : List Tok} {wr2 : List Nat} {ob : List Prop}
    (h : Go.Vse.callR P opq lf n f args m an src v2 m2 wr2 = some ob) (ho : AllP ob) : FTrip P f args m v2 m2 wr2 := by
  unfold Go.Vse.callR at h
  split at h
  · rename_i v m' wr ob1 an' h1
    split at h
    · rename_i ob2 h2
      cases h
      rw [AllP_append] at ho
      exact (FTrip.run hct h1 ho.1).res h2 ho.2
    · cases h
  · cases h
end
end Go.Vse
