/- Known numbers in memory, told as such that are not. -/
import Derived.Test.YtpnfdndjaepbbaaVse2D
namespace Go.Vse
open Go
section
variable [AbstRep]
def symT : Tok → Tok
  | .cells rw T cs => .cells rw T (symLs cs)
  | t => t
theorem symT_owns (t : Tok) : (symT t).owns = t.owns := by cases t <;> rfl
theorem symT_isRo (t : Tok) : (symT t).isRo = t.isRo := by cases t <;> rfl
theorem symT_isFree (t : Tok) : (symT t).isFree = t.isFree := by cases t <;> rfl
theorem symT_fo (t : Tok) (f : List Nat) : (symT t).fo f = t.fo f := by unfold Tok.fo; rw [symT_owns]
theorem symT_wf {A : Nat → Prop} (t : Tok) : (symT t).wf A ↔ t.wf A := by
  cases t <;> first | exact Iff.rfl | exact symLs_wf _
theorem symT_TokR {ρ : Env} {e : Nat × Nat} {f : List Nat} {h : Heap} (t : Tok) : TokR ρ e f (symT t) h ↔ TokR ρ e f t h := by
  cases t with
  | cells rw T cs =>
    show PlainR _ _ _ _ _ ↔ PlainR _ _ _ _ _
    unfold PlainR
    simp only [symT, Tok.isVec, Bool.false_eq_true, if_false, Tok.isRw, TR]
    constructor
    · rintro ⟨h1, vs, sp, h2, h3, h4⟩; exact ⟨h1, vs, sp, h2, (symLs_VRs _ _).1 h3, h4⟩
    · rintro ⟨h1, vs, sp, h2, h3, h4⟩; exact ⟨h1, vs, sp, h2, (symLs_VRs _ _).2 h3, h4⟩
  | _ => exact Iff.rfl
theorem symT_glob {t : Tok} {g : Nat} {T : TypeId} {cs : List LV} : symT t = .glob g T cs ↔ t = .glob g T cs := by
  cases t <;> simp [symT]

theorem SimF.sym {w0 : World} {pr : Nat → Prop} {ρ : Env} {φ : Nat → List Nat} {m m' : Mem} {w : World} (hm : ∀ k, symT (m k) = symT (m' k)) (h : SimF w0 pr ρ φ m w) : SimF w0 pr ρ φ m' w := by
  have ho : ∀ k, (m' k).owns = (m k).owns := fun k => by rw [← symT_owns, ← hm k, symT_owns]
  have hr : ∀ k, (m' k).isRo = (m k).isRo := fun k => by rw [← symT_isRo, ← hm k, symT_isRo]
  have hf : ∀ k, (m' k).isFree = (m k).isFree := fun k => by rw [← symT_isFree, ← hm k, symT_isFree]
  have hfo : ∀ k, (m' k).fo (φ k) = (m k).fo (φ k) := fun k => by rw [← symT_fo, ← hm k, symT_fo]
  have hal : ∀ k, al m' k ↔ al m k := fun k => by unfold al; rw [hf k]
  refine ⟨h.os, h.tape, h.output, h.size, h.prot, fun k => ?_, fun k b hb => h.fw k b (by rw [← hfo k]; exact hb), fun i j b hi hj => h.fi i j b (by rw [← hfo i]; exact hi) (by rw [← hfo j]; exact hj), fun k hk => h.ro k (by rw [← hr k]; exact hk), fun k => ?_, fun k g T cs hk => ?_⟩
  · exact (symT_TokR _).1 (hm k ▸ (symT_TokR _).2 (h.tok k))
  · refine (symT_wf _).1 (hm k ▸ (symT_wf _).2 (Tok.wf_mono (fun j hj => (hal j).2 hj) _ (h.wf k)))
  · refine h.gl k g T cs (symT_glob.1 ?_)
    rw [hm k]; exact symT_glob.2 hk
theorem symT_idem (t : Tok) : symT t = t ∨ ∃ rw T cs, t = .cells rw T cs := by cases t <;> first | exact .inl rfl | exact .inr ⟨_, _, _, rfl⟩

def symIdx (m : List Tok) : List Nat := (List.range m.length).filter fun k => match m.getD k .free with | .cells .. => true | _ => false

theorem symMem {m0 m : List Tok} (hm : m0.map symT = m.map symT) (k : Nat) : symT (memOf m0 k) = symT (memOf m k) := by
  have : (m0.map symT)[k]? = (m.map symT)[k]? := by rw [hm]
  simp only [List.getElem?_map] at this
  simp only [memOf, List.getD_eq_getElem?_getD]
  cases h0 : m0[k]? <;> cases h1 : m[k]? <;> simp_all [symT]

theorem FTrip.mem {P : Program} {f : FuncId} {args : List LV} {m0 m m' : List Tok} {v : LV} {wr : List Nat} (h : FTrip P f args m v m' wr) (hm : m0.map symT = m.map symT) : FTrip P f args m0 v m' (wr ++ symIdx m0) := by
  obtain ⟨⟨h1, h2, h3⟩, h4, h5⟩ := h
  have hk := symMem hm
  have hf : ∀ k, (memOf m0 k).isFree = (memOf m k).isFree := fun k => by rw [← symT_isFree, hk k, symT_isFree]
  have hal : ∀ k, al (memOf m0) k ↔ al (memOf m) k := fun k => by unfold al; rw [hf k]
  refine ⟨⟨fun k hk => h1 k ((hal k).1 hk), h2, fun F hF w0 pr ρ w vs R hs hv hw hK => ?_⟩, fun k hk' hn => ?_, fun k hk' => ?_⟩
  · obtain ⟨φ, hs⟩ := hs
    refine h3 F hF w0 pr ρ w vs R ⟨φ, hs.sym hk⟩ hv (wfL_mono (fun k h => (hal k).1 h) _ hw) (fun v' ρ' w' hag => hK v' ρ' w' (fun k hk' => hag k ((hal k).1 hk')))
  · simp only [List.mem_append, not_or] at hn
    rw [h4 k ((hal k).1 hk') hn.1]
    have hlt := al_lt hk'
    have hnc : ∀ rw T cs, memOf m0 k ≠ .cells rw T cs := fun rw T cs e => hn.2 (List.mem_filter.2 ⟨List.mem_range.2 hlt, by rw [show m0.getD k .free = memOf m0 k from rfl, e]⟩)
    have hk1 := hk k
    rcases symT_idem (memOf m0 k) with e0 | ⟨rw, T, cs, e0⟩
    · rcases symT_idem (memOf m k) with e1 | ⟨rw, T, cs, e1⟩
      · rw [e0, e1] at hk1; exact hk1.symm
      · rw [e0, e1] at hk1
        exact absurd hk1 (hnc _ _ _)
    · exact absurd e0 (hnc _ _ _)
  · have := h5 k hk'
    rw [← symT_isRo, ← hk k, symT_isRo] at this; exact this

/-- A contract out of a law of one call, whatever the answers. -/
def specT {σ : Type} (get : List LV → List Tok → Option σ) (A : σ → List LV) (M : σ → List Tok) (ob : σ → List Prop) (V : σ → LV) (M' : σ → List Tok) (wr : List Nat) : List LV → List Tok → List Ans → FOut := fun args m an =>
  match get (symLs args) (m.map symT) with
  | some p => some (V p, M' p, wr ++ symIdx m, (symLs args = symLs (A p)) :: (m.map symT = (M p).map symT) :: ob p, an)
  | none => none
theorem specT_ok {P : Program} {f : FuncId} {σ : Type} {get : List LV → List Tok → Option σ} {A : σ → List LV} {M : σ → List Tok} {ob : σ → List Prop} {V : σ → LV} {M' : σ → List Tok} {wr : List Nat}
    (h : ∀ p, AllP (ob p) → FTrip P f (A p) (M p) (V p) (M' p) wr) : SpecOK P f (specT get A M ob V M' wr) := fun args m an v m' wr' ob' an' hs ho => by
  unfold specT at hs
  split at hs
  · rename_i p hp
    cases hs
    simp only [AllP] at ho
    obtain ⟨h1, h2, h3⟩ := ho
    exact (((h p h3).args h1.symm).mem h2)
  · cases hs
/-- A contract that asks a condition. -/
def specB {σ : Type} (get : List LV → List Tok → Option σ) (A : σ → List LV) (M : σ → List Tok) (c : σ → Prop) (ob : σ → List Prop) (V : σ → Bool → LV) (M' : σ → Bool → List Tok) (wr : List Nat) : List LV → List Tok → List Ans → FOut := fun args m an =>
  match get (symLs args) (m.map symT) with
  | some p =>
    (match askB (c p) an with
     | some (r, ob1, an) => some (V p r, M' p r, wr ++ symIdx m, (symLs args = symLs (A p)) :: (m.map symT = (M p).map symT) :: (ob1 ++ ob p), an)
     | none => none)
  | none => none
theorem specB_ok {P : Program} {f : FuncId} {σ : Type} {get : List LV → List Tok → Option σ} {A : σ → List LV} {M : σ → List Tok} {c : σ → Prop} {ob : σ → List Prop} {V : σ → Bool → LV} {M' : σ → Bool → List Tok} {wr : List Nat}
    (h : ∀ p r, obB r (c p) → AllP (ob p) → FTrip P f (A p) (M p) (V p r) (M' p r) wr) : SpecOK P f (specB get A M c ob V M' wr) := fun args m an v m' wr' ob' an' hs ho => by
  unfold specB at hs
  split at hs
  · rename_i p hp
    split at hs
    · rename_i r ob1 an1 hask
      cases hs
      simp only [AllP, AllP_append] at ho
      obtain ⟨h1, h2, h3, h4⟩ := ho
      exact (((h p r (obB_iff.2 (askB_sound hask h3)) h4).args h1.symm).mem h2)
    · cases hs
  · cases hs
end
theorem AllP_nil : AllP [] := trivial
theorem AllP_cons {p : Prop} {ps : List Prop} (h : p) (hs : AllP ps) : AllP (p :: ps) := ⟨h, hs⟩
/-- Numbers alone. -/
def isI (fs : List Sc) : Prop := ∃ xs, fs = ints xs
theorem isI_ints (xs : List Int) : isI (ints xs) := ⟨xs, rfl⟩
def sA (fs : List Sc) (k : Int) : Int := match fs[k.toNat]? with | some (.i _ x) => x | _ => 0
theorem sA_at {fs : List Sc} (h : isI fs) {k : Int} (hk : k.toNat < fs.length) : (fs[k.toNat]?).map Sc.lv = some (.s .i64 (sA fs k)) := by
  obtain ⟨xs, rfl⟩ := h
  have hk' : k.toNat < xs.length := by simpa [ints] using hk
  simp [sA, ints, hk', Sc.lv]
theorem sA_nat {fs : List Sc} (h : isI fs) {j : Nat} (hk : j < fs.length) : (fs[j]?).map Sc.lv = some (.s .i64 (sA fs j)) := by
  have := sA_at h (k := (j : Int)) (by simpa using hk)
  simpa using this
end Go.Vse
