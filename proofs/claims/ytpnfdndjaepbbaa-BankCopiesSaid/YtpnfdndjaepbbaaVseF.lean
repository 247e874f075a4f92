/- The executor's pure operations are right. -/
import Derived.Test.YtpnfdndjaepbbaaVseE
namespace Go.Vse
open Go

section
variable {P : Program} {ρ : Env} {A : Nat → Prop} {w : World}

theorem cells_one {v : Value} (h : ∀ c, v ≠ .agg c) : v.cells = #[v] := by
  cases v with
  | agg c => exact absurd rfl (h c)
  | _ => rfl

theorem cells_VRs {x : LV} {v : Value} (ha : x.isAny = false) (h : VR ρ x v) : VRs ρ (cellsL x) v.cells.toList := by
  have h' := h
  cases x with
  | any => simp [LV.isAny] at ha
  | so k l z => simp only [VR, SoR] at h; obtain ⟨o', cap, rfl, _⟩ := h; exact ⟨_, [], rfl, h', rfl⟩
  | agg xs =>
    simp only [VR] at h; obtain ⟨vs, rfl, hv⟩ := h
    simpa [cellsL, Value.cells] using hv
  | v y => simp only [VR] at h; rw [cells_one (by rw [h.1]; exact h.2.1)]; exact ⟨v, [], rfl, h', rfl⟩
  | sl k o l c z => simp only [VR, SlR] at h; obtain ⟨o', cap, rfl, _⟩ := h; exact ⟨_, [], rfl, h', rfl⟩
  | ss k o l c z => simp only [VR, SlR] at h; obtain ⟨o', cap, rfl, _⟩ := h; exact ⟨_, [], rfl, h', rfl⟩
  | tup xs => simp only [VR] at h; obtain ⟨vs, rfl, _⟩ := h; exact ⟨_, [], rfl, h', rfl⟩
  | se k => simp only [VR] at h; obtain ⟨o', rfl⟩ := h; exact ⟨_, [], rfl, h', rfl⟩
  | fn f xs => simp only [VR] at h; obtain ⟨vs, rfl, _⟩ := h; exact ⟨_, [], rfl, h', rfl⟩
  | _ => simp only [VR] at h; subst h; exact ⟨_, [], rfl, h', rfl⟩

theorem cells_wf {x : LV} (h : x.wf A) : wfL A (cellsL x) := by
  cases x <;> simp only [cellsL, wfL, and_true] <;> first | exact h | (simp only [LV.wf] at h; exact h)

theorem ofVal1_sound {v : Value} {x : LV} (h : ofVal1 v = some x) : VR ρ x v ∧ x.wf A := by
  unfold ofVal1 at h
  split at h <;> first | cases h; simp [VR, LV.wf] | cases h

theorem ofVal1_any {v : Value} {x : LV} (h : ofVal1 v = some x) : x.isAny = false := by
  unfold ofVal1 at h
  split at h <;> first | cases h; rfl | cases h
theorem ofVal_any {v : Value} {x : LV} (h : ofVal v = some x) : x.isAny = false := by
  unfold ofVal at h
  split at h
  · rename_i cs
    cases hx : ofVals cs.toList with
    | none => rw [hx] at h; cases h
    | some xs => rw [hx] at h; cases h; rfl
  · split at h <;> cases h; rfl
  · exact ofVal1_any h
theorem zeroL_any {P : Program} {t : TypeId} {x : LV} (h : zeroL P t = some x) : x.isAny = false := by
  unfold zeroL at h
  rw [Option.bind_eq_some_iff] at h
  obtain ⟨v, _, h⟩ := h
  exact ofVal_any h

theorem ofVals_sound : ∀ {vs : List Value} {xs : List LV}, ofVals vs = some xs → VRs ρ xs vs ∧ wfL A xs
  | [], xs, h => by simp only [ofVals] at h; cases h; simp [VRs, wfL]
  | v :: vs, xs, h => by
    simp only [ofVals] at h
    split at h
    · rename_i y ys h1 h2
      cases h
      have a1 := ofVal1_sound (ρ := ρ) (A := A) h1
      have a2 := ofVals_sound (vs := vs) h2
      simp only [VRs, wfL]
      exact ⟨⟨v, vs, rfl, a1.1, a2.1⟩, a1.2, a2.2⟩
    · cases h

theorem ofVal_sound {v : Value} {x : LV} (h : ofVal v = some x) : VR ρ x v ∧ x.wf A := by
  unfold ofVal at h
  split at h
  · rename_i cs
    cases hx : ofVals cs.toList with
    | none => rw [hx] at h; cases h
    | some xs =>
      rw [hx] at h; cases h
      have := ofVals_sound (ρ := ρ) (A := A) hx
      simp only [VR, LV.wf]
      exact ⟨⟨cs.toList, by simp, this.1⟩, this.2⟩
  · rename_i cs
    split at h
    · rename_i he
      cases h
      simp only [VR, LV.wf, wfL]
      exact ⟨⟨[], by simp at he; simp [he], by simp [VRs]⟩, trivial⟩
    · cases h
  · exact ofVal1_sound h

theorem evO_sound {fr : Tmp → LV} {a : Act} {x : Operand} {lx : LV} (h : evO fr x = some lx) (hl : ∀ t, x = .tmp t → VR ρ (fr t) (a.tmps.getD t undef) ∧ (fr t).wf A) :
    VR ρ lx (a.eval x) ∧ lx.wf A := by
  cases x with
  | tmp t => simp only [evO] at h; cases h; exact hl t rfl
  | const v => exact ofVal_sound h
  | global g => simp only [evO] at h; cases h; simp [VR, LV.wf, Act.eval]
  | func f => simp only [evO] at h; cases h; simp only [VR, LV.wf, wfL, Act.eval]; exact ⟨⟨[], rfl, by simp [VRs]⟩, trivial⟩

theorem run_isAggL {t : TypeId} {b : Bool} (h : aggB P t = some b) : (isAgg t).run P w = .ok b w := by
  unfold aggB at h
  unfold isAgg
  cases hu : P.underlying t with
  | none => rw [hu] at h; cases h
  | some d =>
    rw [hu] at h
    simp only [Sem.run_bind, run_underlying hu, Result.andThen]
    cases d <;> (simp only at h; cases h; rfl)

theorem run_sizeL {t : TypeId} {n : Nat} (h : sizL P t = some n) : (sizeOf t).run P w = .ok n w := by
  unfold sizL at h
  cases hi : P.info? t with
  | none => rw [hi] at h; cases h
  | some i => rw [hi] at h; cases h; simp [sizeOf, typeInfo, hi, Result.andThen]

theorem part_sound {t : TypeId} {cs : List LV} {off : Nat} {x : LV} (h : partL P t cs off = some x) {vs : List Value} (hv : VRs ρ cs vs) :
    ∃ v, (part t vs.toArray off).run P w = .ok v w ∧ VR ρ x v ∧ (wfL A cs → x.wf A) := by
  unfold partL at h
  have hl := VRs_length hv
  split at h
  · rename_i n ha hs
    split at h
    · rename_i hle
      cases h
      refine ⟨.agg ((vs.drop off).take n).toArray, ?_, ?_, ?_⟩
      · unfold part
        simp only [Sem.run_bind, run_isAggL ha, Result.andThen, if_true, run_sizeL hs, Sem.run_pure]
        congr 2
        apply Array.ext'
        simp [List.extract_eq_take_drop]
      · simp only [VR]; exact ⟨_, rfl, VRs_take (VRs_drop hv off) n⟩
      · intro hw
        simp only [LV.wf]
        rw [wfL_iff] at hw ⊢
        exact fun y hy => hw y (List.mem_of_mem_drop (List.mem_of_mem_take hy))
    · cases h
  · rename_i ha
    obtain ⟨v, h1, h2⟩ := VRs_get hv off x h
    refine ⟨v, ?_, h2, fun hw => ?_⟩
    · unfold part
      simp only [Sem.run_bind, run_isAggL ha, Result.andThen, Bool.false_eq_true, if_false]
      simp [h1]
    · rw [wfL_iff] at hw; exact hw x (List.mem_of_getElem? h)
  · cases h

theorem VRs_splice {xs ys : List LV} {vs us : List Value} (h : VRs ρ xs vs) (h' : VRs ρ ys us) (o : Nat) : VRs ρ (spliceL xs o ys) (spliceL vs o us) := by
  unfold spliceL
  rw [VRs_length h']
  exact VRs_append (VRs_append (VRs_take h o) h') (VRs_drop h _)

theorem wfL_append {xs ys : List LV} : wfL A (xs ++ ys) ↔ wfL A xs ∧ wfL A ys := by simp only [wfL_iff, List.mem_append]; exact ⟨fun h => ⟨fun x hx => h x (.inl hx), fun x hx => h x (.inr hx)⟩, fun h x hx => hx.elim (h.1 x) (h.2 x)⟩
theorem wfL_take {xs : List LV} (h : wfL A xs) (n : Nat) : wfL A (xs.take n) := by rw [wfL_iff] at *; exact fun x hx => h x (List.mem_of_mem_take hx)
theorem wfL_drop {xs : List LV} (h : wfL A xs) (n : Nat) : wfL A (xs.drop n) := by rw [wfL_iff] at *; exact fun x hx => h x (List.mem_of_mem_drop hx)
theorem wfL_splice {xs ys : List LV} (h : wfL A xs) (h' : wfL A ys) (o : Nat) : wfL A (spliceL xs o ys) := by
  unfold spliceL; exact wfL_append.2 ⟨wfL_append.2 ⟨wfL_take h o, h'⟩, wfL_drop h _⟩

theorem foldl_splice : ∀ (us vs : List Value) (off : Nat), off + us.length ≤ vs.length →
    (us.zipIdx.foldl (fun (cs : List Value) (p : Value × Nat) => cs.set (off + p.2) p.1) vs) = spliceL vs off us := by
  have key : ∀ (us vs : List Value) (off s : Nat), off + s + us.length ≤ vs.length → ((us.zipIdx s).foldl (fun (cs : List Value) (p : Value × Nat) => cs.set (off + p.2) p.1) vs) = spliceL vs (off + s) us := by
    intro us
    induction us with
    | nil => intro vs off s _; simp [spliceL_nil]
    | cons u us ih =>
      intro vs off s h
      simp only [List.length_cons] at h
      simp only [List.zipIdx_cons, List.foldl_cons]
      rw [ih (vs.set (off + s) u) off (s + 1) (by simp; omega), ← Nat.add_assoc, spliceL_cons (by simp; omega)]
  intro us vs off h
  exact key us vs off 0 (by simpa using h)

def VRs' (ρ : Env) (A : Nat → Prop) : List LV → List Value → Prop
  | [], vs => vs = []
  | x :: xs, vs => match vs with | [] => False | v :: r => (x.isAny = false ∧ VR ρ x v ∧ x.wf A) ∧ VRs' ρ A xs r

theorem fill_sound {pl pl' : Nat → Option (Nat × Nat)} (hpl : ∀ i x, pl i = some x → pl' i = some x) : ∀ {parts : List (Nat × LV)} {cs r : List LV}, fillL pl cs parts = some r → ∀ {vs : List Value} {vp : List (Nat × Value)}, VRs ρ cs vs → wfL A cs →
    (vp.map (·.1) = parts.map (·.1)) → VRs' ρ A (parts.map (·.2)) (vp.map (·.2)) → ∃ rs, Instr.fill pl' vs.toArray vp = some rs.toArray ∧ VRs ρ r rs ∧ wfL A r
  | [], cs, r, h, vs, vp, hv, hw, hi, _ => by
    simp only [fillL] at h; cases h
    have : vp = [] := by simpa using hi
    subst this
    exact ⟨vs, rfl, hv, hw⟩
  | (i, x) :: parts, cs, r, h, vs, vp, hv, hw, hi, hx => by
    cases vp with
    | nil => simp at hi
    | cons q vp =>
      obtain ⟨j, u⟩ := q
      simp only [List.map_cons, List.cons.injEq] at hi
      obtain ⟨rfl, hi⟩ := hi
      simp only [List.map_cons, VRs'] at hx
      obtain ⟨⟨hxa, hxu, hxw⟩, hx⟩ := hx
      simp only [fillL] at h
      split at h
      · cases h
      · rename_i off size hp
        split at h
        · rename_i hc
          have hcv := cells_VRs hxa hxu
          have hlen := VRs_length hcv
          have hvl := VRs_length hv
          obtain ⟨rs, h1, h2, h3⟩ := fill_sound hpl h (VRs_splice hv hcv off) (wfL_splice hw (cells_wf hxw) off) hi hx
          refine ⟨rs, ?_, h2, h3⟩
          simp only [Instr.fill, hpl _ _ hp]
          have hs : u.cells.size = size := by rw [← Array.length_toList, hlen]; exact hc.1
          rw [if_neg (by simp [hs]; omega), ← h1]
          congr 1
          rw [← foldl_splice u.cells.toList vs off (by rw [Array.length_toList, hs]; omega)]
          rw [← Array.foldl_toList, Array.toList_zipIdx]
          generalize (u.cells.toList.zipIdx) = l
          clear h1 h2 h3 h hc hcv hlen hv hvl hw hs hp
          induction l generalizing vs with
          | nil => simp
          | cons p l ih => simp [ih]
        · cases h

/-! ### Equality -/

theorem asI_sound {x : LV} {v : Value} {k : IntKind} {a : Int} {s : Bool} (h : asI x = some (k, a, s)) (hv : VR ρ x v) : v = .int k a := by
  unfold asI at h
  split at h
  · cases h; simpa only [VR] using hv
  · cases h; simpa only [VR] using hv
  · cases h

theorem asB_sound {x : LV} {v : Value} {a s : Bool} (h : asB x = some (a, s)) (hv : VR ρ x v) : v = .bool a := by
  unfold asB at h
  split at h <;> cases h <;> simpa only [VR] using hv
section
variable [AbstRep]
theorem askB_sound {p : Prop} {an an' : List Ans} {r : Bool} {o : List Prop} (h : askB p an = some (r, o, an')) (ho : AllP o) : r = true ↔ p := by
  unfold askB at h
  split at h
  · cases h; simp only [AllP, and_true] at ho; exact obB_iff.1 ho
  · cases h; simp only [AllP, and_true] at ho; exact obB_iff.1 ho
theorem askX_sound {p : Prop} {an an' : List Ans} {r : LV} {o : List Prop} (h : askX p an = some (r, o, an')) (ho : AllP o) : ∃ b, r = .b b ∧ (b = true ↔ p) := by
  unfold askX at h
  split at h
  · cases h; simp only [AllP, and_true] at ho; exact ⟨_, rfl, obB_iff.1 ho⟩
  · cases h; simp only [AllP, and_true] at ho; exact ⟨_, rfl, obB_iff.1 ho⟩
end

/-- What is held against each other, and what comes of it. -/
def EqRuns (P : Program) (ρ : Env) (w : World) (D : Nat) (t : TypeId) (x y : LV) (r : Bool) : Prop :=
  ∀ u v, VR ρ x u → VR ρ y v → (Op.equalIn D t u v).run P w = .ok r w

section
variable [AbstRep]
theorem eqAll_sound {f : TypeId → LV → LV → List Ans → Ex Bool} {Rn : TypeId → LV → LV → Bool → Prop} (hf : ∀ t a b an r o an', f t a b an = some (r, o, an') → AllP o → Rn t a b r) :
    ∀ (l : List (TypeId × LV × LV)) (an : List Ans) (r : Bool) (o : List Prop) (an' : List Ans), eqAll f l an = some (r, o, an') → AllP o →
      ∃ n, n ≤ l.length ∧ (∀ j q, j < n → l[j]? = some q → Rn q.1 q.2.1 q.2.2 true) ∧ ((r = true ∧ n = l.length) ∨ (r = false ∧ ∃ q, l[n]? = some q ∧ Rn q.1 q.2.1 q.2.2 false))
  | [], an, r, o, an', h, _ => by
    simp only [eqAll] at h; cases h
    exact ⟨0, by simp, fun j q hj => by omega, .inl ⟨rfl, rfl⟩⟩
  | (t, a, b) :: l, an, r, o, an', h, ho => by
    simp only [eqAll] at h
    split at h
    · cases h
    · rename_i o1 an1 h1
      cases h
      exact ⟨0, by simp, fun j q hj => by omega, .inr ⟨rfl, (t, a, b), by simp, hf _ _ _ _ _ _ _ h1 ho⟩⟩
    · rename_i o1 an1 h1
      split at h
      · cases h
      · rename_i x o2 an2 h2
        cases h
        rw [AllP_append] at ho
        obtain ⟨n, hn, hall, hr⟩ := eqAll_sound hf l _ _ _ _ h2 ho.2
        refine ⟨n + 1, by simp; omega, fun j q hj hq => ?_, ?_⟩
        · cases j with
          | zero => simp at hq; subst hq; exact hf _ _ _ _ _ _ _ h1 ho.1
          | succ j => simp at hq; exact hall j q (by omega) hq
        · rcases hr with ⟨h3, h4⟩ | ⟨h3, q, h4, h5⟩
          · exact .inl ⟨h3, by simp [h4]⟩
          · exact .inr ⟨h3, q, by simpa using h4, h5⟩
end

/-- The rounds over a struct's fields, as the model runs them. -/
def fieldsRun (P : Program) (D : Nat) (xs ys : Array Value) : List Field → Sem Bool
  | [] => pure true
  | f :: fs => do
    if f.name ≠ "_" then
      if !(← Op.equalIn D f.type (← part f.type xs f.offset) (← part f.type ys f.offset)) then return false
    fieldsRun P D xs ys fs

theorem fieldsRun_sound {D : Nat} {xs ys : List LV} {us vs : List Value} (hx : VRs ρ xs us) (hy : VRs ρ ys vs) : ∀ (fs : List Field) (l : List (TypeId × LV × LV)), pairsS P fs xs ys = some l → ∀ (r : Bool) (n : Nat), n ≤ l.length →
    (∀ j q, j < n → l[j]? = some q → EqRuns P ρ w D q.1 q.2.1 q.2.2 true) → ((r = true ∧ n = l.length) ∨ (r = false ∧ ∃ q, l[n]? = some q ∧ EqRuns P ρ w D q.1 q.2.1 q.2.2 false)) →
    (fieldsRun P D us.toArray vs.toArray fs).run P w = .ok r w
  | [], l, h, r, n, hn, hall, hr => by
    simp only [pairsS] at h; cases h
    rcases hr with ⟨rfl, _⟩ | ⟨_, q, hq, _⟩
    · rfl
    · simp at hq
  | f :: fs, l, h, r, n, hn, hall, hr => by
    simp only [pairsS] at h
    split at h
    · cases h
    · rename_i hname
      split at h
      · rename_i a b r' h1 h2 h3
        cases h
        obtain ⟨va, e1, v1, _⟩ := part_sound (P := P) (A := fun _ => True) (w := w) h1 hx
        obtain ⟨vb, e2, v2, _⟩ := part_sound (P := P) (A := fun _ => True) (w := w) h2 hy
        simp only [fieldsRun, ne_eq, hname, not_false_eq_true, if_true, Sem.run_bind, e1, e2, Result.andThen]
        cases n with
        | zero =>
          rcases hr with ⟨_, h0⟩ | ⟨rfl, q, hq, hq2⟩
          · simp at h0
          · simp at hq; subst hq
            rw [hq2 va vb v1 v2]; rfl
        | succ n =>
          rw [hall 0 (f.type, a, b) (by omega) (by simp) va vb v1 v2]
          simp only [Bool.not_true, Bool.false_eq_true, if_false]
          refine fieldsRun_sound hx hy fs r' h3 r n (by simpa using hn) (fun j q hj hq => hall (j + 1) q (by omega) (by simpa using hq)) ?_
          rcases hr with ⟨h5, h6⟩ | ⟨h5, q, h6, h7⟩
          · exact .inl ⟨h5, by simpa using h6⟩
          · exact .inr ⟨h5, q, by simpa using h6, h7⟩
      · cases h

end
end Go.Vse
