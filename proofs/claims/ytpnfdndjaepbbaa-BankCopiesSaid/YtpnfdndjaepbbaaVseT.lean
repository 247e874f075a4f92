/- The executor is right. -/
import Derived.Test.YtpnfdndjaepbbaaVseS
namespace Go.Vse
open Go

section
variable [AbstRep]
variable {P : Program} {opq : Ctrs} {run : Tgt → List LV → List Tok → List Ans → FOut} {lf : Nat} {rd : Option Nat}

theorem loopX_sound {c : Code} (hc : ∀ {st st' : St} {an an' : List Ans} {ex : Exit} {ob : List Prop}, codeX P opq run lf rd c st an = some (ex, st', ob, an') → AllP ob → GOK (cW P c) rd st ex st') : ∀ (n : Nat) {st st' : St} {an an' : List Ans} {ex : Exit} {ob : List Prop},
    loopX (codeX P opq run lf rd c) n st an = some (ex, st', ob, an') → AllP ob → GOK (fun F Q a w => LoopIn F P c Q a w) rd st ex st'
  | 0, st, st', an, an', ex, ob, h, _ => by simp [loopX] at h
  | n + 1, st, st', an, an', ex, ob, h, ho => by
    simp only [loopX] at h
    split at h
    · rename_i st1 ob1 an1 h1
      split at h
      · rename_i ex2 st2 ob2 an2 h2
        cases h
        rw [AllP_append] at ho
        exact GOK.seq (W1 := cW P c) (W2 := fun F Q a w => LoopIn F P c Q a w) (fun F Q a w h => loopIn_round h) (hc h1 ho.1) (loopX_sound hc n h2 ho.2)
      · cases h
    · rename_i hn
      have hne : ex ≠ .normal := by
        intro e; subst e
        exact hn _ _ _ h
      refine GOK.conv (W1 := cW P c) (ex := ex) (fun F Q a w hh => loopIn_round ?_) (hc h ho)
      refine Go.wpIn_mono hh (fun e a w he => ?_)
      obtain ⟨e1, e2⟩ := he
      subst e1
      cases e <;> first | exact absurd rfl hne | exact e2

theorem codeX_sound (hct : CtOK P opq) (hr : RunOK P run) : ∀ (c : Code) {st st' : St} {an an' : List Ans} {ex : Exit} {ob : List Prop}, codeX P opq run lf rd c st an = some (ex, st', ob, an') → AllP ob → GOK (cW P c) rd st ex st' := by
  intro c
  induction c with
  | skip => intro st st' an an' ex ob h _; simp only [codeX] at h; cases h; exact GOK.refl (fun F Q a w h => wpIn_skip h)
  | label l => intro st st' an an' ex ob h _; simp only [codeX] at h; cases h; exact GOK.refl (fun F Q a w h => wpIn_label h)
  | exit id => intro st st' an an' ex ob h _; simp only [codeX] at h; cases h; exact GOK.refl (fun F Q a w h => wpIn_exit h)
  | ret => intro st st' an an' ex ob h _; simp only [codeX] at h; cases h; exact GOK.refl (fun F Q a w h => wpIn_ret h)
  | region id ops draw =>
    intro st st' an an' ex ob h ho
    simp only [codeX] at h
    split at h
    · rename_i hreg; cases h; exact regX_sound hct hr hreg ho
    · cases h
  | seq a b iha ihb =>
    intro st st' an an' ex ob h ho
    simp only [codeX] at h
    split at h
    · rename_i st1 ob1 an1 h1
      split at h
      · rename_i ex2 st2 ob2 an2 h2
        cases h
        rw [AllP_append] at ho
        exact GOK.seq (fun F Q a w h => wpIn_seq h) (iha h1 ho.1) (ihb h2 ho.2)
      · cases h
    · rename_i hn
      have hne : ex ≠ .normal := by
        intro e; subst e
        exact hn _ _ _ h
      refine GOK.conv (ex := ex) (fun F Q a w hh => wpIn_seq ?_) (iha h ho)
      refine Go.wpIn_mono hh (fun e a w he => ?_)
      obtain ⟨e1, e2⟩ := he
      subst e1
      cases e <;> first | exact absurd rfl hne | exact e2
  | cond x a b iha ihb =>
    intro st st' an an' ex ob h ho
    simp only [codeX] at h
    split at h
    · rename_i hx
      obtain ⟨g1, g2, g3, g4, g5, g6⟩ := iha h ho
      refine ⟨g1, g2, g3, g4, g5, fun F hF w0 pr ρ w a Q hro hs hf hd hdal hl hQ => ?_⟩
      have := (hf.ev hx).1
      simp only [VR] at this
      exact wpIn_cond_true this (g6 F hF w0 pr ρ w a Q hro hs hf hd hdal hl hQ)
    · rename_i hx
      obtain ⟨g1, g2, g3, g4, g5, g6⟩ := ihb h ho
      refine ⟨g1, g2, g3, g4, g5, fun F hF w0 pr ρ w a Q hro hs hf hd hdal hl hQ => ?_⟩
      have := (hf.ev hx).1
      simp only [VR] at this
      exact wpIn_cond_false this (g6 F hF w0 pr ρ w a Q hro hs hf hd hdal hl hQ)
    · rename_i b0 hx
      split at h
      · rename_i r ob1 an1 hask
        split at h
        · rename_i ex1 st1 ob2 an2 h1
          cases h
          rw [AllP_append] at ho
          have hr' := askB_sound hask ho.1
          cases r with
          | true =>
            obtain ⟨g1, g2, g3, g4, g5, g6⟩ := iha h1 ho.2
            refine ⟨g1, g2, g3, g4, g5, fun F hF w0 pr ρ w a Q hro hs hf hd hdal hl hQ => ?_⟩
            have := (hf.ev hx).1
            simp only [VR] at this
            exact wpIn_cond_true (this.trans (by rw [hr'.1 rfl])) (g6 F hF w0 pr ρ w a Q hro hs hf hd hdal hl hQ)
          | false =>
            obtain ⟨g1, g2, g3, g4, g5, g6⟩ := ihb h1 ho.2
            refine ⟨g1, g2, g3, g4, g5, fun F hF w0 pr ρ w a Q hro hs hf hd hdal hl hQ => ?_⟩
            have := (hf.ev hx).1
            simp only [VR] at this
            exact wpIn_cond_false (this.trans (by cases b0 <;> first | rfl | exact absurd (hr'.2 rfl) (by simp))) (g6 F hF w0 pr ρ w a Q hro hs hf hd hdal hl hQ)
        · cases h
      · cases h
    · cases h
  | block id c ih =>
    intro st st' an an' ex ob h ho
    simp only [codeX] at h
    split at h
    · rename_i id' st1 ob1 an1 h1
      split at h
      · rename_i hid
        cases h
        refine GOK.conv (ex := .exit id') (fun F Q a w hh => wpIn_block ?_) (ih h1 ho)
        refine Go.wpIn_mono hh (fun e a w he => ?_)
        obtain ⟨e1, e2⟩ := he
        subst e1
        simp only [Exit.inBlock, hid, if_true]; exact e2
      · rename_i hid
        cases h
        refine GOK.conv (ex := .exit id') (fun F Q a w hh => wpIn_block ?_) (ih h1 ho)
        refine Go.wpIn_mono hh (fun e a w he => ?_)
        obtain ⟨e1, e2⟩ := he
        subst e1
        simp only [Exit.inBlock, hid, if_false]; exact e2
    · rename_i hn
      have hne : ∀ i, ex ≠ .exit i := by
        intro i e; subst e
        exact hn _ _ _ _ h
      refine GOK.conv (ex := ex) (fun F Q a w hh => wpIn_block ?_) (ih h ho)
      refine Go.wpIn_mono hh (fun e a w he => ?_)
      obtain ⟨e1, e2⟩ := he
      subst e1
      cases e <;> first | exact absurd rfl (hne _) | exact e2
  | loop c ih =>
    intro st st' an an' ex ob h ho
    simp only [codeX] at h
    split at h
    · split at h
      · rename_i g an1 ex1 st1 ob1 hg
        cases h
        simp only [AllP] at ho
        exact ho.1 _ _ _ _ hg ho.2
      · cases h
    · exact GOK.conv (ex := ex) (W1 := fun F Q a w => LoopIn F P c Q a w) (fun F Q a w hh => wpIn_of_loopIn (fun b k cs h1 h2 h3 => by
        obtain ⟨e, a', w', hq, harr⟩ := hh b k cs h1 h2 h3
        exact ⟨e, a', w', hq.1 ▸ hq.2, harr⟩)) (loopX_sound (fun h ho => ih h ho) lf h ho)
    · exact GOK.conv (ex := ex) (W1 := fun F Q a w => LoopIn F P c Q a w) (fun F Q a w hh => wpIn_of_loopIn (fun b k cs h1 h2 h3 => by
        obtain ⟨e, a', w', hq, harr⟩ := hh b k cs h1 h2 h3
        exact ⟨e, a', w', hq.1 ▸ hq.2, harr⟩)) (loopX_sound (fun h ho => ih h ho) lf h ho)
  | scope c ih =>
    intro st st' an an' ex ob h ho
    simp only [codeX] at h
    split at h
    · cases h
    · rename_i hn
      have hne : ∀ i, ex ≠ .goto i := by
        intro i e; subst e
        exact hn _ _ _ _ h
      refine GOK.conv (ex := ex) (fun F Q a w hh => wpIn_scope ?_) (ih h ho)
      refine Go.wpIn_mono hh (fun e a w he => ?_)
      obtain ⟨e1, e2⟩ := he
      subst e1
      cases e <;> first | exact absurd rfl (hne _) | exact e2
  | rangeFunc f ps asg body _ _ => intro st st' an an' ex ob h ho; exact rangeX_sound hct hr h ho
  | _ => intros; rename_i h _; simp [codeX] at h
end

def readOne (tmps : Array Value) (r : ResultVar) : Sem Value :=
  match r with
  | .tmp t => pure (tmps.getD t undef)
  | .cell a t => do loadVar t (← asAddr (tmps.getD a undef))
theorem results_eq (fn : Func) (tmps : Array Value) : results fn tmps = (do
    let vs ← fn.results.mapM (readOne tmps)
    pure (if h : vs.size = 1 then vs[0] else .tuple vs)) := rfl

section
variable [AbstRep]
/-- One result is read. -/
theorem oneX_sound {P : Program} {fr : Tr} {N : Nat} {m : List Tok} {w0 w : World} {pr : Nat → Prop} {ρ : Env} {tmps : Array Value} (hs : Sim w0 pr ρ (memOf m) w) (hf : FrR ρ (memOf m) N (frOf fr) { tmps := tmps, defers := [] })
    {r : ResultVar} {x : LV} (h : oneX P fr N m r = some x) :
    ∃ v, (readOne tmps r).run P w = .ok v w ∧ VR ρ x v := by
  cases r with
  | tmp t =>
    simp only [oneX] at h; simp only [readOne]
    split at h
    · rename_i ht; cases h
      exact ⟨_, rfl, (hf.2 t ht).1⟩
    · cases h
  | cell a t =>
    simp only [oneX] at h; simp only [readOne]
    split at h
    · rename_i k o ha
      split at h
      · rename_i hlt
        split at h
        · rename_i rw T cs hk
          have h1 := (hf.2 a hlt).1
          rw [ha] at h1
          simp only [VR] at h1
          have hT := hs.tok (k := k) (by rw [hk]; rfl)
          have hW := hs.wf k
          rw [hk] at hT hW
          obtain ⟨vs, sp, hb, hv, _⟩ := hT
          obtain ⟨v, r1, r2, r3⟩ := loadX_sound (P := P) (t := t) (cs := cs) (o := o) (sym := false) (an := []) (an' := []) (r := x) (ob := []) (by simp only [loadX, h]; rfl) trivial hb hv (A := al (memOf m)) hW
          refine ⟨v, ?_, r2⟩
          have h1 : tmps.getD a undef = .pointer (some ⟨(ρ k).1, o, none⟩) := h1
          rw [h1]
          simp only [Sem.run_bind, asAddr, Sem.run_pure, Result.andThen]
          exact r1
        · cases h
      · cases h
    · cases h

theorem onesX_sound {P : Program} {fr : Tr} {N : Nat} {m : List Tok} {w0 w : World} {pr : Nat → Prop} {ρ : Env} {tmps : Array Value} (hs : Sim w0 pr ρ (memOf m) w) (hf : FrR ρ (memOf m) N (frOf fr) { tmps := tmps, defers := [] }) :
    ∀ {rs : List ResultVar} {xs : List LV}, onesX P fr N m rs = some xs →
    ∃ vs : List Value, (rs.mapM (readOne tmps)).run P w = .ok vs w ∧ VRs ρ xs vs
  | [], xs, h => by simp only [onesX] at h; cases h; exact ⟨[], by simp, by simp [VRs]⟩
  | r :: rs, xs, h => by
    simp only [onesX] at h
    split at h
    · rename_i x ys h1 h2
      cases h
      obtain ⟨v, g1, g2⟩ := oneX_sound hs hf h1
      obtain ⟨vs, k1, k2⟩ := onesX_sound hs hf h2
      refine ⟨v :: vs, ?_, by simp only [VRs]; exact ⟨v, vs, rfl, g2, k2⟩⟩
      rw [List.mapM_cons, Sem.run_bind, g1]
      simp only [Result.andThen, Sem.run_bind, k1, Sem.run_pure]
    · cases h

theorem resX_sound {P : Program} {fn : Func} {fr : Tr} {N : Nat} {m : List Tok} {w0 w : World} {pr : Nat → Prop} {ρ : Env} {tmps : Array Value} (hs : Sim w0 pr ρ (memOf m) w) (hf : FrR ρ (memOf m) N (frOf fr) { tmps := tmps, defers := [] }) {x : LV}
    (h : resX P fn fr N m = some x) : ∃ v, (results fn tmps).run P w = .ok v w ∧ VR ρ x v := by
  unfold resX at h
  have key : ∀ {xs : List LV}, onesX P fr N m fn.results.toList = some xs → ∃ vs : List Value, (results fn tmps).run P w = .ok (if h : vs.toArray.size = 1 then vs.toArray[0] else .tuple vs.toArray) w ∧ VRs ρ xs vs := by
    intro xs hx
    obtain ⟨vs, g1, g2⟩ := onesX_sound hs hf hx
    refine ⟨vs, ?_, g2⟩
    rw [results_eq, Array.mapM_eq_mapM_toList, Sem.run_bind, Sem.run_map, g1]
    rfl
  split at h
  · rename_i v hv
    cases h
    obtain ⟨vs, g1, g2⟩ := key hv
    simp only [VRs] at g2
    obtain ⟨u, r, rfl, g3, rfl⟩ := g2
    exact ⟨u, by simpa using g1, g3⟩
  · rename_i xs hne hv
    cases h
    obtain ⟨vs, g1, g2⟩ := key hv
    have hl := VRs_length g2
    have hn : vs.length ≠ 1 := by
      intro e
      obtain ⟨y, hy⟩ := List.length_eq_one_iff.1 (hl.symm.trans e)
      exact hne y (hy ▸ rfl)
    refine ⟨.tuple vs.toArray, ?_, by simp only [VR]; exact ⟨vs, rfl, g2⟩⟩
    rw [g1, dif_neg (by simpa using hn)]
  · cases h
end

end Go.Vse
