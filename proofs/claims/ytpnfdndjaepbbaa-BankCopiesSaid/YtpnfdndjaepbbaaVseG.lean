/- The executor's pure operations are right: equality, arithmetic, addresses. -/
import Derived.Test.YtpnfdndjaepbbaaVseF
namespace Go.Vse
open Go

section
variable {P : Program} {ρ : Env} {A : Nat → Prop} {w : World}

theorem run_equalIn_struct {d : Nat} {t : TypeId} {fs : Array Field} {xs ys : Array Value} (hu : P.underlying t = some (.struct fs)) (hh : P.stoodInHeld t = false) :
    (Op.equalIn (d + 1) t (.agg xs) (.agg ys)).run P w = (fieldsRun P d xs ys fs.toList).run P w := by
  simp only [Op.equalIn, Sem.run_bind, run_underlying hu, Result.andThen, run_program, hh, Bool.false_eq_true, if_false]
  rw [← Array.forIn_toList]
  clear hu hh
  generalize fs.toList = l
  induction l generalizing w with
  | nil => simp [fieldsRun]
  | cons f l ih =>
    simp only [List.forIn_cons, fieldsRun]
    by_cases hn : f.name = "_"
    · simp only [hn, ne_eq, not_true_eq_false, if_false]
      simp only [Sem.run_bind, Sem.run_pure, Result.andThen] at ih ⊢
      exact ih
    · simp only [hn, ne_eq, not_false_eq_true, if_true]
      simp only [Sem.run_bind] at ih ⊢
      cases h1 : Sem.run P (part f.type xs f.offset) w with
      | halt h w1 => simp [Result.andThen]
      | ok x w1 =>
        simp only [Result.andThen]
        cases h2 : Sem.run P (part f.type ys f.offset) w1 with
        | halt h w2 => simp
        | ok y w2 =>
          simp only
          cases h3 : Sem.run P (Op.equalIn d f.type x y) w2 with
          | halt h w3 => simp
          | ok z w3 =>
            cases z
            · simp
            · simpa using ih (w := w3)

def elemsRun (P : Program) (D : Nat) (e sz : Nat) (xs ys : Array Value) : (n i : Nat) → Sem Bool
  | 0, _ => pure true
  | n + 1, i => do
    if !(← Op.equalIn D e (← part e xs (i * sz)) (← part e ys (i * sz))) then return false
    elemsRun P D e sz xs ys n (i + 1)

theorem run_equalIn_array {d : Nat} {t n e sz : Nat} {xs ys : Array Value} (hu : P.underlying t = some (.array n e)) (hs : sizL P e = some sz) :
    (Op.equalIn (d + 1) t (.agg xs) (.agg ys)).run P w = (elemsRun P d e sz xs ys n 0).run P w := by
  simp only [Op.equalIn, Sem.run_bind, run_underlying hu, Result.andThen, run_sizeL hs]
  rw [Std.Legacy.Range.forIn_eq_forIn_range']
  have e0 : ([:n] : Std.Legacy.Range).size = n := by simp [Std.Legacy.Range.size]
  rw [e0]
  have e1 : ([:n] : Std.Legacy.Range).start = 0 := rfl
  have e2 : ([:n] : Std.Legacy.Range).step = 1 := rfl
  rw [e1, e2]
  clear hu e0 hs e1 e2
  generalize 0 = i
  induction n generalizing i w with
  | zero => simp [elemsRun]
  | succ n ih =>
    simp only [List.range'_succ, List.forIn_cons, elemsRun]
    simp only [Sem.run_bind] at ih ⊢
    cases h1 : Sem.run P (part e xs (i * sz)) w with
    | halt h w1 => simp [Result.andThen]
    | ok x w1 =>
      simp only [Result.andThen]
      cases h2 : Sem.run P (part e ys (i * sz)) w1 with
      | halt h w2 => simp
      | ok y w2 =>
        simp only
        cases h3 : Sem.run P (Op.equalIn d e x y) w2 with
        | halt h w3 => simp
        | ok z w3 =>
          cases z
          · simp
          · simpa using ih (w := w3) (i := i + 1)

theorem elemsRun_sound {D : Nat} {e sz : Nat} {xs ys : List LV} {us vs : List Value} (hx : VRs ρ xs us) (hy : VRs ρ ys vs) : ∀ (m i : Nat) (l : List (TypeId × LV × LV)), pairsA P e sz m i xs ys = some l → ∀ (r : Bool) (n : Nat), n ≤ l.length →
    (∀ j q, j < n → l[j]? = some q → EqRuns P ρ w D q.1 q.2.1 q.2.2 true) → ((r = true ∧ n = l.length) ∨ (r = false ∧ ∃ q, l[n]? = some q ∧ EqRuns P ρ w D q.1 q.2.1 q.2.2 false)) →
    (elemsRun P D e sz us.toArray vs.toArray m i).run P w = .ok r w
  | 0, i, l, h, r, n, hn, hall, hr => by
    simp only [pairsA] at h; cases h
    rcases hr with ⟨rfl, _⟩ | ⟨_, q, hq, _⟩
    · rfl
    · simp at hq
  | m + 1, i, l, h, r, n, hn, hall, hr => by
    simp only [pairsA] at h
    split at h
    · rename_i a b r' h1 h2 h3
      cases h
      obtain ⟨va, e1, v1, _⟩ := part_sound (P := P) (A := fun _ => True) (w := w) h1 hx
      obtain ⟨vb, e2, v2, _⟩ := part_sound (P := P) (A := fun _ => True) (w := w) h2 hy
      simp only [elemsRun, Sem.run_bind, e1, e2, Result.andThen]
      cases n with
      | zero =>
        rcases hr with ⟨_, h0⟩ | ⟨rfl, q, hq, hq2⟩
        · simp at h0
        · simp at hq; subst hq
          rw [hq2 va vb v1 v2]; rfl
      | succ n =>
        rw [hall 0 (e, a, b) (by omega) (by simp) va vb v1 v2]
        simp only [Bool.not_true, Bool.false_eq_true, if_false]
        refine elemsRun_sound hx hy m (i + 1) r' h3 r n (by simpa using hn) (fun j q hj hq => hall (j + 1) q (by omega) (by simpa using hq)) ?_
        rcases hr with ⟨h5, h6⟩ | ⟨h5, q, h6, h7⟩
        · exact .inl ⟨h5, by simpa using h6⟩
        · exact .inr ⟨h5, q, by simpa using h6, h7⟩
    · cases h

section
variable [AbstRep]
theorem eqX_sound : ∀ (d : Nat) (t : TypeId) (x y : LV) (an : List Ans) (r : Bool) (o : List Prop) (an' : List Ans), eqX P d t x y an = some (r, o, an') → AllP o → ∀ D, d ≤ D → EqRuns P ρ w D t x y r := by
  intro d
  induction d with
  | zero => intro t x y an r o an' h; simp [eqX] at h
  | succ d ih =>
    intro t x y an r o an' h ho D hD u v hu hv
    obtain ⟨D, rfl⟩ : ∃ D', D = D' + 1 := ⟨D - 1, by omega⟩
    have hf : ∀ t a b an r o an', eqX P d t a b an = some (r, o, an') → AllP o → EqRuns P ρ w D t a b r := fun t a b an r o an' h ho => ih t a b an r o an' h ho D (by omega)
    simp only [eqX] at h
    split at h
    · rename_i hd
      split at h
      · rename_i a s c s' h1 h2
        have e1 := asB_sound h1 hu
        have e2 := asB_sound h2 hv
        subst e1; subst e2
        have hgoal : ∀ r : Bool, (r = true ↔ a = c) → (Op.equalIn (D + 1) t (.bool a) (.bool c)).run P w = .ok r w := by
          intro r hr
          have : (a == c) = r := by
            cases r
            · simpa using hr
            · simpa using hr
          simp [Op.equalIn, run_underlying hd, Result.andThen, this]
        split at h
        · exact hgoal _ (askB_sound h ho)
        · cases h
          exact hgoal _ (by simp)
      · cases h
    · rename_i k0 hd
      split at h
      · rename_i k a s k' c s' h1 h2
        split at h
        · rename_i hk
          subst hk
          have e1 := asI_sound h1 hu
          have e2 := asI_sound h2 hv
          subst e1; subst e2
          have hgoal : ∀ r : Bool, (r = true ↔ a = c) → (Op.equalIn (D + 1) t (.int k a) (.int k c)).run P w = .ok r w := by
            intro r hr
            have : (a == c) = r := by
              cases r
              · simpa using hr
              · simpa using hr
            simp [Op.equalIn, run_underlying hd, Result.andThen, this]
          split at h
          · exact hgoal _ (askB_sound h ho)
          · cases h
            exact hgoal _ (by simp)
        · cases h
      · cases h
    · rename_i e0 hd
      split at h <;> first | (cases h; simp only [VR] at hu hv; subst hu; subst hv; simp [Op.equalIn, run_underlying hd, Result.andThen]) | cases h
    · rename_i e0 hd
      split at h <;> first
        | cases h; done
        | (cases h; simp only [VR] at hu hv; subst hu; subst hv; simp [Op.equalIn, run_underlying hd, Result.andThen])
        | (cases h; simp only [VR, SlR] at hu hv; subst hv; obtain ⟨_, _, rfl, _⟩ := hu; simp [Op.equalIn, run_underlying hd, Result.andThen])
        | (cases h; simp only [VR, SlR] at hu hv; subst hv; obtain ⟨_, rfl⟩ := hu; simp [Op.equalIn, run_underlying hd, Result.andThen])
        | (cases h; simp only [VR, SlR] at hu hv; subst hu; obtain ⟨_, rfl⟩ := hv; simp [Op.equalIn, run_underlying hd, Result.andThen])
        | (cases h; simp only [VR, SlR] at hu hv; subst hu; obtain ⟨_, _, rfl, _⟩ := hv; simp [Op.equalIn, run_underlying hd, Result.andThen])
    · rename_i hd
      split at h <;> first
        | cases h; done
        | (cases h; simp only [VR] at hu hv; subst hu; subst hv; simp [Op.equalIn, run_underlying hd, Result.andThen])
        | (cases h; simp only [VR] at hu hv; subst hv; obtain ⟨_, rfl, _⟩ := hu; simp [Op.equalIn, run_underlying hd, Result.andThen])
        | (cases h; simp only [VR] at hu hv; subst hu; obtain ⟨_, rfl, _⟩ := hv; simp [Op.equalIn, run_underlying hd, Result.andThen])
    · rename_i fs hd
      split at h
      · cases h
      · rename_i hheld
        split at h
        · rename_i xs ys
          split at h
          · rename_i l hl
            simp only [VR] at hu hv
            obtain ⟨us, rfl, hus⟩ := hu
            obtain ⟨vs, rfl, hvs⟩ := hv
            obtain ⟨n, hn, hall, hr⟩ := eqAll_sound hf l an r o an' h ho
            rw [run_equalIn_struct hd (by simpa using hheld)]
            exact fieldsRun_sound hus hvs fs.toList l hl r n hn hall hr
          · cases h
        · cases h
    · rename_i n0 e0 hd
      split at h
      · rename_i xs ys sz hs
        split at h
        · rename_i l hl
          simp only [VR] at hu hv
          obtain ⟨us, rfl, hus⟩ := hu
          obtain ⟨vs, rfl, hvs⟩ := hv
          obtain ⟨n, hn, hall, hr⟩ := eqAll_sound hf l an r o an' h ho
          rw [run_equalIn_array hd hs]
          exact elemsRun_sound hus hvs n0 0 l hl r n hn hall hr
        · cases h
      · cases h
    · cases h
end

end
end Go.Vse
