/- Code of the executor is right. -/
import Derived.Test.YtpnfdndjaepbbaaVseQ
import Derived.Scope
import Derived.RangeFuncNested
namespace Go.Vse
open Go

section
variable {P : Program} {b : Frame} {a : Act} {k : List Item} {cs : List Frame} {w : World} {Q : Exit → Act → World → Prop} {F : Fence} {n : Nat}

theorem stepR_scope {c : Code} : step P (lone (b.atR a (.code (.scope c) :: k)) cs w) = .next (lone (b.atR a (.code c :: .inScope c :: k)) cs w) :=
  step_lone_go (by simp [stepG, stepG.exec, Frame.atR])
theorem stepR_inScope {c : Code} : step P (lone (b.atR a (.inScope c :: k)) cs w) = .next (lone (b.atR a k) cs w) :=
  step_lone_go (by simp [stepG, stepG.exec, Frame.atR])

theorem wpIn_scope {c : Code} (h : c.wpIn F n P (Exit.noGoto Q) a w) : (Code.scope c).wpIn F n P Q a w := by
  intro b k cs hro hb hr
  have h0 : (lone (b.atR a (.code (.scope c) :: k)) cs w).fenced P F := fenced_calm hb hr rfl
  obtain ⟨e, a₁, w₁, hq, harr⟩ := h b (.inScope c :: k) cs hro hb hr
  cases e with
  | normal => exact ⟨.normal, a₁, w₁, hq, .head h0 stepR_scope (StepsIn.trans harr (.one (fenced_calm hb hr rfl) stepR_inScope))⟩
  | exit id =>
    have hx : exitTo id (.inScope c :: k) = exitTo id k := by simp [exitTo]
    exact ⟨.exit id, a₁, w₁, hq, fun k' hk => .head h0 stepR_scope (harr.1 k' (by rw [hx]; exact hk)),
      fun hr' hk => let ⟨k₁, h1, h2⟩ := harr.2 hr' (by rw [hx]; exact hk); ⟨k₁, h1, .head h0 stepR_scope h2⟩⟩
  | goto l => exact hq.elim
  | ret => exact ⟨_, a₁, w₁, hq, .of_steps (.one h0 stepR_scope) harr⟩
  | panic ch => exact ⟨_, a₁, w₁, hq, .of_steps (.one h0 stepR_scope) harr⟩
  | outgrown => exact ⟨_, a₁, w₁, hq, .of_steps (.one h0 stepR_scope) harr⟩

/-- Within a loop: the round comes next. -/
def LoopIn (F : Fence) (P : Program) (c : Code) (Q : Exit → Act → World → Prop) (a : Act) (w : World) : Prop :=
  ∀ (b : Frame) (k : List Item) (cs : List Frame), b.roundOf = F.round → F.fn b.fn → F.room (cs.length + 1 + 0) →
    ∃ e a' w', Q e a' w' ∧ ArrivesIn (Machine.fenced P F) P (lone (b.atR a (.code c :: .inLoop c :: k)) cs w) b k cs e a' w'

theorem loopIn_round {c : Code} (h : c.wpIn F 0 P (Exit.then (LoopIn F P c Q) Q) a w) : LoopIn F P c Q a w := by
  intro b k cs hro hb hr
  obtain ⟨e, a₁, w₁, hq, harr⟩ := h b (.inLoop c :: k) cs hro hb hr
  cases e with
  | normal =>
    obtain ⟨e₂, a₂, w₂, hq₂, harr₂⟩ := hq b k cs hro hb hr
    exact ⟨e₂, a₂, w₂, hq₂, .of_steps (StepsIn.trans harr (.one (fenced_calm hb hr rfl) stepR_inLoop)) harr₂⟩
  | exit id => exact ⟨_, a₁, w₁, hq, .pass (x := .inLoop c) rfl (fun _ _ => .inl (by simp)) harr⟩
  | goto l => exact ⟨_, a₁, w₁, hq, .pass (x := .inLoop c) rfl (fun _ _ => .inl (by simp)) harr⟩
  | ret => exact ⟨_, a₁, w₁, hq, .pass (x := .inLoop c) rfl (fun _ _ => .inl (by simp)) harr⟩
  | panic ch => exact ⟨_, a₁, w₁, hq, .pass (x := .inLoop c) rfl (fun _ _ => .inl (by simp)) harr⟩
  | outgrown => exact ⟨_, a₁, w₁, hq, .pass (x := .inLoop c) rfl (fun _ _ => .inl (by simp)) harr⟩

theorem wpIn_of_loopIn {c : Code} (h : LoopIn F P c Q a w) : (Code.loop c).wpIn F 0 P Q a w := by
  intro b k cs hro hb hr
  obtain ⟨e, a', w', hq, harr⟩ := h b k cs hro hb hr
  exact ⟨e, a', w', hq, .of_steps (.one (fenced_calm hb hr rfl) stepR_loop) harr⟩
end

section
variable [AbstRep]
/-- The owed triple of whatever is walked. -/
def GOK (W : Fence → (Exit → Act → World → Prop) → Act → World → Prop) (rd : Option Nat) (st : St) (ex : Exit) (st' : St) : Prop :=
  (∀ k, al (memOf st.m) k → al (memOf st'.m) k) ∧ st'.n = st.n ∧ (∀ k ∈ st.wr, k ∈ st'.wr) ∧ (∀ k, al (memOf st.m) k → k ∉ st'.wr → memOf st'.m k = memOf st.m k) ∧
  (∀ k, (memOf st'.m k).isRo = true → (memOf st.m k).isRo = true) ∧
  ∀ F, okF F → ∀ w0 pr ρ w a Q, F.round = rd.map (fun l => (ρ l).1) → Sim w0 pr ρ (memOf st.m) w → FrR ρ (memOf st.m) st.n (frOf st.fr) a → a.defers = st.dm.map (fun d => ({ target := .collected (ρ d).1, args := #[] } : Deferred)) → (∀ d ∈ st.dm, al (memOf st.m) d) → (∀ l, rd = some l → al (memOf st.m) l) →
    (∀ ρ' a' w', (∀ k, al (memOf st.m) k → ρ' k = ρ k) → Sim w0 pr ρ' (memOf st'.m) w' → FrR ρ' (memOf st'.m) st'.n (frOf st'.fr) a' → a'.defers = st'.dm.map (fun d => ({ target := .collected (ρ' d).1, args := #[] } : Deferred)) → (∀ d ∈ st'.dm, al (memOf st'.m) d) → Q ex a' w') →
    W F Q a w
end

abbrev cW (P : Program) (c : Code) : Fence → (Exit → Act → World → Prop) → Act → World → Prop := fun F Q a w => c.wpIn F 0 P Q a w
section
variable [AbstRep]
theorem GOK.seq {W1 W2 W : Fence → (Exit → Act → World → Prop) → Act → World → Prop} (hW : ∀ F Q a w, W1 F (Exit.then (W2 F Q) Q) a w → W F Q a w) {rd : Option Nat} {st st1 st2 : St} {ex : Exit}
    (h1 : GOK W1 rd st .normal st1) (h2 : GOK W2 rd st1 ex st2) : GOK W rd st ex st2 := by
  obtain ⟨a1, a2, a3, a4, a5, a6⟩ := h1
  obtain ⟨b1, b2, b3, b4, b5, b6⟩ := h2
  refine ⟨fun k hk => b1 k (a1 k hk), b2.trans a2, fun k hk => b3 k (a3 k hk), fun k hk hn => ?_, fun k hk => a5 k (b5 k hk), ?_⟩
  · rw [b4 k (a1 k hk) hn, a4 k hk (fun h => hn (b3 k h))]
  · intro F hF w0 pr ρ w a Q hro hs hf hd hdal hl hQ
    refine hW F Q a w (a6 F hF w0 pr ρ w a _ hro hs hf hd hdal hl ?_)
    intro ρ' a' w' g1 g2 g3 g4 g5
    refine b6 F hF w0 pr ρ' w' a' Q ?_ g2 g3 g4 g5 (fun l e => a1 l (hl l e)) ?_
    · rw [hro]
      cases rd with
      | none => rfl
      | some l => simp only [Option.map_some]; rw [g1 l (hl l rfl)]
    · intro ρ'' a'' w'' k1 k2 k3 k4 k5
      exact hQ ρ'' a'' w'' (fun k hk => (k1 k (a1 k hk)).trans (g1 k hk)) k2 k3 k4 k5

/-- Another way out of what is walked. -/
theorem GOK.conv {W1 W : Fence → (Exit → Act → World → Prop) → Act → World → Prop} {ex ex' : Exit} (hW : ∀ F Q a w, W1 F (fun e a w => e = ex ∧ Q ex' a w) a w → W F Q a w) {rd : Option Nat} {st st1 : St}
    (h1 : GOK W1 rd st ex st1) : GOK W rd st ex' st1 := by
  obtain ⟨a1, a2, a3, a4, a5, a6⟩ := h1
  refine ⟨a1, a2, a3, a4, a5, ?_⟩
  intro F hF w0 pr ρ w a Q hro hs hf hd hdal hl hQ
  exact hW F Q a w (a6 F hF w0 pr ρ w a _ hro hs hf hd hdal hl (fun ρ' a' w' g1 g2 g3 g4 g5 => ⟨rfl, hQ ρ' a' w' g1 g2 g3 g4 g5⟩))

theorem GOK.refl {W : Fence → (Exit → Act → World → Prop) → Act → World → Prop} {ex : Exit} (hW : ∀ F Q a w, Q ex a w → W F Q a w) {rd : Option Nat} {st : St} : GOK W rd st ex st :=
  ⟨fun _ h => h, rfl, fun _ h => h, fun _ _ _ => rfl, fun _ h => h, fun F _ _ _ ρ w a Q _ hs hf hd hdal _ hQ => hW F Q a w (hQ ρ a w (fun _ _ => rfl) hs hf hd hdal)⟩

/-- A condition settled. -/
theorem FrR.ev {ρ : Env} {m : Mem} {fr : Tr} {n : Nat} {a : Act} (h : FrR ρ m n (frOf fr) a) {x : Operand} {lx : LV} (hx : (if opIn n x = true then evO (frOf fr) x else none) = some lx) : VR ρ lx (a.eval x) ∧ lx.wf (al m) := by
  split at hx
  · rename_i hi
    refine evO_sound hx (fun t e => ?_)
    subst e
    exact h.2 t (by simpa [opIn] using hi)
  · cases hx

theorem FrR.all {ρ : Env} {m : Mem} {fr : Tr} {n : Nat} {a : Act} (h : FrR ρ m n (frOf fr) a) : VRs ρ (fr.list n) a.tmps.toList ∧ wfL (al m) (fr.list n) := by
  have hl : a.tmps.toList.length = (fr.list n).length := by simpa [Tr.list] using h.1
  have hx0 : ∀ j x, (fr.list n)[j]? = some x → j < n ∧ frOf fr j = x := fun j x hx => by
    unfold Tr.list at hx
    rw [List.getElem?_map] at hx
    rcases Nat.lt_or_ge j n with hj | hj
    · rw [List.getElem?_range hj] at hx
      exact ⟨hj, by simpa [frOf] using hx⟩
    · rw [List.getElem?_eq_none (by simpa using hj)] at hx; cases hx
  refine ⟨VRs_of hl (fun j x v hx hv => ?_), wfL_iff.2 (fun x hx => ?_)⟩
  · obtain ⟨hj, e1⟩ := hx0 j x hx
    have h1 := (h.2 j hj).1
    have e2 : a.tmps.getD j undef = v := by
      rw [Array.getElem?_toList] at hv
      simp [Array.getD_eq_getD_getElem?, hv]
    rw [e1, e2] at h1; exact h1
  · obtain ⟨j, hj⟩ := List.mem_iff_getElem?.1 hx
    obtain ⟨hj', e1⟩ := hx0 j x hj
    have h1 := (h.2 j hj').2
    rw [e1] at h1; exact h1

theorem frR_of {ρ : Env} {m : Mem} {fr : List LV} {a : Act} (hn : fr.length ≤ 4000) (h : VRs ρ fr a.tmps.toList) (hw : wfL (al m) fr) : FrR ρ m fr.length (frOf (Tr.ofL fr)) a := by
  have hl := VRs_length h
  refine ⟨by simpa using hl, fun t ht => ?_⟩
  obtain ⟨v, hv, hr⟩ := VRs_get h t fr[t] (by simp [ht])
  have e1 : frOf (Tr.ofL fr) t = fr[t] := by rw [frOf_ofL hn]; simp [List.getD_eq_getElem?_getD, ht]
  have e2 : a.tmps.getD t undef = v := by
    rw [Array.getElem?_toList] at hv
    simp [Array.getD_eq_getD_getElem?, hv]
  rw [e1, e2]
  exact ⟨hr, wfL_iff.1 hw _ (by simp)⟩

theorem FrR.keep {ρ ρ' : Env} {m m' : Mem} {N : Nat} {fr : Tmp → LV} {a : Act} (h : FrR ρ m N fr a) (hag : ∀ k, al m k → ρ' k = ρ k) (hal : ∀ k, al m k → al m' k) : FrR ρ' m' N fr a :=
  ⟨h.1, fun t ht => ⟨VR_congr hag _ _ (h.2 t ht).2 (h.2 t ht).1, LV.wf_mono hal _ (h.2 t ht).2⟩⟩

theorem memOf_len {l : List Tok} {k : Nat} (h : l.length ≤ k) : memOf l k = .free := by simp [memOf, List.getD_eq_getElem?_getD, List.getElem?_eq_none h]
theorem memOf_push {l : List Tok} {t : Tok} : memOf (l ++ [t]) = (memOf l).set l.length t := by
  have : l ++ [t] = setTok l l.length t := by simp [setTok]
  rw [this, memOf_set]
theorem memOf_setL {l : List Tok} {k : Nat} {t : Tok} (h : k < l.length) : memOf (l.set k t) = (memOf l).set k t := by
  have : l.set k t = setTok l k t := by simp [setTok, h]
  rw [this, memOf_set]

theorem loopTok_some {m : List Tok} {k : Nat} {x} (h : loopTok m k = some x) : memOf m k = .loop x.1 x.2.1 x.2.2.1 x.2.2.2.1 x.2.2.2.2.1 x.2.2.2.2.2.1 x.2.2.2.2.2.2 ∧ k < m.length := by
  unfold loopTok at h
  split at h
  · rename_i hg
    cases h
    refine ⟨hg, ?_⟩
    rcases Nat.lt_or_ge k m.length with h | h
    · exact h
    · have := memOf_len h
      unfold memOf at this
      rw [this] at hg; cases hg
  · cases h
end

end Go.Vse
