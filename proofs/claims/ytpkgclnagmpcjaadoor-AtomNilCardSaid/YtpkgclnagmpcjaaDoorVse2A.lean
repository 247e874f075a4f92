/- Loops whose rounds are not counted by the executor: what lies in a state may be forgotten; a law of induction. -/
import Derived.Test.YtpkgclnagmpcjaaDoorVseZ
namespace Go.Vse
open Go

/-- A memory that tells less. -/
theorem Sim.less {w0 : World} {pr : Nat → Prop} {ρ : Env} {m m' : Mem} {w : World} (h : Sim w0 pr ρ m w) (hle : ∀ k, m' k = m k ∨ m' k = .free) (hwf : ∀ k, (m' k).wf (al m')) : Sim w0 pr ρ m' w := by
  have hrw : ∀ k, (m' k).isRw = true → (m k).isRw = true := fun k hk => by
    rcases hle k with e | e
    · rw [← e]; exact hk
    · rw [e] at hk; cases hk
  have hro : ∀ k, (m' k).isRo = true → (m k).isRo = true := fun k hk => by
    rcases hle k with e | e
    · rw [← e]; exact hk
    · rw [e] at hk; cases hk
  refine ⟨h.os, h.tape, h.output, h.size, h.prot, fun k => ?_, fun k hk => h.rw k (hrw k hk), fun k hk => h.ro k (hro k hk), fun j k hj hk => h.inj j k (hrw j hj) (hrw k hk), hwf, fun k g T cs hk => ?_⟩
  · rcases hle k with e | e
    · rw [e]; exact h.tok k
    · rw [e]; trivial
  · rcases hle k with e | e
    · exact h.gl k g T cs (e ▸ hk)
    · rw [e] at hk; cases hk

/-- A state behind code, where the tokens from 'k' on are forgotten. -/
def St.cut (st : St) (k : Nat) (wr : List Nat) : St := { st with m := st.m.take k, wr := wr }

theorem memOf_take {l : List Tok} {n k : Nat} : memOf (l.take n) k = if k < n then memOf l k else .free := by
  simp only [memOf, List.getD_eq_getElem?_getD, List.getElem?_take]
  split <;> rfl

/-- The tokens from n on are forgotten. -/
theorem GOK.cut {W : Fence → (Exit → Act → World → Prop) → Act → World → Prop} {rd : Option Nat} {st st1 : St} {ex : Exit} {n : Nat} {wr : List Nat} (h : GOK W rd st ex st1) (hn : st.m.length ≤ n)
    (hf : (st1.m.take n).all (fun t => !t.isFree && t.toks.all (· < n)) = true) (hfr : (toksL (st1.fr.list st1.n)).all (· < n) = true) (hdm : st1.dm.all (· < n) = true) (hlen : n ≤ st1.m.length) (hwr : st.wr.all (wr.contains ·) = true) (hw1 : st1.wr.all (fun k => wr.contains k || decide (st.m.length ≤ k)) = true) :
    GOK W rd st ex (st1.cut n wr) := by
  obtain ⟨a1, a2, a3, a4, a5, a6⟩ := h
  have hm : ∀ k, memOf (st1.cut n wr).m k = if k < n then memOf st1.m k else .free := fun k => memOf_take
  have hmem : ∀ k, k < n → memOf st1.m k ∈ st1.m.take n := by
    intro k hk
    have hl : k < st1.m.length := by omega
    have e : (st1.m.take n)[k]? = some (memOf st1.m k) := by
      rw [List.getElem?_take, if_pos hk]
      simp [memOf, List.getD_eq_getElem?_getD, hl]
    exact List.mem_of_getElem? e
  have hnf : ∀ k, k < n → al (memOf (st1.cut n wr).m) k := by
    intro k hk
    have := List.all_eq_true.1 hf _ (hmem k hk)
    simp only [Bool.and_eq_true, Bool.not_eq_true'] at this
    unfold al; rw [hm, if_pos hk]; exact this.1
  have hlt : ∀ k, al (memOf st.m) k → k < st.m.length := by
    intro k hk
    rcases Nat.lt_or_ge k st.m.length with h | h
    · exact h
    · unfold al at hk; rw [memOf_len h] at hk; cases hk
  have hwf : ∀ k, (memOf (st1.cut n wr).m k).wf (al (memOf (st1.cut n wr).m)) := by
    intro k
    rw [hm]
    split
    · rename_i hk
      have := List.all_eq_true.1 hf _ (hmem k hk)
      simp only [Bool.and_eq_true, List.all_eq_true, decide_eq_true_eq] at this
      exact Tok.toks_wf _ (fun j hj => hnf j (this.2 j hj))
    · trivial
  have hle : ∀ k, memOf (st1.cut n wr).m k = memOf st1.m k ∨ memOf (st1.cut n wr).m k = .free := by
    intro k; rw [hm]; split
    · exact .inl rfl
    · exact .inr rfl
  refine ⟨fun k hk => hnf k (by have := hlt k hk; omega), a2, fun k hk => ?_, fun k hk hnw => ?_, fun k hk => ?_, ?_⟩
  · have := List.all_eq_true.1 hwr k hk
    show k ∈ wr
    simpa using this
  · have hk' := hlt k hk
    rw [hm, if_pos (by omega)]
    refine a4 k hk (fun hw => ?_)
    have := List.all_eq_true.1 hw1 k hw
    simp only [Bool.or_eq_true, List.contains_eq_mem, decide_eq_true_eq] at this
    rcases this with h | h
    · exact hnw h
    · omega
  · rcases hle k with e | e
    · rw [e] at hk; exact a5 k hk
    · rw [e] at hk; cases hk
  · intro F hF w0 pr ρ w a Q hro hs hfr' hd hdal hl hQ
    refine a6 F hF w0 pr ρ w a Q hro hs hfr' hd hdal hl (fun ρ' a' w' g1 g2 g3 g4 g5 => hQ ρ' a' w' g1 (g2.less hle hwf) ?_ g4 ?_)
    · refine ⟨g3.1, fun t ht => ⟨(g3.2 t ht).1, LV.toks_wf _ (fun j hj => hnf j ?_)⟩⟩
      have hx : frOf st1.fr t ∈ st1.fr.list st1.n := List.mem_map.2 ⟨t, List.mem_range.2 ht, rfl⟩
      have hj' : j ∈ toksL (st1.fr.list st1.n) := by
        have key : ∀ (xs : List LV) (x : LV), x ∈ xs → j ∈ x.toks → j ∈ toksL xs := by
          intro xs
          induction xs with
          | nil => intro x hx _; cases hx
          | cons y ys ih =>
            intro x hx hj
            simp only [toksL, List.mem_append]
            rcases List.mem_cons.1 hx with e | e
            · exact .inl (e ▸ hj)
            · exact .inr (ih x e hj)
        exact key _ _ hx hj
      have := List.all_eq_true.1 hfr j hj'
      simpa using this
    · intro d hd'
      have := List.all_eq_true.1 hdm d hd'
      exact hnf d (by simpa using this)

/-- A LOOP BY INDUCTION: from every state of S n (n < N) a round leads to one of S (n + 1); from one of S N the loop is left, to a state of E. -/
theorem loop_rule {P : Program} {rd : Option Nat} {c : Code} {ex : Exit} (hne : ex ≠ .normal) {S : Nat → St → Prop} {E : St → Prop} (N : Nat)
    (hstep : ∀ n, n < N → ∀ st, S n st → ∃ st', S (n + 1) st' ∧ GOK (cW P c) rd st .normal st') (hlast : ∀ st, S N st → ∃ st', E st' ∧ GOK (cW P c) rd st ex st') :
    ∀ j n, n + j = N → ∀ st, S n st → ∃ st', E st' ∧ GOK (fun F Q a w => LoopIn F P c Q a w) rd st ex st'
  | 0, n, h, st, hs => by
    obtain ⟨st', he, hg⟩ := hlast st (by rw [← h]; exact hs)
    refine ⟨st', he, GOK.conv (W1 := cW P c) (ex := ex) (fun F Q a w hh => loopIn_round ?_) hg⟩
    refine Go.wpIn_mono hh (fun e a w he => ?_)
    obtain ⟨e1, e2⟩ := he
    subst e1
    cases e <;> first | exact absurd rfl hne | exact e2
  | j + 1, n, h, st, hs => by
    obtain ⟨st1, hs1, hg1⟩ := hstep n (by omega) st hs
    obtain ⟨st', he, hg⟩ := loop_rule hne N hstep hlast j (n + 1) (by omega) st1 hs1
    exact ⟨st', he, GOK.seq (W1 := cW P c) (W2 := fun F Q a w => LoopIn F P c Q a w) (fun F Q a w h => loopIn_round h) hg1 hg⟩

theorem codeOK_loop {P : Program} {rd : Option Nat} {c : Code} {st st' : St} {ex : Exit} (h : GOK (fun F Q a w => LoopIn F P c Q a w) rd st ex st') : CodeOK P rd (.loop c) st ex st' := by
  refine GOK.conv (ex := ex) (W1 := fun F Q a w => LoopIn F P c Q a w) (fun F Q a w hh => wpIn_of_loopIn (fun b k cs h1 h2 h3 => ?_)) h
  obtain ⟨e, a', w', hq, harr⟩ := hh b k cs h1 h2 h3
  exact ⟨e, a', w', hq.1 ▸ hq.2, harr⟩

end Go.Vse
