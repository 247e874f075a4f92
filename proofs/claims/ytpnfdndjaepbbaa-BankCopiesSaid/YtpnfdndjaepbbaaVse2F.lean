/- Objects in memory: laid open, and shut. -/
import Derived.Test.YtpnfdndjaepbbaaVse2E
namespace Go.Vse
open Go
section
variable [AbstRep]
variable {w0 : World} {pr : Nat → Prop} {ρ : Env} {m : List Tok} {w : World}

/-- New names of an object's tokens: the root stays, the others go behind. -/
def nmO (k N : Nat) : Nat → Nat
  | 0 => k
  | j + 1 => N + j
def opn (m : List Tok) (k : Nat) (ms : List Tok) : List Tok := m.set k ((ms.headD .free).ren (nmO k m.length)) ++ (ms.drop 1).map (·.ren (nmO k m.length))

theorem opn_k {k : Nat} {ms : List Tok} (hk : k < m.length) {t : Tok} (ht : ms[0]? = some t) : memOf (opn m k ms) k = t.ren (nmO k m.length) := by
  have : ms.head?.getD .free = t := by cases ms <;> simp_all
  simp [opn, memOf, List.getD_eq_getElem?_getD, List.getElem?_append, hk, this]
theorem opn_lt {k : Nat} {ms : List Tok} {j : Nat} (hj : j < m.length) (hk : j ≠ k) : memOf (opn m k ms) j = memOf m j := by
  simp [opn, memOf, List.getD_eq_getElem?_getD, List.getElem?_append, hj, Ne.symm hk]
theorem opn_ge {k : Nat} {ms : List Tok} {j : Nat} (hj : m.length ≤ j) : memOf (opn m k ms) j = ((ms[j - m.length + 1]?).map (·.ren (nmO k m.length))).getD .free := by
  have : ¬ j < m.length := by omega
  simp [opn, memOf, List.getD_eq_getElem?_getD, List.getElem?_append, this, Nat.add_comm]

/-- What lies at a place behind the opening. -/
theorem opn_case {k : Nat} {ms : List Tok} (hk : k < m.length) (hp : 0 < ms.length) (j : Nat) :
    (j < m.length ∧ j ≠ k ∧ memOf (opn m k ms) j = memOf m j) ∨ (∃ i t, i < ms.length ∧ ms[i]? = some t ∧ j = nmO k m.length i ∧ memOf (opn m k ms) j = t.ren (nmO k m.length)) ∨ (m.length ≤ j ∧ memOf (opn m k ms) j = .free ∧ memOf m j = .free) := by
  by_cases hjk : j = k
  · subst hjk
    exact .inr (.inl ⟨0, ms[0], hp, List.getElem?_eq_getElem hp, rfl, opn_k hk (List.getElem?_eq_getElem hp)⟩)
  · by_cases hj : j < m.length
    · exact .inl ⟨hj, hjk, opn_lt hj hjk⟩
    · have hj' : m.length ≤ j := by omega
      cases hi : ms[j - m.length + 1]? with
      | some t =>
        refine .inr (.inl ⟨j - m.length + 1, t, (List.getElem?_eq_some_iff.1 hi).1, hi, ?_, ?_⟩)
        · simp only [nmO]; omega
        · rw [opn_ge hj', hi]; rfl
      | none => exact .inr (.inr ⟨hj', by rw [opn_ge hj', hi]; rfl, memOf_len hj'⟩)

theorem Holds_inv {a : Abst.Ab} {e : Nat × Nat} {f : List Nat} {h : Heap} (hh : Holds a e f h) : ∃ (ms : List Tok) (ρ : Env) (φ : Nat → List Nat), AbstRep.Rep a ms ∧ 0 < ms.length ∧ ρ 0 = e ∧ e.1 ∈ f ∧
    (∀ k t, ms[k]? = some t → t.isAbs = false → PlainR ρ (ρ k) (φ k) t h) ∧ (∀ k a', ms[k]? = some (.abs a') → (ρ k).1 ∈ φ k) ∧ (∀ k a', ms[k]? = some (.abs a') → Holds a' (ρ k) (φ k) h) ∧
    (∀ t ∈ ms, t.owns = true) ∧ (∀ t ∈ ms, t.wf (fun k => k < ms.length)) ∧ (∀ j k b, j < ms.length → k < ms.length → b ∈ φ j → b ∈ φ k → j = k) ∧ (∀ b, b ∈ f ↔ ∃ k, k < ms.length ∧ b ∈ φ k) := by
  cases hh with
  | mk _ _ _ _ ms ρs φs rep pos root hroot plain absr absh own wf fi cov => exact ⟨ms, ρs, φs, rep, pos, root, hroot, plain, absr, absh, own, wf, fi, cov⟩

theorem open_sim {k : Nat} {a : Abst.Ab} (hk : m[k]? = some (.abs a)) (hs : Sim w0 pr ρ (memOf m) w) :
    ∃ (ms : List Tok) (ρ' : Env), AbstRep.Rep a ms ∧ 0 < ms.length ∧ (∀ t ∈ ms, t.owns = true) ∧ (∀ j, j < m.length → ρ' j = ρ j) ∧ Sim w0 pr ρ' (memOf (opn m k ms)) w := by
  obtain ⟨φ, hs⟩ := hs
  have hkl : k < m.length := (List.getElem?_eq_some_iff.1 hk).1
  have hmk : memOf m k = .abs a := by simp [memOf, List.getD_eq_getElem?_getD, hk]
  have ht := hs.tok k
  rw [hmk] at ht
  obtain ⟨_, hh⟩ := ht
  obtain ⟨ms, ρs, φs, rep, pos, root, hroot, plain, absr, absh, own, wf, fi, cov⟩ := Holds_inv hh
  · let ρ' : Env := fun j => if j < m.length then ρ j else ρs (j - m.length + 1)
    let φ' : Nat → List Nat := fun j => if j = k then φs 0 else if j < m.length then φ j else φs (j - m.length + 1)
    have hρn : ∀ i, ρ' (nmO k m.length i) = ρs i := fun i => by
      cases i with
      | zero => show (if k < m.length then ρ k else _) = _; rw [if_pos hkl, root]
      | succ i => show (if m.length + i < m.length then _ else ρs (m.length + i - m.length + 1)) = _; rw [if_neg (by omega)]; congr 1; omega
    have hφn : ∀ i, φ' (nmO k m.length i) = φs i := fun i => by
      cases i with
      | zero => show (if k = k then φs 0 else _) = _; rw [if_pos rfl]
      | succ i => show (if m.length + i = k then _ else if m.length + i < m.length then _ else φs (m.length + i - m.length + 1)) = _; rw [if_neg (by omega), if_neg (by omega)]; congr 1; omega
    have hρo : ∀ j, j < m.length → ρ' j = ρ j := fun j hj => by show (if j < m.length then ρ j else _) = _; rw [if_pos hj]
    have hφo : ∀ j, j < m.length → j ≠ k → φ' j = φ j := fun j hj hjk => by show (if j = k then _ else if j < m.length then φ j else _) = _; rw [if_neg hjk, if_pos hj]
    have hfk : (memOf m k).fo (φ k) = φ k := by rw [hmk]; exact fo_own rfl
    have hown : ∀ (i : Nat) (t : Tok), ms[i]? = some t → t.owns = true := fun i t hi => own t (List.mem_of_getElem? hi)
    have hal : ∀ j, al (memOf m) j → al (memOf (opn m k ms)) j := fun j hj => by
      rcases opn_case (m := m) hkl pos j with ⟨_, _, e⟩ | ⟨i, t, _, hi, _, e⟩ | ⟨_, _, e⟩
      · unfold al; rw [e]; exact hj
      · unfold al; rw [e, Tok.ren_isFree]; exact owns_nonfree (hown i t hi)
      · unfold al at hj; rw [e] at hj; cases hj
    have haln : ∀ i, i < ms.length → al (memOf (opn m k ms)) (nmO k m.length i) := fun i hi => by
      rcases opn_case (m := m) hkl pos (nmO k m.length i) with ⟨h1, h2, e⟩ | ⟨i', t, _, hi', _, e⟩ | ⟨h1, e, _⟩
      · cases i with
        | zero => exact absurd rfl h2
        | succ i => simp only [nmO] at h1; omega
      · unfold al; rw [e, Tok.ren_isFree]; exact owns_nonfree (hown i' t hi')
      · cases i with
        | zero => simp only [nmO] at h1; omega
        | succ i =>
          rw [opn_ge h1] at e
          simp only [nmO] at e
          rw [show m.length + i - m.length + 1 = i + 1 by omega, List.getElem?_eq_getElem hi] at e
          simp only [Option.map_some, Option.getD_some] at e
          have := Tok.ren_isFree (ι := nmO k m.length) ms[i + 1]
          rw [e, owns_nonfree (hown (i + 1) _ (List.getElem?_eq_getElem hi))] at this
          cases this
    refine ⟨ms, ρ', rep, pos, own, hρo, φ', hs.os, hs.tape, hs.output, hs.size, hs.prot, fun j => ?_, fun j b hb => ?_, fun i j b hi hj => ?_, fun j hj => ?_, fun j => ?_, fun j g T cs hj => ?_⟩
    · rcases opn_case (m := m) hkl pos j with ⟨h1, h2, e⟩ | ⟨i, t, hlt, hi, rfl, e⟩ | ⟨_, e, _⟩
      · rw [e, hρo j h1, hφo j h1 h2]
        exact TokR_congr (fun q hq => hρo q (al_lt hq)) (hs.wf j) (hs.tok j)
      · rw [e, hρn, hφn, TokR_ren]
        have hfun : (fun q => ρ' (nmO k m.length q)) = ρs := funext hρn
        rw [hfun]
        by_cases ha : t.isAbs = true
        · cases t with
          | abs a' => exact ⟨absr i a' hi, absh i a' hi⟩
          | _ => cases ha
        · exact (TokR_plain (by simpa using ha)).2 (plain i t hi (by simpa using ha))
      · rw [e]; exact TokR_idle rfl rfl
    · rcases opn_case (m := m) hkl pos j with ⟨h1, h2, e⟩ | ⟨i, t, hlt, hi, rfl, e⟩ | ⟨_, e, _⟩
      · rw [e, hφo j h1 h2] at hb; exact hs.fw j b hb
      · rw [e, Tok.ren_fo, hφn, fo_own (hown i t hi)] at hb
        exact hs.fw k b (by rw [hfk]; exact (cov b).2 ⟨i, hlt, hb⟩)
      · rw [e] at hb; simp [Tok.fo, Tok.owns] at hb
    · rcases opn_case (m := m) hkl pos i with ⟨h1, h2, e⟩ | ⟨i1, t, hlt, hi1, rfl, e⟩ | ⟨_, e, _⟩
      · rw [e, hφo i h1 h2] at hi
        rcases opn_case (m := m) hkl pos j with ⟨h1', h2', e'⟩ | ⟨i', t', hlt', hi', rfl, e'⟩ | ⟨_, e', _⟩
        · rw [e', hφo j h1' h2'] at hj; exact hs.fi i j b hi hj
        · rw [e', Tok.ren_fo, hφn, fo_own (hown i' t' hi')] at hj
          exact absurd (hs.fi i k b hi (by rw [hfk]; exact (cov b).2 ⟨i', hlt', hj⟩)) h2
        · rw [e'] at hj; simp [Tok.fo, Tok.owns] at hj
      · rw [e, Tok.ren_fo, hφn, fo_own (hown i1 t hi1)] at hi
        rcases opn_case (m := m) hkl pos j with ⟨h1', h2', e'⟩ | ⟨i', t', hlt', hi', rfl, e'⟩ | ⟨_, e', _⟩
        · rw [e', hφo j h1' h2'] at hj
          exact absurd (hs.fi j k b hj (by rw [hfk]; exact (cov b).2 ⟨i1, hlt, hi⟩)) h2'
        · rw [e', Tok.ren_fo, hφn, fo_own (hown i' t' hi')] at hj
          rw [fi i1 i' b hlt hlt' hi hj]
        · rw [e'] at hj; simp [Tok.fo, Tok.owns] at hj
      · rw [e] at hi; simp [Tok.fo, Tok.owns] at hi
    · rcases opn_case (m := m) hkl pos j with ⟨h1, h2, e⟩ | ⟨i, t, hlt, hi, rfl, e⟩ | ⟨_, e, _⟩
      · rw [e] at hj; rw [hρo j h1]; exact hs.ro j hj
      · rw [e, Tok.ren_isRo, owns_nro (hown i t hi)] at hj; cases hj
      · rw [e] at hj; cases hj
    · rcases opn_case (m := m) hkl pos j with ⟨h1, h2, e⟩ | ⟨i, t, hlt, hi, rfl, e⟩ | ⟨_, e, _⟩
      · rw [e]; exact Tok.wf_mono hal _ (hs.wf j)
      · rw [e]; exact Tok.wf_ren (A := (· < ms.length)) (fun q hq => haln q hq) _ (wf t (List.mem_of_getElem? hi))
      · rw [e]; trivial
    · rcases opn_case (m := m) hkl pos j with ⟨h1, h2, e⟩ | ⟨i, t, hlt, hi, rfl, e⟩ | ⟨_, e, _⟩
      · rw [e] at hj; rw [hρo j h1]; exact hs.gl j g T cs hj
      · have h1 := hown i t hi
        have h2 : (t.ren (nmO k m.length)).owns = true := by rw [Tok.ren_owns]; exact h1
        rw [← e, hj] at h2; cases h2
      · rw [e] at hj; cases hj

/-- The tokens 'k :: J' are shut into an object. -/
def shutM (m : List Tok) (k : Nat) (J : List Nat) (a : Abst.Ab) : List Tok := (List.range m.length).map fun j => if j = k then .abs a else if J.contains j then .hid else m.getD j .free
theorem shutM_at {m : List Tok} {k : Nat} {J : List Nat} {a : Abst.Ab} (j : Nat) : memOf (shutM m k J a) j = if m.length ≤ j then .free else if j = k then .abs a else if j ∈ J then .hid else memOf m j := by
  by_cases hj : m.length ≤ j
  · rw [if_pos hj]; exact memOf_len (by simp [shutM]; exact hj)
  · rw [if_neg hj]
    have : j < m.length := by omega
    simp [shutM, memOf, List.getD_eq_getElem?_getD, this]

omit [AbstRep] in
theorem names_inj {l : List Nat} (h : l.Nodup) {i j : Nat} (hi : i < l.length) (hj : j < l.length) (e : l.getD i 0 = l.getD j 0) : i = j := by
  rw [List.getD_eq_getElem?_getD, List.getD_eq_getElem?_getD, List.getElem?_eq_getElem hi, List.getElem?_eq_getElem hj] at e
  simp only [Option.getD_some] at e
  exact (List.getElem_inj h).1 e

theorem shut_sim {k : Nat} {J : List Nat} {a : Abst.Ab} {ms : List Tok} (hs : Sim w0 pr ρ (memOf m) w) (rep : AbstRep.Rep a ms) (hl : (k :: J).length = ms.length) (hn : (k :: J).Nodup) (hlt : ∀ j ∈ k :: J, j < m.length)
    (hm : ∀ i t, ms[i]? = some t → memOf m ((k :: J).getD i 0) = t.ren ((k :: J).getD · 0)) (own : ∀ t ∈ ms, t.owns = true) (hrw : ∀ t, ms[0]? = some t → t.isRw = true) (wf : ∀ t ∈ ms, t.wf (fun j => j < ms.length)) :
    Sim w0 pr ρ (memOf (shutM m k J a)) w := by
  obtain ⟨φ, hs⟩ := hs
  let ι : Nat → Nat := fun i => (k :: J).getD i 0
  have hp : 0 < ms.length := by rw [← hl]; simp
  have hk0 : ι 0 = k := rfl
  have hget : ∀ i, i < ms.length → ∃ t, ms[i]? = some t := fun i hi => ⟨_, List.getElem?_eq_getElem hi⟩
  have hmem : ∀ i, i < ms.length → ι i ∈ k :: J := fun i hi => by
    have : (k :: J)[i]? = some ((k :: J)[i]'(by omega)) := List.getElem?_eq_getElem (by omega)
    show (k :: J).getD i 0 ∈ _
    rw [List.getD_eq_getElem?_getD, this]
    exact List.getElem_mem _
  have hidx : ∀ j ∈ k :: J, ∃ i, i < ms.length ∧ ι i = j := fun j hj => by
    obtain ⟨i, hi, e⟩ := List.getElem_of_mem hj
    refine ⟨i, by omega, ?_⟩
    show (k :: J).getD i 0 = j
    rw [List.getD_eq_getElem?_getD, List.getElem?_eq_getElem hi, e]; rfl
  have hown : ∀ i t, ms[i]? = some t → (memOf m (ι i)).owns = true := fun i t hi => by rw [hm i t hi, Tok.ren_owns]; exact own t (List.mem_of_getElem? hi)
  have hfo : ∀ i, i < ms.length → (memOf m (ι i)).fo (φ (ι i)) = φ (ι i) := fun i hi => by
    obtain ⟨t, ht⟩ := hget i hi
    exact fo_own (hown i t ht)
  let f : List Nat := (List.range ms.length).flatMap fun i => φ (ι i)
  have hf : ∀ b, b ∈ f ↔ ∃ i, i < ms.length ∧ b ∈ φ (ι i) := fun b => by simp [f]
  let φ' : Nat → List Nat := fun j => if j = k then f else φ j
  have hroot : (ρ k).1 ∈ f := by
    obtain ⟨t, ht⟩ := hget 0 hp
    have h1 : (memOf m k).isRw = true := by rw [← hk0, hm 0 t ht, Tok.ren_isRw]; exact hrw t ht
    have h2 := hs.frw h1
    rw [show (memOf m k).fo (φ k) = φ k from hfo 0 hp] at h2
    exact (hf _).2 ⟨0, hp, by rw [hk0, h2]; simp⟩
  have hh : Holds a (ρ k) f (fun b => w.heap[b]?) := by
    refine .mk a (ρ k) f _ ms (fun i => ρ (ι i)) (fun i => φ (ι i)) rep hp rfl hroot (fun i t hi ha => ?_) (fun i a' hi => ?_) (fun i a' hi => ?_) own wf (fun i j b hi hj h1 h2 => ?_) hf
    · have := hs.tok (ι i)
      rw [hm i t hi, TokR_ren] at this
      exact (TokR_plain ha).1 this
    · have := hs.tok (ι i)
      rw [hm i _ hi, TokR_ren] at this
      exact this.1
    · have := hs.tok (ι i)
      rw [hm i _ hi, TokR_ren] at this
      exact this.2
    · have := hs.fi (ι i) (ι j) b (by rw [hfo i hi]; exact h1) (by rw [hfo j hj]; exact h2)
      exact names_inj hn (by omega) (by omega) this
  have hcase : ∀ j, (memOf (shutM m k J a) j = .free ∧ m.length ≤ j) ∨ (j = k ∧ memOf (shutM m k J a) j = .abs a) ∨ (j ∈ J ∧ memOf (shutM m k J a) j = .hid) ∨ (j ≠ k ∧ j ∉ J ∧ j < m.length ∧ memOf (shutM m k J a) j = memOf m j) := fun j => by
    rw [shutM_at]
    by_cases h1 : m.length ≤ j
    · left; exact ⟨if_pos h1, h1⟩
    · rw [if_neg h1]
      by_cases h2 : j = k
      · right; left; exact ⟨h2, if_pos h2⟩
      · rw [if_neg h2]
        by_cases h3 : j ∈ J
        · right; right; left; exact ⟨h3, if_pos h3⟩
        · right; right; right; exact ⟨h2, h3, by omega, if_neg h3⟩
  have hal : ∀ j, al (memOf m) j → al (memOf (shutM m k J a)) j := fun j hj => by
    unfold al
    rcases hcase j with ⟨_, h⟩ | ⟨_, e⟩ | ⟨_, e⟩ | ⟨_, _, _, e⟩
    · unfold al at hj; rw [memOf_len h] at hj; cases hj
    · rw [e]; rfl
    · rw [e]; rfl
    · rw [e]; exact hj
  have hφ : ∀ j, j ≠ k → φ' j = φ j := fun j hj => by show (if j = k then _ else _) = _; rw [if_neg hj]
  have hφk : φ' k = f := by show (if k = k then _ else _) = _; rw [if_pos rfl]
  have hsrc : ∀ j b, b ∈ (memOf (shutM m k J a) j).fo (φ' j) → (j = k ∧ ∃ i, i < ms.length ∧ b ∈ (memOf m (ι i)).fo (φ (ι i))) ∨ (j ≠ k ∧ j ∉ J ∧ b ∈ (memOf m j).fo (φ j)) := fun j b hb => by
    rcases hcase j with ⟨e, _⟩ | ⟨rfl, e⟩ | ⟨_, e⟩ | ⟨h1, h2, _, e⟩
    · rw [e] at hb; simp [Tok.fo, Tok.owns] at hb
    · rw [e, hφk] at hb
      obtain ⟨i, hi, hb'⟩ := (hf b).1 (by simpa [Tok.fo, Tok.owns] using hb)
      exact .inl ⟨rfl, i, hi, by rw [hfo i hi]; exact hb'⟩
    · rw [e] at hb; simp [Tok.fo, Tok.owns] at hb
    · rw [e, hφ j h1] at hb; exact .inr ⟨h1, h2, hb⟩
  refine ⟨φ', hs.os, hs.tape, hs.output, hs.size, hs.prot, fun j => ?_, fun j b hb => ?_, fun i j b hi hj => ?_, fun j hj => ?_, fun j => ?_, fun j g T cs hj => ?_⟩
  · rcases hcase j with ⟨e, _⟩ | ⟨rfl, e⟩ | ⟨_, e⟩ | ⟨h1, _, _, e⟩
    · rw [e]; exact TokR_idle rfl rfl
    · rw [e, hφk]; exact ⟨hroot, hh⟩
    · rw [e]; exact TokR_idle rfl rfl
    · rw [e, hφ j h1]; exact hs.tok j
  · rcases hsrc j b hb with ⟨_, i, _, hb'⟩ | ⟨_, _, hb'⟩
    · exact hs.fw _ b hb'
    · exact hs.fw _ b hb'
  · rcases hsrc i b hi with ⟨rfl, i1, hi1, hb1⟩ | ⟨h1, h1', hb1⟩
    · rcases hsrc j b hj with ⟨rfl, i2, _, _⟩ | ⟨h2, h2', hb2⟩
      · rfl
      · have := hs.fi _ _ b hb1 hb2
        have h3 := hmem i1 hi1
        rw [this] at h3
        rcases List.mem_cons.1 h3 with h | h
        · exact absurd h h2
        · exact absurd h h2'
    · rcases hsrc j b hj with ⟨rfl, i2, hi2, hb2⟩ | ⟨h2, h2', hb2⟩
      · have := hs.fi _ _ b hb2 hb1
        have h3 := hmem i2 hi2
        rw [this] at h3
        rcases List.mem_cons.1 h3 with h | h
        · exact absurd h h1
        · exact absurd h h1'
      · exact hs.fi _ _ b hb1 hb2
  · rcases hcase j with ⟨e, _⟩ | ⟨rfl, e⟩ | ⟨_, e⟩ | ⟨h1, _, _, e⟩ <;> rw [e] at hj
    · cases hj
    · cases hj
    · cases hj
    · exact hs.ro j hj
  · rcases hcase j with ⟨e, _⟩ | ⟨rfl, e⟩ | ⟨_, e⟩ | ⟨h1, _, _, e⟩ <;> rw [e]
    · trivial
    · trivial
    · trivial
    · exact Tok.wf_mono hal _ (hs.wf j)
  · rcases hcase j with ⟨e, _⟩ | ⟨rfl, e⟩ | ⟨_, e⟩ | ⟨h1, _, _, e⟩ <;> rw [e] at hj
    · cases hj
    · cases hj
    · cases hj
    · exact hs.gl j g T cs hj

/-- What an object is made of, and of nothing else. -/
structure RepOK (a : Abst.Ab) (ms : List Tok) : Prop where
  rep : AbstRep.Rep a ms
  uniq : ∀ x, AbstRep.Rep a x → x = ms
  own : ∀ t ∈ ms, t.owns = true
  root : ∀ t, ms[0]? = some t → t.isRw = true
  pos : 0 < ms.length
  wf : ∀ t ∈ ms, t.wf (fun j => j < ms.length)
def Tok.okIn (n : Nat) (t : Tok) : Bool := t.toks.all fun j => decide (j < n)
/-- The same, out of what the kernel can tell. -/
theorem RepOK.of {a : Abst.Ab} {ms : List Tok} (rep : AbstRep.Rep a ms) (uniq : ∀ x, AbstRep.Rep a x → x = ms) (h : (ms.all fun t => t.owns && t.okIn ms.length) = true) (h0 : ((ms[0]?).map Tok.isRw).getD false = true) : RepOK a ms where
  rep := rep
  uniq := uniq
  own := fun t ht => by have := List.all_eq_true.1 h t ht; simp only [Bool.and_eq_true] at this; exact this.1
  root := fun t ht => by rw [ht] at h0; exact h0
  pos := by cases ms <;> simp_all
  wf := fun t ht => by
    have := List.all_eq_true.1 h t ht
    simp only [Bool.and_eq_true] at this
    exact Tok.toks_wf _ (fun j hj => by simpa using List.all_eq_true.1 this.2 j hj)

variable {P : Program} {f : FuncId} {args : List LV} {v : LV} {m' : List Tok} {wr : List Nat}
theorem FTrip.opn {k : Nat} {a : Abst.Ab} {ms : List Tok} (h : FTrip P f args (Go.Vse.opn m k ms) v m' wr) (hk : m[k]? = some (.abs a)) (hR : RepOK a ms) (hkw : k ∈ wr) : FTrip P f args m v m' wr := by
  obtain ⟨⟨h1, h2, h3⟩, h4, h5⟩ := h
  have hkl : k < m.length := (List.getElem?_eq_some_iff.1 hk).1
  have hal : ∀ j, al (memOf m) j → al (memOf (Go.Vse.opn m k ms)) j := fun j hj => by
    rcases opn_case (m := m) hkl hR.pos j with ⟨_, _, e⟩ | ⟨i, t, _, hi, _, e⟩ | ⟨_, _, e⟩
    · unfold al; rw [e]; exact hj
    · unfold al; rw [e, Tok.ren_isFree]; exact owns_nonfree (hR.own t (List.mem_of_getElem? hi))
    · unfold al at hj; rw [e] at hj; cases hj
  refine ⟨⟨fun j hj => h1 j (hal j hj), h2, fun F hF w0 pr ρ w vs R hs hv hw hK => ?_⟩, fun j hj hn => ?_, fun j hj => ?_⟩
  · obtain ⟨ms', ρ', rep, _, _, hag, hs'⟩ := open_sim hk hs
    have := hR.uniq ms' rep
    subst this
    refine h3 F hF w0 pr ρ' w vs R hs' (VRs_congr (A := al (memOf m)) (fun q hq => hag q (al_lt hq)) _ _ hw hv) (wfL_mono hal _ hw) (fun v' ρ'' w' hag' hv' hs'' => hK v' ρ'' w' (fun q hq => ?_) hv' hs'')
    rw [hag' q (hal q hq), hag q (al_lt hq)]
  · have hjk : j ≠ k := fun e => hn (e ▸ hkw)
    rw [h4 j (hal j hj) hn]
    exact opn_lt (al_lt hj) hjk
  · have := h5 j hj
    rcases opn_case (m := m) hkl hR.pos j with ⟨_, _, e⟩ | ⟨i, t, _, hi, _, e⟩ | ⟨_, e, _⟩
    · rw [e] at this; exact this
    · rw [e, Tok.ren_isRo, owns_nro (hR.own t (List.mem_of_getElem? hi))] at this; cases this
    · rw [e] at this; cases this

theorem FTrip.shut {M m1 : List Tok} {k : Nat} {J : List Nat} {a : Abst.Ab} {ms : List Tok} (h : FTrip P f args M v m1 wr) (hR : RepOK a ms) (hn : nodupB (k :: J) = true) (hlt : ((k :: J).all fun j => decide (j < m1.length)) = true)
    (hm : (k :: J).map (fun j => m1.getD j .free) = ms.map (·.ren ((k :: J).getD · 0))) : FTrip P f args M v (shutM m1 k J a) (k :: J ++ wr) := by
  obtain ⟨⟨h1, h2, h3⟩, h4, h5⟩ := h
  have hl : (k :: J).length = ms.length := by have := congrArg List.length hm; simpa using this
  have hnd := nodupB_iff hn
  have hlt' : ∀ j ∈ k :: J, j < m1.length := fun j hj => by simpa using List.all_eq_true.1 hlt j hj
  have hm' : ∀ i t, ms[i]? = some t → memOf m1 ((k :: J).getD i 0) = t.ren ((k :: J).getD · 0) := fun i t hi => by
    have hi' : i < (k :: J).length := by rw [hl]; exact (List.getElem?_eq_some_iff.1 hi).1
    have h1 : ((k :: J).map (fun j => m1.getD j .free))[i]? = (ms.map (·.ren ((k :: J).getD · 0)))[i]? := by rw [hm]
    rw [List.getElem?_map, List.getElem?_map, hi, List.getElem?_eq_getElem hi'] at h1
    simp only [Option.map_some, Option.some.injEq] at h1
    rw [← h1]
    show m1.getD _ .free = _
    rw [List.getD_eq_getElem?_getD (l := k :: J), List.getElem?_eq_getElem hi']; rfl
  have hal : ∀ j, al (memOf m1) j → al (memOf (shutM m1 k J a)) j := fun j hj => by
    unfold al; rw [shutM_at, if_neg (by have := al_lt hj; omega)]
    split
    · rfl
    · split
      · rfl
      · exact hj
  refine ⟨⟨fun j hj => hal j (h1 j hj), LV.wf_mono hal _ h2, fun F hF w0 pr ρ w vs R hs hv hw hK => ?_⟩, fun j hj hnw => ?_, fun j hj => ?_⟩
  · exact h3 F hF w0 pr ρ w vs R hs hv hw (fun v' ρ' w' hag hv' hs' => hK v' ρ' w' hag hv' (shut_sim hs' hR.rep hl hnd hlt' hm' hR.own hR.root hR.wf))
  · simp only [List.mem_append, not_or, List.cons_append, List.mem_cons] at hnw
    rw [shutM_at, if_neg (by have := al_lt (h1 j hj); omega), if_neg hnw.1, if_neg hnw.2.1]
    exact h4 j hj hnw.2.2
  · rw [shutM_at] at hj
    split at hj
    · cases hj
    · split at hj
      · cases hj
      · split at hj
        · cases hj
        · exact h5 j hj

theorem Sim.cut {m1 m2 : List Tok} (h1 : ∀ j, memOf m2 j = memOf m1 j ∨ memOf m2 j = .free) (hwf : ∀ j, (memOf m2 j).wf (al (memOf m2))) (hs : Sim w0 pr ρ (memOf m1) w) : Sim w0 pr ρ (memOf m2) w := by
  obtain ⟨φ, h⟩ := hs
  have hfo : ∀ j b, b ∈ (memOf m2 j).fo (φ j) → b ∈ (memOf m1 j).fo (φ j) := fun j b hb => by
    rcases h1 j with e | e <;> rw [e] at hb
    · exact hb
    · simp [Tok.fo, Tok.owns] at hb
  refine ⟨φ, h.os, h.tape, h.output, h.size, h.prot, fun j => ?_, fun j b hb => h.fw j b (hfo j b hb), fun i j b hi hj => h.fi i j b (hfo i b hi) (hfo j b hj), fun j hj => ?_, hwf, fun j g T cs hj => ?_⟩
  · rcases h1 j with e | e <;> rw [e]
    · exact h.tok j
    · exact TokR_idle rfl rfl
  · rcases h1 j with e | e <;> rw [e] at hj
    · exact h.ro j hj
    · cases hj
  · rcases h1 j with e | e <;> rw [e] at hj
    · exact h.gl j g T cs hj
    · cases hj
theorem FTrip.cut {M m1 m2 : List Tok} {wr2 : List Nat} (h : FTrip P f args M v m1 wr) (h1 : ∀ j, memOf m2 j = memOf m1 j ∨ memOf m2 j = .free) (hk : ∀ j, al (memOf M) j → al (memOf m2) j) (hwf : ∀ j, (memOf m2 j).wf (al (memOf m2))) (hv : v.wf (al (memOf m2)))
    (hfr : ∀ j, al (memOf M) j → j ∉ wr2 → memOf m2 j = memOf M j) : FTrip P f args M v m2 wr2 := by
  obtain ⟨⟨g1, g2, g3⟩, g4, g5⟩ := h
  refine ⟨⟨hk, hv, fun F hF w0 pr ρ w vs R hs hvs hw hK => ?_⟩, hfr, fun j hj => ?_⟩
  · exact g3 F hF w0 pr ρ w vs R hs hvs hw (fun v' ρ' w' hag hv' hs' => hK v' ρ' w' hag hv' (hs'.cut h1 hwf))
  · rcases h1 j with e | e <;> rw [e] at hj
    · exact g5 j hj
    · cases hj
/-- Does a memory name only what is there? -/
def closedB (m : List Tok) : Bool := m.all fun t => t.toks.all fun j => decide (j < m.length) && !(m.getD j .free).isFree
def closedV (m : List Tok) (v : LV) : Bool := v.toks.all fun j => decide (j < m.length) && !(m.getD j .free).isFree
theorem closed_wf {m : List Tok} (h : closedB m = true) (j : Nat) : (memOf m j).wf (al (memOf m)) := by
  rcases Nat.lt_or_ge j m.length with hj | hj
  · refine Tok.toks_wf _ (fun q hq => ?_)
    have e : memOf m j = m[j] := by simp [memOf, List.getD_eq_getElem?_getD, hj]
    rw [e] at hq
    have := List.all_eq_true.1 (List.all_eq_true.1 h _ (List.getElem_mem hj)) q hq
    simp only [Bool.and_eq_true, decide_eq_true_eq, Bool.not_eq_true'] at this
    exact this.2
  · rw [memOf_len hj]; trivial
theorem closed_v {m : List Tok} {v : LV} (h : closedV m v = true) : v.wf (al (memOf m)) := LV.toks_wf _ (fun q hq => by
  have := List.all_eq_true.1 h q hq
  simp only [Bool.and_eq_true, decide_eq_true_eq, Bool.not_eq_true'] at this
  exact this.2)
/-- What one object's own operation does, told of the object. -/
theorem FTrip.absOp {k : Nat} {a a' : Abst.Ab} {ms ms' : List Tok} {J : List Nat} (h : FTrip P f args (Go.Vse.opn m k ms) v (Go.Vse.opn m k ms') wr) (hk : m[k]? = some (.abs a)) (hR : RepOK a ms) (hR' : RepOK a' ms')
    (hn : nodupB (k :: J) = true) (hlt : ((k :: J).all fun j => decide (j < (Go.Vse.opn m k ms').length)) = true) (hJ : (J.all fun j => decide (m.length ≤ j)) = true)
    (hm : (k :: J).map (fun j => (Go.Vse.opn m k ms').getD j .free) = ms'.map (·.ren ((k :: J).getD · 0)))
    (hc : closedB (m.set k (.abs a')) = true) (hv : closedV (m.set k (.abs a')) v = true) : FTrip P f args m v (m.set k (.abs a')) [k] := by
  have hkl : k < m.length := (List.getElem?_eq_some_iff.1 hk).1
  have h2 := (h.shut hR' hn hlt hm).opn hk hR (by simp)
  have hset : ∀ j, memOf (m.set k (.abs a')) j = if j = k then .abs a' else memOf m j := fun j => by
    rw [memOf_setL hkl]
    by_cases e : j = k
    · rw [e, Mem.set_same, if_pos rfl]
    · rw [Mem.set_other _ _ e, if_neg e]
  have hal : ∀ j, al (memOf m) j → al (memOf (m.set k (.abs a'))) j := fun j hj => by
    unfold al; rw [hset]; split
    · rfl
    · exact hj
  refine h2.cut (fun j => ?_) hal (closed_wf hc) (closed_v hv) (fun j _ hn => ?_)
  · rw [hset, shutM_at]
    by_cases e : j = k
    · left; rw [if_pos e, if_pos e]
      rw [if_neg]
      have := List.all_eq_true.1 hlt k (by simp)
      simp only [decide_eq_true_eq] at this
      omega
    · rw [if_neg e, if_neg e]
      by_cases hj : j < m.length
      · left
        have h3 : ¬ (Go.Vse.opn m k ms').length ≤ j := by simp [Go.Vse.opn]; omega
        rw [if_neg h3, if_neg, opn_lt hj e]
        intro hJ'
        have := List.all_eq_true.1 hJ j hJ'
        simp only [decide_eq_true_eq] at this
        omega
      · right; exact memOf_len (by omega)
  · rw [hset, if_neg (by simpa using hn)]
end
end Go.Vse
