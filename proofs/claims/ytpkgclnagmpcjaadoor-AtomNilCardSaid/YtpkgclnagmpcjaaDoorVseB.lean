/- The frame rule's way out; the triple of one operation. -/
import Derived.Test.YtpkgclnagmpcjaaDoorVseA
namespace Go.Vse
open Go

/-- What an operation may turn: its own (written by the call alone) or what is free; nothing becomes free or read-only. -/
def chOk (m : Mem) (ch : List (Nat × Tok)) : Prop :=
  ∀ p ∈ ch, p.2.isFree = false ∧ p.2.isRo = false ∧ ((m p.1).isFree = true ∨ (m p.1).isRw = true)

theorem sets_keys (ch : List (Nat × Tok)) : ∀ (m M : Mem) (k : Nat), (∃ p ∈ ch, p.1 = k) → m.sets ch k = M.sets ch k := by
  induction ch with
  | nil => intro m M k h; simp at h
  | cons x ch ih =>
    intro m M k h
    by_cases hk : ∃ p ∈ ch, p.1 = k
    · exact ih _ _ k hk
    · obtain ⟨p, hp, e⟩ := h
      have hx : x.1 = k := by
        rcases List.mem_cons.1 hp with h1 | h1
        · rw [← h1]; exact e
        · exact absurd ⟨p, h1, e⟩ hk
      have hno : ∀ p ∈ ch, p.1 ≠ k := fun p hp e => hk ⟨p, hp, e⟩
      obtain ⟨x1, x2⟩ := x
      simp only at hx
      subst hx
      simp only [Mem.sets]
      rw [Mem.sets_other ch _ hno, Mem.sets_other ch _ hno, Mem.set_same, Mem.set_same]

theorem sets_nonfree (ch : List (Nat × Tok)) : ∀ (m : Mem) (k : Nat), (∀ p ∈ ch, p.2.isFree = false) → (∃ p ∈ ch, p.1 = k) → (m.sets ch k).isFree = false := by
  induction ch with
  | nil => intro m k _ h; simp at h
  | cons x ch ih =>
    intro m k hf h
    by_cases hk : ∃ p ∈ ch, p.1 = k
    · exact ih _ k (fun p hp => hf p (List.mem_cons_of_mem _ hp)) hk
    · obtain ⟨p, hp, e⟩ := h
      have hno : ∀ p ∈ ch, p.1 ≠ k := fun p hp e => hk ⟨p, hp, e⟩
      have hx : x.1 = k := by
        rcases List.mem_cons.1 hp with h1 | h1
        · rw [← h1]; exact e
        · exact absurd ⟨p, h1, e⟩ hk
      have := hf x (by simp)
      obtain ⟨x1, x2⟩ := x
      simp only at hx this
      subst hx
      simp only [Mem.sets]
      rw [Mem.sets_other ch _ hno, Mem.set_same]; exact this

theorem sets_ro (ch : List (Nat × Tok)) : ∀ (m : Mem) (k : Nat), (∀ p ∈ ch, p.2.isRo = false) → (∃ p ∈ ch, p.1 = k) → (m.sets ch k).isRo = false := by
  induction ch with
  | nil => intro m k _ h; simp at h
  | cons x ch ih =>
    intro m k hf h
    by_cases hk : ∃ p ∈ ch, p.1 = k
    · exact ih _ k (fun p hp => hf p (List.mem_cons_of_mem _ hp)) hk
    · obtain ⟨p, hp, e⟩ := h
      have hno : ∀ p ∈ ch, p.1 ≠ k := fun p hp e => hk ⟨p, hp, e⟩
      have hx : x.1 = k := by
        rcases List.mem_cons.1 hp with h1 | h1
        · rw [← h1]; exact e
        · exact absurd ⟨p, h1, e⟩ hk
      have := hf x (by simp)
      obtain ⟨x1, x2⟩ := x
      simp only at hx this
      subst hx
      simp only [Mem.sets]
      rw [Mem.sets_other ch _ hno, Mem.set_same]; exact this

theorem al_sets {m : Mem} {ch : List (Nat × Tok)} (hc : ∀ p ∈ ch, p.2.isFree = false) {k : Nat} (h : al m k) : al (m.sets ch) k := by
  by_cases hk : ∃ p ∈ ch, p.1 = k
  · exact sets_nonfree ch m k hc hk
  · unfold al; rw [Mem.sets_other ch m (fun p hp e => hk ⟨p, hp, e⟩)]; exact h

theorem isRw_nonfree {t : Tok} (h : t.isRw = true) : t.isFree = false := by cases t <;> simp_all [Tok.isRw, Tok.isFree]
theorem isRo_nonfree {t : Tok} (h : t.isRo = true) : t.isFree = false := by cases t <;> simp_all [Tok.isRo, Tok.isFree]

theorem le_rw {m M : Mem} (hle : m.le M) {k : Nat} (h : (m k).isRw = true) : m k = M k := by
  rcases hle k with e | e | e
  · exact e
  · rw [isRw_nonfree h] at e; cases e
  · rw [e.1] at h; simp [Tok.isRw] at h

theorem le_al {m M : Mem} (hle : m.le M) {k : Nat} (h : al m k) : al M k := by
  rcases hle k with e | e | e
  · unfold al at *; rw [← e]; exact h
  · unfold al at h; rw [h] at e; cases e
  · exact e.2

/-- The environment behind the frame: what the smaller memory knows, else as it was. -/
def Env.mix (m' : Mem) (ρ ρ' : Env) : Env := fun k => if (m' k).isFree then ρ k else ρ' k
theorem Env.mix_al {m' : Mem} {ρ ρ' : Env} {k : Nat} (h : al m' k) : Env.mix m' ρ ρ' k = ρ' k := by unfold al at h; simp [Env.mix, h]

theorem frame_out {w0 : World} {pr : Nat → Prop} {ρ ρ' : Env} {M m : Mem} {w w' : World} {ch : List (Nat × Tok)} (h : Sim w0 pr ρ M w) (hle : m.le M)
    (hc : ∀ p ∈ ch, p.2.isFree = false ∧ p.2.isRo = false ∧ M p.1 = m p.1)
    (hs : Sim w (fun b => b < w.heap.size ∧ ∀ k, (m k).isRw = true → (ρ k).1 ≠ b) ρ' (m.sets ch) w') (hag : ∀ k, al m k → ρ' k = ρ k) :
    (∀ k, al M k → Env.mix (m.sets ch) ρ ρ' k = ρ k) ∧ Sim w0 pr (Env.mix (m.sets ch) ρ ρ') (M.sets ch) w' := by
  have hcf : ∀ p ∈ ch, p.2.isFree = false := fun p hp => (hc p hp).1
  have hkey : ∀ k, (∃ p ∈ ch, p.1 = k) → M k = m k := fun k ⟨p, hp, e⟩ => e ▸ (hc p hp).2.2
  have halm : ∀ k, al m k → al (m.sets ch) k := fun k hk => al_sets hcf hk
  have halM : ∀ k, al M k → al (M.sets ch) k := fun k hk => al_sets hcf hk
  have hmix : ∀ k, al M k → Env.mix (m.sets ch) ρ ρ' k = ρ k := by
    intro k hk
    unfold Env.mix
    split
    · rfl
    · rename_i hf
      by_cases hin : ∃ p ∈ ch, p.1 = k
      · exact hag k (by unfold al; rw [← hkey k hin]; exact hk)
      · rw [Mem.sets_other ch m (fun p hp e => hin ⟨p, hp, e⟩)] at hf
        exact hag k (by simpa [al] using hf)
  have hal' : ∀ k, al (m.sets ch) k → al (M.sets ch) k := by
    intro k hk
    by_cases hin : ∃ p ∈ ch, p.1 = k
    · exact sets_nonfree ch M k hcf hin
    · unfold al at *
      rw [Mem.sets_other ch m (fun p hp e => hin ⟨p, hp, e⟩)] at hk
      rw [Mem.sets_other ch M (fun p hp e => hin ⟨p, hp, e⟩)]
      exact le_al hle hk
  -- the guard holds of what the smaller memory does not write
  have hguard : ∀ k, (M k).isRw = true ∨ (M k).isRo = true → m k ≠ M k → (fun b => b < w.heap.size ∧ ∀ k, (m k).isRw = true → (ρ k).1 ≠ b) (ρ k).1 := by
    intro k hl hne
    refine ⟨h.lt hl, fun j hj e => ?_⟩
    have ej := le_rw hle hj
    rcases hl with hl | hl
    · have : j = k := h.inj j k (ej ▸ hj) hl e
      subst this; exact hne ej
    · have := h.rw j (ej ▸ hj); rw [e] at this; exact this (h.ro k hl)
  have hprg : ∀ b, pr b → (fun b => b < w.heap.size ∧ ∀ k, (m k).isRw = true → (ρ k).1 ≠ b) b := by
    intro b hb
    refine ⟨Nat.lt_of_lt_of_le (h.prot b hb).1 h.size, fun j hj e => ?_⟩
    exact h.rw j ((le_rw hle hj) ▸ hj) (e ▸ hb)
  -- what is small, what is great alone
  have hsm : ∀ k, (M.sets ch k).isRw = true → ((m.sets ch k) = M.sets ch k) ∨ (m k ≠ M k ∧ M.sets ch k = M k ∧ (M k).isRw = true) := by
    intro k hk
    by_cases hin : ∃ p ∈ ch, p.1 = k
    · exact .inl (sets_keys ch _ _ k hin)
    · rw [Mem.sets_other ch M (fun p hp e => hin ⟨p, hp, e⟩)] at hk ⊢
      rw [Mem.sets_other ch m (fun p hp e => hin ⟨p, hp, e⟩)]
      by_cases he : m k = M k
      · exact .inl he
      · exact .inr ⟨he, rfl, hk⟩
  refine ⟨hmix, ?_⟩
  constructor
  · rw [hs.os, h.os]
  · rw [hs.tape, h.tape]
  · rw [hs.output, h.output]
  · exact Nat.le_trans h.size hs.size
  · intro b hb
    have := hs.prot b (hprg b hb)
    exact ⟨(h.prot b hb).1, this.2.trans (h.prot b hb).2⟩
  · intro k
    by_cases hin : ∃ p ∈ ch, p.1 = k
    · rw [← sets_keys ch m M k hin]
      have hak : al (m.sets ch) k := sets_nonfree ch m k hcf hin
      rw [Env.mix_al hak]
      exact TR_congr (fun j hj => Env.mix_al hj) _ _ (hs.wf k) (hs.tok k)
    · rw [Mem.sets_other ch M (fun p hp e => hin ⟨p, hp, e⟩)]
      by_cases he : m k = M k
      · by_cases hf : al m k
        · have hak := halm k hf
          rw [Env.mix_al hak]
          have h1 := hs.tok k
          have h2 := hs.wf k
          rw [Mem.sets_other ch m (fun p hp e => hin ⟨p, hp, e⟩), he] at h1 h2
          exact TR_congr (fun j hj => Env.mix_al hj) _ _ h2 h1
        · have : (M k).isFree = true := by rw [← he]; simpa [al] using hf
          cases hM : M k <;> simp [hM, Tok.isFree] at this; trivial
      · by_cases hl : (M k).isRw = true ∨ (M k).isRo = true
        · have hak : al M k := by rcases hl with hl | hl; exact isRw_nonfree hl; exact isRo_nonfree hl
          rw [hmix k hak]
          have h1 := (hs.prot _ (hguard k hl he)).2
          rw [h1]
          exact TR_congr hmix _ _ (h.wf k) (h.tok k)
        · cases hM : M k with
          | free => trivial
          | hid => trivial
          | cells rw T cs => rw [hM] at hl; cases rw <;> simp [Tok.isRw, Tok.isRo] at hl
          | loop => rw [hM] at hl; simp [Tok.isRw] at hl
          | defd => rw [hM] at hl; simp [Tok.isRw] at hl
          | glob => rw [hM] at hl; simp [Tok.isRw, Tok.isRo] at hl
  · intro k hk hp
    rcases hsm k hk with e | ⟨_, e, hr⟩
    · have hak : al (m.sets ch) k := by rw [← e] at hk; exact isRw_nonfree hk
      rw [Env.mix_al hak] at hp
      exact hs.rw k (e ▸ hk) (hprg _ hp)
    · rw [hmix k (isRw_nonfree hr)] at hp
      exact h.rw k hr hp
  · intro k hk
    by_cases hin : ∃ p ∈ ch, p.1 = k
    · rw [sets_ro ch M k (fun p hp => (hc p hp).2.1) hin] at hk; cases hk
    · rw [Mem.sets_other ch M (fun p hp e => hin ⟨p, hp, e⟩)] at hk
      rw [hmix k (isRo_nonfree hk)]
      exact h.ro k hk
  · intro j k hj hk e
    rcases hsm j hj with ej | ⟨nj, ej, rj⟩ <;> rcases hsm k hk with ek | ⟨nk, ek, rk⟩
    · have haj : al (m.sets ch) j := by rw [← ej] at hj; exact isRw_nonfree hj
      have hak : al (m.sets ch) k := by rw [← ek] at hk; exact isRw_nonfree hk
      rw [Env.mix_al haj, Env.mix_al hak] at e
      exact hs.inj j k (ej ▸ hj) (ek ▸ hk) e
    · have haj : al (m.sets ch) j := by rw [← ej] at hj; exact isRw_nonfree hj
      rw [Env.mix_al haj, hmix k (isRw_nonfree rk)] at e
      exact absurd (e ▸ hguard k (.inl rk) nk) (hs.rw j (ej ▸ hj))
    · have hak : al (m.sets ch) k := by rw [← ek] at hk; exact isRw_nonfree hk
      rw [Env.mix_al hak, hmix j (isRw_nonfree rj)] at e
      exact absurd (e ▸ hguard j (.inl rj) nj) (hs.rw k (ek ▸ hk))
    · rw [hmix j (isRw_nonfree rj), hmix k (isRw_nonfree rk)] at e
      exact h.inj j k rj rk e
  · intro k
    by_cases hin : ∃ p ∈ ch, p.1 = k
    · rw [← sets_keys ch m M k hin]; exact Tok.wf_mono hal' _ (hs.wf k)
    · rw [Mem.sets_other ch M (fun p hp e => hin ⟨p, hp, e⟩)]; exact Tok.wf_mono halM _ (h.wf k)
  · intro k g T cs hk
    by_cases hin : ∃ p ∈ ch, p.1 = k
    · have := sets_ro ch M k (fun p hp => (hc p hp).2.1) hin
      rw [hk] at this; cases this
    · rw [Mem.sets_other ch M (fun p hp e => hin ⟨p, hp, e⟩)] at hk
      rw [hmix k (by unfold al; rw [hk]; rfl)]
      exact h.gl k g T cs hk

/-- The temporaries that an operation looks at. -/
def looks (o : Oper) : List Tmp := o.op.operands.toList.filterMap fun | .tmp t => some t | _ => none

/-- The frame's slots that are looked at hold what the local frame says. -/
def LookR (ρ : Env) (A : Nat → Prop) (ts : List Tmp) (fr : Tmp → LV) (a : Act) : Prop := ∀ t ∈ ts, VR ρ (fr t) (a.tmps.getD t undef) ∧ (fr t).wf A

/-- THE TRIPLE OF ONE OPERATION (calls among them): from the memory m it yields v and turns the tokens 'ch'. -/
def OSpec (P : Program) (o : Oper) (fr : Tmp → LV) (m : Mem) (v : LV) (ch : List (Nat × Tok)) : Prop :=
  ∀ F, okF F → ∀ w0 pr ρ w a (K : Act → World → Prop) Q, Sim w0 pr ρ m w → LookR ρ (al m) (looks o) fr a →
    (∀ v' ρ' w', (∀ k, al m k → ρ' k = ρ k) → VR ρ' v v' → v.wf (al (m.sets ch)) → Sim w0 pr ρ' (m.sets ch) w' → K (a.put o.dst v') w') →
    o.wpIn F 0 P a w K Q

theorem OSpec.frame {P : Program} {o : Oper} {fr : Tmp → LV} {m M : Mem} {v : LV} {ch : List (Nat × Tok)} (h : OSpec P o fr m v ch) (hle : m.le M) (hwf : ∀ k, (m k).wf (al m))
    (hlk : ∀ t ∈ looks o, (fr t).wf (al m)) (hc : ∀ p ∈ ch, p.2.isFree = false ∧ p.2.isRo = false ∧ M p.1 = m p.1) : OSpec P o fr M v ch := by
  intro F hF w0 pr ρ w a K Q hs hl hK
  refine h F hF w _ ρ w a K Q (frame_in hs hle hwf) (fun t ht => ⟨(hl t ht).1, hlk t ht⟩) (fun v' ρ' w' hag hv hvw hs' => ?_)
  obtain ⟨hmix, hS⟩ := frame_out hs hle hc hs' hag
  refine hK v' _ w' hmix (VR_congr (fun k hk => Env.mix_al hk) v v' hvw hv) ?_ hS
  refine LV.wf_mono (fun k hk => ?_) v hvw
  by_cases hin : ∃ p ∈ ch, p.1 = k
  · exact sets_nonfree ch M k (fun p hp => (hc p hp).1) hin
  · unfold al at *
    rw [Mem.sets_other ch m (fun p hp e => hin ⟨p, hp, e⟩)] at hk
    rw [Mem.sets_other ch M (fun p hp e => hin ⟨p, hp, e⟩)]
    exact le_al hle hk

end Go.Vse
