/- The frame rule's way out; the triple of one operation. -/
import Derived.Test.YtpnfdndjaepbbaaVseA
namespace Go.Vse
open Go

/-- The temporaries that an operation looks at. -/
def looks (o : Oper) : List Tmp := o.op.operands.toList.filterMap fun | .tmp t => some t | _ => none

/-- The frame's slots that are looked at hold what the local frame says. -/
def LookR (ρ : Env) (A : Nat → Prop) (ts : List Tmp) (fr : Tmp → LV) (a : Act) : Prop := ∀ t ∈ ts, VR ρ (fr t) (a.tmps.getD t undef) ∧ (fr t).wf A

section
variable [AbstRep]
theorem sets_keys (ch : List (Nat × Tok)) : ∀ (m M : Mem) (k : Nat), (∃ p ∈ ch, p.1 = k) → m.sets ch k = M.sets ch k := by
  induction ch with
  | nil => intro m M k h; simp at h
  | cons x ch ih =>
    intro m M k h
    by_cases hk : ∃ p ∈ ch, p.1 = k
    · exact ih _ _ k hk
    · obtain ⟨p, hp, e⟩ := h
      have hx : x.1 = k := by
        rcases List.mem_cons.1 hp with h1 | h1
        · rw [← h1]; exact e
        · exact absurd ⟨p, h1, e⟩ hk
      have hno : ∀ p ∈ ch, p.1 ≠ k := fun p hp e => hk ⟨p, hp, e⟩
      obtain ⟨x1, x2⟩ := x
      simp only at hx
      subst hx
      simp only [Mem.sets]
      rw [Mem.sets_other ch _ hno, Mem.sets_other ch _ hno, Mem.set_same, Mem.set_same]

/-- What lies at a key is one of the tokens that were put. -/
theorem sets_mem (ch : List (Nat × Tok)) : ∀ (m : Mem) (k : Nat), (∃ p ∈ ch, p.1 = k) → ∃ p ∈ ch, m.sets ch k = p.2 := by
  induction ch with
  | nil => intro m k h; simp at h
  | cons x ch ih =>
    intro m k h
    by_cases hk : ∃ p ∈ ch, p.1 = k
    · obtain ⟨p, hp, e⟩ := ih (m.set x.1 x.2) k hk
      exact ⟨p, List.mem_cons_of_mem _ hp, e⟩
    · obtain ⟨p, hp, e⟩ := h
      have hno : ∀ p ∈ ch, p.1 ≠ k := fun p hp e => hk ⟨p, hp, e⟩
      have hx : x.1 = k := by
        rcases List.mem_cons.1 hp with h1 | h1
        · rw [← h1]; exact e
        · exact absurd ⟨p, h1, e⟩ hk
      refine ⟨x, by simp, ?_⟩
      obtain ⟨x1, x2⟩ := x
      simp only at hx
      subst hx
      simp only [Mem.sets]
      rw [Mem.sets_other ch _ hno, Mem.set_same]

theorem sets_nonfree (ch : List (Nat × Tok)) (m : Mem) (k : Nat) (hf : ∀ p ∈ ch, p.2.isFree = false) (h : ∃ p ∈ ch, p.1 = k) : (m.sets ch k).isFree = false := by
  obtain ⟨p, hp, e⟩ := sets_mem ch m k h; rw [e]; exact hf p hp
theorem sets_ro (ch : List (Nat × Tok)) (m : Mem) (k : Nat) (hf : ∀ p ∈ ch, p.2.isRo = false) (h : ∃ p ∈ ch, p.1 = k) : (m.sets ch k).isRo = false := by
  obtain ⟨p, hp, e⟩ := sets_mem ch m k h; rw [e]; exact hf p hp

theorem al_sets {m : Mem} {ch : List (Nat × Tok)} (hc : ∀ p ∈ ch, p.2.isFree = false) {k : Nat} (h : al m k) : al (m.sets ch) k := by
  by_cases hk : ∃ p ∈ ch, p.1 = k
  · exact sets_nonfree ch m k hc hk
  · unfold al; rw [Mem.sets_other ch m (fun p hp e => hk ⟨p, hp, e⟩)]; exact h

/-- The environment behind the frame: what the smaller memory knows, else as it was. -/
def Env.mix {α : Type} (m' : Mem) (ρ ρ' : Nat → α) : Nat → α := fun k => if (m' k).isFree then ρ k else ρ' k
theorem Env.mix_al {α : Type} {m' : Mem} {ρ ρ' : Nat → α} {k : Nat} (h : al m' k) : Env.mix m' ρ ρ' k = ρ' k := by unfold al at h; simp [Env.mix, h]

theorem frame_out {w0 : World} {pr : Nat → Prop} {ρ ρ' : Env} {φ : Nat → List Nat} {M m : Mem} {w w' : World} {ch : List (Nat × Tok)} (h : SimF w0 pr ρ φ M w) (hle : m.le M)
    (hc : ∀ p ∈ ch, p.2.isFree = false ∧ p.2.isRo = false ∧ M p.1 = m p.1)
    (hs : Sim w (guardOf w φ m) ρ' (m.sets ch) w') (hag : ∀ k, al m k → ρ' k = ρ k) :
    (∀ k, al M k → Env.mix (m.sets ch) ρ ρ' k = ρ k) ∧ Sim w0 pr (Env.mix (m.sets ch) ρ ρ') (M.sets ch) w' := by
  obtain ⟨φ', hs⟩ := hs
  have hcf : ∀ p ∈ ch, p.2.isFree = false := fun p hp => (hc p hp).1
  have hkey : ∀ k, (∃ p ∈ ch, p.1 = k) → M k = m k := fun k ⟨p, hp, e⟩ => e ▸ (hc p hp).2.2
  have halm : ∀ k, al m k → al (m.sets ch) k := fun k hk => al_sets hcf hk
  have halM : ∀ k, al M k → al (M.sets ch) k := fun k hk => al_sets hcf hk
  have hmix : ∀ k, al M k → Env.mix (m.sets ch) ρ ρ' k = ρ k := by
    intro k hk
    unfold Env.mix
    split
    · rfl
    · rename_i hf
      by_cases hin : ∃ p ∈ ch, p.1 = k
      · exact hag k (by unfold al; rw [← hkey k hin]; exact hk)
      · rw [Mem.sets_other ch m (fun p hp e => hin ⟨p, hp, e⟩)] at hf
        exact hag k (by simpa [al] using hf)
  have hal' : ∀ k, al (m.sets ch) k → al (M.sets ch) k := by
    intro k hk
    by_cases hin : ∃ p ∈ ch, p.1 = k
    · exact sets_nonfree ch M k hcf hin
    · unfold al at *
      rw [Mem.sets_other ch m (fun p hp e => hin ⟨p, hp, e⟩)] at hk
      rw [Mem.sets_other ch M (fun p hp e => hin ⟨p, hp, e⟩)]
      exact le_al hle hk
  -- a token of the great memory: it is the small one's, or it is as it was and idle in the small one
  have hcase : ∀ k, ((M.sets ch) k = (m.sets ch) k ∧ al (m.sets ch) k) ∨ ((M.sets ch) k = M k ∧ ((m k).owns = false ∧ (m k).isRo = false) ∧ (m.sets ch) k = m k) := by
    intro k
    by_cases hin : ∃ p ∈ ch, p.1 = k
    · exact .inl ⟨(sets_keys ch m M k hin).symm, sets_nonfree ch m k hcf hin⟩
    · rw [Mem.sets_other ch M (fun p hp e => hin ⟨p, hp, e⟩), Mem.sets_other ch m (fun p hp e => hin ⟨p, hp, e⟩)]
      by_cases ho : (m k).owns = true
      · exact .inl ⟨(le_own hle ho).symm, by unfold al; rw [Mem.sets_other ch m (fun p hp e => hin ⟨p, hp, e⟩)]; exact owns_nonfree ho⟩
      · by_cases hr : (m k).isRo = true
        · exact .inl ⟨(le_ro hle hr).symm, by unfold al; rw [Mem.sets_other ch m (fun p hp e => hin ⟨p, hp, e⟩)]; exact isRo_nonfree hr⟩
        · exact .inr ⟨rfl, ⟨by simpa using ho, by simpa using hr⟩, rfl⟩
  have hguard : ∀ k b, (m k).owns = false → b ∈ (M k).fo (φ k) → guardOf w φ m b := by
    intro k b ho hb
    refine ⟨(h.fw k b hb).2, fun j hj => ?_⟩
    have e := le_own hle (fo_sub hj).2
    have : j = k := h.fi j k b (e ▸ hj) hb
    subst this
    rw [(fo_sub hj).2] at ho; cases ho
  have hguardro : ∀ k, (M k).isRo = true → guardOf w φ m (ρ k).1 := by
    intro k hr
    refine ⟨h.lt (.inr hr), fun j hj => ?_⟩
    rw [le_own hle (fo_sub hj).2] at hj
    exact h.nfo hj k hr rfl
  have hprg : ∀ b, pr b → guardOf w φ m b := by
    intro b hb
    refine ⟨Nat.lt_of_lt_of_le (h.prot b hb).1 h.size, fun j hj => ?_⟩
    rw [le_own hle (fo_sub hj).2] at hj
    exact (h.fw j b hj).1 hb
  -- the blocks of each token
  let ψ : Nat → List Nat := fun k => if (m.sets ch k).owns = true then φ' k else φ k
  have hψ : ∀ k b, b ∈ (M.sets ch k).fo (ψ k) → (b ∈ (m.sets ch k).fo (φ' k)) ∨ ((m k).owns = false ∧ b ∈ (M k).fo (φ k)) := by
    intro k b hb
    rcases hcase k with ⟨e, ha⟩ | ⟨e, hi, e2⟩
    · rw [e] at hb
      have ho := (fo_sub hb).2
      have : ψ k = φ' k := by show (if _ then _ else _) = _; rw [if_pos ho]
      rw [this] at hb; exact .inl hb
    · rw [e] at hb
      have : ψ k = φ k := by show (if _ then _ else _) = _; rw [e2, hi.1]; rfl
      rw [this] at hb; exact .inr ⟨hi.1, hb⟩
  refine ⟨hmix, ψ, ?_⟩
  constructor
  · rw [hs.os, h.os]
  · rw [hs.tape, h.tape]
  · rw [hs.output, h.output]
  · exact Nat.le_trans h.size hs.size
  · intro b hb
    have := hs.prot b (hprg b hb)
    exact ⟨(h.prot b hb).1, this.2.trans (h.prot b hb).2⟩
  · intro k
    rcases hcase k with ⟨e, ha⟩ | ⟨e, hi, e2⟩
    · rw [e, Env.mix_al ha]
      by_cases ho : (m.sets ch k).owns = true
      · have : ψ k = φ' k := by show (if _ then _ else _) = _; rw [if_pos ho]
        rw [this]
        exact TokR_congr (fun j hj => Env.mix_al hj) (hs.wf k) (hs.tok k)
      · have h1 := TokR_congr (fun j hj => Env.mix_al (ρ := ρ) hj) (hs.wf k) (hs.tok k)
        by_cases hr : (m.sets ch k).isRo = true
        · have hv := ro_nvec hr
          have hn : (m.sets ch k).isRw = false := by cases ht : m.sets ch k <;> simp_all [Tok.isRw, Tok.isRo]
          refine TokR_of hv.1 hv.2 (fun x => by rw [hn] at x; cases x) (TokR_tr hv.1 h1)
        · exact TokR_idle (by simpa using ho) (by simpa using hr)
    · have : ψ k = φ k := by show (if _ then _ else _) = _; rw [e2, hi.1]; rfl
      rw [e, this]
      by_cases ha : al M k
      · rw [hmix k ha]
        refine TokR_congr hmix (h.wf k) (TokR_heap (h.tok k) (fun b hb => (hs.prot b (hguard k b hi.1 hb)).2) (fun hr => (hs.prot _ (hguardro k hr)).2))
      · have hM : M k = .free := by
          unfold al at ha
          cases hm : M k <;> simp [hm, Tok.isFree] at ha
          rfl
        rw [hM]; exact TokR_idle rfl rfl
  · intro k b hb
    rcases hψ k b hb with x | ⟨_, x⟩
    · exact ⟨fun hp => (hs.fw k b x).1 (hprg b hp), (hs.fw k b x).2⟩
    · exact ⟨(h.fw k b x).1, Nat.lt_of_lt_of_le (h.fw k b x).2 hs.size⟩
  · intro j k b hj hk
    rcases hψ j b hj with x | ⟨x1, x2⟩ <;> rcases hψ k b hk with y | ⟨y1, y2⟩
    · exact hs.fi j k b x y
    · exact absurd (hguard k b y1 y2) (hs.fw j b x).1
    · exact absurd (hguard j b x1 x2) (hs.fw k b y).1
    · exact h.fi j k b x2 y2
  · intro k hk
    by_cases hin : ∃ p ∈ ch, p.1 = k
    · rw [sets_ro ch M k (fun p hp => (hc p hp).2.1) hin] at hk; cases hk
    · rw [Mem.sets_other ch M (fun p hp e => hin ⟨p, hp, e⟩)] at hk
      rw [hmix k (isRo_nonfree hk)]
      exact h.ro k hk
  · intro k
    by_cases hin : ∃ p ∈ ch, p.1 = k
    · rw [← sets_keys ch m M k hin]; exact Tok.wf_mono hal' _ (hs.wf k)
    · rw [Mem.sets_other ch M (fun p hp e => hin ⟨p, hp, e⟩)]; exact Tok.wf_mono halM _ (h.wf k)
  · intro k g T cs hk
    by_cases hin : ∃ p ∈ ch, p.1 = k
    · have := sets_ro ch M k (fun p hp => (hc p hp).2.1) hin
      rw [hk] at this; cases this
    · rw [Mem.sets_other ch M (fun p hp e => hin ⟨p, hp, e⟩)] at hk
      rw [hmix k (by unfold al; rw [hk]; rfl)]
      exact h.gl k g T cs hk

/-- THE TRIPLE OF ONE OPERATION (calls among them): from the memory m it yields v and turns the tokens 'ch'. -/
def OSpec (P : Program) (o : Oper) (fr : Tmp → LV) (m : Mem) (v : LV) (ch : List (Nat × Tok)) : Prop :=
  ∀ F, okF F → ∀ w0 pr ρ w a (K : Act → World → Prop) Q, Sim w0 pr ρ m w → LookR ρ (al m) (looks o) fr a →
    (∀ v' ρ' w', (∀ k, al m k → ρ' k = ρ k) → VR ρ' v v' → v.wf (al (m.sets ch)) → Sim w0 pr ρ' (m.sets ch) w' → K (a.put o.dst v') w') →
    o.wpIn F 0 P a w K Q

theorem OSpec.frame {P : Program} {o : Oper} {fr : Tmp → LV} {m M : Mem} {v : LV} {ch : List (Nat × Tok)} (h : OSpec P o fr m v ch) (hle : m.le M) (hwf : ∀ k, (m k).wf (al m))
    (hlk : ∀ t ∈ looks o, (fr t).wf (al m)) (hc : ∀ p ∈ ch, p.2.isFree = false ∧ p.2.isRo = false ∧ M p.1 = m p.1) : OSpec P o fr M v ch := by
  intro F hF w0 pr ρ w a K Q hs hl hK
  obtain ⟨φ, hs⟩ := hs
  refine h F hF w _ ρ w a K Q (frame_in hs hle hwf) (fun t ht => ⟨(hl t ht).1, hlk t ht⟩) (fun v' ρ' w' hag hv hvw hs' => ?_)
  obtain ⟨hmix, hS⟩ := frame_out hs hle hc hs' hag
  refine hK v' _ w' hmix (VR_congr (fun k hk => Env.mix_al hk) v v' hvw hv) ?_ hS
  refine LV.wf_mono (fun k hk => ?_) v hvw
  by_cases hin : ∃ p ∈ ch, p.1 = k
  · exact sets_nonfree ch M k (fun p hp => (hc p hp).1) hin
  · unfold al at *
    rw [Mem.sets_other ch m (fun p hp e => hin ⟨p, hp, e⟩)] at hk
    rw [Mem.sets_other ch M (fun p hp e => hin ⟨p, hp, e⟩)]
    exact le_al hle hk
end

end Go.Vse
