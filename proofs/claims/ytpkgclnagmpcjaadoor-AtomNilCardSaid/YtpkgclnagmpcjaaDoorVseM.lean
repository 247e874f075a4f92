/- A call in a small memory of its own: tokens are given other names, all else is kept. -/
import Derived.Test.YtpkgclnagmpcjaaDoorVseL
namespace Go.Vse
open Go

mutual
def LV.ren (ι : Nat → Nat) : LV → LV
  | .p k o => .p (ι k) o
  | .ps k o => .ps (ι k) o
  | .sl k o l c z => .sl (ι k) o l c z
  | .ss k o l c z => .ss (ι k) o l c z
  | .se k => .se (ι k)
  | .yl k => .yl (ι k)
  | .agg xs => .agg (renL ι xs)
  | .tup xs => .tup (renL ι xs)
  | .fn f cs => .fn f (renL ι cs)
  | .i k x => .i k x
  | .s k x => .s k x
  | .b x => .b x
  | .v x => .v x
  | .p0 => .p0
  | .n0 => .n0
  | .f0 => .f0
def renL (ι : Nat → Nat) : List LV → List LV
  | [] => []
  | x :: xs => x.ren ι :: renL ι xs
end

def Tok.ren (ι : Nat → Nat) : Tok → Tok
  | .cells rw T cs => .cells rw T (renL ι cs)
  | .loop st pend tm ps asg body df => .loop st pend (renL ι tm) ps asg body (ι df)
  | .glob g T cs => .glob g T (renL ι cs)
  | .free => .free
  | .hid => .hid
  | .defd => .defd

mutual
theorem VR_ren {ρ : Env} {ι : Nat → Nat} : ∀ (x : LV) (v : Value), VR ρ (x.ren ι) v ↔ VR (fun j => ρ (ι j)) x v
  | .i _ _, _ => by simp only [LV.ren, VR]
  | .s _ _, _ => by simp only [LV.ren, VR]
  | .b _, _ => by simp only [LV.ren, VR]
  | .v _, _ => by simp only [LV.ren, VR]
  | .p0, _ => by simp only [LV.ren, VR]
  | .n0, _ => by simp only [LV.ren, VR]
  | .f0, _ => by simp only [LV.ren, VR]
  | .p _ _, _ => by simp only [LV.ren, VR]
  | .ps _ _, _ => by simp only [LV.ren, VR]
  | .yl _, _ => by simp only [LV.ren, VR]
  | .se _, _ => by simp only [LV.ren, VR]
  | .sl _ _ _ _ _, _ => by simp only [LV.ren, VR, SlR]
  | .ss _ _ _ _ _, _ => by simp only [LV.ren, VR, SlR]
  | .agg xs, _ => by simp only [LV.ren, VR]; exact ⟨fun ⟨vs, e, h⟩ => ⟨vs, e, (VRs_ren xs vs).1 h⟩, fun ⟨vs, e, h⟩ => ⟨vs, e, (VRs_ren xs vs).2 h⟩⟩
  | .tup xs, _ => by simp only [LV.ren, VR]; exact ⟨fun ⟨vs, e, h⟩ => ⟨vs, e, (VRs_ren xs vs).1 h⟩, fun ⟨vs, e, h⟩ => ⟨vs, e, (VRs_ren xs vs).2 h⟩⟩
  | .fn _ xs, _ => by simp only [LV.ren, VR]; exact ⟨fun ⟨vs, e, h⟩ => ⟨vs, e, (VRs_ren xs vs).1 h⟩, fun ⟨vs, e, h⟩ => ⟨vs, e, (VRs_ren xs vs).2 h⟩⟩
theorem VRs_ren {ρ : Env} {ι : Nat → Nat} : ∀ (xs : List LV) (vs : List Value), VRs ρ (renL ι xs) vs ↔ VRs (fun j => ρ (ι j)) xs vs
  | [], vs => by simp only [renL, VRs]
  | x :: xs, vs => by
    simp only [renL, VRs]
    exact ⟨fun ⟨v, r, e, h1, h2⟩ => ⟨v, r, e, (VR_ren x v).1 h1, (VRs_ren xs r).1 h2⟩, fun ⟨v, r, e, h1, h2⟩ => ⟨v, r, e, (VR_ren x v).2 h1, (VRs_ren xs r).2 h2⟩⟩
end

mutual
theorem LV.wf_ren {A B : Nat → Prop} {ι : Nat → Nat} (h : ∀ k, A k → B (ι k)) : ∀ (x : LV), x.wf A → (x.ren ι).wf B
  | .i _ _, _ => by simp [LV.ren, LV.wf]
  | .s _ _, _ => by simp [LV.ren, LV.wf]
  | .b _, _ => by simp [LV.ren, LV.wf]
  | .v _, _ => by simp [LV.ren, LV.wf]
  | .p0, _ => by simp [LV.ren, LV.wf]
  | .n0, _ => by simp [LV.ren, LV.wf]
  | .f0, _ => by simp [LV.ren, LV.wf]
  | .p _ _, hw => by simp only [LV.ren, LV.wf] at *; exact h _ hw
  | .ps _ _, hw => by simp only [LV.ren, LV.wf] at *; exact h _ hw
  | .yl _, hw => by simp only [LV.ren, LV.wf] at *; exact h _ hw
  | .se _, hw => by simp only [LV.ren, LV.wf] at *; exact h _ hw
  | .sl _ _ _ _ _, hw => by simp only [LV.ren, LV.wf] at *; exact h _ hw
  | .ss _ _ _ _ _, hw => by simp only [LV.ren, LV.wf] at *; exact h _ hw
  | .agg xs, hw => by simp only [LV.ren, LV.wf] at *; exact wfL_ren h xs hw
  | .tup xs, hw => by simp only [LV.ren, LV.wf] at *; exact wfL_ren h xs hw
  | .fn _ xs, hw => by simp only [LV.ren, LV.wf] at *; exact wfL_ren h xs hw
theorem wfL_ren {A B : Nat → Prop} {ι : Nat → Nat} (h : ∀ k, A k → B (ι k)) : ∀ (xs : List LV), wfL A xs → wfL B (renL ι xs)
  | [], _ => by simp [renL, wfL]
  | x :: xs, hw => by simp only [renL, wfL] at *; exact ⟨LV.wf_ren h x hw.1, wfL_ren h xs hw.2⟩
end

theorem Tok.wf_ren {A B : Nat → Prop} {ι : Nat → Nat} (h : ∀ k, A k → B (ι k)) : ∀ (t : Tok), t.wf A → (t.ren ι).wf B
  | .free, _ => trivial
  | .hid, _ => trivial
  | .defd, _ => trivial
  | .cells _ _ cs, hw => wfL_ren h cs hw
  | .glob _ _ cs, hw => wfL_ren h cs hw
  | .loop _ _ tm _ _ _ _, hw => ⟨wfL_ren h tm hw.1, h _ hw.2⟩

theorem TR_ren {ρ : Env} {ι : Nat → Nat} {sz : Nat} : ∀ (t : Tok) (o : Option Obj), TR ρ sz (t.ren ι) o ↔ TR (fun j => ρ (ι j)) sz t o
  | .free, _ => Iff.rfl
  | .hid, _ => Iff.rfl
  | .defd, _ => Iff.rfl
  | .cells _ _ cs, _ => ⟨fun ⟨vs, sp, e, h1, h2⟩ => ⟨vs, sp, e, (VRs_ren cs vs).1 h1, h2⟩, fun ⟨vs, sp, e, h1, h2⟩ => ⟨vs, sp, e, (VRs_ren cs vs).2 h1, h2⟩⟩
  | .glob _ _ cs, _ => ⟨fun ⟨vs, sp, T, fz, e, h1⟩ => ⟨vs, sp, T, fz, e, (VRs_ren cs vs).1 h1⟩, fun ⟨vs, sp, T, fz, e, h1⟩ => ⟨vs, sp, T, fz, e, (VRs_ren cs vs).2 h1⟩⟩
  | .loop _ _ tm _ _ _ _, _ => ⟨fun ⟨fn, ts, e, h1⟩ => ⟨fn, ts, e, (VRs_ren tm ts).1 h1⟩, fun ⟨fn, ts, e, h1⟩ => ⟨fn, ts, e, (VRs_ren tm ts).2 h1⟩⟩

theorem Tok.ren_isRw {ι : Nat → Nat} (t : Tok) : (t.ren ι).isRw = t.isRw := by cases t <;> rfl
theorem Tok.ren_isRo {ι : Nat → Nat} (t : Tok) : (t.ren ι).isRo = t.isRo := by cases t <;> rfl
theorem Tok.ren_isFree {ι : Nat → Nat} (t : Tok) : (t.ren ι).isFree = t.isFree := by cases t <;> rfl

section
variable {w0 w w' : World} {pr : Nat → Prop} {ρ ρs' : Env} {M M' ms ms' : Mem} {n : Nat} {ι ι' : Nat → Nat} {K : Nat → Prop}

/-- Into the small memory: its tokens 0 .. n - 1 are tokens ι 0 .. of the great one. -/
theorem ren_in (h : Sim w0 pr ρ M w) (hms : ∀ j, j < n → M (ι j) = (ms j).ren ι ∧ (ms j).isFree = false) (hfree : ∀ j, n ≤ j → ms j = .free) (hinj : ∀ i j, i < n → j < n → ι i = ι j → i = j) (hwf : ∀ j, (ms j).wf (· < n)) :
    Sim w (fun b => b < w.heap.size ∧ ∀ j, j < n → (ms j).isRw = true → (ρ (ι j)).1 ≠ b) (fun j => ρ (ι j)) ms w := by
  have hlt : ∀ j, (ms j).isFree = false → j < n := fun j hj => by
    rcases Nat.lt_or_ge j n with h | h
    · exact h
    · rw [hfree j h] at hj; cases hj
  have hrw : ∀ j, (ms j).isRw = true → j < n ∧ (M (ι j)).isRw = true := fun j hj => by
    have h1 := hlt j (isRw_nonfree hj)
    exact ⟨h1, by rw [(hms j h1).1, Tok.ren_isRw]; exact hj⟩
  have hro : ∀ j, (ms j).isRo = true → j < n ∧ (M (ι j)).isRo = true := fun j hj => by
    have h1 := hlt j (isRo_nonfree hj)
    exact ⟨h1, by rw [(hms j h1).1, Tok.ren_isRo]; exact hj⟩
  refine ⟨rfl, rfl, rfl, Nat.le_refl _, fun b hb => ⟨hb.1, rfl⟩, fun j => ?_, fun k hk hp => hp.2 k (hrw k hk).1 hk rfl, fun k hk => ⟨h.lt (.inr (hro k hk).2), fun j hj hjr e => ?_⟩, fun i j hi hj e => ?_, fun j => Tok.wf_mono (fun k hk => (hms k hk).2) _ (hwf j), fun k g T cs hk => ?_⟩
  · rcases Nat.lt_or_ge j n with h1 | h1
    · have := h.tok (ι j)
      rw [(hms j h1).1] at this
      exact (TR_ren _ _).1 this
    · rw [hfree j h1]; trivial
  · exact h.rw (ι j) (hrw j hjr).2 (e ▸ h.ro (ι k) (hro k hk).2)
  · exact hinj i j (hrw i hi).1 (hrw j hj).1 (h.inj (ι i) (ι j) (hrw i hi).2 (hrw j hj).2 e)
  · have h1 := hlt k (by rw [hk]; rfl)
    refine h.gl (ι k) g T (renL ι cs) ?_
    rw [(hms k h1).1, hk]; rfl

open Classical in
/-- The environment behind the call. -/
noncomputable def Env.back (K : Nat → Prop) (ι' : Nat → Nat) (ρ ρs' : Env) : Env := fun k => if h : ∃ j, K j ∧ ι' j = k then ρs' h.choose else ρ k

theorem Env.back_in (hinj : ∀ i j, K i → K j → ι' i = ι' j → i = j) {j : Nat} (hj : K j) : Env.back K ι' ρ ρs' (ι' j) = ρs' j := by
  unfold Env.back
  have h : ∃ i, K i ∧ ι' i = ι' j := ⟨j, hj, rfl⟩
  rw [dif_pos h]
  have := h.choose_spec
  rw [hinj _ _ this.1 hj this.2]

theorem Env.back_out {k : Nat} (h : ¬ ∃ j, K j ∧ ι' j = k) : Env.back K ι' ρ ρs' k = ρ k := by unfold Env.back; rw [dif_neg h]

theorem ren_out (h : Sim w0 pr ρ M w) (hms : ∀ j, j < n → M (ι j) = (ms j).ren ι ∧ (ms j).isFree = false)
    (hs : Sim w (fun b => b < w.heap.size ∧ ∀ j, j < n → (ms j).isRw = true → (ρ (ι j)).1 ≠ b) ρs' ms' w') (hag : ∀ j, j < n → ρs' j = ρ (ι j))
    (hKn : ∀ j, j < n → K j) (hKw : ∀ j, K j → (ms' j).wf K) (hinj : ∀ i j, K i → K j → ι' i = ι' j → i = j) (hι : ∀ j, j < n → ι' j = ι j) (hnew : ∀ j, n ≤ j → K j → (M (ι' j)).isFree = true)
    (hM : ∀ j, K j → M' (ι' j) = (ms' j).ren ι' ∧ (ms' j).isFree = false) (hMo : ∀ k, (¬ ∃ j, K j ∧ ι' j = k) → M' k = M k) (hro : ∀ j, K j → (ms' j).isRo = true → j < n ∧ (ms j).isRo = true) :
    (∀ k, al M k → Env.back K ι' ρ ρs' k = ρ k) ∧ Sim w0 pr (Env.back K ι' ρ ρs') M' w' ∧ ∀ (x : LV) (v : Value), x.wf K → VR ρs' x v → VR (Env.back K ι' ρ ρs') (x.ren ι') v ∧ (x.ren ι').wf (al M') := by
  have hback : ∀ j, K j → Env.back K ι' ρ ρs' (ι' j) = ρs' j := fun j hj => Env.back_in hinj hj
  have hmix : ∀ k, al M k → Env.back K ι' ρ ρs' k = ρ k := by
    intro k hk
    by_cases hin : ∃ j, K j ∧ ι' j = k
    · obtain ⟨j, hj, rfl⟩ := hin
      rw [hback j hj]
      rcases Nat.lt_or_ge j n with h1 | h1
      · rw [hag j h1, hι j h1]
      · have := hnew j h1 hj; unfold al at hk; rw [hk] at this; cases this
    · exact Env.back_out hin
  have halM : ∀ k, al M k → al M' k := by
    intro k hk
    by_cases hin : ∃ j, K j ∧ ι' j = k
    · obtain ⟨j, hj, rfl⟩ := hin
      unfold al; rw [(hM j hj).1, Tok.ren_isFree]; exact (hM j hj).2
    · unfold al; rw [hMo k hin]; exact hk
  have halK : ∀ j, K j → al M' (ι' j) := fun j hj => by unfold al; rw [(hM j hj).1, Tok.ren_isFree]; exact (hM j hj).2
  have hVR : ∀ (t : Tok) (sz : Nat) (o : Option Obj), t.wf K → TR ρs' sz t o → TR (Env.back K ι' ρ ρs') sz (t.ren ι') o := by
    intro t sz o hw ht
    rw [TR_ren]
    exact TR_congr (A := K) (fun k hk => hback k hk) t o hw ht
  -- what is of the great memory alone is under guard
  have hguard : ∀ k, (¬ ∃ j, K j ∧ ι' j = k) → (M k).isRw = true ∨ (M k).isRo = true → (fun b => b < w.heap.size ∧ ∀ j, j < n → (ms j).isRw = true → (ρ (ι j)).1 ≠ b) (ρ k).1 := by
    intro k hk hl
    refine ⟨h.lt hl, fun j hj hjr e => ?_⟩
    have hjM : (M (ι j)).isRw = true := by rw [(hms j hj).1, Tok.ren_isRw]; exact hjr
    rcases hl with hl | hl
    · have := h.inj (ι j) k hjM hl e
      exact hk ⟨j, hKn j hj, by rw [hι j hj]; exact this⟩
    · exact h.rw (ι j) hjM (e ▸ h.ro k hl)
  have hprg : ∀ b, pr b → (fun b => b < w.heap.size ∧ ∀ j, j < n → (ms j).isRw = true → (ρ (ι j)).1 ≠ b) b := by
    intro b hb
    refine ⟨Nat.lt_of_lt_of_le (h.prot b hb).1 h.size, fun j hj hjr e => ?_⟩
    exact h.rw (ι j) (by rw [(hms j hj).1, Tok.ren_isRw]; exact hjr) (e ▸ hb)
  refine ⟨hmix, ?_, fun x v hx hv => ⟨by rw [VR_ren]; exact VR_congr (A := K) (fun k hk => hback k hk) x v hx hv, LV.wf_ren halK x hx⟩⟩
  constructor
  · rw [hs.os, h.os]
  · rw [hs.tape, h.tape]
  · rw [hs.output, h.output]
  · exact Nat.le_trans h.size hs.size
  · intro b hb
    have := hs.prot b (hprg b hb)
    exact ⟨(h.prot b hb).1, this.2.trans (h.prot b hb).2⟩
  · intro k
    by_cases hin : ∃ j, K j ∧ ι' j = k
    · obtain ⟨j, hj, rfl⟩ := hin
      rw [hback j hj, (hM j hj).1]
      exact hVR _ _ _ (hKw j hj) (hs.tok j)
    · rw [Env.back_out hin, hMo k hin]
      by_cases hl : (M k).isRw = true ∨ (M k).isRo = true
      · rw [(hs.prot _ (hguard k hin hl)).2]
        exact TR_congr hmix _ _ (h.wf k) (h.tok k)
      · cases hm : M k with
        | free => trivial
        | hid => trivial
        | cells rw T cs => rw [hm] at hl; cases rw <;> simp [Tok.isRw, Tok.isRo] at hl
        | loop => rw [hm] at hl; simp [Tok.isRw] at hl
        | defd => rw [hm] at hl; simp [Tok.isRw] at hl
        | glob => rw [hm] at hl; simp [Tok.isRw, Tok.isRo] at hl
  · intro k hk hp
    by_cases hin : ∃ j, K j ∧ ι' j = k
    · obtain ⟨j, hj, rfl⟩ := hin
      rw [hback j hj] at hp
      rw [(hM j hj).1, Tok.ren_isRw] at hk
      exact hs.rw j hk (hprg _ hp)
    · rw [Env.back_out hin] at hp
      rw [hMo k hin] at hk
      exact h.rw k hk hp
  · intro k hk
    by_cases hin : ∃ j, K j ∧ ι' j = k
    · obtain ⟨j, hj, rfl⟩ := hin
      rw [hback j hj]
      rw [(hM j hj).1, Tok.ren_isRo] at hk
      obtain ⟨h1, h2⟩ := hro j hj hk
      rw [hag j h1]
      exact h.ro (ι j) (by rw [(hms j h1).1, Tok.ren_isRo]; exact h2)
    · rw [Env.back_out hin]
      rw [hMo k hin] at hk
      exact h.ro k hk
  · intro i j hi hj e
    by_cases h1 : ∃ a, K a ∧ ι' a = i <;> by_cases h2 : ∃ a, K a ∧ ι' a = j
    · obtain ⟨a, ha, rfl⟩ := h1
      obtain ⟨b, hb, rfl⟩ := h2
      rw [hback a ha, hback b hb] at e
      rw [(hM a ha).1, Tok.ren_isRw] at hi
      rw [(hM b hb).1, Tok.ren_isRw] at hj
      rw [hs.inj a b hi hj e]
    · obtain ⟨a, ha, rfl⟩ := h1
      rw [hback a ha, Env.back_out h2] at e
      rw [(hM a ha).1, Tok.ren_isRw] at hi
      rw [hMo j h2] at hj
      exact absurd (e ▸ hguard j h2 (.inl hj)) (hs.rw a hi)
    · obtain ⟨b, hb, rfl⟩ := h2
      rw [hback b hb, Env.back_out h1] at e
      rw [(hM b hb).1, Tok.ren_isRw] at hj
      rw [hMo i h1] at hi
      exact absurd (e ▸ hguard i h1 (.inl hi)) (hs.rw b hj)
    · rw [Env.back_out h1, Env.back_out h2] at e
      rw [hMo i h1] at hi; rw [hMo j h2] at hj
      exact h.inj i j hi hj e
  · intro k
    by_cases hin : ∃ j, K j ∧ ι' j = k
    · obtain ⟨j, hj, rfl⟩ := hin
      rw [(hM j hj).1]
      exact Tok.wf_ren halK _ (hKw j hj)
    · rw [hMo k hin]; exact Tok.wf_mono halM _ (h.wf k)
  · intro k g T cs hk
    by_cases hin : ∃ j, K j ∧ ι' j = k
    · obtain ⟨j, hj, rfl⟩ := hin
      rw [hback j hj]
      rw [(hM j hj).1] at hk
      cases hj' : ms' j with
      | glob g' T' cs' =>
        rw [hj'] at hk
        simp only [Tok.ren, Tok.glob.injEq] at hk
        obtain ⟨rfl, rfl, _⟩ := hk
        exact hs.gl j _ _ _ hj'
      | _ => rw [hj'] at hk; cases hk
    · rw [Env.back_out hin]
      rw [hMo k hin] at hk
      exact h.gl k g T cs hk

end
end Go.Vse
