/- A call in a small memory of its own: tokens are given other names, all else is kept. -/
import Derived.Test.YtpnfdndjaepbbaaVseL
namespace Go.Vse
open Go

mutual
def LV.ren (ι : Nat → Nat) : LV → LV
  | .p k o => .p (ι k) o
  | .ps k o => .ps (ι k) o
  | .sl k o l c z => .sl (ι k) o l c z
  | .ss k o l c z => .ss (ι k) o l c z
  | .se k => .se (ι k)
  | .so k l z => .so (ι k) l z
  | .yl k => .yl (ι k)
  | .agg xs => .agg (renL ι xs)
  | .tup xs => .tup (renL ι xs)
  | .fn f cs => .fn f (renL ι cs)
  | .i k x => .i k x
  | .s k x => .s k x
  | .b x => .b x
  | .sb x => .sb x
  | .v x => .v x
  | .any => .any
  | .p0 => .p0
  | .n0 => .n0
  | .f0 => .f0
def renL (ι : Nat → Nat) : List LV → List LV
  | [] => []
  | x :: xs => x.ren ι :: renL ι xs
end

section
variable [AbstRep]
def Tok.ren (ι : Nat → Nat) : Tok → Tok
  | .cells rw T cs => .cells rw T (renL ι cs)
  | .loop st pend tm ps asg body df => .loop st pend (renL ι tm) ps asg body (ι df)
  | .glob g T cs => .glob g T (renL ι cs)
  | .fl rw T fs => .fl rw T fs
  | .vec T fs => .vec T fs
  | .abs a => .abs a
  | .free => .free
  | .hid => .hid
  | .defd => .defd
end

mutual
theorem VR_ren {ρ : Env} {ι : Nat → Nat} : ∀ (x : LV) (v : Value), VR ρ (x.ren ι) v ↔ VR (fun j => ρ (ι j)) x v
  | .i _ _, _ => by simp only [LV.ren, VR]
  | .s _ _, _ => by simp only [LV.ren, VR]
  | .b _, _ => by simp only [LV.ren, VR]
  | .sb _, _ => by simp only [LV.ren, VR]
  | .any, _ => by simp only [LV.ren, VR]
  | .v _, _ => by simp only [LV.ren, VR]
  | .so _ _ _, _ => by simp only [LV.ren, VR, SoR]
  | .p0, _ => by simp only [LV.ren, VR]
  | .n0, _ => by simp only [LV.ren, VR]
  | .f0, _ => by simp only [LV.ren, VR]
  | .p _ _, _ => by simp only [LV.ren, VR]
  | .ps _ _, _ => by simp only [LV.ren, VR]
  | .yl _, _ => by simp only [LV.ren, VR]
  | .se _, _ => by simp only [LV.ren, VR]
  | .sl _ _ _ _ _, _ => by simp only [LV.ren, VR, SlR]
  | .ss _ _ _ _ _, _ => by simp only [LV.ren, VR, SlR]
  | .agg xs, _ => by simp only [LV.ren, VR]; exact ⟨fun ⟨vs, e, h⟩ => ⟨vs, e, (VRs_ren xs vs).1 h⟩, fun ⟨vs, e, h⟩ => ⟨vs, e, (VRs_ren xs vs).2 h⟩⟩
  | .tup xs, _ => by simp only [LV.ren, VR]; exact ⟨fun ⟨vs, e, h⟩ => ⟨vs, e, (VRs_ren xs vs).1 h⟩, fun ⟨vs, e, h⟩ => ⟨vs, e, (VRs_ren xs vs).2 h⟩⟩
  | .fn _ xs, _ => by simp only [LV.ren, VR]; exact ⟨fun ⟨vs, e, h⟩ => ⟨vs, e, (VRs_ren xs vs).1 h⟩, fun ⟨vs, e, h⟩ => ⟨vs, e, (VRs_ren xs vs).2 h⟩⟩
theorem VRs_ren {ρ : Env} {ι : Nat → Nat} : ∀ (xs : List LV) (vs : List Value), VRs ρ (renL ι xs) vs ↔ VRs (fun j => ρ (ι j)) xs vs
  | [], vs => by simp only [renL, VRs]
  | x :: xs, vs => by
    simp only [renL, VRs]
    exact ⟨fun ⟨v, r, e, h1, h2⟩ => ⟨v, r, e, (VR_ren x v).1 h1, (VRs_ren xs r).1 h2⟩, fun ⟨v, r, e, h1, h2⟩ => ⟨v, r, e, (VR_ren x v).2 h1, (VRs_ren xs r).2 h2⟩⟩
end

mutual
theorem LV.wf_ren {A B : Nat → Prop} {ι : Nat → Nat} (h : ∀ k, A k → B (ι k)) : ∀ (x : LV), x.wf A → (x.ren ι).wf B
  | .i _ _, _ => by simp [LV.ren, LV.wf]
  | .s _ _, _ => by simp [LV.ren, LV.wf]
  | .b _, _ => by simp [LV.ren, LV.wf]
  | .sb _, _ => by simp [LV.ren, LV.wf]
  | .any, _ => by simp [LV.ren, LV.wf]
  | .v _, _ => by simp [LV.ren, LV.wf]
  | .so _ _ _, hw => by simp only [LV.ren, LV.wf] at *; exact h _ hw
  | .p0, _ => by simp [LV.ren, LV.wf]
  | .n0, _ => by simp [LV.ren, LV.wf]
  | .f0, _ => by simp [LV.ren, LV.wf]
  | .p _ _, hw => by simp only [LV.ren, LV.wf] at *; exact h _ hw
  | .ps _ _, hw => by simp only [LV.ren, LV.wf] at *; exact h _ hw
  | .yl _, hw => by simp only [LV.ren, LV.wf] at *; exact h _ hw
  | .se _, hw => by simp only [LV.ren, LV.wf] at *; exact h _ hw
  | .sl _ _ _ _ _, hw => by simp only [LV.ren, LV.wf] at *; exact h _ hw
  | .ss _ _ _ _ _, hw => by simp only [LV.ren, LV.wf] at *; exact h _ hw
  | .agg xs, hw => by simp only [LV.ren, LV.wf] at *; exact wfL_ren h xs hw
  | .tup xs, hw => by simp only [LV.ren, LV.wf] at *; exact wfL_ren h xs hw
  | .fn _ xs, hw => by simp only [LV.ren, LV.wf] at *; exact wfL_ren h xs hw
theorem wfL_ren {A B : Nat → Prop} {ι : Nat → Nat} (h : ∀ k, A k → B (ι k)) : ∀ (xs : List LV), wfL A xs → wfL B (renL ι xs)
  | [], _ => by simp [renL, wfL]
  | x :: xs, hw => by simp only [renL, wfL] at *; exact ⟨LV.wf_ren h x hw.1, wfL_ren h xs hw.2⟩
end

section
variable [AbstRep]
theorem Tok.wf_ren {A B : Nat → Prop} {ι : Nat → Nat} (h : ∀ k, A k → B (ι k)) : ∀ (t : Tok), t.wf A → (t.ren ι).wf B
  | .free, _ => trivial
  | .hid, _ => trivial
  | .defd, _ => trivial
  | .fl .., _ => trivial
  | .vec .., _ => trivial
  | .abs _, _ => trivial
  | .cells _ _ cs, hw => wfL_ren h cs hw
  | .glob _ _ cs, hw => wfL_ren h cs hw
  | .loop _ _ tm _ _ _ _, hw => ⟨wfL_ren h tm hw.1, h _ hw.2⟩

theorem TR_ren {ρ : Env} {ι : Nat → Nat} {sz : Nat} : ∀ (t : Tok) (o : Option Obj), TR ρ sz (t.ren ι) o ↔ TR (fun j => ρ (ι j)) sz t o
  | .free, _ => Iff.rfl
  | .hid, _ => Iff.rfl
  | .defd, _ => Iff.rfl
  | .fl .., _ => Iff.rfl
  | .vec .., _ => Iff.rfl
  | .abs _, _ => Iff.rfl
  | .cells _ _ cs, _ => ⟨fun ⟨vs, sp, e, h1, h2⟩ => ⟨vs, sp, e, (VRs_ren cs vs).1 h1, h2⟩, fun ⟨vs, sp, e, h1, h2⟩ => ⟨vs, sp, e, (VRs_ren cs vs).2 h1, h2⟩⟩
  | .glob _ _ cs, _ => ⟨fun ⟨vs, sp, T, fz, e, h1⟩ => ⟨vs, sp, T, fz, e, (VRs_ren cs vs).1 h1⟩, fun ⟨vs, sp, T, fz, e, h1⟩ => ⟨vs, sp, T, fz, e, (VRs_ren cs vs).2 h1⟩⟩
  | .loop _ _ tm _ _ _ _, _ => ⟨fun ⟨fn, ts, e, h1⟩ => ⟨fn, ts, e, (VRs_ren tm ts).1 h1⟩, fun ⟨fn, ts, e, h1⟩ => ⟨fn, ts, e, (VRs_ren tm ts).2 h1⟩⟩

theorem Tok.ren_isRw {ι : Nat → Nat} (t : Tok) : (t.ren ι).isRw = t.isRw := by cases t <;> rfl
theorem Tok.ren_isRo {ι : Nat → Nat} (t : Tok) : (t.ren ι).isRo = t.isRo := by cases t <;> rfl
theorem Tok.ren_isFree {ι : Nat → Nat} (t : Tok) : (t.ren ι).isFree = t.isFree := by cases t <;> rfl

theorem Tok.ren_owns {ι : Nat → Nat} (t : Tok) : (t.ren ι).owns = t.owns := by cases t <;> rfl
theorem Tok.ren_fo {ι : Nat → Nat} (t : Tok) (f : List Nat) : (t.ren ι).fo f = t.fo f := by unfold Tok.fo; rw [Tok.ren_owns]
theorem Tok.ren_isVec {ι : Nat → Nat} (t : Tok) : (t.ren ι).isVec = t.isVec := by cases t <;> rfl
theorem Tok.ren_isAbs {ι : Nat → Nat} (t : Tok) : (t.ren ι).isAbs = t.isAbs := by cases t <;> rfl

theorem TokR_ren {ρ : Env} {ι : Nat → Nat} {e : Nat × Nat} {f : List Nat} {h : Heap} (t : Tok) : TokR ρ e f (t.ren ι) h ↔ TokR (fun j => ρ (ι j)) e f t h := by
  by_cases ha : t.isAbs = true
  · cases t <;> first | exact Iff.rfl | simp [Tok.isAbs] at ha
  · have ha' : t.isAbs = false := by simpa using ha
    rw [TokR_plain ha', TokR_plain (by rw [Tok.ren_isAbs]; exact ha')]
    unfold PlainR
    rw [Tok.ren_isVec, Tok.ren_isRw]
    split
    · rename_i hv
      cases t <;> first | exact Iff.rfl | simp [Tok.isVec] at hv
    · rw [TR_ren]
end

section
variable [AbstRep]
variable {w0 w w' : World} {pr : Nat → Prop} {ρ ρs' : Env} {φ : Nat → List Nat} {M M' ms ms' : Mem} {n : Nat} {ι ι' : Nat → Nat} {K : Nat → Prop}

/-- What the small memory does not own. -/
def guardR (w : World) (φ : Nat → List Nat) (ι : Nat → Nat) (n : Nat) (ms : Mem) : Nat → Prop := fun b => b < w.heap.size ∧ ∀ j, j < n → b ∉ (ms j).fo (φ (ι j))

/-- Into the small memory: its tokens 0 .. n - 1 are tokens ι 0 .. of the great one. -/
theorem ren_in (h : SimF w0 pr ρ φ M w) (hms : ∀ j, j < n → M (ι j) = (ms j).ren ι ∧ (ms j).isFree = false) (hfree : ∀ j, n ≤ j → ms j = .free) (hinj : ∀ i j, i < n → j < n → ι i = ι j → i = j) (hwf : ∀ j, (ms j).wf (· < n)) :
    Sim w (guardR w φ ι n ms) (fun j => ρ (ι j)) ms w := by
  have hlt : ∀ j, (ms j).isFree = false → j < n := fun j hj => by
    rcases Nat.lt_or_ge j n with h | h
    · exact h
    · rw [hfree j h] at hj; cases hj
  have hfo : ∀ j b, b ∈ (ms j).fo (φ (ι j)) → j < n ∧ b ∈ (M (ι j)).fo (φ (ι j)) := fun j b hb => by
    have h1 := hlt j (owns_nonfree (fo_sub hb).2)
    exact ⟨h1, by rw [(hms j h1).1, Tok.ren_fo]; exact hb⟩
  have hro : ∀ j, (ms j).isRo = true → j < n ∧ (M (ι j)).isRo = true := fun j hj => by
    have h1 := hlt j (isRo_nonfree hj)
    exact ⟨h1, by rw [(hms j h1).1, Tok.ren_isRo]; exact hj⟩
  refine ⟨fun j => φ (ι j), rfl, rfl, rfl, Nat.le_refl _, fun b hb => ⟨hb.1, rfl⟩, fun j => ?_, fun j b hb => ⟨fun hp => hp.2 j (hfo j b hb).1 hb, (h.fw _ b (hfo j b hb).2).2⟩, fun i j b hi hj => ?_, fun k hk => ⟨h.lt (.inr (hro k hk).2), fun j hj hb => ?_⟩, fun j => Tok.wf_mono (fun k hk => (hms k hk).2) _ (hwf j), fun k g T cs hk => ?_⟩
  · rcases Nat.lt_or_ge j n with h1 | h1
    · have := h.tok (ι j)
      rw [(hms j h1).1] at this
      exact (TokR_ren _).1 this
    · rw [hfree j h1]; exact TokR_idle rfl rfl
  · exact hinj i j (hfo i b hi).1 (hfo j b hj).1 (h.fi _ _ b (hfo i b hi).2 (hfo j b hj).2)
  · exact h.nfo (hfo j _ hb).2 (ι k) (hro k hk).2 rfl
  · have h1 := hlt k (by rw [hk]; rfl)
    refine h.gl (ι k) g T (renL ι cs) ?_
    rw [(hms k h1).1, hk]; rfl

open Classical in
/-- The environment behind the call. -/
noncomputable def Env.back {α : Type} (K : Nat → Prop) (ι' : Nat → Nat) (ρ ρs' : Nat → α) : Nat → α := fun k => if h : ∃ j, K j ∧ ι' j = k then ρs' h.choose else ρ k

omit [AbstRep] in
theorem Env.back_in {α : Type} {ρ ρs' : Nat → α} (hinj : ∀ i j, K i → K j → ι' i = ι' j → i = j) {j : Nat} (hj : K j) : Env.back K ι' ρ ρs' (ι' j) = ρs' j := by
  unfold Env.back
  have h : ∃ i, K i ∧ ι' i = ι' j := ⟨j, hj, rfl⟩
  rw [dif_pos h]
  have := h.choose_spec
  rw [hinj _ _ this.1 hj this.2]

omit [AbstRep] in
theorem Env.back_out {α : Type} {ρ ρs' : Nat → α} {k : Nat} (h : ¬ ∃ j, K j ∧ ι' j = k) : Env.back K ι' ρ ρs' k = ρ k := by unfold Env.back; rw [dif_neg h]

theorem ren_out (h : SimF w0 pr ρ φ M w) (hms : ∀ j, j < n → M (ι j) = (ms j).ren ι ∧ (ms j).isFree = false)
    (hs : Sim w (guardR w φ ι n ms) ρs' ms' w') (hag : ∀ j, j < n → ρs' j = ρ (ι j))
    (hKn : ∀ j, j < n → K j) (hKw : ∀ j, K j → (ms' j).wf K) (hinj : ∀ i j, K i → K j → ι' i = ι' j → i = j) (hι : ∀ j, j < n → ι' j = ι j) (hnew : ∀ j, n ≤ j → K j → (M (ι' j)).isFree = true)
    (hM : ∀ j, K j → M' (ι' j) = (ms' j).ren ι' ∧ (ms' j).isFree = false) (hMo : ∀ k, (¬ ∃ j, K j ∧ ι' j = k) → M' k = M k) (hro : ∀ j, K j → (ms' j).isRo = true → j < n ∧ (ms j).isRo = true) :
    (∀ k, al M k → Env.back K ι' ρ ρs' k = ρ k) ∧ Sim w0 pr (Env.back K ι' ρ ρs') M' w' ∧ ∀ (x : LV) (v : Value), x.wf K → VR ρs' x v → VR (Env.back K ι' ρ ρs') (x.ren ι') v ∧ (x.ren ι').wf (al M') := by
  obtain ⟨φs, hs⟩ := hs
  have hback : ∀ j, K j → Env.back K ι' ρ ρs' (ι' j) = ρs' j := fun j hj => Env.back_in hinj hj
  have hbackφ : ∀ j, K j → Env.back K ι' φ φs (ι' j) = φs j := fun j hj => Env.back_in hinj hj
  have hmix : ∀ k, al M k → Env.back K ι' ρ ρs' k = ρ k := by
    intro k hk
    by_cases hin : ∃ j, K j ∧ ι' j = k
    · obtain ⟨j, hj, rfl⟩ := hin
      rw [hback j hj]
      rcases Nat.lt_or_ge j n with h1 | h1
      · rw [hag j h1, hι j h1]
      · have := hnew j h1 hj; unfold al at hk; rw [hk] at this; cases this
    · exact Env.back_out hin
  have halM : ∀ k, al M k → al M' k := by
    intro k hk
    by_cases hin : ∃ j, K j ∧ ι' j = k
    · obtain ⟨j, hj, rfl⟩ := hin
      unfold al; rw [(hM j hj).1, Tok.ren_isFree]; exact (hM j hj).2
    · unfold al; rw [hMo k hin]; exact hk
  have halK : ∀ j, K j → al M' (ι' j) := fun j hj => by unfold al; rw [(hM j hj).1, Tok.ren_isFree]; exact (hM j hj).2
  -- what is of the great memory alone is under guard
  have hguard : ∀ k, (¬ ∃ j, K j ∧ ι' j = k) → ∀ b, b ∈ (M k).fo (φ k) → guardR w φ ι n ms b := by
    intro k hk b hb
    refine ⟨(h.fw k b hb).2, fun j hj hbj => ?_⟩
    have : b ∈ (M (ι j)).fo (φ (ι j)) := by rw [(hms j hj).1, Tok.ren_fo]; exact hbj
    exact hk ⟨j, hKn j hj, by rw [hι j hj]; exact h.fi _ _ b this hb⟩
  have hguardro : ∀ k, (M k).isRo = true → guardR w φ ι n ms (ρ k).1 := by
    intro k hr
    refine ⟨h.lt (.inr hr), fun j hj hbj => ?_⟩
    have : (ρ k).1 ∈ (M (ι j)).fo (φ (ι j)) := by rw [(hms j hj).1, Tok.ren_fo]; exact hbj
    exact h.nfo this k hr rfl
  have hprg : ∀ b, pr b → guardR w φ ι n ms b := by
    intro b hb
    refine ⟨Nat.lt_of_lt_of_le (h.prot b hb).1 h.size, fun j hj hbj => ?_⟩
    have : b ∈ (M (ι j)).fo (φ (ι j)) := by rw [(hms j hj).1, Tok.ren_fo]; exact hbj
    exact (h.fw _ b this).1 hb
  have hfo : ∀ k b, b ∈ (M' k).fo (Env.back K ι' φ φs k) → (∃ j, K j ∧ ι' j = k ∧ b ∈ (ms' j).fo (φs j)) ∨ ((¬ ∃ j, K j ∧ ι' j = k) ∧ b ∈ (M k).fo (φ k)) := by
    intro k b hb
    by_cases hin : ∃ j, K j ∧ ι' j = k
    · obtain ⟨j, hj, rfl⟩ := hin
      rw [hbackφ j hj, (hM j hj).1, Tok.ren_fo] at hb
      exact .inl ⟨j, hj, rfl, hb⟩
    · rw [Env.back_out hin, hMo k hin] at hb
      exact .inr ⟨hin, hb⟩
  refine ⟨hmix, ?_, fun x v hx hv => ⟨by rw [VR_ren]; exact VR_congr (A := K) (fun k hk => hback k hk) x v hx hv, LV.wf_ren halK x hx⟩⟩
  refine ⟨Env.back K ι' φ φs, ?_⟩
  constructor
  · rw [hs.os, h.os]
  · rw [hs.tape, h.tape]
  · rw [hs.output, h.output]
  · exact Nat.le_trans h.size hs.size
  · intro b hb
    have := hs.prot b (hprg b hb)
    exact ⟨(h.prot b hb).1, this.2.trans (h.prot b hb).2⟩
  · intro k
    by_cases hin : ∃ j, K j ∧ ι' j = k
    · obtain ⟨j, hj, rfl⟩ := hin
      rw [hback j hj, hbackφ j hj, (hM j hj).1, TokR_ren]
      exact TokR_congr (A := K) (fun k hk => hback k hk) (hKw j hj) (hs.tok j)
    · rw [Env.back_out hin, Env.back_out hin, hMo k hin]
      exact TokR_congr hmix (h.wf k) (TokR_heap (h.tok k) (fun b hb => (hs.prot b (hguard k hin b hb)).2) (fun hr => (hs.prot _ (hguardro k hr)).2))
  · intro k b hb
    rcases hfo k b hb with ⟨j, hj, _, hb'⟩ | ⟨_, hb'⟩
    · exact ⟨fun hp => (hs.fw j b hb').1 (hprg b hp), (hs.fw j b hb').2⟩
    · exact ⟨(h.fw k b hb').1, Nat.lt_of_lt_of_le (h.fw k b hb').2 hs.size⟩
  · intro i k b hi hk
    rcases hfo i b hi with ⟨a, ha, e1, hb1⟩ | ⟨n1, hb1⟩ <;> rcases hfo k b hk with ⟨c, hc, e2, hb2⟩ | ⟨n2, hb2⟩
    · rw [← e1, ← e2, hs.fi a c b hb1 hb2]
    · exact absurd (hguard k n2 b hb2) (hs.fw a b hb1).1
    · exact absurd (hguard i n1 b hb1) (hs.fw c b hb2).1
    · exact h.fi i k b hb1 hb2
  · intro k hk
    by_cases hin : ∃ j, K j ∧ ι' j = k
    · obtain ⟨j, hj, rfl⟩ := hin
      rw [hback j hj]
      rw [(hM j hj).1, Tok.ren_isRo] at hk
      obtain ⟨h1, h2⟩ := hro j hj hk
      rw [hag j h1]
      exact h.ro (ι j) (by rw [(hms j h1).1, Tok.ren_isRo]; exact h2)
    · rw [Env.back_out hin]
      rw [hMo k hin] at hk
      exact h.ro k hk
  · intro k
    by_cases hin : ∃ j, K j ∧ ι' j = k
    · obtain ⟨j, hj, rfl⟩ := hin
      rw [(hM j hj).1]
      exact Tok.wf_ren halK _ (hKw j hj)
    · rw [hMo k hin]; exact Tok.wf_mono halM _ (h.wf k)
  · intro k g T cs hk
    by_cases hin : ∃ j, K j ∧ ι' j = k
    · obtain ⟨j, hj, rfl⟩ := hin
      rw [hback j hj]
      rw [(hM j hj).1] at hk
      cases hj' : ms' j with
      | glob g' T' cs' =>
        rw [hj'] at hk
        simp only [Tok.ren, Tok.glob.injEq] at hk
        obtain ⟨rfl, rfl, _⟩ := hk
        exact hs.gl j _ _ _ hj'
      | _ => rw [hj'] at hk; cases hk
    · rw [Env.back_out hin]
      rw [hMo k hin] at hk
      exact h.gl k g T cs hk

end
end Go.Vse
