/- The executor's pure operations: the sum. -/
import Derived.Test.YtpnfdndjaepbbaaVseH
namespace Go.Vse
open Go

section
variable {P : Program} {ρ : Env} {A : Nat → Prop} {w : World}

def OptVR (ρ : Env) : Option LV → Option Value → Prop
  | none, none => True
  | some y, some v => VR ρ y v
  | _, _ => False

section
variable [AbstRep]
theorem bndX_sound {x : Option LV} {dflt most n : Nat} {an an' : List Ans} {o : List Prop} (h : bndX x dflt most an = some (n, o, an')) (ho : AllP o) {u : Option Value}
    (hu : OptVR ρ x u) :
    (x = none ∧ n = dflt ∧ u = none) ∨ (∃ k z, u = some (.int k z) ∧ 0 ≤ z ∧ z ≤ most ∧ n = z.toNat) := by
  unfold bndX at h
  split at h
  · cases h
    cases u with
    | none => exact .inl ⟨rfl, rfl, rfl⟩
    | some v => simp [OptVR] at hu
  · rename_i k j
    split at h
    · rename_i hj
      cases h
      cases u with
      | none => simp [OptVR] at hu
      | some v => simp only [OptVR, VR] at hu; exact .inr ⟨k, j, by rw [hu], hj.1, hj.2, rfl⟩
    · cases h
  · rename_i k j
    cases u with
    | none => simp [OptVR] at hu
    | some v =>
      simp only [OptVR, VR] at hu
      split at h <;> (cases h; simp only [AllP, and_true] at ho; exact .inr ⟨k, j, by rw [hu], by omega, by omega, by omega⟩)
  · cases h
theorem bndS_sound {x : Option LV} {dflt most n : Nat} {an an' : List Ans} {o : List Prop} (h : bndS x dflt most an = some (n, o, an')) (ho : AllP o) {u : Option Value}
    (hu : OptVR ρ x u) :
    (x = none ∧ n = dflt ∧ u = none) ∨ (∃ k z, u = some (.int k z) ∧ 0 ≤ z ∧ z ≤ most ∧ n = z.toNat) := by
  unfold bndS at h
  split at h
  · cases h
    cases u with
    | none => exact .inl ⟨rfl, rfl, rfl⟩
    | some v => simp [OptVR] at hu
  · rename_i k j
    cases h
    simp only [AllP, and_true] at ho
    cases u with
    | none => simp [OptVR] at hu
    | some v => simp only [OptVR, VR] at hu; exact .inr ⟨k, j, by rw [hu], ho.1, ho.2, rfl⟩
  · rename_i k j
    cases h
    simp only [AllP, and_true] at ho
    cases u with
    | none => simp [OptVR] at hu
    | some v => simp only [OptVR, VR] at hu; exact .inr ⟨k, j, by rw [hu], ho.1, ho.2, rfl⟩
  · cases h
end

theorem run_sliceBound {k : IntKind} {z : Int} {m : Nat} (h0 : 0 ≤ z) (h1 : z ≤ m) (code : BoundsCode) : (Instr.sliceBound (.int k z) m code).run P w = .ok z.toNat w := by
  simp [Instr.sliceBound, asIntOf, h0, h1]

theorem evAll_sound {ev : Operand → Option LV} {ε : Operand → Value} : ∀ {xs : List Operand} {r : List LV}, evAll ev xs = some r → (∀ x ∈ xs, ∀ lx, ev x = some lx → VR ρ lx (ε x) ∧ lx.wf A) → VRs ρ r (xs.map ε) ∧ wfL A r
  | [], r, h, _ => by simp only [evAll] at h; cases h; simp [VRs, wfL]
  | x :: xs, r, h, hx => by
    simp only [evAll] at h
    split at h
    · rename_i v vs h1 h2
      cases h
      obtain ⟨a1, a2⟩ := evAll_sound h2 (fun y hy => hx y (List.mem_cons_of_mem _ hy))
      have := hx x (by simp) v h1
      simp only [List.map_cons, VRs, wfL]
      exact ⟨⟨_, _, rfl, this.1, a1⟩, this.2, a2⟩
    · cases h

theorem run_fieldPlace {f : Field} {n b o : Nat} (hs : sizL P f.type = some n) (hn : n ≠ 0) : (fieldPlace ⟨b, o, none⟩ f).run P w = .ok ⟨b, o + f.offset, none⟩ w := by
  unfold fieldPlace
  simp only [Sem.run_bind, run_sizeL hs, Result.andThen, if_neg hn, Sem.run_pure, add_off]

/-- A slice of a slice, where its bounds are right. -/
theorem slice_run {t e b o' l c cap z lv hv : Nat} {hh gg : Option LV} {hi lo : Option Value} (hd : P.underlying t = some (.slice e)) (hs : sizL P e = some z) (hlc : l ≤ c) (hcc : c ≤ cap)
    (b1 : (hh = none ∧ hv = l ∧ hi = none) ∨ (∃ k z, hi = some (.int k z) ∧ 0 ≤ z ∧ z ≤ (c : Int) ∧ hv = z.toNat)) (b2 : (gg = none ∧ lv = 0 ∧ lo = none) ∨ (∃ k z, lo = some (.int k z) ∧ 0 ≤ z ∧ z ≤ (hv : Int) ∧ lv = z.toNat)) :
    hv ≤ c ∧ lv ≤ hv ∧ (Instr.sliceAt t (.slice (some ⟨b, o', none⟩) l cap) lo hi none).run P w = .ok (.slice (if cap = lv then some ⟨b, o', none⟩ else some ⟨b, o' + lv * z, none⟩) (hv - lv) (cap - lv)) w := by
  have hhvc : hv ≤ c := by
    rcases b1 with ⟨_, r, _⟩ | ⟨_, zz, _, _, r1, r2⟩ <;> omega
  have hlvh : lv ≤ hv := by
    rcases b2 with ⟨_, r, _⟩ | ⟨_, zz, _, _, r1, r2⟩ <;> omega
  refine ⟨hhvc, hlvh, ?_⟩
  have hrun : (Instr.sliceBounds true l cap lo hi none).run P w = .ok (lv, hv, cap) w := by
    rcases b1 with ⟨_, r, er⟩ | ⟨kk, zz, er, r0, r1, r2⟩
    · rcases b2 with ⟨_, q, eq⟩ | ⟨kk', zz', eq, q0, q1, q2⟩
      · rw [er, eq]; simp [Instr.sliceBounds, r, q]
      · have hb := run_sliceBound (P := P) (w := w) (k := kk') q0 (show zz' ≤ ((l : Nat) : Int) by omega) .sliceB
        rw [er, eq]; simp [Instr.sliceBounds, hb, r, q2]
    · have ha := run_sliceBound (P := P) (w := w) (k := kk) r0 (show zz ≤ ((cap : Nat) : Int) by omega) .sliceAcap
      rcases b2 with ⟨_, q, eq⟩ | ⟨kk', zz', eq, q0, q1, q2⟩
      · rw [er, eq]; simp [Instr.sliceBounds, ha, r2, q]
      · have hb := run_sliceBound (P := P) (w := w) (k := kk') q0 (show zz' ≤ ((zz.toNat : Nat) : Int) by omega) .sliceB
        rw [er, eq]; simp [Instr.sliceBounds, ha, hb, r2, q2]
  simp only [Instr.sliceAt, Sem.run_bind, run_underlying hd, Result.andThen, Instr.slice, hrun, run_sizeL hs, Sem.run_pure]
  congr 2
  split <;> simp [add_off]

theorem slR_shift {k o o' c cap z lv hv : Nat} (hlc : hv ≤ c) (hlv : lv ≤ hv) (hcc : c ≤ cap) (hor : (o' = o ∧ o + cap * z ≤ (ρ k).2) ∨ cap = 0) :
    SlR ρ k (o + lv * z) (hv - lv) (c - lv) z (.slice (if cap = lv then some ⟨(ρ k).1, o', none⟩ else some ⟨(ρ k).1, o' + lv * z, none⟩) (hv - lv) (cap - lv)) := by
  refine ⟨if cap = lv then o' else o' + lv * z, cap - lv, ?_, by omega, by omega, ?_⟩
  · split <;> rfl
  · by_cases hcl : cap = lv
    · right; omega
    · rw [if_neg hcl]
      rcases hor with ⟨r1, r2⟩ | r
      · left
        refine ⟨by rw [r1], ?_⟩
        have : cap * z = lv * z + (cap - lv) * z := by rw [← Nat.add_mul]; congr 1; omega
        omega
      · omega

theorem optVR_map {ev : Operand → Option LV} {ε : Operand → Value} {hi : Option Operand} {hh : Option LV} (h : (match hi with | none => some (none : Option LV) | some h => (ev h).map some) = some hh)
    (hev : ∀ x, hi = some x → ∀ lx, ev x = some lx → VR ρ lx (ε x)) : OptVR ρ hh (hi.map ε) := by
  cases hi with
  | none => simp at h; subst h; trivial
  | some q =>
    simp only [Option.map_eq_some_iff] at h
    obtain ⟨y, hy, rfl⟩ := h
    exact hev q rfl _ hy

section
variable [AbstRep]
theorem sliceS_sound {t e k o l c z : Nat} {h g : Option LV} {own : Bool} {an an' : List Ans} {r : LV} {ob : List Prop} (hx : sliceS k o l c z h g own an = some (r, ob, an')) (ho : AllP ob) {hi lo : Option Value} (hH : OptVR ρ h hi) (hG : OptVR ρ g lo)
    (hd : P.underlying t = some (.slice e)) (hs : sizL P e = some z) {v : Value} (hv : (own = false ∧ SlR ρ k o l c z v) ∨ (own = true ∧ o = 0 ∧ c = l ∧ SoR ρ k l z v)) (hA : A k) :
    Gives P ρ A w (Instr.sliceAt t v lo hi none) r := by
  unfold sliceS at hx
  split at hx
  · rename_i hv1 o1 an1 hb1
    split at hx
    · rename_i lv o2 an2 hb2
      cases hx
      rw [AllP_append, AllP_append] at ho
      have b1 := bndS_sound hb1 ho.2.1 hH
      have b2 := bndS_sound hb2 ho.2.2 hG
      rcases hv with ⟨rfl, o', cap, rfl, hlc, hcc, hor⟩ | ⟨rfl, rfl, rfl, base, cap, rfl, hlc, hor⟩
      · have b1' : (h = none ∧ hv1 = l ∧ hi = none) ∨ (∃ k z, hi = some (.int k z) ∧ 0 ≤ z ∧ z ≤ (c : Int) ∧ hv1 = z.toNat) := b1
        obtain ⟨r1, r2, r3⟩ := slice_run (w := w) (b := (ρ k).1) (o' := o') hd hs hlc hcc b1' b2
        exact ⟨_, r3, by simp only [VR]; exact slR_shift r1 r2 hcc hor, by simpa [LV.wf] using hA⟩
      · simp only [if_true, AllP, and_true] at ho
        rcases hor with hor | hor
        · omega
        · obtain ⟨rfl, hsz⟩ := hor
          obtain ⟨r1, r2, r3⟩ := slice_run (w := w) (b := (ρ k).1) (o' := 0) hd hs (Nat.le_refl c) hlc b1 b2
          exact ⟨_, r3, by simp only [VR]; exact slR_shift r1 r2 hlc (.inl ⟨rfl, by omega⟩), by simpa [LV.wf] using hA⟩
    · cases hx
  · cases hx

theorem pureX_sound {op : Op} {ev : Operand → Option LV} {an an' : List Ans} {r : LV} {ob : List Prop} (h : pureX P op ev an = some (r, ob, an')) (ho : AllP ob) {ε : Operand → Value}
    (hev : ∀ x ∈ op.operands, ∀ lx, ev x = some lx → VR ρ lx (ε x) ∧ lx.wf A) {o : Oper} (hop : o.op = op) :
    ∃ v, (execOp ε o).run P w = .ok (.value v) w ∧ VR ρ r v ∧ r.wf A := by
  have lift : ∀ (s : Sem Value), Gives P ρ A w s r → ∃ v, ((do pure (.value (← s)) : Sem Next)).run P w = .ok (.value v) w ∧ VR ρ r v ∧ r.wf A := by
    rintro s ⟨v, h1, h2, h3⟩
    exact ⟨v, by simp only [Sem.run_bind, h1, Result.andThen, Sem.run_pure], h2, h3⟩
  unfold pureX at h
  split at h
  · rename_i x
    split at h
    · rename_i v hv; cases h
      have := hev x (by simp [Op.operands]) _ hv
      exact ⟨ε x, by simp [execOp, hop], this.1, this.2⟩
    · cases h
  · rename_i x
    split at h
    · rename_i v hv; cases h
      have := hev x (by simp [Op.operands]) _ hv
      exact ⟨ε x, by simp [execOp, hop], this.1, this.2⟩
    · cases h
  · rename_i c a b
    split at h
    · rename_i t hc
      split at h
      · rename_i v hv; cases h
        have h1 := (hev c (by simp [Op.operands]) _ hc).1
        simp only [VR] at h1
        have h2 := hev (if t then a else b) (by cases t <;> simp [Op.operands]) _ hv
        refine ⟨ε (if t then a else b), ?_, h2.1, h2.2⟩
        cases t <;> simp [execOp, hop, h1, asBool]
      · cases h
    · cases h
  · rename_i t parts
    split at h
    · rename_i ps hps
      split at h
      · rename_i v hb; cases h
        obtain ⟨a1, a2⟩ := evParts_sound (ρ := ρ) (A := A) (ε := ε) hps (fun x hx lx hlx => hev x (by simpa [Op.operands] using hx) lx hlx)
        have hg := buildX_sound (P := P) (w := w) hb a1 a2
        have e : (parts.map fun (i, x) => (i, ε x)) = (parts.toList.map fun p => (p.1, ε p.2)).toArray := by apply Array.ext'; simp
        rw [← e] at hg
        simp only [execOp, hop]
        exact lift _ hg
      · cases h
    · cases h
  · rename_i x
    split at h
    · rename_i k o1 hx; cases h
      have := hev x (by simp [Op.operands]) _ hx
      have h1 := this.1; simp only [VR] at h1
      exact ⟨ε x, by simp [execOp, hop, h1], this.1, this.2⟩
    · rename_i k o1 hx; cases h
      have := hev x (by simp [Op.operands]) _ hx
      have h1 := this.1; simp only [VR] at h1
      exact ⟨ε x, by simp [execOp, hop, h1], this.1, this.2⟩
    · rename_i k o1 hx; cases h
      have := hev x (by simp [Op.operands]) _ hx
      have h1 := this.1; simp only [VR] at h1; obtain ⟨vs, h1, _⟩ := h1
      exact ⟨ε x, by simp [execOp, hop, h1], this.1, this.2⟩
    · rename_i k hx; cases h
      have := hev x (by simp [Op.operands]) _ hx
      have h1 := this.1; simp only [VR] at h1
      exact ⟨ε x, by simp [execOp, hop, h1], this.1, this.2⟩
    · cases h
  · rename_i bop t x y yt
    split at h
    · rename_i a b ha hb
      have h1 := (hev x (by simp [Op.operands]) _ ha).1
      have h2 := (hev y (by simp [Op.operands]) _ hb).1
      simp only [execOp, hop]
      exact lift _ (binX_sound h ho h1 h2 x y)
    · cases h
  · rename_i uop t x
    split at h
    · rename_i a hx; cases h
      have h1 := (hev x (by simp [Op.operands]) _ hx).1; simp only [VR] at h1
      simp only [execOp, hop]
      exact lift _ (VRb_of (by simp [Op.unary, h1]))
    · rename_i a hx; cases h
      have h1 := (hev x (by simp [Op.operands]) _ hx).1; simp only [VR] at h1
      simp only [execOp, hop]
      exact lift _ ⟨.bool !a, by simp [Op.unary, h1], by simp [VR], by simp [LV.wf]⟩
    · rename_i k a hx; cases h
      have h1 := (hev x (by simp [Op.operands]) _ hx).1; simp only [VR] at h1
      simp only [execOp, hop]
      exact lift _ ⟨.int k (k.wrap (0 - a)), by simp [Op.unary, h1, Op.intArith], by simp [VR, fwrap_eq], by simp [LV.wf]⟩
    · rename_i k a hx
      have h1 := (hev x (by simp [Op.operands]) _ hx).1; simp only [VR] at h1
      have := arithX_sound (ρ := ρ) (A := A) h ho
      simp only [execOp, hop]
      exact lift _ ⟨.int k (k.wrap (0 - a)), by simp [Op.unary, h1, Op.intArith], this.1, this.2⟩
    · cases h
  · rename_i src dst x
    split at h
    · rename_i d1 k k0 a hs hd hx; cases h
      have h1 := (hev x (by simp [Op.operands]) _ hx).1; simp only [VR] at h1
      simp only [execOp, hop]
      refine lift _ ⟨.int k (k.wrap a), ?_, by simp [VR, fwrap_eq], by simp [LV.wf]⟩
      simp [convert, run_underlying hs, run_underlying hd, h1, Result.andThen, Conv.intToInt]
    · rename_i d1 k k0 a hs hd hx
      have h1 := (hev x (by simp [Op.operands]) _ hx).1; simp only [VR] at h1
      have := arithX_sound (ρ := ρ) (A := A) h ho
      simp only [execOp, hop]
      refine lift _ ⟨.int k (k.wrap a), ?_, this.1, this.2⟩
      simp [convert, run_underlying hs, run_underlying hd, h1, Result.andThen, Conv.intToInt]
    · cases h
  · rename_i s x f
    split at h
    · rename_i fs k o1 hs hx
      split at h
      · rename_i fd hf
        split at h
        · rename_i n hn
          split at h
          · cases h
          · rename_i hn0
            cases h
            have hh := hev x (by simp [Op.operands]) _ hx
            have h1 := hh.1; simp only [VR] at h1
            simp only [execOp, hop]
            refine lift _ ⟨.pointer (some ⟨(ρ k).1, o1 + fd.offset, none⟩), ?_, by simp [VR], by simpa [LV.wf] using hh.2⟩
            simp only [Instr.fieldAt, Sem.run_bind, run_underlying hs, Result.andThen, hf, h1, Instr.sureAddr, Sem.run_pure, run_fieldPlace hn hn0]
        · cases h
      · cases h
    · rename_i fs k o1 hs hx
      split at h
      · rename_i fd hf
        split at h
        · rename_i n hn
          split at h
          · cases h
          · rename_i hn0
            cases h
            have hh := hev x (by simp [Op.operands]) _ hx
            have h1 := hh.1; simp only [VR] at h1
            simp only [execOp, hop]
            refine lift _ ⟨.pointer (some ⟨(ρ k).1, o1 + fd.offset, none⟩), ?_, by simp [VR], by simpa [LV.wf] using hh.2⟩
            simp only [Instr.fieldAt, Sem.run_bind, run_underlying hs, Result.andThen, hf, h1, Instr.sureAddr, Sem.run_pure, run_fieldPlace hn hn0]
        · cases h
      · cases h
    · cases h
  · rename_i t x f
    split at h
    · rename_i fs xs hs hx
      split at h
      · rename_i fd hf
        split at h
        · rename_i v hv
          cases h
          have hh := hev x (by simp [Op.operands]) _ hx
          have h1 := hh.1; simp only [VR] at h1
          obtain ⟨vs, e, hvs⟩ := h1
          obtain ⟨u, hu, hr, hwf⟩ := part_sound (P := P) (A := A) (w := w) hv hvs
          simp only [execOp, hop]
          refine lift _ ⟨u, ?_, hr, hwf (by simpa [LV.wf] using hh.2)⟩
          simp only [Instr.field, Sem.run_bind, run_underlying hs, Result.andThen, hf, e, asAgg, Sem.run_pure, hu]
        · cases h
      · cases h
    · cases h
  · rename_i t x i
    split at h
    · rename_i a b ha hb
      have h1 := hev x (by simp [Op.operands]) _ ha
      have h2 := hev i (by simp [Op.operands]) _ hb
      simp only [execOp, hop]
      exact lift _ (indexAddrX_sound h ho h1.1 h2.1 h1.2)
    · cases h
  · rename_i t x i
    split at h
    · rename_i n e xs j hd hx hi
      split at h
      · rename_i k z sz hs
        split at h
        · rename_i hz
          split at h
          · rename_i v hv
            cases h
            have hh := hev x (by simp [Op.operands]) _ hx
            have h1 := hh.1; simp only [VR] at h1
            obtain ⟨vs, e1, hvs⟩ := h1
            have h2 := (hev i (by simp [Op.operands]) _ hi).1; simp only [VR] at h2
            obtain ⟨u, hu, hr, hwf⟩ := part_sound (P := P) (A := A) (w := w) hv hvs
            simp only [execOp, hop]
            refine lift _ ⟨u, ?_, hr, hwf (by simpa [LV.wf] using hh.2)⟩
            simp only [Instr.index, Sem.run_bind, h2, asIntOf, Sem.run_pure, Result.andThen, run_underlying hd, e1]
            rw [if_pos hz]
            simp only [Sem.run_bind, run_sizeL hs, Result.andThen, hu]
          · cases h
        · cases h
      · cases h
    · cases h
  · rename_i t x lo hi mx
    split at h
    · rename_i e k o1 l c z hd hx
      split at h
      · rename_i sz hs
        split at h
        · rename_i hz
          subst hz
          split at h
          · rename_i q
            split at h
            · rename_i k1 k2 hhi hq
              cases h
              have hxx := hev x (by simp [Op.operands]) _ hx
              have h1 := hxx.1; simp only [VR, SlR] at h1
              obtain ⟨o', cap, e1, hlc, hcc, hor⟩ := h1
              cases hi with
              | none => simp at hhi
              | some hv =>
                have g1 := (hev hv (by simp [Op.operands]) _ hhi).1; simp only [VR] at g1
                have g2 := (hev q (by simp [Op.operands]) _ hq).1; simp only [VR] at g2
                simp only [execOp, hop]
                refine lift _ ⟨.slice (some ⟨(ρ k).1, o', none⟩) 0 0, ?_, by simp only [VR]; exact ⟨o', rfl⟩, by simpa [LV.wf] using hxx.2⟩
                have b1 := run_sliceBound (P := P) (w := w) (k := k2) (z := 0) (m := cap) (by omega) (by omega) .slice3Acap
                have b2 := run_sliceBound (P := P) (w := w) (k := k1) (z := 0) (m := 0) (by omega) (by omega) .slice3B
                simp [Instr.sliceAt, run_underlying hd, Result.andThen, e1, Instr.slice, Instr.sliceBounds, g1, g2, b1, b2, run_sizeL hs]
            · cases h
          · split at h
            · rename_i hh gg hhi hlo
              split at h
              · rename_i hv ob1 an1 hb1
                split at h
                · rename_i lv ob2 an2 hb2
                  cases h
                  rw [AllP_append] at ho
                  have hxx := hev x (by simp [Op.operands]) _ hx
                  have h1 := hxx.1; simp only [VR, SlR] at h1
                  obtain ⟨o', cap, e1, hlc, hcc, hor⟩ := h1
                  have hH : OptVR ρ hh (hi.map ε) := by
                    cases hi with
                    | none => simp at hhi; subst hhi; trivial
                    | some q =>
                      simp only [Option.map_eq_some_iff] at hhi
                      obtain ⟨y, hy, rfl⟩ := hhi
                      exact (hev q (by simp [Op.operands]) _ hy).1
                  have hG : OptVR ρ gg (lo.map ε) := by
                    cases lo with
                    | none => simp at hlo; subst hlo; trivial
                    | some q =>
                      simp only [Option.map_eq_some_iff] at hlo
                      obtain ⟨y, hy, rfl⟩ := hlo
                      exact (hev q (by simp [Op.operands]) _ hy).1
                  have b1 := bndX_sound hb1 ho.1 hH
                  have b2 := bndX_sound hb2 ho.2 hG
                  obtain ⟨r1, r2, r3⟩ := slice_run (w := w) (b := (ρ k).1) (o' := o') hd hs hlc hcc b1 b2
                  simp only [execOp, hop]
                  rw [← e1] at r3
                  exact lift _ ⟨_, r3, by simp only [VR]; exact slR_shift r1 r2 hcc hor, by simpa [LV.wf] using hxx.2⟩
                · cases h
              · cases h
            · cases h
        · cases h
      · cases h
    · rename_i e k o1 l c z hd hx
      split at h
      · rename_i sz hh gg hs hhi hlo
        split at h
        · rename_i hz; subst hz
          have hxx := hev x (by simp [Op.operands]) _ hx
          simp only [execOp, hop]
          have h1 := hxx.1; simp only [VR] at h1
          exact lift _ (sliceS_sound h ho (optVR_map hhi (fun y hy lx hlx => (hev y (by simp [Op.operands, hy]) lx hlx).1)) (optVR_map hlo (fun y hy lx hlx => (hev y (by simp [Op.operands, hy]) lx hlx).1)) hd hs (.inl ⟨rfl, h1⟩) (by simpa [LV.wf] using hxx.2))
        · cases h
      · cases h
    · rename_i e k l z hd hx
      split at h
      · rename_i sz hh gg hs hhi hlo
        split at h
        · rename_i hz; subst hz
          have hxx := hev x (by simp [Op.operands]) _ hx
          simp only [execOp, hop]
          have h1 := hxx.1; simp only [VR] at h1
          exact lift _ (sliceS_sound h ho (optVR_map hhi (fun y hy lx hlx => (hev y (by simp [Op.operands, hy]) lx hlx).1)) (optVR_map hlo (fun y hy lx hlx => (hev y (by simp [Op.operands, hy]) lx hlx).1)) hd hs (.inr ⟨rfl, rfl, rfl, h1⟩) (by simpa [LV.wf] using hxx.2))
        · cases h
      · cases h
    · cases h
  · rename_i x i
    split at h
    · rename_i xs hx
      split at h
      · rename_i v hv; cases h
        have hh := hev x (by simp [Op.operands]) _ hx
        have h1 := hh.1; simp only [VR] at h1
        obtain ⟨vs, e, hvs⟩ := h1
        obtain ⟨u, hu, hr⟩ := VRs_get hvs i _ hv
        simp only [execOp, hop]
        refine lift _ ⟨u, by simp [Instr.extract, e, hu], hr, ?_⟩
        have := hh.2; simp only [LV.wf] at this; rw [wfL_iff] at this
        exact this _ (List.mem_of_getElem? hv)
      · cases h
    · cases h
  · rename_i f first captured
    split at h
    · rename_i hemp
      split at h
      · rename_i vs hvs; cases h
        obtain ⟨a1, a2⟩ := evAll_sound (ρ := ρ) (A := A) (ε := ε) hvs (fun x hx lx hlx => hev x (by simp [Op.operands]; right; simpa using hx) lx hlx)
        simp only [execOp, hop]
        have hf0 : first = #[] := by simpa using hemp
        refine lift _ ⟨.func (.func f) #[] (captured.map ε), by simp [Instr.makeFunc, hf0], ?_, by simpa [LV.wf] using a2⟩
        simp only [VR]
        refine ⟨_, ?_, a1⟩
        congr 1
        apply Array.ext'; simp
      · cases h
    · cases h
  · rename_i args argTypes
    split at h
    · rename_i t x ht hx0
      have hmem : x ∈ (Op.call { callee := .builtin .len, args := args, argTypes := argTypes }).operands := by
        simp only [Op.operands, Call.operands]
        simp only [Array.empty_append]
        exact Array.mem_of_getElem? hx0
      have hrun : ∀ (u : Value) (n : Int), ε x = u → (Builtin.len_ argTypes o.type (args.map ε)).run P w = .ok (.int .i64 n) w → (execOp ε o).run P w = .ok (.value (.int .i64 n)) w := by
        intro u n _ hl
        simp only [execOp, hop, resolve, Sem.run_bind, Sem.run_pure, Result.andThen, invoke, builtin, hl]
      have ha0 : (args.map ε)[0]? = some (ε x) := by simp [hx0]
      split at h
      · rename_i e k o1 l c z hd hx; cases h
        have h1 := (hev x hmem _ hx).1; simp only [VR, SlR] at h1
        obtain ⟨o', cap, e1, _⟩ := h1
        refine ⟨.int .i64 l, hrun _ _ rfl ?_, by simp [VR], by simp [LV.wf]⟩
        simp [Builtin.len_, ht, ha0, e1, run_underlying hd, Result.andThen, goInt]
      · rename_i e k o1 l c z hd hx; cases h
        have h1 := (hev x hmem _ hx).1; simp only [VR, SlR] at h1
        obtain ⟨o', cap, e1, _⟩ := h1
        refine ⟨.int .i64 l, hrun _ _ rfl ?_, by simp [VR], by simp [LV.wf]⟩
        simp [Builtin.len_, ht, ha0, e1, run_underlying hd, Result.andThen, goInt]
      · rename_i e k l z hd hx; cases h
        have h1 := (hev x hmem _ hx).1; simp only [VR, SoR] at h1
        obtain ⟨o', cap, e1, _⟩ := h1
        refine ⟨.int .i64 l, hrun _ _ rfl ?_, by simp [VR], by simp [LV.wf]⟩
        simp [Builtin.len_, ht, ha0, e1, run_underlying hd, Result.andThen, goInt]
      · rename_i e hd hx; cases h
        have h1 := (hev x hmem _ hx).1; simp only [VR] at h1
        refine ⟨.int .i64 0, hrun _ _ rfl ?_, by simp [VR], by simp [LV.wf]⟩
        simp [Builtin.len_, ht, ha0, h1, run_underlying hd, Result.andThen, goInt]
      · rename_i e k hd hx; cases h
        have h1 := (hev x hmem _ hx).1; simp only [VR] at h1
        obtain ⟨o', e1⟩ := h1
        refine ⟨.int .i64 0, hrun _ _ rfl ?_, by simp [VR], by simp [LV.wf]⟩
        simp [Builtin.len_, ht, ha0, e1, run_underlying hd, Result.andThen, goInt]
      · rename_i n e lx hd hx; cases h
        refine ⟨.int .i64 n, hrun _ _ rfl ?_, by simp [VR], by simp [LV.wf]⟩
        simp [Builtin.len_, ht, ha0, run_underlying hd, Result.andThen, goInt]
      · cases h
    · cases h
  · rename_i args argTypes
    split at h
    · rename_i x y hxy
      split at h
      · rename_i k a s k' b s' hx hy
        split at h
        · rename_i hk; subst hk
          cases h
          have hsz : args.size = 2 := by rw [← Array.length_toList, hxy]; rfl
          have hx0 : args[0]? = some x := by rw [← Array.getElem?_toList, hxy]; rfl
          have hy0 : args[1]? = some y := by rw [← Array.getElem?_toList, hxy]; rfl
          have hmx : x ∈ (Op.call { callee := .builtin .max, args := args, argTypes := argTypes }).operands := by
            simp only [Op.operands, Call.operands]
            simp only [Array.empty_append]
            exact Array.mem_of_getElem? hx0
          have hmy : y ∈ (Op.call { callee := .builtin .max, args := args, argTypes := argTypes }).operands := by
            simp only [Op.operands, Call.operands]
            simp only [Array.empty_append]
            exact Array.mem_of_getElem? hy0
          rw [Option.bind_eq_some_iff] at hx hy
          obtain ⟨lx, hx1, hx2⟩ := hx
          obtain ⟨ly, hy1, hy2⟩ := hy
          have e1 := asI_sound hx2 (hev x hmx _ hx1).1
          have e2 := asI_sound hy2 (hev y hmy _ hy1).1
          refine ⟨.int k (max2I a b), ?_, by split <;> simp [VR], by split <;> simp [LV.wf]⟩
          have hl : (args.map ε).toList = [ε x, ε y] := by rw [Array.toList_map, hxy]; rfl
          simp only [execOp, hop, resolve, Sem.run_bind, Sem.run_pure, Result.andThen, invoke, builtin, Builtin.max_, hl, List.foldlM, e1, e2, Builtin.max2, max2I]
        · cases h
      · cases h
    · cases h
  · rename_i args argTypes
    split at h
    · rename_i x y hxy
      split at h
      · rename_i k a s k' b s' hx hy
        split at h
        · rename_i hk; subst hk
          cases h
          have hsz : args.size = 2 := by rw [← Array.length_toList, hxy]; rfl
          have hx0 : args[0]? = some x := by rw [← Array.getElem?_toList, hxy]; rfl
          have hy0 : args[1]? = some y := by rw [← Array.getElem?_toList, hxy]; rfl
          have hmx : x ∈ (Op.call { callee := .builtin .min, args := args, argTypes := argTypes }).operands := by
            simp only [Op.operands, Call.operands]
            simp only [Array.empty_append]
            exact Array.mem_of_getElem? hx0
          have hmy : y ∈ (Op.call { callee := .builtin .min, args := args, argTypes := argTypes }).operands := by
            simp only [Op.operands, Call.operands]
            simp only [Array.empty_append]
            exact Array.mem_of_getElem? hy0
          rw [Option.bind_eq_some_iff] at hx hy
          obtain ⟨lx, hx1, hx2⟩ := hx
          obtain ⟨ly, hy1, hy2⟩ := hy
          have e1 := asI_sound hx2 (hev x hmx _ hx1).1
          have e2 := asI_sound hy2 (hev y hmy _ hy1).1
          refine ⟨.int k (min2I a b), ?_, by split <;> simp [VR], by split <;> simp [LV.wf]⟩
          have hl : (args.map ε).toList = [ε x, ε y] := by rw [Array.toList_map, hxy]; rfl
          simp only [execOp, hop, resolve, Sem.run_bind, Sem.run_pure, Result.andThen, invoke, builtin, Builtin.min_, hl, List.foldlM, e1, e2, Builtin.min2, min2I]
        · cases h
      · cases h
    · cases h
  · cases h
end

end
end Go.Vse
