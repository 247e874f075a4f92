/- Local values with block tokens, their relation to a real world, semantic triples and the frame rule. Generic over the program. -/
import Derived.RangeFuncLeaves
import Derived.RangeFuncRecord
import Derived.RangeFuncCalls
import Derived.OrdersIn
import Derived.Below
import Derived.Laws.Sem
namespace Go.Vse
open Go

/-- A local value. Tokens stand for blocks. -/
inductive LV where
  | i (k : IntKind) (x : Int)
  | s (k : IntKind) (x : Int)
  | b (x : Bool)
  | v (x : Value)
  | p0
  | p (k o : Nat)
  | ps (k o : Nat)
  | n0
  | sl (k o l c z : Nat)
  | ss (k o l c z : Nat)
  | se (k : Nat)
  | agg (xs : List LV)
  | tup (xs : List LV)
  | fn (f : FuncId) (cs : List LV)
  | yl (k : Nat)
  | f0
  deriving Inhabited

abbrev Env := Nat → Nat × Nat

mutual
def LV.wf (A : Nat → Prop) : LV → Prop
  | .p k _ => A k
  | .ps k _ => A k
  | .sl k _ _ _ _ => A k
  | .ss k _ _ _ _ => A k
  | .se k => A k
  | .yl k => A k
  | .agg xs => wfL A xs
  | .tup xs => wfL A xs
  | .fn _ cs => wfL A cs
  | _ => True
def wfL (A : Nat → Prop) : List LV → Prop
  | [] => True
  | x :: xs => x.wf A ∧ wfL A xs
end

/-- A slice's address and capacity. -/
def SlR (ρ : Env) (k o l c z : Nat) (v : Value) : Prop :=
  ∃ o' cap, v = .slice (some ⟨(ρ k).1, o', none⟩) l cap ∧ l ≤ c ∧ c ≤ cap ∧ ((o' = o ∧ o + cap * z ≤ (ρ k).2) ∨ cap = 0)

mutual
def VR (ρ : Env) : LV → Value → Prop
  | .i k x, v => v = .int k x
  | .s k x, v => v = .int k x
  | .b x, v => v = .bool x
  | .v x, v => v = x ∧ (∀ c, x ≠ .agg c) ∧ (∀ c, x ≠ .tuple c)
  | .p0, v => v = .pointer none
  | .p k o, v => v = .pointer (some ⟨(ρ k).1, o, none⟩)
  | .ps k o, v => v = .pointer (some ⟨(ρ k).1, o, none⟩)
  | .n0, v => v = .slice none 0 0
  | .sl k o l c z, v => SlR ρ k o l c z v
  | .ss k o l c z, v => SlR ρ k o l c z v
  | .se k, v => ∃ o', v = .slice (some ⟨(ρ k).1, o', none⟩) 0 0
  | .agg xs, v => ∃ vs : List Value, v = .agg vs.toArray ∧ VRs ρ xs vs
  | .tup xs, v => ∃ vs : List Value, v = .tuple vs.toArray ∧ VRs ρ xs vs
  | .fn f cs, v => ∃ vs : List Value, v = .func (.func f) #[] vs.toArray ∧ VRs ρ cs vs
  | .yl k, v => v = .func (.yield (ρ k).1) #[] #[]
  | .f0, v => v = .nilFunc
def VRs (ρ : Env) : List LV → List Value → Prop
  | [], vs => vs = []
  | x :: xs, vs => ∃ v r, vs = v :: r ∧ VR ρ x v ∧ VRs ρ xs r
end

mutual
theorem VR_congr {ρ ρ' : Env} {A : Nat → Prop} (h : ∀ k, A k → ρ' k = ρ k) : ∀ (x : LV) (v : Value), x.wf A → VR ρ x v → VR ρ' x v
  | .i _ _, _, _, hv => by simpa only [VR] using hv
  | .s _ _, _, _, hv => by simpa only [VR] using hv
  | .b _, _, _, hv => by simpa only [VR] using hv
  | .v _, _, _, hv => by simpa only [VR] using hv
  | .p0, _, _, hv => by simpa only [VR] using hv
  | .n0, _, _, hv => by simpa only [VR] using hv
  | .f0, _, _, hv => by simpa only [VR] using hv
  | .p k _, _, hw, hv => by simp only [LV.wf] at hw; simp only [VR, h k hw] at hv ⊢; exact hv
  | .ps k _, _, hw, hv => by simp only [LV.wf] at hw; simp only [VR, h k hw] at hv ⊢; exact hv
  | .yl k, _, hw, hv => by simp only [LV.wf] at hw; simp only [VR, h k hw] at hv ⊢; exact hv
  | .sl k _ _ _ _, _, hw, hv => by simp only [LV.wf] at hw; simp only [VR, SlR, h k hw] at hv ⊢; exact hv
  | .ss k _ _ _ _, _, hw, hv => by simp only [LV.wf] at hw; simp only [VR, SlR, h k hw] at hv ⊢; exact hv
  | .se k, _, hw, hv => by simp only [LV.wf] at hw; simp only [VR, h k hw] at hv ⊢; exact hv
  | .agg xs, _, hw, hv => by
    simp only [LV.wf] at hw; simp only [VR] at hv ⊢; obtain ⟨vs, e, hvs⟩ := hv; exact ⟨vs, e, VRs_congr h xs vs hw hvs⟩
  | .tup xs, _, hw, hv => by
    simp only [LV.wf] at hw; simp only [VR] at hv ⊢; obtain ⟨vs, e, hvs⟩ := hv; exact ⟨vs, e, VRs_congr h xs vs hw hvs⟩
  | .fn _ xs, _, hw, hv => by
    simp only [LV.wf] at hw; simp only [VR] at hv ⊢; obtain ⟨vs, e, hvs⟩ := hv; exact ⟨vs, e, VRs_congr h xs vs hw hvs⟩
theorem VRs_congr {ρ ρ' : Env} {A : Nat → Prop} (h : ∀ k, A k → ρ' k = ρ k) : ∀ (xs : List LV) (vs : List Value), wfL A xs → VRs ρ xs vs → VRs ρ' xs vs
  | [], _, _, hv => by simpa only [VRs] using hv
  | x :: xs, _, hw, hv => by
    simp only [wfL] at hw; simp only [VRs] at hv ⊢; obtain ⟨v, r, e, h1, h2⟩ := hv
    exact ⟨v, r, e, VR_congr h x v hw.1 h1, VRs_congr h xs r hw.2 h2⟩
end

mutual
theorem LV.wf_mono {A B : Nat → Prop} (h : ∀ k, A k → B k) : ∀ (x : LV), x.wf A → x.wf B
  | .i _ _, _ => by simp [LV.wf]
  | .s _ _, _ => by simp [LV.wf]
  | .b _, _ => by simp [LV.wf]
  | .v _, _ => by simp [LV.wf]
  | .p0, _ => by simp [LV.wf]
  | .n0, _ => by simp [LV.wf]
  | .f0, _ => by simp [LV.wf]
  | .p k _, hw => by simp only [LV.wf] at *; exact h k hw
  | .ps k _, hw => by simp only [LV.wf] at *; exact h k hw
  | .sl k _ _ _ _, hw => by simp only [LV.wf] at *; exact h k hw
  | .ss k _ _ _ _, hw => by simp only [LV.wf] at *; exact h k hw
  | .yl k, hw => by simp only [LV.wf] at *; exact h k hw
  | .se k, hw => by simp only [LV.wf] at *; exact h k hw
  | .agg xs, hw => by simp only [LV.wf] at *; exact wfL_mono h xs hw
  | .tup xs, hw => by simp only [LV.wf] at *; exact wfL_mono h xs hw
  | .fn _ xs, hw => by simp only [LV.wf] at *; exact wfL_mono h xs hw
theorem wfL_mono {A B : Nat → Prop} (h : ∀ k, A k → B k) : ∀ (xs : List LV), wfL A xs → wfL B xs
  | [], _ => by simp [wfL]
  | x :: xs, hw => by simp only [wfL] at *; exact ⟨LV.wf_mono h x hw.1, wfL_mono h xs hw.2⟩
end

theorem wfL_iff {A : Nat → Prop} {xs : List LV} : wfL A xs ↔ ∀ x ∈ xs, x.wf A := by
  induction xs with
  | nil => simp [wfL]
  | cons x xs ih => simp [wfL, ih]

theorem VRs_length {ρ : Env} : ∀ {xs : List LV} {vs : List Value}, VRs ρ xs vs → vs.length = xs.length
  | [], _, h => by simp only [VRs] at h; simp [h]
  | x :: xs, _, h => by simp only [VRs] at h; obtain ⟨v, r, rfl, _, h2⟩ := h; simp [VRs_length h2]

theorem VRs_get {ρ : Env} : ∀ {xs : List LV} {vs : List Value}, VRs ρ xs vs → ∀ (j : Nat) (x : LV), xs[j]? = some x → ∃ v, vs[j]? = some v ∧ VR ρ x v
  | [], _, _, j, x, hx => by simp at hx
  | y :: xs, _, h, j, x, hx => by
    simp only [VRs] at h; obtain ⟨v, r, rfl, h1, h2⟩ := h
    cases j with
    | zero => simp at hx; subst hx; exact ⟨v, by simp, h1⟩
    | succ j => simp at hx; obtain ⟨u, hu, hr⟩ := VRs_get h2 j x hx; exact ⟨u, by simpa using hu, hr⟩

theorem VRs_of {ρ : Env} : ∀ {xs : List LV} {vs : List Value}, vs.length = xs.length → (∀ (j : Nat) (x : LV) (v : Value), xs[j]? = some x → vs[j]? = some v → VR ρ x v) → VRs ρ xs vs
  | [], vs, hl, _ => by simp only [VRs]; simpa using hl
  | x :: xs, [], hl, _ => by simp at hl
  | x :: xs, v :: vs, hl, h => by
    simp only [VRs]
    exact ⟨v, vs, rfl, h 0 x v (by simp) (by simp), VRs_of (by simpa using hl) (fun j y u hy hu => h (j + 1) y u (by simpa using hy) (by simpa using hu))⟩

theorem VRs_append {ρ : Env} : ∀ {xs ys : List LV} {vs us : List Value}, VRs ρ xs vs → VRs ρ ys us → VRs ρ (xs ++ ys) (vs ++ us)
  | [], ys, vs, us, h, h' => by simp only [VRs] at h; subst h; simpa using h'
  | x :: xs, ys, vs, us, h, h' => by
    simp only [VRs] at h; obtain ⟨v, r, rfl, h1, h2⟩ := h
    simp only [List.cons_append, VRs]
    exact ⟨v, r ++ us, rfl, h1, VRs_append h2 h'⟩

theorem VRs_take {ρ : Env} {xs : List LV} {vs : List Value} (h : VRs ρ xs vs) (n : Nat) : VRs ρ (xs.take n) (vs.take n) := by
  have hl := VRs_length h
  refine VRs_of (by simp [hl]) (fun j x v hx hv => ?_)
  rw [List.getElem?_take] at hx hv
  split at hx
  · rename_i hj
    rw [if_pos hj] at hv
    obtain ⟨u, hu, hr⟩ := VRs_get h j x hx
    rw [hu] at hv; cases hv; exact hr
  · cases hx

theorem VRs_drop {ρ : Env} {xs : List LV} {vs : List Value} (h : VRs ρ xs vs) (n : Nat) : VRs ρ (xs.drop n) (vs.drop n) := by
  have hl := VRs_length h
  refine VRs_of (by simp [hl]) (fun j x v hx hv => ?_)
  rw [List.getElem?_drop] at hx hv
  obtain ⟨u, hu, hr⟩ := VRs_get h _ x hx
  rw [hu] at hv; cases hv; exact hr

/-- What is known of a token. -/
inductive Tok where
  | free
  | hid
  | cells (rw : Bool) (T : TypeId) (cs : List LV)
  | loop (st : LoopState) (pend : Option Code) (tm : List LV) (ps : Array Tmp) (asg body : Code) (df : Nat)
  | defd
  | glob (g : Nat) (T : TypeId) (cs : List LV)
  deriving Inhabited

abbrev Mem := Nat → Tok

def Tok.isFree : Tok → Bool | .free => true | _ => false
def al (m : Mem) (k : Nat) : Prop := (m k).isFree = false
/-- Written by the call alone. -/
def Tok.isRw : Tok → Bool | .cells rw _ _ => rw | .loop .. => true | .defd => true | _ => false
def Tok.isRo : Tok → Bool | .cells rw _ _ => !rw | .glob .. => true | _ => false
def Tok.wf (A : Nat → Prop) : Tok → Prop
  | .cells _ _ cs => wfL A cs
  | .glob _ _ cs => wfL A cs
  | .loop _ _ tm _ _ _ df => wfL A tm ∧ A df
  | _ => True
theorem Tok.wf_mono {A B : Nat → Prop} (h : ∀ k, A k → B k) : ∀ (t : Tok), t.wf A → t.wf B
  | .free, _ => trivial
  | .hid, _ => trivial
  | .defd, _ => trivial
  | .cells _ _ cs, hw => wfL_mono h cs hw
  | .glob _ _ cs, hw => wfL_mono h cs hw
  | .loop _ _ _ _ _ _ _, hw => ⟨wfL_mono h _ hw.1, h _ hw.2⟩

def TR (ρ : Env) (sz : Nat) : Tok → Option Obj → Prop
  | .cells _ T cs, o => ∃ vs sp : List Value, o = some (.cells (vs ++ sp).toArray T (0, 0)) ∧ VRs ρ cs vs ∧ (vs ++ sp).length = sz
  | .glob _ _ cs, o => ∃ (vs sp : List Value) (T : TypeId) (fz : Nat × Nat), o = some (.cells (vs ++ sp).toArray T fz) ∧ VRs ρ cs vs
  | .loop st pend tm ps asg body df, o => ∃ fn, ∃ tmps : List Value, o = some (.loop { state := st, pending := pend, fn := fn, tmps := tmps.toArray, params := ps, assign := asg, body := body, defers := (ρ df).1 }) ∧ VRs ρ tm tmps
  | .defd, o => o = some (.deferred (some []))
  | _, _ => True

theorem TR_congr {ρ ρ' : Env} {A : Nat → Prop} (h : ∀ k, A k → ρ' k = ρ k) {sz : Nat} : ∀ (t : Tok) (o : Option Obj), t.wf A → TR ρ sz t o → TR ρ' sz t o
  | .free, _, _, _ => trivial
  | .hid, _, _, _ => trivial
  | .defd, _, _, ht => ht
  | .cells _ _ cs, _, hw, ht => let ⟨vs, sp, e, h1, h2⟩ := ht; ⟨vs, sp, e, VRs_congr h cs vs hw h1, h2⟩
  | .glob _ _ cs, _, hw, ht => let ⟨vs, sp, T, fz, e, h1⟩ := ht; ⟨vs, sp, T, fz, e, VRs_congr h cs vs hw h1⟩
  | .loop _ _ tm _ _ _ df, _, hw, ht => by
    obtain ⟨fn, tmps, e, h1⟩ := ht
    refine ⟨fn, tmps, ?_, VRs_congr h tm tmps hw.1 h1⟩
    rw [h df hw.2]; exact e

/-- The world w holds what the tokens say; what is under guard is as it was in w0. -/
structure Sim (w0 : World) (pr : Nat → Prop) (ρ : Env) (m : Mem) (w : World) : Prop where
  os : w.os = w0.os
  tape : w.tape = w0.tape
  output : w.output = w0.output
  size : w0.heap.size ≤ w.heap.size
  prot : ∀ b, pr b → b < w0.heap.size ∧ w.heap[b]? = w0.heap[b]?
  tok : ∀ k, TR ρ (ρ k).2 (m k) (w.heap[(ρ k).1]?)
  rw : ∀ k, (m k).isRw = true → ¬ pr (ρ k).1
  ro : ∀ k, (m k).isRo = true → pr (ρ k).1
  inj : ∀ j k, (m j).isRw = true → (m k).isRw = true → (ρ j).1 = (ρ k).1 → j = k
  wf : ∀ k, (m k).wf (al m)
  gl : ∀ k g T cs, m k = .glob g T cs → (ρ k).1 = g

theorem TR_lt {ρ : Env} {sz : Nat} {t : Tok} {o : Option Obj} (h : TR ρ sz t o) (hl : t.isRw = true ∨ t.isRo = true) : ∃ x, o = some x := by
  cases t with
  | free => simp [Tok.isRw, Tok.isRo] at hl
  | hid => simp [Tok.isRw, Tok.isRo] at hl
  | cells => obtain ⟨_, _, e, _⟩ := h; exact ⟨_, e⟩
  | loop => obtain ⟨_, _, e, _⟩ := h; exact ⟨_, e⟩
  | defd => exact ⟨_, h⟩
  | glob => obtain ⟨_, _, _, _, e, _⟩ := h; exact ⟨_, e⟩

theorem Sim.lt {w0 : World} {pr : Nat → Prop} {ρ : Env} {m : Mem} {w : World} (h : Sim w0 pr ρ m w) {k : Nat} (hl : (m k).isRw = true ∨ (m k).isRo = true) : (ρ k).1 < w.heap.size := by
  obtain ⟨x, hx⟩ := TR_lt (h.tok k) hl
  rcases Nat.lt_or_ge (ρ k).1 w.heap.size with h1 | h1
  · exact h1
  · rw [Array.getElem?_eq_none h1] at hx; cases hx

def Mem.set (m : Mem) (k : Nat) (t : Tok) : Mem := fun j => if j = k then t else m j
def Mem.sets (m : Mem) : List (Nat × Tok) → Mem
  | [] => m
  | (k, t) :: r => Mem.sets (m.set k t) r
theorem Mem.set_same (m : Mem) (k : Nat) (t : Tok) : m.set k t k = t := by simp [Mem.set]
theorem Mem.set_other (m : Mem) {k j : Nat} (t : Tok) (h : j ≠ k) : m.set k t j = m j := by simp [Mem.set, h]
theorem Mem.sets_other : ∀ (ch : List (Nat × Tok)) (m : Mem) {j : Nat}, (∀ p ∈ ch, p.1 ≠ j) → m.sets ch j = m j
  | [], _, _, _ => rfl
  | (k, t) :: r, m, j, h => by
    rw [Mem.sets, Mem.sets_other r _ (fun p hp => h p (List.mem_cons_of_mem _ hp)), Mem.set_other]
    exact fun e => h (k, t) (by simp) e.symm
theorem Mem.sets_append (m : Mem) : ∀ (a b : List (Nat × Tok)), m.sets (a ++ b) = (m.sets a).sets b := by
  intro a
  induction a generalizing m with
  | nil => intro b; rfl
  | cons x a ih => intro b; exact ih _ b

/-- Every machine is let in; only the make of the frame is told. -/
def okF (F : Fence) : Prop := F.fn = (fun _ => True) ∧ F.depth = none
theorem okF_wide : okF Fence.wide := ⟨rfl, rfl⟩
theorem okF_inRound {F : Fence} (h : okF F) (l : Nat) : okF (F.inRound l) := ⟨h.1, h.2⟩
theorem okF_fn {F : Fence} (h : okF F) (f : FuncId) : F.fn f := by rw [h.1]; trivial

theorem Sim.drew {w0 : World} {pr : Nat → Prop} {ρ : Env} {m : Mem} {w : World} (h : Sim w0 pr ρ m w) (n : Nat) : Sim w0 pr ρ m { w with drawn := n } :=
  ⟨h.os, h.tape, h.output, h.size, h.prot, h.tok, h.rw, h.ro, h.inj, h.wf, h.gl⟩

/-- The smaller memory tells less. -/
def Mem.le (m M : Mem) : Prop := ∀ k, m k = M k ∨ (m k).isFree = true ∨ (m k = .hid ∧ (M k).isFree = false)

/-- THE FRAME RULE, as a law on Sim: out of a world of the smaller memory (with all else under guard) back to the greater one. -/
theorem frame_in {w0 : World} {pr : Nat → Prop} {ρ : Env} {M m : Mem} {w : World} (h : Sim w0 pr ρ M w) (hle : m.le M) (hwf : ∀ k, (m k).wf (al m)) :
    Sim w (fun b => b < w.heap.size ∧ ∀ k, (m k).isRw = true → (ρ k).1 ≠ b) ρ m w := by
  refine ⟨rfl, rfl, rfl, Nat.le_refl _, fun b hb => ⟨hb.1, rfl⟩, fun k => ?_, fun k hk hp => hp.2 k hk rfl, fun k hk => ⟨?_, fun j hj e => ?_⟩, fun j k hj hk e => ?_, hwf, fun k g T cs hk => ?_⟩
  · rcases hle k with e | e | e
    · rw [e]; exact h.tok k
    · cases hm : m k <;> simp [hm, Tok.isFree] at e <;> trivial
    · rw [e.1]; trivial
  · have e : m k = M k := by
      rcases hle k with e | e | e
      · exact e
      · cases hm : m k <;> simp [hm, Tok.isFree, Tok.isRo] at e hk
      · rw [e.1] at hk; simp [Tok.isRo] at hk
    rw [e] at hk; exact h.lt (.inr hk)
  · have e1 : m k = M k := by
      rcases hle k with e | e | e
      · exact e
      · cases hm : m k <;> simp [hm, Tok.isFree, Tok.isRo] at e hk
      · rw [e.1] at hk; simp [Tok.isRo] at hk
    have e2 : m j = M j := by
      rcases hle j with e | e | e
      · exact e
      · cases hm : m j <;> simp [hm, Tok.isFree, Tok.isRw] at e hj
      · rw [e.1] at hj; simp [Tok.isRw] at hj
    rw [e1] at hk; rw [e2] at hj
    have := h.rw j hj; rw [e] at this; exact this (h.ro k hk)
  · have e1 : m k = M k := by
      rcases hle k with e | e | e
      · exact e
      · cases hm : m k <;> simp [hm, Tok.isFree, Tok.isRw] at e hk
      · rw [e.1] at hk; simp [Tok.isRw] at hk
    have e2 : m j = M j := by
      rcases hle j with e | e | e
      · exact e
      · cases hm : m j <;> simp [hm, Tok.isFree, Tok.isRw] at e hj
      · rw [e.1] at hj; simp [Tok.isRw] at hj
    rw [e1] at hk; rw [e2] at hj
    exact h.inj j k hj hk e
  · rcases hle k with e | e | e
    · exact h.gl k g T cs (e ▸ hk)
    · rw [hk] at e; cases e
    · rw [e.1] at hk; cases hk

end Go.Vse
