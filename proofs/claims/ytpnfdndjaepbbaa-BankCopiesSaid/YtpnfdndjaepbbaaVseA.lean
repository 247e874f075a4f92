/- Local values with block tokens, their relation to a real world, semantic triples and the frame rule. Generic over the program. -/
import Derived.RangeFuncLeaves
import Derived.RangeFuncRecord
import Derived.RangeFuncCalls
import Derived.OrdersIn
import Derived.Below
import Derived.Laws.Sem
namespace Go.Vse
open Go

/-- What a proof brings: what its objects are in the abstract; and the name of a want (it is always none). -/
class Abst where
  Ab : Type
  nd : {α : Type} → Nat → Prop → Option α
  nd_none : ∀ {α : Type} (k : Nat) (p : Prop), (nd k p : Option α) = none

/-- A local value. Tokens stand for blocks. -/
inductive LV where
  | i (k : IntKind) (x : Int)
  | s (k : IntKind) (x : Int)
  | b (x : Bool)
  | sb (x : Bool)
  | v (x : Value)
  | p0
  | p (k o : Nat)
  | ps (k o : Nat)
  | n0
  | sl (k o l c z : Nat)
  | ss (k o l c z : Nat)
  | se (k : Nat)
  | so (k l z : Nat)
  | agg (xs : List LV)
  | tup (xs : List LV)
  | fn (f : FuncId) (cs : List LV)
  | yl (k : Nat)
  | f0
  | any
  deriving Inhabited

abbrev Env := Nat → Nat × Nat

mutual
def LV.wf (A : Nat → Prop) : LV → Prop
  | .p k _ => A k
  | .ps k _ => A k
  | .sl k _ _ _ _ => A k
  | .ss k _ _ _ _ => A k
  | .se k => A k
  | .so k _ _ => A k
  | .yl k => A k
  | .agg xs => wfL A xs
  | .tup xs => wfL A xs
  | .fn _ cs => wfL A cs
  | _ => True
def wfL (A : Nat → Prop) : List LV → Prop
  | [] => True
  | x :: xs => x.wf A ∧ wfL A xs
end

/-- A slice's address and capacity. -/
def SlR (ρ : Env) (k o l c z : Nat) (v : Value) : Prop :=
  ∃ o' cap, v = .slice (some ⟨(ρ k).1, o', none⟩) l cap ∧ l ≤ c ∧ c ≤ cap ∧ ((o' = o ∧ o + cap * z ≤ (ρ k).2) ∨ cap = 0)
/-- A slice that has its block alone, if it has one. -/
def SoR (ρ : Env) (k l z : Nat) (v : Value) : Prop :=
  ∃ base cap, v = .slice base l cap ∧ l ≤ cap ∧ (cap = 0 ∨ (base = some ⟨(ρ k).1, 0, none⟩ ∧ cap * z ≤ (ρ k).2))

mutual
def VR (ρ : Env) : LV → Value → Prop
  | .i k x, v => v = .int k x
  | .s k x, v => v = .int k x
  | .b x, v => v = .bool x
  | .sb x, v => v = .bool x
  | .v x, v => v = x ∧ (∀ c, x ≠ .agg c) ∧ (∀ c, x ≠ .tuple c)
  | .p0, v => v = .pointer none
  | .p k o, v => v = .pointer (some ⟨(ρ k).1, o, none⟩)
  | .ps k o, v => v = .pointer (some ⟨(ρ k).1, o, none⟩)
  | .n0, v => v = .slice none 0 0
  | .sl k o l c z, v => SlR ρ k o l c z v
  | .ss k o l c z, v => SlR ρ k o l c z v
  | .se k, v => ∃ o', v = .slice (some ⟨(ρ k).1, o', none⟩) 0 0
  | .so k l z, v => SoR ρ k l z v
  | .agg xs, v => ∃ vs : List Value, v = .agg vs.toArray ∧ VRs ρ xs vs
  | .tup xs, v => ∃ vs : List Value, v = .tuple vs.toArray ∧ VRs ρ xs vs
  | .fn f cs, v => ∃ vs : List Value, v = .func (.func f) #[] vs.toArray ∧ VRs ρ cs vs
  | .yl k, v => v = .func (.yield (ρ k).1) #[] #[]
  | .f0, v => v = .nilFunc
  | .any, _ => True
def VRs (ρ : Env) : List LV → List Value → Prop
  | [], vs => vs = []
  | x :: xs, vs => ∃ v r, vs = v :: r ∧ VR ρ x v ∧ VRs ρ xs r
end

mutual
theorem VR_congr {ρ ρ' : Env} {A : Nat → Prop} (h : ∀ k, A k → ρ' k = ρ k) : ∀ (x : LV) (v : Value), x.wf A → VR ρ x v → VR ρ' x v
  | .i _ _, _, _, hv => by simpa only [VR] using hv
  | .s _ _, _, _, hv => by simpa only [VR] using hv
  | .b _, _, _, hv => by simpa only [VR] using hv
  | .sb _, _, _, hv => by simpa only [VR] using hv
  | .v _, _, _, hv => by simpa only [VR] using hv
  | .p0, _, _, hv => by simpa only [VR] using hv
  | .n0, _, _, hv => by simpa only [VR] using hv
  | .f0, _, _, hv => by simpa only [VR] using hv
  | .any, _, _, _ => by simp only [VR]
  | .p k _, _, hw, hv => by simp only [LV.wf] at hw; simp only [VR, h k hw] at hv ⊢; exact hv
  | .ps k _, _, hw, hv => by simp only [LV.wf] at hw; simp only [VR, h k hw] at hv ⊢; exact hv
  | .yl k, _, hw, hv => by simp only [LV.wf] at hw; simp only [VR, h k hw] at hv ⊢; exact hv
  | .sl k _ _ _ _, _, hw, hv => by simp only [LV.wf] at hw; simp only [VR, SlR, h k hw] at hv ⊢; exact hv
  | .ss k _ _ _ _, _, hw, hv => by simp only [LV.wf] at hw; simp only [VR, SlR, h k hw] at hv ⊢; exact hv
  | .se k, _, hw, hv => by simp only [LV.wf] at hw; simp only [VR, h k hw] at hv ⊢; exact hv
  | .so k _ _, _, hw, hv => by simp only [LV.wf] at hw; simp only [VR, SoR, h k hw] at hv ⊢; exact hv
  | .agg xs, _, hw, hv => by
    simp only [LV.wf] at hw; simp only [VR] at hv ⊢; obtain ⟨vs, e, hvs⟩ := hv; exact ⟨vs, e, VRs_congr h xs vs hw hvs⟩
  | .tup xs, _, hw, hv => by
    simp only [LV.wf] at hw; simp only [VR] at hv ⊢; obtain ⟨vs, e, hvs⟩ := hv; exact ⟨vs, e, VRs_congr h xs vs hw hvs⟩
  | .fn _ xs, _, hw, hv => by
    simp only [LV.wf] at hw; simp only [VR] at hv ⊢; obtain ⟨vs, e, hvs⟩ := hv; exact ⟨vs, e, VRs_congr h xs vs hw hvs⟩
theorem VRs_congr {ρ ρ' : Env} {A : Nat → Prop} (h : ∀ k, A k → ρ' k = ρ k) : ∀ (xs : List LV) (vs : List Value), wfL A xs → VRs ρ xs vs → VRs ρ' xs vs
  | [], _, _, hv => by simpa only [VRs] using hv
  | x :: xs, _, hw, hv => by
    simp only [wfL] at hw; simp only [VRs] at hv ⊢; obtain ⟨v, r, e, h1, h2⟩ := hv
    exact ⟨v, r, e, VR_congr h x v hw.1 h1, VRs_congr h xs r hw.2 h2⟩
end

mutual
theorem LV.wf_mono {A B : Nat → Prop} (h : ∀ k, A k → B k) : ∀ (x : LV), x.wf A → x.wf B
  | .i _ _, _ => by simp [LV.wf]
  | .s _ _, _ => by simp [LV.wf]
  | .b _, _ => by simp [LV.wf]
  | .sb _, _ => by simp [LV.wf]
  | .v _, _ => by simp [LV.wf]
  | .p0, _ => by simp [LV.wf]
  | .n0, _ => by simp [LV.wf]
  | .f0, _ => by simp [LV.wf]
  | .any, _ => by simp [LV.wf]
  | .p k _, hw => by simp only [LV.wf] at *; exact h k hw
  | .ps k _, hw => by simp only [LV.wf] at *; exact h k hw
  | .sl k _ _ _ _, hw => by simp only [LV.wf] at *; exact h k hw
  | .ss k _ _ _ _, hw => by simp only [LV.wf] at *; exact h k hw
  | .yl k, hw => by simp only [LV.wf] at *; exact h k hw
  | .se k, hw => by simp only [LV.wf] at *; exact h k hw
  | .so k _ _, hw => by simp only [LV.wf] at *; exact h k hw
  | .agg xs, hw => by simp only [LV.wf] at *; exact wfL_mono h xs hw
  | .tup xs, hw => by simp only [LV.wf] at *; exact wfL_mono h xs hw
  | .fn _ xs, hw => by simp only [LV.wf] at *; exact wfL_mono h xs hw
theorem wfL_mono {A B : Nat → Prop} (h : ∀ k, A k → B k) : ∀ (xs : List LV), wfL A xs → wfL B xs
  | [], _ => by simp [wfL]
  | x :: xs, hw => by simp only [wfL] at *; exact ⟨LV.wf_mono h x hw.1, wfL_mono h xs hw.2⟩
end

theorem wfL_iff {A : Nat → Prop} {xs : List LV} : wfL A xs ↔ ∀ x ∈ xs, x.wf A := by
  induction xs with
  | nil => simp [wfL]
  | cons x xs ih => simp [wfL, ih]

theorem VRs_length {ρ : Env} : ∀ {xs : List LV} {vs : List Value}, VRs ρ xs vs → vs.length = xs.length
  | [], _, h => by simp only [VRs] at h; simp [h]
  | x :: xs, _, h => by simp only [VRs] at h; obtain ⟨v, r, rfl, _, h2⟩ := h; simp [VRs_length h2]

theorem VRs_get {ρ : Env} : ∀ {xs : List LV} {vs : List Value}, VRs ρ xs vs → ∀ (j : Nat) (x : LV), xs[j]? = some x → ∃ v, vs[j]? = some v ∧ VR ρ x v
  | [], _, _, j, x, hx => by simp at hx
  | y :: xs, _, h, j, x, hx => by
    simp only [VRs] at h; obtain ⟨v, r, rfl, h1, h2⟩ := h
    cases j with
    | zero => simp at hx; subst hx; exact ⟨v, by simp, h1⟩
    | succ j => simp at hx; obtain ⟨u, hu, hr⟩ := VRs_get h2 j x hx; exact ⟨u, by simpa using hu, hr⟩

theorem VRs_of {ρ : Env} : ∀ {xs : List LV} {vs : List Value}, vs.length = xs.length → (∀ (j : Nat) (x : LV) (v : Value), xs[j]? = some x → vs[j]? = some v → VR ρ x v) → VRs ρ xs vs
  | [], vs, hl, _ => by simp only [VRs]; simpa using hl
  | x :: xs, [], hl, _ => by simp at hl
  | x :: xs, v :: vs, hl, h => by
    simp only [VRs]
    exact ⟨v, vs, rfl, h 0 x v (by simp) (by simp), VRs_of (by simpa using hl) (fun j y u hy hu => h (j + 1) y u (by simpa using hy) (by simpa using hu))⟩

theorem VRs_append {ρ : Env} : ∀ {xs ys : List LV} {vs us : List Value}, VRs ρ xs vs → VRs ρ ys us → VRs ρ (xs ++ ys) (vs ++ us)
  | [], ys, vs, us, h, h' => by simp only [VRs] at h; subst h; simpa using h'
  | x :: xs, ys, vs, us, h, h' => by
    simp only [VRs] at h; obtain ⟨v, r, rfl, h1, h2⟩ := h
    simp only [List.cons_append, VRs]
    exact ⟨v, r ++ us, rfl, h1, VRs_append h2 h'⟩

theorem VRs_take {ρ : Env} {xs : List LV} {vs : List Value} (h : VRs ρ xs vs) (n : Nat) : VRs ρ (xs.take n) (vs.take n) := by
  have hl := VRs_length h
  refine VRs_of (by simp [hl]) (fun j x v hx hv => ?_)
  rw [List.getElem?_take] at hx hv
  split at hx
  · rename_i hj
    rw [if_pos hj] at hv
    obtain ⟨u, hu, hr⟩ := VRs_get h j x hx
    rw [hu] at hv; cases hv; exact hr
  · cases hx

theorem VRs_drop {ρ : Env} {xs : List LV} {vs : List Value} (h : VRs ρ xs vs) (n : Nat) : VRs ρ (xs.drop n) (vs.drop n) := by
  have hl := VRs_length h
  refine VRs_of (by simp [hl]) (fun j x v hx hv => ?_)
  rw [List.getElem?_drop] at hx hv
  obtain ⟨u, hu, hr⟩ := VRs_get h _ x hx
  rw [hu] at hv; cases hv; exact hr

/-- A plain cell. -/
inductive Sc where
  | i (k : IntKind) (x : Int)
  | b (x : Bool)
  | v (x : Value)
  deriving Inhabited
/-- Not a value of no known make. -/
def Sc.isP : Sc → Bool
  | .v _ => false
  | _ => true
def plainS (xs : List Sc) : Prop := xs.all Sc.isP = true
def Sc.lv : Sc → LV
  | .i k x => .s k x
  | .b x => .sb x
  | .v _ => .any
def Sc.val : Sc → Value
  | .i k x => .int k x
  | .b x => .bool x
  | .v x => x
theorem Sc.lv_VR {ρ : Env} (x : Sc) : VR ρ x.lv x.val := by cases x <;> simp [Sc.lv, Sc.val, VR]
theorem Sc.lvs_VRs {ρ : Env} : ∀ (xs : List Sc), VRs ρ (xs.map Sc.lv) (xs.map Sc.val)
  | [] => by simp [VRs]
  | x :: xs => by simp only [List.map_cons, VRs]; exact ⟨_, _, rfl, Sc.lv_VR x, Sc.lvs_VRs xs⟩
theorem Sc.lv_wf {A : Nat → Prop} (x : Sc) : x.lv.wf A := by cases x <;> simp [Sc.lv, LV.wf]
theorem Sc.lvs_wf {A : Nat → Prop} (xs : List Sc) : wfL A (xs.map Sc.lv) := wfL_iff.2 (fun x hx => by
  obtain ⟨y, _, rfl⟩ := List.mem_map.1 hx; exact Sc.lv_wf y)

/-- What is known of a token. -/
inductive Tok [Abst] where
  | free
  | hid
  | cells (rw : Bool) (T : TypeId) (cs : List LV)
  | fl (rw : Bool) (T : TypeId) (fs : List Sc)
  | vec (T : TypeId) (fs : List Sc)
  | abs (a : Abst.Ab)
  | loop (st : LoopState) (pend : Option Code) (tm : List LV) (ps : Array Tmp) (asg body : Code) (df : Nat)
  | defd
  | glob (g : Nat) (T : TypeId) (cs : List LV)
  deriving Inhabited

/-- What an object is made of: a small memory of its own, the object at its token 0. -/
class AbstRep extends Abst where
  Rep : Ab → List Tok → Prop

/-- Every machine is let in; only the make of the frame is told. -/
def okF (F : Fence) : Prop := F.fn = (fun _ => True) ∧ F.depth = none
theorem okF_wide : okF Fence.wide := ⟨rfl, rfl⟩
theorem okF_inRound {F : Fence} (h : okF F) (l : Nat) : okF (F.inRound l) := ⟨h.1, h.2⟩
theorem okF_fn {F : Fence} (h : okF F) (f : FuncId) : F.fn f := by rw [h.1]; trivial

abbrev Heap := Nat → Option Obj
variable [AbstRep]
abbrev Mem := Nat → Tok
def memOf (l : List Tok) : Mem := fun k => l.getD k .free

def Tok.isFree : Tok → Bool | .free => true | _ => false
def al (m : Mem) (k : Nat) : Prop := (m k).isFree = false
/-- Written by the call alone, one block. -/
def Tok.isRw : Tok → Bool | .cells rw _ _ => rw | .fl rw _ _ => rw | .loop .. => true | .defd => true | _ => false
def Tok.isRo : Tok → Bool | .cells rw _ _ => !rw | .fl rw _ _ => !rw | .glob .. => true | _ => false
/-- Owned: written by the call alone. -/
def Tok.owns : Tok → Bool | .cells rw _ _ => rw | .fl rw _ _ => rw | .loop .. => true | .defd => true | .vec .. => true | .abs _ => true | _ => false
def Tok.isVec : Tok → Bool | .vec .. => true | _ => false
def Tok.isAbs : Tok → Bool | .abs _ => true | _ => false
/-- The blocks that are owned. -/
def Tok.fo (t : Tok) (f : List Nat) : List Nat := if t.owns then f else []
def Tok.wf (A : Nat → Prop) : Tok → Prop
  | .cells _ _ cs => wfL A cs
  | .glob _ _ cs => wfL A cs
  | .loop _ _ tm _ _ _ df => wfL A tm ∧ A df
  | _ => True
theorem Tok.wf_mono {A B : Nat → Prop} (h : ∀ k, A k → B k) : ∀ (t : Tok), t.wf A → t.wf B
  | .free, _ => trivial
  | .hid, _ => trivial
  | .defd, _ => trivial
  | .fl .., _ => trivial
  | .vec .., _ => trivial
  | .abs _, _ => trivial
  | .cells _ _ cs, hw => wfL_mono h cs hw
  | .glob _ _ cs, hw => wfL_mono h cs hw
  | .loop _ _ _ _ _ _ _, hw => ⟨wfL_mono h _ hw.1, h _ hw.2⟩

theorem isRw_owns {t : Tok} (h : t.isRw = true) : t.owns = true := by cases t <;> simp_all [Tok.isRw, Tok.owns]
theorem isRw_nonfree {t : Tok} (h : t.isRw = true) : t.isFree = false := by cases t <;> simp_all [Tok.isRw, Tok.isFree]
theorem isRo_nonfree {t : Tok} (h : t.isRo = true) : t.isFree = false := by cases t <;> simp_all [Tok.isRo, Tok.isFree]
theorem owns_nonfree {t : Tok} (h : t.owns = true) : t.isFree = false := by cases t <;> simp_all [Tok.owns, Tok.isFree]
theorem owns_nro {t : Tok} (h : t.owns = true) : t.isRo = false := by cases t <;> simp_all [Tok.owns, Tok.isRo]

def TR (ρ : Env) (sz : Nat) : Tok → Option Obj → Prop
  | .cells _ T cs, o => ∃ vs sp : List Value, o = some (.cells (vs ++ sp).toArray T (0, 0)) ∧ VRs ρ cs vs ∧ (vs ++ sp).length = sz
  | .fl rw T fs, o => ∃ (sp : List Value) (T' : TypeId) (fz : Nat × Nat), o = some (.cells (fs.map Sc.val ++ sp).toArray T' fz) ∧ (fs.map Sc.val ++ sp).length = sz ∧ (rw = true → T' = T ∧ fz = (0, 0))
  | .vec T fs, o => ∃ sp : List Value, o = some (.cells (fs.map Sc.val ++ sp).toArray T (0, 0)) ∧ (fs.map Sc.val ++ sp).length = sz
  | .glob _ _ cs, o => ∃ (vs sp : List Value) (T : TypeId) (fz : Nat × Nat), o = some (.cells (vs ++ sp).toArray T fz) ∧ VRs ρ cs vs
  | .loop st pend tm ps asg body df, o => ∃ fn, ∃ tmps : List Value, o = some (.loop { state := st, pending := pend, fn := fn, tmps := tmps.toArray, params := ps, assign := asg, body := body, defers := (ρ df).1 }) ∧ VRs ρ tm tmps
  | .defd, o => o = some (.deferred (some []))
  | _, _ => True

theorem TR_congr {ρ ρ' : Env} {A : Nat → Prop} (h : ∀ k, A k → ρ' k = ρ k) {sz : Nat} : ∀ (t : Tok) (o : Option Obj), t.wf A → TR ρ sz t o → TR ρ' sz t o
  | .free, _, _, _ => trivial
  | .hid, _, _, _ => trivial
  | .abs _, _, _, _ => trivial
  | .defd, _, _, ht => ht
  | .fl .., _, _, ht => ht
  | .vec .., _, _, ht => ht
  | .cells _ _ cs, _, hw, ht => let ⟨vs, sp, e, h1, h2⟩ := ht; ⟨vs, sp, e, VRs_congr h cs vs hw h1, h2⟩
  | .glob _ _ cs, _, hw, ht => let ⟨vs, sp, T, fz, e, h1⟩ := ht; ⟨vs, sp, T, fz, e, VRs_congr h cs vs hw h1⟩
  | .loop _ _ tm _ _ _ df, _, hw, ht => by
    obtain ⟨fn, tmps, e, h1⟩ := ht
    refine ⟨fn, tmps, ?_, VRs_congr h tm tmps hw.1 h1⟩
    rw [h df hw.2]; exact e

/-- A token that is no object, over its blocks. -/
def PlainR (ρ : Env) (e : Nat × Nat) (f : List Nat) (t : Tok) (h : Heap) : Prop :=
  if t.isVec = true then (f = [] ∧ t.isVec = true ∧ (∀ T fs, t = .vec T fs → fs = []) ∧ e.2 = 0) ∨ (f = [e.1] ∧ TR ρ e.2 t (h e.1))
  else (t.isRw = true → f = [e.1]) ∧ TR ρ e.2 t (h e.1)

theorem PlainR_congr {ρ ρ' : Env} {A : Nat → Prop} (h : ∀ k, A k → ρ' k = ρ k) {e : Nat × Nat} {f : List Nat} {t : Tok} {hp : Heap} (hw : t.wf A) (ht : PlainR ρ e f t hp) : PlainR ρ' e f t hp := by
  unfold PlainR at *
  split
  · rename_i hv
    rw [if_pos hv] at ht
    exact ht.imp id (fun x => ⟨x.1, TR_congr h _ _ hw x.2⟩)
  · rename_i hv
    rw [if_neg hv] at ht
    exact ⟨ht.1, TR_congr h _ _ hw ht.2⟩

theorem TR_none {ρ : Env} {sz : Nat} {t : Tok} {o o' : Option Obj} (h : t.isRw = false) (h1 : t.isRo = false) (h2 : t.isVec = false) (ht : TR ρ sz t o) : TR ρ sz t o' := by
  cases t with
  | free => trivial
  | hid => trivial
  | abs => trivial
  | cells rw => cases rw <;> simp [Tok.isRw, Tok.isRo] at h h1
  | fl rw => cases rw <;> simp [Tok.isRw, Tok.isRo] at h h1
  | vec => simp [Tok.isVec] at h2
  | loop => simp [Tok.isRw] at h
  | defd => simp [Tok.isRw] at h
  | glob => simp [Tok.isRo] at h1

theorem PlainR_heap {ρ : Env} {e : Nat × Nat} {f : List Nat} {t : Tok} {h h' : Heap} (ht : PlainR ρ e f t h) (hf : ∀ b ∈ t.fo f, h' b = h b) (hr : t.isRo = true → h' e.1 = h e.1) : PlainR ρ e f t h' := by
  unfold PlainR at *
  split
  · rename_i hv
    rw [if_pos hv] at ht
    rcases ht with x | x
    · exact .inl x
    · refine .inr ⟨x.1, ?_⟩
      rw [hf e.1]
      · exact x.2
      · unfold Tok.fo; rw [if_pos (by cases t <;> simp_all [Tok.isVec, Tok.owns]), x.1]; simp
  · rename_i hv
    rw [if_neg hv] at ht
    refine ⟨ht.1, ?_⟩
    by_cases h1 : t.isRw = true
    · rw [hf e.1]
      · exact ht.2
      · unfold Tok.fo; rw [if_pos (isRw_owns h1), ht.1 h1]; simp
    · by_cases h2 : t.isRo = true
      · rw [hr h2]; exact ht.2
      · exact TR_none (by simpa using h1) (by simpa using h2) (by simpa using hv) ht.2

/-- An object, over its blocks: some small memory that it may be made of lies there. -/
inductive Holds : Abst.Ab → (Nat × Nat) → List Nat → Heap → Prop
  | mk (a : Abst.Ab) (e : Nat × Nat) (f : List Nat) (h : Heap) (ms : List Tok) (ρ : Env) (φ : Nat → List Nat)
      (rep : AbstRep.Rep a ms) (pos : 0 < ms.length) (root : ρ 0 = e) (hroot : e.1 ∈ f)
      (plain : ∀ k t, ms[k]? = some t → t.isAbs = false → PlainR ρ (ρ k) (φ k) t h)
      (absr : ∀ k a', ms[k]? = some (.abs a') → (ρ k).1 ∈ φ k)
      (absh : ∀ k a', ms[k]? = some (.abs a') → Holds a' (ρ k) (φ k) h)
      (own : ∀ t ∈ ms, t.owns = true)
      (wf : ∀ t ∈ ms, t.wf (fun k => k < ms.length))
      (fi : ∀ j k b, j < ms.length → k < ms.length → b ∈ φ j → b ∈ φ k → j = k)
      (cov : ∀ b, b ∈ f ↔ ∃ k, k < ms.length ∧ b ∈ φ k) : Holds a e f h

theorem Holds_heap {a : Abst.Ab} {e : Nat × Nat} {f : List Nat} {h : Heap} (hh : Holds a e f h) : ∀ {h' : Heap}, (∀ b ∈ f, h' b = h b) → Holds a e f h' := by
  induction hh with
  | mk a e f h ms ρ φ rep pos root hroot plain absr absh own wf fi cov ih =>
    intro h' hag
    have hsub : ∀ k, k < ms.length → ∀ b ∈ φ k, h' b = h b := fun k hk b hb => hag b ((cov b).2 ⟨k, hk, hb⟩)
    refine .mk a e f h' ms ρ φ rep pos root hroot (fun k t hk ha => ?_) absr (fun k a' hk => ?_) own wf fi cov
    · have hlt : k < ms.length := (List.getElem?_eq_some_iff.1 hk).1
      refine PlainR_heap (plain k t hk ha) (fun b hb => hsub k hlt b ?_) (fun hro => ?_)
      · unfold Tok.fo at hb; split at hb
        · exact hb
        · cases hb
      · have := owns_nro (own t (List.mem_of_getElem? hk)); rw [hro] at this; cases this
    · have hlt : k < ms.length := (List.getElem?_eq_some_iff.1 hk).1
      exact ih k a' hk (fun b hb => hsub k hlt b hb)

/-- A token, over its blocks. -/
def TokR (ρ : Env) (e : Nat × Nat) (f : List Nat) (t : Tok) (h : Heap) : Prop :=
  match t with
  | .abs a => e.1 ∈ f ∧ Holds a e f h
  | t => PlainR ρ e f t h

theorem TokR_plain {ρ : Env} {e : Nat × Nat} {f : List Nat} {t : Tok} {h : Heap} (ht : t.isAbs = false) : TokR ρ e f t h ↔ PlainR ρ e f t h := by
  cases t <;> first | exact Iff.rfl | simp [Tok.isAbs] at ht

theorem TokR_congr {ρ ρ' : Env} {A : Nat → Prop} (h : ∀ k, A k → ρ' k = ρ k) {e : Nat × Nat} {f : List Nat} {t : Tok} {hp : Heap} (hw : t.wf A) (ht : TokR ρ e f t hp) : TokR ρ' e f t hp := by
  by_cases ha : t.isAbs = true
  · cases t <;> first | exact ht | simp [Tok.isAbs] at ha
  · rw [TokR_plain (by simpa using ha)] at *
    exact PlainR_congr h hw ht

theorem TokR_heap {ρ : Env} {e : Nat × Nat} {f : List Nat} {t : Tok} {h h' : Heap} (ht : TokR ρ e f t h) (hf : ∀ b ∈ t.fo f, h' b = h b) (hr : t.isRo = true → h' e.1 = h e.1) : TokR ρ e f t h' := by
  by_cases ha : t.isAbs = true
  · cases t <;> first | simp [Tok.isAbs] at ha | skip
    exact ⟨ht.1, Holds_heap ht.2 (fun b hb => hf b (by simpa [Tok.fo, Tok.owns] using hb))⟩
  · rw [TokR_plain (by simpa using ha)] at *
    exact PlainR_heap ht hf hr

/-- A plain token's block is its own alone. -/
theorem TokR_rw {ρ : Env} {e : Nat × Nat} {f : List Nat} {t : Tok} {h : Heap} (ht : TokR ρ e f t h) (hr : t.isRw = true) : f = [e.1] ∧ TR ρ e.2 t (h e.1) := by
  cases t with
  | cells rw => exact ⟨ht.1 hr, ht.2⟩
  | fl rw => exact ⟨ht.1 hr, ht.2⟩
  | loop => exact ⟨ht.1 rfl, ht.2⟩
  | defd => exact ⟨ht.1 rfl, ht.2⟩
  | _ => simp [Tok.isRw] at hr
theorem TokR_of {ρ : Env} {e : Nat × Nat} {f : List Nat} {t : Tok} {h : Heap} (hv : t.isVec = false) (ha : t.isAbs = false) (hf : t.isRw = true → f = [e.1]) (ht : TR ρ e.2 t (h e.1)) : TokR ρ e f t h := by
  rw [TokR_plain ha]; unfold PlainR; rw [if_neg (by simp [hv])]; exact ⟨hf, ht⟩
theorem TokR_tr {ρ : Env} {e : Nat × Nat} {f : List Nat} {t : Tok} {h : Heap} (hv : t.isVec = false) (ht : TokR ρ e f t h) : TR ρ e.2 t (h e.1) := by
  by_cases ha : t.isAbs = true
  · cases t <;> first | exact trivial | simp [Tok.isAbs] at ha
  · rw [TokR_plain (by simpa using ha)] at ht; unfold PlainR at ht; rw [if_neg (by simp [hv])] at ht; exact ht.2
theorem rw_nvec {t : Tok} (h : t.isRw = true) : t.isVec = false ∧ t.isAbs = false := by cases t <;> simp_all [Tok.isRw, Tok.isVec, Tok.isAbs]
theorem ro_nvec {t : Tok} (h : t.isRo = true) : t.isVec = false ∧ t.isAbs = false := by cases t <;> simp_all [Tok.isRo, Tok.isVec, Tok.isAbs]

/-- The world w holds what the tokens say, each over its blocks; what is under guard is as it was in w0. -/
structure SimF (w0 : World) (pr : Nat → Prop) (ρ : Env) (φ : Nat → List Nat) (m : Mem) (w : World) : Prop where
  os : w.os = w0.os
  tape : w.tape = w0.tape
  output : w.output = w0.output
  size : w0.heap.size ≤ w.heap.size
  prot : ∀ b, pr b → b < w0.heap.size ∧ w.heap[b]? = w0.heap[b]?
  tok : ∀ k, TokR ρ (ρ k) (φ k) (m k) (fun b => w.heap[b]?)
  fw : ∀ k b, b ∈ (m k).fo (φ k) → ¬ pr b ∧ b < w.heap.size
  fi : ∀ j k b, b ∈ (m j).fo (φ j) → b ∈ (m k).fo (φ k) → j = k
  ro : ∀ k, (m k).isRo = true → pr (ρ k).1
  wf : ∀ k, (m k).wf (al m)
  gl : ∀ k g T cs, m k = .glob g T cs → (ρ k).1 = g

def Sim (w0 : World) (pr : Nat → Prop) (ρ : Env) (m : Mem) (w : World) : Prop := ∃ φ, SimF w0 pr ρ φ m w

theorem TR_lt {ρ : Env} {sz : Nat} {t : Tok} {o : Option Obj} (h : TR ρ sz t o) (hl : t.isRw = true ∨ t.isRo = true) : ∃ x, o = some x := by
  cases t with
  | free => simp [Tok.isRw, Tok.isRo] at hl
  | hid => simp [Tok.isRw, Tok.isRo] at hl
  | cells => obtain ⟨_, _, e, _⟩ := h; exact ⟨_, e⟩
  | fl => obtain ⟨_, _, _, e, _⟩ := h; exact ⟨_, e⟩
  | vec => obtain ⟨_, e, _⟩ := h; exact ⟨_, e⟩
  | abs => simp [Tok.isRw, Tok.isRo] at hl
  | loop => obtain ⟨_, _, e, _⟩ := h; exact ⟨_, e⟩
  | defd => exact ⟨_, h⟩
  | glob => obtain ⟨_, _, _, _, e, _⟩ := h; exact ⟨_, e⟩

section
variable {w0 : World} {pr : Nat → Prop} {ρ : Env} {φ : Nat → List Nat} {m : Mem} {w : World}
theorem SimF.tr (h : SimF w0 pr ρ φ m w) {k : Nat} (hv : (m k).isVec = false) : TR ρ (ρ k).2 (m k) (w.heap[(ρ k).1]?) := TokR_tr hv (h.tok k)
theorem SimF.lt (h : SimF w0 pr ρ φ m w) {k : Nat} (hl : (m k).isRw = true ∨ (m k).isRo = true) : (ρ k).1 < w.heap.size := by
  have hv : (m k).isVec = false := hl.elim (fun x => (rw_nvec x).1) (fun x => (ro_nvec x).1)
  obtain ⟨x, hx⟩ := TR_lt (h.tr hv) hl
  exact (Array.getElem?_eq_some_iff.1 hx).1
theorem SimF.frw (h : SimF w0 pr ρ φ m w) {k : Nat} (hl : (m k).isRw = true) : (m k).fo (φ k) = [(ρ k).1] := by
  unfold Tok.fo; rw [if_pos (isRw_owns hl)]; exact (TokR_rw (h.tok k) hl).1
theorem SimF.rw (h : SimF w0 pr ρ φ m w) {k : Nat} (hl : (m k).isRw = true) : ¬ pr (ρ k).1 := (h.fw k _ (by rw [h.frw hl]; simp)).1
theorem SimF.inj (h : SimF w0 pr ρ φ m w) {j k : Nat} (hj : (m j).isRw = true) (hk : (m k).isRw = true) (e : (ρ j).1 = (ρ k).1) : j = k :=
  h.fi j k (ρ j).1 (by rw [h.frw hj]; simp) (by rw [h.frw hk, e]; simp)

theorem Sim.os (h : Sim w0 pr ρ m w) : w.os = w0.os := h.elim fun _ h => h.os
theorem Sim.tape (h : Sim w0 pr ρ m w) : w.tape = w0.tape := h.elim fun _ h => h.tape
theorem Sim.output (h : Sim w0 pr ρ m w) : w.output = w0.output := h.elim fun _ h => h.output
theorem Sim.size (h : Sim w0 pr ρ m w) : w0.heap.size ≤ w.heap.size := h.elim fun _ h => h.size
theorem Sim.prot (h : Sim w0 pr ρ m w) : ∀ b, pr b → b < w0.heap.size ∧ w.heap[b]? = w0.heap[b]? := h.elim fun _ h => h.prot
theorem Sim.tok (h : Sim w0 pr ρ m w) {k : Nat} (hv : (m k).isVec = false) : TR ρ (ρ k).2 (m k) (w.heap[(ρ k).1]?) := h.elim fun _ h => h.tr hv
theorem Sim.rw (h : Sim w0 pr ρ m w) (k : Nat) (hl : (m k).isRw = true) : ¬ pr (ρ k).1 := h.elim fun _ h => h.rw hl
theorem Sim.ro (h : Sim w0 pr ρ m w) : ∀ k, (m k).isRo = true → pr (ρ k).1 := h.elim fun _ h => h.ro
theorem Sim.inj (h : Sim w0 pr ρ m w) (j k : Nat) (hj : (m j).isRw = true) (hk : (m k).isRw = true) (e : (ρ j).1 = (ρ k).1) : j = k := h.elim fun _ h => h.inj hj hk e
theorem Sim.wf (h : Sim w0 pr ρ m w) : ∀ k, (m k).wf (al m) := h.elim fun _ h => h.wf
theorem Sim.gl (h : Sim w0 pr ρ m w) : ∀ k g T cs, m k = .glob g T cs → (ρ k).1 = g := h.elim fun _ h => h.gl
theorem Sim.lt (h : Sim w0 pr ρ m w) {k : Nat} (hl : (m k).isRw = true ∨ (m k).isRo = true) : (ρ k).1 < w.heap.size := h.elim fun _ h => h.lt hl
end

def Mem.set (m : Mem) (k : Nat) (t : Tok) : Mem := fun j => if j = k then t else m j
def Mem.sets (m : Mem) : List (Nat × Tok) → Mem
  | [] => m
  | (k, t) :: r => Mem.sets (m.set k t) r
theorem Mem.set_same (m : Mem) (k : Nat) (t : Tok) : m.set k t k = t := by simp [Mem.set]
theorem Mem.set_other (m : Mem) {k j : Nat} (t : Tok) (h : j ≠ k) : m.set k t j = m j := by simp [Mem.set, h]
theorem Mem.sets_other : ∀ (ch : List (Nat × Tok)) (m : Mem) {j : Nat}, (∀ p ∈ ch, p.1 ≠ j) → m.sets ch j = m j
  | [], _, _, _ => rfl
  | (k, t) :: r, m, j, h => by
    rw [Mem.sets, Mem.sets_other r _ (fun p hp => h p (List.mem_cons_of_mem _ hp)), Mem.set_other]
    exact fun e => h (k, t) (by simp) e.symm
section
variable {w0 : World} {pr : Nat → Prop} {ρ : Env} {m : Mem} {w : World}
theorem Sim.drew (h : Sim w0 pr ρ m w) (n : Nat) : Sim w0 pr ρ m { w with drawn := n } := by
  obtain ⟨φ, h⟩ := h
  exact ⟨φ, h.os, h.tape, h.output, h.size, h.prot, h.tok, h.fw, h.fi, h.ro, h.wf, h.gl⟩

theorem SimF.nfo {φ : Nat → List Nat} (h : SimF w0 pr ρ φ m w) {k b : Nat} (hb : b ∈ (m k).fo (φ k)) : ∀ j, (m j).isRo = true → (ρ j).1 ≠ b :=
  fun j hj e => (h.fw k b hb).1 (e ▸ h.ro j hj)
end

/-- The smaller memory tells less. -/
def Mem.le (m M : Mem) : Prop := ∀ k, m k = M k ∨ (m k).isFree = true ∨ (m k = .hid ∧ (M k).isFree = false)

theorem fo_sub {t : Tok} {f : List Nat} {b : Nat} (h : b ∈ t.fo f) : b ∈ f ∧ t.owns = true := by
  unfold Tok.fo at h; split at h
  · exact ⟨h, by assumption⟩
  · cases h
theorem fo_own {t : Tok} {f : List Nat} (h : t.owns = true) : t.fo f = f := by unfold Tok.fo; rw [if_pos h]
theorem fo_not {t : Tok} {f : List Nat} (h : t.owns = false) : t.fo f = [] := by unfold Tok.fo; rw [if_neg (by simp [h])]

/-- What is no block's and no place's holds over any heap. -/
theorem TokR_idle {ρ : Env} {e : Nat × Nat} {f : List Nat} {t : Tok} {h : Heap} (h1 : t.owns = false) (h2 : t.isRo = false) : TokR ρ e f t h := by
  cases t with
  | free => exact TokR_of rfl rfl (fun h => by cases h) trivial
  | hid => exact TokR_of rfl rfl (fun h => by cases h) trivial
  | cells rw => cases rw <;> simp [Tok.owns, Tok.isRo] at h1 h2
  | fl rw => cases rw <;> simp [Tok.owns, Tok.isRo] at h1 h2
  | vec => simp [Tok.owns] at h1
  | abs => simp [Tok.owns] at h1
  | loop => simp [Tok.owns] at h1
  | defd => simp [Tok.owns] at h1
  | glob => simp [Tok.isRo] at h2

/-- The guard of a smaller memory: all that it does not own. -/
def guardOf (w : World) (φ : Nat → List Nat) (m : Mem) : Nat → Prop := fun b => b < w.heap.size ∧ ∀ k, b ∉ (m k).fo (φ k)

theorem le_own {m M : Mem} (hle : m.le M) {k : Nat} (h : (m k).owns = true) : m k = M k := by
  rcases hle k with e | e | e
  · exact e
  · rw [owns_nonfree h] at e; cases e
  · rw [e.1] at h; simp [Tok.owns] at h
theorem le_ro {m M : Mem} (hle : m.le M) {k : Nat} (h : (m k).isRo = true) : m k = M k := by
  rcases hle k with e | e | e
  · exact e
  · rw [isRo_nonfree h] at e; cases e
  · rw [e.1] at h; simp [Tok.isRo] at h
theorem le_al {m M : Mem} (hle : m.le M) {k : Nat} (h : al m k) : al M k := by
  rcases hle k with e | e | e
  · unfold al at *; rw [← e]; exact h
  · unfold al at h; rw [h] at e; cases e
  · exact e.2

/-- THE FRAME RULE, as a law on Sim: out of a world of the smaller memory (with all else under guard) back to the greater one. -/
theorem frame_in {w0 : World} {pr : Nat → Prop} {ρ : Env} {φ : Nat → List Nat} {M m : Mem} {w : World} (h : SimF w0 pr ρ φ M w) (hle : m.le M) (hwf : ∀ k, (m k).wf (al m)) : Sim w (guardOf w φ m) ρ m w := by
  refine ⟨φ, rfl, rfl, rfl, Nat.le_refl _, fun b hb => ⟨hb.1, rfl⟩, fun k => ?_, fun k b hb => ⟨fun hp => hp.2 k hb, ?_⟩, fun j k b hj hk => ?_, fun k hk => ⟨?_, fun j hj => ?_⟩, hwf, fun k g T cs hk => ?_⟩
  · by_cases ho : (m k).owns = true
    · rw [le_own hle ho]; exact h.tok k
    · by_cases hr : (m k).isRo = true
      · rw [le_ro hle hr]; exact h.tok k
      · exact TokR_idle (by simpa using ho) (by simpa using hr)
  · rw [le_own hle (fo_sub hb).2] at hb; exact (h.fw k b hb).2
  · rw [le_own hle (fo_sub hj).2] at hj; rw [le_own hle (fo_sub hk).2] at hk; exact h.fi j k b hj hk
  · rw [le_ro hle hk] at hk; exact h.lt (.inr hk)
  · rw [le_own hle (fo_sub hj).2] at hj; rw [le_ro hle hk] at hk; exact h.nfo hj k hk rfl
  · have : (m k).isRo = true := by rw [hk]; rfl
    rw [le_ro hle this] at hk; exact h.gl k g T cs hk

end Go.Vse
