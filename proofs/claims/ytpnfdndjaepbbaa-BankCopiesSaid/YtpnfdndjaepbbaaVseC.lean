/- A region whose order is drawn: whatever order the tape picks, the text's order serves, where what is not ordered is independent. -/
import Derived.Test.YtpnfdndjaepbbaaVseB
namespace Go.Vse
open Go

def putL (fr : Tmp → LV) (d : Option Tmp) (v : LV) : Tmp → LV :=
  match d with
  | some t => fun u => if u = t then v else fr u
  | none => fr

def foldF (d : Nat → Option Tmp) (v : Nat → LV) (S : Nat → Bool) : Nat → (Tmp → LV) → (Tmp → LV)
  | 0, fr => fr
  | n + 1, fr => if S n then putL (foldF d v S n fr) (d n) (v n) else foldF d v S n fr
section
variable [AbstRep]
def foldM (c : Nat → List (Nat × Tok)) (S : Nat → Bool) : Nat → Mem → Mem
  | 0, m => m
  | n + 1, m => if S n then (foldM c S n m).sets (c n) else foldM c S n m
end

theorem putL_other {fr : Tmp → LV} {d : Option Tmp} {v : LV} {t : Tmp} (h : d ≠ some t) : putL fr d v t = fr t := by
  cases d with
  | none => rfl
  | some u => simp only [putL]; rw [if_neg]; exact fun e => h (by rw [e])
theorem putL_same {fr : Tmp → LV} {v : LV} {t : Tmp} : putL fr (some t) v t = v := by simp [putL]

theorem foldF_at {d : Nat → Option Tmp} {v : Nat → LV} {S S' : Nat → Bool} {t : Tmp} {fr : Tmp → LV} : ∀ n, (∀ j, j < n → d j = some t → S j = S' j) → foldF d v S n fr t = foldF d v S' n fr t
  | 0, _ => rfl
  | n + 1, h => by
    have ih := foldF_at (v := v) (S := S) (S' := S') (fr := fr) n (fun j hj => h j (by omega))
    simp only [foldF]
    by_cases hd : d n = some t
    · rw [h n (by omega) hd]
      split
      · rw [hd, putL_same, putL_same]
      · exact ih
    · have e1 : (if S n = true then putL (foldF d v S n fr) (d n) (v n) else foldF d v S n fr) t = foldF d v S n fr t := by
        split
        · exact putL_other hd
        · rfl
      have e2 : (if S' n = true then putL (foldF d v S' n fr) (d n) (v n) else foldF d v S' n fr) t = foldF d v S' n fr t := by
        split
        · exact putL_other hd
        · rfl
      rw [e1, e2, ih]

section
variable [AbstRep]
theorem foldM_at {c : Nat → List (Nat × Tok)} {S S' : Nat → Bool} {k : Nat} {m : Mem} : ∀ n, (∀ j, j < n → (∃ p ∈ c j, p.1 = k) → S j = S' j) → foldM c S n m k = foldM c S' n m k
  | 0, _ => rfl
  | n + 1, h => by
    have ih := foldM_at (S := S) (S' := S') (m := m) n (fun j hj => h j (by omega))
    simp only [foldM]
    by_cases hd : ∃ p ∈ c n, p.1 = k
    · rw [h n (by omega) hd]
      split
      · exact sets_keys _ _ _ _ hd
      · exact ih
    · have ho : ∀ (m : Mem), m.sets (c n) k = m k := fun m => Mem.sets_other _ _ (fun p hp e => hd ⟨p, hp, e⟩)
      have e1 : (if S n = true then (foldM c S n m).sets (c n) else foldM c S n m) k = foldM c S n m k := by
        split
        · exact ho _
        · rfl
      have e2 : (if S' n = true then (foldM c S' n m).sets (c n) else foldM c S' n m) k = foldM c S' n m k := by
        split
        · exact ho _
        · rfl
      rw [e1, e2, ih]
end

theorem foldF_ins {d : Nat → Option Tmp} {v : Nat → LV} {fr : Tmp → LV} {S S' : Nat → Bool} {i N : Nat} (hS : ∀ j, S' j = (S j || decide (j = i))) (hni : S i = false)
    (hdis : ∀ j, i < j → S j = true → j < N → ∀ t, d i = some t → d j ≠ some t) : ∀ n, i < n → n ≤ N → foldF d v S' n fr = putL (foldF d v S n fr) (d i) (v i) := by
  intro n hn hN
  induction n with
  | zero => omega
  | succ n ihn =>
    by_cases hi : n = i
    · subst hi
      have hb : foldF d v S' n fr = foldF d v S n fr := by
        funext u
        refine foldF_at _ (fun j hj _ => ?_)
        rw [hS]; simp; omega
      have h1 : S' n = true := by rw [hS]; simp
      rw [foldF, foldF, if_pos h1, if_neg (by rw [hni]; simp), hb]
    · have hin : i < n := by omega
      have ih := ihn hin (by omega)
      have hSn : S' n = S n := by rw [hS]; simp [hi]
      rw [foldF, foldF, hSn]
      by_cases hj : S n = true
      · rw [if_pos hj, if_pos hj, ih]
        funext t
        by_cases hdn : d n = some t
        · have : d i ≠ some t := fun h => hdis n hin hj (by omega) t h hdn
          rw [hdn, putL_same, putL_other this, putL_same]
        · rw [putL_other hdn]
          by_cases hod : d i = some t
          · rw [hod, putL_same, putL_same]
          · rw [putL_other hod, putL_other hod, putL_other hdn]
      · rw [if_neg hj, if_neg hj, ih]

section
variable [AbstRep]
theorem foldM_ins {c : Nat → List (Nat × Tok)} {m : Mem} {S S' : Nat → Bool} {i N : Nat} (hS : ∀ j, S' j = (S j || decide (j = i))) (hni : S i = false)
    (hdis : ∀ j, i < j → S j = true → j < N → ∀ p ∈ c i, ∀ q ∈ c j, p.1 ≠ q.1) : ∀ n, i < n → n ≤ N → foldM c S' n m = (foldM c S n m).sets (c i) := by
  intro n hn hN
  induction n with
  | zero => omega
  | succ n ihn =>
    by_cases hi : n = i
    · subst hi
      have hb : foldM c S' n m = foldM c S n m := by
        funext u
        refine foldM_at _ (fun j hj _ => ?_)
        rw [hS]; simp; omega
      have h1 : S' n = true := by rw [hS]; simp
      rw [foldM, foldM, if_pos h1, if_neg (by rw [hni]; simp), hb]
    · have hin : i < n := by omega
      have ih := ihn hin (by omega)
      have hSn : S' n = S n := by rw [hS]; simp [hi]
      rw [foldM, foldM, hSn]
      by_cases hj : S n = true
      · rw [if_pos hj, if_pos hj, ih]
        funext k
        by_cases hki : ∃ p ∈ c i, p.1 = k
        · obtain ⟨p, hp, hpk⟩ := hki
          have hno : ∀ q ∈ c n, q.1 ≠ k := fun q hq hqk => hdis n hin hj (by omega) p hp q hq (hpk.trans hqk.symm)
          rw [Mem.sets_other _ _ hno]
          exact sets_keys _ _ _ _ ⟨p, hp, hpk⟩
        · have hno : ∀ (m : Mem), m.sets (c i) k = m k := fun m => Mem.sets_other _ _ (fun p hp h => hki ⟨p, hp, h⟩)
          rw [hno]
          by_cases hkn : ∃ q ∈ c n, q.1 = k
          · exact sets_keys _ _ _ _ hkn
          · have hnn : ∀ (m : Mem), m.sets (c n) k = m k := fun m => Mem.sets_other _ _ (fun p hp h => hkn ⟨p, hp, h⟩)
            rw [hnn, hnn, hno]
      · rw [if_neg hj, if_neg hj, ih]
end

/-- The slot that a guard asks. -/
def guardSlot (ops : Array Oper) (o : Oper) : List Tmp :=
  match o.guard with
  | some (g, _) => ((ops[g]?).bind (·.dst)).toList
  | none => []

section
variable [AbstRep]
/-- What is told of one operation of a region. -/
structure Ent where
  run : Bool
  v : LV
  c : List (Nat × Tok)
  r : List Nat

/-- Two operations that nothing orders do not meet. -/
def Indep (ops : Array Oper) (oi oj : Oper) (ei ej : Ent) : Prop :=
  (∀ t, oi.dst = some t → oj.dst ≠ some t ∧ t ∉ looks oj ∧ t ∉ guardSlot ops oj) ∧
  (∀ t, oj.dst = some t → t ∉ looks oi ∧ t ∉ guardSlot ops oi) ∧
  (∀ p ∈ ei.c, (∀ q ∈ ej.c, p.1 ≠ q.1) ∧ p.1 ∉ ej.r) ∧ (∀ q ∈ ej.c, q.1 ∉ ei.r)
end

def yieldS (x : LV) : Option (Option Bool) :=
  match x with
  | .b x => some (some x)
  | .sb x => some (some x)
  | .tup [] => some none
  | _ => none
def yieldOf (x : LV) : Option (Option Bool) :=
  match x with
  | .b x => some (some x)
  | .tup [] => some none
  | _ => none

theorem yieldOf_S {x : LV} {y : Option Bool} (h : yieldOf x = some y) : yieldS x = some y := by
  unfold yieldOf at h
  split at h <;> cases h <;> rfl

/-- Whether the guard lets the operation run, by the local frame. -/
def guardSays (ops : Array Oper) (o : Oper) (fr : Tmp → LV) (run : Bool) : Prop :=
  match o.guard with
  | none => run = true
  | some (g, want) => ∃ t, (ops[g]?).bind (·.dst) = some t ∧ ∃ y, yieldS (fr t) = some y ∧ run = (y == some want)

theorem wanted_says {ops : Array Oper} {o : Oper} {fr : Tmp → LV} {run : Bool} (h : guardSays ops o fr run) {ρ : Env} {a : Act} (hl : ∀ t ∈ guardSlot ops o, VR ρ (fr t) (a.tmps.getD t undef))
    (hsz : ∀ t ∈ guardSlot ops o, t < a.tmps.size) : Region.wanted o (yielded ops a.tmps) = run := by
  unfold guardSays at h
  unfold guardSlot at hl hsz
  cases hg : o.guard with
  | none => rw [hg] at h; simp [Region.wanted, hg, h]
  | some gw =>
    obtain ⟨g, want⟩ := gw
    rw [hg] at h hl hsz
    obtain ⟨t, ht, y, hy, hr⟩ := h
    simp only [ht, Option.toList_some, List.mem_singleton, forall_eq] at hl hsz
    have hget : a.tmps[t]? = some (a.tmps.getD t undef) := by simp [Array.getD, hsz]
    have : yielded ops a.tmps g = y := by
      unfold yielded
      rw [ht]
      simp only [Option.bind_some, hget]
      cases hf : fr t <;> rw [hf] at hy <;> simp [yieldS] at hy
      · rw [hf] at hl; simp only [VR] at hl; rw [hl, ← hy]
      · rw [hf] at hl; simp only [VR] at hl; rw [hl, ← hy]
      · rename_i xs
        cases xs with
        | nil =>
          rw [hf] at hl; simp only [VR] at hl
          obtain ⟨vs, e, hvs⟩ := hl
          simp at hy
          rw [e, ← hy]
        | cons => simp at hy
    simp only [Region.wanted, hg, this, hr]

section
variable [AbstRep]
/-- The state when the operations of S have been carried out. -/
def StS (ops : Array Oper) (e : Nat → Ent) (fr0 : Tmp → LV) (m0 : Mem) (S : Nat → Bool) (n : Nat) : (Tmp → LV) × Mem :=
  (foldF (fun j => (ops[j]?).bind (·.dst)) (fun j => (e j).v) S n fr0, foldM (fun j => (e j).c) S n m0)

/-- The whole frame: sizes, the slots below N. -/
def FrR (ρ : Env) (m : Mem) (N : Nat) (fr : Tmp → LV) (a : Act) : Prop :=
  a.tmps.size = N ∧ ∀ t, t < N → VR ρ (fr t) (a.tmps.getD t undef) ∧ (fr t).wf (al m)

theorem FrR.look {ρ : Env} {m : Mem} {N : Nat} {fr : Tmp → LV} {a : Act} (h : FrR ρ m N fr a) {ts : List Tmp} (ht : ∀ t ∈ ts, t < N) : LookR ρ (al m) ts fr a :=
  fun t hm => h.2 t (ht t hm)

theorem FrR.put {ρ ρ' : Env} {m m' : Mem} {N : Nat} {fr : Tmp → LV} {a : Act} (h : FrR ρ m N fr a) (hag : ∀ k, al m k → ρ' k = ρ k) (hal : ∀ k, al m k → al m' k) {d : Option Tmp} (hd : ∀ t, d = some t → t < N)
    {x : LV} {v : Value} (hv : VR ρ' x v) (hw : x.wf (al m')) : FrR ρ' m' N (putL fr d x) (a.put d v) := by
  cases d with
  | none =>
    exact ⟨h.1, fun t ht => ⟨VR_congr hag _ _ (h.2 t ht).2 (h.2 t ht).1, LV.wf_mono hal _ (h.2 t ht).2⟩⟩
  | some u =>
    have hu := hd u rfl
    refine ⟨by simp [Act.put, h.1], fun t ht => ?_⟩
    by_cases e : t = u
    · subst e
      rw [putL_same]
      refine ⟨?_, hw⟩
      have : (a.put (some t) v).tmps.getD t undef = v := by simp [Act.put, h.1, ht]
      rw [this]; exact hv
    · rw [putL_other (by simpa using fun e' => e e'.symm)]
      have : (a.put (some u) v).tmps.getD t undef = a.tmps.getD t undef := by
        simp only [Act.put, Array.getD_eq_getD_getElem?, Array.getElem?_setIfInBounds_ne (Ne.symm e)]
      rw [this]
      exact ⟨VR_congr hag _ _ (h.2 t ht).2 (h.2 t ht).1, LV.wf_mono hal _ (h.2 t ht).2⟩


/-- THE ORDER DOES NOT COUNT: what the operations' own triples need lies in their footprints; what nothing orders does not meet. -/
theorem any_order {P : Program} {ops : Array Oper} {e : Nat → Ent} {bf : Nat → Nat → Bool} {fr0 : Tmp → LV} {m0 : Mem} {N : Nat}
    (hedge : ∀ (i : Nat) (o : Oper), ops[i]? = some o → ∀ ed ∈ o.after, Region.binds .any ed = true → ed.on < i)
    (hbf : ∀ (i : Nat) (o : Oper), ops[i]? = some o → ∀ j, bf i j = true → ∃ ed ∈ o.after, Region.binds .any ed = true ∧ (j = ed.on ∨ bf ed.on j = true))
    (hind : ∀ (i j : Nat) (oi oj : Oper), i < j → ops[i]? = some oi → ops[j]? = some oj → bf j i = false → Indep ops oi oj (e i) (e j))
    (hdst : ∀ (i : Nat) (o : Oper) (t : Tmp), ops[i]? = some o → (o.dst = some t ∨ t ∈ looks o ∨ t ∈ guardSlot ops o) → t < N)
    (hguard : ∀ (i : Nat) (o : Oper), ops[i]? = some o → guardSays ops o (StS ops e fr0 m0 (fun _ => true) i).1 (e i).run)
    (hskip : ∀ (i : Nat) (o : Oper), ops[i]? = some o → (e i).run = false → (e i).v = .tup [] ∧ (e i).c = [])
    (hcf : ∀ (i : Nat) (o : Oper), ops[i]? = some o → ∀ p ∈ (e i).c, p.2.isFree = false)
    (hrun : ∀ (i : Nat) (o : Oper), ops[i]? = some o → (e i).run = true → ∀ m : Mem, (∀ k ∈ (e i).r, m k = (StS ops e fr0 m0 (fun _ => true) i).2 k) → OSpec P o (StS ops e fr0 m0 (fun _ => true) i).1 m (e i).v (e i).c)
    {F : Fence} (hF : okF F) {w0 : World} {pr : Nat → Prop} {Q : Exit → Act → World → Prop}
    (fuel : Nat) : ∀ (listed : Array Bool) (ρ : Env) (a : Act) (w : World), listed.size = ops.size → (listed.toList.filter (· == false)).length ≤ fuel →
      (∀ (i : Nat) (o : Oper), ops[i]? = some o → listed.getD i false = true → ∀ ed ∈ o.after, Region.binds .any ed = true → listed.getD ed.on false = true) →
      (∀ i, i ≥ ops.size → listed.getD i false = false) →
      Sim w0 pr ρ (StS ops e fr0 m0 (fun j => listed.getD j false) ops.size).2 w → FrR ρ (StS ops e fr0 m0 (fun j => listed.getD j false) ops.size).2 N (StS ops e fr0 m0 (fun j => listed.getD j false) ops.size).1 a →
      (∀ k, al m0 k → al (StS ops e fr0 m0 (fun j => listed.getD j false) ops.size).2 k) →
      (∀ (ρ' : Env) (a' : Act) (w' : World), (∀ k, al m0 k → ρ' k = ρ k) → a'.defers = a.defers → FrR ρ' (StS ops e fr0 m0 (fun _ => true) ops.size).2 N (StS ops e fr0 m0 (fun _ => true) ops.size).1 a' → Sim w0 pr ρ' (StS ops e fr0 m0 (fun _ => true) ops.size).2 w' → Q .normal a' w') →
      wpAnyIn F 0 P .any ops Q fuel listed a w := by
  have hbl : ∀ (i : Nat) (o : Oper), ops[i]? = some o → ∀ j, bf i j = true → j < i := by
    intro i
    induction i using Nat.strongRecOn with
    | _ i ih =>
      intro o ho j hj
      obtain ⟨ed, hed, hb, h⟩ := hbf i o ho j hj
      have h1 := hedge i o ho ed hed hb
      rcases h with h | h
      · omega
      · have hi : i < ops.size := by
          rcases Nat.lt_or_ge i ops.size with h | h
          · exact h
          · rw [Array.getElem?_eq_none h] at ho; cases ho
        have ho' : ops[ed.on]? = some (ops[ed.on]'(by omega)) := by simp
        have := ih ed.on h1 _ ho' j h
        omega
  -- the ready list is empty only if all is listed
  have hdone : ∀ listed : Array Bool, listed.size = ops.size → Region.ready .any ops listed = [] → ∀ i, i < ops.size → listed.getD i false = true := by
    intro listed hsz hr i
    induction i using Nat.strongRecOn with
    | _ i ih =>
      intro hi
      rcases hb : listed.getD i false with _ | _
      · exfalso
        have : i ∈ Region.ready .any ops listed := by
          unfold Region.ready
          simp only [List.mem_filter, List.mem_range, hi, true_and]
          have h1 : listed.getD i true = false := by
            simp only [Array.getD_eq_getD_getElem?] at hb ⊢
            rw [Array.getElem?_eq_getElem (by omega)] at hb ⊢
            simpa using hb
          have ho : ops[i]? = some ops[i] := by simp [hi]
          rw [h1, ho]
          simp only [Bool.not_false, Option.map_some, Option.getD_some, Bool.true_and]
          rw [Array.all_eq_true']
          intro ed hed
          by_cases hbi : Region.binds .any ed = true
          · have := hedge i _ ho ed hed hbi
            rw [ih ed.on this (by omega)]; simp
          · simp [hbi]
        rw [hr] at this; cases this
      · rfl
  induction fuel with
  | zero =>
    intro listed ρ a w hsz hcount hcl hout hs hf hal hQ
    have hall : ∀ i, i < ops.size → listed.getD i false = true := by
      intro i hi
      have h0 : (listed.toList.filter (· == false)) = [] := List.length_eq_zero_iff.1 (by omega)
      rw [List.filter_eq_nil_iff] at h0
      have := h0 (listed[i]'(by omega)) (by simp)
      simp only [Array.getD_eq_getD_getElem?, Array.getElem?_eq_getElem (show i < listed.size by omega), Option.getD_some]
      simpa using this
    have hfin : StS ops e fr0 m0 (fun j => listed.getD j false) ops.size = StS ops e fr0 m0 (fun _ => true) ops.size := by
      unfold StS
      refine Prod.ext (funext fun t => foldF_at _ (fun j hj _ => hall j hj)) (funext fun k => foldM_at _ (fun j hj _ => hall j hj))
    rw [hfin] at hs hf
    refine ⟨?_, hQ ρ a w (fun _ _ => rfl) rfl hf hs⟩
    unfold Region.ready
    rw [List.filter_eq_nil_iff]
    intro i hi
    simp only [List.mem_range] at hi
    have h1 : listed.getD i true = true := by
      have := hall i hi
      simp only [Array.getD_eq_getD_getElem?, Array.getElem?_eq_getElem (show i < listed.size by omega), Option.getD_some] at this ⊢
      exact this
    simp [h1]
  | succ fuel ih =>
    intro listed ρ a w hsz hcount hcl hout hs hf hal hQ
    refine ⟨fun hr => ?_, fun i hi => ?_⟩
    · have hall := hdone listed hsz hr
      have hfin : StS ops e fr0 m0 (fun j => listed.getD j false) ops.size = StS ops e fr0 m0 (fun _ => true) ops.size := by
        unfold StS
        refine Prod.ext (funext fun t => foldF_at _ (fun j hj _ => hall j hj)) (funext fun k => foldM_at _ (fun j hj _ => hall j hj))
      rw [hfin] at hs hf
      exact hQ ρ a w (fun _ _ => rfl) rfl hf hs
    · -- operation i comes up
      unfold Region.ready at hi
      simp only [List.mem_filter, List.mem_range] at hi
      obtain ⟨hin, hi⟩ := hi
      have ho : ops[i]? = some ops[i] := by simp [hin]
      generalize hoi : ops[i] = o at ho
      rw [ho] at hi
      simp only [Option.map_some, Option.getD_some, Bool.and_eq_true, Bool.not_eq_true'] at hi
      obtain ⟨hnot, hpre⟩ := hi
      rw [Array.all_eq_true'] at hpre
      have hnot' : listed.getD i false = false := by
        simp only [Array.getD_eq_getD_getElem?, Array.getElem?_eq_getElem (show i < listed.size by omega), Option.getD_some] at hnot ⊢
        exact hnot
      have hpre' : ∀ ed ∈ o.after, Region.binds .any ed = true → listed.getD ed.on false = true := by
        intro ed hed hb
        have := hpre ed hed
        simpa [hb] using this
      -- what is before i is listed; what is listed is not behind i
      have hbefore : ∀ (x : Nat) (ox : Oper), ops[x]? = some ox → (∀ ed ∈ ox.after, Region.binds .any ed = true → listed.getD ed.on false = true) → ∀ j, bf x j = true → listed.getD j false = true := by
        intro x
        induction x using Nat.strongRecOn with
        | _ x ihx =>
          intro ox hox hx j hj
          obtain ⟨ed, hed, hb, h⟩ := hbf x ox hox j hj
          have h1 := hedge x ox hox ed hed hb
          have h2 := hx ed hed hb
          rcases h with h | h
          · rw [h]; exact h2
          · have hxs : x < ops.size := by
              rcases Nat.lt_or_ge x ops.size with h | h
              · exact h
              · rw [Array.getElem?_eq_none h] at hox; cases hox
            have ho' : ops[ed.on]? = some (ops[ed.on]'(by omega)) := by simp
            exact ihx ed.on h1 _ ho' (fun ed' hed' hb' => hcl ed.on _ ho' h2 ed' hed' hb') j h
      have hbi : ∀ j, bf i j = true → listed.getD j false = true := hbefore i o ho hpre'
      have hbj : ∀ j, listed.getD j false = true → bf j i = false := by
        intro j hj
        rcases hb : bf j i with _ | _
        · rfl
        · exfalso
          have hjs : j < ops.size := by
            rcases Nat.lt_or_ge j ops.size with h | h
            · exact h
            · rw [hout j h] at hj; cases hj
          have ho' : ops[j]? = some (ops[j]'hjs) := by simp
          have := hbefore j _ ho' (fun ed hed hb => hcl j _ ho' hj ed hed hb) i hb
          rw [hnot'] at this; cases this
      -- whatever is listed out of the text's order does not meet i
      have hmeet : ∀ (j : Nat) (oj : Oper), ops[j]? = some oj → j ≠ i → ((decide (j < i)) ≠ listed.getD j false) →
          (∀ t, oj.dst = some t → t ∉ looks o ∧ t ∉ guardSlot ops o) ∧ (∀ q ∈ (e j).c, q.1 ∉ (e i).r) := by
        intro j oj hoj hne hd
        rcases Nat.lt_or_ge j i with hlt | hge
        · have hun : bf i j = false := by
            rcases hb : bf i j with _ | _
            · rfl
            · exact absurd (by rw [hbi j hb]; simp [hlt]) hd
          have := hind j i oj o hlt hoj ho hun
          exact ⟨fun t ht => (this.1 t ht).2, fun q hq => (this.2.2.1 q hq).2⟩
        · have hlis : listed.getD j false = true := by
            rcases hb : listed.getD j false with _ | _
            · exact absurd (by rw [hb]; simp; omega) hd
            · rfl
          have := hind i j o oj (by omega) ho hoj (hbj j hlis)
          exact ⟨fun t ht => this.2.1 t ht, fun q hq => this.2.2.2 q hq⟩
      have hfrt : ∀ t, (t ∈ looks o ∨ t ∈ guardSlot ops o) → (StS ops e fr0 m0 (fun j => listed.getD j false) ops.size).1 t = (StS ops e fr0 m0 (fun _ => true) i).1 t := by
        intro t ht
        unfold StS
        dsimp only
        have h1 : foldF (fun j => (ops[j]?).bind (·.dst)) (fun j => (e j).v) (fun j => listed.getD j false) ops.size fr0 t = foldF (fun j => (ops[j]?).bind (·.dst)) (fun j => (e j).v) (fun j => decide (j < i)) ops.size fr0 t := by
          refine foldF_at _ (fun j hj hd => ?_)
          have hoj : ops[j]? = some (ops[j]'hj) := by simp
          rw [hoj] at hd
          simp only [Option.bind_some] at hd
          by_cases hji : j = i
          · subst hji; rw [hnot']; simp
          · rcases Decidable.em (decide (j < i) = listed.getD j false) with h | h
            · exact h.symm
            · have := (hmeet j _ hoj hji h).1 t hd
              rcases ht with ht | ht
              · exact absurd ht this.1
              · exact absurd ht this.2
        rw [h1]
        have : ∀ n, i ≤ n → foldF (fun j => (ops[j]?).bind (·.dst)) (fun j => (e j).v) (fun j => decide (j < i)) n fr0 = foldF (fun j => (ops[j]?).bind (·.dst)) (fun j => (e j).v) (fun j => decide (j < i)) i fr0 := by
          intro n hn
          induction n with
          | zero => have : i = 0 := by omega
                    rw [this]
          | succ n ihn =>
            rcases Nat.lt_or_ge n i with h | h
            · have : i = n + 1 := by omega
              rw [this]
            · rw [foldF, if_neg (by simp; omega), ihn h]
        rw [this ops.size (by omega)]
        exact foldF_at _ (fun j hj _ => by simp [hj])
      have hmm : ∀ k, k ∈ (e i).r → (StS ops e fr0 m0 (fun j => listed.getD j false) ops.size).2 k = (StS ops e fr0 m0 (fun _ => true) i).2 k := by
        intro k hk
        unfold StS
        have h1 : foldM (fun j => (e j).c) (fun j => listed.getD j false) ops.size m0 k = foldM (fun j => (e j).c) (fun j => decide (j < i)) ops.size m0 k := by
          refine foldM_at _ (fun j hj hd => ?_)
          have hoj : ops[j]? = some (ops[j]'hj) := by simp
          by_cases hji : j = i
          · subst hji; rw [hnot']; simp
          · rcases Decidable.em (decide (j < i) = listed.getD j false) with h | h
            · exact h.symm
            · obtain ⟨q, hq, hqk⟩ := hd
              exact absurd (hqk ▸ hk) ((hmeet j _ hoj hji h).2 q hq)
        show foldM (fun j => (e j).c) (fun j => listed.getD j false) ops.size m0 k = foldM (fun j => (e j).c) (fun _ => true) i m0 k
        rw [h1]
        have : ∀ n, i ≤ n → foldM (fun j => (e j).c) (fun j => decide (j < i)) n m0 = foldM (fun j => (e j).c) (fun j => decide (j < i)) i m0 := by
          intro n hn
          induction n with
          | zero => have : i = 0 := by omega
                    rw [this]
          | succ n ihn =>
            rcases Nat.lt_or_ge n i with h | h
            · have : i = n + 1 := by omega
              rw [this]
            · rw [foldM, if_neg (by simp; omega), ihn h]
        rw [this ops.size (by omega)]
        exact foldM_at _ (fun j hj _ => by simp [hj])
      -- the state behind i
      have hlist' : ∀ j, (listed.setIfInBounds i true).getD j false = (listed.getD j false || decide (j = i)) := by
        intro j
        simp only [Array.getD_eq_getD_getElem?]
        by_cases hji : j = i
        · subst hji
          rw [Array.getElem?_setIfInBounds_self_of_lt (by omega)]; simp
        · rw [Array.getElem?_setIfInBounds_ne (Ne.symm hji)]; simp [hji]
      have hdisj : ∀ (j : Nat) (oj : Oper), ops[j]? = some oj → i < j → listed.getD j false = true → (∀ t, o.dst = some t → oj.dst ≠ some t) ∧ (∀ p ∈ (e i).c, ∀ q ∈ (e j).c, p.1 ≠ q.1) := by
        intro j oj hoj hij hlj
        have := hind i j o oj hij ho hoj (hbj j hlj)
        exact ⟨fun t ht => (this.1 t ht).1, fun p hp => (this.2.2.1 p hp).1⟩
      have hst1 : (StS ops e fr0 m0 (fun j => (listed.setIfInBounds i true).getD j false) ops.size).1 = putL (StS ops e fr0 m0 (fun j => listed.getD j false) ops.size).1 o.dst (e i).v := by
        have := foldF_ins (d := fun j => (ops[j]?).bind (·.dst)) (v := fun j => (e j).v) (fr := fr0) (S := fun j => listed.getD j false) (S' := fun j => (listed.setIfInBounds i true).getD j false) (i := i) hlist' hnot' (fun j hij hlj hjs t ht => by
          have hoj : ops[j]? = some (ops[j]'hjs) := by simp
          simp only [ho, hoj, Option.bind_some] at ht ⊢
          exact (hdisj j _ hoj hij hlj).1 t ht) ops.size (by omega) (Nat.le_refl _)
        simp only [ho, Option.bind_some] at this
        exact this
      have hst2 : (StS ops e fr0 m0 (fun j => (listed.setIfInBounds i true).getD j false) ops.size).2 = (StS ops e fr0 m0 (fun j => listed.getD j false) ops.size).2.sets (e i).c := by
        exact foldM_ins (c := fun j => (e j).c) (m := m0) (S := fun j => listed.getD j false) (S' := fun j => (listed.setIfInBounds i true).getD j false) (i := i) hlist' hnot' (fun j hij hlj hjs p hp q hq => by
          have hoj : ops[j]? = some (ops[j]'hjs) := by simp
          exact (hdisj j _ hoj hij hlj).2 p hp q hq) ops.size (by omega) (Nat.le_refl _)
      have hcount' : ((listed.setIfInBounds i true).toList.filter (· == false)).length ≤ fuel := by
        have h1 : listed.toList[i]? = some false := by
          simp only [Array.getD_eq_getD_getElem?] at hnot'
          rw [Array.getElem?_eq_getElem (by omega)] at hnot'
          simp only [Option.getD_some] at hnot'
          simp [Array.getElem?_eq_getElem (show i < listed.size by omega), hnot']
        have h2 : ∀ (l : List Bool) (i : Nat), l[i]? = some false → ((l.set i true).filter (· == false)).length + 1 = (l.filter (· == false)).length := by
          intro l
          induction l with
          | nil => intro i h; simp at h
          | cons x l ihl =>
            intro i h
            cases i with
            | zero => simp at h; subst h; simp
            | succ i =>
              simp at h
              have := ihl i h
              cases x <;> simp_all
        have := h2 listed.toList i h1
        rw [Array.toList_setIfInBounds]
        omega
      have hsz' : (listed.setIfInBounds i true).size = ops.size := by simp [hsz]
      have hcl' : ∀ (x : Nat) (ox : Oper), ops[x]? = some ox → (listed.setIfInBounds i true).getD x false = true → ∀ ed ∈ ox.after, Region.binds .any ed = true → (listed.setIfInBounds i true).getD ed.on false = true := by
        intro x ox hox hx ed hed hb
        rw [hlist'] at hx ⊢
        by_cases hxi : x = i
        · subst hxi
          rw [ho] at hox; cases hox
          rw [hpre' ed hed hb]; simp
        · simp only [hxi, decide_false, Bool.or_false] at hx
          rw [hcl x ox hox hx ed hed hb]; simp
      have hout' : ∀ x, x ≥ ops.size → (listed.setIfInBounds i true).getD x false = false := by
        intro x hx
        rw [hlist', hout x hx]; simp; omega
      have hgw : Region.wanted o (yielded ops a.tmps) = (e i).run := by
        refine wanted_says (hguard i o ho) (fun t ht => ?_) (fun t ht => ?_) (ρ := ρ)
        · have := (hf.2 t (hdst i o t ho (.inr (.inr ht)))).1
          rw [hfrt t (.inr ht)] at this; exact this
        · rw [hf.1]; exact hdst i o t ho (.inr (.inr ht))
      have hal1 : ∀ k, al (StS ops e fr0 m0 (fun j => listed.getD j false) ops.size).2 k → al ((StS ops e fr0 m0 (fun j => listed.getD j false) ops.size).2.sets (e i).c) k := fun k hk => al_sets (hcf i o ho) hk
      have hdt : ∀ t, o.dst = some t → t < N := fun t ht => hdst i o t ho (.inl ht)
      unfold wpOpIn
      rw [ho]
      simp only [hgw]
      cases hrn : (e i).run with
      | false =>
        obtain ⟨hv, hc⟩ := hskip i o ho hrn
        simp only [Bool.false_eq_true, if_false]
        refine ⟨fun f _ => okF_fn hF f, ?_⟩
        have hv0 : VR ρ (.tup []) undef := by simp only [VR]; exact ⟨[], rfl, by simp [VRs]⟩
        refine ih (listed.setIfInBounds i true) ρ _ w hsz' hcount' hcl' hout' ?_ ?_ ?_ ?_
        · rw [hst2, hc]; exact hs
        · rw [hst1, hst2, hc, hv]
          exact hf.put (fun _ _ => rfl) (fun _ h => h) hdt hv0 (by simp [LV.wf, wfL])
        · rw [hst2, hc]; exact hal
        · intro ρ' a' w' h1 h2 h3 h4
          exact hQ ρ' a' w' h1 (h2.trans (by cases o.dst <;> rfl)) h3 h4
      | true =>
        simp only [if_true]
        refine hrun i o ho hrn _ hmm F hF w0 pr ρ w a _ Q hs ?_ ?_
        · intro t ht
          have := hf.2 t (hdst i o t ho (.inr (.inl ht)))
          rw [hfrt t (.inl ht)] at this; exact this
        · intro v' ρ' w' hag hv hvw hs'
          refine ih (listed.setIfInBounds i true) ρ' _ w' hsz' hcount' hcl' hout' ?_ ?_ ?_ ?_
          · rw [hst2]; exact hs'
          · rw [hst1, hst2]
            exact hf.put hag hal1 hdt hv hvw
          · rw [hst2]; exact fun k hk => hal1 k (hal k hk)
          · intro ρ'' a' w'' h1 h2 h3 h4
            exact hQ ρ'' a' w'' (fun k hk => (h1 k hk).trans (hag k (hal k hk))) (h2.trans (by cases o.dst <;> rfl)) h3 h4
end

end Go.Vse
