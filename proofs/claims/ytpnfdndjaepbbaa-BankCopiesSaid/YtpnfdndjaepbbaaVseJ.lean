/- The executor's operations on memory. -/
import Derived.Test.YtpnfdndjaepbbaaVseI
import Derived.Laws.Append
namespace Go.Vse
open Go

section
variable [AbstRep]
abbrev MEx := Option (LV × List (Nat × Tok) × List Nat × List Prop × List Ans)
end

def scalL : LV → Bool
  | .agg _ | .tup _ | .any => false
  | _ => true

def repZ (z : List LV) (n : Nat) : List LV := (List.range n).map fun i => z.getD (i % z.length) (.tup [])

section
variable [AbstRep]
/-- A reading of memory, at a known place or at one that an answer tells. -/
def loadX (P : Program) (t : TypeId) (cs : List LV) (o : Nat) (sym : Bool) (an : List Ans) : Ex LV :=
  if sym then
    match takeF asLd an, aggB P t, sizL P t with
    | some (vs, an), some true, some n => if vs.length = n then some (.agg vs, [(cs.drop o).take n = vs], an) else none
    | some ([x], an), some false, some _ => some (x, [cs[o]? = some x], an)
    | _, _, _ => none
  else match partL P t cs o with
    | some v => some (v, [], an)
    | none => none
end

def ptrOf : LV → Option (Nat × Nat × Bool)
  | .p k o => some (k, o, false)
  | .ps k o => some (k, o, true)
  | _ => none

section
variable [AbstRep]
/-- The cells of a source that is appended or copied: its token, the cells. -/
def srcX (m : Mem) (x : LV) (sz : Nat) : Option (List Nat × List LV × Nat) :=
  match x with
  | .n0 => some ([], [], 0)
  | .se _ => some ([], [], 0)
  | .sl k o l _ z =>
    match m k with
    | .cells _ _ cs => if z = sz ∧ o + l * z ≤ cs.length then some ([k], (cs.drop o).take (l * z), l) else none
    | _ => none
  | _ => none
end

def bytesOk (P : Program) (e : TypeId) (n : Nat) : Bool := decide (n * P.bytesOf e ≤ 140737488355328) && decide (n ≤ 140737488355328)

section
variable [AbstRep]
def appendX (P : Program) (nt : Nat) (e : TypeId) (sz : Nat) (s : LV) (rd : List Nat) (new : List LV) (n : Nat) (m : Mem) : Option (LV × List (Nat × Tok) × List Nat) :=
  if new.all scalL = true ∧ new.length = n * sz then
    match s with
    | .n0 => if n = 0 then some (.n0, [], rd) else
        if (m nt).isFree = true ∧ bytesOk P e n = true then some (.sl nt 0 n n sz, [(nt, .cells true e new)], nt :: rd) else none
    | .se k => if n = 0 then some (.se k, [], rd) else
        if (m nt).isFree = true ∧ bytesOk P e n = true then some (.sl nt 0 n n sz, [(nt, .cells true e new)], nt :: rd) else none
    | .sl k o l c z =>
      if z = sz then
        if n = 0 then some (.sl k o l c z, [], rd)
        else
          match m k with
          | .cells true T cs =>
            if l + n ≤ c then
              if o + (l + n) * z ≤ cs.length then some (.sl k o (l + n) c z, [(k, .cells true T (spliceL cs (o + l * z) new))], k :: rd) else none
            else
              if o = 0 ∧ T = e ∧ l * z ≤ cs.length ∧ (m nt).isFree = true ∧ bytesOk P e (l + n) = true then
                some (.sl nt 0 (l + n) (l + n) z, [(k, .hid), (nt, .cells true e (cs.take (l * z) ++ new))], k :: nt :: rd)
              else none
          | _ => none
      else none
    | _ => none
  else none

/-- The cells that a token shows. -/
def Tok.cs? : Tok → Option (List LV)
  | .cells _ _ cs => some cs
  | .glob _ _ cs => some cs
  | _ => none

def memC (P : Program) (nt : Nat) (op : Op) (ev : Operand → Option LV) (m : Mem) (an : List Ans) : MEx :=
  match op with
  | .alloc t =>
    (match zeroL P t with
     | some z => if (m nt).isFree = true then some (.p nt 0, [(nt, .cells true t (cellsL z))], [nt], [], an) else none
     | none => none)
  | .box t x =>
    (match ev x with
     | some v => if (m nt).isFree = true ∧ v.isAny = false then some (.p nt 0, [(nt, .cells true t (cellsL v))], [nt], [], an) else none
     | none => none)
  | .buildSlice t len parts =>
    (match P.underlying t, evParts ev parts.toList with
     | some (.slice e), some ps =>
       (match sizL P e, zeroL P e with
        | some sz, some z =>
          if len * sz ≤ 1000000 ∧ (cellsL z).length = sz ∧ (m nt).isFree = true then
            (match fillL (fun i => some (i * sz, sz)) (repZ (cellsL z) (len * sz)) ps with
             | some cs => some (.sl nt 0 len len sz, [(nt, .cells true e cs)], [nt], [], an)
             | none => none)
          else none
        | _, _ => none)
     | _, _ => none)
  | .load t a =>
    (match (ev a).bind ptrOf with
     | some (k, o, s) =>
       (match (m k).cs? with
        | some cs => (match loadX P t cs o s an with | some (v, ob, an) => some (v, [], [k], ob, an) | none => none)
        | none => none)
     | none => none)
  | .store t a x =>
    (match (ev a).bind ptrOf, ev x, sizL P t with
     | some (k, o, s), some v, some n =>
       (match m k with
        | .cells true T cs =>
          if (cellsL v).length = n ∧ (cellsL v).all scalL = true then
            if s then
              (match takeF asSt an with
               | some (cs', an) => some (.tup [], [(k, .cells true T cs')], [k], [o + n ≤ cs.length, spliceL cs o (cellsL v) = cs'], an)
               | none => some (.tup [], [(k, .cells true T (spliceL cs o (cellsL v)))], [k], [o + n ≤ cs.length], an))
            else if o + n ≤ cs.length then some (.tup [], [(k, .cells true T (spliceL cs o (cellsL v)))], [k], [], an) else none
          else none
        | _ => none)
     | _, _, _ => none)
  | .makeSlice t l c =>
    (match P.underlying t, ev l, ev c with
     | some (.slice e), some (.i .i64 l), some (.i .i64 c) =>
       (match sizL P e, zeroL P e with
        | some sz, some z =>
          if 0 ≤ l ∧ l ≤ c ∧ c ≤ 1000000 ∧ (cellsL z).length = sz ∧ bytesOk P e c.toNat = true ∧ (m nt).isFree = true then
            some (.sl nt 0 l.toNat c.toNat sz, [(nt, .cells true e (repZ (cellsL z) (c.toNat * sz)))], [nt], [], an)
          else none
        | _, _ => none)
     | _, _, _ => none)
  | .slice t x lo hi mx =>
    (match P.underlying t, ev x, lo, hi, mx with
     | some (.array n e), some (.p k o), none, none, none =>
       (match sizL P e, m k with
        | some sz, .cells _ _ cs => if n ≠ 0 ∧ o + n * sz ≤ cs.length then some (.sl k o n n sz, [], [k], [], an) else none
        | _, _ => none)
     | _, _, _, _, _ => none)
  | .call { callee := .builtin .append, args, argTypes } =>
    (match argTypes[0]?, argTypes[1]?, (args[0]?).bind ev, (args[1]?).bind ev with
     | some ts, some tx, some s, some x =>
       (match P.underlying ts, P.underlying tx with
        | some (.slice e), some (.int _) =>
          (match x, sizL P e, zeroL P e with
           | .i .i64 n, some sz, some z =>
             (match s with
              | .n0 =>
                if 0 < n ∧ n ≤ 1000000 ∧ (cellsL z).length = sz ∧ sz ≠ 0 ∧ bytesOk P e n.toNat = true ∧ (m nt).isFree = true then
                  some (.sl nt 0 n.toNat n.toNat sz, [(nt, .cells true e (repZ (cellsL z) (n.toNat * sz)))], [nt], [], an)
                else none
              | _ => none)
           | _, _, _ => none)
        | some (.slice e), some (.slice _) =>
          (match sizL P e with
           | some sz =>
             (match srcX m x sz, zeroL P e with
              | some (rd, new, n), some z =>
                if (cellsL z).length = sz then
                  (match appendX P nt e sz s rd new n m with
                   | some (v, ch, rd) => some (v, ch, rd, [], an)
                   | none => none)
                else none
              | _, _ => none)
           | none => none)
        | _, _ => none)
     | _, _, _, _ => none)
  | .call { callee := .builtin .clear, args, argTypes } =>
    (match argTypes[0]?, (args[0]?).bind ev with
     | some t, some x =>
       (match P.underlying t, x with
        | some (.slice _), .n0 => some (.tup [], [], [], [], an)
        | some (.slice _), .se _ => some (.tup [], [], [], [], an)
        | some (.slice e), .sl k o l _ z =>
          if l = 0 then some (.tup [], [], [], [], an) else
          (match sizL P e, zeroL P e, m k with
           | some sz, some zr, .cells true T cs =>
             if z = sz ∧ (cellsL zr).length = sz ∧ (cellsL zr).all scalL = true ∧ o + l * z ≤ cs.length then
               some (.tup [], [(k, .cells true T (spliceL cs o (repZ (cellsL zr) (l * sz))))], [k], [], an)
             else none
           | _, _, _ => none)
        | _, _ => none)
     | _, _ => none)
  | .call { callee := .builtin .cap, args, argTypes } =>
    (match argTypes[0]?, (args[0]?).bind ev with
     | some t, some x =>
       (match P.underlying t, x with
        | some (.slice _), .n0 => some (.i .i64 0, [], [], [], an)
        | some (.slice _), .se _ => some (.i .i64 0, [], [], [], an)
        | _, _ => none)
     | _, _ => none)
  | _ => none
end

section
variable [AbstRep]
variable {P : Program} {ρ : Env} {m : Mem} {w w0 : World} {pr : Nat → Prop}

omit [AbstRep] in
theorem scal_VR {x : LV} (h : scalL x = true) {v : Value} (hv : VR ρ x v) : (∀ c, v ≠ .agg c) ∧ (∀ c, v ≠ .tuple c) := by
  cases x <;> simp only [scalL, Bool.false_eq_true] at h <;> simp only [VR, SlR] at hv <;> first
    | (subst hv; simp; done)
    | (obtain ⟨rfl, h1, h2⟩ := hv; exact ⟨h1, h2⟩)
    | (obtain ⟨_, _, rfl, _⟩ := hv; simp; done)
    | (obtain ⟨_, rfl, _⟩ := hv; simp; done)
    | (obtain ⟨_, rfl⟩ := hv; simp; done)

omit [AbstRep] in
theorem scal_VRs : ∀ {xs : List LV} {vs : List Value}, xs.all scalL = true → VRs ρ xs vs → ∀ v ∈ vs, (∀ c, v ≠ .agg c) ∧ (∀ c, v ≠ .tuple c)
  | [], _, _, h, v, hv => by simp only [VRs] at h; subst h; simp at hv
  | x :: xs, _, ha, h, v, hv => by
    simp only [VRs] at h; obtain ⟨u, r, rfl, h1, h2⟩ := h
    simp only [List.all_cons, Bool.and_eq_true] at ha
    rcases List.mem_cons.1 hv with e | e
    · subst e; exact scal_VR ha.1 h1
    · exact scal_VRs ha.2 h2 v e

/-- A token's block, whatever its make. -/
theorem Sim.blk (h : Sim w0 pr ρ m w) {k : Nat} {cs : List LV} (hk : (m k).cs? = some cs) :
    ∃ (T : TypeId) (fz : Nat × Nat) (vs sp : List Value), w.heap[(ρ k).1]? = some (.cells (vs ++ sp).toArray T fz) ∧ VRs ρ cs vs ∧ wfL (al m) cs := by
  have h1 : (m k).isVec = false → _ := fun hv => h.tok (k := k) hv
  have h2 := h.wf k
  cases hm : m k with
  | cells rw T c =>
    rw [hm] at h1 h2 hk; cases hk
    obtain ⟨vs, sp, e, hv, _⟩ := h1 rfl
    exact ⟨T, _, vs, sp, e, hv, h2⟩
  | glob g T c =>
    rw [hm] at h1 h2 hk; cases hk
    obtain ⟨vs, sp, T', fz, e, hv⟩ := h1 rfl
    exact ⟨T', fz, vs, sp, e, hv, h2⟩
  | _ => rw [hm] at hk; cases hk

/-- A token's block. -/
theorem Sim.block (h : Sim w0 pr ρ m w) {k : Nat} {rw : Bool} {T : TypeId} {cs : List LV} (hk : m k = .cells rw T cs) :
    ∃ vs sp : List Value, w.heap[(ρ k).1]? = some (.cells (vs ++ sp).toArray T (0, 0)) ∧ VRs ρ cs vs ∧ (vs ++ sp).length = (ρ k).2 ∧ wfL (al m) cs := by
  have h1 := h.tok (k := k) (by rw [hk]; rfl)
  have h2 := h.wf k
  rw [hk] at h1 h2
  obtain ⟨vs, sp, e, hv, hl⟩ := h1
  exact ⟨vs, sp, e, hv, hl, h2⟩

omit [AbstRep] in
theorem repZ_VRs {z : List LV} {zv : Array Value} (hz : VRs ρ z zv.toList) {c : Nat} : VRs ρ (repZ z (c * z.length)) ((List.range (c * z.length)).map fun i => zv[i % zv.size]!) := by
  have hl := VRs_length hz
  have hs : zv.size = z.length := by rw [← hl]; simp
  refine VRs_of (by simp [repZ]) (fun j x v hx hv => ?_)
  simp only [repZ, List.getElem?_map] at hx hv
  cases hj : (List.range (c * z.length))[j]? with
  | none => rw [hj] at hx; cases hx
  | some i =>
    rw [hj] at hx hv
    simp only [Option.map_some, Option.some.injEq] at hx hv
    have hi : i < c * z.length := by
      have := List.mem_of_getElem? hj
      simpa using this
    have hpos : 0 < z.length := by
      rcases Nat.eq_zero_or_pos z.length with h | h
      · rw [h] at hi; omega
      · exact h
    have hlt : i % z.length < z.length := Nat.mod_lt _ hpos
    obtain ⟨u, hu, hr⟩ := VRs_get hz (i % z.length) (z[i % z.length]'hlt) (by simp [hlt])
    rw [← hx, ← hv, hs]
    have e1 : z.getD (i % z.length) (.tup []) = z[i % z.length]'hlt := by simp [List.getD, hlt]
    have e2 : zv[i % z.length]! = u := by
      have : zv[i % z.length]? = some u := by simpa using hu
      rw [getElem!_def, this]
    rw [e1, e2]; exact hr

omit [AbstRep] in
theorem repZ_wf {A : Nat → Prop} {z : List LV} (h : wfL A z) (n : Nat) : wfL A (repZ z n) := by
  rw [wfL_iff] at *
  intro x hx
  simp only [repZ, List.mem_map] at hx
  obtain ⟨i, _, rfl⟩ := hx
  rcases Nat.lt_or_ge (i % z.length) z.length with h1 | h1
  · have e1 : z.getD (i % z.length) (.tup []) = z[i % z.length]'h1 := by simp [List.getD, h1]
    rw [e1]; exact h _ (List.getElem_mem h1)
  · have e1 : z.getD (i % z.length) (.tup []) = .tup [] := by simp [List.getD, h1]
    rw [e1]; simp [LV.wf, wfL]

end
end Go.Vse
