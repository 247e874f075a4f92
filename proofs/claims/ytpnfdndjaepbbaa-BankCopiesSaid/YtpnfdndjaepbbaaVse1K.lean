/- The executor's operations on flat blocks that are as long as no one knows. -/
import Derived.Test.YtpnfdndjaepbbaaVseL
namespace Go.Vse
open Go

def scOf : LV → Option Sc
  | .i k x => some (.i k x)
  | .s k x => some (.i k x)
  | .b x => some (.b x)
  | .sb x => some (.b x)
  | _ => none
def scOfs : List LV → Option (List Sc)
  | [] => some []
  | x :: xs =>
    match scOf x, scOfs xs with
    | some y, some ys => some (y :: ys)
    | _, _ => none
def repS (zs : List Sc) (n : Nat) : List Sc := (List.range n).map fun i => zs.getD (i % zs.length) (.b false)

theorem scOf_sound {ρ : Env} {x : LV} {y : Sc} (h : scOf x = some y) {v : Value} (hv : VR ρ x v) : v = y.val := by
  unfold scOf at h
  split at h <;> cases h <;> (simp only [VR] at hv; rw [hv]; rfl)
theorem scOfs_sound {ρ : Env} : ∀ {xs : List LV} {ys : List Sc}, scOfs xs = some ys → ∀ {vs : List Value}, VRs ρ xs vs → vs = ys.map Sc.val
  | [], ys, h, vs, hv => by simp only [scOfs] at h; cases h; simp only [VRs] at hv; rw [hv]; rfl
  | x :: xs, ys, h, vs, hv => by
    simp only [scOfs] at h
    split at h
    · rename_i y r h1 h2
      cases h
      simp only [VRs] at hv
      obtain ⟨u, us, rfl, e1, e2⟩ := hv
      rw [List.map_cons, scOf_sound h1 e1, scOfs_sound h2 e2]
    · cases h
theorem scOfs_length : ∀ {xs : List LV} {ys : List Sc}, scOfs xs = some ys → ys.length = xs.length
  | [], ys, h => by simp only [scOfs] at h; cases h; rfl
  | x :: xs, ys, h => by
    simp only [scOfs] at h
    split at h
    · rename_i y r h1 h2; cases h; simp [scOfs_length h2]
    · cases h
theorem sc_scal (y : Sc) (h : y.isP = true) : (∀ c, y.val ≠ .agg c) ∧ (∀ c, y.val ≠ .tuple c) := by cases y <;> simp [Sc.val] <;> cases h
theorem scs_scal (ys : List Sc) (h : plainS ys) : ∀ v ∈ ys.map Sc.val, (∀ c, v ≠ .agg c) ∧ (∀ c, v ≠ .tuple c) := fun v hv => by
  obtain ⟨y, hy, rfl⟩ := List.mem_map.1 hv; exact sc_scal y (List.all_eq_true.1 h y hy)
theorem scOf_isP {x : LV} {y : Sc} (h : scOf x = some y) : y.isP = true := by
  unfold scOf at h
  split at h <;> cases h <;> rfl
theorem scOfs_plain : ∀ {xs : List LV} {ys : List Sc}, scOfs xs = some ys → plainS ys
  | [], ys, h => by simp only [scOfs] at h; cases h; rfl
  | x :: xs, ys, h => by
    simp only [scOfs] at h
    split at h
    · rename_i y r h1 h2
      cases h
      have := scOfs_plain h2
      unfold plainS at *
      simp [scOf_isP h1, this]
    · cases h
theorem spliceL_map {α β : Type} (f : α → β) (vs xs : List α) (o : Nat) : spliceL (vs.map f) o (xs.map f) = (spliceL vs o xs).map f := by
  simp [spliceL]

section
variable [AbstRep]
def Tok.flOf : Tok → Option (Bool × List Sc)
  | .fl rw _ fs => some (rw, fs)
  | .vec _ fs => some (true, fs)
  | _ => none
def Tok.flSet : Tok → List Sc → Tok
  | .fl rw T _, fs => .fl rw T fs
  | .vec T _, fs => .vec T fs
  | t, _ => t

def loadF (P : Program) (t : TypeId) (fs : List Sc) (o : Nat) (an : List Ans) : Ex LV :=
  match takeF asLd an with
  | some (vs, an) =>
    (match aggB P t, sizL P t with
     | some true, some n => if vs.length = n ∧ n ≠ 0 then some (.agg vs, [((fs.drop o).take n).map Sc.lv = vs], an) else none
     | some false, some _ => (match vs with | [x] => some (x, [(fs[o]?).map Sc.lv = some x], an) | _ => none)
     | _, _ => none)
  | none => Abst.nd 1 (fs[o]? = none)

/-- A source that is appended: the tokens that are read, its cells, how many elements, what is owed. -/
def srcS (m : Mem) (x : LV) (sz : Nat) : Option (List Nat × List Sc × Nat × List Prop) :=
  match x with
  | .n0 => some ([], [], 0, [])
  | .se _ => some ([], [], 0, [])
  | .sl k o l _ z =>
    if z = sz then
      (match m k with
       | .cells _ _ cs => if o + l * z ≤ cs.length then (match scOfs ((cs.drop o).take (l * z)) with | some ys => some ([k], ys, l, []) | none => none) else none
       | .fl _ _ fs => some ([k], (fs.drop o).take (l * z), l, [o + l * z ≤ fs.length])
       | .vec _ fs => some ([k], (fs.drop o).take (l * z), l, [o + l * z ≤ fs.length])
       | _ => none)
    else none
  | .ss k o l _ z =>
    if z = sz then
      (match m k with
       | .fl _ _ fs => some ([k], (fs.drop o).take (l * z), l, [o + l * z ≤ fs.length])
       | .vec _ fs => some ([k], (fs.drop o).take (l * z), l, [o + l * z ≤ fs.length])
       | _ => none)
    else none
  | .so k l z =>
    if z = sz then
      (match m k with
       | .vec _ fs => some ([k], fs, l, [fs.length = l * z])
       | _ => none)
    else none
  | _ => none

def appS0 (P : Program) (nt : Nat) (e : TypeId) (sz : Nat) (s : LV) (m : Mem) (src : List Nat × List Sc × Nat × List Prop) : Option (LV × List (Nat × Tok) × List Nat × List Prop) :=
  if (m nt).isFree = true ∧ sz ≠ 0 then
    match s with
    | .n0 => some (.so nt src.2.2.1 sz, [(nt, .vec e src.2.1)], nt :: src.1, (bytesOk P e src.2.2.1 = true) :: src.2.2.2)
    | .se _ => some (.so nt src.2.2.1 sz, [(nt, .vec e src.2.1)], nt :: src.1, (bytesOk P e src.2.2.1 = true) :: src.2.2.2)
    | .so k l z =>
      (match m k with
       | .vec T fs => if z = sz ∧ T = e then some (.so nt (l + src.2.2.1) sz, [(k, .hid), (nt, .vec e (fs ++ src.2.1))], k :: nt :: src.1, (fs.length = l * sz) :: plainS src.2.1 :: (bytesOk P e (l + src.2.2.1) = true) :: src.2.2.2) else none
       | _ => none)
    | _ => none
  else none

/-- A slice of a length that is known, whose block is its own: as one that has its block alone. -/
def slOwn (m : Mem) (e sz : Nat) : LV → Option (Nat × Nat × List Sc)
  | .sl k 0 l _ z =>
    (match m k with
     | .cells true T cs => if z = sz ∧ T = e ∧ l * z ≤ cs.length then (match scOfs (cs.take (l * z)) with | some fs => some (k, l, fs) | none => none) else none
     | _ => none)
  | _ => none
def appS (P : Program) (nt : Nat) (e : TypeId) (sz : Nat) (s : LV) (m : Mem) (src : List Nat × List Sc × Nat × List Prop) : Option (LV × List (Nat × Tok) × List Nat × List Prop) :=
  match slOwn m e sz s with
  | some (k, l, fs) => appS0 P nt e sz (.so k l sz) (m.set k (.vec e fs)) src
  | none => appS0 P nt e sz s m src

def memS (P : Program) (nt : Nat) (op : Op) (ev : Operand → Option LV) (m : Mem) (an : List Ans) : MEx :=
  match op with
  | .load t a =>
    (match (ev a).bind ptrOf with
     | some (k, o, _) =>
       (match (m k).flOf with
        | some (_, fs) => (match loadF P t fs o an with | some (v, ob, an) => some (v, [], [k], ob, an) | none => none)
        | none => none)
     | none => none)
  | .store t a x =>
    (match (ev a).bind ptrOf, (ev x).bind (fun v => scOfs (cellsL v)), sizL P t with
     | some (k, o, _), some xs, some n =>
       (match (m k).flOf with
        | some (true, fs) => if xs.length = n ∧ n ≠ 0 then some (.tup [], [(k, (m k).flSet (spliceL fs o xs))], [k], [o + n ≤ fs.length], an) else none
        | _ => none)
     | _, _, _ => none)
  | .slice t x lo hi mx =>
    (match P.underlying t, ev x, lo, hi.bind ev, mx.bind ev with
     | some (.slice e), some (.ss _ _ _ _ z), none, some (.i _ 0), some (.i _ 0) =>
       if (m nt).isFree = true ∧ sizL P e = some z then some (.so nt 0 z, [(nt, .vec e [])], [nt], [], an) else none
     | some (.slice e), some (.so _ _ z), none, some (.i _ 0), some (.i _ 0) =>
       if (m nt).isFree = true ∧ sizL P e = some z then some (.so nt 0 z, [(nt, .vec e [])], [nt], [], an) else none
     | _, _, _, _, _ => none)
  | .makeSlice t l c =>
    (match P.underlying t, ev l, ev c with
     | some (.slice e), some (.s .i64 l), some (.s .i64 c) =>
       (match sizL P e, (zeroL P e).bind (fun z => scOfs (cellsL z)) with
        | some sz, some zs =>
          if zs.length = sz ∧ (m nt).isFree = true then
            some (.so nt l.toNat sz, [(nt, .vec e (repS zs (l.toNat * sz)))], [nt], [l = c, 0 ≤ l, l ≤ 1000000, bytesOk P e l.toNat = true], an)
          else none
        | _, _ => none)
     | _, _, _ => none)
  | .call { callee := .builtin .append, args, argTypes } =>
    (match argTypes[0]?, argTypes[1]?, (args[0]?).bind ev, (args[1]?).bind ev with
     | some ts, some tx, some s, some x =>
       (match P.underlying ts, P.underlying tx with
        | some (.slice e), some (.slice _) =>
          (match sizL P e with
           | some sz =>
             (match srcS m x sz, zeroL P e with
              | some src, some z =>
                if (cellsL z).length = sz then
                  (match appS P nt e sz s m src with
                   | some (v, ch, rd, ob) => some (v, ch, rd, ob, an)
                   | none => none)
                else none
              | _, _ => none)
           | none => none)
        | _, _ => none)
     | _, _, _, _ => none)
  | _ => none
end

section
variable [AbstRep]
variable {P : Program} {ρ : Env} {φ : Nat → List Nat} {m : Mem} {w w0 : World} {pr : Nat → Prop}

/-- A flat token's block, if it has one. -/
theorem SimF.flat (h : SimF w0 pr ρ φ m w) {k : Nat} {rw : Bool} {fs : List Sc} (hk : (m k).flOf = some (rw, fs)) :
    ((m k).isVec = true ∧ fs = [] ∧ (ρ k).2 = 0) ∨ ∃ T fz sp, w.heap[(ρ k).1]? = some (.cells (fs.map Sc.val ++ sp).toArray T fz) ∧ (fs.map Sc.val ++ sp).length = (ρ k).2 ∧
      (rw = true → fz = (0, 0) ∧ (m k).fo (φ k) = [(ρ k).1] ∧
      (∀ (gs : List Sc) (sp : List Value) sz, (gs.map Sc.val ++ sp).length = sz → TR ρ sz ((m k).flSet gs) (some (.cells (gs.map Sc.val ++ sp).toArray T (0, 0))))) := by
  have ht := h.tok k
  cases hm : m k with
  | fl rw' T gs =>
    rw [hm] at hk ht
    simp only [Tok.flOf, Option.some.injEq, Prod.mk.injEq] at hk
    obtain ⟨rfl, rfl⟩ := hk
    obtain ⟨h1, sp, T', fz, h2, h3, h4⟩ := (show PlainR _ _ _ _ _ from ht)
    refine .inr ⟨T', fz, sp, h2, h3, fun hr => ?_⟩
    subst hr
    exact ⟨(h4 rfl).2, (fo_own rfl).trans (h1 rfl), fun gs sp sz e => ⟨sp, _, _, rfl, e, fun _ => ⟨(h4 rfl).1, rfl⟩⟩⟩
  | vec T gs =>
    rw [hm] at hk ht
    simp only [Tok.flOf, Option.some.injEq, Prod.mk.injEq] at hk
    obtain ⟨rfl, rfl⟩ := hk
    have ht' : PlainR _ _ _ _ _ := ht
    unfold PlainR at ht'
    rw [if_pos (by rfl)] at ht'
    rcases ht' with ⟨_, _, h2, h3⟩ | ⟨h1, sp, h2, h3⟩
    · exact .inl ⟨rfl, h2 _ _ rfl, h3⟩
    · exact .inr ⟨T, _, sp, h2, h3, fun _ => ⟨rfl, (fo_own rfl).trans h1, fun gs sp sz e => ⟨sp, rfl, e⟩⟩⟩
  | _ => rw [hm] at hk; cases hk

theorem flOf_new {t : Tok} {fs gs : List Sc} (h : t.flOf = some (true, fs)) : NewTok m (t.flSet gs) := by
  cases t <;> simp only [Tok.flOf, Option.some.injEq, Prod.mk.injEq, reduceCtorEq] at h <;> (obtain ⟨h1, rfl⟩ := h; exact ⟨by simp_all [Tok.flSet, Tok.owns], rfl, trivial⟩)

theorem loadF_sound {t : TypeId} {fs : List Sc} {o : Nat} {an an' : List Ans} {r : LV} {ob : List Prop} (h : loadF P t fs o an = some (r, ob, an')) (ho : AllP ob) {b : Nat} {T : TypeId} {sp : List Value} {fz : Nat × Nat}
    (hb : fs ≠ [] → w.heap[b]? = some (.cells (fs.map Sc.val ++ sp).toArray T fz)) {A : Nat → Prop} : Gives P ρ A w (loadVar t ⟨b, o, none⟩) r := by
  unfold loadF at h
  split at h
  · rename_i vs an1
    split at h
    · rename_i n ha hs
      split at h
      · rename_i hc
        cases h
        simp only [AllP, and_true] at ho
        have hlen : ((fs.drop o).take n).length = n := by rw [← hc.1, ← ho]; simp
        have hle : o + n ≤ fs.length := by rw [List.length_take, List.length_drop] at hlen; omega
        have hne : fs ≠ [] := fun e => by subst e; simp at hle; omega
        have hrun := run_loadCells (P := P) (hb hne) o n 0 #[] (by simp; omega)
        refine ⟨.agg (((fs.drop o).take n).map Sc.val).toArray, ?_, ?_, ?_⟩
        · unfold loadVar
          simp only [Sem.run_bind, run_isAggL ha, Result.andThen, if_true, run_sizeL hs, loadCells, hrun, Sem.run_pure]
          rw [Nat.add_zero, take_append_known (by simp; omega)]
          simp
        · simp only [VR]; exact ⟨_, rfl, by rw [← ho]; exact Sc.lvs_VRs _⟩
        · simp only [LV.wf]; rw [← ho]; exact Sc.lvs_wf _
      · cases h
    · rename_i n ha hs
      split at h
      · rename_i x
        cases h
        simp only [AllP, and_true] at ho
        rw [Option.map_eq_some_iff] at ho
        obtain ⟨y, hy, rfl⟩ := ho
        have hlt := (List.getElem?_eq_some_iff.1 hy).1
        have hne : fs ≠ [] := fun e => by subst e; simp at hlt
        refine ⟨y.val, ?_, Sc.lv_VR y, Sc.lv_wf y⟩
        have hc : w.cell? ⟨b, o, none⟩ = some y.val := by
          rw [cell_at (hb hne), List.getElem?_append_left (by simpa using hlt)]
          simp [hy]
        unfold loadVar
        simp [run_isAggL ha, Result.andThen, load, Sem.run, hc]
      · cases h
    · cases h
  · rw [Abst.nd_none] at h; cases h
omit [AbstRep] in
theorem firstCells_zero {sz n l cap : Nat} {base : Option Addr} (h : n * sz = 0) : (Builtin.firstCells sz n (.slice base l cap)).run P w = .ok #[] w := by
  cases base with
  | none => simp [Builtin.firstCells]
  | some a => simp [Builtin.firstCells, h, loadCells, loadCellsFrom]

theorem srcS_sound {W : World} (hs : SimF w0 pr ρ φ m W) {x : LV} {sz : Nat} {rd : List Nat} {new : List Sc} {n : Nat} {ob : List Prop} (h : srcS m x sz = some (rd, new, n, ob)) (ho : AllP ob) {v : Value} (hv : VR ρ x v) :
    (∀ d, (Builtin.lenOf v).run P { W with drawn := d } = .ok n { W with drawn := d }) ∧ new.length = n * sz ∧
      (∀ d, (Builtin.firstCells sz n v).run P { W with drawn := d } = .ok (new.map Sc.val).toArray { W with drawn := d }) := by
  -- out of a flat token
  have flat : ∀ (k o l c z : Nat) (rw : Bool) (fs : List Sc) (v : Value), (m k).flOf = some (rw, fs) → SlR ρ k o l c z v → o + l * z ≤ fs.length →
      (∀ d, (Builtin.lenOf v).run P { W with drawn := d } = .ok l { W with drawn := d }) ∧ ((fs.drop o).take (l * z)).length = l * z ∧
      (∀ d, (Builtin.firstCells z l v).run P { W with drawn := d } = .ok (((fs.drop o).take (l * z)).map Sc.val).toArray { W with drawn := d }) := by
    intro k o l c z rw fs v hk hv hle
    obtain ⟨o', cap, rfl, h1, h2, h3⟩ := hv
    refine ⟨fun d => by simp [Builtin.lenOf], by simp; omega, fun d => ?_⟩
    by_cases h0 : l * z = 0
    · rw [firstCells_zero h0, h0]; simp
    · have hl0 : l ≠ 0 := fun e => by subst e; simp at h0
      rcases h3 with ⟨rfl, h4⟩ | h4
      · rcases hs.flat hk with ⟨_, e, _⟩ | ⟨T, fz, sp, hb, hl, _⟩
        · subst e; simp at hle; omega
        · have := firstCells_run (P := P) (w := { W with drawn := d }) (b := (ρ k).1) (o := o') (n := l) (sz := z) (l := l) (cap := cap) (L := fs.map Sc.val ++ sp) hb (by simp; omega)
          rw [take_append_known (by simp; omega)] at this
          rw [this]; simp
      · omega
  unfold srcS at h
  split at h
  · cases h
    simp only [VR] at hv; subst hv
    exact ⟨fun d => by simp [Builtin.lenOf], by simp, fun d => by rw [firstCells_zero (by simp)]; rfl⟩
  · cases h
    simp only [VR] at hv; obtain ⟨o', rfl⟩ := hv
    exact ⟨fun d => by simp [Builtin.lenOf], by simp, fun d => by rw [firstCells_zero (by simp)]; rfl⟩
  · rename_i k o l c z
    split at h
    · rename_i hz; subst hz
      simp only [VR] at hv
      split at h
      · rename_i rw T cs hk
        split at h
        · rename_i hle
          split at h
          · rename_i ys hys
            cases h
            have hS : Sim w0 pr ρ m W := ⟨φ, hs⟩
            obtain ⟨vs, sp, hb, hvs, hl, hwf⟩ := hS.block hk
            obtain ⟨o', cap, rfl, h1, h2, h3⟩ := hv
            have hlen := VRs_length hvs
            have hyl := scOfs_length hys
            have hyv := scOfs_sound hys (VRs_take (VRs_drop hvs o) (n * z))
            refine ⟨fun d => by simp [Builtin.lenOf], by rw [hyl]; simp; omega, fun d => ?_⟩
            rcases h3 with ⟨rfl, h4⟩ | h4
            · have := firstCells_run (P := P) (w := { W with drawn := d }) (b := (ρ k).1) (o := o') (n := n) (sz := z) (l := n) (cap := cap) (L := vs ++ sp) hb (by simp; omega)
              rw [take_append_known (by omega), hyv] at this
              exact this
            · have : n = 0 := by omega
              subst this
              rw [firstCells_zero (by simp)]
              have : new = [] := List.length_eq_zero_iff.1 (by rw [hyl]; simp)
              subst this; rfl
          · cases h
        · cases h
      · rename_i rw T fs hk
        cases h
        simp only [AllP, and_true] at ho
        exact flat k o n c z rw fs v (by rw [hk]; rfl) hv ho
      · rename_i T fs hk
        cases h
        simp only [AllP, and_true] at ho
        exact flat k o n c z true fs v (by rw [hk]; rfl) hv ho
      · cases h
    · cases h
  · rename_i k o l c z
    split at h
    · rename_i hz; subst hz
      simp only [VR] at hv
      split at h
      · rename_i rw T fs hk
        cases h
        simp only [AllP, and_true] at ho
        exact flat k o n c z rw fs v (by rw [hk]; rfl) hv ho
      · rename_i T fs hk
        cases h
        simp only [AllP, and_true] at ho
        exact flat k o n c z true fs v (by rw [hk]; rfl) hv ho
      · cases h
    · cases h
  · rename_i k l z
    split at h
    · rename_i hz; subst hz
      simp only [VR] at hv
      split at h
      · rename_i T fs hk
        cases h
        simp only [AllP, and_true] at ho
        obtain ⟨base, cap, rfl, h1, h2⟩ := hv
        refine ⟨fun d => by simp [Builtin.lenOf], ho, fun d => ?_⟩
        by_cases h0 : n * z = 0
        · have : new = [] := List.length_eq_zero_iff.1 (by omega)
          subst this
          rw [firstCells_zero h0]; rfl
        · have hn0 : n ≠ 0 := fun e => by subst e; simp at h0
          rcases h2 with h2 | ⟨rfl, h2⟩
          · omega
          · have hk' : (m k).flOf = some (true, new) := by rw [hk]; rfl
            rcases hs.flat hk' with ⟨_, e, _⟩ | ⟨T, fz, sp, hb, hl, _⟩
            · subst e; simp at ho; omega
            · have := firstCells_run (P := P) (w := { W with drawn := d }) (b := (ρ k).1) (o := 0) (n := n) (sz := z) (l := n) (cap := cap) (L := new.map Sc.val ++ sp) hb (by simp; omega)
              rw [take_append_known (by simp; omega)] at this
              rw [this, ← ho, List.drop_zero, List.take_of_length_le (by simp)]
      · cases h
    · cases h
  · cases h

/-- A token that stands for no block. -/
theorem SimF.ghost (h : SimF w0 pr ρ φ m w) {nt : Nat} (hf : (m nt).isFree = true) (T : TypeId) :
    (∀ k, al m k → ρ.upd nt (0, 0) k = ρ k) ∧ SimF w0 pr (ρ.upd nt (0, 0)) (upd φ nt []) (m.set nt (.vec T [])) w := by
  have hne : ∀ k, al m k → k ≠ nt := fun k hk e => by subst e; unfold al at hk; rw [hk] at hf; cases hf
  have hag : ∀ k, al m k → ρ.upd nt (0, 0) k = ρ k := fun k hk => Env.upd_other (hne k hk)
  have hal : ∀ j, al m j → al (m.set nt (.vec T [])) j := fun j hj => by
    unfold al; rw [Mem.set_other m _ (hne j hj)]; exact hj
  have hfo : ∀ j b, b ∈ ((m.set nt (.vec T [])) j).fo (upd φ nt [] j) → b ∈ (m j).fo (φ j) := fun j b hb => by
    by_cases e : j = nt
    · subst e; rw [upd_same] at hb; have := (fo_sub hb).1; cases this
    · rw [upd_other e, Mem.set_other m _ e] at hb; exact hb
  refine ⟨hag, h.os, h.tape, h.output, h.size, h.prot, fun j => ?_, fun j b hb => h.fw j b (hfo j b hb), fun i j b hi hj => h.fi i j b (hfo i b hi) (hfo j b hj), fun j hj => ?_, fun j => ?_, fun j g T' cs hj => ?_⟩
  · by_cases e : j = nt
    · subst e
      rw [Mem.set_same, upd_same, Env.upd_same, TokR_plain rfl]
      unfold PlainR
      rw [if_pos (by rfl)]
      exact .inl ⟨rfl, rfl, fun T' fs e => by cases e; rfl, rfl⟩
    · rw [Mem.set_other m _ e, upd_other e, Env.upd_other e]; exact TokR_congr hag (h.wf j) (h.tok j)
  · by_cases e : j = nt
    · subst e; rw [Mem.set_same] at hj; cases hj
    · rw [Mem.set_other m _ e] at hj; rw [Env.upd_other e]; exact h.ro j hj
  · by_cases e : j = nt
    · subst e; rw [Mem.set_same]; trivial
    · rw [Mem.set_other m _ e]; exact Tok.wf_mono hal _ (h.wf j)
  · by_cases e : j = nt
    · subst e; rw [Mem.set_same] at hj; cases hj
    · rw [Mem.set_other m _ e] at hj; rw [Env.upd_other e]; exact h.gl j g T' cs hj
theorem SimF.drew (h : SimF w0 pr ρ φ m w) (n : Nat) : SimF w0 pr ρ φ m { w with drawn := n } :=
  ⟨h.os, h.tape, h.output, h.size, h.prot, h.tok, h.fw, h.fi, h.ro, h.wf, h.gl⟩

theorem al_forget {k : Nat} : ∀ j, al m j → al (m.set k .hid) j := fun j hj => by
  unfold al; by_cases e : j = k
  · rw [e, Mem.set_same]; rfl
  · rw [Mem.set_other m _ e]; exact hj

theorem appS0_sound (hs : SimF w0 pr ρ φ m w) {nt e sz : Nat} {s : LV} {rd rd' : List Nat} {new : List Sc} {n : Nat} {ob ob' : List Prop} {r : LV} {ch : List (Nat × Tok)} (h : appS0 P nt e sz s m (rd, new, n, ob) = some (r, ch, rd', ob')) (ho' : AllP ob')
    {su x : Value} (hsu : VR ρ s su)
    {ts tx e' : TypeId} {argTypes : Array TypeId} {ty : TypeId} {args : Array Value}
    (h0 : argTypes[0]? = some ts) (h1 : argTypes[1]? = some tx) (hu : P.underlying ts = some (.slice e)) (hx : P.underlying tx = some (.slice e')) (hsz : sizL P e = some sz) (ha0 : args[0]? = some su) (ha1 : args[1]? = some x)
    (hsrc : AllP ob → (∀ d, (Builtin.lenOf x).run P { w with drawn := d } = .ok n { w with drawn := d }) ∧ new.length = n * sz ∧ (∀ d, (Builtin.firstCells sz n x).run P { w with drawn := d } = .ok (new.map Sc.val).toArray { w with drawn := d }))
    {z : LV} (hz : zeroL P e = some z) (hzl : (cellsL z).length = sz) :
    ∃ v ρ' w', (Builtin.append_ argTypes ty args).run P w = .ok v w' ∧ (∀ k, al m k → ρ' k = ρ k) ∧ VR ρ' r v ∧ r.wf (al (m.sets ch)) ∧ Sim w0 pr ρ' (m.sets ch) w' := by
  obtain ⟨zv, hzr, hzv⟩ := zeroL_run hz
  have hzn : ∀ c, (Builtin.zeroCells zv.cells c).toList.length = c * sz := fun c => by
    have := VRs_length (zeroCells_VRs (zeroL_any hz) (hzv ρ (al m)).1 c)
    rw [this]; simp [repZ, hzl]
  unfold appS0 at h
  split at h
  case isFalse => cases h
  rename_i hc
  obtain ⟨hf, hsz0⟩ := hc
  -- a new block, or none
  have fresh : ∀ (base : Option Addr) (l cap : Nat) (old : List Sc) (m1 : Mem) (φ1 : Nat → List Nat), SimF w0 pr ρ φ1 m1 w → (∀ k, al m k → al m1 k) → (m1 nt).isFree = true → su = .slice base l cap → old.length = l * sz →
      (∀ d, (Builtin.firstCells sz l (.slice base l cap)).run P { w with drawn := d } = .ok (old.map Sc.val).toArray { w with drawn := d }) → (¬ l + n ≤ cap ∨ (n = 0 ∧ cap = 0)) → bytesOk P e (l + n) = true → AllP ob →
      ∃ v ρ' w', (Builtin.append_ argTypes ty args).run P w = .ok v w' ∧ (∀ k, al m1 k → ρ' k = ρ k) ∧ VR ρ' (.so nt (l + n) sz) v ∧ Sim w0 pr ρ' (m1.set nt (.vec e (old ++ new))) w' := by
    intro base l cap old m1 φ1 hs1 hal1 hf1 hsue hol hold hgt hb hob
    obtain ⟨hn, hnl, hnew⟩ := hsrc hob
    subst hsue
    by_cases hgt' : l + n ≤ cap
    · rcases hgt with h | ⟨rfl, rfl⟩
      · exact absurd hgt' h
      · have hl0 : l = 0 := by omega
        subst hl0
        have ho0 : old = [] := List.length_eq_zero_iff.1 (by rw [hol]; simp)
        have hn0 : new = [] := List.length_eq_zero_iff.1 (by rw [hnl]; simp)
        subst ho0; subst hn0
        obtain ⟨hag, hS⟩ := hs1.ghost hf1 e
        refine ⟨_, _, w, append_in (l := 0) (cap := 0) (us := []) (w' := w) h0 h1 hu hx hsz ha0 ha1 (hn w.drawn) (hnew w.drawn) (by omega) (fun a h => by simp [storeCells]) (fun _ => rfl), hag, ?_, _, hS⟩
        simp only [VR, SoR]
        exact ⟨base, 0, rfl, by omega, .inl rfl⟩
    · obtain ⟨newCap, d, hcap, hrun⟩ := append_out (w := w) (ty := ty) h0 h1 hu hx hsz ha0 ha1 hn hnew hold (fun d => hzr _) hgt' hb
      have hT : TR ρ ((old.map Sc.val ++ new.map Sc.val) ++ (Builtin.zeroCells zv.cells (newCap - (l + n))).toList).length (.vec e (old ++ new)) (some (.cells ((old.map Sc.val ++ new.map Sc.val) ++ (Builtin.zeroCells zv.cells (newCap - (l + n))).toList).toArray e (0, 0))) :=
        ⟨(Builtin.zeroCells zv.cells (newCap - (l + n))).toList, by simp, by simp⟩
      obtain ⟨hag, hS⟩ := (hs1.drew d).alloc hf1 (t := .vec e (old ++ new)) ⟨rfl, rfl, trivial⟩ hT
      refine ⟨_, _, _, hrun, hag, ?_, _, hS⟩
      simp only [VR, SoR, Env.upd_same]
      refine ⟨_, newCap, rfl, by omega, .inr ⟨rfl, ?_⟩⟩
      simp only [List.length_append, List.length_map, hol, hnl, hzn]
      rw [← Nat.add_mul, ← Nat.add_mul]
      exact Nat.mul_le_mul_right _ (by omega)
  have alnew : ∀ (t : Tok) (m1 : Mem), t.isFree = false → al (m1.set nt t) nt := fun t m1 h => by unfold al; rw [Mem.set_same]; exact h
  split at h
  · cases h
    simp only [AllP] at ho'
    simp only [VR] at hsu
    obtain ⟨v, ρ', w', a1, a2, a3, a4⟩ := fresh none 0 0 [] m φ hs (fun _ h => h) hf hsu (by simp) (fun d => by rw [firstCells_zero (by simp)]; rfl) (by omega) (by simpa using ho'.1) ho'.2
    rw [Nat.zero_add] at a3
    exact ⟨v, ρ', w', a1, a2, a3, alnew _ _ rfl, a4⟩
  · cases h
    simp only [AllP] at ho'
    simp only [VR] at hsu
    obtain ⟨o', hsu⟩ := hsu
    obtain ⟨v, ρ', w', a1, a2, a3, a4⟩ := fresh _ 0 0 [] m φ hs (fun _ h => h) hf hsu (by simp) (fun d => by rw [firstCells_zero (by simp)]; rfl) (by omega) (by simpa using ho'.1) ho'.2
    rw [Nat.zero_add] at a3
    exact ⟨v, ρ', w', a1, a2, a3, alnew _ _ rfl, a4⟩
  · rename_i k l zz
    split at h
    · rename_i T fs hk
      split at h
      · rename_i hh
        obtain ⟨rfl, rfl⟩ := hh
        cases h
        simp only [AllP] at ho'
        obtain ⟨hfl, hpl, hb, hob⟩ := ho'
        obtain ⟨hn, hnl, hnew⟩ := hsrc hob
        simp only [VR] at hsu
        obtain ⟨base, cap, hsu, hlc, hor⟩ := hsu
        have hkal : al m k := by unfold al; rw [hk]; rfl
        have hknt : k ≠ nt := fun e => by subst e; unfold al at hkal; rw [hkal] at hf; cases hf
        have hf1 : ((m.set k .hid) nt).isFree = true := by rw [Mem.set_other m _ hknt.symm]; exact hf
        have hk' : (m k).flOf = some (true, fs) := by rw [hk]; rfl
        have out : (¬ l + n ≤ cap ∨ (n = 0 ∧ cap = 0)) → (∀ d, (Builtin.firstCells zz l (.slice base l cap)).run P { w with drawn := d } = .ok (fs.map Sc.val).toArray { w with drawn := d }) → ∃ v ρ' w', (Builtin.append_ argTypes ty args).run P w = .ok v w' ∧ (∀ k, al m k → ρ' k = ρ k) ∧ VR ρ' (.so nt (l + n) zz) v ∧ (LV.so nt (l + n) zz).wf (al (m.sets [(k, .hid), (nt, .vec T (fs ++ new))])) ∧ Sim w0 pr ρ' (m.sets [(k, .hid), (nt, .vec T (fs ++ new))]) w' := by
          intro hgt hold
          obtain ⟨v, ρ', w', a1, a2, a3, a4⟩ := fresh base l cap fs (m.set k .hid) φ (hs.forget k) al_forget hf1 hsu hfl hold hgt hb hob
          exact ⟨v, ρ', w', a1, fun j hj => a2 j (al_forget j hj), a3, alnew _ _ rfl, a4⟩
        by_cases h00 : cap = 0
        · have hl0 : l = 0 := by omega
          have : fs = [] := List.length_eq_zero_iff.1 (by rw [hfl, hl0]; simp)
          subst this
          exact out (by omega) (fun d => by rw [firstCells_zero (by rw [hl0]; simp)]; rfl)
        · rcases hor with hor | ⟨rfl, hsz2⟩
          · exact absurd hor h00
          · have hpos : 0 < cap * zz := Nat.mul_pos (by omega) (by omega)
            rcases hs.flat hk' with ⟨_, _, e⟩ | ⟨T', fz, sp, hbk, hvl, hwr⟩
            · omega
            · obtain ⟨rfl, hfo, hset⟩ := hwr rfl
              by_cases hroom : l + n ≤ cap
              · have hmul : (l + n) * zz = l * zz + n * zz := Nat.add_mul _ _ _
                have hle2 : (l + n) * zz ≤ cap * zz := Nat.mul_le_mul_right _ hroom
                have hT' : T' = T := by
                  have := hs.tok k
                  rw [hk] at this
                  have this' : PlainR _ _ _ _ _ := this
                  unfold PlainR at this'
                  rw [if_pos (by rfl)] at this'
                  rcases this' with ⟨_, _, _, e⟩ | ⟨_, sp', e, _⟩
                  · omega
                  · rw [hbk] at e; injection e with e; injection e
                subst hT'
                have hst := run_storeCells (P := P) (b := (ρ k).1) (T := T') (new.map Sc.val) w (fs.map Sc.val ++ sp) (l * zz) 0 hbk (scs_scal new hpl) (by simp only [List.length_append, List.length_map] at hvl ⊢; omega)
                rw [Nat.add_zero] at hst
                have hsp : spliceL (fs.map Sc.val ++ sp) (l * zz) (new.map Sc.val) = (fs ++ new).map Sc.val ++ sp.drop (n * zz) := by
                  unfold spliceL
                  rw [← hfl, List.take_append_of_le_length (by simp), List.take_of_length_le (by simp), List.drop_append, List.drop_eq_nil_of_le (by simp)]
                  simp [hnl]
                have hT : TR ρ (ρ k).2 (.vec T' (fs ++ new)) (some (.cells (spliceL (fs.map Sc.val ++ sp) (l * zz) (new.map Sc.val)).toArray T' (0, 0))) := by
                  refine ⟨sp.drop (n * zz), by rw [hsp], ?_⟩
                  rw [← hsp, spliceL_length (by simp only [List.length_append, List.length_map] at hvl ⊢; omega)]; exact hvl
                obtain ⟨hag, hS⟩ := hs.move hfo hf (t := .vec T' (fs ++ new)) ⟨rfl, rfl, trivial⟩ hT
                subst hsu
                refine ⟨_, _, _, append_in (l := l) (cap := cap) h0 h1 hu hx hsz ha0 ha1 (hn w.drawn) (hnew w.drawn) hroom (fun a h => by cases h; rw [add_off, Nat.zero_add]; exact hst) (fun h => by cases h), hag, ?_, alnew _ _ rfl, _, hS⟩
                simp only [VR, SoR, Env.upd_same]
                exact ⟨_, cap, rfl, hroom, .inr ⟨rfl, hsz2⟩⟩
              · refine out (.inl hroom) (fun d => ?_)
                have := firstCells_run (P := P) (w := { w with drawn := d }) (b := (ρ k).1) (o := 0) (n := l) (sz := zz) (l := l) (cap := cap) (L := fs.map Sc.val ++ sp) hbk (by simp; omega)
                rw [take_append_known (by simp; omega)] at this
                rw [this, ← hfl, List.drop_zero, List.take_of_length_le (by simp)]
      · cases h
    · cases h
  · cases h

omit [AbstRep] in
theorem putObj_same {b : Nat} {o : Obj} (h : w.heap[b]? = some o) : w.putObj b o = w := by
  unfold World.putObj
  have : w.heap.setIfInBounds b o = w.heap := by
    apply Array.ext_getElem?
    intro i
    by_cases e : i = b
    · subst e; rw [Array.getElem?_setIfInBounds_self_of_lt (Array.getElem?_eq_some_iff.1 h).1, h]
    · rw [Array.getElem?_setIfInBounds_ne (fun e' => e e'.symm)]
  rw [this]
theorem SimF.retok (h : SimF w0 pr ρ φ m w) {k : Nat} (hk : (m k).fo (φ k) = [(ρ k).1]) {t : Tok} (ht : NewTok m t) {o : Obj} (ho : w.heap[(ρ k).1]? = some o) (hT : TR ρ (ρ k).2 t (some o)) : SimF w0 pr ρ φ (m.set k t) w := by
  have := h.put hk ht hT
  rwa [putObj_same ho] at this
theorem set_set (m : Mem) (k : Nat) (t u : Tok) : (m.set k t).set k u = m.set k u := by
  funext j; by_cases e : j = k
  · subst e; rw [Mem.set_same, Mem.set_same]
  · rw [Mem.set_other _ _ e, Mem.set_other _ _ e, Mem.set_other _ _ e]
theorem slOwn_some {e sz : Nat} {s : LV} {k l : Nat} {fs : List Sc} (h : slOwn m e sz s = some (k, l, fs)) : ∃ c cs, s = .sl k 0 l c sz ∧ m k = .cells true e cs ∧ l * sz ≤ cs.length ∧ scOfs (cs.take (l * sz)) = some fs := by
  unfold slOwn at h
  split at h
  · rename_i k' l' c z
    split at h
    · rename_i T cs hk
      split at h
      · rename_i hc
        obtain ⟨rfl, rfl, hle⟩ := hc
        split at h
        · rename_i fs' hfs
          cases h
          exact ⟨c, cs, rfl, hk, hle, hfs⟩
        · cases h
      · cases h
    · cases h
  · cases h
theorem appS_sound (hs : SimF w0 pr ρ φ m w) {nt e sz : Nat} {s : LV} {rd rd' : List Nat} {new : List Sc} {n : Nat} {ob ob' : List Prop} {r : LV} {ch : List (Nat × Tok)} (h : appS P nt e sz s m (rd, new, n, ob) = some (r, ch, rd', ob')) (ho' : AllP ob')
    {su x : Value} (hsu : VR ρ s su)
    {ts tx e' : TypeId} {argTypes : Array TypeId} {ty : TypeId} {args : Array Value}
    (h0 : argTypes[0]? = some ts) (h1 : argTypes[1]? = some tx) (hu : P.underlying ts = some (.slice e)) (hx : P.underlying tx = some (.slice e')) (hsz : sizL P e = some sz) (ha0 : args[0]? = some su) (ha1 : args[1]? = some x)
    (hsrc : AllP ob → (∀ d, (Builtin.lenOf x).run P { w with drawn := d } = .ok n { w with drawn := d }) ∧ new.length = n * sz ∧ (∀ d, (Builtin.firstCells sz n x).run P { w with drawn := d } = .ok (new.map Sc.val).toArray { w with drawn := d }))
    {z : LV} (hz : zeroL P e = some z) (hzl : (cellsL z).length = sz) :
    ∃ v ρ' w', (Builtin.append_ argTypes ty args).run P w = .ok v w' ∧ (∀ k, al m k → ρ' k = ρ k) ∧ VR ρ' r v ∧ r.wf (al (m.sets ch)) ∧ Sim w0 pr ρ' (m.sets ch) w' := by
  unfold appS at h
  split at h
  · rename_i k l fs hso
    obtain ⟨c, cs, rfl, hk, hle, hfs⟩ := slOwn_some hso
    have hrw : (m k).isRw = true := by rw [hk]; rfl
    obtain ⟨vs, sp, hb, hvs, hlen, hwf⟩ := Sim.block (w0 := w0) (pr := pr) ⟨φ, hs⟩ hk
    have hfv := scOfs_sound hfs (VRs_take hvs (l * sz))
    have hfl := scOfs_length hfs
    have hvl := VRs_length hvs
    have hsplit : vs ++ sp = fs.map Sc.val ++ (vs.drop (l * sz) ++ sp) := by
      rw [← hfv, ← List.append_assoc, List.take_append_drop]
    have hS : SimF w0 pr ρ φ (m.set k (.vec e fs)) w := hs.retok (hs.frw hrw) ⟨rfl, rfl, trivial⟩ hb ⟨vs.drop (l * sz) ++ sp, by rw [hsplit], by rw [← hsplit]; exact hlen⟩
    have hkal : al m k := by unfold al; rw [hk]; rfl
    have hal : ∀ j, al m j → al (m.set k (.vec e fs)) j := fun j hj => by
      unfold al; by_cases e' : j = k
      · rw [e', Mem.set_same]; rfl
      · rw [Mem.set_other m _ e']; exact hj
    have hsu' : VR ρ (.so k l sz) su := by
      simp only [VR, SlR] at hsu
      obtain ⟨o', cap, rfl, h1', h2', h3'⟩ := hsu
      simp only [VR, SoR]
      refine ⟨_, cap, rfl, by omega, ?_⟩
      rcases h3' with ⟨rfl, h3'⟩ | h3'
      · exact .inr ⟨rfl, by omega⟩
      · exact .inl h3'
    obtain ⟨v, ρ', w', a1, a2, a3, a4, a5⟩ := appS0_sound hS h ho' hsu' h0 h1 hu hx hsz ha0 ha1 hsrc hz hzl (ty := ty)
    have hch : (m.set k (.vec e fs)).sets ch = m.sets ch := by
      unfold appS0 at h
      split at h
      case isFalse => cases h
      simp only [Mem.set_same] at h
      split at h
      · cases h; simp only [Mem.sets, set_set]
      · cases h
    rw [hch] at a4 a5
    exact ⟨v, ρ', w', a1, fun j hj => a2 j (hal j hj), a3, a4, a5⟩
  · exact appS0_sound hs h ho' hsu h0 h1 hu hx hsz ha0 ha1 hsrc hz hzl

/-- A store into a flat block. -/
theorem flStore_sound (hs : SimF w0 pr ρ φ m w) {k : Nat} {fs : List Sc} (hk : (m k).flOf = some (true, fs)) {t : TypeId} {n o : Nat} (hsz : sizL P t = some n) {x : LV} {v : Value} (hv : VR ρ x v) {xs : List Sc} (hx : scOfs (cellsL x) = some xs) (hl : xs.length = n) (hn : n ≠ 0) (hle : o + n ≤ fs.length) :
    ∃ w', (storeVar t ⟨(ρ k).1, o, none⟩ v).run P w = .ok () w' ∧ Sim w0 pr ρ (m.set k ((m k).flSet (spliceL fs o xs))) w' := by
  have hxa : x.isAny = false := by cases x <;> first | rfl | (simp [cellsL, scOfs, scOf] at hx)
  have hcv := cells_VRs hxa hv
  have hcs := scOfs_sound hx hcv
  rcases hs.flat hk with ⟨_, e, _⟩ | ⟨T, fz, sp, hb, hvl, hwr⟩
  · subst e; simp at hle; omega
  · obtain ⟨rfl, hfo, hset⟩ := hwr rfl
    have hst := run_storeCells (P := P) (b := (ρ k).1) (T := T) (xs.map Sc.val) w (fs.map Sc.val ++ sp) o 0 hb (scs_scal xs (scOfs_plain hx)) (by simp; omega)
    rw [Nat.add_zero, splice_append_known (by simp; omega), spliceL_map] at hst
    have hT : TR ρ (ρ k).2 ((m k).flSet (spliceL fs o xs)) (some (.cells ((spliceL fs o xs).map Sc.val ++ sp).toArray T (0, 0))) := by
      refine hset _ _ _ ?_
      simp only [List.length_append, List.length_map] at hvl ⊢
      rw [spliceL_length (by omega)]; exact hvl
    refine ⟨_, ?_, _, hs.put hfo (flOf_new hk) hT⟩
    have hcz : v.cells.size = n := by rw [← Array.length_toList, hcs]; simpa using hl
    unfold storeVar
    simp only [Sem.run_bind, run_sizeL hsz, Result.andThen, hcz, ne_eq, not_true_eq_false, if_false, hcs]
    exact hst

omit [AbstRep] in
theorem repS_val {zs : List Sc} {n : Nat} (h : zs ≠ []) : (repS zs n).map Sc.val = (List.range n).map fun i => (zs.map Sc.val).toArray[i % zs.length]! := by
  have hp : 0 < zs.length := List.length_pos_iff.2 h
  simp only [repS, List.map_map]
  refine List.map_congr_left (fun i _ => ?_)
  have hlt : i % zs.length < zs.length := Nat.mod_lt _ hp
  simp [hlt]

theorem memS_sound (hS : Sim w0 pr ρ m w) {nt : Nat} {op : Op} {ev : Operand → Option LV} {an an' : List Ans} {r : LV} {ch : List (Nat × Tok)} {rd : List Nat} {ob : List Prop} (h : memS P nt op ev m an = some (r, ch, rd, ob, an')) (ho : AllP ob) {ε : Operand → Value}
    (hev : ∀ x ∈ op.operands, ∀ lx, ev x = some lx → VR ρ lx (ε x) ∧ lx.wf (al m)) {o : Oper} (hop : o.op = op) : MGives P w0 pr ρ m w (execOp ε o) r ch := by
  obtain ⟨φ, hs⟩ := hS
  unfold memS at h
  split at h
  · -- load
    rename_i t a
    split at h
    · rename_i k o1 s hp
      split at h
      · rename_i rw fs hk
        split at h
        · rename_i v ob1 an1 hl
          cases h
          cases hea : ev a with
          | none => rw [hea] at hp; cases hp
          | some la =>
            rw [hea] at hp
            have h1 := hev a (by simp [Op.operands]) _ hea
            have hpv := ptrOf_VR hp h1.1
            have hb : ∃ T fz sp, fs ≠ [] → w.heap[(ρ k).1]? = some (.cells (fs.map Sc.val ++ sp).toArray T fz) := by
              rcases hs.flat hk with ⟨_, e, _⟩ | ⟨T, fz, sp, hb, _⟩
              · exact ⟨0, (0, 0), [], fun h => absurd e h⟩
              · exact ⟨T, fz, sp, fun _ => hb⟩
            obtain ⟨T, fz, sp, hb⟩ := hb
            obtain ⟨u, g1, g2, g3⟩ := loadF_sound (P := P) (ρ := ρ) hl ho hb (A := al m)
            refine ⟨.value u, u, ρ, w, ?_, .inl rfl, fun _ _ => rfl, g2, g3, φ, hs⟩
            simp only [execOp, hop]
            refine lift_next ?_
            simp only [Instr.loadAt, hpv, Instr.sureAddr, Sem.run_bind, Sem.run_pure, Result.andThen, g1]
        · cases h
      · cases h
    · cases h
  · -- store
    rename_i t a x
    split at h
    · rename_i k o1 s xs n hp hx hn
      split at h
      · rename_i fs hk
        split at h
        · rename_i hc
          cases h
          simp only [AllP, and_true] at ho
          cases hea : ev a with
          | none => rw [hea] at hp; cases hp
          | some la =>
            cases hex : ev x with
            | none => rw [hex] at hx; cases hx
            | some lx =>
              rw [hea] at hp
              rw [hex, Option.bind_some] at hx
              have h1 := hev a (by simp [Op.operands]) _ hea
              have h2 := hev x (by simp [Op.operands]) _ hex
              have hpv := ptrOf_VR hp h1.1
              obtain ⟨w', g1, g2⟩ := flStore_sound (P := P) hs hk hn h2.1 hx hc.1 hc.2 ho
              refine ⟨.skip, undef, ρ, w', ?_, .inr ⟨rfl, rfl⟩, fun _ _ => rfl, by simp only [VR]; exact ⟨[], rfl, by simp [VRs]⟩, by simp [LV.wf, wfL], g2⟩
              simp only [execOp, hop]
              refine lift_skip ?_
              simp only [Instr.storeAt, hpv, Instr.sureAddr, Sem.run_bind, Sem.run_pure, Result.andThen, g1]
        · cases h
      · cases h
    · cases h
  · -- a slice without anything
    rename_i t x lo hi mx
    have main : ∀ (e z k1 k2 : _) (v : Value), P.underlying t = some (.slice e) → sizL P e = some z → (m nt).isFree = true → hi.bind ev = some (.i k1 0) → mx.bind ev = some (.i k2 0) → lo = none → ε x = v → (∃ base l cap, v = .slice base l cap) →
        MGives P w0 pr ρ m w (execOp ε o) (.so nt 0 z) [(nt, .vec e [])] := by
      intro e z k1 k2 v hd hs1 hf hh hq hlo hxv hv
      obtain ⟨base, l, cap, rfl⟩ := hv
      subst hlo
      obtain ⟨hag, hS⟩ := hs.ghost hf e
      cases hi with
      | none => cases hh
      | some hv =>
        cases mx with
        | none => cases hq
        | some q =>
          rw [Option.bind_some] at hh hq
          have g1 := (hev hv (by simp [Op.operands]) _ hh).1; simp only [VR] at g1
          have g2 := (hev q (by simp [Op.operands]) _ hq).1; simp only [VR] at g2
          have b1 := run_sliceBound (P := P) (w := w) (k := k2) (z := 0) (m := cap) (by omega) (by omega) .slice3Acap
          have b2 := run_sliceBound (P := P) (w := w) (k := k1) (z := 0) (m := 0) (by omega) (by omega) .slice3B
          refine ⟨.value (.slice base 0 0), .slice base 0 0, _, w, ?_, .inl rfl, hag, by simp only [VR]; exact ⟨base, 0, rfl, Nat.le_refl _, .inl rfl⟩, by simp only [LV.wf]; exact al_set_new rfl, _, hS⟩
          simp only [execOp, hop]
          refine lift_next ?_
          cases base <;> simp [Instr.sliceAt, run_underlying hd, Result.andThen, hxv, Instr.slice, Instr.sliceBounds, g1, g2, b1, b2, run_sizeL hs1]
    split at h
    · rename_i e k o1 l c z k1 k2 hd hx hh hq
      split at h
      · rename_i hc
        cases h
        have h1 := (hev x (by simp [Op.operands]) _ hx).1; simp only [VR, SlR] at h1
        obtain ⟨o', cap, e1, _⟩ := h1
        exact main e z k1 k2 _ hd hc.2 hc.1 hh hq rfl e1 ⟨_, _, _, rfl⟩
      · cases h
    · rename_i e k l z k1 k2 hd hx hh hq
      split at h
      · rename_i hc
        cases h
        have h1 := (hev x (by simp [Op.operands]) _ hx).1; simp only [VR, SoR] at h1
        obtain ⟨o', cap, e1, _⟩ := h1
        exact main e z k1 k2 _ hd hc.2 hc.1 hh hq rfl e1 ⟨_, _, _, rfl⟩
      · cases h
    · cases h
  · -- makeSlice
    rename_i t l c
    split at h
    · rename_i e lz cz hd hl hc
      split at h
      · rename_i sz zs hsz hzs
        split at h
        · rename_i hh
          obtain ⟨hzl, hf⟩ := hh
          cases h
          simp only [AllP, and_true] at ho
          obtain ⟨rfl, h0, h1, h4⟩ := ho
          rw [Option.bind_eq_some_iff] at hzs
          obtain ⟨z, hz, hzc⟩ := hzs
          obtain ⟨zv, hzr, hzv⟩ := zeroL_run hz
          have hcv := scOfs_sound hzc (cells_VRs (zeroL_any hz) (hzv ρ (al m)).1)
          have hzs : zv.cells.size = sz := by rw [← Array.length_toList, hcv]; simpa using hzl
          have e1 := (hev l (by simp [Op.operands]) _ hl).1; simp only [VR] at e1
          have e2 := (hev c (by simp [Op.operands]) _ hc).1; simp only [VR] at e2
          obtain ⟨i, hi, _⟩ := info_of_siz hsz
          simp only [bytesOk, bytesOf_info hi, Bool.and_eq_true, decide_eq_true_eq] at h4
          have w1 : IntKind.i64.wrap lz = lz := by rw [← fwrap_eq]; simp only [fwrap]; rw [if_pos]; simp; omega
          have hbig : ¬ ((281474976710656 : Int) < (i.bytes : Int) * lz) := by
            have : ((lz.toNat * i.bytes : Nat) : Int) = (i.bytes : Int) * lz := by rw [Nat.mul_comm]; simp [Int.toNat_of_nonneg h0]
            omega
          have hvals : (repS zs (lz.toNat * sz)).map Sc.val = (List.range (lz.toNat * sz)).map fun i => zv.cells[i % zv.cells.size]! := by
            by_cases hz0 : zs = []
            · subst hz0
              have : sz = 0 := by rw [← hzl]; rfl
              subst this
              simp [repS]
            · rw [repS_val hz0, hzs, hzl]
              have : zv.cells = (zs.map Sc.val).toArray := by apply Array.ext'; rw [hcv]
              rw [this]
          have hT : TR ρ (lz.toNat * sz) (.vec e (repS zs (lz.toNat * sz))) (some (.cells ((repS zs (lz.toNat * sz)).map Sc.val).toArray e (0, 0))) := ⟨[], by simp, by simp [repS]⟩
          obtain ⟨hag, hS⟩ := hs.alloc hf (t := .vec e (repS zs (lz.toNat * sz))) ⟨rfl, rfl, trivial⟩ hT
          refine ⟨.value (.slice (some ⟨w.heap.size, 0, none⟩) lz.toNat lz.toNat), _, _, _, ?_, .inl rfl, hag, ?_, by simp only [LV.wf]; exact al_set_new rfl, _, hS⟩
          · simp only [execOp, hop]
            refine lift_next ?_
            have n1 : ¬ (lz < 0) := by omega
            have n3 : ¬ (lz > lz) := by omega
            have n4 : ¬ ((2 ^ 48 : Int) < (i.bytes : Int) * lz) := by simpa using hbig
            rw [hvals]
            unfold Instr.makeSlice
            simp only [Sem.run_bind, run_underlying hd, Result.andThen, e1, e2, asInt, asIntOf, Sem.run_pure, typeInfo, run_program, hi, w1, run_sizeL hsz, n1, n3, n4, gt_iff_lt, decide_false, Bool.or_self, Bool.false_eq_true, if_false, run_askRoom]
            by_cases h0 : lz.toNat * sz = 0
            · have e3 : ((List.range (lz.toNat * sz)).map fun i => zv.cells[i % zv.cells.size]!) = [] := by rw [h0]; rfl
              rw [e3]
              have e4 : ((Array.range 0).map fun _ => (default : Value)) = #[] := by apply Array.ext'; simp
              simp [h0, newRow, e4]
            · have e3 : (Array.range (lz.toNat * sz)).map (fun i => zv.cells[i % zv.cells.size]!) = ((List.range (lz.toNat * sz)).map fun i => zv.cells[i % zv.cells.size]!).toArray := by apply Array.ext'; simp
              simp only [h0, if_false, Sem.run_bind, Sem.run_pure, Result.andThen, hzr, e3]
              simp [newRow]
          · simp only [VR, SoR, Env.upd_same]
            exact ⟨_, lz.toNat, rfl, Nat.le_refl _, .inr ⟨rfl, Nat.le_refl _⟩⟩
        · cases h
      · cases h
    · cases h
  · -- append
    rename_i args argTypes
    split at h
    · rename_i ts tx s x h0 h1 hs1 hx1
      split at h
      · rename_i e e' hd hdx
        split at h
        · rename_i sz hsz
          split at h
          · rename_i src z hsrc hz
            split at h
            · rename_i hzl
              split at h
              · rename_i v ch1 rd1 ob1 hap
                cases h
                rw [Option.bind_eq_some_iff] at hs1 hx1
                obtain ⟨os, hos0, hos⟩ := hs1
                obtain ⟨ox, hox0, hox⟩ := hx1
                have g1 := hev os (mem_args hos0) _ hos
                have g2 := hev ox (mem_args hox0) _ hox
                obtain ⟨cs, hrun⟩ := run_builtin (P := P) (w := w) (ε := ε) hop
                have ha0 : (args.map ε)[0]? = some (ε os) := by simp [hos0]
                have ha1 : (args.map ε)[1]? = some (ε ox) := by simp [hox0]
                obtain ⟨rd0, new, n, ob0⟩ := src
                obtain ⟨u, ρ', w', a1, a2, a3, a4, a5⟩ := appS_sound (P := P) (ty := o.type) hs hap ho g1.1 h0 h1 hd hdx hsz ha0 ha1 (fun hob => srcS_sound hs hsrc hob g2.1) hz hzl
                refine ⟨.value u, u, ρ', w', ?_, .inl rfl, a2, a3, a4, a5⟩
                rw [hrun]
                simp only [builtin]
                exact lift_next a1
              · cases h
            · cases h
          · cases h
        · cases h
      · cases h
    · cases h
  · cases h

theorem srcS_local {m' : Mem} {x : LV} {sz : Nat} {src : List Nat × List Sc × Nat × List Prop} (h : srcS m x sz = some src) (hag : ∀ k ∈ src.1, m' k = m k) : srcS m' x sz = some src := by
  unfold srcS at h ⊢
  split at h
  · cases h; rfl
  · cases h; rfl
  · split at h
    · rename_i hz
      split at h
      · rename_i hk
        split at h
        · rename_i hle
          split at h
          · rename_i hy; cases h; subst hz; simp only [hag _ (List.mem_singleton.2 rfl), hk, if_true]; rw [if_pos hle]; simp only [hy]
          · cases h
        · cases h
      · rename_i hk; cases h; simp only [hag _ (List.mem_singleton.2 rfl), hk, hz, if_true]
      · rename_i hk; cases h; simp only [hag _ (List.mem_singleton.2 rfl), hk, hz, if_true]
      · cases h
    · cases h
  · split at h
    · rename_i hz
      split at h
      · rename_i hk; cases h; simp only [hag _ (List.mem_singleton.2 rfl), hk, hz, if_true]
      · rename_i hk; cases h; simp only [hag _ (List.mem_singleton.2 rfl), hk, hz, if_true]
      · cases h
    · cases h
  · split at h
    · rename_i hz
      split at h
      · rename_i hk; cases h; simp only [hag _ (List.mem_singleton.2 rfl), hk, hz, if_true]
      · cases h
    · cases h
  · cases h

theorem appS0_local {m' : Mem} {nt e sz : Nat} {s : LV} {src : List Nat × List Sc × Nat × List Prop} {r : LV} {ch : List (Nat × Tok)} {rd : List Nat} {ob : List Prop} (hap : appS0 P nt e sz s m src = some (r, ch, rd, ob)) (hag : ∀ k ∈ rd, m' k = m k) :
    (∀ k ∈ src.1, k ∈ rd) ∧ appS0 P nt e sz s m' src = some (r, ch, rd, ob) := by
  unfold appS0 at hap ⊢
  split at hap
  case isFalse => cases hap
  rename_i hc
  split at hap
  · cases hap
    exact ⟨fun k hk => List.mem_cons_of_mem _ hk, by simp only [hag nt (List.mem_cons_self ..)]; rw [if_pos hc]⟩
  · cases hap
    exact ⟨fun k hk => List.mem_cons_of_mem _ hk, by simp only [hag nt (List.mem_cons_self ..)]; rw [if_pos hc]⟩
  · split at hap
    · rename_i hk
      split at hap
      · rename_i hh
        cases hap
        refine ⟨fun k hk => List.mem_cons_of_mem _ (List.mem_cons_of_mem _ hk), ?_⟩
        have e1 := hag nt (List.mem_cons_of_mem _ (List.mem_cons_self ..))
        have e2 := hag _ (List.mem_cons_self ..)
        rw [e1, if_pos hc]
        simp only [e2, hk]
        rw [if_pos hh]
      · cases hap
    · cases hap
  · cases hap

theorem appS_local {m' : Mem} {nt e sz : Nat} {s : LV} {src : List Nat × List Sc × Nat × List Prop} {r : LV} {ch : List (Nat × Tok)} {rd : List Nat} {ob : List Prop} (hap : appS P nt e sz s m src = some (r, ch, rd, ob)) (hag : ∀ k ∈ rd, m' k = m k) :
    (∀ k ∈ src.1, k ∈ rd) ∧ appS P nt e sz s m' src = some (r, ch, rd, ob) := by
  unfold appS at hap ⊢
  split at hap
  · rename_i k l fs hso
    obtain ⟨c, cs, rfl, hk, hle, hfs⟩ := slOwn_some hso
    have hkrd : k ∈ rd := by
      have hap' := hap
      unfold appS0 at hap'
      split at hap'
      case isFalse => cases hap'
      simp only [Mem.set_same] at hap'
      split at hap'
      · cases hap'; exact List.mem_cons_self ..
      · cases hap'
    have e1 : slOwn m' e sz (.sl k 0 l c sz) = some (k, l, fs) := by
      rw [← hso]; unfold slOwn; simp only [hag k hkrd]
    rw [e1]
    have hag' : ∀ j ∈ rd, (m'.set k (.vec e fs)) j = (m.set k (.vec e fs)) j := fun j hj => by
      by_cases e' : j = k
      · rw [e', Mem.set_same, Mem.set_same]
      · rw [Mem.set_other _ _ e', Mem.set_other _ _ e']; exact hag j hj
    exact appS0_local hap hag'
  · rename_i hso
    have key := appS0_local hap hag
    refine ⟨key.1, ?_⟩
    have e1 : slOwn m' e sz s = none := by
      rw [← hso]
      unfold slOwn
      split
      · rename_i k l c z
        have hkrd : k ∈ rd := by
          have hap' := hap
          unfold appS0 at hap'
          split at hap'
          case isFalse => cases hap'
          simp at hap'
        rw [hag k hkrd]
      · rfl
    rw [e1]; exact key.2

theorem memS_local {m' : Mem} {nt : Nat} {op : Op} {ev : Operand → Option LV} {an an' : List Ans} {r : LV} {ch : List (Nat × Tok)} {rd : List Nat} {ob : List Prop} (h : memS P nt op ev m an = some (r, ch, rd, ob, an')) (hag : ∀ k ∈ rd, m' k = m k) :
    memS P nt op ev m' an = some (r, ch, rd, ob, an') := by
  unfold memS at h ⊢
  split at h
  · split at h
    · rename_i k o1 s hp
      split at h
      · rename_i hk
        split at h
        · rename_i hl; cases h; simp only [hag _ (List.mem_singleton.2 rfl), hk, hl]
        · cases h
      · cases h
    · cases h
  · split at h
    · rename_i hp hx hn
      split at h
      · rename_i hk
        split at h
        · rename_i hc; cases h; simp only [hag _ (List.mem_singleton.2 rfl), hk]; rw [if_pos hc]
        · cases h
      · cases h
    · cases h
  · split at h
    · split at h
      · rename_i hc; cases h; simp only [hag _ (List.mem_singleton.2 rfl)]; rw [if_pos hc]
      · cases h
    · split at h
      · rename_i hc; cases h; simp only [hag _ (List.mem_singleton.2 rfl)]; rw [if_pos hc]
      · cases h
    · cases h
  · split at h
    · split at h
      · split at h
        · rename_i hc; cases h; simp only [hag _ (List.mem_singleton.2 rfl)]; rw [if_pos hc]
        · cases h
      · cases h
    · cases h
  · split at h
    · split at h
      · split at h
        · rename_i sz hsz
          split at h
          · rename_i src z hsrc hz
            split at h
            · rename_i hzl
              split at h
              · rename_i v ch1 rd1 ob1 hap
                cases h
                have key := appS_local hap hag
                have a4 := srcS_local hsrc (fun k hk => hag k (key.1 k hk))
                simp only [a4, hz, hzl, if_true, key.2]
              · cases h
            · cases h
          · cases h
        · cases h
      · cases h
    · cases h
  · cases h

/-- The operations on memory, all of them. -/
def memX (P : Program) (nt : Nat) (op : Op) (ev : Operand → Option LV) (m : Mem) (an : List Ans) : MEx :=
  match memC P nt op ev m an with
  | some r => some r
  | none => memS P nt op ev m an

theorem memX_sound {m : Mem} {nt : Nat} {op : Op} {ev : Operand → Option LV} {an an' : List Ans} {r : LV} {ch : List (Nat × Tok)} {rd : List Nat} {ob : List Prop} (h : memX P nt op ev m an = some (r, ch, rd, ob, an')) (ho : AllP ob) {M : Mem} (hag : ∀ k ∈ rd, M k = m k)
    (hs : Sim w0 pr ρ M w) {ε : Operand → Value} (hev : ∀ x ∈ op.operands, ∀ lx, ev x = some lx → VR ρ lx (ε x) ∧ lx.wf (al M)) {o : Oper} (hop : o.op = op) : MGives P w0 pr ρ M w (execOp ε o) r ch := by
  unfold memX at h
  split at h
  · rename_i x hx
    cases h
    exact memC_sound hs (memC_local hx hag).1 ho hev hop
  · exact memS_sound hs (memS_local h hag) ho hev hop
end

end Go.Vse
