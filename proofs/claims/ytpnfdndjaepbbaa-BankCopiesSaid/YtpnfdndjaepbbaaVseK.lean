/- The executor's operations on memory are right. -/
import Derived.Test.YtpnfdndjaepbbaaVseJ
namespace Go.Vse
open Go

section
variable [AbstRep]
variable {P : Program} {ρ : Env} {m : Mem} {w w0 : World} {pr : Nat → Prop}

def MGives (P : Program) (w0 : World) (pr : Nat → Prop) (ρ : Env) (m : Mem) (w : World) (s : Sem Next) (r : LV) (ch : List (Nat × Tok)) : Prop :=
  ∃ nx v ρ' w', s.run P w = .ok nx w' ∧ (nx = .value v ∨ (nx = .skip ∧ v = undef)) ∧ (∀ k, al m k → ρ' k = ρ k) ∧ VR ρ' r v ∧ r.wf (al (m.sets ch)) ∧ Sim w0 pr ρ' (m.sets ch) w'

theorem al_set_new {nt : Nat} {t : Tok} (ht : t.isFree = false) : al (m.set nt t) nt := by unfold al; rw [Mem.set_same]; exact ht

/-- A new block, a value that names it. -/
theorem alloc_gives (hs : Sim w0 pr ρ m w) {nt : Nat} (hf : (m nt).isFree = true) {T : TypeId} {cs : List LV} {vs sp : List Value} (hv : VRs ρ cs vs) (hw : wfL (al m) cs) {s : Sem Next} {v : Value} {r : LV}
    (hrun : s.run P w = .ok (.value v) (w.alloc (.cells (vs ++ sp).toArray T (0, 0)))) (hr : VR (ρ.upd nt (w.heap.size, (vs ++ sp).length)) r v) (hrw : r.wf (al (m.set nt (.cells true T cs)))) :
    MGives P w0 pr ρ m w s r [(nt, .cells true T cs)] := by
  obtain ⟨hag, hS⟩ := hs.alloc hf (t := .cells true T cs) (.of rfl hw) (o := .cells (vs ++ sp).toArray T (0, 0)) (sz := (vs ++ sp).length) ⟨vs, sp, rfl, hv, rfl⟩
  exact ⟨_, v, _, _, hrun, .inl rfl, hag, hr, hrw, hS⟩

omit [AbstRep] in
theorem lift_next {s : Sem Value} {v : Value} {w' : World} (h : s.run P w = .ok v w') : ((do pure (.value (← s)) : Sem Next)).run P w = .ok (.value v) w' := by
  simp only [Sem.run_bind, h, Result.andThen, Sem.run_pure]
omit [AbstRep] in
theorem lift_skip {s : Sem Unit} {w' : World} (h : s.run P w = .ok () w') : ((do s; pure .skip : Sem Next)).run P w = .ok .skip w' := by
  simp only [Sem.run_bind, h, Result.andThen, Sem.run_pure]

omit [AbstRep] in
theorem firstCells_run {b o n sz l cap : Nat} {L : List Value} {T : TypeId} {fz : Nat × Nat} (h : w.heap[b]? = some (.cells L.toArray T fz)) (hl : o + n * sz ≤ L.length) :
    (Builtin.firstCells sz n (.slice (some ⟨b, o, none⟩) l cap)).run P w = .ok ((L.drop o).take (n * sz)).toArray w := by
  have := run_loadCells (P := P) h o (n * sz) 0 #[] (by omega)
  simp only [Builtin.firstCells, loadCells, this, Nat.add_zero]
  congr 1
  simp

section
variable {ts tx : TypeId} {e sz : Nat} {argTypes : Array TypeId} {ty : TypeId} {args : Array Value} {base : Option Addr} {l cap n : Nat} {x : Value} {e' : TypeId} {us old : List Value} {dx : TypeDesc} {i : TypeInfo}

omit [AbstRep] in
/-- append of a slice, where the room is there. -/
theorem append_in {w' : World} (h0 : argTypes[0]? = some ts) (h1 : argTypes[1]? = some tx) (hu : P.underlying ts = some (.slice e)) (hx : P.underlying tx = some (.slice e')) (hsz : sizL P e = some sz) (ha0 : args[0]? = some (.slice base l cap)) (ha1 : args[1]? = some x)
    (hn : (Builtin.lenOf x).run P w = .ok n w) (hnew : (Builtin.firstCells sz n x).run P w = .ok us.toArray w)
    (hle : l + n ≤ cap) (hst : ∀ a, base = some a → (storeCells (a.add (l * sz)) us).run P w = .ok () w') (hst0 : base = none → w' = w) :
    (Builtin.append_ argTypes ty args).run P w = .ok (.slice base (l + n) cap) w' := by
  cases base with
  | none =>
    have := hst0 rfl
    subst this
    simp [Builtin.append_, h0, h1, ha0, ha1, run_underlying hu, run_underlying hx, run_sizeL hsz, Result.andThen, hn, hle, hnew]
  | some a =>
    have := hst a rfl
    simp [Builtin.append_, h0, h1, ha0, ha1, run_underlying hu, run_underlying hx, run_sizeL hsz, Result.andThen, hn, hle, hnew, this]

omit [AbstRep] in
theorem info_of_siz (h : sizL P e = some sz) : ∃ i, P.info? e = some i ∧ i.size = sz := by
  unfold sizL at h
  cases hi : P.info? e with
  | none => rw [hi] at h; cases h
  | some i => rw [hi] at h; cases h; exact ⟨i, rfl, rfl⟩

omit [AbstRep] in
theorem bytesOf_info {i : TypeInfo} (h : P.info? e = some i) : P.bytesOf e = i.bytes := by simp [Program.bytesOf, h]

omit [AbstRep] in
/-- append of a slice, where it has to grow: some capacity, a new block. -/
theorem append_out (h0 : argTypes[0]? = some ts) (h1 : argTypes[1]? = some tx) (hu : P.underlying ts = some (.slice e)) (hx : P.underlying tx = some (.slice e')) (hsz : sizL P e = some sz) (ha0 : args[0]? = some (.slice base l cap)) (ha1 : args[1]? = some x)
    (hn : ∀ d, (Builtin.lenOf x).run P { w with drawn := d } = .ok n { w with drawn := d }) (hnew : ∀ d, (Builtin.firstCells sz n x).run P { w with drawn := d } = .ok us.toArray { w with drawn := d })
    (hold : ∀ d, (Builtin.firstCells sz l (.slice base l cap)).run P { w with drawn := d } = .ok old.toArray { w with drawn := d })
    {z : Value} (hzero : ∀ d, (zeroValue e).run P { w with drawn := d } = .ok z { w with drawn := d })
    (hgt : ¬ l + n ≤ cap) (hb : bytesOk P e (l + n) = true) :
    ∃ newCap d, l + n ≤ newCap ∧ (Builtin.append_ argTypes ty args).run P w = .ok (.slice (some ⟨({ w with drawn := d } : World).heap.size, 0, none⟩) (l + n) newCap) ({ w with drawn := d }.alloc (.cells (old ++ us ++ (Builtin.zeroCells z.cells (newCap - (l + n))).toList).toArray e (0, 0))) := by
  obtain ⟨i, hi, _⟩ := info_of_siz hsz
  simp only [bytesOk, bytesOf_info hi, Bool.and_eq_true, decide_eq_true_eq] at hb
  have hfit := growslice_fits (need := l + n) (old := cap) (bytes := i.bytes) (by omega) hb.1
  have hmax : ¬ ((9223372036854775807 : Int) < (l : Int) + (n : Int)) := by omega
  refine ⟨(l + n) + (w.tape w.drawn (.appendCap (l + n) cap e)) % (2 ^ 63 - (l + n)), w.drawn + 1, by omega, ?_⟩
  have hn0 : (Builtin.lenOf x).run P w = .ok n w := hn w.drawn
  have hnew' := hnew (w.drawn + 1)
  have hold' := hold (w.drawn + 1)
  have hzero' := hzero (w.drawn + 1)
  have hfo : (Question.appendCap (l + n) cap e).forced = false := rfl
  have hcut : (Question.appendCap (l + n) cap e).cut (w.tape w.drawn (.appendCap (l + n) cap e)) = (l + n) + (w.tape w.drawn (.appendCap (l + n) cap e)) % (2 ^ 63 - (l + n)) := rfl
  have hdr : w.drew = { w with drawn := w.drawn + 1 } := rfl
  clear hn hnew hold hzero
  generalize ({ w with drawn := w.drawn + 1 } : World) = w1 at *
  generalize (l + n) + (w.tape w.drawn (.appendCap (l + n) cap e)) % (2 ^ 63 - (l + n)) = newCap at *
  simp [Builtin.append_, h0, h1, ha0, ha1, run_underlying hu, run_underlying hx, run_sizeL hsz, Result.andThen, hn0, hgt, typeInfo, hi, hmax, Nat.not_lt.2 hfit, hfo, hcut, hdr, hold', hnew', hzero', newRow]
  congr 1
  simp


omit [AbstRep] in
/-- append of fresh zeros to nil ('append(nil, make([]T, n)...)'). -/
theorem appendz_out {kx : IntKind} (h0 : argTypes[0]? = some ts) (h1 : argTypes[1]? = some tx) (hu : P.underlying ts = some (.slice e)) (hx : P.underlying tx = some (.int kx)) (hsz : sizL P e = some sz) (ha0 : args[0]? = some (.slice none 0 0)) (ha1 : args[1]? = some (.int .i64 n))
    (hn : n ≤ 1000000) (hn0 : 0 < n) (hsz0 : sz ≠ 0) (hb : bytesOk P e n = true) {z : Value} (hzero : ∀ W : World, (zeroValue e).run P W = .ok z W) :
    ∃ newCap d, n ≤ newCap ∧ (Builtin.append_ argTypes ty args).run P w = .ok (.slice (some ⟨({ w with drawn := d } : World).heap.size, 0, none⟩) n newCap) ({ w with drawn := d }.alloc (.cells ((Builtin.zeroCells z.cells n).toList ++ (Builtin.zeroCells z.cells (newCap - n)).toList).toArray e (0, 0))) := by
  obtain ⟨i, hi, _⟩ := info_of_siz hsz
  simp only [bytesOk, bytesOf_info hi, Bool.and_eq_true, decide_eq_true_eq] at hb
  have hwr : IntKind.i64.wrap ((n : Nat) : Int) = n := by rw [← fwrap_eq]; simp only [fwrap]; rw [if_pos]; simp; omega
  have hneg : ¬ ((n : Int) < 0) := by omega
  have hbig : ¬ ((281474976710656 : Int) < (n : Int) * (i.bytes : Int)) := by
    have h2 : ((n * i.bytes : Nat) : Int) = (n : Int) * (i.bytes : Int) := by simp
    omega
  have hmax : ¬ ((9223372036854775807 : Int) < (n : Int)) := by omega
  have hfit := growslice_fits (need := n) (old := 0) (bytes := i.bytes) (by omega) hb.1
  have hnn : ¬ n = 0 := by omega
  refine ⟨n + (w.tape w.drawn (.appendCap n 0 e)) % (2 ^ 63 - n), w.drawn + 1, by omega, ?_⟩
  have hfo : (Question.appendCap n 0 e).forced = false := rfl
  have hcut : (Question.appendCap n 0 e).cut (w.tape w.drawn (.appendCap n 0 e)) = n + (w.tape w.drawn (.appendCap n 0 e)) % (2 ^ 63 - n) := rfl
  have hdr : w.drew = { w with drawn := w.drawn + 1 } := rfl
  generalize ({ w with drawn := w.drawn + 1 } : World) = w1 at *
  generalize n + (w.tape w.drawn (.appendCap n 0 e)) % (2 ^ 63 - n) = newCap at *
  simp [Builtin.append_, h0, h1, ha0, ha1, run_underlying hu, run_underlying hx, run_sizeL hsz, Result.andThen, asInt, asIntOf, hwr, hneg, typeInfo, hi, hbig, hmax, hnn, Nat.not_lt.2 hfit, hfo, hcut, hdr, hzero, newRow, Builtin.firstCells]
  rw [if_neg (by intro h; rcases Nat.mul_eq_zero.1 h with h | h <;> omega)]
  simp
  congr 2
  simp

end

omit [AbstRep] in
theorem zeroCells_VRs {zl : LV} {z : Value} (hza : zl.isAny = false) (hz : VR ρ zl z) (n : Nat) : VRs ρ (repZ (cellsL zl) (n * (cellsL zl).length)) (Builtin.zeroCells z.cells n).toList := by
  have h := repZ_VRs (cells_VRs hza hz) (c := n)
  have hl := VRs_length (cells_VRs hza hz)
  have e : (Builtin.zeroCells z.cells n).toList = (List.range (n * (cellsL zl).length)).map fun i => z.cells[i % z.cells.size]! := by
    have : z.cells.size = (cellsL zl).length := by rw [← hl]; simp
    simp [Builtin.zeroCells, this]
  rw [e]; exact h

omit [AbstRep] in
theorem take_append_known {vs sp : List Value} {o n : Nat} (h : o + n ≤ vs.length) : ((vs ++ sp).drop o).take n = (vs.drop o).take n := by
  rw [List.drop_append_of_le_length (by omega), List.take_append_of_le_length (by simp; omega)]

omit [AbstRep] in
theorem splice_append_known {vs sp us : List Value} {o : Nat} (h : o + us.length ≤ vs.length) : spliceL (vs ++ sp) o us = spliceL vs o us ++ sp := by
  unfold spliceL
  rw [List.take_append_of_le_length (by omega), List.drop_append_of_le_length (by omega)]
  simp

/-- The cells of a source, read. -/
theorem srcX_sound {W : World} (hs : Sim w0 pr ρ m W) {x : LV} {sz : Nat} {rd : List Nat} {new : List LV} {n : Nat} (h : srcX m x sz = some (rd, new, n)) {v : Value} (hv : VR ρ x v) :
    (∀ d, (Builtin.lenOf v).run P { W with drawn := d } = .ok n { W with drawn := d }) ∧ ∃ us : List Value, VRs ρ new us ∧ wfL (al m) new ∧ new.length = n * sz ∧
      (∀ d, (Builtin.firstCells sz n v).run P { W with drawn := d } = .ok us.toArray { W with drawn := d }) := by
  unfold srcX at h
  split at h
  · cases h
    simp only [VR] at hv; subst hv
    exact ⟨fun d => by simp [Builtin.lenOf], [], by simp [VRs], by simp [wfL], by simp, fun d => by simp [Builtin.firstCells]⟩
  · cases h
    simp only [VR] at hv; obtain ⟨o', rfl⟩ := hv
    refine ⟨fun d => by simp [Builtin.lenOf], [], by simp [VRs], by simp [wfL], by simp, fun d => ?_⟩
    simp [Builtin.firstCells, loadCells, loadCellsFrom]
  · rename_i k o l c z
    split at h
    · rename_i rw T cs hk
      split at h
      · rename_i hc
        obtain ⟨rfl, hc⟩ := hc
        cases h
        obtain ⟨vs, sp, hb, hvs, hl, hwf⟩ := hs.block hk
        simp only [VR, SlR] at hv
        obtain ⟨o', cap, rfl, h1, h2, h3⟩ := hv
        have hlen := VRs_length hvs
        refine ⟨fun d => by simp [Builtin.lenOf], (vs.drop o).take (n * z), VRs_take (VRs_drop hvs o) _, wfL_take (wfL_drop hwf _) _, by simp; omega, fun d => ?_⟩
        rcases h3 with ⟨rfl, h4⟩ | h4
        · have := firstCells_run (P := P) (w := { W with drawn := d }) (b := (ρ k).1) (o := o') (n := n) (sz := z) (l := n) (cap := cap) (L := vs ++ sp) hb (by simp; omega)
          rw [take_append_known (by omega)] at this
          exact this
        · have : n = 0 := by omega
          subst this
          simp [Builtin.firstCells, loadCells, loadCellsFrom]
      · cases h
    · cases h
  · cases h

theorem Sim.putEq (hs : Sim w0 pr ρ m w) {k : Nat} {T : TypeId} {cs : List LV} (hk : m k = .cells true T cs) {cs' : List LV} {vs' sp' : List Value} (hv : VRs ρ cs' vs') (hw : wfL (al m) cs') (hl : (vs' ++ sp').length = (ρ k).2) :
    Sim w0 pr ρ (m.set k (.cells true T cs')) (w.putObj (ρ k).1 (.cells (vs' ++ sp').toArray T (0, 0))) :=
  hs.put (t := .cells true T cs') (by rw [hk]; rfl) (.of rfl hw) ⟨vs', sp', rfl, hv, hl⟩


omit [AbstRep] in
theorem zeroL_run {t : TypeId} {x : LV} (h : zeroL P t = some x) : ∃ v, (∀ W : World, (zeroValue t).run P W = .ok v W) ∧ ∀ (ρ : Env) (A : Nat → Prop), VR ρ x v ∧ x.wf A := by
  unfold zeroL at h
  cases hi : P.info? t with
  | none => rw [hi] at h; cases h
  | some i =>
    rw [hi] at h
    simp only [Option.bind_some] at h
    cases hz : i.zero with
    | none => rw [hz] at h; cases h
    | some z =>
      rw [hz] at h
      exact ⟨z, fun W => by simp [zeroValue, typeInfo, hi, hz, Result.andThen], fun ρ A => ofVal_sound h⟩

/-- What append hands back, whatever the source was. -/
theorem appendX_sound (hs : Sim w0 pr ρ m w) {nt e sz : Nat} {s : LV} {rd rd' : List Nat} {new : List LV} {n : Nat} {r : LV} {ch : List (Nat × Tok)} (h : appendX P nt e sz s rd new n m = some (r, ch, rd'))
    {su x : Value} (hsu : VR ρ s su) (hsw : s.wf (al m)) {us : List Value} (hus : VRs ρ new us) (hnw : wfL (al m) new)
    {ts tx e' : TypeId} {argTypes : Array TypeId} {ty : TypeId} {args : Array Value}
    (h0 : argTypes[0]? = some ts) (h1 : argTypes[1]? = some tx) (hu : P.underlying ts = some (.slice e)) (hx : P.underlying tx = some (.slice e')) (hsz : sizL P e = some sz) (ha0 : args[0]? = some su) (ha1 : args[1]? = some x)
    (hn : ∀ d, (Builtin.lenOf x).run P { w with drawn := d } = .ok n { w with drawn := d }) (hnew : ∀ d, (Builtin.firstCells sz n x).run P { w with drawn := d } = .ok us.toArray { w with drawn := d })
    {z : LV} (hz : zeroL P e = some z) (hzl : (cellsL z).length = sz) :
    ∃ v ρ' w', (Builtin.append_ argTypes ty args).run P w = .ok v w' ∧ (∀ k, al m k → ρ' k = ρ k) ∧ VR ρ' r v ∧ r.wf (al (m.sets ch)) ∧ Sim w0 pr ρ' (m.sets ch) w' := by
  have hul := VRs_length hus
  have hn0 : (Builtin.lenOf x).run P w = .ok n w := hn w.drawn
  have hnew0 : (Builtin.firstCells sz n x).run P w = .ok us.toArray w := hnew w.drawn
  obtain ⟨zv, hzr, hzv⟩ := zeroL_run hz
  have hzn : ∀ c, (Builtin.zeroCells zv.cells c).toList.length = c * sz := fun c => by
    have := VRs_length (zeroCells_VRs (zeroL_any hz) (hzv ρ (al m)).1 c)
    rw [this]; simp [repZ, hzl]
  unfold appendX at h
  split at h
  case isFalse => cases h
  rename_i hall
  obtain ⟨hscal, hnl⟩ := hall
  have huscal := scal_VRs hscal hus
  -- a new block
  have fresh : ∀ (base : Option Addr) (l cap : Nat) (known : List LV) (old : List Value) (m1 : Mem) , Sim w0 pr ρ m1 w → (∀ k, al m k → al m1 k) → su = .slice base l cap → VRs ρ known old → wfL (al m) known → known.length = l * sz →
      (∀ d, (Builtin.firstCells sz l (.slice base l cap)).run P { w with drawn := d } = .ok old.toArray { w with drawn := d }) → ¬ l + n ≤ cap → bytesOk P e (l + n) = true → (m1 nt).isFree = true →
      ∃ v ρ' w', (Builtin.append_ argTypes ty args).run P w = .ok v w' ∧ (∀ k, al m1 k → ρ' k = ρ k) ∧ VR ρ' (.sl nt 0 (l + n) (l + n) sz) v ∧ Sim w0 pr ρ' (m1.set nt (.cells true e (known ++ new))) w' := by
    intro base l cap known old m1 hs1 hal1 hsue hko hkw hkl hold hgt hb hf
    subst hsue
    obtain ⟨newCap, d, hcap, hrun⟩ := append_out (w := w) (ty := ty) h0 h1 hu hx hsz ha0 ha1 hn hnew hold (fun d => hzr _) hgt hb
    have hT : TR ρ ((old ++ us) ++ (Builtin.zeroCells zv.cells (newCap - (l + n))).toList).length (.cells true e (known ++ new)) (some (.cells ((old ++ us) ++ (Builtin.zeroCells zv.cells (newCap - (l + n))).toList).toArray e (0, 0))) :=
      ⟨old ++ us, _, rfl, VRs_append hko hus, rfl⟩
    obtain ⟨hag, hS⟩ := (hs1.drew d).alloc hf (t := .cells true e (known ++ new)) (.of rfl (wfL_mono hal1 _ (wfL_append.2 ⟨hkw, hnw⟩))) hT
    refine ⟨_, _, _, hrun, hag, ?_, hS⟩
    simp only [VR, SlR, Env.upd_same]
    refine ⟨0, newCap, rfl, by omega, by omega, .inl ⟨rfl, ?_⟩⟩
    have hol := VRs_length hko
    simp only [List.length_append, hol, hul, hkl, hnl, hzn, Nat.zero_add]
    rw [← Nat.add_mul, ← Nat.add_mul]
    exact Nat.mul_le_mul_right _ (by omega)
  split at h
  · -- onto nil
    simp only [VR] at hsu
    split at h
    · rename_i hn00
      cases h
      subst hn00
      subst hsu
      exact ⟨_, ρ, w, append_in (l := 0) (cap := 0) (us := us) (w' := w) h0 h1 hu hx hsz ha0 ha1 hn0 hnew0 (by omega) (fun a h => by cases h) (fun _ => rfl), fun _ _ => rfl, by simp [VR], by simp [LV.wf], hs⟩
    · rename_i hn00
      split at h
      · rename_i hc
        cases h
        obtain ⟨v, ρ', w', a1, a2, a3, a4⟩ := fresh none 0 0 [] [] m hs (fun _ h => h) hsu (by simp [VRs]) (by simp [wfL]) (by simp) (fun d => by simp [Builtin.firstCells]) (by omega) (by simpa using hc.2) hc.1
        rw [Nat.zero_add] at a3
        exact ⟨v, ρ', w', a1, a2, a3, by simp only [LV.wf, Mem.sets]; exact al_set_new rfl, a4⟩
      · cases h
  · -- onto an empty piece without room
    rename_i k
    simp only [VR] at hsu
    obtain ⟨o', hsu⟩ := hsu
    split at h
    · rename_i hn00
      cases h
      subst hn00
      subst hsu
      have husn : us = [] := List.length_eq_zero_iff.1 (by rw [hul, hnl]; simp)
      exact ⟨_, ρ, w, append_in (l := 0) (cap := 0) (us := us) (w' := w) h0 h1 hu hx hsz ha0 ha1 hn0 hnew0 (by omega) (fun a h => by cases h; rw [husn]; simp [storeCells]) (fun h => by cases h), fun _ _ => rfl, by simp only [VR]; exact ⟨o', rfl⟩, hsw, hs⟩
    · rename_i hn00
      split at h
      · rename_i hc
        cases h
        obtain ⟨v, ρ', w', a1, a2, a3, a4⟩ := fresh _ 0 0 [] [] m hs (fun _ h => h) hsu (by simp [VRs]) (by simp [wfL]) (by simp) (fun d => by simp [Builtin.firstCells, loadCells, loadCellsFrom]) (by omega) (by simpa using hc.2) hc.1
        rw [Nat.zero_add] at a3
        exact ⟨v, ρ', w', a1, a2, a3, by simp only [LV.wf, Mem.sets]; exact al_set_new rfl, a4⟩
      · cases h
  · -- onto a slice
    rename_i k o l c zz
    simp only [VR, SlR] at hsu
    obtain ⟨o', cap, hsu, hlc, hcc, hor⟩ := hsu
    split at h
    case isFalse => cases h
    rename_i hzz
    subst hzz
    have hsl : VR ρ (.sl k o l c zz) su := by simp only [VR, SlR]; exact ⟨o', cap, hsu, hlc, hcc, hor⟩
    split at h
    · rename_i hn00
      cases h
      subst hn00
      subst hsu
      have husn : us = [] := List.length_eq_zero_iff.1 (by rw [hul, hnl]; simp)
      exact ⟨_, ρ, w, append_in (l := l) (cap := cap) (us := us) (w' := w) h0 h1 hu hx hsz ha0 ha1 hn0 hnew0 (by omega) (fun a h => by rw [husn]; simp [storeCells]) (fun h => by cases h), fun _ _ => rfl, hsl, hsw, hs⟩
    · rename_i hn00
      split at h
      · rename_i T cs hk
        obtain ⟨vs, sp, hb, hvs, hvl, hwf⟩ := hs.block hk
        have hlen := VRs_length hvs
        split at h
        · rename_i hroom
          split at h
          · rename_i hfit
            cases h
            have hoo : o' = o := by
              rcases hor with h | h
              · exact h.1
              · omega
            subst hoo
            have hmul : (l + n) * zz = l * zz + n * zz := Nat.add_mul _ _ _
            have hst := run_storeCells (P := P) (b := (ρ k).1) (T := T) us w (vs ++ sp) (o' + l * zz) 0 hb huscal (by simp; omega)
            rw [Nat.add_zero, splice_append_known (by omega)] at hst
            have hS := hs.putEq hk (cs' := spliceL cs (o' + l * zz) new) (vs' := spliceL vs (o' + l * zz) us) (sp' := sp) (VRs_splice hvs hus _) (wfL_splice hwf hnw _) (by
              simp only [List.length_append] at hvl ⊢; rw [spliceL_length (by omega)]; exact hvl)
            subst hsu
            refine ⟨_, ρ, _, append_in (l := l) (cap := cap) (us := us) h0 h1 hu hx hsz ha0 ha1 hn0 hnew0 (by omega) (fun a h => by cases h; rw [add_off]; exact hst) (fun h => by cases h), fun _ _ => rfl, ?_, ?_, hS⟩
            · simp only [VR, SlR]; exact ⟨o', cap, rfl, by omega, hcc, hor⟩
            · simp only [LV.wf, Mem.sets]; exact al_set_new rfl
          · cases h
        · rename_i hroom
          split at h
          · rename_i hc
            obtain ⟨ho0, hTe, hlz, hf, hbk⟩ := hc
            subst ho0
            subst hTe
            cases h
            have hkw : (m k).isRw = true := by rw [hk]; rfl
            have hkal : al m k := isRw_nonfree hkw
            have hknt : k ≠ nt := fun e => by subst e; unfold al at hkal; rw [hkal] at hf; cases hf
            by_cases hroom' : l + n ≤ cap
            · -- in place
              have hoo : o' = 0 := by
                rcases hor with h | h
                · exact h.1
                · omega
              subst hoo
              have hcap : cap * zz ≤ (ρ k).2 := by
                rcases hor with h | h
                · simpa using h.2
                · omega
              have hmul : (l + n) * zz = l * zz + n * zz := Nat.add_mul _ _ _
              have hle2 : (l + n) * zz ≤ cap * zz := Nat.mul_le_mul_right _ hroom'
              have hst := run_storeCells (P := P) (b := (ρ k).1) (T := T) us w (vs ++ sp) (l * zz) 0 hb huscal (by omega)
              rw [Nat.add_zero] at hst
              have hsp : spliceL (vs ++ sp) (l * zz) us = (vs.take (l * zz) ++ us) ++ (vs ++ sp).drop (l * zz + us.length) := by
                unfold spliceL
                rw [List.take_append_of_le_length (by omega)]
              have hT : TR ρ (ρ k).2 (.cells true T (cs.take (l * zz) ++ new)) (some (.cells (spliceL (vs ++ sp) (l * zz) us).toArray T (0, 0))) := by
                refine ⟨vs.take (l * zz) ++ us, (vs ++ sp).drop (l * zz + us.length), by rw [hsp], VRs_append (VRs_take hvs _) hus, ?_⟩
                rw [← hsp, spliceL_length (by omega)]; exact hvl
              obtain ⟨hag, hS⟩ := hs.move hkw hf (t := .cells true T (cs.take (l * zz) ++ new)) (.of rfl (wfL_append.2 ⟨wfL_take hwf _, hnw⟩)) hT
              subst hsu
              refine ⟨_, _, _, append_in (l := l) (cap := cap) (us := us) h0 h1 hu hx hsz ha0 ha1 hn0 hnew0 hroom' (fun a h => by cases h; rw [add_off, Nat.zero_add]; exact hst) (fun h => by cases h), hag, ?_, ?_, hS⟩
              · simp only [VR, SlR, Env.upd_same]; exact ⟨0, cap, rfl, by omega, by omega, .inl ⟨rfl, by simpa using hcap⟩⟩
              · simp only [LV.wf, Mem.sets]; exact al_set_new rfl
            · have hold : ∀ d, (Builtin.firstCells zz l (.slice (some ⟨(ρ k).1, o', none⟩) l cap)).run P { w with drawn := d } = .ok (vs.take (l * zz)).toArray { w with drawn := d } := by
                intro d
                rcases hor with ⟨h, _⟩ | h
                · rw [h]
                  have := firstCells_run (P := P) (w := { w with drawn := d }) (b := (ρ k).1) (o := 0) (n := l) (sz := zz) (l := l) (cap := cap) (L := vs ++ sp) hb (by simp; omega)
                  rw [take_append_known (by omega)] at this
                  simpa using this
                · have : l = 0 := by omega
                  subst this
                  simp [Builtin.firstCells, loadCells, loadCellsFrom]
              have hf1 : ((m.set k .hid) nt).isFree = true := by rw [Mem.set_other m _ hknt.symm]; exact hf
              have hal1 : ∀ j, al m j → al (m.set k .hid) j := fun j hj => by
                unfold al; by_cases e : j = k
                · rw [e, Mem.set_same]; rfl
                · rw [Mem.set_other m _ e]; exact hj
              obtain ⟨v, ρ', w', a1, a2, a3, a4⟩ := fresh _ l cap (cs.take (l * zz)) (vs.take (l * zz)) (m.set k .hid) (hs.forget k hkal) hal1 hsu (VRs_take hvs _) (wfL_take hwf _) (by simp; omega) hold hroom' hbk hf1
              exact ⟨v, ρ', w', a1, fun j hj => a2 j (hal1 j hj), a3, by simp only [LV.wf, Mem.sets]; exact al_set_new rfl, a4⟩
          · cases h
      · cases h
  · cases h

end
end Go.Vse
