/- The executor's operations on memory: the sum; what they look at. -/
import Derived.Test.YtpnfdndjaepbbaaVseK
namespace Go.Vse
open Go

section
variable [AbstRep]
variable {P : Program} {ρ : Env} {m : Mem} {w w0 : World} {pr : Nat → Prop}

theorem loadX_sound {t : TypeId} {cs : List LV} {o : Nat} {sym : Bool} {an an' : List Ans} {r : LV} {ob : List Prop} (h : loadX P t cs o sym an = some (r, ob, an')) (ho : AllP ob) {b : Nat} {T : TypeId} {vs sp : List Value} {fz : Nat × Nat} (hb : w.heap[b]? = some (.cells (vs ++ sp).toArray T fz))
    (hv : VRs ρ cs vs) {A : Nat → Prop} (hw : wfL A cs) : Gives P ρ A w (loadVar t ⟨b, o, none⟩) r := by
  have hlen := VRs_length hv
  have agg : ∀ n, aggB P t = some true → sizL P t = some n → o + n ≤ cs.length → Gives P ρ A w (loadVar t ⟨b, o, none⟩) (.agg ((cs.drop o).take n)) := by
    intro n ha hs hle
    refine ⟨.agg ((vs.drop o).take n).toArray, ?_, by simp only [VR]; exact ⟨_, rfl, VRs_take (VRs_drop hv o) n⟩, by simp only [LV.wf]; exact wfL_take (wfL_drop hw o) n⟩
    have h1 := run_loadCells (P := P) hb o n 0 #[] (by simp; omega)
    unfold loadVar
    simp only [Sem.run_bind, run_isAggL ha, Result.andThen, if_true, run_sizeL hs, loadCells, h1, Sem.run_pure]
    rw [Nat.add_zero, take_append_known (by omega)]
    simp
  have one : ∀ x, aggB P t = some false → cs[o]? = some x → Gives P ρ A w (loadVar t ⟨b, o, none⟩) x := by
    intro x ha hx
    obtain ⟨v, h1, h2⟩ := VRs_get hv o x hx
    refine ⟨v, ?_, h2, by rw [wfL_iff] at hw; exact hw x (List.mem_of_getElem? hx)⟩
    have hc : w.cell? ⟨b, o, none⟩ = some v := by
      rw [cell_at hb]
      rw [List.getElem?_append_left]
      · exact h1
      · exact (List.getElem?_eq_some_iff.1 h1).1
    unfold loadVar
    simp only [Sem.run_bind, run_isAggL ha, Result.andThen, Bool.false_eq_true, if_false]
    simp [load, Sem.run, hc]
  unfold loadX at h
  split at h
  · split at h
    · rename_i vs' an1 n han ha hs
      split at h
      · rename_i hl
        cases h
        simp only [AllP, and_true] at ho
        have hle : o + vs'.length ≤ cs.length ∨ vs'.length = 0 := by
          have := congrArg List.length ho
          simp only [List.length_take, List.length_drop] at this
          omega
        rcases hle with hle | hle
        · rw [← ho]; exact agg n ha hs (by omega)
        · have hn0 : n = 0 := by omega
          have hvs' : vs' = [] := List.length_eq_zero_iff.1 hle
          subst hvs'
          refine ⟨.agg #[], ?_, by simp only [VR]; exact ⟨[], rfl, by simp [VRs]⟩, by simp [LV.wf, wfL]⟩
          unfold loadVar
          simp only [Sem.run_bind, run_isAggL ha, Result.andThen, if_true, run_sizeL hs, hn0, loadCells, loadCellsFrom, Sem.run_pure]
      · cases h
    · rename_i x an1 n han ha hs
      cases h
      simp only [AllP, and_true] at ho
      exact one _ ha ho
    · cases h
  · split at h
    · rename_i v hv'
      cases h
      unfold partL at hv'
      split at hv'
      · rename_i n ha hs
        split at hv'
        · rename_i hle; cases hv'; exact agg n ha hs hle
        · cases hv'
      · rename_i ha; exact one _ ha hv'
      · cases hv'
    · cases h

omit [AbstRep] in
theorem ptrOf_VR {x : LV} {k o : Nat} {s : Bool} (h : ptrOf x = some (k, o, s)) {v : Value} (hv : VR ρ x v) : v = .pointer (some ⟨(ρ k).1, o, none⟩) := by
  unfold ptrOf at h
  split at h
  · cases h; simpa only [VR] using hv
  · cases h; simpa only [VR] using hv
  · cases h

theorem store_sound (hs : Sim w0 pr ρ m w) {k : Nat} {T : TypeId} {cs : List LV} (hk : m k = .cells true T cs) {t : TypeId} {n o : Nat} (hsz : sizL P t = some n) {x : LV} {v : Value} (hv : VR ρ x v) (hw : x.wf (al m)) (hl : (cellsL x).length = n) (hsc : (cellsL x).all scalL = true) (hle : o + n ≤ cs.length) :
    ∃ w', (storeVar t ⟨(ρ k).1, o, none⟩ v).run P w = .ok () w' ∧ Sim w0 pr ρ (m.set k (.cells true T (spliceL cs o (cellsL x)))) w' := by
  obtain ⟨vs, sp, hb, hvs, hvl, hwf⟩ := hs.block hk
  have hlen := VRs_length hvs
  have hxa : x.isAny = false := by cases x <;> first | rfl | simp [cellsL, scalL] at hsc
  have hcv := cells_VRs hxa hv
  have hcl := VRs_length hcv
  have hst := run_storeCells (P := P) (b := (ρ k).1) (T := T) v.cells.toList w (vs ++ sp) o 0 hb (scal_VRs hsc hcv) (by rw [List.length_append, hcl, hl]; omega)
  rw [Nat.add_zero, splice_append_known (by omega)] at hst
  refine ⟨_, ?_, hs.putEq hk (cs' := spliceL cs o (cellsL x)) (vs' := spliceL vs o v.cells.toList) (sp' := sp) (VRs_splice hvs hcv _) (wfL_splice hwf (cells_wf hw) _) (by
      simp only [List.length_append] at hvl ⊢; rw [spliceL_length (by omega)]; exact hvl)⟩
  have hcs : v.cells.size = n := by rw [← Array.length_toList, hcl, hl]
  unfold storeVar
  simp only [Sem.run_bind, run_sizeL hsz, Result.andThen, hcs, ne_eq, not_true_eq_false, if_false]
  exact hst

omit [AbstRep] in
theorem mem_args {c : Call} {j : Nat} {x : Operand} (h : c.args[j]? = some x) : x ∈ (Op.call c).operands := by
  simp only [Op.operands, Call.operands]
  exact Array.mem_append.2 (.inr (Array.mem_of_getElem? h))

omit [AbstRep] in
theorem run_builtin {b : Builtin} {args : Array Operand} {argTypes : Array TypeId} {ε : Operand → Value} {o : Oper} (hop : o.op = .call { callee := .builtin b, args := args, argTypes := argTypes }) :
    ∃ cs : Array Bool, (execOp ε o).run P w = (builtin b argTypes o.type cs (args.map ε)).run P w := by
  simp only [execOp, hop, resolve, Sem.run_bind, Sem.run_pure, Result.andThen, invoke]
  exact ⟨_, rfl⟩

theorem memC_sound (hs : Sim w0 pr ρ m w) {nt : Nat} {op : Op} {ev : Operand → Option LV} {an an' : List Ans} {r : LV} {ch : List (Nat × Tok)} {rd : List Nat} {ob : List Prop} (h : memC P nt op ev m an = some (r, ch, rd, ob, an')) (ho : AllP ob) {ε : Operand → Value}
    (hev : ∀ x ∈ op.operands, ∀ lx, ev x = some lx → VR ρ lx (ε x) ∧ lx.wf (al m)) {o : Oper} (hop : o.op = op) : MGives P w0 pr ρ m w (execOp ε o) r ch := by
  unfold memC at h
  split at h
  · -- alloc
    rename_i t
    split at h
    · rename_i z hz
      split at h
      · rename_i hf; cases h
        obtain ⟨zv, hzr, hzv⟩ := zeroL_run hz
        have hc := cells_VRs (zeroL_any hz) (hzv ρ (al m)).1
        refine alloc_gives hs hf (vs := zv.cells.toList) (sp := []) hc (cells_wf (hzv ρ (al m)).2) (v := .pointer (some ⟨w.heap.size, 0, none⟩)) ?_ (by simp only [VR, Env.upd_same]) (by simp only [LV.wf]; exact al_set_new rfl)
        simp only [execOp, hop]
        refine lift_next ?_
        simp [Instr.alloc, hzr, Result.andThen, newVar, newRow]
      · cases h
    · cases h
  · -- box
    rename_i t x
    split at h
    · rename_i v hv
      split at h
      · rename_i hf; cases h
        have h1 := hev x (by simp [Op.operands]) _ hv
        have hc := cells_VRs hf.2 h1.1
        refine alloc_gives hs hf.1 (vs := (ε x).cells.toList) (sp := []) hc (cells_wf h1.2) (v := .pointer (some ⟨w.heap.size, 0, none⟩)) ?_ (by simp only [VR, Env.upd_same]) (by simp only [LV.wf]; exact al_set_new rfl)
        simp only [execOp, hop]
        refine lift_next ?_
        simp [Instr.box, Result.andThen, newVar, newRow]
      · cases h
    · cases h
  · -- buildSlice
    rename_i t len parts
    split at h
    · rename_i e ps hd hps
      split at h
      · rename_i sz z hsz hz
        split at h
        · rename_i hc
          obtain ⟨hc1, hc2, hf⟩ := hc
          split at h
          · rename_i cs hfl
            cases h
            obtain ⟨zv, hzr, hzv⟩ := zeroL_run hz
            obtain ⟨a1, a2⟩ := evParts_sound (ρ := ρ) (A := al m) (ε := ε) hps (fun x hx lx hlx => hev x (by simpa [Op.operands] using hx) lx hlx)
            have hzc := cells_VRs (zeroL_any hz) (hzv ρ (al m)).1
            have hzl := VRs_length hzc
            have hzs : zv.cells.size = sz := by rw [← Array.length_toList, hzl, hc2]
            have hrep := repZ_VRs hzc (c := len)
            rw [hc2] at hrep
            obtain ⟨rs, f1, f2, f3⟩ := fill_sound (pl' := fun i => some (i * sz, sz)) (fun i x hx => hx) hfl hrep (repZ_wf (cells_wf (hzv ρ (al m)).2) _) a1 a2
            have hrl : rs.length = len * sz := by
              have l1 := VRs_length f2
              have fl : ∀ (ps : List (Nat × LV)) (cs r : List LV), fillL (fun i => some (i * sz, sz)) cs ps = some r → r.length = cs.length := by
                intro ps
                induction ps with
                | nil => intro cs r h; simp only [fillL] at h; cases h; rfl
                | cons p ps ih =>
                  intro cs r h
                  obtain ⟨i, x⟩ := p
                  simp only [fillL] at h
                  split at h
                  · rename_i hq; rw [ih _ _ h, spliceL_length (by omega)]
                  · cases h
              rw [l1, fl _ _ _ hfl]; simp [repZ]
            refine alloc_gives hs hf (vs := rs) (sp := []) f2 f3 (v := .slice (some ⟨w.heap.size, 0, none⟩) len len) ?_ ?_ (by simp only [LV.wf]; exact al_set_new rfl)
            · simp only [execOp, hop]
              refine lift_next ?_
              have e1 : (parts.map fun (i, x) => (i, ε x)) = (parts.toList.map fun p => (p.1, ε p.2)).toArray := by apply Array.ext'; simp
              rw [e1]
              have hbig : ¬ (len * sz > 2 ^ 24) := by omega
              unfold Instr.buildSlice
              simp only [Sem.run_bind, run_underlying hd, Result.andThen, run_sizeL hsz, hbig, if_false]
              by_cases h0 : len * sz = 0
              · have e2 : ((List.range (len * sz)).map fun i => zv.cells[i % zv.cells.size]!).toArray = #[] := by rw [h0]; rfl
                rw [e2] at f1
                have e3 : (Array.range 0).map (fun x => (#[] : Array Value)[x % (#[] : Array Value).size]!) = #[] := by simp
                simp only [h0, if_true, Sem.run_bind, Sem.run_pure, Result.andThen, e3, f1]
                simp [newRow]
              · have e2 : (Array.range (len * sz)).map (fun i => zv.cells[i % zv.cells.size]!) = ((List.range (len * sz)).map fun i => zv.cells[i % zv.cells.size]!).toArray := by apply Array.ext'; simp
                simp only [h0, if_false, Sem.run_bind, Sem.run_pure, Result.andThen, hzr, e2, f1]
                simp [newRow]
            · simp only [VR, SlR, Env.upd_same]
              exact ⟨0, len, rfl, Nat.le_refl _, Nat.le_refl _, .inl ⟨rfl, by simp [hrl]⟩⟩
          · cases h
        · cases h
      · cases h
    · cases h
  · -- load
    rename_i t a
    split at h
    · rename_i k o1 s hp
      split at h
      · rename_i cs hk
        split at h
        · rename_i v ob1 an1 hl
          cases h
          cases hea : ev a with
          | none => rw [hea] at hp; cases hp
          | some la =>
            rw [hea] at hp
            have h1 := hev a (by simp [Op.operands]) _ hea
            have hpv := ptrOf_VR hp h1.1
            obtain ⟨T, fz, vs, sp, hb, hvs, hwf⟩ := hs.blk hk
            obtain ⟨u, g1, g2, g3⟩ := loadX_sound (P := P) hl ho hb hvs hwf
            refine ⟨.value u, u, ρ, w, ?_, .inl rfl, fun _ _ => rfl, g2, g3, hs⟩
            simp only [execOp, hop]
            refine lift_next ?_
            simp only [Instr.loadAt, hpv, Instr.sureAddr, Sem.run_bind, Sem.run_pure, Result.andThen, g1]
        · cases h
      · cases h
    · cases h
  · -- store
    rename_i t a x
    split at h
    · rename_i k o1 s v n hp hx hn
      split at h
      · rename_i T cs hk
        split at h
        · rename_i hc
          cases hea : ev a with
          | none => rw [hea] at hp; cases hp
          | some la =>
            rw [hea] at hp
            have h1 := hev a (by simp [Op.operands]) _ hea
            have h2 := hev x (by simp [Op.operands]) _ hx
            have hpv := ptrOf_VR hp h1.1
            have fin : o1 + n ≤ cs.length → MGives P w0 pr ρ m w (execOp ε o) (.tup []) [(k, .cells true T (spliceL cs o1 (cellsL v)))] := by
              intro hle
              obtain ⟨w', g1, g2⟩ := store_sound (P := P) hs hk hn h2.1 h2.2 hc.1 hc.2 hle
              refine ⟨.skip, undef, ρ, w', ?_, .inr ⟨rfl, rfl⟩, fun _ _ => rfl, by simp only [VR]; exact ⟨[], rfl, by simp [VRs]⟩, by simp [LV.wf, wfL], g2⟩
              simp only [execOp, hop]
              refine lift_skip ?_
              simp only [Instr.storeAt, hpv, Instr.sureAddr, Sem.run_bind, Sem.run_pure, Result.andThen, g1]
            split at h
            · split at h
              · cases h; simp only [AllP, and_true] at ho; rw [← ho.2]; exact fin ho.1
              · cases h; simp only [AllP, and_true] at ho; exact fin ho
            · split at h
              · rename_i hle; cases h; exact fin hle
              · cases h
        · cases h
      · cases h
    · cases h
  · -- makeSlice
    rename_i t l c
    split at h
    · rename_i e lz cz hd hl hc
      split at h
      · rename_i sz z hsz hz
        split at h
        · rename_i hh
          obtain ⟨h0, h1, h2, h3, h4, hf⟩ := hh
          cases h
          obtain ⟨zv, hzr, hzv⟩ := zeroL_run hz
          have hzc := cells_VRs (zeroL_any hz) (hzv ρ (al m)).1
          have hzl := VRs_length hzc
          have hzs : zv.cells.size = sz := by rw [← Array.length_toList, hzl, h3]
          have hrep := repZ_VRs hzc (c := cz.toNat)
          rw [h3] at hrep
          have e1 := (hev l (by simp [Op.operands]) _ hl).1; simp only [VR] at e1
          have e2 := (hev c (by simp [Op.operands]) _ hc).1; simp only [VR] at e2
          obtain ⟨i, hi, _⟩ := info_of_siz hsz
          simp only [bytesOk, bytesOf_info hi, Bool.and_eq_true, decide_eq_true_eq] at h4
          have w1 : IntKind.i64.wrap lz = lz := by rw [← fwrap_eq]; simp only [fwrap]; rw [if_pos]; simp; omega
          have w2 : IntKind.i64.wrap cz = cz := by rw [← fwrap_eq]; simp only [fwrap]; rw [if_pos]; simp; omega
          have hbig : ¬ ((281474976710656 : Int) < (i.bytes : Int) * cz) := by
            have : ((cz.toNat * i.bytes : Nat) : Int) = (i.bytes : Int) * cz := by rw [Nat.mul_comm]; simp [Int.toNat_of_nonneg (show 0 ≤ cz by omega)]
            omega
          refine alloc_gives hs hf (vs := (List.range (cz.toNat * sz)).map fun i => zv.cells[i % zv.cells.size]!) (sp := []) hrep (repZ_wf (cells_wf (hzv ρ (al m)).2) _) (v := .slice (some ⟨w.heap.size, 0, none⟩) lz.toNat cz.toNat) ?_ ?_ (by simp only [LV.wf]; exact al_set_new rfl)
          · simp only [execOp, hop]
            refine lift_next ?_
            have n1 : ¬ (cz < 0) := by omega
            have n2 : ¬ (lz < 0) := by omega
            have n3 : ¬ (lz > cz) := by omega
            have n4 : ¬ ((2 ^ 48 : Int) < (i.bytes : Int) * cz) := by simpa using hbig
            unfold Instr.makeSlice
            simp only [Sem.run_bind, run_underlying hd, Result.andThen, e1, e2, asInt, asIntOf, Sem.run_pure, typeInfo, run_program, hi, w1, w2, run_sizeL hsz, n1, n2, n3, n4, gt_iff_lt, decide_false, Bool.or_self, Bool.false_eq_true, if_false, run_askRoom]
            by_cases h0 : cz.toNat * sz = 0
            · have e3 : ((List.range (cz.toNat * sz)).map fun i => zv.cells[i % zv.cells.size]!) = [] := by rw [h0]; rfl
              rw [e3]
              have e4 : ((Array.range 0).map fun _ => (default : Value)) = #[] := by apply Array.ext'; simp
              simp [h0, newRow, e4]
            · have e3 : (Array.range (cz.toNat * sz)).map (fun i => zv.cells[i % zv.cells.size]!) = ((List.range (cz.toNat * sz)).map fun i => zv.cells[i % zv.cells.size]!).toArray := by apply Array.ext'; simp
              simp only [h0, if_false, Sem.run_bind, Sem.run_pure, Result.andThen, hzr, e3]
              simp [newRow]
          · simp only [VR, SlR, Env.upd_same]
            exact ⟨0, cz.toNat, rfl, by omega, Nat.le_refl _, .inl ⟨rfl, by simp⟩⟩
        · cases h
      · cases h
    · cases h
  · -- a slice of an array
    rename_i t x lo hi mx
    split at h
    · rename_i n e k o1 hd hx
      split at h
      · rename_i sz rw T cs hsz hk
        split at h
        · rename_i hc
          obtain ⟨hn, hle⟩ := hc
          cases h
          have h1 := hev x (by simp [Op.operands]) _ hx
          have h1v := h1.1; simp only [VR] at h1v
          obtain ⟨vs, sp, hb, hvs, hvl, hwf⟩ := hs.block hk
          have hlen := VRs_length hvs
          refine ⟨.value (.slice (some ⟨(ρ k).1, o1, none⟩) n n), .slice (some ⟨(ρ k).1, o1, none⟩) n n, ρ, w, ?_, .inl rfl, fun _ _ => rfl, ?_, by have := h1.2; simpa [LV.wf, Mem.sets] using this, hs⟩
          · simp only [execOp, hop]
            refine lift_next ?_
            simp [Instr.sliceAt, run_underlying hd, Result.andThen, h1v, Instr.sureAddr, Instr.sliceBounds, run_sizeL hsz, add_off]
          · simp only [VR, SlR]
            refine ⟨o1, n, rfl, Nat.le_refl _, Nat.le_refl _, .inl ⟨rfl, ?_⟩⟩
            simp only [List.length_append] at hvl
            omega
        · cases h
      · cases h
    · cases h
  · -- append
    rename_i args argTypes
    split at h
    · rename_i ts tx s x h0 h1 hs0 hx0
      cases ha0 : args[0]? with
      | none => rw [ha0] at hs0; cases hs0
      | some os =>
        cases ha1 : args[1]? with
        | none => rw [ha1] at hx0; cases hx0
        | some ox =>
          rw [ha0] at hs0; rw [ha1] at hx0
          simp only [Option.bind_some] at hs0 hx0
          have hos := hev os (mem_args (c := { callee := .builtin .append, args := args, argTypes := argTypes }) ha0) _ hs0
          have hox := hev ox (mem_args (c := { callee := .builtin .append, args := args, argTypes := argTypes }) ha1) _ hx0
          have hm0 : (args.map ε)[0]? = some (ε os) := by simp [ha0]
          have hm1 : (args.map ε)[1]? = some (ε ox) := by simp [ha1]
          obtain ⟨csb, hrb⟩ := run_builtin (P := P) (w := w) (ε := ε) hop
          have fin : ∀ (v : Value) (w' : World), (Builtin.append_ argTypes o.type (args.map ε)).run P w = .ok v w' → (execOp ε o).run P w = .ok (.value v) w' := by
            intro v w' hv
            rw [hrb]
            simp only [builtin, Sem.run_bind, hv, Result.andThen, Sem.run_pure]
          split at h
          · rename_i e kx hd hdx
            split at h
            · rename_i n sz z hsz hz
              split at h
              · split at h
                · rename_i hh
                  obtain ⟨g0, g1, g2, g3, g4, hf⟩ := hh
                  cases h
                  have e0 := hos.1; simp only [VR] at e0
                  have e1 := hox.1; simp only [VR] at e1
                  obtain ⟨zv, hzr, hzv⟩ := zeroL_run hz
                  have hnn : ((n.toNat : Nat) : Int) = n := Int.toNat_of_nonneg (by omega)
                  rw [← hnn] at e1
                  obtain ⟨newCap, d, hcap, hrun⟩ := appendz_out (w := w) (ty := o.type) h0 h1 hd hdx hsz (hm0.trans (by rw [e0])) (hm1.trans (by rw [e1])) (by omega) (by omega) g3 g4 hzr
                  have hzc := zeroCells_VRs (zeroL_any hz) (hzv ρ (al m)).1 n.toNat
                  rw [g2] at hzc
                  have hzn : ∀ c, (Builtin.zeroCells zv.cells c).toList.length = c * sz := fun c => by
                    have := VRs_length (zeroCells_VRs (zeroL_any hz) (hzv ρ (al m)).1 c)
                    rw [this]; simp [repZ, g2]
                  obtain ⟨hag, hS⟩ := (hs.drew d).alloc hf (t := .cells true e (repZ (cellsL z) (n.toNat * sz))) (.of rfl (repZ_wf (cells_wf (hzv ρ (al m)).2) _)) (o := .cells ((Builtin.zeroCells zv.cells n.toNat).toList ++ (Builtin.zeroCells zv.cells (newCap - n.toNat)).toList).toArray e (0, 0)) (sz := ((Builtin.zeroCells zv.cells n.toNat).toList ++ (Builtin.zeroCells zv.cells (newCap - n.toNat)).toList).length) ⟨_, _, rfl, hzc, rfl⟩
                  refine ⟨_, _, _, _, fin _ _ hrun, .inl rfl, hag, ?_, by simp only [LV.wf]; exact al_set_new rfl, hS⟩
                  simp only [VR, SlR, Env.upd_same]
                  refine ⟨0, newCap, rfl, Nat.le_refl _, hcap, .inl ⟨rfl, ?_⟩⟩
                  simp only [List.length_append, hzn, Nat.zero_add]
                  rw [← Nat.add_mul]
                  exact Nat.mul_le_mul_right _ (by omega)
                · cases h
              · cases h
            · cases h
          · rename_i e e' hd hdx
            split at h
            · rename_i sz hsz
              split at h
              · rename_i rd1 new n z hsrc hz
                split at h
                · rename_i hzl
                  split at h
                  · rename_i v ch1 rd2 hap
                    cases h
                    obtain ⟨hln, us, hus, hnw, hnl, hfc⟩ := srcX_sound (P := P) hs hsrc hox.1
                    obtain ⟨u, ρ', w', b1, b2, b3, b4, b5⟩ := appendX_sound hs hap hos.1 hos.2 hus hnw h0 h1 hd hdx hsz hm0 hm1 hln hfc hz hzl (ty := o.type)
                    exact ⟨_, u, ρ', w', fin _ _ b1, .inl rfl, b2, b3, b4, b5⟩
                  · cases h
                · cases h
              · cases h
            · cases h
          · cases h
    · cases h
  · -- clear
    rename_i args argTypes
    split at h
    · rename_i t x h0 hx0
      cases ha0 : args[0]? with
      | none => rw [ha0] at hx0; cases hx0
      | some ox =>
        rw [ha0] at hx0
        simp only [Option.bind_some] at hx0
        have hox := hev ox (mem_args (c := { callee := .builtin .clear, args := args, argTypes := argTypes }) ha0) _ hx0
        have hm0 : (args.map ε)[0]? = some (ε ox) := by simp [ha0]
        obtain ⟨csb, hrb⟩ := run_builtin (P := P) (w := w) (ε := ε) hop
        have fin : ∀ (v : Value) (w' : World), (Builtin.clear_ argTypes o.type (args.map ε)).run P w = .ok v w' → (execOp ε o).run P w = .ok (.value v) w' := by
          intro v w' hv
          rw [hrb]
          simp only [builtin, Sem.run_bind, hv, Result.andThen, Sem.run_pure]
        have nil : VR ρ (.tup []) (.tuple #[]) := by simp only [VR]; exact ⟨[], rfl, by simp [VRs]⟩
        split at h
        · rename_i e hd
          cases h
          have e0 := hox.1; simp only [VR] at e0
          refine ⟨_, .tuple #[], ρ, w, fin _ _ ?_, .inl rfl, fun _ _ => rfl, nil, by simp [LV.wf, wfL], hs⟩
          simp [Builtin.clear_, h0, hm0, e0, run_underlying hd, Result.andThen]
        · rename_i e k hd
          cases h
          have e0 := hox.1; simp only [VR] at e0
          obtain ⟨o', e0⟩ := e0
          refine ⟨_, .tuple #[], ρ, w, fin _ _ ?_, .inl rfl, fun _ _ => rfl, nil, by simp [LV.wf, wfL], hs⟩
          simp [Builtin.clear_, h0, hm0, e0, run_underlying hd, Result.andThen]
        · rename_i e k o1 l c z hd
          have e0 := hox.1; simp only [VR, SlR] at e0
          obtain ⟨o', cap, e0, hlc, hcc, hor⟩ := e0
          split at h
          · rename_i hl0
            cases h
            subst hl0
            refine ⟨_, .tuple #[], ρ, w, fin _ _ ?_, .inl rfl, fun _ _ => rfl, nil, by simp [LV.wf, wfL], hs⟩
            simp [Builtin.clear_, h0, hm0, e0, run_underlying hd, Result.andThen]
          · rename_i hl0
            split at h
            · rename_i sz zr T cs hsz hz hk
              split at h
              · rename_i hh
                obtain ⟨rfl, g1, g2, g3⟩ := hh
                cases h
                obtain ⟨zv, hzr, hzv⟩ := zeroL_run hz
                obtain ⟨vs, sp, hb, hvs, hvl, hwf⟩ := hs.block hk
                have hlen := VRs_length hvs
                have hzc := zeroCells_VRs (zeroL_any hz) (hzv ρ (al m)).1 l
                rw [g1] at hzc
                have hzl := VRs_length hzc
                have hrl : (repZ (cellsL zr) (l * z)).length = l * z := by simp [repZ]
                have hoo : o' = o1 := by
                  rcases hor with h | h
                  · exact h.1
                  · omega
                subst hoo
                have hsc : (repZ (cellsL zr) (l * z)).all scalL = true := by
                  rw [List.all_eq_true] at g2 ⊢
                  intro y hy
                  simp only [repZ, List.mem_map, List.mem_range] at hy
                  obtain ⟨i, hi, rfl⟩ := hy
                  have hpos : 0 < (cellsL zr).length := by
                    rcases Nat.eq_zero_or_pos (cellsL zr).length with h | h
                    · rw [g1] at h; rw [h] at hi; omega
                    · exact h
                  have hlt : i % (cellsL zr).length < (cellsL zr).length := Nat.mod_lt _ hpos
                  have e1 : (cellsL zr).getD (i % (cellsL zr).length) (.tup []) = (cellsL zr)[i % (cellsL zr).length]'hlt := by simp [List.getD, hlt]
                  rw [e1]; exact g2 _ (List.getElem_mem hlt)
                have hst := run_storeCells (P := P) (b := (ρ k).1) (T := T) (Builtin.zeroCells zv.cells l).toList w (vs ++ sp) o' 0 hb (scal_VRs hsc hzc) (by rw [List.length_append, hzl, hrl]; omega)
                rw [Nat.add_zero, splice_append_known (by omega)] at hst
                have hS := hs.putEq hk (cs' := spliceL cs o' (repZ (cellsL zr) (l * z))) (vs' := spliceL vs o' (Builtin.zeroCells zv.cells l).toList) (sp' := sp) (VRs_splice hvs hzc _) (wfL_splice hwf (repZ_wf (cells_wf (hzv ρ (al m)).2) _) _) (by
                  simp only [List.length_append] at hvl ⊢; rw [spliceL_length (by omega)]; exact hvl)
                refine ⟨_, .tuple #[], ρ, _, fin _ _ ?_, .inl rfl, fun _ _ => rfl, nil, by simp [LV.wf, wfL], hS⟩
                have hl1 : ∃ l', l = l' + 1 := ⟨l - 1, by omega⟩
                obtain ⟨l', rfl⟩ := hl1
                simp [Builtin.clear_, h0, hm0, e0, run_underlying hd, Result.andThen, hzr, hst]
              · cases h
            · cases h
        · cases h
    · cases h
  · -- cap
    rename_i args argTypes
    split at h
    · rename_i t x h0 hx0
      cases ha0 : args[0]? with
      | none => rw [ha0] at hx0; cases hx0
      | some ox =>
        rw [ha0] at hx0
        simp only [Option.bind_some] at hx0
        have hox := hev ox (mem_args (c := { callee := .builtin .cap, args := args, argTypes := argTypes }) ha0) _ hx0
        have hm0 : (args.map ε)[0]? = some (ε ox) := by simp [ha0]
        obtain ⟨csb, hrb⟩ := run_builtin (P := P) (w := w) (ε := ε) hop
        have fin : ∀ (v : Value) (w' : World), (Builtin.cap_ argTypes o.type (args.map ε)).run P w = .ok v w' → (execOp ε o).run P w = .ok (.value v) w' := by
          intro v w' hv
          rw [hrb]
          simp only [builtin, Sem.run_bind, hv, Result.andThen, Sem.run_pure]
        split at h
        · rename_i e hd
          cases h
          have e0 := hox.1; simp only [VR] at e0
          refine ⟨_, .int .i64 0, ρ, w, fin _ _ ?_, .inl rfl, fun _ _ => rfl, by simp [VR], by simp [LV.wf], hs⟩
          simp [Builtin.cap_, h0, hm0, e0, run_underlying hd, Result.andThen, goInt]
        · rename_i e k hd
          cases h
          have e0 := hox.1; simp only [VR] at e0
          obtain ⟨o', e0⟩ := e0
          refine ⟨_, .int .i64 0, ρ, w, fin _ _ ?_, .inl rfl, fun _ _ => rfl, by simp [VR], by simp [LV.wf], hs⟩
          simp [Builtin.cap_, h0, hm0, e0, run_underlying hd, Result.andThen, goInt]
        · cases h
    · cases h
  · cases h


theorem srcX_local {m m' : Mem} {x : LV} {sz : Nat} {rd : List Nat} {new : List LV} {n : Nat} (h : srcX m x sz = some (rd, new, n)) (hag : ∀ k ∈ rd, m' k = m k) : srcX m' x sz = some (rd, new, n) := by
  unfold srcX at h ⊢
  split at h
  · exact h
  · exact h
  · rename_i k o l c z
    split at h
    · rename_i rw T cs hk
      split at h
      · rename_i hc
        cases h
        simp only [hag k (by simp), hk]
        rw [if_pos hc]
      · cases h
    · cases h
  · cases h

theorem appendX_local {m m' : Mem} {nt e sz : Nat} {s : LV} {rd rd' : List Nat} {new : List LV} {n : Nat} {r : LV} {ch : List (Nat × Tok)} (h : appendX P nt e sz s rd new n m = some (r, ch, rd')) (hag : ∀ k ∈ rd', m' k = m k) :
    appendX P nt e sz s rd new n m' = some (r, ch, rd') ∧ (∀ k ∈ rd, k ∈ rd') ∧ (∀ p ∈ ch, p.2.isFree = false) := by
  unfold appendX at h ⊢
  split at h
  case isFalse => cases h
  rename_i hall
  rw [if_pos hall]
  split at h
  · split at h
    · rename_i hn; cases h; simp [hn]
    · rename_i hn
      split at h
      · rename_i hc; cases h
        simp only [hn, if_false, hag nt (by simp), hc, and_self, if_true, true_and]
        exact ⟨fun k hk => List.mem_cons_of_mem _ hk, by simp [Tok.isFree]⟩
      · cases h
  · split at h
    · rename_i hn; cases h; simp [hn]
    · rename_i hn
      split at h
      · rename_i hc; cases h
        simp only [hn, if_false, hag nt (by simp), hc, and_self, if_true, true_and]
        exact ⟨fun k hk => List.mem_cons_of_mem _ hk, by simp [Tok.isFree]⟩
      · cases h
  · split at h
    case isFalse => cases h
    rename_i hz
    rw [if_pos hz]
    split at h
    · rename_i hn; cases h; simp [hn]
    · rename_i hn
      rw [if_neg hn]
      split at h
      · rename_i T cs hk
        split at h
        · rename_i hr
          split at h
          · rename_i hf; cases h
            simp only [hag _ (List.mem_cons_self ..), hk, hr, if_true, hf, true_and]
            exact ⟨fun k hk => List.mem_cons_of_mem _ hk, by simp [Tok.isFree]⟩
          · cases h
        · rename_i hr
          split at h
          · rename_i hf; cases h
            have h1 := hag _ (List.mem_cons_self ..)
            have h2 := hag nt (by simp)
            simp only [h1, h2, hk, hr, if_false, hf, and_self, if_true, true_and]
            refine ⟨fun k hk => by simp [hk], ?_⟩
            intro p hp
            simp at hp
            rcases hp with rfl | rfl <;> rfl
          · cases h
      · cases h
  · cases h

theorem memC_local {m m' : Mem} {nt : Nat} {op : Op} {ev : Operand → Option LV} {an an' : List Ans} {r : LV} {ch : List (Nat × Tok)} {rd : List Nat} {ob : List Prop} (h : memC P nt op ev m an = some (r, ch, rd, ob, an')) (hag : ∀ k ∈ rd, m' k = m k) :
    memC P nt op ev m' an = some (r, ch, rd, ob, an') ∧ (∀ p ∈ ch, p.2.isFree = false) := by
  unfold memC at h ⊢
  split at h
  · split at h
    · split at h
      · rename_i hf; cases h; exact ⟨by simp only [hag nt (by simp), hf, if_true], by simp [Tok.isFree]⟩
      · cases h
    · cases h
  · split at h
    · split at h
      · rename_i hf; cases h; exact ⟨by simp only [hag nt (by simp), hf, and_self, if_true], by simp [Tok.isFree]⟩
      · cases h
    · cases h
  · split at h
    · split at h
      · split at h
        · rename_i hc
          split at h
          · rename_i hfl; cases h
            simp only [hag nt (by simp), hc, and_self, if_true]
            simp [Tok.isFree]
          · cases h
        · cases h
      · cases h
    · cases h
  · split at h
    · rename_i k o1 s hp
      split at h
      · rename_i hk
        split at h
        · rename_i hl; cases h
          simp only [hag _ (List.mem_cons_self ..), hk, hl, true_and]
          simp
        · cases h
      · cases h
    · cases h
  · split at h
    · rename_i k o1 s v n hp hx hn
      split at h
      · rename_i T cs hk
        split at h
        · rename_i hc
          split at h
          · rename_i hs
            split at h
            · rename_i hst; cases h
              simp only [hag _ (List.mem_cons_self ..), hk, hc, and_self, if_true, hs, true_and]
              simp [Tok.isFree]
            · rename_i hst; cases h
              simp only [hag _ (List.mem_cons_self ..), hk, hc, and_self, if_true, hs, true_and]
              simp [Tok.isFree]
          · rename_i hs
            split at h
            · rename_i hle; cases h
              simp only [hag _ (List.mem_cons_self ..), hk, hc, and_self, if_true, hs, if_false, hle, true_and, Bool.false_eq_true]
              simp [Tok.isFree]
            · cases h
        · cases h
      · cases h
    · cases h
  · split at h
    · split at h
      · split at h
        · rename_i hc; cases h
          simp only [hag nt (by simp), hc, and_self, if_true, true_and]
          simp [Tok.isFree]
        · cases h
      · cases h
    · cases h
  · split at h
    · rename_i n e k o1 hd hx
      split at h
      · rename_i sz rw T cs hsz hk
        split at h
        · rename_i hc; cases h
          simp only [hag _ (List.mem_cons_self ..), hsz, hk, hc, and_self, if_true, true_and, ne_eq, not_false_eq_true]
          simp
        · cases h
      · cases h
    · cases h
  · split at h
    · split at h
      · split at h
        · split at h
          · split at h
            · rename_i hc; cases h
              simp only [hag nt (by simp), hc, and_self, if_true, true_and, ne_eq, not_false_eq_true]
              simp [Tok.isFree]
            · cases h
          · cases h
        · cases h
      · split at h
        · rename_i sz hsz
          split at h
          · rename_i rd1 new n z hsrc hz
            split at h
            · rename_i hzl
              split at h
              · rename_i v ch1 rd2 hap
                cases h
                obtain ⟨a1, a2, a3⟩ := appendX_local hap hag
                have a4 := srcX_local hsrc (fun k hk => hag k (a2 k hk))
                simp only [a4, hz, hzl, if_true, a1, true_and]
                exact a3
              · cases h
            · cases h
          · cases h
        · cases h
      · cases h
    · cases h
  · split at h
    · split at h
      · cases h; simp
      · cases h; simp
      · split at h
        · rename_i hl; cases h; simp [hl]
        · rename_i hl
          split at h
          · rename_i sz zr T cs hsz hz hk
            split at h
            · rename_i hc; cases h
              simp only [hl, if_false, hag _ (List.mem_cons_self ..), hsz, hz, hk]
              rw [if_pos hc]
              simp [Tok.isFree]
            · cases h
          · cases h
      · cases h
    · cases h
  · split at h
    · split at h
      · cases h; simp
      · cases h; simp
      · cases h
    · cases h
  · cases h

end
end Go.Vse
