/- The executor's pure operations are right: all of them. -/
import Derived.Test.YtpnfdndjaepbbaaVseG
namespace Go.Vse
open Go

section
variable {P : Program} {ρ : Env} {A : Nat → Prop} {w : World}

/-- A value handed back, the world as it was. -/
def Gives (P : Program) (ρ : Env) (A : Nat → Prop) (w : World) (s : Sem Value) (x : LV) : Prop := ∃ v, s.run P w = .ok v w ∧ VR ρ x v ∧ x.wf A

section
variable [AbstRep]
theorem arithX_sound {k : IntKind} {sym : Bool} {raw plain : Int} {an an' : List Ans} {x : LV} {o : List Prop} (h : arithX k sym raw plain an = some (x, o, an')) (ho : AllP o) : VR ρ x (.int k raw) ∧ x.wf A := by
  unfold arithX at h
  split at h
  · split at h
    · cases h; simp only [AllP, and_true] at ho; subst ho; simp [VR, LV.wf]
    · cases h; simp [VR, LV.wf]
    · cases h; simp only [AllP, and_true] at ho; subst ho; simp [VR, LV.wf]
    · cases h; simp only [AllP, and_true] at ho; simp [VR, LV.wf, ho]
  · cases h; simp [VR, LV.wf]
end

theorem VRb_of {s : Sem Value} {r : Bool} (h : s.run P w = .ok (.bool r) w) : Gives P ρ A w s (.b r) := ⟨.bool r, h, by simp [VR], by simp [LV.wf]⟩

section
variable [AbstRep]
theorem intX_sound {op : BinOp} {k : IntKind} {sym : Bool} {a b : Int} {an an' : List Ans} {x : LV} {o : List Prop} (h : intX op k sym a b an = some (x, o, an')) (ho : AllP o) (hop : op ≠ .shl ∧ op ≠ .shr) {t : TypeId} :
    Gives P ρ A w (binOp op t (.int k a) (.int k b)) x := by
  have hw : ∀ z, (if sym = true then k.wrap z else fwrap k z) = k.wrap z := fun z => by split; rfl; exact fwrap_eq k z
  cases op with
  | add =>
    simp only [intX, hw] at h
    have := arithX_sound (ρ := ρ) (A := A) h ho
    exact ⟨_, by simp [binOp, Op.intArith], this.1, this.2⟩
  | sub =>
    simp only [intX, hw] at h
    have := arithX_sound (ρ := ρ) (A := A) h ho
    exact ⟨_, by simp [binOp, Op.intArith], this.1, this.2⟩
  | mul =>
    simp only [intX, hw] at h
    have := arithX_sound (ρ := ρ) (A := A) h ho
    exact ⟨_, by simp [binOp, Op.intArith], this.1, this.2⟩
  | quo =>
    simp only [intX] at h
    split at h
    · split at h
      · rename_i v o' an2 h2
        cases h
        simp only [AllP] at ho
        have := arithX_sound (ρ := ρ) (A := A) h2 ho.2
        exact ⟨_, by simp [binOp, Op.intDiv, ho.1], this.1, this.2⟩
      · cases h
    · split at h
      · cases h
      · rename_i hb
        cases h
        exact ⟨.int k (k.wrap (a.tdiv b)), by simp [binOp, Op.intDiv, hb], by simp [VR, fwrap_eq], by simp [LV.wf]⟩
  | rem =>
    simp only [intX] at h
    split at h
    · split at h
      · rename_i v o' an2 h2
        cases h
        simp only [AllP] at ho
        have := arithX_sound (ρ := ρ) (A := A) h2 ho.2
        exact ⟨_, by simp [binOp, Op.intDiv, ho.1], this.1, this.2⟩
      · cases h
    · split at h
      · cases h
      · rename_i hb
        cases h
        exact ⟨.int k (a.tmod b), by simp [binOp, Op.intDiv, hb], by simp [VR], by simp [LV.wf]⟩
  | shl => exact absurd rfl hop.1
  | shr => exact absurd rfl hop.2
  | and => simp only [intX] at h; split at h <;> (try split at h) <;> simp_all [cmpP, cmpB]
  | or => simp only [intX] at h; split at h <;> (try split at h) <;> simp_all [cmpP, cmpB]
  | xor => simp only [intX] at h; split at h <;> (try split at h) <;> simp_all [cmpP, cmpB]
  | andNot => simp only [intX] at h; split at h <;> (try split at h) <;> simp_all [cmpP, cmpB]
  | eql | neq | lss | leq | gtr | geq =>
    simp only [intX] at h
    split at h
    · split at h
      · rename_i p hp
        simp only [cmpP] at hp
        cases hp
        obtain ⟨r, rfl, ho⟩ := askX_sound h ho
        refine ⟨.bool r, ?_, by simp [VR], by simp [LV.wf]⟩
        cases r <;> simp [binOp, Op.intCmp] at ho ⊢ <;> first | exact ho | omega
      · cases h
    · simp only [cmpB, Option.map_some] at h
      cases h
      exact VRb_of (by simp [binOp, Op.intCmp] <;> rfl)
end

theorem eqGuard_off {op : BinOp} {t : TypeId} {x y : Operand} {a b : Value} (h : (∀ c, a ≠ .agg c) ∨ P.eqGuardType P.depth t = false) (hn : a ≠ .nilIface) :
    (eqGuard op t x y a b).run P w = .ok () w := by
  unfold eqGuard
  by_cases hop : (!(match op with | .eql => true | .neq => true | _ => false)) = true
  · cases op <;> simp_all
  · cases a with
    | nilIface => exact absurd rfl hn
    | agg c =>
      rcases h with h | h
      · exact absurd rfl (h c)
      · cases b <;> cases op <;> simp_all [Result.andThen]
    | _ => cases op <;> simp_all

theorem plain_shape {x : LV} {u : Value} (hp : plainB x = true) (hu : VR ρ x u) : (∀ k n, u ≠ .int k n) ∧ (∀ k n, u ≠ .float k n) ∧ (∀ k n m, u ≠ .complex k n m) ∧ (∀ s, u ≠ .string s) ∧ u ≠ .nilIface ∧ (aggL x = false → ∀ c, u ≠ .agg c) := by
  cases x <;> simp only [plainB, Bool.false_eq_true] at hp <;> simp only [VR, SlR, SoR] at hu <;> first
    | (subst hu; simp; done)
    | (obtain ⟨_, _, rfl, _⟩ := hu; simp; done)
    | (obtain ⟨_, rfl, _⟩ := hu; simp [aggL]; done)
    | (obtain ⟨_, rfl⟩ := hu; simp; done)

theorem binOp_eql {t : TypeId} {u v : Value} (h : (∀ k n, u ≠ .int k n) ∧ (∀ k n, u ≠ .float k n) ∧ (∀ k n m, u ≠ .complex k n m) ∧ (∀ s, u ≠ .string s)) {q : Bool} (hq : (Op.equal t u v).run P w = .ok q w) :
    (binOp .eql t u v).run P w = .ok (.bool q) w ∧ (binOp .neq t u v).run P w = .ok (.bool !q) w := by
  obtain ⟨h1, h2, h3, h4⟩ := h
  cases u with
  | int k n => exact absurd rfl (h1 k n)
  | float k n => exact absurd rfl (h2 k n)
  | complex k n m => exact absurd rfl (h3 k n m)
  | string s => exact absurd rfl (h4 s)
  | _ => constructor <;> simp [binOp, hq, Result.andThen]

section
variable [AbstRep]
theorem binX_sound {op : BinOp} {t : TypeId} {x y : LV} {an an' : List Ans} {r : LV} {o : List Prop} (h : binX P op t x y an = some (r, o, an')) (ho : AllP o) {u v : Value} (hu : VR ρ x u) (hv : VR ρ y v) (ox oy : Operand) :
    Gives P ρ A w (do eqGuard op t ox oy u v; binOp op t u v) r := by
  unfold binX at h
  split at h
  · rename_i k a s k' b s' h1 h2
    split at h
    · rename_i hk; subst hk
      have e1 := asI_sound h1 hu
      have e2 := asI_sound h2 hv
      subst e1; subst e2
      have hop : op ≠ .shl ∧ op ≠ .shr := by
        constructor <;> (rintro rfl; simp only [intX] at h; split at h <;> (try split at h) <;> simp_all [cmpP, cmpB])
      obtain ⟨z, hz, h3⟩ := intX_sound (P := P) (ρ := ρ) (A := A) (w := w) (t := t) h ho hop
      have hg : (eqGuard op t ox oy (.int k a) (.int k b)).run P w = .ok () w := eqGuard_off (.inl (fun c => by simp)) (by simp)
      exact ⟨z, by simp only [Sem.run_bind, hg, Result.andThen]; exact hz, h3⟩
    · cases h
  · split at h
    · rename_i hpl
      have hsh := plain_shape hpl.1 hu
      have key : ∀ (r : Bool) (o : List Prop) (an' : List Ans), eqX P 50 t x y an = some (r, o, an') → AllP o → (Op.equal t u v).run P w = .ok r w :=
        fun r o an' h ho => eqX_sound 50 t x y an r o an' h ho Op.maxDepth (by unfold Op.maxDepth; omega) u v hu hv
      have hg : (eqGuard op t ox oy u v).run P w = .ok () w := by
        refine eqGuard_off ?_ hsh.2.2.2.2.1
        rcases hb : aggL x with _ | _
        · exact .inl (hsh.2.2.2.2.2 hb)
        · exact .inr (hpl.2 hb)
      split at h
      · split at h
        · rename_i q o1 an1 h1
          cases h
          have := (binOp_eql (t := t) ⟨hsh.1, hsh.2.1, hsh.2.2.1, hsh.2.2.2.1⟩ (key _ _ _ h1 ho)).1
          exact VRb_of (by simp only [Sem.run_bind, hg, Result.andThen]; exact this)
        · cases h
      · split at h
        · rename_i q o1 an1 h1
          cases h
          have := (binOp_eql (t := t) ⟨hsh.1, hsh.2.1, hsh.2.2.1, hsh.2.2.2.1⟩ (key _ _ _ h1 ho)).2
          exact VRb_of (by simp only [Sem.run_bind, hg, Result.andThen]; exact this)
        · cases h
      · cases h
    · cases h

theorem idxX_sound {i : LV} {n : Nat} {an an' : List Ans} {j : Nat} {s : Bool} {o : List Prop} (h : idxX i n an = some ((j, s), o, an')) (ho : AllP o) {v : Value} (hv : VR ρ i v) :
    ∃ k z, v = .int k z ∧ 0 ≤ z ∧ z < n ∧ j = z.toNat := by
  unfold idxX at h
  split at h
  · rename_i k z
    split at h
    · rename_i hz; cases h; simp only [VR] at hv; exact ⟨k, z, hv, hz.1, hz.2, rfl⟩
    · cases h
  · rename_i k z
    simp only [VR] at hv
    split at h
    · cases h; simp only [AllP, and_true] at ho; exact ⟨k, z, hv, ho.1, ho.2, rfl⟩
    · cases h; simp only [AllP, and_true] at ho; exact ⟨k, z, hv, by omega, by omega, by omega⟩
    · cases h; simp only [AllP, and_true] at ho; exact ⟨k, z, hv, ho.1, ho.2, rfl⟩
  · cases h
theorem idxS_sound {i : LV} {n : Nat} {an an' : List Ans} {j : Nat} {s : Bool} {o : List Prop} (h : idxS i n an = some ((j, s), o, an')) (ho : AllP o) {v : Value} (hv : VR ρ i v) :
    ∃ k z, v = .int k z ∧ 0 ≤ z ∧ z < n ∧ j = z.toNat := by
  unfold idxS at h
  split at h
  · rename_i k z
    simp only [VR] at hv
    cases h; simp only [AllP, and_true] at ho; exact ⟨k, z, hv, ho.1, ho.2, rfl⟩
  · rename_i k z
    simp only [VR] at hv
    split at h
    · cases h; simp only [AllP, and_true] at ho; exact ⟨k, z, hv, ho.1, ho.2, rfl⟩
    · cases h; simp only [AllP, and_true] at ho; exact ⟨k, z, hv, by omega, by omega, by omega⟩
    · cases h; simp only [AllP, and_true] at ho; exact ⟨k, z, hv, ho.1, ho.2, rfl⟩
  · cases h
end

theorem ptrL_VR {k o : Nat} {s : Bool} : VR ρ (ptrL k o s) (.pointer (some ⟨(ρ k).1, o, none⟩)) := by unfold ptrL; split <;> simp [VR]
theorem ptrL_wf {k o : Nat} {s : Bool} (h : A k) : (ptrL k o s).wf A := by unfold ptrL; split <;> simpa [LV.wf] using h

section
variable [AbstRep]
theorem indexAddrX_sound {t : TypeId} {x i : LV} {an an' : List Ans} {r : LV} {o : List Prop} (h : indexAddrX P t x i an = some (r, o, an')) (ho : AllP o) {u v : Value} (hu : VR ρ x u) (hv : VR ρ i v) (hw : x.wf A) :
    Gives P ρ A w (Instr.indexAt t u v) r := by
  unfold indexAddrX at h
  split at h
  · rename_i n e hd
    split at h
    · rename_i k o1 sz hs
      split at h
      · rename_i j s ob an1 hi
        cases h
        obtain ⟨kk, z, rfl, h0, h1, rfl⟩ := idxX_sound hi ho hv
        simp only [VR] at hu; subst hu
        refine ⟨_, ?_, ptrL_VR, ptrL_wf (by simpa [LV.wf] using hw)⟩
        simp [Instr.indexAt, asIntOf, run_underlying hd, Instr.sureAddr, Result.andThen, run_sizeL hs, h0, h1, add_off]
      · cases h
    · rename_i k o1 sz hs
      split at h
      · rename_i j s ob an1 hi
        cases h
        obtain ⟨kk, z, rfl, h0, h1, rfl⟩ := idxX_sound hi ho hv
        simp only [VR] at hu; subst hu
        refine ⟨.pointer (some ⟨(ρ k).1, o1 + z.toNat * sz, none⟩), ?_, by simp [VR], by simpa [LV.wf] using hw⟩
        simp [Instr.indexAt, asIntOf, run_underlying hd, Instr.sureAddr, Result.andThen, run_sizeL hs, h0, h1, add_off]
      · cases h
    · cases h
  · rename_i e hd
    split at h
    · rename_i k o1 l c z sz hs
      split at h
      · split at h
        · rename_i hz j s ob an1 hi
          cases h
          obtain ⟨kk, q, rfl, h0, h1, rfl⟩ := idxX_sound hi ho hv
          simp only [VR, SlR] at hu
          obtain ⟨o', cap, rfl, hlc, hcc, hor⟩ := hu
          have : o' = o1 := by
            rcases hor with h | h
            · exact h.1
            · omega
          subst this
          refine ⟨_, ?_, ptrL_VR, ptrL_wf (by simpa [LV.wf] using hw)⟩
          simp [Instr.indexAt, asIntOf, run_underlying hd, Result.andThen, run_sizeL hs, h0, h1, add_off]
        · cases h
      · cases h
    · rename_i k o1 l c z sz hs
      split at h
      · split at h
        · rename_i hz j s ob an1 hi
          cases h
          obtain ⟨kk, q, rfl, h0, h1, rfl⟩ := idxS_sound hi ho hv
          simp only [VR, SlR] at hu
          obtain ⟨o', cap, rfl, hlc, hcc, hor⟩ := hu
          have : o' = o1 := by
            rcases hor with h | h
            · exact h.1
            · omega
          subst this
          refine ⟨.pointer (some ⟨(ρ k).1, o' + q.toNat * sz, none⟩), ?_, by simp [VR], by simpa [LV.wf] using hw⟩
          simp [Instr.indexAt, asIntOf, run_underlying hd, Result.andThen, run_sizeL hs, h0, h1, add_off]
        · cases h
      · cases h
    · rename_i k l z sz hs
      split at h
      · split at h
        · rename_i hz j s ob an1 hi
          cases h
          obtain ⟨kk, q, rfl, h0, h1, rfl⟩ := idxS_sound hi ho hv
          simp only [VR, SoR] at hu
          obtain ⟨base, cap, rfl, hlc, hor⟩ := hu
          have : base = some ⟨(ρ k).1, 0, none⟩ := by
            rcases hor with h | h
            · omega
            · exact h.1
          subst this
          refine ⟨.pointer (some ⟨(ρ k).1, q.toNat * sz, none⟩), ?_, by simp [VR], by simpa [LV.wf] using hw⟩
          simp [Instr.indexAt, asIntOf, run_underlying hd, Result.andThen, run_sizeL hs, h0, h1, add_off]
        · cases h
      · cases h
    · cases h
  · cases h
end

theorem zeroL_sound {t : TypeId} {x : LV} (h : zeroL P t = some x) : ∃ v, (zeroValue t).run P w = .ok v w ∧ VR ρ x v ∧ x.wf A := by
  unfold zeroL at h
  cases hi : P.info? t with
  | none => rw [hi] at h; cases h
  | some i =>
    rw [hi] at h
    simp only [Option.bind_some] at h
    cases hz : i.zero with
    | none => rw [hz] at h; cases h
    | some z =>
      rw [hz] at h
      have := ofVal_sound (ρ := ρ) (A := A) h
      exact ⟨z, by simp [zeroValue, typeInfo, hi, hz, Result.andThen], this.1, this.2⟩

theorem evParts_sound {ev : Operand → Option LV} {ε : Operand → Value} : ∀ {ps : List (Nat × Operand)} {r : List (Nat × LV)}, evParts ev ps = some r → (∀ x ∈ ps.map (·.2), ∀ lx, ev x = some lx → VR ρ lx (ε x) ∧ lx.wf A) →
    (ps.map fun p => (p.1, ε p.2)).map (·.1) = r.map (·.1) ∧ VRs' ρ A (r.map (·.2)) ((ps.map fun p => (p.1, ε p.2)).map (·.2))
  | [], r, h, _ => by simp only [evParts] at h; cases h; simp [VRs']
  | (i, x) :: ps, r, h, hx => by
    simp only [evParts] at h
    split at h
    · rename_i v vs h1 h2
      split at h
      · cases h
      rename_i hany
      cases h
      obtain ⟨a1, a2⟩ := evParts_sound h2 (fun y hy => hx y (by simp at hy ⊢; exact .inr hy))
      refine ⟨by simpa using a1, ?_⟩
      simp only [List.map_cons, VRs']
      exact ⟨⟨by simpa using hany, hx x (by simp) v h1⟩, by simpa using a2⟩
    · cases h

theorem run_mapM_places : ∀ (fs : List Field), (fs.all fun f => (P.info? f.type).isSome) = true → ∀ (w : World),
    (fs.mapM (fun f => (do pure (f.offset, ← sizeOf f.type) : Sem (Nat × Nat)))).run P w = .ok (fs.map fun f => (f.offset, P.cellsOf f.type)) w
  | [], _, w => by simp
  | f :: fs, h, w => by
    simp only [List.all_cons, Bool.and_eq_true] at h
    obtain ⟨i, hi⟩ := Option.isSome_iff_exists.1 h.1
    have ih := run_mapM_places fs h.2 w
    simp only [List.mapM_cons, Sem.run_bind] at ih ⊢
    simp only [run_sizeOf w hi, Result.andThen, Sem.run_pure, ih, List.map_cons]

theorem buildX_sound {t : TypeId} {ps : List (Nat × LV)} {r : LV} (h : buildX P t ps = some r) {vp : List (Nat × Value)} (hi : vp.map (·.1) = ps.map (·.1)) (hx : VRs' ρ A (ps.map (·.2)) (vp.map (·.2))) :
    Gives P ρ A w (Instr.build t vp.toArray) r := by
  unfold buildX at h
  split at h
  · rename_i z fs hz hd
    split at h
    · rename_i hall
      cases hf : fillL (fun i => (fs[i]?).map fun f => (f.offset, P.cellsOf f.type)) (cellsL z) ps with
      | none => rw [hf] at h; cases h
      | some cs =>
        rw [hf] at h; cases h
        obtain ⟨zv, hzr, hzv, hzw⟩ := zeroL_sound (P := P) (ρ := ρ) (A := A) (w := w) hz
        obtain ⟨rs, h1, h2, h3⟩ := fill_sound (pl' := fun i => ((fs.map fun f => (f.offset, P.cellsOf f.type))[i]?)) (by intro i x hx; simpa using hx) hf (cells_VRs (zeroL_any hz) hzv) (cells_wf hzw) hi hx
        refine ⟨.agg rs.toArray, ?_, by simp only [VR]; exact ⟨rs, rfl, h2⟩, by simp only [LV.wf]; exact h3⟩
        have hm : (fs.mapM (fun f => (do pure (f.offset, ← sizeOf f.type) : Sem (Nat × Nat)))).run P w = .ok (fs.map fun f => (f.offset, P.cellsOf f.type)) w := by
          rw [Array.mapM_eq_mapM_toList]
          simp only [Sem.run_map, run_mapM_places fs.toList hall w, Result.andThen]
          congr 1
          apply Array.ext'
          simp
        unfold Instr.build
        simp only [Sem.run_bind, hzr, Result.andThen, run_underlying hd, hm]
        simp only [Array.toArray_toList, Array.getElem?_map] at h1
        simp [h1]
    · cases h
  · rename_i z n e hz hd
    split at h
    · rename_i sz hs
      cases hf : fillL (fun i => some (i * sz, sz)) (cellsL z) ps with
      | none => rw [hf] at h; cases h
      | some cs =>
        rw [hf] at h; cases h
        obtain ⟨zv, hzr, hzv, hzw⟩ := zeroL_sound (P := P) (ρ := ρ) (A := A) (w := w) hz
        obtain ⟨rs, h1, h2, h3⟩ := fill_sound (pl' := fun i => some (i * sz, sz)) (fun i x hx => hx) hf (cells_VRs (zeroL_any hz) hzv) (cells_wf hzw) hi hx
        refine ⟨.agg rs.toArray, ?_, by simp only [VR]; exact ⟨rs, rfl, h2⟩, by simp only [LV.wf]; exact h3⟩
        unfold Instr.build
        simp only [Sem.run_bind, hzr, Result.andThen, run_underlying hd, run_sizeL hs]
        simp [h1]
    · cases h
  · cases h

end
end Go.Vse
