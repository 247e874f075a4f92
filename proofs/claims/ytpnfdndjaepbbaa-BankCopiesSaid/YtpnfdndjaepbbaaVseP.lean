/- One operation of the executor is right. -/
import Derived.Test.YtpnfdndjaepbbaaVseO
namespace Go.Vse
open Go

theorem semAt_of {ro : Option Nat} {ε : Operand → Value} {o : Oper} (h : ∀ c, o.op ≠ .defer c) : o.semAt ro ε = execOp ε o := Oper.semAt_eq ro ε o h

theorem looks_mem {o : Oper} {t : Tmp} (h : .tmp t ∈ o.op.operands) : t ∈ looks o := by
  unfold looks
  exact List.mem_filterMap.2 ⟨.tmp t, by simpa using h, rfl⟩

theorem look_ev {ρ : Env} {A : Nat → Prop} {o : Oper} {fr : Tmp → LV} {a : Act} (hl : LookR ρ A (looks o) fr a) : ∀ x ∈ o.op.operands, ∀ lx, evO fr x = some lx → VR ρ lx (a.eval x) ∧ lx.wf A := by
  intro x hx lx h
  exact evO_sound h (fun t e => hl t (looks_mem (e ▸ hx)))

section
variable [AbstRep]
theorem globAt_some {m : List Tok} {g k : Nat} (h : globAt m g = some k) : ∃ T cs, memOf m k = .glob g T cs := by
  unfold globAt at h
  simp only at h
  split at h
  · rename_i hlt
    cases h
    have := List.findIdx_getElem (w := hlt)
    have e : memOf m (m.findIdx (·.isGlob g)) = m[m.findIdx (·.isGlob g)] := by simp [memOf, List.getD_eq_getElem?_getD, hlt]
    rw [e]
    generalize m[m.findIdx (·.isGlob g)] = t at this
    cases t <;> simp [Tok.isGlob] at this
    subst this
    exact ⟨_, _, rfl⟩
  · cases h

theorem globUse_mem {m : List Tok} {op : Op} {g k : Nat} (hx : .global g ∈ op.operands) (h : globAt m g = some k) : k ∈ globUse m op := by
  unfold globUse
  exact List.mem_filterMap.2 ⟨.global g, by simpa using hx, h⟩

theorem opX_spec {P : Program} {o : Oper} {fr : Tmp → LV} {nt : Nat} {m : List Tok} {an an' : List Ans} {v : LV} {ch : List (Nat × Tok)} {rd : List Nat} {ob : List Prop}
    (h : opX P nt o.op (evG m fr) (memOf m) an = some (v, ch, rd, ob, an')) (ho : AllP ob) : ∀ M : Mem, (∀ k ∈ rd ++ globUse m o.op, M k = memOf m k) → OSpec P o fr M v ch := by
  intro M hM F hF w0 pr ρ w a K Q hs hl hK
  have hnd : ∀ c, o.op ≠ .defer c := by
    intro c e
    rw [e] at h
    simp [opX, pureX, memX, memC, memS] at h
  unfold Oper.wpIn
  refine ⟨fun f _ => okF_fn hF f, ?_⟩
  rw [semAt_of hnd]
  have hev : ∀ x ∈ o.op.operands, ∀ lx, evG m fr x = some lx → VR ρ lx (a.eval x) ∧ lx.wf (al M) := by
    intro x hx lx hlx
    cases x with
    | global g =>
      simp only [evG] at hlx
      split at hlx
      · rename_i k hk
        cases hlx
        obtain ⟨T, cs, hg⟩ := globAt_some hk
        have hMk : M k = .glob g T cs := (hM k (List.mem_append.2 (.inr (globUse_mem hx hk)))).trans hg
        simp only [VR, LV.wf, Act.eval, hs.gl k g T cs hMk]
        exact ⟨trivial, by unfold al; rw [hMk]; rfl⟩
      · exact look_ev hl _ hx _ hlx
    | tmp t => exact look_ev hl _ hx _ hlx
    | const c => exact look_ev hl _ hx _ hlx
    | func f => exact look_ev hl _ hx _ hlx
  unfold opX at h
  split at h
  · rename_i v1 ob1 an1 hp
    cases h
    obtain ⟨u, hr, hv, hw⟩ := pureX_sound (w := w) hp ho hev rfl
    rw [hr, Oper.uponIn_value]
    exact hK u ρ w (fun _ _ => rfl) hv hw hs
  · obtain ⟨nx, u, ρ', w', hr, hnx, hag, hv, hw, hS⟩ := memX_sound h ho (fun k hk => hM k (List.mem_append.2 (.inl hk))) hs hev rfl
    rw [hr]
    rcases hnx with e | ⟨e, eu⟩
    · subst e; rw [Oper.uponIn_value]; exact hK u ρ' w' hag hv hw hS
    · subst e; rw [Oper.uponIn_skip]; subst eu; exact hK undef ρ' w' hag hv hw hS
end

theorem run_resolve_fn {P : Program} {w : World} {ε : Operand → Value} {args : Array Operand} {at' : Array TypeId} {f : Operand} {ty : TypeId} {fn : Fn} {caps : Array Value} (h : ε f = .func fn #[] caps) :
    (resolve ε { callee := .value f, args := args, argTypes := at' } ty).run P w = .ok { target := .fn fn caps, args := args.map ε } w := by
  simp only [resolve, h, Deferred.ofValue, Sem.run_pure]
  congr 2
  simp

theorem run_callFunc {P : Program} {w : World} {g : FuncId} {args : Array Value} (h : enterB P g = true) : (callFunc g args).run P w = .ok (.enter g args) w := by
  unfold enterB at h
  cases hf : P.funcs[g]? with
  | none => rw [hf] at h; cases h
  | some fn =>
    rw [hf] at h
    simp only [Bool.and_eq_true, Bool.not_eq_true'] at h
    have hn : fn.name ≠ "runtime.NumGoroutine" := by simpa using h.2
    have hb : fn.body ≠ none := by cases hb : fn.body <;> simp_all
    simp [callFunc, Sem.run_bind, hf, Result.andThen, hn, hb]

theorem exec_call_fn {P : Program} {w : World} {ε : Operand → Value} {o : Oper} {args : Array Operand} {at' : Array TypeId} {f : Operand} {g : FuncId} {caps : Array Value} (ho : o.op = .call { callee := .value f, args := args, argTypes := at' })
    (h : ε f = .func (.func g) #[] caps) (hg : enterB P g = true) : (execOp ε o).run P w = .ok (.enter g (args.map ε ++ caps)) w := by
  simp only [execOp, ho, Sem.run_bind, run_resolve_fn h, Result.andThen, invoke, run_callFunc hg]

theorem exec_call_yl {P : Program} {w : World} {ε : Operand → Value} {o : Oper} {args : Array Operand} {at' : Array TypeId} {f : Operand} {l : Nat} (ho : o.op = .call { callee := .value f, args := args, argTypes := at' })
    (h : ε f = .func (.yield l) #[] #[]) : (execOp ε o).run P w = (Instr.yield l (args.map ε)).run P w := by
  simp only [execOp, ho, Sem.run_bind, run_resolve_fn h, Result.andThen, invoke]

section
variable [AbstRep]
/-- A call of a function, by its triple. -/
theorem fspec_fn {P : Program} {o : Oper} {fr : Tmp → LV} {M : Mem} {v : LV} {ch : List (Nat × Tok)} {args : Array Operand} {at' : Array TypeId} {f : Operand} {g : FuncId} {cs as : List LV} (ho : o.op = .call { callee := .value f, args := args, argTypes := at' })
    (hf : evO fr f = some (.fn g cs)) (ha : evAll (evO fr) args.toList = some as) (hg : enterB P g = true) (hs : FSpec P (.fn g) (as ++ cs) M v (M.sets ch)) : OSpec P o fr M v ch := by
  obtain ⟨hmono, hvw, hspec⟩ := hs
  intro F hF w0 pr ρ w a K Q hs hl hK
  unfold Oper.wpIn
  refine ⟨fun f _ => okF_fn hF f, ?_⟩
  have hnd : ∀ c, o.op ≠ .defer c := by intro c e; rw [ho] at e; cases e
  rw [semAt_of hnd]
  have hops : ∀ x ∈ (o.op.operands), ∀ lx, evO fr x = some lx → VR ρ lx (a.eval x) ∧ lx.wf (al M) := look_ev hl
  have hfo : f ∈ o.op.operands := by rw [ho]; simp [Op.operands, Call.operands]
  obtain ⟨hfv, hfw⟩ := hops f hfo _ hf
  simp only [VR] at hfv
  obtain ⟨cv, hcv, hcr⟩ := hfv
  simp only [LV.wf] at hfw
  have hae := evAll_sound (ρ := ρ) (A := al M) (ε := a.eval) ha (fun x hx lx hlx => hops x (by rw [ho]; simp only [Op.operands, Call.operands]; exact Array.mem_append.2 (.inr (by simpa using hx))) lx hlx)
  rw [exec_call_fn ho hcv hg, Oper.uponIn_enter]
  refine ⟨fun h => (by rw [hF.2] at h; cases h), ?_⟩
  have := hspec F hF w0 pr ρ w (args.toList.map a.eval ++ cv) (fun e w'' => match e with
      | .returned v => K (a.put o.dst v) w''
      | .panicked chain => Q (.panic chain) a w''
      | .outgrown => LetsOut Q) hs (VRs_append hae.1 hcr) (wfL_append.2 ⟨hae.2, hfw⟩) (fun v' ρ' w' h1 h2 h3 => hK v' ρ' w' h1 h2 hvw h3)
  have he : args.map a.eval ++ cv.toArray = (args.toList.map a.eval ++ cv).toArray := by
    apply Array.toList_inj.1; simp
  rw [he]
  exact CallsIn.mono (n := 0) this (fun e w' he => by cases e <;> exact he)

theorem fspec_yl {P : Program} {o : Oper} {fr : Tmp → LV} {M : Mem} {v : LV} {ch : List (Nat × Tok)} {args : Array Operand} {at' : Array TypeId} {f : Operand} {k : Nat} {as : List LV} (ho : o.op = .call { callee := .value f, args := args, argTypes := at' })
    (hf : evO fr f = some (.yl k)) (ha : evAll (evO fr) args.toList = some as) (hs : FSpec P (.yl k) as M v (M.sets ch)) : OSpec P o fr M v ch := by
  obtain ⟨hmono, hvw, hspec⟩ := hs
  intro F hF w0 pr ρ w a K Q hs hl hK
  unfold Oper.wpIn
  refine ⟨fun f _ => okF_fn hF f, ?_⟩
  have hnd : ∀ c, o.op ≠ .defer c := by intro c e; rw [ho] at e; cases e
  rw [semAt_of hnd]
  have hops : ∀ x ∈ (o.op.operands), ∀ lx, evO fr x = some lx → VR ρ lx (a.eval x) ∧ lx.wf (al M) := look_ev hl
  have hfo : f ∈ o.op.operands := by rw [ho]; simp [Op.operands, Call.operands]
  obtain ⟨hfv, hfw⟩ := hops f hfo _ hf
  simp only [VR] at hfv
  simp only [LV.wf] at hfw
  have hae := evAll_sound (ρ := ρ) (A := al M) (ε := a.eval) ha (fun x hx lx hlx => hops x (by rw [ho]; simp only [Op.operands, Call.operands]; exact Array.mem_append.2 (.inr (by simpa using hx))) lx hlx)
  rw [exec_call_yl ho hfv]
  obtain ⟨fn, tmps, asg, body, hy, hR⟩ := hspec F hF w0 pr ρ w (args.toList.map a.eval) (fun e w'' => match e with
      | .returned v => K (a.put o.dst v) w''
      | .panicked chain => Q (.panic chain) a w''
      | .outgrown => LetsOut Q) hs hae.1 hae.2 (fun v' ρ' w' h1 h2 h3 => hK v' ρ' w' h1 h2 hvw h3) hfw
  have he : args.map a.eval = (args.toList.map a.eval).toArray := by
    apply Array.toList_inj.1; simp
  rw [he, hy, Oper.uponIn_round]
  exact ⟨fun h => (by rw [hF.2] at h; cases h), RoundIn.mono (n := 0) hR (fun e w' he => by cases e <;> exact he)⟩

theorem owed_call {P : Program} {f : FuncId} {args : List LV} {m : Mem} {r : List Nat} {v : LV} {c : List (Nat × Tok)} (h : AllP (owed P f args m r v c)) : ∀ M : Mem, (∀ k ∈ r, M k = m k) → FSpec P (.fn f) args M v (M.sets c) := by
  unfold owed at h
  split at h
  · exact fun M _ => h.1 M
  · intro M hM
    refine h.1 M (fun p hp => ?_)
    obtain ⟨k, hk, rfl⟩ := List.mem_map.1 hp
    exact hM k hk

theorem stepX_sound {P : Program} {opq : Ctrs} (hct : CtOK P opq) {run : Tgt → List LV → List Tok → List Ans → FOut} (hr : RunOK P run) {o : Oper} {fr : Tr} {m : List Tok} {nt : Nat} {an an' : List Ans} {v : LV} {ch : List (Nat × Tok)} {rd : List Nat} {ob : List Prop}
    (h : stepX P opq run o fr m nt an = some (v, ch, rd, ob, an')) (ho : AllP ob) : ∀ M : Mem, (∀ k ∈ rd, M k = memOf m k) → OSpec P o (frOf fr) M v ch := by
  unfold stepX at h
  split at h
  · rename_i f args at' hop
    unfold stepCall at h
    split at h
    · rename_i g cs as hf ha
      split at h
      · rename_i hg
        split at h
        · split at h
          · rename_i v1 c1 r1 an1
            cases h
            intro M hM
            exact fspec_fn hop hf ha hg (owed_call ho M hM)
          · rw [Abst.nd_none] at h; cases h
        · rename_i s hs
          intro M hM
          exact fspec_fn hop hf ha hg ((callX_sound (onlyFn_ok (hct g s hs)) h ho).2 M hM)
        · intro M hM
          exact fspec_fn hop hf ha hg ((callX_sound hr h ho).2 M hM)
      · cases h
    · rename_i k as hf ha
      intro M hM
      exact fspec_yl hop hf ha ((callX_sound hr h ho).2 M hM)
    · cases h
  · split at h
    · rename_i v1 c1 r1 ob1 an1 hop
      cases h
      rw [opY_eq] at hop
      exact opX_spec hop ho
    · cases h
end

end Go.Vse
