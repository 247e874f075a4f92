/- The executor is right: functions and rounds. -/
import Derived.Test.YtpnfdndjaepbbaaVseT
namespace Go.Vse
open Go

section
variable [AbstRep]
theorem leaves_hid {P : Program} {fn : Func} {tmps : Array Value} {R : Ending → World → Prop} {F : Fence} {w0 : World} {pr : Nat → Prop} {ρ : Env} : ∀ {dm : List Nat} {M : Mem} {w : World}, Sim w0 pr ρ M w → (∀ d ∈ dm, M d = .defd) → dm.Nodup →
    (∀ w', Sim w0 pr ρ (M.sets (dm.map fun d => (d, .hid))) w' → ∃ v, (results fn tmps).run P w' = .ok v w' ∧ R (.returned v) w') →
    LeavesInM F 0 P fn tmps R (dm.map (fun d => ({ target := .collected (ρ d).1, args := #[] } : Deferred))) .returning w
  | [], M, w, hs, _, _, h => h w hs
  | d :: dm, M, w, hs, hd, hn, h => by
    rw [List.nodup_cons] at hn
    refine ⟨by simp, .inl ⟨(ρ d).1, w.putObj (ρ d).1 (.deferred none), rfl, ?_, ?_⟩⟩
    · have hT := hs.tok (k := d) (by rw [hd d (by simp)]; rfl)
      rw [hd d (by simp)] at hT
      exact run_takeDeferred hT
    · refine leaves_hid (hs.drop (by rw [hd d (by simp)]; rfl) _) (fun e he => ?_) hn.2 h
      rw [Mem.set_other _ _ (fun h => hn.1 (by rw [← h]; exact he))]
      exact hd e (List.mem_cons_of_mem _ he)
end

theorem rep_VRs {ρ : Env} : ∀ n, VRs ρ (List.replicate n (.tup [])) (List.replicate n undef)
  | 0 => by simp [VRs]
  | n + 1 => by
    simp only [List.replicate_succ, VRs]
    exact ⟨_, _, rfl, by simp only [VR]; exact ⟨[], rfl, by simp [VRs]⟩, rep_VRs n⟩
theorem rep_wf {A : Nat → Prop} : ∀ n, wfL A (List.replicate n (.tup []))
  | 0 => by simp [wfL]
  | n + 1 => by simp only [List.replicate_succ, wfL, LV.wf]; exact ⟨trivial, rep_wf n⟩

theorem round_VRs {ρ : Env} : ∀ {ps : List Tmp} {args : List LV} {vs : List Value} {tm : List LV} {tv : List Value}, VRs ρ args vs → VRs ρ tm tv →
    VRs ρ ((ps.zip args).foldl (fun fr p => fr.set p.1 p.2) tm) ((ps.zip vs).foldl (fun fr p => fr.set p.1 p.2) tv)
  | [], _, _, _, _, _, h => by simpa using h
  | p :: ps, [], vs, tm, tv, ha, h => by
    simp only [VRs] at ha; subst ha; simpa using h
  | p :: ps, x :: args, vs, tm, tv, ha, h => by
    simp only [VRs] at ha
    obtain ⟨v, r, rfl, h1, h2⟩ := ha
    simp only [List.zip_cons_cons, List.foldl_cons]
    refine round_VRs h2 (VRs_of (by simp [VRs_length h]) (fun j y u hy hu => ?_))
    rw [List.getElem?_set] at hy hu
    split at hy
    · rename_i e
      subst e
      have hl := VRs_length h
      split at hy
      · rename_i hlt
        cases hy
        simp only [if_true, hl, hlt] at hu; cases hu; exact h1
      · cases hy
    · rename_i e
      rw [if_neg e] at hu
      obtain ⟨u', hu', hr⟩ := VRs_get h j y hy
      rw [hu] at hu'; cases hu'; exact hr

theorem round_wf {A : Nat → Prop} : ∀ {ps : List Tmp} {args : List LV} {tm : List LV}, wfL A args → wfL A tm → wfL A ((ps.zip args).foldl (fun fr p => fr.set p.1 p.2) tm)
  | [], _, _, _, h => by simpa using h
  | p :: ps, [], tm, _, h => by simpa using h
  | p :: ps, x :: args, tm, ha, h => by
    simp only [wfL] at ha
    simp only [List.zip_cons_cons, List.foldl_cons]
    refine round_wf ha.2 (wfL_iff.2 (fun y hy => ?_))
    rcases List.mem_or_eq_of_mem_set hy with e | e
    · exact wfL_iff.1 h y e
    · rw [e]; exact ha.1

theorem fold_toList : ∀ (l : List (Tmp × Value)) (t : Array Value), (l.foldl (fun tmps p => tmps.setIfInBounds p.1 p.2) t).toList = l.foldl (fun fr p => fr.set p.1 p.2) t.toList
  | [], t => rfl
  | p :: l, t => by simp only [List.foldl_cons]; rw [fold_toList l]; simp

theorem ite_noneB {α : Type} {c : Bool} {x : Option α} {b : α} (h : (if c = true then x else none) = some b) : c = true ∧ x = some b := by
  cases c <;> simp_all

section
variable [AbstRep]
theorem runF_fn {P : Program} {opq : Ctrs} {lf n : Nat} (hct : CtOK P opq) (ih : RunOK P (runF P opq lf n)) {f : FuncId} {args : List LV} {m : List Tok} {an an' : List Ans} {v : LV} {m' : List Tok} {wr : List Nat} {ob : List Prop}
    (h : runF P opq lf (n + 1) (.fn f) args m an = some (v, m', wr, ob, an')) (ho : AllP ob) :
    FSpec P (.fn f) args (memOf m) v (memOf m') ∧ (∀ k, al (memOf m) k → k ∉ wr → memOf m' k = memOf m k) ∧ (∀ k, (memOf m' k).isRo = true → (memOf m k).isRo = true) := by
  simp only [runF] at h
  split at h
  · cases h
  · rename_i fn hfn
    split at h
    · cases h
    · rename_i body hbody
      split at h
      · rename_i ex st ob1 an1 hc
        obtain ⟨hcond, h⟩ := ite_noneB h
        · split at h
          · rename_i v1 hres
            obtain ⟨hvt, h⟩ := ite_noneB h
            · cases h
              simp only [Bool.and_eq_true] at hcond
              obtain ⟨⟨hex, hmk⟩, hsz⟩ := hcond
              simp only [decide_eq_true_eq] at hsz
              unfold marksOk at hmk
              simp only [Bool.and_eq_true, List.all_eq_true] at hmk
              have hnd := nodupB_iff hmk.1
              have hdm : ∀ d ∈ st.dm, memOf st.m d = .defd := by
                intro d hd
                have := hmk.2 d hd
                unfold memOf
                split at this
                · assumption
                · cases this
              obtain ⟨g1, g2, g3, g4, g5, g6⟩ := codeX_sound (rd := none) hct ih body hc ho
              have hhf : ∀ p ∈ st.dm.map (fun d => (d, Tok.hid)), p.2.isFree = false ∧ p.2.isRo = false := by
                intro p hp
                obtain ⟨d, _, rfl⟩ := List.mem_map.1 hp
                exact ⟨rfl, rfl⟩
              have halm : ∀ k, al (memOf st.m) k → al (memOf (setsTok st.m (st.dm.map fun d => (d, .hid)))) k := by
                intro k hk
                rw [memOf_sets]
                exact al_sets (fun p hp => (hhf p hp).1) hk
              refine ⟨⟨fun k hk => halm k (g1 k hk), LV.toks_wf _ (fun k hk => ?_), ?_⟩, fun k hk hn => ?_, fun k hk => ?_⟩
              · have := List.all_eq_true.1 hvt k hk
                simpa [al, memOf] using this
              · intro F hF w0 pr ρ w vs R hs hv hw hK
                show CallsIn F.plain 0 P f vs.toArray w R
                have hFp : okF F.plain := ⟨hF.1, hF.2⟩
                refine callsIn_of_wp_marks hfn hbody (okF_fn hFp f) ?_ rfl
                have hl := VRs_length hv
                have htm : (vs.toArray ++ Array.replicate (fn.ntmps - vs.toArray.size) undef).toList = vs ++ List.replicate (fn.ntmps - args.length) undef := by simp [hl]
                have hfr0 : FrR ρ (memOf m) fn.ntmps (frOf (Tr.ofL args)) { tmps := vs.toArray ++ Array.replicate (fn.ntmps - vs.toArray.size) undef, defers := [] } := by
                  have h1 : FrR ρ (memOf m) (args ++ List.replicate (fn.ntmps - args.length) (LV.tup [])).length (frOf (Tr.ofL (args ++ List.replicate (fn.ntmps - args.length) (LV.tup [])))) { tmps := vs.toArray ++ Array.replicate (fn.ntmps - vs.toArray.size) undef, defers := [] } :=
                    frR_of (by simp; omega) (by rw [htm]; exact VRs_append hv (rep_VRs _)) (wfL_append.2 ⟨hw, rep_wf _⟩)
                  have e1 : (args ++ List.replicate (fn.ntmps - args.length) (LV.tup [])).length = fn.ntmps := by simp; omega
                  have e2 : frOf (Tr.ofL (args ++ List.replicate (fn.ntmps - args.length) (LV.tup []))) = frOf (Tr.ofL args) := by
                    funext t
                    rw [frOf_ofL (by simp; omega), frOf_ofL (by omega)]
                    simp only [List.getD_eq_getElem?_getD, List.getElem?_append]
                    split
                    · rfl
                    · rename_i h
                      rw [List.getElem?_eq_none (show args.length ≤ t by omega), List.getElem?_replicate]
                      split <;> rfl
                  rw [e1, e2] at h1
                  exact h1
                refine g6 F.plain hFp w0 pr ρ w _ _ rfl hs hfr0 rfl (by simp) (by simp) ?_
                · intro ρ' a' w' hag hs' hf' hd' hdal
                  have hleave : LeavesInM F.plain 0 P fn a'.tmps R a'.defers .returning w' := by
                    rw [hd']
                    refine leaves_hid hs' hdm hnd (fun w'' hs'' => ?_)
                    rw [← memOf_sets] at hs''
                    have hf2 : FrR ρ' (memOf (setsTok st.m (st.dm.map fun d => (d, .hid)))) st.n (frOf st.fr) { tmps := a'.tmps, defers := [] } := FrR.keep (a := { tmps := a'.tmps, defers := [] }) ⟨hf'.1, hf'.2⟩ (fun _ _ => rfl) halm
                    obtain ⟨u, hu, hvu⟩ := resX_sound (fn := fn) hs'' hf2 hres
                    exact ⟨u, hu, hK u ρ' w'' hag hvu hs''⟩
                  cases ex <;> first | exact hleave | cases hex
              · simp only [List.mem_append, not_or] at hn
                rw [memOf_sets, Mem.sets_other, g4 k hk hn.2]
                intro p hp e
                obtain ⟨d, hd, rfl⟩ := List.mem_map.1 hp
                exact hn.1 (e ▸ hd)
              · rw [memOf_sets] at hk
                by_cases hin : ∃ p ∈ st.dm.map (fun d => (d, Tok.hid)), p.1 = k
                · rw [sets_ro _ _ _ (fun p hp => (hhf p hp).2) hin] at hk; cases hk
                · rw [Mem.sets_other _ _ (fun p hp e => hin ⟨p, hp, e⟩)] at hk; exact g5 k hk
          · cases h
      · cases h
end

theorem run_round {P : Program} {w : World} {l : Nat} {r : Loop} {args : List Value} (h : w.heap[l]? = some (.loop r)) (hs : args.length = r.params.size) :
    (Instr.yield l args.toArray).run P w = .ok (.round l r.fn (((r.params.toList.zip args).foldl (fun fr p => fr.set p.1 p.2) r.tmps.toList).toArray) r.assign r.body) w := by
  rw [run_yield h (by simpa using hs)]
  congr 2
  apply Array.toList_inj.1
  rw [← Array.foldl_toList]
  have := fold_toList (r.params.toList.zip args) r.tmps
  simp only [Array.toList_zip] at this ⊢
  exact this

end Go.Vse
