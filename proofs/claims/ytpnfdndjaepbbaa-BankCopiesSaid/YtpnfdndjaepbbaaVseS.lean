/- Code of the executor is right: the sum. -/
import Derived.Test.YtpnfdndjaepbbaaVseR
namespace Go.Vse
open Go

section
variable [AbstRep]
variable {P : Program} {opq : Ctrs} {run : Tgt → List LV → List Tok → List Ans → FOut} {lf : Nat} {rd : Option Nat}

/-- What a statement over a function leaves, when its record lies. -/
theorem range_end {g : FuncId} {l : Nat} {cs : List LV} {tm : List LV} {df : Nat} {m1 : List Tok} {ps : Array Tmp} {asg body : Code} {an an' : List Ans} {v : LV} {ch : List (Nat × Tok)} {rr : List Nat} {ob : List Prop}
    (hr : RunOK P run) (hcall : callX run (.fn g) (.yl l :: cs) (m1 ++ [Tok.loop .ready none tm ps asg body df]) (m1 ++ [Tok.loop .ready none tm ps asg body df]).length an = some (v, ch, rr, ob, an')) (ho : AllP ob) (hl1 : l = m1.length)
    {lst : LoopState} {pend : Option Code} {tm' : List LV} {ps' : Array Tmp} {asg' body' : Code} {df' : Nat} (hlt : loopTok (setsTok (m1 ++ [Tok.loop .ready none tm ps asg body df]) ch) l = some (lst, pend, tm', ps', asg', body', df')) (hb : (lst == .busy) = false)
    {ex : Exit} (hj : jumpX pend = some ex) {F : Fence} (hF : okF F) {w0 : World} {pr : Nat → Prop} {ρ : Env} {w : World} {a : Act} {Q : Exit → Act → World → Prop} {cv : List Value}
    (hs : Sim w0 pr ρ (memOf (m1 ++ [Tok.loop .ready none tm ps asg body df])) w) (hcv : VRs ρ cs cv) (hcw : wfL (al (memOf (m1 ++ [Tok.loop .ready none tm ps asg body df]))) cs)
    (hQ : ∀ ρ' w', (∀ k, al (memOf (m1 ++ [Tok.loop .ready none tm ps asg body df])) k → ρ' k = ρ k) → Sim w0 pr ρ' (memOf ((setsTok (m1 ++ [Tok.loop .ready none tm ps asg body df]) ch).set l (.loop .exhausted pend tm' ps' asg' body' df'))) w' → Q ex a w') :
    CallsIn F 0 P g (#[.func (.yield (ρ l).1) #[] #[]] ++ cv.toArray) w (rangePost F 0 P (ρ l).1 Q a) := by
  obtain ⟨hcf, hspec⟩ := callX_sound hr hcall ho
  obtain ⟨hmono, hvw, hsp⟩ := hspec (memOf (m1 ++ [Tok.loop .ready none tm ps asg body df])) (fun _ _ => rfl)
  have hall : al (memOf (m1 ++ [Tok.loop .ready none tm ps asg body df])) l := by
    unfold al; rw [memOf_push, hl1, Mem.set_same]; rfl
  have := hsp F hF w0 pr ρ w (.func (.yield (ρ l).1) #[] #[] :: cv) (rangePost F 0 P (ρ l).1 Q a) hs (by simp only [VRs, VR]; exact ⟨_, _, rfl, rfl, hcv⟩) (by simp only [wfL, LV.wf]; exact ⟨hall, hcw⟩) ?_
  · have e : (#[.func (.yield (ρ l).1) #[] #[]] ++ cv.toArray : Array Value) = (.func (.yield (ρ l).1) #[] #[] :: cv).toArray := by apply Array.toList_inj.1; simp
    rw [e]; exact this
  · intro v' ρ' w' hag hv' hs'
    obtain ⟨htok, hlen⟩ := loopTok_some hlt
    simp only at htok
    rw [memOf_sets] at htok
    have hT := hs'.tok (k := l) (by rw [htok]; rfl)
    rw [htok] at hT
    obtain ⟨fn, tmps, hh, htm⟩ := hT
    have hwf := hs'.wf l
    rw [htok] at hwf
    rw [hag l hall] at hh
    have hnb : lst ≠ .busy := by intro e; subst e; exact absurd hb (by decide)
    have hrun := run_endLoop (P := P) hh hnb
    have hS := hs'.put (k := l) (by rw [htok]; rfl) (t := .loop .exhausted pend tm' ps' asg' body' df') (.of rfl hwf) (o := .loop { state := .exhausted, pending := pend, fn := fn, tmps := tmps.toArray, params := ps', assign := asg', body := body', defers := (ρ' df').1 }) ⟨fn, tmps, rfl, htm⟩
    rw [hag l hall, ← memOf_sets, ← memOf_setL hlen] at hS
    refine ⟨_, _, hrun, ?_⟩
    have hfin := hQ ρ' _ hag hS
    cases pend with
    | none => simp only [jumpX] at hj; cases hj; exact hfin
    | some c =>
      cases c with
      | ret => simp only [jumpX] at hj; cases hj; exact wpIn_ret hfin
      | exit id => simp only [jumpX] at hj; cases hj; exact wpIn_exit hfin
      | _ => simp [jumpX] at hj

theorem rangeX_sound (hct : CtOK P opq) (hr0 : RunOK P run) {f : Operand} {ps : Array Tmp} {asg body : Code} {st st' : St} {an an' : List Ans} {ex : Exit} {ob : List Prop}
    (h : codeX P opq run lf rd (.rangeFunc f ps asg body) st an = some (ex, st', ob, an')) (ho : AllP ob) : CodeOK P rd (.rangeFunc f ps asg body) st ex st' := by
  have hr := rgRun_ok hct hr0
  unfold codeX rangeGo at h
  split at h
  · rename_i g cs hf
    split at h
    · rename_i hg
      simp only at h
      split at h
      · cases h
      · rename_i l df m1 dm1 hst
        split at h
        · cases h
        · rename_i v ch rr ob1 an1 hcall
          split at h
          · rename_i lst pend tm ps' asg' body' df' hlt
            split at h
            · cases h
            · rename_i hbusy
              split at h
              · rename_i ex1 hj
                cases h
                have hbusy : (lst == LoopState.busy) = false := by simpa using hbusy
                obtain ⟨hcf, hspec⟩ := callX_sound hr hcall ho
                obtain ⟨hmono, _, _⟩ := hspec (memOf (m1 ++ [Tok.loop .ready none (st.fr.list st.n) ps asg body df])) (fun _ _ => rfl)
                obtain ⟨htok, hlen⟩ := loopTok_some hlt
                simp only at htok
                -- where the record lies
                have hcase : (∃ l0, rd = some l0 ∧ l = st.m.length ∧ m1 = st.m ∧ dm1 = st.dm ∧ ∃ q, loopTok st.m l0 = some q ∧ df = q.2.2.2.2.2.2) ∨ (rd = none ∧ l = st.m.length + 1 ∧ df = st.m.length ∧ m1 = st.m ++ [.defd] ∧ dm1 = st.m.length :: st.dm) := by
                  cases rd with
                  | some l0 =>
                    simp only at hst
                    split at hst
                    · rename_i hq
                      cases hst
                      exact .inl ⟨l0, rfl, rfl, rfl, rfl, _, hq, rfl⟩
                    · cases hst
                  | none => simp only at hst; cases hst; exact .inr ⟨rfl, rfl, rfl, rfl, rfl⟩
                have hl1 : l = m1.length := by
                  rcases hcase with ⟨l0, _, e1, e2, _⟩ | ⟨_, e1, _, e2, _⟩
                  · rw [e1, e2]
                  · rw [e1, e2]; simp
                have hlge : st.m.length ≤ l := by
                  rcases hcase with ⟨l0, _, e1, _⟩ | ⟨_, e1, _⟩ <;> omega
                have hm1 : ∀ k, al (memOf st.m) k → memOf (m1 ++ [Tok.loop .ready none (st.fr.list st.n) ps asg body df]) k = memOf st.m k ∧ k ≠ l := by
                  intro k hk
                  have hlt : k < st.m.length := by
                    rcases Nat.lt_or_ge k st.m.length with h | h
                    · exact h
                    · unfold al at hk; rw [memOf_len h] at hk; cases hk
                  have hne : k ≠ l := by omega
                  refine ⟨?_, hne⟩
                  rw [memOf_push, ← hl1, Mem.set_other _ _ hne]
                  rcases hcase with ⟨l0, _, _, e2, _⟩ | ⟨_, _, _, e2, _⟩
                  · rw [e2]
                  · rw [e2, memOf_push, Mem.set_other _ _ (by omega)]
                have hro1 : ∀ k, (memOf (m1 ++ [Tok.loop .ready none (st.fr.list st.n) ps asg body df]) k).isRo = true → (memOf st.m k).isRo = true := by
                  intro k hk
                  rw [memOf_push] at hk
                  by_cases e : k = m1.length
                  · subst e; rw [Mem.set_same] at hk; cases hk
                  · rw [Mem.set_other _ _ e] at hk
                    rcases hcase with ⟨l0, _, _, e2, _⟩ | ⟨_, _, _, e2, _⟩
                    · rw [e2] at hk; exact hk
                    · rw [e2, memOf_push] at hk
                      by_cases e3 : k = st.m.length
                      · subst e3; rw [Mem.set_same] at hk; cases hk
                      · rw [Mem.set_other _ _ e3] at hk; exact hk
                have hal1 : ∀ k, al (memOf st.m) k → al (memOf (m1 ++ [Tok.loop .ready none (st.fr.list st.n) ps asg body df])) k := fun k hk => by
                  unfold al; rw [(hm1 k hk).1]; exact hk
                have halm : ∀ k, al (memOf (m1 ++ [Tok.loop .ready none (st.fr.list st.n) ps asg body df])) k → al (memOf ((setsTok (m1 ++ [Tok.loop .ready none (st.fr.list st.n) ps asg body df]) ch).set l (.loop .exhausted pend tm ps' asg' body' df'))) k := by
                  intro k hk
                  unfold al
                  rw [memOf_setL hlen]
                  by_cases e : k = l
                  · subst e; rw [Mem.set_same]; rfl
                  · rw [Mem.set_other _ _ e, memOf_sets]; exact al_sets (fun p hp => (hcf p hp).1) hk
                refine ⟨fun k hk => halm k (hal1 k hk), rfl, fun k hk => by simp [hk], ?_, ?_, ?_⟩
                · intro k hk hn
                  simp only [List.mem_cons, List.mem_append, not_or, List.cons_append] at hn
                  show memOf ((setsTok (m1 ++ [Tok.loop .ready none (st.fr.list st.n) ps asg body df]) ch).set l _) k = _
                  rw [memOf_setL hlen, Mem.set_other _ _ hn.1, memOf_sets, Mem.sets_other, (hm1 k hk).1]
                  intro p hp e
                  exact hn.2.1 (List.mem_map.2 ⟨p, hp, e⟩)
                · intro k hk
                  have hk : (memOf ((setsTok (m1 ++ [Tok.loop .ready none (st.fr.list st.n) ps asg body df]) ch).set l (.loop .exhausted pend tm ps' asg' body' df')) k).isRo = true := hk
                  rw [memOf_setL hlen] at hk
                  by_cases e : k = l
                  · subst e; rw [Mem.set_same] at hk; cases hk
                  · rw [Mem.set_other _ _ e, memOf_sets] at hk
                    by_cases hin : ∃ p ∈ ch, p.1 = k
                    · rw [sets_ro _ _ _ (fun p hp => (hcf p hp).2) hin] at hk; cases hk
                    · rw [Mem.sets_other _ _ (fun p hp e => hin ⟨p, hp, e⟩)] at hk; exact hro1 k hk
                · intro F hF w0 pr ρ w a Q hro hs hfr hd hdal hrl hQ
                  obtain ⟨hfv, hfw⟩ := hfr.ev hf
                  simp only [VR] at hfv
                  obtain ⟨cv, hcv, hcr⟩ := hfv
                  simp only [LV.wf] at hfw
                  obtain ⟨htv, htw⟩ := hfr.all
                  -- the world behind the entry
                  have hent : ∀ fn, ∃ w1 mark ρ1, (Instr.enterLoop fn a.tmps ps asg body F.round).run P w = .ok ((ρ1 l).1, mark) w1 ∧ (∀ k, al (memOf st.m) k → ρ1 k = ρ k) ∧ Sim w0 pr ρ1 (memOf (m1 ++ [Tok.loop .ready none (st.fr.list st.n) ps asg body df])) w1 ∧
                      mark ++ a.defers = dm1.map (fun d => ({ target := .collected (ρ1 d).1, args := #[] } : Deferred)) ∧ (∀ d ∈ dm1, al (memOf (m1 ++ [Tok.loop .ready none (st.fr.list st.n) ps asg body df])) d) := by
                    intro fn
                    rcases hcase with ⟨l0, e0, e1, e2, e3, q, hq, e4⟩ | ⟨e0, e1, e4, e2, e3⟩
                    · subst e0
                      obtain ⟨ht0, _⟩ := loopTok_some hq
                      have hT := hs.tok (k := l0) (by rw [ht0]; rfl)
                      have hW := hs.wf l0
                      rw [ht0] at hT hW
                      obtain ⟨fn0, tmps0, hh, _⟩ := hT
                      rw [hro]
                      simp only [Option.map_some]
                      obtain ⟨hag, hS⟩ := hs.alloc (nt := st.m.length) (by rw [memOf_len (Nat.le_refl _)]; rfl) (t := .loop .ready none (st.fr.list st.n) ps asg body df) (.of rfl ⟨htw, by rw [e4]; exact hW.2⟩) (o := .loop { state := .ready, pending := none, fn := fn, tmps := a.tmps, params := ps, assign := asg, body := body, defers := (ρ df).1 }) (sz := 0)
                        ⟨fn, a.tmps.toList, by simp, htv⟩
                      refine ⟨w.alloc (.loop { state := .ready, pending := none, fn := fn, tmps := a.tmps, params := ps, assign := asg, body := body, defers := (ρ df).1 }), [], ρ.upd st.m.length (w.heap.size, 0), ?_, hag, ?_, ?_, ?_⟩
                      · rw [run_enterLoop_inner hh, e1, Env.upd_same, e4]
                      · rw [memOf_push, e2]; exact hS
                      · simp only [List.nil_append]; rw [hd, e3]
                        exact List.map_congr_left (fun d hd' => by rw [hag d (hdal d hd')])
                      · rw [e3]; exact fun d hd' => hal1 d (hdal d hd')
                    · subst e0
                      have hm1' : memOf m1 = (memOf st.m).set st.m.length .defd := by rw [e2, memOf_push]
                      obtain ⟨hag, hS⟩ := hs.alloc (nt := st.m.length) (by rw [memOf_len (Nat.le_refl _)]; rfl) (t := .defd) (.of rfl trivial) (o := .deferred (some [])) (sz := 0) rfl
                      have hald : al ((memOf st.m).set st.m.length .defd) st.m.length := by unfold al; rw [Mem.set_same]; rfl
                      have hals : ∀ k, al (memOf st.m) k → al ((memOf st.m).set st.m.length .defd) k := fun k hk => by
                        have := hal1 k hk
                        have hne := (hm1 k hk).2
                        unfold al at this ⊢
                        rw [memOf_push, ← hl1, Mem.set_other _ _ hne, hm1'] at this
                        exact this
                      obtain ⟨hag2, hS2⟩ := hS.alloc (nt := m1.length) (by rw [← hm1', memOf_len (Nat.le_refl _)]; rfl) (t := .loop .ready none (st.fr.list st.n) ps asg body df) (.of rfl ⟨wfL_mono hals _ htw, by rw [e4]; exact hald⟩)
                        (o := .loop { state := .ready, pending := none, fn := fn, tmps := a.tmps, params := ps, assign := asg, body := body, defers := w.heap.size }) (sz := 0) ⟨fn, a.tmps.toList, by rw [e4, Env.upd_same], VRs_congr (fun k hk => hag k hk) _ _ htw htv⟩
                      refine ⟨(w.alloc (.deferred (some []))).alloc (.loop { state := .ready, pending := none, fn := fn, tmps := a.tmps, params := ps, assign := asg, body := body, defers := w.heap.size }), [{ target := .collected w.heap.size, args := #[] }],
                        (ρ.upd st.m.length (w.heap.size, 0)).upd m1.length ((w.alloc (.deferred (some []))).heap.size, 0), ?_, fun k hk => (hag2 k (hals k hk)).trans (hag k hk), ?_, ?_, ?_⟩
                      · rw [hro]
                        simp only [Option.map_none]
                        rw [run_enterLoop_outer, hl1, Env.upd_same]
                        simp
                      · rw [memOf_push, hm1']; exact hS2
                      · rw [e3, hd]
                        simp only [List.map_cons, List.singleton_append, List.cons.injEq]
                        refine ⟨by rw [hag2 _ hald, Env.upd_same], List.map_congr_left (fun d hd' => by rw [hag2 d (hals d (hdal d hd')), hag d (hdal d hd')])⟩
                      · intro d hd'
                        rw [e3] at hd'
                        rcases List.mem_cons.1 hd' with e | e
                        · subst e
                          unfold al
                          rw [memOf_push, Mem.set_other _ _ (by rw [e2]; simp), hm1', Mem.set_same]; rfl
                        · exact hal1 d (hdal d e)
                  refine wpIn_rangeFunc (fun fn _ => ?_)
                  obtain ⟨w1, mark, ρ1, he, hag, hS, hmk, hmal⟩ := hent fn
                  have hres : (resolve a.eval (rangeCall f (ρ1 l).1) 0).run P w1 = .ok { target := .fn (.func g) cv.toArray, args := #[.func (.yield (ρ1 l).1) #[] #[]] } w1 := by
                    rw [rangeCall, run_resolve_fn hcv]
                    simp [Act.eval]
                  refine ⟨_, mark, w1, _, w1, g, #[.func (.yield (ρ1 l).1) #[] #[]] ++ cv.toArray, w1, he, hres, fun f' _ => okF_fn hF f', ?_, fun h => (by rw [hF.2] at h; cases h), ?_⟩
                  · simp only [invoke]
                    exact run_callFunc hg
                  · have hfw1 := wfL_mono hal1 _ hfw
                    refine range_end hr hcall ho hl1 hlt hbusy hj hF hS (VRs_congr hag _ _ hfw hcr) hfw1 ?_
                    intro ρ' w' g1 g2
                    refine hQ ρ' _ w' (fun k hk => (g1 k (hal1 k hk)).trans (hag k hk)) g2 ?_ ?_ ?_
                    · exact hfr.keep (fun k hk => (g1 k (hal1 k hk)).trans (hag k hk)) (fun k hk => halm k (hal1 k hk))
                    · show mark ++ a.defers = _
                      rw [hmk]
                      exact List.map_congr_left (fun d hd' => by rw [g1 d (hmal d hd')])
                    · exact fun d hd' => halm d (hmal d hd')
              · cases h
          · cases h
    · cases h
  · cases h

end
end Go.Vse
