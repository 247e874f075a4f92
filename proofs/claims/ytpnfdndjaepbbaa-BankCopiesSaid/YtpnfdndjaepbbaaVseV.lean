/- The executor is right: rounds; the whole. -/
import Derived.Test.YtpnfdndjaepbbaaVseU
namespace Go.Vse
open Go

theorem round_len : ∀ (l : List (Tmp × LV)) (tm : List LV), (l.foldl (fun fr p => fr.set p.1 p.2) tm).length = tm.length
  | [], _ => rfl
  | p :: l, tm => by simp only [List.foldl_cons]; rw [round_len l]; simp

section
variable [AbstRep]
theorem runF_yl {P : Program} {opq : Ctrs} {lf n : Nat} (hct : CtOK P opq) (ih : RunOK P (runF P opq lf n)) {k : Nat} {args : List LV} {m : List Tok} {an an' : List Ans} {v : LV} {m' : List Tok} {wr : List Nat} {ob : List Prop}
    (h : runF P opq lf (n + 1) (.yl k) args m an = some (v, m', wr, ob, an')) (ho : AllP ob) :
    FSpec P (.yl k) args (memOf m) v (memOf m') ∧ (∀ j, al (memOf m) j → j ∉ wr → memOf m' j = memOf m j) ∧ (∀ j, (memOf m' j).isRo = true → (memOf m j).isRo = true) := by
  simp only [runF] at h
  split at h
  · rename_i pend tm ps asg body df hlt0
    split at h
    · rename_i hsz
      split at h
      · rename_i st1 ob1 an1 hc1
        split at h
        · rename_i pend1 tm1 ps1 asg1 body1 df1 hlt1
          split at h
          · rename_i ex st2 ob2 an2 hc2
            obtain ⟨hdm, h⟩ := ite_noneB h
            split at h
            · rename_i ls2 pend2 tm2 ps2 asg2 body2 df2 jump hlt2 hjump
              cases h
              rw [AllP_append] at ho
              obtain ⟨g1, g2, g3, g4, g5, g6⟩ := codeX_sound (rd := some k) hct ih asg hc1 ho.1
              obtain ⟨k1, k2, k3, k4, k5, k6⟩ := codeX_sound (rd := some k) hct ih body hc2 ho.2
              obtain ⟨t0, l0⟩ := loopTok_some hlt0
              obtain ⟨t1, l1⟩ := loopTok_some hlt1
              obtain ⟨t2, l2⟩ := loopTok_some hlt2
              simp only at t0 t1 t2
              have hal1 : ∀ j, al (memOf st1.m) j → al (memOf (st1.m.set k (.loop .busy pend1 tm1 ps1 asg1 body1 df1))) j := by
                intro j hj
                unfold al; rw [memOf_setL l1]
                by_cases e : j = k
                · subst e; rw [Mem.set_same]; rfl
                · rw [Mem.set_other _ _ e]; exact hj
              have hal2 : ∀ j, al (memOf st2.m) j → al (memOf (st2.m.set k (.loop (if jump.isNone then .ready else .done) jump tm2 ps2 asg2 body2 df2))) j := by
                intro j hj
                unfold al; rw [memOf_setL l2]
                by_cases e : j = k
                · subst e; rw [Mem.set_same]; rfl
                · rw [Mem.set_other _ _ e]; exact hj
              have halk : al (memOf m) k := by unfold al; rw [t0]; rfl
              have halk1 := g1 k halk
              have halk1' := hal1 k halk1
              have halk2 := k1 k halk1'
              refine ⟨⟨fun j hj => hal2 j (k1 j (hal1 j (g1 j hj))), by simp [LV.wf], ?_⟩, fun j hj hn => ?_, fun j hj => ?_⟩
              · intro F hF w0 pr ρ w vs R hs hv hw hK hal
                have hT := hs.tok (k := k) (by rw [t0]; rfl)
                have hW := hs.wf k
                rw [t0] at hT hW
                obtain ⟨fn, tmps, hh, htm⟩ := hT
                have hl := VRs_length hv
                refine ⟨_, _, _, _, run_round hh (by rw [hl]; exact hsz.1), ?_⟩
                refine roundIn_of_wpIn (okF_fn hF _) ?_
                have hFr : okF (F.inRound (ρ k).1) := okF_inRound hF _
                have hfr0 : ∀ a : Act, a.tmps.toList = (ps.toList.zip vs).foldl (fun fr p => fr.set p.1 p.2) tmps → FrR ρ (memOf m) tm.length (frOf (Tr.ofL (roundFr tm ps args))) a := by
                  intro a ha
                  have e : (roundFr tm ps args).length = tm.length := round_len _ _
                  have h1 := frR_of (a := a) (fr := roundFr tm ps args) (m := memOf m) (by rw [e]; exact hsz.2) (by rw [ha]; exact round_VRs hv htm) (round_wf hw hW.1)
                  rw [e] at h1
                  exact h1
                refine g6 (F.inRound (ρ k).1) hFr w0 pr ρ w _ _ rfl hs (hfr0 _ (by simp)) rfl (by simp) (by intro l e; cases e; exact halk) ?_
                · intro ρ1 a1 w1 a1g a1s a1f a1d a1l
                  have hT1 := a1s.tok (k := k) (by rw [t1]; rfl)
                  have hW1 := a1s.wf k
                  rw [t1] at hT1 hW1
                  obtain ⟨fn1, tmps1, hh1, htm1⟩ := hT1
                  rw [a1g k halk] at hh1
                  refine ⟨_, run_beginRound hh1 rfl, ?_⟩
                  have hS1 := a1s.put (k := k) (by rw [t1]; rfl) (t := .loop .busy pend1 tm1 ps1 asg1 body1 df1) (.of rfl hW1) (o := .loop { state := .busy, pending := pend1, fn := fn1, tmps := tmps1.toArray, params := ps1, assign := asg1, body := body1, defers := (ρ1 df1).1 }) ⟨fn1, tmps1, rfl, htm1⟩
                  rw [a1g k halk, ← memOf_setL l1] at hS1
                  refine k6 (F.inRound (ρ k).1) hFr w0 pr ρ1 _ a1 _ ?_ hS1 (a1f.keep (fun _ _ => rfl) hal1) a1d (fun d hd => hal1 d (a1l d hd)) (by intro l e; cases e; exact halk1') ?_
                  · simp only [Option.map_some]; rw [a1g k halk]; rfl
                  · intro ρ2 a2 w2 a2g a2s a2f a2d a2l
                    have hT2 := a2s.tok (k := k) (by rw [t2]; rfl)
                    have hW2 := a2s.wf k
                    rw [t2] at hT2 hW2
                    obtain ⟨fn2, tmps2, hh2, htm2⟩ := hT2
                    have e2 : ρ2 k = ρ k := (a2g k halk1').trans (a1g k halk)
                    rw [e2] at hh2
                    have hend := run_endRound (P := P) jump hh2
                    have hS2 := a2s.put (k := k) (by rw [t2]; rfl) (t := .loop (if jump.isNone then .ready else .done) jump tm2 ps2 asg2 body2 df2) (.of rfl hW2)
                      (o := .loop { state := if jump.isNone then .ready else .done, pending := jump, fn := fn2, tmps := tmps2.toArray, params := ps2, assign := asg2, body := body2, defers := (ρ2 df2).1 }) ⟨fn2, tmps2, rfl, htm2⟩
                    rw [e2, ← memOf_setL l2] at hS2
                    have hfin := hK (.bool jump.isNone) ρ2 _ (fun j hj => (a2g j (hal1 j (g1 j hj))).trans (a1g j hj)) (by simp [VR]) hS2
                    cases ex with
                    | normal => simp only [Option.some.injEq] at hjump; subst hjump; exact ⟨_, _, hend, hfin⟩
                    | ret => simp only [Option.some.injEq] at hjump; subst hjump; exact ⟨_, _, hend, hfin⟩
                    | exit id => simp only [Option.some.injEq] at hjump; subst hjump; exact ⟨_, _, hend, hfin⟩
                    | _ => simp at hjump
              · simp only [List.mem_cons, not_or] at hn
                have hj1 := g1 j hj
                rw [memOf_setL l2, Mem.set_other _ _ hn.1, k4 j (hal1 j hj1) hn.2]
                show memOf (st1.m.set k _) j = _
                rw [memOf_setL l1, Mem.set_other _ _ hn.1, g4 j hj (fun h => hn.2 (k3 j (List.mem_cons_of_mem _ h)))]
              · rw [memOf_setL l2] at hj
                by_cases e : j = k
                · subst e; rw [Mem.set_same] at hj; cases hj
                · rw [Mem.set_other _ _ e] at hj
                  have := k5 j hj
                  rw [show memOf ({ st1 with m := st1.m.set k (.loop .busy pend1 tm1 ps1 asg1 body1 df1), wr := k :: st1.wr } : St).m j = memOf (st1.m.set k (.loop .busy pend1 tm1 ps1 asg1 body1 df1)) j from rfl, memOf_setL l1, Mem.set_other _ _ e] at this
                  exact g5 j this
            · cases h
          · cases h
        · cases h
      · cases h
    · cases h
  · cases h

/-- THE EXECUTOR IS RIGHT. -/
theorem runF_sound (P : Program) {opq : Ctrs} (hct : CtOK P opq) (lf : Nat) : ∀ n, RunOK P (runF P opq lf n)
  | 0 => by intro tg args m an v m' wr ob an' h; simp [runF] at h
  | n + 1 => by
    intro tg args m an v m' wr ob an' h ho
    cases tg with
    | fn f => exact runF_fn hct (runF_sound P hct lf n) h ho
    | yl k => exact runF_yl hct (runF_sound P hct lf n) h ho

end

end Go.Vse
