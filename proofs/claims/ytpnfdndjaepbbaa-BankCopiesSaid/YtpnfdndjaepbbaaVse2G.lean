/- Objects that are laid open, and shut again, in the midst of a function: around a walk. -/
import Derived.Test.YtpnfdndjaepbbaaVse2F
namespace Go.Vse
open Go
section
variable [AbstRep]
variable {W : Fence → (Exit → Act → World → Prop) → Act → World → Prop} {rd : Option Nat} {N : Nat} {ex : Exit}

theorem Walk.opn {st st' : St} {k : Nat} {a : Abst.Ab} {ms : List Tok} (h : Walk W rd N { st with m := Go.Vse.opn st.m k ms } ex st') (hk : st.m[k]? = some (.abs a)) (hR : RepOK a ms) (hN : N ≤ st.m.length) : Walk W rd N st ex st' := by
  have hkl : k < st.m.length := (List.getElem?_eq_some_iff.1 hk).1
  have hal : ∀ j, al (memOf st.m) j → al (memOf (Go.Vse.opn st.m k ms)) j := fun j hj => by
    rcases opn_case (m := st.m) hkl hR.pos j with ⟨_, _, e⟩ | ⟨i, t, _, hi, _, e⟩ | ⟨_, _, e⟩
    · unfold al; rw [e]; exact hj
    · unfold al; rw [e, Tok.ren_isFree]; exact owns_nonfree (hR.own t (List.mem_of_getElem? hi))
    · unfold al at hj; rw [e] at hj; cases hj
  intro F hF w0 pr ρ w ac Q hro hs hl hQ
  obtain ⟨hS, hf, hd, hdl⟩ := hs
  obtain ⟨ms', ρ', rep, _, _, hag, hs'⟩ := open_sim hk hS
  have := hR.uniq ms' rep
  subst this
  have hag2 : ∀ j, al (memOf st.m) j → ρ' j = ρ j := fun j hj => hag j (al_lt hj)
  refine h F hF w0 pr ρ' w ac Q ?_ ⟨hs', hf.keep hag2 hal, ?_, fun d hd' => hal d (hdl d hd')⟩ (fun l hl' => hal l (hl l hl')) (fun ρ'' a' w' hag' hs'' => hQ ρ'' a' w' (fun j hj => ?_) hs'')
  · rw [hro]
    cases rd with
    | none => rfl
    | some l => simp only [Option.map_some]; rw [hag2 l (hl l rfl)]
  · rw [hd]
    refine List.map_congr_left (fun d hd' => ?_)
    rw [hag2 d (hdl d hd')]
  · rw [hag' j hj, hag j (by omega)]

theorem Walk.shut {st st1 : St} {k : Nat} {J : List Nat} {a : Abst.Ab} {ms : List Tok} (h : Walk W rd N st ex st1) (hR : RepOK a ms) (hn : nodupB (k :: J) = true) (hlt : ((k :: J).all fun j => decide (j < st1.m.length)) = true)
    (hm : (k :: J).map (fun j => st1.m.getD j .free) = ms.map (·.ren ((k :: J).getD · 0))) : Walk W rd N st ex { st1 with m := shutM st1.m k J a } := by
  have hl : (k :: J).length = ms.length := by have := congrArg List.length hm; simpa using this
  have hnd := nodupB_iff hn
  have hlt' : ∀ j ∈ k :: J, j < st1.m.length := fun j hj => by simpa using List.all_eq_true.1 hlt j hj
  have hm' : ∀ i t, ms[i]? = some t → memOf st1.m ((k :: J).getD i 0) = t.ren ((k :: J).getD · 0) := fun i t hi => by
    have hi' : i < (k :: J).length := by rw [hl]; exact (List.getElem?_eq_some_iff.1 hi).1
    have h1 : ((k :: J).map (fun j => st1.m.getD j .free))[i]? = (ms.map (·.ren ((k :: J).getD · 0)))[i]? := by rw [hm]
    rw [List.getElem?_map, List.getElem?_map, hi, List.getElem?_eq_getElem hi'] at h1
    simp only [Option.map_some, Option.some.injEq] at h1
    rw [← h1]
    show st1.m.getD _ .free = _
    rw [List.getD_eq_getElem?_getD (l := k :: J), List.getElem?_eq_getElem hi']; rfl
  have hal : ∀ j, al (memOf st1.m) j → al (memOf (shutM st1.m k J a)) j := fun j hj => by
    unfold al; rw [shutM_at, if_neg (by have := al_lt hj; omega)]
    split
    · rfl
    · split
      · rfl
      · exact hj
  intro F hF w0 pr ρ w ac Q hro hs hl' hQ
  refine h F hF w0 pr ρ w ac Q hro hs hl' (fun ρ' a' w' hag hs' => hQ ρ' a' w' hag ⟨shut_sim hs'.1 hR.rep hl hnd hlt' hm' hR.own hR.root hR.wf, hs'.2.1.keep (fun _ _ => rfl) hal, hs'.2.2.1, fun d hd => hal d (hs'.2.2.2 d hd)⟩)
end
end Go.Vse
