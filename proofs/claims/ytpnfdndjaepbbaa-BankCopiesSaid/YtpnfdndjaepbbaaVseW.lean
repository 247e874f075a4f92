/- From the executor's answer to a row: what a law leaves. -/
import Derived.Test.YtpnfdndjaepbbaaVseV
import Derived.ProofKit
namespace Go.Vse
open Go Go.ChangeShapes Go.WideShapes Go.RowKit

section
variable {H : Type} {enc : TypeId × Value → H} {P : Program}

theorem trodAll_stays (hl : laidOutB P = true) {W W' : World} {sp : Nat → Bool} : ∀ {ts : List TypeId} {vs : List Value} {ds : List (DataW H)} {ps : List MemPlace}, DataW.TrodAll enc P W 0 (fun _ => true) true ts vs ds ps →
    (∀ t ∈ ts, P.readableRec t = true ∧ t < P.types.size) → (∀ p ∈ ps, W.sameAt W' p) → (∀ p ∈ ps, sp p.block = true) → DataW.TrodAll enc P W' 0 sp true ts vs ds ps
  | [], _, _, _, h, _, _, _ => by
    obtain ⟨rfl, rfl, rfl⟩ := trodAll_nil h
    simp [DataW.TrodAll]
  | t :: ts, _, _, _, h, ht, hsame, hsp => by
    obtain ⟨v, vs1, d, ds1, a, b, rfl, rfl, rfl, h1, h2⟩ := trodAll_cons h
    have ht0 := ht t (by simp)
    exact ⟨a, b, WideElems.Trod_stays hl ht0.1 ht0.2 h1 (fun p hp => hsame p (by simp [hp])) (fun p hp => hsp p (by simp [hp])),
      trodAll_stays hl h2 (fun u hu => ht u (by simp [hu])) (fun p hp => hsame p (by simp [hp])) (fun p hp => hsp p (by simp [hp])), rfl⟩

theorem kept_of_below {W W' : World} (hb : Below W.heap.size W W') (may : MemPlace → Prop) : W.keptBut W' may := by
  refine ⟨hb.os, hb.output, fun i hi => ?_⟩
  rw [hb.block i hi]
  cases W.heap[i]? with
  | none => rfl
  | some o =>
    cases o <;> simp

theorem frozen_of_below {W W' : World} (hb : Below W.heap.size W W') {a : Addr} (ha : a.block < W.heap.size) : W'.frozen? a = W.frozen? a := by
  unfold World.frozen?
  rw [hb.block _ ha]

/-- A law's call left the world as it was below its old size, and answered true. -/
theorem law_post (hl : laidOutB P = true) {f : Func} {s : ChangeSpec} {apart fresh handsOn again : Bool} {W W' : World} {args : Array Value} {ds gs : List (DataW H)} {before : List MemPlace} {tb : TypeId}
    (hW : DataW.Whole enc P f.params.toList s.vars apart W args.toList ds gs before) (hb : Below W.heap.size W W')
    (hp : (f.params.toList.all fun t => P.readableRec t && decide (t < P.types.size)) = true) (hres : f.resultTypes = #[tb]) (htb : P.underlying tb = some .bool) (hvs : s.vars = [])
    (hs : s.fn H (ds ++ gs) = { results := [.lit (.bool true)], args := ds }) : s.post enc P f apart fresh handsOn again W args (.bool true) W' := by
  have hlt := hW.lt
  have hW0 := hW
  obtain ⟨p, q, hA, hV, rfl, hz, hn⟩ := hW
  rw [hvs] at hV
  obtain ⟨rfl, rfl⟩ := trodVars_none hV
  have hpt : ∀ t ∈ f.params.toList, P.readableRec t = true ∧ t < P.types.size := fun t ht => by
    have := List.all_eq_true.1 hp t ht
    simpa using this
  have hsame : ∀ x ∈ p, W.sameAt W' x := fun x hx => hb.same (hlt x (by simp [hx]))
  have hr : ∀ (b : Nat) (sp : Nat → Bool) (hd : Bool), DataW.TrodAll enc P W' b sp hd f.resultTypes.toList ((Value.bool true).resultList f.resultTypes.size) [.lit (.bool true)] [] := by
    intro b sp hd
    rw [hres]
    exact ⟨[], [], ⟨1, by simp [DataW.trod, Value.cells, htb]⟩, rfl, rfl⟩
  have hok : ∀ (j : Nat) (t : TypeId) (r : Value), f.resultTypes[j]? = some t → ((Value.bool true).resultList f.resultTypes.size)[j]? = some r → Value.okWide P W' .any 0 t r := by
    intro j t r h1 h2
    rw [hres] at h1 h2
    match j, h1, h2 with
    | 0, h1, h2 =>
      simp [Value.resultList] at h1 h2
      subst h1; subst h2
      simp [Value.okWide, htb, Cell.okWide, Cell.ok]
    | j + 1, h1, _ => simp at h1
  refine ⟨ds, [], p ++ [], [], p, [], hW0, by rw [hs]; exact hr _ _ _, by rw [hs]; exact trodAll_stays hl hA hpt hsame (fun x hx => by simpa using hlt x (by simp [hx])), by rw [hs, hvs]; rfl, kept_of_below hb _, fun _ => ⟨hok, ?_⟩⟩
  refine ⟨[.lit (.bool true)] ++ ds, [], ([] ++ p) ++ [], ⟨[] ++ p, [], trodAll_append (trodAll_stays hl hA hpt hsame (fun _ _ => rfl)) (hr _ _ _), by rw [hvs]; rfl, rfl, ?_, ?_⟩, ?_⟩
  · intro b off hx
    have hx' : MemPlace.cell b off ∈ p := by simpa using hx
    rw [frozen_of_below hb (hlt _ (by simpa using hx'))]
    exact hz b off (by simpa using hx')
  · intro ha
    have := hn ha
    simpa using this
  · intro x hx _
    simpa using hx
end

/-- What a law's run gives: it answers true, and below the old heap's size all is as it was. -/
def TrueBelow (W : World) : Ending → World → Prop := fun e W' => e = .returned (.bool true) ∧ Below W.heap.size W W'

section
variable [AbstRep]
theorem calls_of_run {P : Program} {opq : Ctrs} (hct : CtOK P opq) {lf n : Nat} {f : FuncId} {args : List LV} {m m' : List Tok} {an an' : List Ans} {wr : List Nat} {ob : List Prop} (h : runF P opq lf n (.fn f) args m an = some (.b true, m', wr, ob, an')) (ho : AllP ob)
    {W : World} {ρ : Env} (hs : Sim W (fun b => b < W.heap.size) ρ (memOf m) W) {vs : List Value} (hv : VRs ρ args vs) (hw : wfL (al (memOf m)) args) : Calls P f vs.toArray W (TrueBelow W) := by
  obtain ⟨⟨_, _, hsp⟩, _, _⟩ := runF_sound P hct lf n _ _ _ _ _ _ _ _ _ h ho
  refine callsIn_wide.1 (hsp Fence.wide okF_wide W (fun b => b < W.heap.size) ρ W vs (TrueBelow W) hs hv hw ?_)
  intro v' ρ' w' _ hv' hs'
  simp only [VR] at hv'
  exact ⟨by rw [hv'], ⟨hs'.os, hs'.tape, hs'.output, hs'.size, fun k hk => (hs'.prot k hk).2⟩⟩

/-- A memory of blocks that are read alone. -/
theorem sim_start {W : World} {ρ : Env} {m : List Tok} (h : ∀ (k : Nat) (t : Tok), m[k]? = some t → TR ρ (ρ k).2 t (W.heap[(ρ k).1]?) ∧ t.isRo = true ∧ t.isRw = false ∧ t.wf (al (memOf m)) ∧ ∀ g T cs, t = .glob g T cs → (ρ k).1 = g) : Sim W (fun b => b < W.heap.size) ρ (memOf m) W := by
  have hc : ∀ k, (m[k]? = none ∧ memOf m k = .free) ∨ ∃ t, m[k]? = some t ∧ memOf m k = t := fun k => by
    cases hk : m[k]? with
    | none => left; simp [memOf, List.getD_eq_getElem?_getD, hk]
    | some t => right; exact ⟨t, rfl, by simp [memOf, List.getD_eq_getElem?_getD, hk]⟩
  have hno : ∀ k, (memOf m k).owns = false := fun k => by
    rcases hc k with ⟨_, e⟩ | ⟨t, e1, e2⟩
    · rw [e]; rfl
    · rw [e2]; have h1 := (h k t e1).2.1; cases t <;> simp_all [Tok.owns, Tok.isRo]
  refine ⟨fun _ => [], rfl, rfl, rfl, Nat.le_refl _, fun b hb => ⟨hb, rfl⟩, fun k => ?_, fun k b hb => ?_, fun j k b hj => ?_, fun k hk => ?_, fun k => ?_, fun k g T cs hk => ?_⟩
  · rcases hc k with ⟨_, e⟩ | ⟨t, e1, e2⟩
    · rw [e]; exact TokR_idle rfl rfl
    · rw [e2]
      have h1 := ro_nvec (h k t e1).2.1
      exact TokR_of h1.1 h1.2 (fun x => by rw [(h k t e1).2.2.1] at x; cases x) (h k t e1).1
  · rw [fo_not (hno k)] at hb; cases hb
  · rw [fo_not (hno j)] at hj; cases hj
  · rcases hc k with ⟨_, e⟩ | ⟨t, e1, e2⟩
    · rw [e] at hk; cases hk
    · obtain ⟨x, hx⟩ := TR_lt (h k t e1).1 (.inr (h k t e1).2.1)
      exact (Array.getElem?_eq_some_iff.1 hx).1
  · rcases hc k with ⟨_, e⟩ | ⟨t, e1, e2⟩
    · rw [e]; trivial
    · rw [e2]; exact (h k t e1).2.2.2.1
  · rcases hc k with ⟨_, e⟩ | ⟨t, e1, e2⟩
    · rw [e] at hk; cases hk
    · exact (h k t e1).2.2.2.2 g T cs (e2 ▸ hk)

/-- Nothing is known of memory. -/
theorem sim_none {W : World} {ρ : Env} : Sim W (fun b => b < W.heap.size) ρ (memOf []) W := sim_start (fun k t h => by simp at h)

def outF (r : FOut) : Option (LV × List Prop) := r.map fun x => (x.1, x.2.2.2.1)

theorem calls_of_out {P : Program} {opq : Ctrs} (hct : CtOK P opq) {lf n : Nat} {f : FuncId} {args : List LV} {m : List Tok} {an : List Ans} {ob : List Prop} (h : outF (runF P opq lf n (.fn f) args m an) = some (.b true, ob)) (ho : AllP ob)
    {W : World} {ρ : Env} (hs : Sim W (fun b => b < W.heap.size) ρ (memOf m) W) {vs : List Value} (hv : VRs ρ args vs) (hw : wfL (al (memOf m)) args) : Calls P f vs.toArray W (TrueBelow W) := by
  unfold outF at h
  rw [Option.map_eq_some_iff] at h
  obtain ⟨⟨v, m', wr, ob', an'⟩, h1, h2⟩ := h
  simp only [Prod.mk.injEq] at h2
  obtain ⟨rfl, rfl⟩ := h2
  exact calls_of_run hct h1 ho hs hv hw
end

end Go.Vse
