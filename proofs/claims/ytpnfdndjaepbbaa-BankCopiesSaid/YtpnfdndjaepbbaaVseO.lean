/- A call in a small memory is right. -/
import Derived.Test.YtpnfdndjaepbbaaVseN
namespace Go.Vse
open Go

section
variable [AbstRep]
theorem memOf_set (l : List Tok) (k : Nat) (t : Tok) : memOf (setTok l k t) = (memOf l).set k t := by
  funext j
  unfold memOf setTok Mem.set
  split
  · rename_i h
    simp only [List.getD_eq_getElem?_getD, List.getElem?_set]
    by_cases e : k = j
    · subst e; simp [h]
    · rw [if_neg e, if_neg (fun h => e h.symm)]
  · rename_i h
    simp only [List.getD_eq_getElem?_getD, List.getElem?_append, List.length_append, List.length_replicate, List.getElem?_replicate]
    by_cases e : j = k
    · subst e
      rw [if_neg (by omega)]
      have : j - (l.length + (j - l.length)) = 0 := by omega
      simp [this]
    · rw [if_neg e]
      by_cases h1 : j < l.length
      · rw [if_pos (by omega), if_pos h1]
      · rw [List.getElem?_eq_none (show l.length ≤ j by omega)]
        by_cases h2 : j < k
        · rw [if_pos (by omega), if_neg h1, if_pos (by omega)]; rfl
        · rw [if_neg (by omega), List.getElem?_eq_none (by simp; omega)]

theorem memOf_sets : ∀ (ch : List (Nat × Tok)) (l : List Tok), memOf (setsTok l ch) = (memOf l).sets ch
  | [], _ => rfl
  | (k, t) :: r, l => by rw [setsTok, memOf_sets r, memOf_set]; rfl
end

mutual
theorem LV.toks_wf {A : Nat → Prop} : ∀ (x : LV), (∀ k ∈ x.toks, A k) → x.wf A
  | .i _ _, _ => by simp [LV.wf]
  | .s _ _, _ => by simp [LV.wf]
  | .b _, _ => by simp [LV.wf]
  | .sb _, _ => by simp [LV.wf]
  | .any, _ => by simp [LV.wf]
  | .v _, _ => by simp [LV.wf]
  | .so _ _ _, h => by simp only [LV.wf]; exact h _ (by simp [LV.toks])
  | .p0, _ => by simp [LV.wf]
  | .n0, _ => by simp [LV.wf]
  | .f0, _ => by simp [LV.wf]
  | .p _ _, h => by simp only [LV.wf]; exact h _ (by simp [LV.toks])
  | .ps _ _, h => by simp only [LV.wf]; exact h _ (by simp [LV.toks])
  | .sl _ _ _ _ _, h => by simp only [LV.wf]; exact h _ (by simp [LV.toks])
  | .ss _ _ _ _ _, h => by simp only [LV.wf]; exact h _ (by simp [LV.toks])
  | .se _, h => by simp only [LV.wf]; exact h _ (by simp [LV.toks])
  | .yl _, h => by simp only [LV.wf]; exact h _ (by simp [LV.toks])
  | .agg xs, h => by simp only [LV.wf]; exact toksL_wf xs (by simpa [LV.toks] using h)
  | .tup xs, h => by simp only [LV.wf]; exact toksL_wf xs (by simpa [LV.toks] using h)
  | .fn _ xs, h => by simp only [LV.wf]; exact toksL_wf xs (by simpa [LV.toks] using h)
theorem toksL_wf {A : Nat → Prop} : ∀ (xs : List LV), (∀ k ∈ toksL xs, A k) → wfL A xs
  | [], _ => by simp [wfL]
  | x :: xs, h => by
    simp only [wfL]
    exact ⟨LV.toks_wf x (fun k hk => h k (by simp [toksL, hk])), toksL_wf xs (fun k hk => h k (by simp [toksL, hk]))⟩
end

section
variable [AbstRep]
theorem Tok.toks_wf {A : Nat → Prop} (t : Tok) (h : ∀ k ∈ t.toks, A k) : t.wf A := by
  cases t with
  | cells rw T cs => exact toksL_wf cs h
  | glob g T cs => exact toksL_wf cs h
  | loop st pend tm ps asg body df => exact ⟨toksL_wf tm (fun k hk => h k (by simp [Tok.toks, hk])), h df (by simp [Tok.toks])⟩
  | _ => trivial
end

mutual
theorem LV.ren_back {κ ι : Nat → Nat} {n : Nat} (hk : ∀ k, κ k < n → ι (κ k) = k) : ∀ (x : LV), (∀ k ∈ (x.ren κ).toks, k < n) → (x.ren κ).ren ι = x
  | .i _ _, _ => rfl
  | .s _ _, _ => rfl
  | .b _, _ => rfl
  | .sb _, _ => rfl
  | .any, _ => rfl
  | .v _, _ => rfl
  | .p0, _ => rfl
  | .n0, _ => rfl
  | .f0, _ => rfl
  | .p k _, h => by simp only [LV.ren]; rw [hk k (h _ (by simp [LV.ren, LV.toks]))]
  | .ps k _, h => by simp only [LV.ren]; rw [hk k (h _ (by simp [LV.ren, LV.toks]))]
  | .sl k _ _ _ _, h => by simp only [LV.ren]; rw [hk k (h _ (by simp [LV.ren, LV.toks]))]
  | .ss k _ _ _ _, h => by simp only [LV.ren]; rw [hk k (h _ (by simp [LV.ren, LV.toks]))]
  | .so k _ _, h => by simp only [LV.ren]; rw [hk k (h _ (by simp [LV.ren, LV.toks]))]
  | .se k, h => by simp only [LV.ren]; rw [hk k (h _ (by simp [LV.ren, LV.toks]))]
  | .yl k, h => by simp only [LV.ren]; rw [hk k (h _ (by simp [LV.ren, LV.toks]))]
  | .agg xs, h => by simp only [LV.ren]; rw [renL_back hk xs (by simpa [LV.ren, LV.toks] using h)]
  | .tup xs, h => by simp only [LV.ren]; rw [renL_back hk xs (by simpa [LV.ren, LV.toks] using h)]
  | .fn _ xs, h => by simp only [LV.ren]; rw [renL_back hk xs (by simpa [LV.ren, LV.toks] using h)]
theorem renL_back {κ ι : Nat → Nat} {n : Nat} (hk : ∀ k, κ k < n → ι (κ k) = k) : ∀ (xs : List LV), (∀ k ∈ toksL (renL κ xs), k < n) → renL ι (renL κ xs) = xs
  | [], _ => rfl
  | x :: xs, h => by
    simp only [renL]
    rw [LV.ren_back hk x (fun k hk' => h k (by simp [renL, toksL, hk'])), renL_back hk xs (fun k hk' => h k (by simp [renL, toksL, hk']))]
end

section
variable [AbstRep]
theorem Tok.ren_back {κ ι : Nat → Nat} {n : Nat} (hk : ∀ k, κ k < n → ι (κ k) = k) (t : Tok) (h : ∀ k ∈ (t.ren κ).toks, k < n) : (t.ren κ).ren ι = t := by
  cases t with
  | cells rw T cs => simp only [Tok.ren]; rw [renL_back hk cs (by simpa [Tok.ren, Tok.toks] using h)]
  | glob g T cs => simp only [Tok.ren]; rw [renL_back hk cs (by simpa [Tok.ren, Tok.toks] using h)]
  | loop st pend tm ps asg body df =>
    simp only [Tok.ren]
    rw [renL_back hk tm (fun k hk' => h k (by simp [Tok.ren, Tok.toks, hk'])), hk df (h _ (by simp [Tok.ren, Tok.toks]))]
  | _ => rfl
end

mutual
theorem LV.ren_congr {ι ι' : Nat → Nat} : ∀ (x : LV), (∀ k ∈ x.toks, ι k = ι' k) → x.ren ι = x.ren ι'
  | .i _ _, _ => rfl
  | .s _ _, _ => rfl
  | .b _, _ => rfl
  | .sb _, _ => rfl
  | .any, _ => rfl
  | .v _, _ => rfl
  | .p0, _ => rfl
  | .n0, _ => rfl
  | .f0, _ => rfl
  | .p k _, h => by simp only [LV.ren]; rw [h k (by simp [LV.toks])]
  | .ps k _, h => by simp only [LV.ren]; rw [h k (by simp [LV.toks])]
  | .sl k _ _ _ _, h => by simp only [LV.ren]; rw [h k (by simp [LV.toks])]
  | .ss k _ _ _ _, h => by simp only [LV.ren]; rw [h k (by simp [LV.toks])]
  | .so k _ _, h => by simp only [LV.ren]; rw [h k (by simp [LV.toks])]
  | .se k, h => by simp only [LV.ren]; rw [h k (by simp [LV.toks])]
  | .yl k, h => by simp only [LV.ren]; rw [h k (by simp [LV.toks])]
  | .agg xs, h => by simp only [LV.ren]; rw [renL_congr xs (by simpa [LV.toks] using h)]
  | .tup xs, h => by simp only [LV.ren]; rw [renL_congr xs (by simpa [LV.toks] using h)]
  | .fn _ xs, h => by simp only [LV.ren]; rw [renL_congr xs (by simpa [LV.toks] using h)]
theorem renL_congr {ι ι' : Nat → Nat} : ∀ (xs : List LV), (∀ k ∈ toksL xs, ι k = ι' k) → renL ι xs = renL ι' xs
  | [], _ => rfl
  | x :: xs, h => by
    simp only [renL]
    rw [LV.ren_congr x (fun k hk => h k (by simp [toksL, hk])), renL_congr xs (fun k hk => h k (by simp [toksL, hk]))]
end
section
variable [AbstRep]
theorem Tok.ren_congr {ι ι' : Nat → Nat} (t : Tok) (h : ∀ k ∈ t.toks, ι k = ι' k) : t.ren ι = t.ren ι' := by
  cases t with
  | cells rw T cs => simp only [Tok.ren]; rw [renL_congr cs (by simpa [Tok.toks] using h)]
  | glob g T cs => simp only [Tok.ren]; rw [renL_congr cs (by simpa [Tok.toks] using h)]
  | loop st pend tm ps asg body df => simp only [Tok.ren]; rw [renL_congr tm (fun k hk => h k (by simp [Tok.toks, hk])), h df (by simp [Tok.toks])]
  | _ => rfl
end

theorem idxIn_lt {R : List Nat} {k : Nat} (h : idxIn R k < R.length) : R.getD (idxIn R k) 0 = k := by
  unfold idxIn at *
  have := List.findIdx_getElem (w := h)
  simp only [beq_iff_eq] at this
  rw [List.getD_eq_getElem?_getD, List.getElem?_eq_getElem h]
  simpa using this
theorem idxIn_mem {R : List Nat} {k : Nat} (h : k ∈ R) : idxIn R k < R.length := by
  unfold idxIn
  exact List.findIdx_lt_length_of_exists ⟨k, h, by simp⟩

theorem nodupB_iff : ∀ {l : List Nat}, nodupB l = true → l.Nodup
  | [], _ => List.nodup_nil
  | x :: xs, h => by
    simp only [nodupB, Bool.and_eq_true, Bool.not_eq_true', List.contains_eq_mem, decide_eq_false_iff_not] at h
    exact List.nodup_cons.2 ⟨h.1, nodupB_iff h.2⟩
theorem dedup_mem : ∀ {l : List Nat} {x : Nat}, x ∈ dedup l ↔ x ∈ l
  | [], x => by simp [dedup]
  | y :: ys, x => by
    simp only [dedup]
    split
    · rename_i h
      simp only [List.contains_eq_mem, decide_eq_true_eq] at h
      rw [dedup_mem]
      simp only [List.mem_cons]
      exact ⟨.inr, fun h' => h'.elim (fun e => e ▸ h) id⟩
    · simp only [List.mem_cons, dedup_mem]
theorem dedup_nodup : ∀ {l : List Nat}, (dedup l).Nodup
  | [] => by simp [dedup]
  | y :: ys => by
    simp only [dedup]
    split
    · exact dedup_nodup
    · rename_i h
      simp only [List.contains_eq_mem, decide_eq_true_eq] at h
      exact List.nodup_cons.2 ⟨fun h' => h (dedup_mem.1 h'), dedup_nodup⟩

section
variable [AbstRep]
theorem sets_map {f : Nat → Nat} {g : Nat → Tok} : ∀ (js : List Nat) (M : Mem), js.Nodup → (∀ i ∈ js, ∀ j ∈ js, f i = f j → i = j) → ∀ j ∈ js, M.sets (js.map fun j => (f j, g j)) (f j) = g j
  | [], _, _, _, j, hj => by simp at hj
  | i :: js, M, hn, hinj, j, hj => by
    rw [List.nodup_cons] at hn
    simp only [List.map_cons, Mem.sets]
    by_cases h : j ∈ js
    · exact sets_map js _ hn.2 (fun a ha b hb => hinj a (List.mem_cons_of_mem _ ha) b (List.mem_cons_of_mem _ hb)) j h
    · have e : j = i := by rcases List.mem_cons.1 hj with e | e; exact e; exact absurd e h
      subst e
      rw [Mem.sets_other, Mem.set_same]
      intro p hp e
      obtain ⟨a, ha, rfl⟩ := List.mem_map.1 hp
      have := hinj a (List.mem_cons_of_mem _ ha) j (by simp) e
      exact h (this ▸ ha)

/-- What is asked of what runs a function. -/
def RunOK (P : Program) (run : Tgt → List LV → List Tok → List Ans → FOut) : Prop :=
  ∀ tg args m an v m' wr ob an', run tg args m an = some (v, m', wr, ob, an') → AllP ob →
    FSpec P tg args (memOf m) v (memOf m') ∧ (∀ k, al (memOf m) k → k ∉ wr → memOf m' k = memOf m k) ∧ (∀ k, (memOf m' k).isRo = true → (memOf m k).isRo = true)

/-- A law that stands for calls of a function, on small memories. -/
def SpecOK (P : Program) (g : FuncId) (s : List LV → List Tok → List Ans → FOut) : Prop :=
  ∀ args m an v m' wr ob an', s args m an = some (v, m', wr, ob, an') → AllP ob →
    FSpec P (.fn g) args (memOf m) v (memOf m') ∧ (∀ k, al (memOf m) k → k ∉ wr → memOf m' k = memOf m k) ∧ (∀ k, (memOf m' k).isRo = true → (memOf m k).isRo = true)
def CtOK (P : Program) (opq : Ctrs) : Prop := ∀ g s, opq g = some (.spec s) → SpecOK P g s
theorem rgRun_ok {P : Program} {opq : Ctrs} {run : Tgt → List LV → List Tok → List Ans → FOut} (hct : CtOK P opq) (hr : RunOK P run) : RunOK P (rgRun opq run) := by
  intro tg args m an v m' wr ob an' h ho
  cases tg with
  | yl k => exact hr _ _ _ _ _ _ _ _ _ h ho
  | fn g =>
    simp only [rgRun] at h
    split at h
    · rename_i s hs
      exact hct _ _ hs _ _ _ _ _ _ _ _ h ho
    · exact hr _ _ _ _ _ _ _ _ _ h ho
theorem onlyFn_ok {P : Program} {g : FuncId} {s : List LV → List Tok → List Ans → FOut} (h : SpecOK P g s) : RunOK P (onlyFn g s) := by
  intro tg args m an v m' wr ob an' hr ho
  cases tg with
  | yl k => cases hr
  | fn f =>
    simp only [onlyFn] at hr
    split at hr
    · rename_i e; subst e; exact h _ _ _ _ _ _ _ _ hr ho
    · cases hr
end

theorem ite_someB {α : Type} {c : Bool} {a b : α} (h : (if c = true then some a else none) = some b) : c = true ∧ a = b := by
  cases c <;> simp_all

section
variable [AbstRep]
theorem callX_sound {P : Program} {run : Tgt → List LV → List Tok → List Ans → FOut} (hr : RunOK P run) {tg : Tgt} {args : List LV} {m : List Tok} {nt : Nat} {an an' : List Ans} {v : LV} {ch : List (Nat × Tok)} {rd : List Nat} {ob : List Prop}
    (h : callX run tg args m nt an = some (v, ch, rd, ob, an')) (ho : AllP ob) : (∀ p ∈ ch, p.2.isFree = false ∧ p.2.isRo = false) ∧ ∀ M : Mem, (∀ k ∈ rd, M k = memOf m k) → FSpec P tg args M v (M.sets ch) := by
  unfold callX at h
  simp only at h
  generalize hR : reach m 10000 (globs m ++ (toksL args ++ tg.toks)) [] = R at h
  generalize htg : tg.ren (idxIn R) = tg' at h
  generalize hms : (R.map fun k => (m.getD k .free).ren (idxIn R)) = ms at h
  generalize harg : renL (idxIn R) args = args' at h
  split at h
  · cases h
  rename_i vs ms' wr ob1 an1 hrun
  generalize hch0 : dedup (wr.filter (· < R.length)) = ch0 at h
  generalize hN : ((reach ms' 10000 (vs.toks ++ (ch0.map fun j => (ms'.getD j .free).toks).flatten) []).filter fun j => !(j < R.length)) = N at h
  obtain ⟨hc, h⟩ := ite_someB h
  simp only [Bool.and_eq_true] at hc
  obtain ⟨⟨⟨⟨⟨⟨⟨⟨hRn, hNn⟩, hRa⟩, hmst⟩, hargt⟩, htgt⟩, hvt⟩, hcht⟩, hnf⟩ := hc
  simp only [Prod.mk.injEq] at h
  obtain ⟨rfl, rfl, rfl, rfl, rfl⟩ := h
  obtain ⟨⟨hmono, hvw, hspec⟩, hun, hroo⟩ := hr _ _ _ _ _ _ _ _ _ hrun ho
  have hRnd := nodupB_iff hRn
  have hNnd := nodupB_iff hNn
  simp only [List.all_eq_true, decide_eq_true_eq, Bool.not_eq_true', Bool.or_eq_true, List.contains_eq_mem, Bool.and_eq_true, List.mem_range] at hRa hmst hargt hvt hcht hnf
  -- the names
  let n := R.length
  let ι : Nat → Nat := fun j => R.getD j 0
  let ι' : Nat → Nat := fun j => if j < R.length then R.getD j 0 else nt + idxIn N j
  let K : Nat → Prop := fun j => j < R.length ∨ j ∈ N
  have hNge : ∀ j ∈ N, R.length ≤ j := fun j hj => by
    rw [← hN] at hj
    have := (List.mem_filter.1 hj).2
    simpa using this
  have hch0lt : ∀ j ∈ ch0, j < R.length := fun j hj => by
    rw [← hch0, dedup_mem] at hj
    simpa using (List.mem_filter.1 hj).2
  have hch0nd : ch0.Nodup := by rw [← hch0]; exact dedup_nodup
  have hκ : ∀ k, idxIn R k < R.length → ι (idxIn R k) = k := fun k hk => idxIn_lt hk
  have hmsj : ∀ j, j < R.length → memOf ms j = (memOf m (ι j)).ren (idxIn R) := by
    intro j hj
    rw [← hms]
    simp only [memOf, List.getD_eq_getElem?_getD, List.getElem?_map, List.getElem?_eq_getElem hj, Option.map_some, Option.getD_some, ι]
  have hmsf : ∀ j, R.length ≤ j → memOf ms j = .free := by
    intro j hj
    rw [← hms]
    simp only [memOf, List.getD_eq_getElem?_getD, List.getElem?_map, List.getElem?_eq_none hj, Option.map_none, Option.getD_none]
  have hmsmem : ∀ j, j < R.length → memOf ms j ∈ ms := by
    intro j hj
    have hl : j < ms.length := by rw [← hms]; simpa using hj
    simp only [memOf, List.getD_eq_getElem?_getD, List.getElem?_eq_getElem hl, Option.getD_some]
    exact List.getElem_mem hl
  have hmstok : ∀ j, j < R.length → ∀ k ∈ (memOf ms j).toks, k < R.length := fun j hj k hk => hmst _ (hmsmem j hj) k hk
  have hRnf : ∀ j, j < R.length → (memOf m (ι j)).isFree = false := by
    intro j hj
    have : R.getD j 0 ∈ R := by rw [List.getD_eq_getElem?_getD, List.getElem?_eq_getElem hj]; exact List.getElem_mem hj
    exact hRa _ this
  have hιinj : ∀ i j, i < R.length → j < R.length → ι i = ι j → i = j := by
    intro i j hi hj e
    simp only [ι, List.getD_eq_getElem?_getD, List.getElem?_eq_getElem hi, List.getElem?_eq_getElem hj, Option.getD_some] at e
    exact (List.getElem_inj hRnd).1 e
  have hwr : ∀ j, j < R.length → j ∉ ch0 → memOf ms' j = memOf ms j := by
    intro j hj hn
    refine hun j ?_ ?_
    · unfold al; rw [hmsj j hj, Tok.ren_isFree]; exact hRnf j hj
    · intro hw
      apply hn
      rw [← hch0, dedup_mem]
      exact List.mem_filter.2 ⟨hw, by simpa using hj⟩
  have hKtok : ∀ j, K j → ∀ k ∈ (memOf ms' j).toks, K k := by
    intro j hj k hk
    by_cases h : j ∈ ch0 ++ N
    · exact (hcht j (by simpa using h)).1.1 k hk
    · simp only [List.mem_append, not_or] at h
      rcases hj with hj | hj
      · rw [hwr j hj h.1] at hk
        exact .inl (hmstok j hj k hk)
      · exact absurd hj h.2
  have hKnf : ∀ j, K j → (memOf ms' j).isFree = false := by
    intro j hj
    by_cases h : j ∈ ch0 ++ N
    · exact (hcht j (by simpa using h)).1.2
    · simp only [List.mem_append, not_or] at h
      rcases hj with hj | hj
      · rw [hwr j hj h.1, hmsj j hj, Tok.ren_isFree]; exact hRnf j hj
      · exact absurd hj h.2
  have hι'lt : ∀ j, j < R.length → ι' j = ι j := fun j hj => by simp only [ι', ι, if_pos hj]
  have hι'ge : ∀ j, j ∈ N → ι' j = nt + idxIn N j ∧ idxIn N j < N.length := fun j hj => by
    have := hNge j hj
    exact ⟨by simp only [ι']; rw [if_neg (by omega)], idxIn_mem hj⟩
  have hnewfree : ∀ j, j ∈ N → (memOf m (ι' j)).isFree = true := fun j hj => by
    obtain ⟨e, hlt⟩ := hι'ge j hj
    rw [e]; exact hnf _ hlt
  have hι'inj : ∀ i j, K i → K j → ι' i = ι' j → i = j := by
    intro i j hi hj e
    rcases hi with hi | hi <;> rcases hj with hj | hj
    · rw [hι'lt i hi, hι'lt j hj] at e; exact hιinj i j hi hj e
    · have h1 := hnewfree j hj
      rw [← e, hι'lt i hi, hRnf i hi] at h1; cases h1
    · have h1 := hnewfree i hi
      rw [e, hι'lt j hj, hRnf j hj] at h1; cases h1
    · obtain ⟨e1, l1⟩ := hι'ge i hi
      obtain ⟨e2, l2⟩ := hι'ge j hj
      rw [e1, e2] at e
      have e3 : idxIn N i = idxIn N j := by omega
      have a := idxIn_lt l1
      have b := idxIn_lt l2
      rw [e3] at a
      exact a.symm.trans b
  have hchform : ((ch0.map fun j => (ι' j, (ms'.getD j .free).ren ι')) ++ (N.map fun j => (ι' j, (ms'.getD j .free).ren ι'))) = (ch0 ++ N).map fun j => (ι' j, (memOf ms' j).ren ι') := by
    rw [List.map_append]; rfl
  have hcN : (ch0 ++ N).Nodup := by
    rw [List.nodup_append]
    refine ⟨hch0nd, hNnd, fun a ha b hb e => ?_⟩
    subst e
    have h1 := hch0lt a ha
    have h2 := hNge a hb
    omega
  have hcK : ∀ j ∈ ch0 ++ N, K j := fun j hj => by
    rcases List.mem_append.1 hj with h | h
    · exact .inl (hch0lt j h)
    · exact .inr h
  have hcc : ∀ p ∈ (ch0 ++ N).map fun j => (ι' j, (memOf ms' j).ren ι'), p.2.isFree = false ∧ p.2.isRo = false := by
    intro p hp
    obtain ⟨j, hj, rfl⟩ := List.mem_map.1 hp
    simp only [Tok.ren_isFree, Tok.ren_isRo]
    exact ⟨(hcht j (by simpa using hj)).1.2, (hcht j (by simpa using hj)).2⟩
  refine ⟨by rw [hchform]; exact hcc, ?_⟩
  intro M hMm
  rw [hchform]
  have hMR : ∀ j, j < R.length → M (ι j) = memOf m (ι j) := fun j hj => hMm _ (by
    apply List.mem_append.2; left
    simp only [ι, List.getD_eq_getElem?_getD, List.getElem?_eq_getElem hj, Option.getD_some]; exact List.getElem_mem hj)
  have hMN : ∀ j, j ∈ N → (M (ι' j)).isFree = true := fun j hj => by
    obtain ⟨e, hlt⟩ := hι'ge j hj
    rw [hMm (ι' j)]
    · exact hnewfree j hj
    · apply List.mem_append.2; right
      rw [e]
      exact List.mem_map.2 ⟨idxIn N j, by simpa using hlt, rfl⟩
  have hms1 : ∀ j, j < R.length → M (ι j) = (memOf ms j).ren ι ∧ (memOf ms j).isFree = false := by
    intro j hj
    refine ⟨?_, by rw [hmsj j hj, Tok.ren_isFree]; exact hRnf j hj⟩
    rw [hMR j hj, hmsj j hj]
    exact (Tok.ren_back hκ _ (by rw [← hmsj j hj]; exact hmstok j hj)).symm
  have hM1 : ∀ j, K j → M.sets ((ch0 ++ N).map fun j => (ι' j, (memOf ms' j).ren ι')) (ι' j) = (memOf ms' j).ren ι' ∧ (memOf ms' j).isFree = false := by
    intro j hj
    refine ⟨?_, hKnf j hj⟩
    by_cases h : j ∈ ch0 ++ N
    · exact sets_map (f := ι') (g := fun j => (memOf ms' j).ren ι') _ M hcN (fun a ha b hb => hι'inj a b (hcK a ha) (hcK b hb)) j h
    · rw [Mem.sets_other]
      · simp only [List.mem_append, not_or] at h
        rcases hj with hj | hj
        · rw [hι'lt j hj, (hms1 j hj).1, hwr j hj h.1]
          exact Tok.ren_congr _ (fun k hk => (hι'lt k (hmstok j hj k hk)).symm)
        · exact absurd hj h.2
      · intro p hp e
        obtain ⟨a, ha, rfl⟩ := List.mem_map.1 hp
        exact h (hι'inj a j (hcK a ha) hj e ▸ ha)
  have hMo : ∀ k, (¬ ∃ j, K j ∧ ι' j = k) → M.sets ((ch0 ++ N).map fun j => (ι' j, (memOf ms' j).ren ι')) k = M k := by
    intro k hk
    rw [Mem.sets_other]
    intro p hp e
    obtain ⟨a, ha, rfl⟩ := List.mem_map.1 hp
    exact hk ⟨a, hcK a ha, e⟩
  have hvK : vs.wf K := LV.toks_wf vs (fun k hk => hvt k hk)
  refine ⟨fun k hk => al_sets (fun p hp => (hcc p hp).1) hk, LV.wf_ren (fun j hj => by unfold al; rw [(hM1 j hj).1, Tok.ren_isFree]; exact (hM1 j hj).2) vs hvK, ?_⟩
  intro F hF w0 pr ρ w us Rr hs hvs hvw' hK
  obtain ⟨φ, hs⟩ := hs
  have hsm := ren_in (n := R.length) (ι := ι) (ms := memOf ms) hs hms1 hmsf hιinj (fun j => by
    rcases Nat.lt_or_ge j R.length with h | h
    · exact Tok.toks_wf _ (hmstok j h)
    · rw [hmsf j h]; trivial)
  have hargs : VRs (fun j => ρ (ι j)) args' us := by
    rw [← VRs_ren, ← harg, renL_back hκ args (by rw [harg]; exact hargt)]
    exact hvs
  have hargw : wfL (al (memOf ms)) args' := toksL_wf args' (fun k hk => by unfold al; exact (hms1 k (hargt k hk)).2)
  have hfin : ∀ v' ρ' w', (∀ k, al (memOf ms) k → ρ' k = ρ (ι k)) → VR ρ' vs v' → Sim w (guardR w φ ι R.length (memOf ms)) ρ' (memOf ms') w' → Rr (.returned v') w' := by
    intro v' ρs' w' hag hv' hs'
    have hag' : ∀ j, j < R.length → ρs' j = ρ (ι j) := fun j hj => hag j (by unfold al; exact (hms1 j hj).2)
    obtain ⟨g1, g2, g3⟩ := ren_out (K := K) (ι' := ι') (M' := M.sets ((ch0 ++ N).map fun j => (ι' j, (memOf ms' j).ren ι'))) hs hms1 hs' hag' (fun j hj => .inl hj) (fun j hj => Tok.toks_wf _ (hKtok j hj)) hι'inj hι'lt
      (fun j hj hKj => by rcases hKj with h | h; omega; exact hMN j h) hM1 hMo (fun j hj hro => by
        have h1 := hroo j hro
        rcases Nat.lt_or_ge j R.length with h | h
        · exact ⟨h, h1⟩
        · rw [hmsf j h] at h1; simp [Tok.isRo] at h1)
    exact hK v' _ w' g1 (g3 vs v' hvK hv').1 g2
  have := hspec F hF w _ (fun j => ρ (ι j)) w us Rr hsm hargs hargw hfin
  cases tg with
  | fn f => simp only [Tgt.ren] at htg; subst htg; exact this
  | yl k =>
    simp only [Tgt.ren] at htg; subst htg
    intro hal
    have hk : idxIn R k < R.length := by simpa [Tgt.toks] using htgt
    have h2 := this (by unfold al; exact (hms1 _ hk).2)
    rw [hκ k hk] at h2
    exact h2
end

end Go.Vse
