/- Steps of Sim: a new block, a block turned, a block handed on to another token. -/
import Derived.Test.YtpkgclnagmpcjaaDoorVseC
namespace Go.Vse
open Go

section
variable {w0 : World} {pr : Nat → Prop} {ρ : Env} {m : Mem} {w : World}

def Env.upd (ρ : Env) (k : Nat) (x : Nat × Nat) : Env := fun j => if j = k then x else ρ j
theorem Env.upd_same {ρ : Env} {k : Nat} {x : Nat × Nat} : ρ.upd k x k = x := by simp [Env.upd]
theorem Env.upd_other {ρ : Env} {k j : Nat} {x : Nat × Nat} (h : j ≠ k) : ρ.upd k x j = ρ j := by simp [Env.upd, h]

theorem heap_alloc_old (w : World) (o : Obj) {b : Nat} (h : b < w.heap.size) : (w.alloc o).heap[b]? = w.heap[b]? := RowKit.Below.heap_alloc w o b h

theorem Sim.forget (h : Sim w0 pr ρ m w) (k : Nat) (_ : al m k) : Sim w0 pr ρ (m.set k .hid) w := by
  have hal : ∀ j, al m j → al (m.set k .hid) j := fun j hj => by
    unfold al Mem.set; by_cases e : j = k
    · simp [e, Tok.isFree]
    · simpa [al, e] using hj
  have hcase : ∀ j, (m.set k .hid) j = .hid ∨ (m.set k .hid) j = m j := fun j => by
    by_cases e : j = k
    · left; rw [e, Mem.set_same]
    · right; exact Mem.set_other m _ e
  constructor
  · exact h.os
  · exact h.tape
  · exact h.output
  · exact h.size
  · exact h.prot
  · intro j; rcases hcase j with e | e <;> rw [e]
    · trivial
    · exact h.tok j
  · intro j hj; rcases hcase j with e | e <;> rw [e] at hj
    · simp [Tok.isRw] at hj
    · exact h.rw j hj
  · intro j hj; rcases hcase j with e | e <;> rw [e] at hj
    · simp [Tok.isRo] at hj
    · exact h.ro j hj
  · intro i j hi hj e
    rcases hcase i with e1 | e1 <;> rw [e1] at hi
    · simp [Tok.isRw] at hi
    · rcases hcase j with e2 | e2 <;> rw [e2] at hj
      · simp [Tok.isRw] at hj
      · exact h.inj i j hi hj e
  · intro j; rcases hcase j with e | e <;> rw [e]
    · trivial
    · exact Tok.wf_mono hal _ (h.wf j)
  · intro j g T cs hj
    rcases hcase j with e | e <;> rw [e] at hj
    · cases hj
    · exact h.gl j g T cs hj

theorem Sim.alloc (h : Sim w0 pr ρ m w) {nt : Nat} (hf : (m nt).isFree = true) {t : Tok} (ht : t.isRw = true) (hw : t.wf (al m)) {o : Obj} {sz : Nat} (hT : TR ρ sz t (some o)) :
    (∀ k, al m k → ρ.upd nt (w.heap.size, sz) k = ρ k) ∧ Sim w0 pr (ρ.upd nt (w.heap.size, sz)) (m.set nt t) (w.alloc o) := by
  have hne : ∀ k, al m k → k ≠ nt := fun k hk e => by subst e; unfold al at hk; rw [hk] at hf; cases hf
  have hag : ∀ k, al m k → ρ.upd nt (w.heap.size, sz) k = ρ k := fun k hk => Env.upd_other (hne k hk)
  have hal : ∀ j, al m j → al (m.set nt t) j := fun j hj => by
    unfold al; rw [Mem.set_other m _ (hne j hj)]; exact hj
  have htro : t.isRo = false := by cases t <;> simp_all [Tok.isRw, Tok.isRo]
  refine ⟨hag, ?_⟩
  constructor
  · exact h.os
  · exact h.tape
  · exact h.output
  · exact Nat.le_trans h.size (by simp)
  · intro b hb
    have h1 := h.prot b hb
    exact ⟨h1.1, (heap_alloc_old w o (Nat.lt_of_lt_of_le h1.1 h.size)).trans h1.2⟩
  · intro j
    by_cases e : j = nt
    · subst e
      rw [Mem.set_same, Env.upd_same]
      simp only [World.alloc_heap_new]
      exact TR_congr hag _ _ hw hT
    · rw [Mem.set_other m _ e, Env.upd_other e]
      have h1 := h.tok j
      by_cases hl : (m j).isRw = true ∨ (m j).isRo = true
      · rw [heap_alloc_old w o (h.lt hl)]
        exact TR_congr hag _ _ (h.wf j) h1
      · cases hm : m j with
        | free => trivial
        | hid => trivial
        | cells rw T cs => rw [hm] at hl; cases rw <;> simp [Tok.isRw, Tok.isRo] at hl
        | loop => rw [hm] at hl; simp [Tok.isRw] at hl
        | defd => rw [hm] at hl; simp [Tok.isRw] at hl
        | glob => rw [hm] at hl; simp [Tok.isRw, Tok.isRo] at hl
  · intro j hj
    by_cases e : j = nt
    · subst e
      rw [Env.upd_same]
      intro hp
      have := (h.prot _ hp).1
      have := h.size
      simp only at *
      omega
    · rw [Mem.set_other m _ e] at hj; rw [Env.upd_other e]; exact h.rw j hj
  · intro j hj
    by_cases e : j = nt
    · subst e; rw [Mem.set_same, htro] at hj; cases hj
    · rw [Mem.set_other m _ e] at hj; rw [Env.upd_other e]; exact h.ro j hj
  · intro i j hi hj e
    by_cases e1 : i = nt <;> by_cases e2 : j = nt
    · rw [e1, e2]
    · subst e1
      rw [Mem.set_other m _ e2] at hj
      rw [Env.upd_same, Env.upd_other e2] at e
      have := h.lt (.inl hj)
      simp only at e; omega
    · subst e2
      rw [Mem.set_other m _ e1] at hi
      rw [Env.upd_same, Env.upd_other e1] at e
      have := h.lt (.inl hi)
      simp only at e; omega
    · rw [Mem.set_other m _ e1] at hi; rw [Mem.set_other m _ e2] at hj
      rw [Env.upd_other e1, Env.upd_other e2] at e
      exact h.inj i j hi hj e
  · intro j
    by_cases e : j = nt
    · subst e; rw [Mem.set_same]; exact Tok.wf_mono hal _ hw
    · rw [Mem.set_other m _ e]; exact Tok.wf_mono hal _ (h.wf j)
  · intro j g T cs hj
    by_cases e : j = nt
    · subst e; rw [Mem.set_same] at hj; rw [hj] at ht; cases ht
    · rw [Mem.set_other m _ e] at hj; rw [Env.upd_other e]; exact h.gl j g T cs hj

theorem Sim.put (h : Sim w0 pr ρ m w) {k : Nat} (hk : (m k).isRw = true) {t : Tok} (ht : t.isRw = true) (hw : t.wf (al m)) {o : Obj} (hT : TR ρ (ρ k).2 t (some o)) :
    Sim w0 pr ρ (m.set k t) (w.putObj (ρ k).1 o) := by
  have hal : ∀ j, al m j → al (m.set k t) j := fun j hj => by
    unfold al; by_cases e : j = k
    · rw [e, Mem.set_same]; exact isRw_nonfree ht
    · rw [Mem.set_other m _ e]; exact hj
  have htro : t.isRo = false := by cases t <;> simp_all [Tok.isRw, Tok.isRo]
  have hlt := h.lt (.inl hk)
  constructor
  · exact h.os
  · exact h.tape
  · exact h.output
  · simp only [World.putObj_size]; exact h.size
  · intro b hb
    have h1 := h.prot b hb
    refine ⟨h1.1, ?_⟩
    rw [World.putObj_heap_other]
    · exact h1.2
    · intro e; subst e; exact h.rw k hk hb
  · intro j
    by_cases e : j = k
    · subst e
      rw [Mem.set_same, World.putObj_heap_same hlt]; exact hT
    · rw [Mem.set_other m _ e]
      by_cases hl : (m j).isRw = true ∨ (m j).isRo = true
      · have hb : (ρ j).1 ≠ (ρ k).1 := by
          intro e'
          rcases hl with hl | hl
          · exact e (h.inj j k hl hk e')
          · exact h.rw k hk (e' ▸ h.ro j hl)
        rw [World.putObj_heap_other hb]; exact h.tok j
      · cases hm : m j with
        | free => trivial
        | hid => trivial
        | cells rw T cs => rw [hm] at hl; cases rw <;> simp [Tok.isRw, Tok.isRo] at hl
        | loop => rw [hm] at hl; simp [Tok.isRw] at hl
        | defd => rw [hm] at hl; simp [Tok.isRw] at hl
        | glob => rw [hm] at hl; simp [Tok.isRw, Tok.isRo] at hl
  · intro j hj
    by_cases e : j = k
    · subst e; exact h.rw j hk
    · rw [Mem.set_other m _ e] at hj; exact h.rw j hj
  · intro j hj
    by_cases e : j = k
    · subst e; rw [Mem.set_same, htro] at hj; cases hj
    · rw [Mem.set_other m _ e] at hj; exact h.ro j hj
  · intro i j hi hj e
    have hi' : (m i).isRw = true := by
      by_cases e1 : i = k
      · rw [e1]; exact hk
      · rw [Mem.set_other m _ e1] at hi; exact hi
    have hj' : (m j).isRw = true := by
      by_cases e1 : j = k
      · rw [e1]; exact hk
      · rw [Mem.set_other m _ e1] at hj; exact hj
    exact h.inj i j hi' hj' e
  · intro j
    by_cases e : j = k
    · subst e; rw [Mem.set_same]; exact Tok.wf_mono hal _ hw
    · rw [Mem.set_other m _ e]; exact Tok.wf_mono hal _ (h.wf j)
  · intro j g T cs hj
    by_cases e : j = k
    · subst e; rw [Mem.set_same] at hj; rw [hj] at ht; cases ht
    · rw [Mem.set_other m _ e] at hj; exact h.gl j g T cs hj

/-- The token k's block goes to the token nt. -/
theorem Sim.move (h : Sim w0 pr ρ m w) {k nt : Nat} (hk : (m k).isRw = true) (hf : (m nt).isFree = true) {t : Tok} (ht : t.isRw = true) (hw : t.wf (al m)) {o : Obj} (hT : TR ρ (ρ k).2 t (some o)) :
    (∀ j, al m j → ρ.upd nt (ρ k) j = ρ j) ∧ Sim w0 pr (ρ.upd nt (ρ k)) ((m.set k .hid).set nt t) (w.putObj (ρ k).1 o) := by
  have hne : ∀ j, al m j → j ≠ nt := fun j hj e => by subst e; unfold al at hj; rw [hj] at hf; cases hf
  have hknt : k ≠ nt := hne k (isRw_nonfree hk)
  have hag : ∀ j, al m j → ρ.upd nt (ρ k) j = ρ j := fun j hj => Env.upd_other (hne j hj)
  have hal : ∀ j, al m j → al ((m.set k .hid).set nt t) j := fun j hj => by
    unfold al; rw [Mem.set_other _ _ (hne j hj)]
    by_cases e : j = k
    · rw [e, Mem.set_same]; rfl
    · rw [Mem.set_other m _ e]; exact hj
  have htro : t.isRo = false := by cases t <;> simp_all [Tok.isRw, Tok.isRo]
  have hlt := h.lt (.inl hk)
  have hcase : ∀ j, j ≠ nt → ((m.set k .hid).set nt t) j = .hid ∨ (j ≠ k ∧ ((m.set k .hid).set nt t) j = m j) := fun j hj => by
    rw [Mem.set_other _ _ hj]
    by_cases e : j = k
    · left; rw [e, Mem.set_same]
    · right; exact ⟨e, Mem.set_other m _ e⟩
  refine ⟨hag, ?_⟩
  constructor
  · exact h.os
  · exact h.tape
  · exact h.output
  · simp only [World.putObj_size]; exact h.size
  · intro b hb
    have h1 := h.prot b hb
    refine ⟨h1.1, ?_⟩
    rw [World.putObj_heap_other]
    · exact h1.2
    · intro e; subst e; exact h.rw k hk hb
  · intro j
    by_cases e : j = nt
    · subst e
      rw [Mem.set_same, Env.upd_same, World.putObj_heap_same hlt]
      exact TR_congr hag _ _ hw hT
    · rcases hcase j e with e1 | ⟨e1, e2⟩
      · rw [e1]; trivial
      · rw [e2, Env.upd_other e]
        by_cases hl : (m j).isRw = true ∨ (m j).isRo = true
        · have hb : (ρ j).1 ≠ (ρ k).1 := by
            intro e'
            rcases hl with hl | hl
            · exact e1 (h.inj j k hl hk e')
            · exact h.rw k hk (e' ▸ h.ro j hl)
          rw [World.putObj_heap_other hb]; exact TR_congr hag _ _ (h.wf j) (h.tok j)
        · cases hm : m j with
          | free => trivial
          | hid => trivial
          | cells rw T cs => rw [hm] at hl; cases rw <;> simp [Tok.isRw, Tok.isRo] at hl
          | loop => rw [hm] at hl; simp [Tok.isRw] at hl
          | defd => rw [hm] at hl; simp [Tok.isRw] at hl
          | glob => rw [hm] at hl; simp [Tok.isRw, Tok.isRo] at hl
  · intro j hj
    by_cases e : j = nt
    · subst e; rw [Env.upd_same]; exact h.rw k hk
    · rw [Env.upd_other e]
      rcases hcase j e with e1 | ⟨e1, e2⟩
      · rw [e1] at hj; simp [Tok.isRw] at hj
      · rw [e2] at hj; exact h.rw j hj
  · intro j hj
    by_cases e : j = nt
    · subst e; rw [Mem.set_same, htro] at hj; cases hj
    · rw [Env.upd_other e]
      rcases hcase j e with e1 | ⟨e1, e2⟩
      · rw [e1] at hj; simp [Tok.isRo] at hj
      · rw [e2] at hj; exact h.ro j hj
  · intro i j hi hj e
    by_cases ei : i = nt <;> by_cases ej : j = nt
    · rw [ei, ej]
    · subst ei
      rw [Env.upd_same, Env.upd_other ej] at e
      rcases hcase j ej with e1 | ⟨e1, e2⟩
      · rw [e1] at hj; simp [Tok.isRw] at hj
      · rw [e2] at hj; exact absurd (h.inj k j hk hj e).symm e1
    · subst ej
      rw [Env.upd_same, Env.upd_other ei] at e
      rcases hcase i ei with e1 | ⟨e1, e2⟩
      · rw [e1] at hi; simp [Tok.isRw] at hi
      · rw [e2] at hi; exact absurd (h.inj i k hi hk e) e1
    · rw [Env.upd_other ei, Env.upd_other ej] at e
      rcases hcase i ei with e1 | ⟨e1, e2⟩
      · rw [e1] at hi; simp [Tok.isRw] at hi
      · rcases hcase j ej with e3 | ⟨e3, e4⟩
        · rw [e3] at hj; simp [Tok.isRw] at hj
        · rw [e2] at hi; rw [e4] at hj; exact h.inj i j hi hj e
  · intro j
    by_cases e : j = nt
    · subst e; rw [Mem.set_same]; exact Tok.wf_mono hal _ hw
    · rcases hcase j e with e1 | ⟨e1, e2⟩
      · rw [e1]; trivial
      · rw [e2]; exact Tok.wf_mono hal _ (h.wf j)
  · intro j g T cs hj
    by_cases e : j = nt
    · subst e; rw [Mem.set_same] at hj; rw [hj] at ht; cases ht
    · rw [Env.upd_other e]
      rcases hcase j e with e1 | ⟨e1, e2⟩
      · rw [e1] at hj; cases hj
      · rw [e2] at hj; exact h.gl j g T cs hj
end

/-! ### Cells of a block -/

def spliceL {α : Type} (vs : List α) (o : Nat) (xs : List α) : List α := vs.take o ++ xs ++ vs.drop (o + xs.length)

theorem spliceL_length {α : Type} {vs : List α} {o : Nat} {xs : List α} (h : o + xs.length ≤ vs.length) : (spliceL vs o xs).length = vs.length := by
  simp [spliceL]; omega

theorem spliceL_nil {α : Type} (vs : List α) (o : Nat) : spliceL vs o [] = vs := by simp [spliceL]

theorem spliceL_cons {α : Type} {vs : List α} {o : Nat} {x : α} {xs : List α} (h : o + (x :: xs).length ≤ vs.length) : spliceL (vs.set o x) (o + 1) xs = spliceL vs o (x :: xs) := by
  simp only [List.length_cons] at h
  unfold spliceL
  apply List.ext_getElem?
  intro i
  simp only [List.getElem?_append, List.getElem?_take, List.getElem?_drop, List.length_append, List.length_take, List.length_set, List.length_cons, List.getElem?_set]
  rcases Nat.lt_trichotomy i o with h1 | h1 | h1
  · rw [if_pos (by omega), if_pos (by omega), if_pos (by omega), if_neg (by omega), if_pos (by omega), if_pos (by omega), if_pos (by omega)]
  · subst h1
    rw [if_pos (by omega), if_pos (by omega), if_pos (by omega), if_pos rfl, if_pos (by omega), if_pos (by omega), if_neg (by omega)]
    have : i - min i vs.length = 0 := by omega
    simp [this]
  · by_cases h2 : i < o + 1 + xs.length
    · rw [if_pos (by omega), if_neg (by omega), if_pos (by omega), if_neg (by omega)]
      have e1 : i - min (o + 1) vs.length = i - o - 1 := by omega
      have e2 : i - min o vs.length = (i - o - 1) + 1 := by omega
      rw [e1, e2, List.getElem?_cons_succ]
    · rw [if_neg (by omega), if_neg (by omega), if_neg (by omega)]
      congr 1
      omega

theorem cell_at {w : World} {b : Nat} {vs : List Value} {T : TypeId} {fz : Nat × Nat} (h : w.heap[b]? = some (.cells vs.toArray T fz)) (o : Nat) : w.cell? ⟨b, o, none⟩ = vs[o]? := by
  simp [World.cell?, h]

theorem add_off (b o i : Nat) : (⟨b, o, none⟩ : Addr).add i = ⟨b, o + i, none⟩ := by
  unfold Addr.add; split
  · rename_i h; subst h; rfl
  · rfl

theorem run_loadCells {P : Program} {w : World} {b : Nat} {vs : List Value} {T : TypeId} {fz : Nat × Nat} (h : w.heap[b]? = some (.cells vs.toArray T fz)) (o : Nat) :
    ∀ (n i : Nat) (acc : Array Value), o + i + n ≤ vs.length → (loadCellsFrom ⟨b, o, none⟩ i n acc).run P w = .ok (acc ++ ((vs.drop (o + i)).take n).toArray) w
  | 0, i, acc, _ => by simp [loadCellsFrom]
  | n + 1, i, acc, hl => by
    have hc : w.cell? ⟨b, o + i, none⟩ = some (vs[o + i]'(by omega)) := by rw [cell_at h, List.getElem?_eq_getElem (by omega)]
    have ih := run_loadCells (P := P) h o n (i + 1) (acc.push (vs[o + i]'(by omega))) (by omega)
    simp only [loadCellsFrom, Sem.run_bind, add_off]
    simp only [load, Sem.run, hc, Result.andThen]
    rw [ih]
    congr 1
    have : vs.drop (o + i) = vs[o + i]'(by omega) :: vs.drop (o + (i + 1)) := by
      rw [List.drop_eq_getElem_cons (by omega)]; rfl
    rw [this, List.take_succ_cons]
    apply Array.ext'
    simp

theorem setCell_put {w : World} {b o : Nat} {vs : List Value} {T : TypeId} {fz : Nat × Nat} (h : w.heap[b]? = some (.cells vs.toArray T fz)) (v : Value) :
    w.setCell ⟨b, o, none⟩ v = w.putObj b (.cells (vs.set o v).toArray T fz) := by
  have hb : b < w.heap.size := by
    rcases Nat.lt_or_ge b w.heap.size with h1 | h1
    · exact h1
    · rw [Array.getElem?_eq_none h1] at h; cases h
  have he : w.heap[b] = .cells vs.toArray T fz := by
    rw [Array.getElem?_eq_getElem hb] at h; exact Option.some.inj h
  unfold World.setCell World.putObj
  congr 1
  apply Array.ext
  · simp
  · intro i h1 h2
    simp only [Array.size_modify] at h1
    rw [Array.getElem_modify, Array.getElem_setIfInBounds h1]
    split
    · rename_i e; subst e
      rw [he]; simp
    · rfl

theorem run_storeCells {P : Program} {b : Nat} {T : TypeId} : ∀ (xs : List Value) (w : World) (vs : List Value) (o i : Nat), w.heap[b]? = some (.cells vs.toArray T (0, 0)) → (∀ x ∈ xs, (∀ c, x ≠ .agg c) ∧ (∀ c, x ≠ .tuple c)) → o + i + xs.length ≤ vs.length →
    (storeCells ⟨b, o, none⟩ xs i).run P w = .ok () (w.putObj b (.cells (spliceL vs (o + i) xs).toArray T (0, 0)))
  | [], w, vs, o, i, h, _, _ => by
    simp only [storeCells, spliceL_nil, Sem.run_pure]
    have hb : b < w.heap.size := by
      rcases Nat.lt_or_ge b w.heap.size with h1 | h1
      · exact h1
      · rw [Array.getElem?_eq_none h1] at h; cases h
    congr 1
    have he : w.heap[b] = .cells vs.toArray T (0, 0) := by
      rw [Array.getElem?_eq_getElem hb] at h; exact Option.some.inj h
    unfold World.putObj
    have : w.heap.setIfInBounds b (.cells vs.toArray T (0, 0)) = w.heap := by
      apply Array.ext
      · simp
      · intro j h1 h2
        rw [Array.getElem_setIfInBounds h2]
        split
        · rename_i e; subst e; exact he.symm
        · rfl
    rw [this]
  | x :: xs, w, vs, o, i, h, hs, hl => by
    simp only [List.length_cons] at hl
    have hb : b < w.heap.size := by
      rcases Nat.lt_or_ge b w.heap.size with h1 | h1
      · exact h1
      · rw [Array.getElem?_eq_none h1] at h; cases h
    have hc : w.cell? ⟨b, o + i, none⟩ = some (vs[o + i]'(by omega)) := by rw [cell_at h, List.getElem?_eq_getElem (by omega)]
    have hfz : w.frozen? ⟨b, o + i, none⟩ = false := by simp [World.frozen?, h]
    have hst : (store ⟨b, o + i, none⟩ x).run P w = .ok () (w.putObj b (.cells (vs.set (o + i) x).toArray T (0, 0))) := by
      rw [← setCell_put h]
      have hx := hs x (by simp)
      unfold store
      cases x with
      | agg c => exact absurd rfl (hx.1 c)
      | tuple c => exact absurd rfl (hx.2 c)
      | _ => simp [Sem.run, hc, hfz]
    have ih := run_storeCells (P := P) xs (w.putObj b (.cells (vs.set (o + i) x).toArray T (0, 0))) (vs.set (o + i) x) o (i + 1) (World.putObj_heap_same hb) (fun y hy => hs y (List.mem_cons_of_mem _ hy)) (by simp; omega)
    simp only [storeCells, Sem.run_bind, add_off, hst, Result.andThen]
    rw [ih]
    congr 1
    have e1 : o + (i + 1) = (o + i) + 1 := by omega
    rw [e1, spliceL_cons (by simp; omega)]
    unfold World.putObj
    simp [Array.setIfInBounds_setIfInBounds]

end Go.Vse
