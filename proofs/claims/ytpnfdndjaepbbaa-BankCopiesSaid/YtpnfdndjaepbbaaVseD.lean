/- Steps of Sim: a new block, a block turned, a block handed on to another token. -/
import Derived.Test.YtpnfdndjaepbbaaVseC
namespace Go.Vse
open Go

def upd {α : Type} (ρ : Nat → α) (k : Nat) (x : α) : Nat → α := fun j => if j = k then x else ρ j
theorem upd_same {α : Type} {ρ : Nat → α} {k : Nat} {x : α} : upd ρ k x k = x := by simp [upd]
theorem upd_other {α : Type} {ρ : Nat → α} {k j : Nat} {x : α} (h : j ≠ k) : upd ρ k x j = ρ j := by simp [upd, h]
abbrev Env.upd (ρ : Env) (k : Nat) (x : Nat × Nat) : Env := Go.Vse.upd ρ k x
theorem Env.upd_same {ρ : Env} {k : Nat} {x : Nat × Nat} : ρ.upd k x k = x := Go.Vse.upd_same
theorem Env.upd_other {ρ : Env} {k j : Nat} {x : Nat × Nat} (h : j ≠ k) : ρ.upd k x j = ρ j := Go.Vse.upd_other h

theorem heap_alloc_old (w : World) (o : Obj) {b : Nat} (h : b < w.heap.size) : (w.alloc o).heap[b]? = w.heap[b]? := RowKit.Below.heap_alloc w o b h

/-! ### Cells of a block -/

def spliceL {α : Type} (vs : List α) (o : Nat) (xs : List α) : List α := vs.take o ++ xs ++ vs.drop (o + xs.length)

theorem spliceL_length {α : Type} {vs : List α} {o : Nat} {xs : List α} (h : o + xs.length ≤ vs.length) : (spliceL vs o xs).length = vs.length := by
  simp [spliceL]; omega

theorem spliceL_nil {α : Type} (vs : List α) (o : Nat) : spliceL vs o [] = vs := by simp [spliceL]

theorem spliceL_cons {α : Type} {vs : List α} {o : Nat} {x : α} {xs : List α} (h : o + (x :: xs).length ≤ vs.length) : spliceL (vs.set o x) (o + 1) xs = spliceL vs o (x :: xs) := by
  simp only [List.length_cons] at h
  unfold spliceL
  apply List.ext_getElem?
  intro i
  simp only [List.getElem?_append, List.getElem?_take, List.getElem?_drop, List.length_append, List.length_take, List.length_set, List.length_cons, List.getElem?_set]
  rcases Nat.lt_trichotomy i o with h1 | h1 | h1
  · rw [if_pos (by omega), if_pos (by omega), if_pos (by omega), if_neg (by omega), if_pos (by omega), if_pos (by omega), if_pos (by omega)]
  · subst h1
    rw [if_pos (by omega), if_pos (by omega), if_pos (by omega), if_pos rfl, if_pos (by omega), if_pos (by omega), if_neg (by omega)]
    have : i - min i vs.length = 0 := by omega
    simp [this]
  · by_cases h2 : i < o + 1 + xs.length
    · rw [if_pos (by omega), if_neg (by omega), if_pos (by omega), if_neg (by omega)]
      have e1 : i - min (o + 1) vs.length = i - o - 1 := by omega
      have e2 : i - min o vs.length = (i - o - 1) + 1 := by omega
      rw [e1, e2, List.getElem?_cons_succ]
    · rw [if_neg (by omega), if_neg (by omega), if_neg (by omega)]
      congr 1
      omega

theorem cell_at {w : World} {b : Nat} {vs : List Value} {T : TypeId} {fz : Nat × Nat} (h : w.heap[b]? = some (.cells vs.toArray T fz)) (o : Nat) : w.cell? ⟨b, o, none⟩ = vs[o]? := by
  simp [World.cell?, h]

theorem add_off (b o i : Nat) : (⟨b, o, none⟩ : Addr).add i = ⟨b, o + i, none⟩ := by
  unfold Addr.add; split
  · rename_i h; subst h; rfl
  · rfl

theorem run_loadCells {P : Program} {w : World} {b : Nat} {vs : List Value} {T : TypeId} {fz : Nat × Nat} (h : w.heap[b]? = some (.cells vs.toArray T fz)) (o : Nat) :
    ∀ (n i : Nat) (acc : Array Value), o + i + n ≤ vs.length → (loadCellsFrom ⟨b, o, none⟩ i n acc).run P w = .ok (acc ++ ((vs.drop (o + i)).take n).toArray) w
  | 0, i, acc, _ => by simp [loadCellsFrom]
  | n + 1, i, acc, hl => by
    have hc : w.cell? ⟨b, o + i, none⟩ = some (vs[o + i]'(by omega)) := by rw [cell_at h, List.getElem?_eq_getElem (by omega)]
    have ih := run_loadCells (P := P) h o n (i + 1) (acc.push (vs[o + i]'(by omega))) (by omega)
    simp only [loadCellsFrom, Sem.run_bind, add_off]
    simp only [load, Sem.run, hc, Result.andThen]
    rw [ih]
    congr 1
    have : vs.drop (o + i) = vs[o + i]'(by omega) :: vs.drop (o + (i + 1)) := by
      rw [List.drop_eq_getElem_cons (by omega)]; rfl
    rw [this, List.take_succ_cons]
    apply Array.ext'
    simp

theorem setCell_put {w : World} {b o : Nat} {vs : List Value} {T : TypeId} {fz : Nat × Nat} (h : w.heap[b]? = some (.cells vs.toArray T fz)) (v : Value) :
    w.setCell ⟨b, o, none⟩ v = w.putObj b (.cells (vs.set o v).toArray T fz) := by
  have hb : b < w.heap.size := by
    rcases Nat.lt_or_ge b w.heap.size with h1 | h1
    · exact h1
    · rw [Array.getElem?_eq_none h1] at h; cases h
  have he : w.heap[b] = .cells vs.toArray T fz := by
    rw [Array.getElem?_eq_getElem hb] at h; exact Option.some.inj h
  unfold World.setCell World.putObj
  congr 1
  apply Array.ext
  · simp
  · intro i h1 h2
    simp only [Array.size_modify] at h1
    rw [Array.getElem_modify, Array.getElem_setIfInBounds h1]
    split
    · rename_i e; subst e
      rw [he]; simp
    · rfl

theorem run_storeCells {P : Program} {b : Nat} {T : TypeId} : ∀ (xs : List Value) (w : World) (vs : List Value) (o i : Nat), w.heap[b]? = some (.cells vs.toArray T (0, 0)) → (∀ x ∈ xs, (∀ c, x ≠ .agg c) ∧ (∀ c, x ≠ .tuple c)) → o + i + xs.length ≤ vs.length →
    (storeCells ⟨b, o, none⟩ xs i).run P w = .ok () (w.putObj b (.cells (spliceL vs (o + i) xs).toArray T (0, 0)))
  | [], w, vs, o, i, h, _, _ => by
    simp only [storeCells, spliceL_nil, Sem.run_pure]
    have hb : b < w.heap.size := by
      rcases Nat.lt_or_ge b w.heap.size with h1 | h1
      · exact h1
      · rw [Array.getElem?_eq_none h1] at h; cases h
    congr 1
    have he : w.heap[b] = .cells vs.toArray T (0, 0) := by
      rw [Array.getElem?_eq_getElem hb] at h; exact Option.some.inj h
    unfold World.putObj
    have : w.heap.setIfInBounds b (.cells vs.toArray T (0, 0)) = w.heap := by
      apply Array.ext
      · simp
      · intro j h1 h2
        rw [Array.getElem_setIfInBounds h2]
        split
        · rename_i e; subst e; exact he.symm
        · rfl
    rw [this]
  | x :: xs, w, vs, o, i, h, hs, hl => by
    simp only [List.length_cons] at hl
    have hb : b < w.heap.size := by
      rcases Nat.lt_or_ge b w.heap.size with h1 | h1
      · exact h1
      · rw [Array.getElem?_eq_none h1] at h; cases h
    have hc : w.cell? ⟨b, o + i, none⟩ = some (vs[o + i]'(by omega)) := by rw [cell_at h, List.getElem?_eq_getElem (by omega)]
    have hfz : w.frozen? ⟨b, o + i, none⟩ = false := by simp [World.frozen?, h]
    have hst : (store ⟨b, o + i, none⟩ x).run P w = .ok () (w.putObj b (.cells (vs.set (o + i) x).toArray T (0, 0))) := by
      rw [← setCell_put h]
      have hx := hs x (by simp)
      unfold store
      cases x with
      | agg c => exact absurd rfl (hx.1 c)
      | tuple c => exact absurd rfl (hx.2 c)
      | _ => simp [Sem.run, hc, hfz]
    have ih := run_storeCells (P := P) xs (w.putObj b (.cells (vs.set (o + i) x).toArray T (0, 0))) (vs.set (o + i) x) o (i + 1) (World.putObj_heap_same hb) (fun y hy => hs y (List.mem_cons_of_mem _ hy)) (by simp; omega)
    simp only [storeCells, Sem.run_bind, add_off, hst, Result.andThen]
    rw [ih]
    congr 1
    have e1 : o + (i + 1) = (o + i) + 1 := by omega
    rw [e1, spliceL_cons (by simp; omega)]
    unfold World.putObj
    simp [Array.setIfInBounds_setIfInBounds]


section
variable [AbstRep]
variable {w0 : World} {pr : Nat → Prop} {ρ : Env} {φ : Nat → List Nat} {m : Mem} {w : World}

theorem TokR_blk {e : Nat × Nat} {t : Tok} {h : Heap} (_ : t.owns = true) (ha : t.isAbs = false) (ht : TR ρ e.2 t (h e.1)) : TokR ρ e [e.1] t h := by
  rw [TokR_plain ha]; unfold PlainR
  split
  · exact .inr ⟨rfl, ht⟩
  · exact ⟨fun _ => rfl, ht⟩

theorem SimF.forget (h : SimF w0 pr ρ φ m w) (k : Nat) : SimF w0 pr ρ φ (m.set k .hid) w := by
  have hcase : ∀ j, ((m.set k .hid) j = .hid) ∨ (m.set k .hid) j = m j := fun j => by
    by_cases e : j = k
    · left; rw [e, Mem.set_same]
    · right; exact Mem.set_other m _ e
  have hal : ∀ j, al m j → al (m.set k .hid) j := fun j hj => by
    rcases hcase j with e | e <;> unfold al <;> rw [e]
    · rfl
    · exact hj
  have hfo : ∀ j b, b ∈ ((m.set k .hid) j).fo (φ j) → b ∈ (m j).fo (φ j) := fun j b hb => by
    rcases hcase j with e | e <;> rw [e] at hb
    · simp [Tok.fo, Tok.owns] at hb
    · exact hb
  refine ⟨h.os, h.tape, h.output, h.size, h.prot, fun j => ?_, fun j b hb => h.fw j b (hfo j b hb), fun i j b hi hj => h.fi i j b (hfo i b hi) (hfo j b hj), fun j hj => ?_, fun j => ?_, fun j g T cs hj => ?_⟩
  · rcases hcase j with e | e <;> rw [e]
    · exact TokR_idle rfl rfl
    · exact h.tok j
  · rcases hcase j with e | e <;> rw [e] at hj
    · simp [Tok.isRo] at hj
    · exact h.ro j hj
  · rcases hcase j with e | e <;> rw [e]
    · trivial
    · exact Tok.wf_mono hal _ (h.wf j)
  · rcases hcase j with e | e <;> rw [e] at hj
    · cases hj
    · exact h.gl j g T cs hj
theorem Sim.forget (h : Sim w0 pr ρ m w) (k : Nat) (_ : al m k) : Sim w0 pr ρ (m.set k .hid) w := let ⟨φ, h⟩ := h; ⟨φ, h.forget k⟩

/-- A token that is put to a place: what is asked of it. -/
structure NewTok (m : Mem) (t : Tok) : Prop where
  own : t.owns = true
  nabs : t.isAbs = false
  wf : t.wf (al m)
theorem NewTok.of {t : Tok} (ht : t.isRw = true) (hw : t.wf (al m)) : NewTok m t := ⟨isRw_owns ht, (rw_nvec ht).2, hw⟩

theorem SimF.alloc (h : SimF w0 pr ρ φ m w) {nt : Nat} (hf : (m nt).isFree = true) {t : Tok} (ht : NewTok m t) {o : Obj} {sz : Nat} (hT : TR ρ sz t (some o)) :
    (∀ k, al m k → ρ.upd nt (w.heap.size, sz) k = ρ k) ∧ SimF w0 pr (ρ.upd nt (w.heap.size, sz)) (upd φ nt [w.heap.size]) (m.set nt t) (w.alloc o) := by
  have hne : ∀ k, al m k → k ≠ nt := fun k hk e => by subst e; unfold al at hk; rw [hk] at hf; cases hf
  have hag : ∀ k, al m k → ρ.upd nt (w.heap.size, sz) k = ρ k := fun k hk => Env.upd_other (hne k hk)
  have hal : ∀ j, al m j → al (m.set nt t) j := fun j hj => by
    unfold al; rw [Mem.set_other m _ (hne j hj)]; exact hj
  have hfo : ∀ j b, b ∈ ((m.set nt t) j).fo (upd φ nt [w.heap.size] j) → (j = nt ∧ b = w.heap.size) ∨ (j ≠ nt ∧ b ∈ (m j).fo (φ j)) := fun j b hb => by
    by_cases e : j = nt
    · subst e
      rw [upd_same, Mem.set_same, fo_own ht.own] at hb
      exact .inl ⟨rfl, by simpa using hb⟩
    · rw [upd_other e, Mem.set_other m _ e] at hb
      exact .inr ⟨e, hb⟩
  refine ⟨hag, ?_⟩
  constructor
  · exact h.os
  · exact h.tape
  · exact h.output
  · exact Nat.le_trans h.size (by simp)
  · intro b hb
    have h1 := h.prot b hb
    exact ⟨h1.1, (heap_alloc_old w o (Nat.lt_of_lt_of_le h1.1 h.size)).trans h1.2⟩
  · intro j
    by_cases e : j = nt
    · subst e
      rw [Mem.set_same, upd_same, Env.upd_same]
      refine TokR_blk (e := (w.heap.size, sz)) ht.own ht.nabs ?_
      simp only [World.alloc_heap_new]
      exact TR_congr hag _ _ ht.wf hT
    · rw [Mem.set_other m _ e, Env.upd_other e, upd_other e]
      refine TokR_congr hag (h.wf j) (TokR_heap (h.tok j) (fun b hb => heap_alloc_old w o (h.fw j b hb).2) (fun hr => heap_alloc_old w o (h.lt (.inr hr))))
  · intro j b hb
    rcases hfo j b hb with ⟨_, rfl⟩ | ⟨_, x⟩
    · refine ⟨fun hp => ?_, by simp⟩
      have := (h.prot _ hp).1
      have := h.size
      omega
    · exact ⟨(h.fw j b x).1, Nat.lt_of_lt_of_le (h.fw j b x).2 (by simp)⟩
  · intro i j b hi hj
    rcases hfo i b hi with ⟨e1, e0⟩ | ⟨e1, x⟩ <;> rcases hfo j b hj with ⟨e2, e3⟩ | ⟨e2, y⟩
    · rw [e1, e2]
    · have := (h.fw j _ y).2; omega
    · subst e3; have := (h.fw i _ x).2; omega
    · exact h.fi i j _ x y
  · intro j hj
    by_cases e : j = nt
    · subst e; rw [Mem.set_same, owns_nro ht.own] at hj; cases hj
    · rw [Mem.set_other m _ e] at hj; rw [Env.upd_other e]; exact h.ro j hj
  · intro j
    by_cases e : j = nt
    · subst e; rw [Mem.set_same]; exact Tok.wf_mono hal _ ht.wf
    · rw [Mem.set_other m _ e]; exact Tok.wf_mono hal _ (h.wf j)
  · intro j g T cs hj
    by_cases e : j = nt
    · subst e; rw [Mem.set_same] at hj; have := owns_nro ht.own; rw [hj] at this; cases this
    · rw [Mem.set_other m _ e] at hj; rw [Env.upd_other e]; exact h.gl j g T cs hj

theorem Sim.alloc (h : Sim w0 pr ρ m w) {nt : Nat} (hf : (m nt).isFree = true) {t : Tok} (ht : NewTok m t) {o : Obj} {sz : Nat} (hT : TR ρ sz t (some o)) :
    (∀ k, al m k → ρ.upd nt (w.heap.size, sz) k = ρ k) ∧ Sim w0 pr (ρ.upd nt (w.heap.size, sz)) (m.set nt t) (w.alloc o) :=
  let ⟨_, h⟩ := h; ⟨(h.alloc hf ht hT).1, _, (h.alloc hf ht hT).2⟩

theorem SimF.put (h : SimF w0 pr ρ φ m w) {k : Nat} (hk : (m k).fo (φ k) = [(ρ k).1]) {t : Tok} (ht : NewTok m t) {o : Obj} (hT : TR ρ (ρ k).2 t (some o)) :
    SimF w0 pr ρ φ (m.set k t) (w.putObj (ρ k).1 o) := by
  have hko : (m k).owns = true := (fo_sub (b := (ρ k).1) (by rw [hk]; simp)).2
  have hφ : φ k = [(ρ k).1] := by rw [fo_own hko] at hk; exact hk
  have hal : ∀ j, al m j → al (m.set k t) j := fun j hj => by
    unfold al; by_cases e : j = k
    · rw [e, Mem.set_same]; exact owns_nonfree ht.own
    · rw [Mem.set_other m _ e]; exact hj
  have hfo : ∀ j b, b ∈ ((m.set k t) j).fo (φ j) → b ∈ (m j).fo (φ j) := fun j b hb => by
    by_cases e : j = k
    · subst e; rw [Mem.set_same, fo_own ht.own] at hb; rw [fo_own hko]; exact hb
    · rw [Mem.set_other m _ e] at hb; exact hb
  have hbk : (ρ k).1 ∈ (m k).fo (φ k) := by rw [hk]; simp
  have hlt := (h.fw k _ hbk).2
  refine ⟨h.os, h.tape, h.output, by simp only [World.putObj_size]; exact h.size, fun b hb => ?_, fun j => ?_, fun j b hb => ⟨(h.fw j b (hfo j b hb)).1, by simp only [World.putObj_size]; exact (h.fw j b (hfo j b hb)).2⟩, fun i j b hi hj => h.fi i j b (hfo i b hi) (hfo j b hj), fun j hj => ?_, fun j => ?_, fun j g T cs hj => ?_⟩
  · have h1 := h.prot b hb
    refine ⟨h1.1, ?_⟩
    rw [World.putObj_heap_other]
    · exact h1.2
    · intro e; subst e; exact (h.fw k _ hbk).1 hb
  · by_cases e : j = k
    · subst e
      rw [Mem.set_same, hφ]
      refine TokR_blk ht.own ht.nabs ?_
      rw [World.putObj_heap_same hlt]; exact hT
    · rw [Mem.set_other m _ e]
      refine TokR_heap (h.tok j) (fun b hb => World.putObj_heap_other (fun e' => ?_)) (fun hr => World.putObj_heap_other (fun e' => ?_))
      · subst e'; exact e (h.fi j k _ hb hbk)
      · exact h.nfo hbk j hr e'
  · by_cases e : j = k
    · subst e; rw [Mem.set_same, owns_nro ht.own] at hj; cases hj
    · rw [Mem.set_other m _ e] at hj; exact h.ro j hj
  · by_cases e : j = k
    · subst e; rw [Mem.set_same]; exact Tok.wf_mono hal _ ht.wf
    · rw [Mem.set_other m _ e]; exact Tok.wf_mono hal _ (h.wf j)
  · by_cases e : j = k
    · subst e; rw [Mem.set_same] at hj; have := owns_nro ht.own; rw [hj] at this; cases this
    · rw [Mem.set_other m _ e] at hj; exact h.gl j g T cs hj

theorem Sim.put (h : Sim w0 pr ρ m w) {k : Nat} (hk : (m k).isRw = true) {t : Tok} (ht : NewTok m t) {o : Obj} (hT : TR ρ (ρ k).2 t (some o)) :
    Sim w0 pr ρ (m.set k t) (w.putObj (ρ k).1 o) := let ⟨_, h⟩ := h; ⟨_, h.put (h.frw hk) ht hT⟩

/-- The token k's block goes to the token nt. -/
theorem SimF.move (h : SimF w0 pr ρ φ m w) {k nt : Nat} (hk : (m k).fo (φ k) = [(ρ k).1]) (hf : (m nt).isFree = true) {t : Tok} (ht : NewTok m t) {o : Obj} (hT : TR ρ (ρ k).2 t (some o)) :
    (∀ j, al m j → ρ.upd nt (ρ k) j = ρ j) ∧ SimF w0 pr (ρ.upd nt (ρ k)) (upd φ nt [(ρ k).1]) ((m.set k .hid).set nt t) (w.putObj (ρ k).1 o) := by
  have hko : (m k).owns = true := (fo_sub (b := (ρ k).1) (by rw [hk]; simp)).2
  have hne : ∀ j, al m j → j ≠ nt := fun j hj e => by subst e; unfold al at hj; rw [hj] at hf; cases hf
  have hag : ∀ j, al m j → ρ.upd nt (ρ k) j = ρ j := fun j hj => Env.upd_other (hne j hj)
  have hcase : ∀ j, j ≠ nt → ((m.set k .hid).set nt t) j = .hid ∨ (j ≠ k ∧ ((m.set k .hid).set nt t) j = m j) := fun j hj => by
    rw [Mem.set_other _ _ hj]
    by_cases e : j = k
    · left; rw [e, Mem.set_same]
    · right; exact ⟨e, Mem.set_other m _ e⟩
  have hal : ∀ j, al m j → al ((m.set k .hid).set nt t) j := fun j hj => by
    rcases hcase j (hne j hj) with e | ⟨_, e⟩ <;> unfold al <;> rw [e]
    · rfl
    · exact hj
  have hbk : (ρ k).1 ∈ (m k).fo (φ k) := by rw [hk]; simp
  have hlt := (h.fw k _ hbk).2
  have hfo : ∀ j b, b ∈ (((m.set k .hid).set nt t) j).fo (upd φ nt [(ρ k).1] j) → (j = nt ∧ b = (ρ k).1) ∨ (j ≠ nt ∧ j ≠ k ∧ b ∈ (m j).fo (φ j)) := fun j b hb => by
    by_cases e : j = nt
    · subst e
      rw [upd_same, Mem.set_same, fo_own ht.own] at hb
      exact .inl ⟨rfl, by simpa using hb⟩
    · rw [upd_other e] at hb
      rcases hcase j e with e1 | ⟨e1, e2⟩
      · rw [e1] at hb; simp [Tok.fo, Tok.owns] at hb
      · rw [e2] at hb; exact .inr ⟨e, e1, hb⟩
  refine ⟨hag, ?_⟩
  refine ⟨h.os, h.tape, h.output, by simp only [World.putObj_size]; exact h.size, fun b hb => ?_, fun j => ?_, fun j b hb => ?_, fun i j b hi hj => ?_, fun j hj => ?_, fun j => ?_, fun j g T cs hj => ?_⟩
  · have h1 := h.prot b hb
    refine ⟨h1.1, ?_⟩
    rw [World.putObj_heap_other]
    · exact h1.2
    · intro e; subst e; exact (h.fw k _ hbk).1 hb
  · by_cases e : j = nt
    · subst e
      rw [Mem.set_same, Env.upd_same, upd_same]
      refine TokR_blk ht.own ht.nabs ?_
      rw [World.putObj_heap_same hlt]; exact TR_congr hag _ _ ht.wf hT
    · rcases hcase j e with e1 | ⟨e1, e2⟩
      · rw [e1]; exact TokR_idle rfl rfl
      · rw [e2, Env.upd_other e, upd_other e]
        refine TokR_congr hag (h.wf j) (TokR_heap (h.tok j) (fun b hb => World.putObj_heap_other (fun e' => ?_)) (fun hr => World.putObj_heap_other (fun e' => ?_)))
        · subst e'; exact e1 (h.fi j k _ hb hbk)
        · exact h.nfo hbk j hr e'
  · simp only [World.putObj_size]
    rcases hfo j b hb with ⟨_, rfl⟩ | ⟨_, _, x⟩
    · exact h.fw k _ hbk
    · exact h.fw j b x
  · rcases hfo i b hi with ⟨e1, e0⟩ | ⟨e1, n1, x⟩ <;> rcases hfo j b hj with ⟨e2, e3⟩ | ⟨e2, n2, y⟩
    · rw [e1, e2]
    · subst e0; exact absurd (h.fi j k _ y hbk) n2
    · subst e3; exact absurd (h.fi i k _ x hbk) n1
    · exact h.fi i j _ x y
  · by_cases e : j = nt
    · subst e; rw [Mem.set_same, owns_nro ht.own] at hj; cases hj
    · rw [Env.upd_other e]
      rcases hcase j e with e1 | ⟨e1, e2⟩
      · rw [e1] at hj; simp [Tok.isRo] at hj
      · rw [e2] at hj; exact h.ro j hj
  · by_cases e : j = nt
    · subst e; rw [Mem.set_same]; exact Tok.wf_mono hal _ ht.wf
    · rcases hcase j e with e1 | ⟨e1, e2⟩
      · rw [e1]; trivial
      · rw [e2]; exact Tok.wf_mono hal _ (h.wf j)
  · by_cases e : j = nt
    · subst e; rw [Mem.set_same] at hj; have := owns_nro ht.own; rw [hj] at this; cases this
    · rw [Env.upd_other e]
      rcases hcase j e with e1 | ⟨e1, e2⟩
      · rw [e1] at hj; cases hj
      · rw [e2] at hj; exact h.gl j g T cs hj

theorem Sim.move (h : Sim w0 pr ρ m w) {k nt : Nat} (hk : (m k).isRw = true) (hf : (m nt).isFree = true) {t : Tok} (ht : NewTok m t) {o : Obj} (hT : TR ρ (ρ k).2 t (some o)) :
    (∀ j, al m j → ρ.upd nt (ρ k) j = ρ j) ∧ Sim w0 pr (ρ.upd nt (ρ k)) ((m.set k .hid).set nt t) (w.putObj (ρ k).1 o) :=
  let ⟨_, h⟩ := h; ⟨(h.move (h.frw hk) hf ht hT).1, _, (h.move (h.frw hk) hf ht hT).2⟩

/-- A block whose token is let go may turn to anything. -/
theorem SimF.drop (h : SimF w0 pr ρ φ m w) {k : Nat} (hk : (m k).fo (φ k) = [(ρ k).1]) (o : Obj) : SimF w0 pr ρ φ (m.set k .hid) (w.putObj (ρ k).1 o) := by
  have hbk : (ρ k).1 ∈ (m k).fo (φ k) := by rw [hk]; simp
  have hf := h.forget k
  have hno : ∀ j b, b ∈ ((m.set k .hid) j).fo (φ j) → b ≠ (ρ k).1 := fun j b hb e => by
    by_cases ej : j = k
    · subst ej; rw [Mem.set_same] at hb; simp [Tok.fo, Tok.owns] at hb
    · rw [Mem.set_other m _ ej] at hb; subst e; exact ej (h.fi j k _ hb hbk)
  refine ⟨h.os, h.tape, h.output, by simp only [World.putObj_size]; exact h.size, fun b hb => ?_, fun j => ?_, fun j b hb => ⟨(hf.fw j b hb).1, by simp only [World.putObj_size]; exact (hf.fw j b hb).2⟩, hf.fi, hf.ro, hf.wf, hf.gl⟩
  · have h1 := h.prot b hb
    refine ⟨h1.1, ?_⟩
    rw [World.putObj_heap_other]
    · exact h1.2
    · intro e; subst e; exact (h.fw k _ hbk).1 hb
  · refine TokR_heap (hf.tok j) (fun b hb => World.putObj_heap_other (hno j b hb)) (fun hr => World.putObj_heap_other (fun e' => ?_))
    by_cases ej : j = k
    · subst ej; rw [Mem.set_same] at hr; simp [Tok.isRo] at hr
    · rw [Mem.set_other m _ ej] at hr; exact h.nfo hbk j hr e'
theorem Sim.drop (h : Sim w0 pr ρ m w) {k : Nat} (hk : (m k).isRw = true) (o : Obj) : Sim w0 pr ρ (m.set k .hid) (w.putObj (ρ k).1 o) := let ⟨_, h⟩ := h; ⟨_, h.drop (h.frw hk) o⟩
end


end Go.Vse
