/- What a listed package variable holds, cell by cell. -/
import Derived.Test.YtinblcmgnjcnlaaVseX
namespace Go.Vse
open Go Go.ChangeShapes Go.WideShapes Go.RowKit

section
variable {H : Type}
def datFs (P : Program) (g : TypeId → DataW H → Option (List Value)) : List Field → List (DataW H) → Nat → Option (List Value)
  | [], [], _ => some []
  | f :: fs, d :: ds, o =>
    match g f.type d, datFs P g fs ds (o + P.cellsOf f.type) with
    | some a, some b => if f.offset = o ∧ a.length = P.cellsOf f.type then some (a ++ b) else none
    | _, _ => none
  | _, _, _ => none
def datEs (c : Nat) (g : DataW H → Option (List Value)) : List (DataW H) → Option (List Value)
  | [] => some []
  | d :: ds =>
    match g d, datEs c g ds with
    | some a, some b => if a.length = c then some (a ++ b) else none
    | _, _ => none
/-- The cells of a datum, by its type. -/
def datK (P : Program) : Nat → TypeId → DataW H → Option (List Value)
  | 0, _, _ => none
  | n + 1, t, d =>
    match P.underlying t, d with
    | some (.int _), .lit (.int k z) => some [.int k z]
    | some .bool, .lit (.bool b) => some [.bool b]
    | some .string, .lit (.string bs) => some [.string ⟨⟨bs⟩⟩]
    | some (.struct fs), .agg ds => datFs P (datK P n) fs.toList ds 0
    | some (.array m e), .agg ds => if ds.length = m then datEs (P.cellsOf e) (datK P n e) ds else none
    | _, _ => none

variable {enc : TypeId × Value → H} {P : Program} {w : World} {base : Nat} {spare : Nat → Bool} {held : Bool}

theorem datFs_sound {g : TypeId → DataW H → Option (List Value)} {n : Nat} (hg : ∀ {t : TypeId} {vs cs : List Value} {x : DataW H × List MemPlace}, g t x.1 = some vs → DataW.trod enc P w base spare held n t cs = some x → vs.length = P.cellsOf t → cs = vs) {cs : List Value} :
    ∀ {fs : List Field} {xs : List (DataW H × List MemPlace)} {o : Nat} {vs : List Value}, datFs P g fs (xs.map (·.1)) o = some vs →
    (∀ (i : Nat) (f : Field), fs[i]? = some f → DataW.trod enc P w base spare held n f.type ((cs.drop f.offset).take (P.cellsOf f.type)) = xs[i]?) → (cs.drop o).take vs.length = vs
  | [], [], o, vs, h, _ => by simp only [List.map_nil, datFs] at h; cases h; simp
  | [], x :: xs, o, vs, h, _ => by simp [datFs] at h
  | f :: fs, [], o, vs, h, _ => by simp [datFs] at h
  | f :: fs, x :: xs, o, vs, h, hf => by
    simp only [List.map_cons, datFs] at h
    split at h
    · rename_i a b h1 h2
      split at h
      · rename_i hc
        cases h
        have h0 := hf 0 f (by simp)
        simp only [List.getElem?_cons_zero] at h0
        rw [hc.1] at h0
        have ha := hg h1 h0 hc.2
        have hb := datFs_sound hg (xs := xs) h2 (fun i f' hi => by
          have := hf (i + 1) f' (by simpa using hi)
          simpa using this)
        have e : (cs.drop o).take (a ++ b).length = (cs.drop o).take (P.cellsOf f.type) ++ (cs.drop (o + P.cellsOf f.type)).take b.length := by
          rw [List.length_append, hc.2, List.take_add, List.drop_drop]
        rw [e, ha, hb]
      · cases h
    · cases h

theorem datEs_sound {g : DataW H → Option (List Value)} {n c : Nat} {e : TypeId} (hc0 : c = P.cellsOf e) (hg : ∀ {vs cs : List Value} {x : DataW H × List MemPlace}, g x.1 = some vs → DataW.trod enc P w base spare held n e cs = some x → vs.length = P.cellsOf e → cs = vs) {cs : List Value} :
    ∀ {xs : List (DataW H × List MemPlace)} {i : Nat} {vs : List Value}, datEs c g (xs.map (·.1)) = some vs →
    (∀ j, j < xs.length → DataW.trod enc P w base spare held n e ((cs.drop ((i + j) * c)).take c) = xs[j]?) → (cs.drop (i * c)).take vs.length = vs
  | [], i, vs, h, _ => by simp only [List.map_nil, datEs] at h; cases h; simp
  | x :: xs, i, vs, h, hf => by
    simp only [List.map_cons, datEs] at h
    split at h
    · rename_i a b h1 h2
      split at h
      · rename_i hc
        cases h
        have h0 := hf 0 (by simp)
        simp only [List.getElem?_cons_zero, Nat.add_zero] at h0
        have ha := hg h1 h0 (hc.trans hc0)
        have hb := datEs_sound hc0 hg (i := i + 1) (xs := xs) h2 (fun j hj => by
          have := hf (j + 1) (by simpa using hj)
          rw [show i + 1 + j = i + (j + 1) by omega]
          simpa using this)
        have e1 : (cs.drop (i * c)).take (a ++ b).length = (cs.drop (i * c)).take c ++ (cs.drop ((i + 1) * c)).take b.length := by
          rw [List.length_append, hc, List.take_add, List.drop_drop, show i * c + c = (i + 1) * c by rw [Nat.add_mul]; omega]
        rw [e1, ha, hb]
      · cases h
    · cases h

theorem datK_sound : ∀ (n : Nat) {t : TypeId} {vs cs : List Value} {fuel : Nat} {x : DataW H × List MemPlace}, datK P n t x.1 = some vs → DataW.trod enc P w base spare held fuel t cs = some x → vs.length = P.cellsOf t → cs = vs
  | 0, _, _, _, _, _, h, _, _ => by simp [datK] at h
  | n + 1, t, vs, cs, fuel, x, h, hx, hlen => by
    simp only [datK] at h
    split at h
    · rename_i k k' z hu hd
      cases h
      obtain ⟨z', rfl, rfl, _⟩ := DataW.trod_int hu hx
      cases hd; rfl
    · rename_i b hu hd
      cases h
      obtain ⟨z', rfl, rfl⟩ := DataW.trod_bool hu hx
      cases hd; rfl
    · rename_i bs hu hd
      cases h
      obtain ⟨s, rfl, rfl, _⟩ := DataW.trod_string hu hx
      cases hd; rfl
    · rename_i fs ds hu hd
      obtain ⟨xs, m, _, hxx, hl, hxl, hf⟩ := DataW.trod_struct hu hx
      subst hxx
      cases hd
      have := datFs_sound (fun h1 h2 h3 => datK_sound n h1 h2 h3) h (cs := cs) (fun i f hi => hf i f (by simpa using hi))
      rw [hlen, ← hl] at this
      simpa using this
    · rename_i m e ds hu hd
      split at h
      · rename_i hm
        obtain ⟨xs, m', _, hxx, hl, hxl, hf⟩ := DataW.trod_array hu hx
        subst hxx
        cases hd
        have := datEs_sound rfl (fun h1 h2 h3 => datK_sound n h1 h2 h3) (i := 0) h (cs := cs) (fun j hj => by
          have := hf j (by omega)
          simpa using this)
        rw [hlen, ← hl] at this
        simpa using this
      · cases h
    · cases h
end

/-- A listed variable's block. -/
theorem laid_block {P : Program} {W : World} {n : Nat} {x : String × DataW Unit} {g : Nat} {t : TypeId} {vs : List Value} (hh : ([x].filter fun x => x.2.handleName?.isSome) = []) (h : laidMetH P [x] W) (hg : P.globalNamed x.1 = some g) (ht : (P.globals[g]?).map (·.type) = some t)
    (hd : datK P n t x.2 = some vs) (hl : vs.length = P.cellsOf t) : ∃ T fz, W.heap[g]? = some (.cells vs.toArray T fz) := by
  unfold laidMetH at h
  rw [hh] at h
  obtain ⟨ps, ⟨g0, t0, cs0, f0, p0, q0, hg0, ht0, hv0, hd0, _⟩, _⟩ := h
  obtain rfl := Option.some.inj (hg.symm.trans hg0)
  obtain rfl := Option.some.inj (ht.symm.trans ht0)
  have := datK_sound n (x := (x.2, p0)) hd hd0 hl
  unfold World.var? at hv0
  rw [hg] at hv0
  simp only [Option.bind_some] at hv0
  split at hv0
  · rename_i c T fz hw
    cases hv0
    rw [hw, ← this]
    exact ⟨T, fz, by simp⟩
  · cases hv0

end Go.Vse
