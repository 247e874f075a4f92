/- Flat arguments are opened. -/
import Derived.Test.YtpnfdndjaepbbaaVseW
import Derived.OpenShut
namespace Go.Vse
open Go Go.ChangeShapes Go.WideShapes Go.RowKit

inductive FK where
  | int (k : IntKind)
  | bool
def FK.ok : FK → Value → Prop
  | .int k, v => ∃ n, v = .int k n ∧ (Lit.int k n).wf = true
  | .bool, v => ∃ b, v = .bool b
def FKs : List FK → List Value → Prop
  | [], vs => vs = []
  | k :: ks, vs => ∃ v r, vs = v :: r ∧ k.ok v ∧ FKs ks r
theorem FKs_append : ∀ {ks ls : List FK} {vs us : List Value}, FKs ks vs → FKs ls us → FKs (ks ++ ls) (vs ++ us)
  | [], _, _, _, h, h' => by simp only [FKs] at h; subst h; simpa using h'
  | k :: ks, _, _, _, h, h' => by
    simp only [FKs] at h; obtain ⟨v, r, rfl, h1, h2⟩ := h
    simp only [List.cons_append, FKs]
    exact ⟨v, _, rfl, h1, FKs_append h2 h'⟩
def flatFs (P : Program) (g : TypeId → Option (List FK)) : List Field → Nat → Option (List FK)
  | [], _ => some []
  | f :: fs, o =>
    match g f.type, flatFs P g fs (o + P.cellsOf f.type) with
    | some a, some b => if f.offset = o ∧ a.length = P.cellsOf f.type then some (a ++ b) else none
    | _, _ => none
def repK (a : List FK) : Nat → List FK
  | 0 => []
  | n + 1 => a ++ repK a n

def flatK (P : Program) : Nat → TypeId → Option (List FK)
  | 0, _ => none
  | n + 1, t =>
    match P.underlying t with
    | some (.int k) => some [.int k]
    | some .bool => some [.bool]
    | some (.struct fs) => flatFs P (flatK P n) fs.toList 0
    | some (.array m e) => (match flatK P n e with | some a => if a.length = P.cellsOf e then some (repK a m) else none | none => none)
    | _ => none

section
variable {H : Type} {enc : TypeId × Value → H} {P : Program} {w : World} {base : Nat} {spare : Nat → Bool} {held : Bool}

theorem flatFs_sound {g : TypeId → Option (List FK)} {n : Nat} (hg : ∀ {t : TypeId} {ks : List FK} {cs : List Value} {x : DataW H × List MemPlace}, g t = some ks → DataW.trod enc P w base spare held n t cs = some x → ks.length = P.cellsOf t → FKs ks cs) {cs : List Value} : ∀ {fs : List Field} {o : Nat} {ks : List FK}, flatFs P g fs o = some ks →
    (∀ f ∈ fs, ∃ y, DataW.trod enc P w base spare held n f.type ((cs.drop f.offset).take (P.cellsOf f.type)) = some y) → ∃ k, FKs ks ((cs.drop o).take k) ∧ k = ks.length
  | [], o, ks, h, _ => by simp only [flatFs] at h; cases h; exact ⟨0, by simp [FKs], rfl⟩
  | f :: fs, o, ks, h, hf => by
    simp only [flatFs] at h
    split at h
    · rename_i a b h1 h2
      split at h
      · rename_i hc
        cases h
        obtain ⟨y, hy⟩ := hf f (by simp)
        rw [hc.1] at hy
        have ha := hg h1 hy hc.2
        obtain ⟨k, hk, rfl⟩ := flatFs_sound hg h2 (fun f' hf' => hf f' (List.mem_cons_of_mem _ hf'))
        refine ⟨_, ?_, rfl⟩
        have e : (cs.drop o).take (a ++ b).length = (cs.drop o).take (P.cellsOf f.type) ++ (cs.drop (o + P.cellsOf f.type)).take b.length := by
          rw [List.length_append, hc.2, List.take_add, List.drop_drop]
        rw [e]
        exact FKs_append ha hk
      · cases h
    · cases h

theorem repK_length {a : List FK} : ∀ n, (repK a n).length = n * a.length
  | 0 => by simp [repK]
  | n + 1 => by simp only [repK, List.length_append, repK_length n]; rw [Nat.add_mul]; omega

theorem repK_sound {a : List FK} {c : Nat} (hc : a.length = c) {cs : List Value} : ∀ (n i : Nat), (∀ j, i ≤ j → j < i + n → FKs a ((cs.drop (j * c)).take c)) → FKs (repK a n) ((cs.drop (i * c)).take (n * c))
  | 0, i, _ => by simp [repK, FKs]
  | n + 1, i, h => by
    have e : (cs.drop (i * c)).take ((n + 1) * c) = (cs.drop (i * c)).take c ++ (cs.drop ((i + 1) * c)).take (n * c) := by
      rw [show (n + 1) * c = c + n * c by rw [Nat.add_mul]; omega, List.take_add, List.drop_drop, show i * c + c = (i + 1) * c by rw [Nat.add_mul]; omega]
    rw [e]
    exact FKs_append (h i (Nat.le_refl _) (by omega)) (repK_sound hc n (i + 1) (fun j h1 h2 => h j (by omega) (by omega)))

theorem flatK_sound : ∀ (n : Nat) {t : TypeId} {ks : List FK} {fuel : Nat} {cs : List Value} {x : DataW H × List MemPlace}, flatK P n t = some ks → DataW.trod enc P w base spare held fuel t cs = some x → ks.length = P.cellsOf t → FKs ks cs
  | 0, _, _, _, _, _, h, _, _ => by simp [flatK] at h
  | n + 1, t, ks, fuel, cs, x, h, hx, hlen => by
    simp only [flatK] at h
    split at h
    · rename_i k hu
      cases h
      obtain ⟨z, rfl, _, hw⟩ := DataW.trod_int hu hx
      simp only [FKs]
      exact ⟨_, _, rfl, ⟨z, rfl, hw⟩, rfl⟩
    · rename_i hu
      cases h
      obtain ⟨z, rfl, _⟩ := DataW.trod_bool hu hx
      simp only [FKs]
      exact ⟨_, _, rfl, ⟨z, rfl⟩, rfl⟩
    · rename_i fs hu
      obtain ⟨xs, m, _, _, hl, hxl, hf⟩ := DataW.trod_struct hu hx
      obtain ⟨k, hk, rfl⟩ := flatFs_sound (fun h1 h2 h3 => flatK_sound n h1 h2 h3) h (cs := cs) (fun f hfm => by
        obtain ⟨i, hi⟩ := List.mem_iff_getElem?.1 hfm
        have hi' : fs[i]? = some f := by simpa using hi
        have hlt : i < xs.length := by
          rw [hxl]
          rcases Nat.lt_or_ge i fs.size with h | h
          · exact h
          · rw [Array.getElem?_eq_none h] at hi'; cases hi'
        have := hf i f hi'
        rw [List.getElem?_eq_getElem hlt] at this
        exact ⟨_, this⟩)
      rw [hlen, ← hl] at hk
      simpa using hk
    · rename_i m e hu
      split at h
      · rename_i a ha
        split at h
        · rename_i hal
          cases h
          obtain ⟨xs, m', _, _, hl, hxl, hf⟩ := DataW.trod_array hu hx
          have := repK_sound hal (cs := cs) m 0 (fun j _ hj => by
            have hj' : j < m := by omega
            have h1 := hf j hj'
            rw [List.getElem?_eq_getElem (by omega)] at h1
            exact flatK_sound n ha h1 hal)
          have e1 : m * P.cellsOf e = cs.length := by rw [hl, ← hlen, repK_length, hal]
          rw [e1] at this
          simpa using this
        · cases h
      · cases h
    · cases h

/-- A flat argument: its cells. -/
theorem open_flat {r : Reach} {b0 : Nat} {n : Nat} {t : TypeId} {ks : List FK} {v : Value} {d : DataW H} {ps : List MemPlace} (hk : flatK P n t = some ks) (hl : ks.length = P.cellsOf t) (hv : Value.okWide P w r b0 t v) (h : DataW.Trod enc P w base spare held t v d ps) :
    ∃ cs : List Value, FKs ks cs ∧ (v = .agg cs.toArray ∨ (cs = [v] ∧ aggB P t = some false)) := by
  obtain ⟨fuel, hf⟩ := h
  have h1 := flatK_sound n hk hf hl
  cases n with
  | zero => simp [flatK] at hk
  | succ n =>
    refine ⟨_, h1, ?_⟩
    simp only [flatK] at hk
    split at hk
    · rename_i k hu
      obtain ⟨z, hz, _, _⟩ := DataW.trod_int hu hf
      right
      simp only [Value.okWide, hu, Cell.okWide] at hv
      refine ⟨?_, by simp [aggB, hu]⟩
      cases v <;> simp_all [Value.cells, Cell.ok]
    · rename_i hu
      obtain ⟨z, hz, _⟩ := DataW.trod_bool hu hf
      right
      simp only [Value.okWide, hu, Cell.okWide] at hv
      refine ⟨?_, by simp [aggB, hu]⟩
      cases v <;> simp_all [Value.cells, Cell.ok]
    · rename_i fs hu
      left
      simp only [Value.okWide, hu] at hv
      obtain ⟨cs, rfl, _⟩ := hv
      simp [Value.cells]
    · rename_i m e hu
      left
      simp only [Value.okWide, hu] at hv
      obtain ⟨cs, rfl, _⟩ := hv
      simp [Value.cells]
    · cases hk
end

end Go.Vse
