/- A flat slice that comes in, opened: its block as a flat token. -/
import Derived.Test.YtpnfdndjaepbbaaVse2C
import Derived.Deep.Slices
namespace Go.Vse
open Go Go.ChangeShapes Go.WideShapes Go.RowKit

def scOfV : Value → Sc
  | .int k n => .i k n
  | .bool b => .b b
  | x => .v x
theorem scOfV_val (v : Value) : (scOfV v).val = v := by cases v <;> rfl
def scsOf (vs : List Value) : List Sc := vs.map scOfV
theorem scsOf_val (vs : List Value) : (scsOf vs).map Sc.val = vs := by
  simp only [scsOf, List.map_map]
  conv => rhs; rw [← List.map_id vs]
  exact List.map_congr_left (fun v _ => scOfV_val v)
theorem cell_some {w : World} {a : Addr} {v : Value} (h : w.cell? a = some v) : ∃ C T fz, w.heap[a.block]? = some (.cells C T fz) ∧ a.spot = none ∧ C.toList[a.off]? = some v := by
  unfold World.cell? at h
  split at h
  · rename_i c T fz hc
    split at h
    · cases h
    · rename_i hs
      exact ⟨c, T, fz, hc, by cases hh : a.spot <;> simp_all, by simpa using h⟩
  · cases h

section
variable {H : Type} {enc : TypeId × Value → H} {P : Program} {w : World} {base : Nat}
variable [AbstRep]

/-- A slice of flat elements: nil, or a flat token over its block. -/
theorem open_flatS {r : Reach} {b0 : Nat} {n : Nat} {t e : TypeId} {ks : List FK} {c : Nat} {v : Value} {d : DataW H} {ps : List MemPlace} (ht : P.underlying t = some (.slice e)) (hk : flatK P n e = some ks) (hc : P.cellsOf e = c) (hl : ks.length = c) (hc0 : 0 < c)
    (hv : Value.okWide P w r b0 t v) (h : DataW.Trod enc P w base (fun _ => true) true t v d ps) :
    v = .slice none 0 0 ∨ ∃ (b sz len : Nat) (pre fs : List Value), b < w.heap.size ∧ (∀ (ρ : Env) k, ρ k = (b, sz) → VR ρ (.ss k pre.length len len c) v) ∧
      (∀ ρ : Env, TR ρ sz (.fl false e (scsOf (pre ++ fs))) (w.heap[b]?)) ∧ fs.length = len * c ∧ FKs (repK ks len) fs := by
  subst hc
  obtain ⟨a0, len0, cap0, rfl⟩ := okWide_slice ht hv
  obtain ⟨fuel, hf⟩ := h
  rcases Go.Deep.open_slice ht hf with ⟨hcs, _⟩ | ⟨a, len, cap, m, n', D, Pl, hcs, hb, hle, hmax, hm, _, hx⟩
  · left; simpa [Value.cells] using hcs
  right
  have e1 : a0 = some a ∧ len0 = len ∧ cap0 = cap := by simpa [Value.cells] using hcs
  obtain ⟨rfl, rfl, rfl⟩ := e1
  simp only [if_true] at hm
  subst hm
  have hok : a.spot = none ∧ ∃ C T fz, w.heap[a.block]? = some (.cells C T fz) := by
    simp only [Value.okWide, ht, Cell.okWide, Cell.ok, World.has] at hv
    obtain ⟨_, _, _, h1, row, cells, h2, _⟩ := hv
    refine ⟨h1, ?_⟩
    unfold World.shape? at h2
    split at h2
    · rename_i C T fz hC; exact ⟨C, T, fz, hC⟩
    · cases h2
  obtain ⟨hsp, C, T, fz, hC⟩ := hok
  have hblt : a.block < w.heap.size := (Array.getElem?_eq_some_iff.1 hC).1
  obtain ⟨ab, ao, asp⟩ := a
  simp only at hsp hC hblt
  subst hsp
  generalize hcc : P.cellsOf e = c at *
  have hcell : ∀ i, i < m → ∀ j, j < c → ∃ cs', (∃ y, DataW.trod enc P w base (fun _ => true) true n' e cs' = some y) ∧ cs'.length = c ∧ ∀ j, j < c → C.toList[ao + i * c + j]? = cs'[j]? := by
    intro i hi j hj
    obtain ⟨cs', h1, h2⟩ := hx i hi
    obtain ⟨_, hlen, hg⟩ := World.cells?_some h1
    refine ⟨cs', ⟨_, h2⟩, hlen, fun j hj => ?_⟩
    have := hg j hj
    rw [Go.Deep.add_add, add_off] at this
    have hlt : j < cs'.length := by omega
    rw [List.getElem?_eq_getElem hlt] at this ⊢
    obtain ⟨C', T', fz', hC', _, hv'⟩ := cell_some this
    simp only at hC'
    rw [hC] at hC'; cases hC'
    rw [Nat.add_assoc]; exact hv'
  by_cases hcap : m = 0
  · subst hcap
    have hl0 : len0 = 0 := by omega
    subst hl0
    refine ⟨ab, C.size, 0, [], [], hblt, fun ρ k hk => ?_, fun ρ => ?_, by simp, by simp [repK, FKs]⟩
    · simp only [VR, SlR, hk]
      exact ⟨ao, 0, rfl, Nat.le_refl _, Nat.le_refl _, .inr rfl⟩
    · exact ⟨C.toList, T, fz, by simpa [scsOf] using hC, by simp [scsOf], fun h => by cases h⟩
  · have hbound : ao + m * c ≤ C.toList.length := by
      obtain ⟨cs', _, hlen, hg⟩ := hcell (m - 1) (by omega) 0 hc0
      have := hg (c - 1) (by omega)
      rw [List.getElem?_eq_getElem (show c - 1 < cs'.length by omega)] at this
      have hlt := (List.getElem?_eq_some_iff.1 this).1
      have : m * c = (m - 1) * c + c := by
        obtain ⟨q, rfl⟩ : ∃ q, m = q + 1 := ⟨m - 1, by omega⟩
        rw [Nat.add_mul]; simp
      omega
    have hlm : len0 * c ≤ m * c := Nat.mul_le_mul_right _ hle
    refine ⟨ab, C.size, len0, C.toList.take ao, (C.toList.drop ao).take (len0 * c), hblt, fun ρ k hk => ?_, fun ρ => ?_, ?_, ?_⟩
    · have : (C.toList.take ao).length = ao := by simp at hbound ⊢; omega
      rw [this]
      simp only [VR, SlR, hk]
      refine ⟨ao, m, rfl, Nat.le_refl _, hle, .inl ⟨rfl, ?_⟩⟩
      simpa using hbound
    · refine ⟨(C.toList.drop ao).drop (len0 * c), T, fz, ?_, ?_, fun h => by cases h⟩
      · rw [scsOf_val, List.append_assoc, List.take_append_drop, List.take_append_drop]; exact hC
      · rw [scsOf_val, List.append_assoc, List.take_append_drop, List.take_append_drop]; simp
    · simp at hbound ⊢; omega
    · have := repK_sound (a := ks) (c := c) hl (cs := C.toList.drop ao) len0 0 (fun j _ hj => by
        obtain ⟨cs', ⟨y, hy⟩, hlen, hg⟩ := hcell j (by omega) 0 hc0
        have e : ((C.toList.drop ao).drop (j * c)).take c = cs' := by
          apply List.ext_getElem?
          intro i
          by_cases hi : i < c
          · rw [List.getElem?_take_of_lt hi, List.getElem?_drop, List.getElem?_drop, ← hg i hi]; congr 1; omega
          · rw [List.getElem?_eq_none (by simp; omega), List.getElem?_eq_none (by omega)]
        rw [e]
        exact flatK_sound n hk hy (by omega))
      simpa using this
end

def wfI (xs : List Int) : Prop := ∀ x ∈ xs, -9223372036854775808 ≤ x ∧ x ≤ 9223372036854775807
def ints (xs : List Int) : List Sc := xs.map (Sc.i .i64)
theorem ints_length (xs : List Int) : (ints xs).length = xs.length := by simp [ints]
def allI (ks : List FK) : Bool := ks.all fun | .int .i64 => true | _ => false
theorem repK_all {ks : List FK} (h : allI ks = true) : ∀ n, allI (repK ks n) = true
  | 0 => rfl
  | n + 1 => by simp only [repK, allI, List.all_append] at *; rw [h]; exact repK_all (by simpa [allI] using h) n
theorem FKs_ints : ∀ {ks : List FK} {vs : List Value}, allI ks = true → FKs ks vs → ∃ xs, scsOf vs = ints xs ∧ xs.length = vs.length ∧ wfI xs
  | [], vs, _, h => by simp only [FKs] at h; subst h; exact ⟨[], rfl, rfl, fun _ h => by simp at h⟩
  | k :: ks, vs, ha, h => by
    simp only [FKs] at h
    obtain ⟨v, r, rfl, h1, h2⟩ := h
    simp only [allI, List.all_cons, Bool.and_eq_true] at ha
    obtain ⟨xs, e1, e2, e3⟩ := FKs_ints ha.2 h2
    cases k with
    | int k =>
      cases k <;> first | (simp at ha; done) | skip
      simp only [FK.ok] at h1
      obtain ⟨z, rfl, hw⟩ := h1
      refine ⟨z :: xs, ?_, by simp [e2], fun x hx => ?_⟩
      · simp only [scsOf, List.map_cons, scOfV, ints] at *
        rw [e1]
      · rcases List.mem_cons.1 hx with e | e
        · subst e; simp [Lit.wf, IntKind.min, IntKind.max, IntKind.bits, IntKind.signed] at hw; omega
        · exact e3 x e
    | bool => simp at ha
end Go.Vse
