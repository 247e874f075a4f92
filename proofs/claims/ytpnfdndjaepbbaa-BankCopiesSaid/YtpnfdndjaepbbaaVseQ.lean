/- A region of the executor is right. -/
import Derived.Test.YtpnfdndjaepbbaaVseP
import Derived.TacticsIn
namespace Go.Vse
open Go

theorem Tr.get_nil (t : Nat) : Tr.get .nil t = .tup [] := rfl

theorem Tr.get_node (x : LV) (l r : Tr) (t : Nat) : Tr.get (.node x l r) t = if t = 0 then x else if t % 2 = 1 then l.get (t / 2) else r.get (t / 2 - 1) := by
  rw [Tr.get]
  by_cases h0 : t = 0
  · simp [h0]
  · by_cases h1 : t % 2 = 1
    · simp [h0, h1, show (t == 0) = false by simpa using h0]
    · have : t % 2 = 0 := by omega
      simp [h0, this, show (t == 0) = false by simpa using h0]

theorem Tr.get_set : ∀ (f : Nat) (tr : Tr) (t u : Nat) (v : LV), t + 1 < 2 ^ f → (Tr.set f tr t v).get u = if u = t then v else tr.get u
  | 0, _, t, _, _, h => by simp at h
  | f + 1, .nil, t, u, v, h => by
    rw [Nat.pow_succ] at h
    have ih := Tr.get_set f .nil
    rw [Tr.set]
    by_cases h0 : t = 0
    · subst h0
      simp only [beq_self_eq_true, cond_true, Tr.get_node, Tr.get_nil]
      split <;> simp
    · by_cases h1 : t % 2 = 1
      · simp only [h1, beq_self_eq_true, cond_true, show (t == 0) = false by simpa using h0, cond_false, Tr.get_node, Tr.get_nil, ih (t / 2) _ v (by omega)]
        by_cases e : u = t
        · subst e; simp [h0, h1]
        · rw [if_neg e]
          split
          · rfl
          · split
            · rw [if_neg (by omega)]
            · rfl
      · have h2 : (t % 2 == 1) = false := by simpa using h1
        simp only [h2, show (t == 0) = false by simpa using h0, cond_false, Tr.get_node, Tr.get_nil, ih (t / 2 - 1) _ v (by omega)]
        by_cases e : u = t
        · subst e; simp [h0, h1]
        · rw [if_neg e]
          split
          · rfl
          · split
            · rfl
            · rw [if_neg (by omega)]
  | f + 1, .node x l r, t, u, v, h => by
    rw [Nat.pow_succ] at h
    have ihl := Tr.get_set f l
    have ihr := Tr.get_set f r
    rw [Tr.set]
    by_cases h0 : t = 0
    · subst h0
      simp only [beq_self_eq_true, cond_true, Tr.get_node]
      split <;> simp_all
    · by_cases h1 : t % 2 = 1
      · simp only [h1, beq_self_eq_true, cond_true, show (t == 0) = false by simpa using h0, cond_false, Tr.get_node, ihl (t / 2) _ v (by omega)]
        by_cases e : u = t
        · subst e; simp [h0, h1]
        · rw [if_neg e]
          split
          · rfl
          · split
            · rw [if_neg (by omega)]
            · rfl
      · have h2 : (t % 2 == 1) = false := by simpa using h1
        simp only [h2, show (t == 0) = false by simpa using h0, cond_false, Tr.get_node, ihr (t / 2 - 1) _ v (by omega)]
        by_cases e : u = t
        · subst e; simp [h0, h1]
        · rw [if_neg e]
          split
          · rfl
          · split
            · rfl
            · rw [if_neg (by omega)]

theorem Tr.get_ofGo : ∀ (l : List LV) (i : Nat) (tr : Tr) (u : Nat), i + l.length ≤ 4000 → (Tr.ofGo l i tr).get u = if i ≤ u ∧ u < i + l.length then l.getD (u - i) (.tup []) else tr.get u
  | [], i, tr, u, _ => by simp only [Tr.ofGo, List.length_nil, Nat.add_zero]; rw [if_neg (by omega)]
  | x :: xs, i, tr, u, h => by
    simp only [List.length_cons] at h
    rw [Tr.ofGo, Tr.get_ofGo xs (i + 1) _ u (by omega), Tr.get_set 12 tr i u x (by omega)]
    simp only [List.length_cons]
    by_cases e : u = i
    · subst e
      rw [if_neg (by omega), if_pos rfl, if_pos (by omega)]
      simp
    · by_cases h1 : i + 1 ≤ u ∧ u < i + 1 + xs.length
      · rw [if_pos h1, if_pos (by omega)]
        obtain ⟨d, hd⟩ : ∃ d, u - i = d + 1 := ⟨u - i - 1, by omega⟩
        rw [hd, show u - (i + 1) = d by omega]
        simp
      · rw [if_neg h1, if_neg e, if_neg (by omega)]

theorem frOf_ofL {l : List LV} (h : l.length ≤ 4000) (t : Nat) : frOf (Tr.ofL l) t = l.getD t (.tup []) := by
  unfold frOf Tr.ofL
  rw [Tr.get_ofGo l 0 .nil t (by omega)]
  split
  · simp
  · rename_i hn
    rw [List.getD_eq_getElem?_getD, List.getElem?_eq_none (by omega)]; rfl

theorem frOf_put {fr : Tr} {d : Option Tmp} {v : LV} {n : Nat} (h : ∀ t, d = some t → t < n) (hn : n ≤ 4000) : frOf (putFr fr d v) = putL (frOf fr) d v := by
  cases d with
  | none => rfl
  | some t =>
    have ht := h t rfl
    funext u
    simp only [putFr, frOf, putL]
    exact Tr.get_set 12 fr t u v (Nat.lt_of_lt_of_le (Nat.succ_lt_succ (Nat.lt_of_lt_of_le ht hn)) (by decide))

section
variable [AbstRep]
deriving instance Inhabited for Ent

/-- What is known of one entry. -/
structure EntOK (P : Program) (ops : Array Oper) (o : Oper) (fr : Tmp → LV) (m : Mem) (N : Nat) (e : Ent) : Prop where
  slots : ∀ t, (o.dst = some t ∨ t ∈ looks o ∨ t ∈ guardSlot ops o) → t < N
  says : guardSays ops o fr e.run
  skip : e.run = false → e.v = .tup [] ∧ e.c = []
  cf : ∀ p ∈ e.c, p.2.isFree = false ∧ p.2.isRo = false
  spec : e.run = true → ∀ M : Mem, (∀ k ∈ e.r, M k = m k) → OSpec P o fr M e.v e.c
end

section
variable [AbstRep]
variable {P : Program} {opq : Ctrs} {run : Tgt → List LV → List Tok → List Ans → FOut}

theorem entX_sound (hct : CtOK P opq) (hr : RunOK P run) {ops : Array Oper} {o : Oper} {st st' : St} {e : Ent} {an an' : List Ans} {ob : List Prop} (h : entX P opq run ops o st an = some (e, st', ob, an')) (ho : AllP ob) :
    EntOK P ops o (frOf st.fr) (memOf st.m) st.n e ∧ st'.n = st.n ∧ frOf st'.fr = putL (frOf st.fr) o.dst e.v ∧ memOf st'.m = (memOf st.m).sets e.c ∧ st'.dm = st.dm ∧ st'.wr = e.c.map (·.1) ++ st.wr := by
  unfold entX at h
  simp only at h
  split at h
  · rename_i hd hl
    have hn : st.n ≤ 4000 := by
      simp only [Bool.and_eq_true, decide_eq_true_eq] at hd
      exact hd.2
    have hdst : ∀ t, o.dst = some t → t < st.n := by
      intro t ht
      rw [ht] at hd
      simp only [Bool.and_eq_true, decide_eq_true_eq] at hd
      exact hd.1
    have hslots : ∀ t, (o.dst = some t ∨ t ∈ looks o ∨ t ∈ guardSlot ops o) → t < st.n := by
      intro t ht
      rcases ht with ht | ht
      · exact hdst t ht
      · have := List.all_eq_true.1 hl t (by simpa using ht)
        simpa using this
    have go : ∀ {an : List Ans} {e st' ob an'}, (match stepX P opq run o st.fr st.m st.m.length an with
        | none => none
        | some (v, c, r, ob, an) => if !(c.all fun p => !p.2.isFree && !p.2.isRo) then none else some (({ run := true, v := v, c := c, r := r } : Ent), ({ st with fr := putFr st.fr o.dst v, m := setsTok st.m c, wr := (c.map (·.1)) ++ st.wr } : St), ob, an)) = some (e, st', ob, an') → AllP ob → guardSays ops o (frOf st.fr) true →
        EntOK P ops o (frOf st.fr) (memOf st.m) st.n e ∧ st'.n = st.n ∧ frOf st'.fr = putL (frOf st.fr) o.dst e.v ∧ memOf st'.m = (memOf st.m).sets e.c ∧ st'.dm = st.dm ∧ st'.wr = e.c.map (·.1) ++ st.wr := by
      intro an e st' ob an' h ho hg
      split at h
      · cases h
      · rename_i v c r ob1 an1 hs
        split at h
        · cases h
        · rename_i hc
          cases h
          simp only [Bool.not_eq_true', Bool.not_eq_false, List.all_eq_true, Bool.and_eq_true] at hc
          exact ⟨⟨hslots, hg, by simp, fun p hp => hc p hp, fun _ => stepX_sound hct hr hs ho⟩, rfl, frOf_put hdst hn, memOf_sets _ _, rfl, rfl⟩
    split at h
    · rename_i hg
      exact go h ho (by unfold guardSays; rw [hg])
    · rename_i g want hg
      split at h
      · cases h
      · rename_i t ht
        split at h
        · split at h
          · rename_i x hx
            split at h
            · rename_i r ob1 an1 hask
              split at h
              · rename_i e1 st1 ob2 an2 h2
                cases h
                rw [AllP_append] at ho
                have hy : yieldS (frOf st.fr t) = some (some x) := by rw [hx]; rfl
                have hxw := askB_sound hask ho.1
                split at h2
                · rename_i hrt
                  exact go h2 ho.2 (by unfold guardSays; rw [hg]; exact ⟨t, ht, some x, hy, by rw [hxw.1 hrt]; simp⟩)
                · rename_i hrt
                  cases h2
                  refine ⟨⟨hslots, ?_, fun _ => ⟨rfl, rfl⟩, by simp, fun h => by simp at h⟩, rfl, frOf_put hdst hn, rfl, rfl, rfl⟩
                  unfold guardSays; rw [hg]
                  refine ⟨t, ht, some x, hy, ?_⟩
                  have : x ≠ want := fun e => hrt (hxw.2 e)
                  cases x <;> cases want <;> first | rfl | exact absurd rfl this
              · cases h
            · cases h
          · cases h
        · rename_i y hy
          split at h
          · rename_i hyw
            exact go h ho (by unfold guardSays; rw [hg]; exact ⟨t, ht, y, yieldOf_S hy, hyw.symm⟩)
          · rename_i hyw
            cases h
            refine ⟨⟨hslots, ?_, fun _ => ⟨rfl, rfl⟩, by simp, fun h => by simp at h⟩, rfl, frOf_put hdst hn, rfl, rfl, rfl⟩
            unfold guardSays; rw [hg]
            refine ⟨t, ht, y, yieldOf_S hy, ?_⟩
            simp only [Bool.not_eq_true] at hyw
            exact hyw.symm
  · cases h

def stepS (s : (Tmp → LV) × Mem) (p : Oper × Ent) : (Tmp → LV) × Mem := (putL s.1 p.1.dst p.2.v, s.2.sets p.2.c)

theorem entsX_sound (hct : CtOK P opq) (hr : RunOK P run) {ops : Array Oper} : ∀ {l : List Oper} {st st' : St} {es : List Ent} {an an' : List Ans} {ob : List Prop}, entsX P opq run ops l st an = some (es, st', ob, an') → AllP ob →
    es.length = l.length ∧ st'.n = st.n ∧ (frOf st'.fr, memOf st'.m) = (l.zip es).foldl stepS (frOf st.fr, memOf st.m) ∧ st'.dm = st.dm ∧
    (∀ k ∈ st.wr, k ∈ st'.wr) ∧ (∀ e ∈ es, ∀ p ∈ e.c, p.1 ∈ st'.wr) ∧
    ∀ i o e, l[i]? = some o → es[i]? = some e → EntOK P ops o (((l.zip es).take i).foldl stepS (frOf st.fr, memOf st.m)).1 (((l.zip es).take i).foldl stepS (frOf st.fr, memOf st.m)).2 st.n e
  | [], st, st', es, an, an', ob, h, _ => by
    simp only [entsX] at h; cases h
    simp
  | o :: l, st, st', es, an, an', ob, h, ho => by
    simp only [entsX] at h
    split at h
    · cases h
    · rename_i e st1 ob1 an1 h1
      split at h
      · cases h
      · rename_i es2 st2 ob2 an2 h2
        cases h
        rw [AllP_append] at ho
        obtain ⟨he, hl1, hf1, hm1, hd1, hw1⟩ := entX_sound hct hr h1 ho.1
        obtain ⟨g1, g2, g3, g4, g5, g6, g7⟩ := entsX_sound hct hr h2 ho.2
        have hstep : stepS (frOf st.fr, memOf st.m) (o, e) = (frOf st1.fr, memOf st1.m) := by simp only [stepS, hf1, hm1]
        refine ⟨by simp [g1], g2.trans hl1, ?_, g4.trans hd1, fun k hk => g5 k (by rw [hw1]; simp [hk]), ?_, ?_⟩
        · simp only [List.zip_cons_cons, List.foldl_cons, hstep]; exact g3
        · intro e' he' p hp
          rcases List.mem_cons.1 he' with e1 | e1
          · subst e1; exact g5 _ (by rw [hw1]; exact List.mem_append.2 (.inl (List.mem_map.2 ⟨p, hp, rfl⟩)))
          · exact g6 e' e1 p hp
        · intro i o' e' hi he'
          cases i with
          | zero =>
            simp at hi he'; subst hi; subst he'
            simpa using he
          | succ i =>
            simp only [List.getElem?_cons_succ] at hi he'
            simp only [List.zip_cons_cons, List.take_succ_cons, List.foldl_cons, hstep]
            rw [← hl1]
            exact g7 i o' e' hi he'

theorem foldS_mono {l : List (Oper × Ent)} : ∀ {s : (Tmp → LV) × Mem}, (∀ p ∈ l, ∀ q ∈ p.2.c, q.2.isFree = false ∧ q.2.isRo = false) →
    (∀ k, al s.2 k → al (l.foldl stepS s).2 k) ∧ (∀ k, (∀ p ∈ l, ∀ q ∈ p.2.c, q.1 ≠ k) → (l.foldl stepS s).2 k = s.2 k) ∧ (∀ k, ((l.foldl stepS s).2 k).isRo = true → (s.2 k).isRo = true) := by
  induction l with
  | nil => intro s _; exact ⟨fun _ h => h, fun _ _ => rfl, fun _ h => h⟩
  | cons p l ih =>
    intro s h
    obtain ⟨h1, h2, h3⟩ := ih (s := stepS s p) (fun q hq => h q (List.mem_cons_of_mem _ hq))
    have hp := h p (by simp)
    refine ⟨fun k hk => h1 k (al_sets (fun q hq => (hp q hq).1) hk), fun k hk => ?_, fun k hk => ?_⟩
    · simp only [List.foldl_cons]
      rw [h2 k (fun q hq => hk q (List.mem_cons_of_mem _ hq))]
      exact Mem.sets_other _ _ (fun q hq => hk p (by simp) q hq)
    · have := h3 k hk
      simp only [stepS] at this
      by_cases hin : ∃ q ∈ p.2.c, q.1 = k
      · rw [sets_ro _ _ _ (fun q hq => (hp q hq).2) hin] at this; cases this
      · rw [Mem.sets_other _ _ (fun q hq e => hin ⟨q, hq, e⟩)] at this; exact this

/-- The region in the text's order. -/
theorem entsX_text (hct : CtOK P opq) (hr : RunOK P run) {ops : Array Oper} {F : Fence} (hF : okF F) {w0 : World} {pr : Nat → Prop} {Q : Exit → Act → World → Prop} : ∀ {l : List Oper} {st st' : St} {es : List Ent} {an an' : List Ans} {ob : List Prop},
    entsX P opq run ops l st an = some (es, st', ob, an') → AllP ob → ∀ {ρ : Env} {w : World} {a : Act}, Sim w0 pr ρ (memOf st.m) w → FrR ρ (memOf st.m) st.n (frOf st.fr) a →
    (∀ ρ' a' w', (∀ k, al (memOf st.m) k → ρ' k = ρ k) → a'.defers = a.defers → Sim w0 pr ρ' (memOf st'.m) w' → FrR ρ' (memOf st'.m) st'.n (frOf st'.fr) a' → Q .normal a' w') →
    wpListIn F 0 P ops Q l a w
  | [], st, st', es, an, an', ob, h, _, ρ, w, a, hs, hf, hQ => by
    simp only [entsX] at h; cases h
    exact hQ ρ a w (fun _ _ => rfl) rfl hs hf
  | o :: l, st, st', es, an, an', ob, h, ho, ρ, w, a, hs, hf, hQ => by
    simp only [entsX] at h
    split at h
    · cases h
    · rename_i e st1 ob1 an1 h1
      split at h
      · cases h
      · rename_i es2 st2 ob2 an2 h2
        cases h
        rw [AllP_append] at ho
        obtain ⟨he, hl1, hf1, hm1, hd1, hw1⟩ := entX_sound hct hr h1 ho.1
        have hcf : ∀ p ∈ e.c, p.2.isFree = false := fun p hp => (he.cf p hp).1
        have hal : ∀ k, al (memOf st.m) k → al ((memOf st.m).sets e.c) k := fun k hk => al_sets hcf hk
        have hdt : ∀ t, o.dst = some t → t < st.n := fun t ht => he.slots t (.inl ht)
        have hgw : Region.wanted o (yielded ops a.tmps) = e.run :=
          wanted_says he.says (fun t ht => (hf.2 t (he.slots t (.inr (.inr ht)))).1) (fun t ht => by rw [hf.1]; exact he.slots t (.inr (.inr ht)))
        simp only [wpListIn, hgw]
        cases hrn : e.run with
        | false =>
          obtain ⟨hv, hc⟩ := he.skip hrn
          simp only [Bool.false_eq_true, if_false]
          refine ⟨fun f _ => okF_fn hF f, ?_⟩
          have hv0 : VR ρ (.tup []) undef := by simp only [VR]; exact ⟨[], rfl, by simp [VRs]⟩
          refine entsX_text hct hr hF (w0 := w0) (pr := pr) h2 ho.2 (ρ := ρ) ?_ ?_ ?_
          · rw [hm1, hc]; exact hs
          · rw [hm1, hf1, hl1, hc, hv]
            exact hf.put (fun _ _ => rfl) (fun _ h => h) hdt hv0 (by simp [LV.wf, wfL])
          · intro ρ' a' w' g1 g2 g3 g4
            refine hQ ρ' a' w' (fun k hk => g1 k (by rw [hm1]; exact hal k hk)) (g2.trans (by cases o.dst <;> rfl)) g3 g4
        | true =>
          simp only [if_true]
          refine he.spec hrn _ (fun _ _ => rfl) F hF w0 pr ρ w a _ Q hs (hf.look (fun t ht => he.slots t (.inr (.inl ht)))) ?_
          intro v' ρ' w' hag hv hvw hs'
          refine entsX_text hct hr hF (w0 := w0) (pr := pr) h2 ho.2 (ρ := ρ') ?_ ?_ ?_
          · rw [hm1]; exact hs'
          · rw [hm1, hf1, hl1]
            exact hf.put hag hal hdt hv hvw
          · intro ρ'' a' w'' g1 g2 g3 g4
            exact hQ ρ'' a' w'' (fun k hk => (g1 k (by rw [hm1]; exact hal k hk)).trans (hag k hk)) (g2.trans (by cases o.dst <;> rfl)) g3 g4

theorem indepB_sound {ops : Array Oper} {oi oj : Oper} {ei ej : Ent} (h : indepB ops oi oj ei ej = true) : Indep ops oi oj ei ej := by
  unfold indepB at h
  simp only [Bool.and_eq_true] at h
  obtain ⟨⟨⟨h1, h2⟩, h3⟩, h4⟩ := h
  refine ⟨?_, ?_, ?_, ?_⟩
  · intro t ht
    rw [ht] at h1
    simp only [Bool.and_eq_true, Bool.not_eq_true', List.contains_eq_mem, decide_eq_false_iff_not] at h1
    refine ⟨fun e => ?_, h1.1.2, h1.2⟩
    rw [e] at h1
    simp at h1
  · intro t ht
    rw [ht] at h2
    simpa using h2
  · intro p hp
    have := List.all_eq_true.1 h3 p hp
    simp only [Bool.and_eq_true, List.all_eq_true, Bool.not_eq_true', List.contains_eq_mem, decide_eq_false_iff_not, bne_iff_ne] at this
    exact this
  · intro q hq
    have := List.all_eq_true.1 h4 q hq
    simpa using this

theorem StS_fold {ops : Array Oper} {es : List Ent} (hl : es.length = ops.size) {fr : Tmp → LV} {m : Mem} : ∀ n, n ≤ ops.size →
    StS ops (fun i => es.getD i default) fr m (fun _ => true) n = ((ops.toList.zip es).take n).foldl stepS (fr, m)
  | 0, _ => rfl
  | n + 1, hn => by
    have ih := StS_fold hl (fr := fr) (m := m) n (by omega)
    have hz : (ops.toList.zip es)[n]? = some (ops[n], es[n]'(by omega)) := by
      rw [List.getElem?_eq_getElem (by simp; omega)]
      simp
    rw [List.take_add_one, List.foldl_append, hz, ← ih]
    simp only [Option.toList_some, List.foldl_cons, List.foldl_nil, stepS, StS, foldF, foldM, if_true]
    have e1 : ops[n]? = some ops[n] := by simp
    have e2 : es.getD n default = es[n]'(by omega) := by simp [List.getD_eq_getElem?_getD, List.getElem?_eq_getElem (show n < es.length by omega)]
    rw [e2, e1]; rfl

omit [AbstRep] in
theorem zipIdx_all {α : Type} {l : List α} {p : α × Nat → Bool} (h : l.zipIdx.all p = true) : ∀ i x, l[i]? = some x → p (x, i) = true := by
  intro i x hx
  refine List.all_eq_true.1 h (x, i) ?_
  rw [List.mem_zipIdx_iff_getElem?]
  simpa using hx

theorem regX_sound (hct : CtOK P opq) (hr : RunOK P run) {id : Nat} {ops : Array Oper} {draw : Bool} {st st' : St} {an an' : List Ans} {ob : List Prop} (h : regX P opq run ops draw st an = some (st', ob, an')) (ho : AllP ob) {rd : Option Nat} : CodeOK P rd (.region id ops draw) st .normal st' := by
  unfold regX at h
  split at h
  · cases h
  rename_i es st1 ob1 an1 hents
  obtain ⟨hc, h⟩ := ite_someB h
  cases h
  obtain ⟨g1, g2, g3, g4, g5, g6, g7⟩ := entsX_sound hct hr hents ho
  have hz : ∀ p ∈ ops.toList.zip es, ∀ q ∈ p.2.c, q.2.isFree = false ∧ q.2.isRo = false := by
    intro p hp q hq
    obtain ⟨i, hi⟩ := List.mem_iff_getElem?.1 hp
    rw [List.getElem?_zip_eq_some] at hi
    exact (g7 i _ _ hi.1 hi.2).cf q hq
  obtain ⟨f1, f2, f3⟩ := foldS_mono (s := (frOf st.fr, memOf st.m)) hz
  rw [← g3] at f1 f2 f3
  refine ⟨f1, g2, g5, fun k _ hk => f2 k (fun p hp q hq e => hk (e ▸ g6 p.2 (List.of_mem_zip hp).2 q hq)), f3, ?_⟩
  intro F hF w0 pr ρ w a Q hro hs hf hd hdal hl hQ
  have hfin : ∀ ρ' a' w', (∀ k, al (memOf st.m) k → ρ' k = ρ k) → a'.defers = a.defers → Sim w0 pr ρ' (memOf st'.m) w' → FrR ρ' (memOf st'.m) st'.n (frOf st'.fr) a' → Q .normal a' w' := by
    intro ρ' a' w' h1 h2 h3 h4
    refine hQ ρ' a' w' h1 h3 h4 ?_ (by rw [g4]; exact fun d hd => f1 d (hdal d hd))
    rw [h2, hd, g4]
    refine List.map_congr_left (fun d hd => ?_)
    rw [h1 d (hdal d hd)]
  cases draw with
  | false => exact wpIn_region_list (entsX_text hct hr hF hents ho hs hf hfin)
  | true =>
    simp only [Bool.not_true, Bool.false_or, Bool.and_eq_true] at hc
    obtain ⟨hm, hdr⟩ := hc
    unfold drawB at hdr
    simp only [Bool.and_eq_true] at hdr
    obtain ⟨⟨he, hb⟩, hi⟩ := hdr
    generalize hT : befT ops.toList [] = T at hb hi
    have hlen : es.length = ops.size := by simpa using g1
    have hSt : ∀ n, n ≤ ops.size → StS ops (fun i => es.getD i default) (frOf st.fr) (memOf st.m) (fun _ => true) n = ((ops.toList.zip es).take n).foldl stepS (frOf st.fr, memOf st.m) := StS_fold hlen
    have hget : ∀ i o, ops[i]? = some o → i < ops.size ∧ es[i]? = some (es.getD i default) ∧ ops.toList[i]? = some o := by
      intro i o ho
      have hi : i < ops.size := by
        rcases Nat.lt_or_ge i ops.size with h | h
        · exact h
        · rw [Array.getElem?_eq_none h] at ho; cases ho
      refine ⟨hi, ?_, by simpa using ho⟩
      rw [List.getD_eq_getElem?_getD, List.getElem?_eq_getElem (by omega)]; rfl
    have hEnt : ∀ i o, ops[i]? = some o → EntOK P ops o (StS ops (fun i => es.getD i default) (frOf st.fr) (memOf st.m) (fun _ => true) i).1 (StS ops (fun i => es.getD i default) (frOf st.fr) (memOf st.m) (fun _ => true) i).2 st.n (es.getD i default) := by
      intro i o ho
      obtain ⟨h1, h2, h3⟩ := hget i o ho
      rw [hSt i (by omega)]
      exact g7 i o _ h3 h2
    have hnone : StS ops (fun i => es.getD i default) (frOf st.fr) (memOf st.m) (fun j => (Array.replicate ops.size false).getD j false) ops.size = (frOf st.fr, memOf st.m) := by
      have hz : ∀ j, (Array.replicate ops.size false).getD j false = false := by
        intro j
        simp only [Array.getD_eq_getD_getElem?, Array.getElem?_replicate]
        split <;> rfl
      unfold StS
      have e1 : ∀ n, foldF (fun j => (ops[j]?).bind (·.dst)) (fun j => (es.getD j default).v) (fun j => (Array.replicate ops.size false).getD j false) n (frOf st.fr) = frOf st.fr := by
        intro n
        induction n with
        | zero => rfl
        | succ n ih => rw [foldF, if_neg (by rw [hz]; simp), ih]
      have e2 : ∀ n, foldM (fun j => (es.getD j default).c) (fun j => (Array.replicate ops.size false).getD j false) n (memOf st.m) = memOf st.m := by
        intro n
        induction n with
        | zero => rfl
        | succ n ih => rw [foldM, if_neg (by rw [hz]; simp), ih]
      rw [e1, e2]
    have hall : StS ops (fun i => es.getD i default) (frOf st.fr) (memOf st.m) (fun _ => true) ops.size = (frOf st'.fr, memOf st'.m) := by
      rw [hSt _ (Nat.le_refl _), g3, List.take_of_length_le (by rw [List.length_zip]; exact Nat.le_trans (Nat.min_le_left _ _) (by simp))]
    refine wpIn_region_any hm ?_
    refine any_order (P := P) (ops := ops) (e := fun i => es.getD i default) (bf := fun i j => decide (j < i) && (T.getD i 0).testBit j) (fr0 := frOf st.fr) (m0 := memOf st.m) (N := st.n)
      ?_ ?_ ?_ (fun i o t ho ht => (hEnt i o ho).slots t ht) (fun i o ho => (hEnt i o ho).says) (fun i o ho => (hEnt i o ho).skip) (fun i o ho p hp => ((hEnt i o ho).cf p hp).1) (fun i o ho => (hEnt i o ho).spec) hF (w0 := w0) (pr := pr) (Q := Q)
      ops.size _ ρ a _ (by simp) ?_ ?_ ?_ ?_ ?_ ?_ ?_
    · intro i o hio ed hed hbd
      have := zipIdx_all he i o (hget i o hio).2.2
      rw [Array.all_eq_true'] at this
      have := this ed hed
      simpa [hbd] using this
    · intro i o hio j hj
      simp only [Bool.and_eq_true, decide_eq_true_eq] at hj
      have := zipIdx_all hb i o (hget i o hio).2.2
      have := List.all_eq_true.1 this j (by simpa using hj.1)
      simp only [hj.2, Bool.not_true, Bool.false_or] at this
      rw [Array.any_eq_true'] at this
      obtain ⟨ed, hed, h2⟩ := this
      simp only [Bool.and_eq_true, Bool.or_eq_true, beq_iff_eq, decide_eq_true_eq] at h2
      refine ⟨ed, hed, h2.1, ?_⟩
      rcases h2.2 with h | h
      · exact .inl h.symm
      · exact .inr (by simp only [Bool.and_eq_true, decide_eq_true_eq]; exact h)
    · intro i j oi oj hij hoi hoj hbf
      obtain ⟨a1, a2, a3⟩ := hget i oi hoi
      obtain ⟨b1, b2, b3⟩ := hget j oj hoj
      have hzi : (ops.toList.zip es)[i]? = some (oi, es.getD i default) := List.getElem?_zip_eq_some.2 ⟨a3, a2⟩
      have hzj : (ops.toList.zip es)[j]? = some (oj, es.getD j default) := List.getElem?_zip_eq_some.2 ⟨b3, b2⟩
      have h1 := zipIdx_all hi i _ hzi
      have h2 := zipIdx_all h1 j _ hzj
      simp only [hij, decide_true, Bool.not_true, Bool.false_or, Bool.or_eq_true] at h2
      simp only [hij, decide_true, Bool.true_and] at hbf
      rw [hbf] at h2
      rcases h2 with h | h
      · cases h
      · have := indepB_sound h
        simpa using this
    · exact Nat.le_trans (List.length_filter_le _ _) (Nat.le_of_eq (by simp))
    · intro i o hio hl
      simp only [Array.getD_eq_getD_getElem?, Array.getElem?_replicate] at hl
      split at hl <;> simp at hl
    · intro i hi
      simp only [Array.getD_eq_getD_getElem?, Array.getElem?_replicate]
      split <;> rfl
    · rw [hnone]; exact hs.drew _
    · rw [hnone]; exact hf
    · rw [hnone]; exact fun _ h => h
    · intro ρ' a' w' h1 h2 h3 h4
      rw [hall] at h3 h4
      exact hfin ρ' a' w' h1 h2 h4 (by rw [g2]; exact h3)
end

end Go.Vse
