/- Loops whose rounds are not counted by the executor: states seen in another way; a law of induction. -/
import Derived.Test.YtpnfdndjaepbbaaVse2A
namespace Go.Vse
open Go

/-- A loop's code, by its way through a function's body. -/
def Code.sub : Code → List Nat → Code
  | c, [] => c
  | .seq a _, 0 :: r => Code.sub a r
  | .seq _ b, _ :: r => Code.sub b r
  | .cond _ a _, 0 :: r => Code.sub a r
  | .cond _ _ b, _ :: r => Code.sub b r
  | .block _ a, _ :: r => Code.sub a r
  | .loop a, _ :: r => Code.sub a r
  | .scope a, _ :: r => Code.sub a r
  | .rangeFunc _ _ _ b, _ :: r => Code.sub b r
  | c, _ => c
def bodyOf (P : Program) (f : FuncId) : Code := ((P.funcs[f]?).bind (·.body)).getD .skip
/-- The body of the loop at a way. -/
def lpAt (P : Program) (f : FuncId) (way : List Nat) : Code := Code.sub (bodyOf P f) (way ++ [0])
/-- A frame of which some slots are known. -/
def Tr.but (n : Nat) : List (Nat × LV) → Tr
  | [] => Tr.ofL (List.replicate n .any)
  | (t, x) :: r => Tr.set 12 (Tr.but n r) t x

def frW (ι : Nat → Option Nat) (f1 f2 : Tr) : Nat → Option (List Prop)
  | 0 => some []
  | n + 1 =>
    match frW ι f1 f2 n, lvW ι (f1.get n) (f2.get n) with
    | some a, some b => some (a ++ b)
    | _, _ => none
theorem frW_get {ι : Nat → Option Nat} {f1 f2 : Tr} : ∀ {n : Nat} {r : List Prop}, frW ι f1 f2 n = some r → AllP r → ∀ t, t < n → ∃ r', lvW ι (f1.get t) (f2.get t) = some r' ∧ AllP r'
  | 0, _, _, _, t, ht => absurd ht (by omega)
  | n + 1, r, h, ho, t, ht => by
    simp only [frW] at h
    split at h
    · rename_i a b h1 h2
      cases h
      rw [AllP_append] at ho
      by_cases e : t = n
      · subst e; exact ⟨b, h2, ho.2⟩
      · exact frW_get h1 ho.1 t (by omega)
    · cases h

theorem allP_mem {l : List Prop} (h : AllP l) : ∀ p ∈ l, p := by
  induction l with
  | nil => simp
  | cons q l ih =>
    intro p hp
    rcases List.mem_cons.1 hp with e | e
    · rw [e]; exact h.1
    · exact ih h.2 p e

section
variable [AbstRep]

/-- The act and the world hold what the state says. -/
def StR (w0 : World) (pr : Nat → Prop) (ρ : Env) (st : St) (w : World) (a : Act) : Prop :=
  Sim w0 pr ρ (memOf st.m) w ∧ FrR ρ (memOf st.m) st.n (frOf st.fr) a ∧ a.defers = st.dm.map (fun d => ({ target := .collected (ρ d).1, args := #[] } : Deferred)) ∧ ∀ d ∈ st.dm, al (memOf st.m) d

def okIn (m : List Tok) (k : Nat) : Bool := decide (k < m.length) && !(m.getD k .free).isFree
def stW (N : Nat) (src : Src) (st1 st2 : St) : Option (List Prop) :=
  if (st1.n == st2.n && st1.dm == st2.dm) && st2.dm.all (fun d => nameOf src d == some d && okIn st2.m d)
      && (List.range st2.n).all (fun t => (st2.fr.get t).toks.all (okIn st2.m))
  then
    match memW N src st1.m st2.m, frW (nameOf src) st1.fr st2.fr st2.n with
    | some a, some b => some (a ++ b)
    | _, _ => none
  else none

theorem okIn_al {m : List Tok} {k : Nat} (h : okIn m k = true) : al (memOf m) k := by
  simp only [okIn, Bool.and_eq_true, decide_eq_true_eq, Bool.not_eq_true'] at h
  exact h.2

theorem stW_sound {N : Nat} {src : Src} {st1 st2 : St} {r : List Prop} (h : stW N src st1 st2 = some r) (ho : AllP r) {w0 : World} {pr : Nat → Prop} {ρ : Env} {w : World} {a : Act} (hs : StR w0 pr ρ st1 w a) :
    (∀ k, k < N → envS src st2.m ρ k = ρ k) ∧ StR w0 pr (envS src st2.m ρ) st2 w a := by
  unfold stW at h
  split at h
  · rename_i hc
    simp only [Bool.and_eq_true, beq_iff_eq, List.all_eq_true, List.mem_range] at hc
    obtain ⟨⟨⟨hn, hdm⟩, hd⟩, hf⟩ := hc
    split at h
    · rename_i r1 r2 h1 h2
      cases h
      rw [AllP_append] at ho
      obtain ⟨g1, g2, g3⟩ := memW_sound h1 ho.1 hs.1
      refine ⟨g1, g3, ⟨by rw [hs.2.1.1, hn], fun t ht => ?_⟩, ?_, fun d hd' => okIn_al (hd d hd').2⟩
      · obtain ⟨r', e1, e2⟩ := frW_get h2 ho.2 t ht
        exact ⟨lvW_sound g2 _ _ r' e1 e2 _ (hs.2.1.2 t (by rw [hn]; exact ht)).1, LV.toks_wf _ (fun k hk => okIn_al (hf t ht k hk))⟩
      · rw [hs.2.2.1, hdm]
        refine List.map_congr_left (fun d hd' => ?_)
        rw [g2 d d (hd d hd').1]
    · cases h
  · cases h

/-- What is walked leads from a state to a state; the tokens below N keep their blocks. -/
def Walk (W : Fence → (Exit → Act → World → Prop) → Act → World → Prop) (rd : Option Nat) (N : Nat) (st : St) (ex : Exit) (st' : St) : Prop :=
  ∀ F, okF F → ∀ w0 pr ρ w a Q, F.round = rd.map (fun l => (ρ l).1) → StR w0 pr ρ st w a → (∀ l, rd = some l → al (memOf st.m) l) →
    (∀ ρ' a' w', (∀ k, k < N → ρ' k = ρ k) → StR w0 pr ρ' st' w' a' → Q ex a' w') → W F Q a w

theorem Walk.of_gok {W : Fence → (Exit → Act → World → Prop) → Act → World → Prop} {rd : Option Nat} {st st' : St} {ex : Exit} (h : GOK W rd st ex st') {N : Nat} (hN : ∀ k, k < N → al (memOf st.m) k) : Walk W rd N st ex st' := by
  intro F hF w0 pr ρ w a Q hro hs hl hQ
  obtain ⟨_, _, _, _, _, g⟩ := h
  exact g F hF w0 pr ρ w a Q hro hs.1 hs.2.1 hs.2.2.1 hs.2.2.2 hl (fun ρ' a' w' hag h1 h2 h3 h4 => hQ ρ' a' w' (fun k hk => hag k (hN k hk)) ⟨h1, h2, h3, h4⟩)

/-- What rd asks of a memory. -/
def rdIn (rd : Option Nat) (N : Nat) (m : List Tok) : Bool := match rd with | none => true | some l => decide (l < N) && okIn m l
theorem rdIn_al {rd : Option Nat} {N : Nat} {m : List Tok} (h : rdIn rd N m = true) : ∀ l, rd = some l → l < N ∧ al (memOf m) l := by
  intro l e; subst e
  simp only [rdIn, Bool.and_eq_true, decide_eq_true_eq] at h
  exact ⟨h.1, okIn_al h.2⟩
theorem rdIn_map {rd : Option Nat} {N : Nat} {m : List Tok} (h : rdIn rd N m = true) {ρ ρ' : Env} (hag : ∀ k, k < N → ρ' k = ρ k) : rd.map (fun l => (ρ l).1) = rd.map (fun l => (ρ' l).1) := by
  cases rd with
  | none => rfl
  | some l => simp only [Option.map_some, hag l (rdIn_al h l rfl).1]

theorem Walk.seq {W1 W2 W : Fence → (Exit → Act → World → Prop) → Act → World → Prop} (hW : ∀ F Q a w, W1 F (Exit.then (W2 F Q) Q) a w → W F Q a w) {rd : Option Nat} {N : Nat} {st st1 st2 : St} {ex : Exit}
    (h1 : Walk W1 rd N st .normal st1) (h2 : Walk W2 rd N st1 ex st2) (hr : rdIn rd N st1.m = true) : Walk W rd N st ex st2 := by
  intro F hF w0 pr ρ w a Q hro hs hl hQ
  refine hW F Q a w (h1 F hF w0 pr ρ w a _ hro hs hl (fun ρ1 a1 w1 hag hs1 => ?_))
  exact h2 F hF w0 pr ρ1 w1 a1 Q (hro.trans (rdIn_map hr hag)) hs1 (fun l e => (rdIn_al hr l e).2) (fun ρ' a' w' hag' hs' => hQ ρ' a' w' (fun k hk => (hag' k hk).trans (hag k hk)) hs')

theorem Walk.conv {W1 W : Fence → (Exit → Act → World → Prop) → Act → World → Prop} {ex ex' : Exit} (hW : ∀ F Q a w, W1 F (fun e a w => e = ex ∧ Q ex' a w) a w → W F Q a w) {rd : Option Nat} {N : Nat} {st st1 : St}
    (h1 : Walk W1 rd N st ex st1) : Walk W rd N st ex' st1 := by
  intro F hF w0 pr ρ w a Q hro hs hl hQ
  exact hW F Q a w (h1 F hF w0 pr ρ w a _ hro hs hl (fun ρ' a' w' hag hs' => ⟨rfl, hQ ρ' a' w' hag hs'⟩))

/-- The state behind, seen in another way. -/
theorem Walk.post {W : Fence → (Exit → Act → World → Prop) → Act → World → Prop} {rd : Option Nat} {N : Nat} {st st1 st2 : St} {ex : Exit} (h : Walk W rd N st ex st1) {src : Src} {r : List Prop} (hw : stW N src st1 st2 = some r) (ho : AllP r) : Walk W rd N st ex st2 := by
  intro F hF w0 pr ρ w a Q hro hs hl hQ
  refine h F hF w0 pr ρ w a Q hro hs hl (fun ρ' a' w' hag hs' => ?_)
  obtain ⟨g1, g2⟩ := stW_sound hw ho hs'
  exact hQ _ a' w' (fun k hk => (g1 k hk).trans (hag k hk)) g2

/-- The state ahead, seen in another way. -/
theorem Walk.pre {W : Fence → (Exit → Act → World → Prop) → Act → World → Prop} {rd : Option Nat} {N : Nat} {st st1 st2 : St} {ex : Exit} (h : Walk W rd N st1 ex st2) {src : Src} {r : List Prop} (hw : stW N src st st1 = some r) (ho : AllP r) (hr : rdIn rd N st1.m = true) : Walk W rd N st ex st2 := by
  intro F hF w0 pr ρ w a Q hro hs hl hQ
  obtain ⟨g1, g2⟩ := stW_sound hw ho hs
  exact h F hF w0 pr _ w a Q (hro.trans (rdIn_map hr g1)) g2 (fun l e => (rdIn_al hr l e).2) (fun ρ' a' w' hag hs' => hQ ρ' a' w' (fun k hk => (hag k hk).trans (g1 k hk)) hs')

/-- A LOOP BY INDUCTION: round by round from mk 0 to mk n; from mk n it is left. -/
theorem loop_walk {P : Program} {rd : Option Nat} {N : Nat} {c : Code} {ex : Exit} (hne : ex ≠ .normal) {mk : Nat → St} {fin : St} (n : Nat) (hr : ∀ i, i ≤ n → rdIn rd N (mk i).m = true)
    (hstep : ∀ i, i < n → Walk (cW P c) rd N (mk i) .normal (mk (i + 1))) (hlast : Walk (cW P c) rd N (mk n) ex fin) : Walk (fun F Q a w => LoopIn F P c Q a w) rd N (mk 0) ex fin := by
  have key : ∀ j i, i + j = n → Walk (fun F Q a w => LoopIn F P c Q a w) rd N (mk i) ex fin := by
    intro j
    induction j with
    | zero =>
      intro i h
      have : i = n := by omega
      subst this
      refine Walk.conv (W1 := cW P c) (ex := ex) (fun F Q a w hh => loopIn_round ?_) hlast
      refine Go.wpIn_mono hh (fun e a w he => ?_)
      obtain ⟨e1, e2⟩ := he
      subst e1
      cases e <;> first | exact absurd rfl hne | exact e2
    | succ j ih =>
      intro i h
      exact Walk.seq (W1 := cW P c) (W2 := fun F Q a w => LoopIn F P c Q a w) (fun F Q a w h => loopIn_round h) (hstep i (by omega)) (ih (i + 1) (by omega)) (hr (i + 1) (by omega))
  exact key n 0 (by omega)

/-- One round, run. -/
def roundX (P : Program) (opq : Ctrs) (lf n : Nat) (rd : Option Nat) (c : Code) (st : St) (an : List Ans) (N : Nat) (src : Src) (st2 : St) : Option (Exit × List Prop) :=
  if (List.range N).all (okIn st.m) && rdIn rd N st2.m then
    match codeX P opq (runF P opq lf n) lf rd c st an with
    | some (ex, st1, ob, _) =>
      (match stW N src st1 st2 with
       | some ob2 => some (ex, ob ++ ob2)
       | none => none)
    | none => none
  else none
theorem roundX_sound {P : Program} {opq : Ctrs} (hct : CtOK P opq) {lf n : Nat} {rd : Option Nat} {c : Code} {st : St} {an : List Ans} {N : Nat} {src : Src} {st2 : St} {ex : Exit} {ob : List Prop} (h : roundX P opq lf n rd c st an N src st2 = some (ex, ob)) (ho : AllP ob) :
    Walk (cW P c) rd N st ex st2 := by
  unfold roundX at h
  split at h
  · rename_i hc
    simp only [Bool.and_eq_true, List.all_eq_true, List.mem_range] at hc
    split at h
    · rename_i ex1 st1 ob1 an1 h1
      split at h
      · rename_i ob2 h2
        cases h
        rw [AllP_append] at ho
        exact ((codeX_sound hct (runF_sound P hct lf n) c h1 ho.1) |> fun g => (Walk.of_gok g (fun k hk => okIn_al (hc.1 k hk))).post h2 ho.2)
      · cases h
    · cases h
  · cases h

/-- What is owed where a loop's end is told beside what it is begun with. -/
def endOK (st fin : St) : Option (List Prop) :=
  if fin.n == st.n && (List.range st.m.length).all (fun k => (st.m.getD k .free).isFree || okIn fin.m k)
      && st.wr.all (fin.wr.contains ·) && (List.range fin.m.length).all (fun k => !(fin.m.getD k .free).isRo || (st.m.getD k .free).isRo)
  then some (((List.range st.m.length).filter fun k => !(fin.wr.contains k) && !(st.m.getD k .free).isFree).map fun k => fin.m.getD k .free = st.m.getD k .free)
  else none

theorem gok_of_walk {W : Fence → (Exit → Act → World → Prop) → Act → World → Prop} {rd : Option Nat} {st fin : St} {ex : Exit} (h : Walk W rd st.m.length st ex fin) {r : List Prop} (he : endOK st fin = some r) (ho : AllP r) : GOK W rd st ex fin := by
  unfold endOK at he
  split at he
  · rename_i hc
    cases he
    simp only [Bool.and_eq_true, beq_iff_eq, List.all_eq_true, List.mem_range, Bool.or_eq_true, Bool.not_eq_true'] at hc
    obtain ⟨⟨⟨h1, h2⟩, h3⟩, h4⟩ := hc
    have hlt : ∀ k, al (memOf st.m) k → k < st.m.length := by
      intro k hk
      rcases Nat.lt_or_ge k st.m.length with h | h
      · exact h
      · unfold al at hk; rw [memOf_len h] at hk; cases hk
    have hkeep : ∀ k, al (memOf st.m) k → al (memOf fin.m) k := fun k hk => by
      rcases h2 k (hlt k hk) with e | e
      · unfold al at hk; rw [show memOf st.m k = st.m.getD k .free from rfl, e] at hk; cases hk
      · exact okIn_al e
    refine ⟨hkeep, h1, fun k hk => by simpa using h3 k hk, fun k hk hw => ?_, fun k hk => ?_, ?_⟩
    · refine allP_mem ho _ (List.mem_map.2 ⟨k, List.mem_filter.2 ⟨List.mem_range.2 (hlt k hk), ?_⟩, rfl⟩)
      have : (st.m.getD k .free).isFree = false := hk
      simp only [this, Bool.not_false, Bool.and_true, Bool.not_eq_true']
      simpa using hw
    · rcases Nat.lt_or_ge k fin.m.length with h | h
      · rcases h4 k h with e | e
        · rw [show memOf fin.m k = fin.m.getD k .free from rfl, e] at hk; cases hk
        · exact e
      · rw [memOf_len h] at hk; cases hk
    · intro F hF w0 pr ρ w a Q hro hs hf hd hdal hl hQ
      exact h F hF w0 pr ρ w a Q hro ⟨hs, hf, hd, hdal⟩ hl (fun ρ' a' w' hag hs' => hQ ρ' a' w' (fun k hk => hag k (hlt k hk)) hs'.1 hs'.2.1 hs'.2.2.1 hs'.2.2.2)
  · cases he

/-- What stands for a loop: out of the state, what counts of it; the loop's own first state; how it is left, and to what. -/
def lpOf {σ : Type} (N : Nat) (src : Src) (rd : Option Nat) (get : St → Option σ) (mk0 : σ → St) (ex : Exit) (fin : σ → St) (wr : List Nat) (ob : σ → List Prop) : LoopFn := fun st =>
  match get st with
  | none => none
  | some p =>
    if st.m.length == N && rdIn rd N (mk0 p).m then
      match stW N src st (mk0 p), endOK st { fin p with wr := wr ++ st.wr } with
      | some o1, some o2 => some (ex, { fin p with wr := wr ++ st.wr }, o1 ++ (o2 ++ ob p))
      | _, _ => none
    else none

theorem lpOf_ok {P : Program} {rd : Option Nat} {c : Code} {σ : Type} {N : Nat} {src : Src} {get : St → Option σ} {mk0 : σ → St} {ex : Exit} {fin : σ → St} {wr : List Nat} {ob : σ → List Prop}
    (h : ∀ p, AllP (ob p) → Walk (fun F Q a w => LoopIn F P c Q a w) rd N (mk0 p) ex (fin p)) : LoopOK P rd c (lpOf N src rd get mk0 ex fin wr ob) := by
  intro st ex' st' ob' hg ho
  unfold lpOf at hg
  split at hg
  · cases hg
  · rename_i p hp
    split at hg
    · rename_i hc
      simp only [Bool.and_eq_true, beq_iff_eq] at hc
      split at hg
      · rename_i o1 o2 h1 h2
        cases hg
        rw [AllP_append, AllP_append] at ho
        have hw := (h p ho.2.2).pre h1 ho.1 hc.2
        have hw' : Walk (fun F Q a w => LoopIn F P c Q a w) rd st.m.length st ex { fin p with wr := wr ++ st.wr } := by rw [hc.1]; exact hw
        refine GOK.conv (ex := ex) (W1 := fun F Q a w => LoopIn F P c Q a w) (fun F Q a w hh => wpIn_of_loopIn (fun b k cs h1 h2 h3 => ?_)) (gok_of_walk hw' h2 ho.2.1)
        obtain ⟨e, a', w', hq, harr⟩ := hh b k cs h1 h2 h3
        exact ⟨e, a', w', hq.1 ▸ hq.2, harr⟩
      · cases hg
    · cases hg

end
end Go.Vse
