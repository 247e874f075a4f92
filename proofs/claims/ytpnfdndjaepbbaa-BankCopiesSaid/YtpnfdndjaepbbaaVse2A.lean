/- A memory seen in another way: tokens are given other names, what lies in a state may be forgotten. -/
import Derived.Test.YtpnfdndjaepbbaaVseZ
namespace Go.Vse
open Go

/-- Whether (and on what) a value may be told as another one; ι: the tokens' new names. -/
def eqI (k k' : IntKind) (x y : Int) : Option (List Prop) := if k = k' then some [x = y] else none
def nmW (ι : Nat → Option Nat) (k j : Nat) (ob : List Prop) : Option (List Prop) :=
  match ι k with
  | some i => if i = j then some ob else none
  | none => none
mutual
def lvW (ι : Nat → Option Nat) : LV → LV → Option (List Prop)
  | x, .any => match x with | _ => some []
  | .i k x, .i k' y => eqI k k' x y
  | .i k x, .s k' y => eqI k k' x y
  | .s k x, .i k' y => eqI k k' x y
  | .s k x, .s k' y => eqI k k' x y
  | .b x, .b y => some [x = y]
  | .b x, .sb y => some [x = y]
  | .sb x, .b y => some [x = y]
  | .sb x, .sb y => some [x = y]
  | .v x, .v y => some [x = y]
  | .p0, .p0 => some []
  | .n0, .n0 => some []
  | .f0, .f0 => some []
  | .p k o, .p j o' => if o = o' then nmW ι k j [] else none
  | .p k o, .ps j o' => nmW ι k j [o = o']
  | .ps k o, .ps j o' => nmW ι k j [o = o']
  | .sl k o l c z, .sl j o' l' c' z' => if o = o' ∧ l = l' ∧ c = c' ∧ z = z' then nmW ι k j [] else none
  | .sl k o l c z, .ss j o' l' c' z' => nmW ι k j [o = o', l = l', c = c', z = z']
  | .ss k o l c z, .ss j o' l' c' z' => nmW ι k j [o = o', l = l', c = c', z = z']
  | .sl k o l _ z, .so j l' z' => if o = 0 ∧ z = z' then nmW ι k j [l = l'] else none
  | .n0, .so _ l' _ => some [l' = 0]
  | .se _, .so _ l' _ => some [l' = 0]
  | .so k l z, .so j l' z' => if z = z' then nmW ι k j [l = l'] else none
  | .se k, .se j => nmW ι k j []
  | .yl k, .yl j => nmW ι k j []
  | .agg xs, .agg ys => lvsW ι xs ys
  | .tup xs, .tup ys => lvsW ι xs ys
  | .fn f xs, .fn g ys => if f = g then lvsW ι xs ys else none
  | _, _ => none
def lvsW (ι : Nat → Option Nat) : List LV → List LV → Option (List Prop)
  | [], [] => some []
  | x :: xs, y :: ys =>
    match lvW ι x y, lvsW ι xs ys with
    | some a, some b => some (a ++ b)
    | _, _ => none
  | _, _ => none
end

theorem nmW_some {ι : Nat → Option Nat} {k j : Nat} {ob r : List Prop} (h : nmW ι k j ob = some r) : ι k = some j ∧ r = ob := by
  unfold nmW at h
  split at h
  · rename_i i hi
    split at h
    · rename_i e; cases h; subst e; exact ⟨hi, rfl⟩
    · cases h
  · cases h
theorem eqI_some {k k' : IntKind} {x y : Int} {r : List Prop} (h : eqI k k' x y = some r) (ho : AllP r) : k = k' ∧ x = y := by
  unfold eqI at h
  split at h
  · rename_i e; cases h; simp only [AllP, and_true] at ho; exact ⟨e, ho⟩
  · cases h

mutual
theorem lvW_sound {ι : Nat → Option Nat} {ρ ρ2 : Env} (hι : ∀ k j, ι k = some j → ρ2 j = ρ k) : ∀ (x y : LV) (r : List Prop), lvW ι x y = some r → AllP r → ∀ v, VR ρ x v → VR ρ2 y v := by
  intro x y r h ho v hv
  unfold lvW at h
  split at h
  case h_1 => simp only [VR]
  case h_2 | h_3 | h_4 | h_5 => obtain ⟨rfl, rfl⟩ := eqI_some h ho; simpa only [VR] using hv
  case h_6 | h_7 | h_8 | h_9 => cases h; simp only [AllP, and_true] at ho; subst ho; simpa only [VR] using hv
  case h_10 => cases h; simp only [AllP, and_true] at ho; subst ho; simpa only [VR] using hv
  case h_11 | h_12 | h_13 => simpa only [VR] using hv
  case h_14 =>
    split at h
    · rename_i e; subst e
      obtain ⟨e1, rfl⟩ := nmW_some h
      simp only [VR, hι _ _ e1] at hv ⊢; exact hv
    · cases h
  case h_15 | h_16 =>
    obtain ⟨e1, rfl⟩ := nmW_some h
    simp only [AllP, and_true] at ho; subst ho
    simp only [VR, hι _ _ e1] at hv ⊢; exact hv
  case h_17 =>
    split at h
    · rename_i e
      obtain ⟨rfl, rfl, rfl, rfl⟩ := e
      obtain ⟨e1, rfl⟩ := nmW_some h
      simp only [VR, SlR, hι _ _ e1] at hv ⊢; exact hv
    · cases h
  case h_18 | h_19 =>
    obtain ⟨e1, rfl⟩ := nmW_some h
    simp only [AllP, and_true] at ho
    obtain ⟨rfl, rfl, rfl, rfl⟩ := ho
    simp only [VR, SlR, hι _ _ e1] at hv ⊢; exact hv
  case h_20 =>
    split at h
    · rename_i e
      obtain ⟨rfl, rfl⟩ := e
      obtain ⟨e1, rfl⟩ := nmW_some h
      simp only [AllP, and_true] at ho; subst ho
      simp only [VR, SlR, SoR, hι _ _ e1] at hv ⊢
      obtain ⟨o', cap, rfl, h1, h2, h3⟩ := hv
      refine ⟨_, cap, rfl, by omega, ?_⟩
      rcases h3 with ⟨rfl, h3⟩ | h3
      · exact .inr ⟨rfl, by omega⟩
      · exact .inl h3
    · cases h
  case h_21 =>
    cases h; simp only [AllP, and_true] at ho; subst ho
    simp only [VR, SoR] at hv ⊢; subst hv
    exact ⟨none, 0, rfl, Nat.le_refl _, .inl rfl⟩
  case h_22 =>
    cases h; simp only [AllP, and_true] at ho; subst ho
    simp only [VR, SoR] at hv ⊢; obtain ⟨o', rfl⟩ := hv
    exact ⟨_, 0, rfl, Nat.le_refl _, .inl rfl⟩
  case h_23 =>
    split at h
    · rename_i e; subst e
      obtain ⟨e1, rfl⟩ := nmW_some h
      simp only [AllP, and_true] at ho; subst ho
      simp only [VR, SoR, hι _ _ e1] at hv ⊢; exact hv
    · cases h
  case h_24 | h_25 =>
    obtain ⟨e1, rfl⟩ := nmW_some h
    simp only [VR, hι _ _ e1] at hv ⊢; exact hv
  case h_26 =>
    simp only [VR] at hv ⊢
    obtain ⟨vs, e, hvs⟩ := hv
    exact ⟨vs, e, lvsW_sound hι _ _ r h ho vs hvs⟩
  case h_27 =>
    simp only [VR] at hv ⊢
    obtain ⟨vs, e, hvs⟩ := hv
    exact ⟨vs, e, lvsW_sound hι _ _ r h ho vs hvs⟩
  case h_28 =>
    split at h
    · rename_i e; subst e
      simp only [VR] at hv ⊢
      obtain ⟨vs, e, hvs⟩ := hv
      exact ⟨vs, e, lvsW_sound hι _ _ r h ho vs hvs⟩
    · cases h
  case h_29 => cases h
theorem lvsW_sound {ι : Nat → Option Nat} {ρ ρ2 : Env} (hι : ∀ k j, ι k = some j → ρ2 j = ρ k) : ∀ (xs ys : List LV) (r : List Prop), lvsW ι xs ys = some r → AllP r → ∀ vs, VRs ρ xs vs → VRs ρ2 ys vs := by
  intro xs ys r h ho vs hv
  unfold lvsW at h
  split at h
  · simpa only [VRs] using hv
  · split at h
    · rename_i a b h1 h2
      cases h
      rw [AllP_append] at ho
      simp only [VRs] at hv ⊢
      obtain ⟨v, t, e, g1, g2⟩ := hv
      exact ⟨v, t, e, lvW_sound hι _ _ a h1 ho.1 v g1, lvsW_sound hι _ _ b h2 ho.2 t g2⟩
    · cases h
  · cases h
end

section
variable [AbstRep]
/-- The same loop, but for its frame. -/
def SameL (a b : LoopState × Option Code × Array Tmp × Code × Code) : Prop := a = b
def tokW (ι : Nat → Option Nat) : Tok → Tok → Option (List Prop)
  | .cells rw T cs, .cells rw' T' cs' => if rw = rw' ∧ T = T' then lvsW ι cs cs' else none
  | .cells rw T cs, .fl rw' T' fs => if rw = rw' ∧ T = T' then (match scOfs cs with | some ys => some [ys = fs] | none => none) else none
  | .cells rw T cs, .vec T' fs => if rw = true ∧ T = T' then (match scOfs cs with | some ys => some [ys = fs] | none => none) else none
  | .fl rw T fs, .fl rw' T' fs' => if rw = rw' ∧ T = T' then some [fs = fs'] else none
  | .fl rw T fs, .vec T' fs' => if rw = true ∧ T = T' then some [fs = fs'] else none
  | .vec T fs, .vec T' fs' => if T = T' then some [fs = fs'] else none
  | .abs a, .abs b => some [a = b]
  | .defd, .defd => some []
  | .glob g T cs, .glob g' T' cs' => if g = g' ∧ T = T' ∧ (toksL cs).isEmpty = true then some [cs = cs'] else none
  | .loop st pend tm ps asg body df, .loop st' pend' tm' ps' asg' body' df' =>
    (match lvsW ι tm tm', nmW ι df df' [] with
     | some o1, some _ => some (SameL (st, pend, ps, asg, body) (st', pend', ps', asg', body') :: o1)
     | _, _ => none)
  | _, _ => none

theorem tokW_sound {ι : Nat → Option Nat} {ρ ρ2 : Env} (hι : ∀ k j, ι k = some j → ρ2 j = ρ k) {t t' : Tok} {r : List Prop} (h : tokW ι t t' = some r) (ho : AllP r) {e : Nat × Nat} {f : List Nat} {hp : Heap} (ht : TokR ρ e f t hp) :
    TokR ρ2 e f t' hp ∧ t.owns = t'.owns ∧ t.isRo = t'.isRo ∧ t'.isFree = false ∧ (∀ g T cs, t' = .glob g T cs → ∃ cs0, t = .glob g T cs0) := by
  unfold tokW at h
  split at h
  · rename_i rw T cs rw' T' cs'
    split at h
    · rename_i e; obtain ⟨rfl, rfl⟩ := e
      obtain ⟨h1, vs, sp, h2, h3, h4⟩ := (show PlainR _ _ _ _ _ from ht)
      exact ⟨TokR_of rfl rfl h1 ⟨vs, sp, h2, lvsW_sound hι _ _ _ h ho _ h3, h4⟩, rfl, rfl, rfl, fun _ _ _ e => by cases e⟩
    · cases h
  · rename_i rw T cs rw' T' fs
    split at h
    · rename_i e; obtain ⟨rfl, rfl⟩ := e
      split at h
      · rename_i ys hys
        cases h; simp only [AllP, and_true] at ho; subst ho
        obtain ⟨h1, vs, sp, h2, h3, h4⟩ := (show PlainR _ _ _ _ _ from ht)
        rw [scOfs_sound hys h3] at h2 h4
        exact ⟨TokR_of rfl rfl h1 ⟨sp, _, _, h2, h4, fun _ => ⟨rfl, rfl⟩⟩, rfl, rfl, rfl, fun _ _ _ e => by cases e⟩
      · cases h
    · cases h
  · rename_i rw T cs T' fs
    split at h
    · rename_i e; obtain ⟨rfl, rfl⟩ := e
      split at h
      · rename_i ys hys
        cases h; simp only [AllP, and_true] at ho; subst ho
        obtain ⟨h1, vs, sp, h2, h3, h4⟩ := (show PlainR _ _ _ _ _ from ht)
        rw [scOfs_sound hys h3] at h2 h4
        have h1' := h1 rfl
        subst h1'
        exact ⟨TokR_blk (e := e) rfl rfl ⟨sp, h2, h4⟩, rfl, rfl, rfl, fun _ _ _ e => by cases e⟩
      · cases h
    · cases h
  · rename_i rw T fs rw' T' fs'
    split at h
    · rename_i e; obtain ⟨rfl, rfl⟩ := e
      cases h; simp only [AllP, and_true] at ho; subst ho
      exact ⟨ht, rfl, rfl, rfl, fun _ _ _ e => by cases e⟩
    · cases h
  · rename_i rw T fs T' fs'
    split at h
    · rename_i e; obtain ⟨rfl, rfl⟩ := e
      cases h; simp only [AllP, and_true] at ho; subst ho
      obtain ⟨h1, sp, T1, fz, h2, h4, h5⟩ := (show PlainR _ _ _ _ _ from ht)
      have h1' := h1 rfl
      obtain ⟨rfl, rfl⟩ := h5 rfl
      subst h1'
      exact ⟨TokR_blk (e := e) rfl rfl ⟨sp, h2, h4⟩, rfl, rfl, rfl, fun _ _ _ e => by cases e⟩
    · cases h
  · rename_i T fs T' fs'
    split at h
    · rename_i e; subst e
      cases h; simp only [AllP, and_true] at ho; subst ho
      exact ⟨ht, rfl, rfl, rfl, fun _ _ _ e => by cases e⟩
    · cases h
  · cases h; simp only [AllP, and_true] at ho; subst ho
    exact ⟨ht, rfl, rfl, rfl, fun _ _ _ e => by cases e⟩
  · exact ⟨ht, rfl, rfl, rfl, fun _ _ _ e => by cases e⟩
  · rename_i g T cs g' T' cs'
    split at h
    · rename_i e; obtain ⟨rfl, rfl, ht0⟩ := e
      cases h; simp only [AllP, and_true] at ho; subst ho
      obtain ⟨h1, vs, sp, T0, fz, h2, h3⟩ := (show PlainR _ _ _ _ _ from ht)
      have hw : wfL (fun _ => False) cs := toksL_wf cs (fun k hk => by rw [List.isEmpty_iff.1 ht0] at hk; cases hk)
      exact ⟨TokR_of rfl rfl (fun h => by cases h) ⟨vs, sp, T0, fz, h2, VRs_congr (A := fun _ => False) (fun _ h => h.elim) _ _ hw h3⟩, rfl, rfl, rfl, fun _ _ _ e => by cases e; exact ⟨_, rfl⟩⟩
    · cases h
  · rename_i st pend tm ps asg body df st' pend' tm' ps' asg' body' df'
    split at h
    · rename_i o1 o2 h1 h2
      cases h
      simp only [AllP] at ho
      obtain ⟨e1, _⟩ := nmW_some h2
      have hs := ho.1
      unfold SameL at hs
      simp only [Prod.mk.injEq] at hs
      obtain ⟨rfl, rfl, rfl, rfl, rfl⟩ := hs
      obtain ⟨g1, fn, tmps, g2, g3⟩ := (show PlainR _ _ _ _ _ from ht)
      exact ⟨TokR_of rfl rfl g1 ⟨fn, tmps, by rw [hι _ _ e1]; exact g2, lvsW_sound hι _ _ _ h1 ho.2 _ g3⟩, rfl, rfl, rfl, fun _ _ _ e => by cases e⟩
    · cases h
  · cases h

/-- Each token of the memory as it is seen: out of which one it comes; none: of none (it is hid, free, or without a block). -/
abbrev Src := List (Option Nat)
def srcOf (src : Src) (j : Nat) : Option Nat := src.getD j none
def nameOf (src : Src) (k : Nat) : Option Nat :=
  let j := src.findIdx (· == some k)
  if j < src.length then some j else none
def isHid : Tok → Bool
  | .hid => true
  | .free => true
  | _ => false
def tokS (ι : Nat → Option Nat) (m1 : List Tok) (s : Option Nat) (t : Tok) : Option (List Prop) :=
  match s with
  | some k => tokW ι (m1.getD k .free) t
  | none =>
    match t with
    | .hid => some []
    | .free => some []
    | .vec _ fs => some [fs = []]
    | _ => none
def toksS (ι : Nat → Option Nat) (m1 : List Tok) (src : Src) : Nat → List Tok → Option (List Prop)
  | _, [] => some []
  | j, t :: r =>
    match tokS ι m1 (srcOf src j) t, toksS ι m1 src (j + 1) r with
    | some a, some b => some (a ++ b)
    | _, _ => none
/-- The memory m1 seen as m2; the tokens below N keep their blocks. -/
def memW (N : Nat) (src : Src) (m1 m2 : List Tok) : Option (List Prop) :=
  if nodupB (src.filterMap id) && decide (src.length ≤ m2.length)
      && (List.range N).all (fun j => match srcOf src j with | some k => k == j | none => isHid (m2.getD j .free))
      && m2.all (fun t => t.toks.all fun k => decide (k < m2.length) && !(m2.getD k .free).isFree)
  then toksS (nameOf src) m1 src 0 m2 else none

def envS (src : Src) (m2 : List Tok) (ρ : Env) : Env := fun j =>
  match srcOf src j with
  | some k => ρ k
  | none => if isHid (m2.getD j .free) then ρ j else (0, 0)

omit [AbstRep] in
theorem nameOf_src {src : Src} {k j : Nat} (h : nameOf src k = some j) : srcOf src j = some k := by
  unfold nameOf at h
  simp only at h
  split at h
  · rename_i hlt
    cases h
    have := List.findIdx_getElem (xs := src) (p := (· == some k)) (w := hlt)
    simp only [beq_iff_eq] at this
    simp [srcOf, List.getD_eq_getElem?_getD, List.getElem?_eq_getElem hlt, this]
  · cases h

theorem toksS_get {ι : Nat → Option Nat} {m1 : List Tok} {src : Src} : ∀ {l : List Tok} {j : Nat} {r : List Prop}, toksS ι m1 src j l = some r → AllP r → ∀ i t, l[i]? = some t → ∃ r', tokS ι m1 (srcOf src (j + i)) t = some r' ∧ AllP r'
  | [], _, _, _, _, i, t, hi => by simp at hi
  | x :: l, j, r, h, ho, i, t, hi => by
    simp only [toksS] at h
    split at h
    · rename_i a b h1 h2
      cases h
      rw [AllP_append] at ho
      cases i with
      | zero => simp at hi; subst hi; exact ⟨a, h1, ho.1⟩
      | succ i =>
        simp at hi
        obtain ⟨r', e1, e2⟩ := toksS_get h2 ho.2 i t hi
        exact ⟨r', by rw [← e1]; congr 2; omega, e2⟩
    · cases h

omit [AbstRep] in
theorem src_inj {src : Src} (h : nodupB (src.filterMap id) = true) {i j k : Nat} (hi : srcOf src i = some k) (hj : srcOf src j = some k) : i = j := by
  have hn := nodupB_iff h
  clear h
  have gi : src[i]? = some (some k) := by
    unfold srcOf at hi; rw [List.getD_eq_getElem?_getD] at hi
    cases hx : src[i]? with
    | none => rw [hx] at hi; cases hi
    | some y => rw [hx] at hi; simp at hi; rw [hi]
  have gj : src[j]? = some (some k) := by
    unfold srcOf at hj; rw [List.getD_eq_getElem?_getD] at hj
    cases hx : src[j]? with
    | none => rw [hx] at hj; cases hj
    | some y => rw [hx] at hj; simp at hj; rw [hj]
  clear hi hj
  induction src generalizing i j with
  | nil => simp at gi
  | cons x src ih =>
    have key : ∀ (l : Src) (n : Nat), l[n]? = some (some k) → k ∈ l.filterMap id := fun l n h => List.mem_filterMap.2 ⟨some k, List.mem_of_getElem? h, rfl⟩
    cases i with
    | zero =>
      simp at gi; subst gi
      cases j with
      | zero => rfl
      | succ j =>
        simp at gj
        simp only [List.filterMap_cons_some (f := id) (a := some k) (b := k) rfl, List.nodup_cons] at hn
        exact absurd (key _ _ gj) hn.1
    | succ i =>
      simp at gi
      cases j with
      | zero =>
        simp at gj; subst gj
        simp only [List.filterMap_cons_some (f := id) (a := some k) (b := k) rfl, List.nodup_cons] at hn
        exact absurd (key _ _ gi) hn.1
      | succ j =>
        simp at gj
        have hn' : (src.filterMap id).Nodup := by
          cases x with
          | none => simpa using hn
          | some y => simp only [List.filterMap_cons_some (f := id) (a := some y) (b := y) rfl, List.nodup_cons] at hn; exact hn.2
        rw [ih hn' gi gj]

theorem memW_sound {N : Nat} {src : Src} {m1 m2 : List Tok} {r : List Prop} (h : memW N src m1 m2 = some r) (ho : AllP r) {w0 : World} {pr : Nat → Prop} {ρ : Env} {w : World} (hs : Sim w0 pr ρ (memOf m1) w) :
    (∀ k, k < N → envS src m2 ρ k = ρ k) ∧ (∀ k j, nameOf src k = some j → envS src m2 ρ j = ρ k) ∧ Sim w0 pr (envS src m2 ρ) (memOf m2) w := by
  obtain ⟨φ, hs⟩ := hs
  unfold memW at h
  obtain ⟨hc, h⟩ := ite_noneB h
  simp only [Bool.and_eq_true, List.all_eq_true, List.mem_range, decide_eq_true_eq] at hc
  obtain ⟨⟨⟨hnd, hlen⟩, hN⟩, hwf⟩ := hc
  have hι : ∀ k j, nameOf src k = some j → envS src m2 ρ j = ρ k := fun k j hk => by simp only [envS, nameOf_src hk]
  have hget : ∀ j, (m2.length ≤ j ∧ memOf m2 j = .free ∧ srcOf src j = none) ∨ ∃ t r', memOf m2 j = t ∧ m2[j]? = some t ∧ tokS (nameOf src) m1 (srcOf src j) t = some r' ∧ AllP r' := by
    intro j
    rcases Nat.lt_or_ge j m2.length with hj | hj
    · right
      have e : m2[j]? = some m2[j] := List.getElem?_eq_getElem hj
      obtain ⟨r', e1, e2⟩ := toksS_get h ho j _ e
      rw [Nat.zero_add] at e1
      exact ⟨m2[j], r', by simp [memOf, List.getD_eq_getElem?_getD, e], e, e1, e2⟩
    · left
      refine ⟨hj, by simp [memOf, List.getD_eq_getElem?_getD, List.getElem?_eq_none hj], ?_⟩
      simp [srcOf, List.getD_eq_getElem?_getD, List.getElem?_eq_none (Nat.le_trans hlen hj)]
  -- each token, over its blocks
  let ψ : Nat → List Nat := fun j => match srcOf src j with | some k => φ k | none => []
  have htok : ∀ j, TokR (envS src m2 ρ) (envS src m2 ρ j) (ψ j) (memOf m2 j) (fun b => w.heap[b]?) ∧ (∀ b, b ∈ (memOf m2 j).fo (ψ j) → ∃ k, srcOf src j = some k ∧ b ∈ (memOf m1 k).fo (φ k)) ∧ ((memOf m2 j).isRo = true → ∃ k, srcOf src j = some k ∧ (memOf m1 k).isRo = true) ∧
      (∀ g T cs, memOf m2 j = .glob g T cs → ∃ k cs0, srcOf src j = some k ∧ memOf m1 k = .glob g T cs0) := by
    intro j
    rcases hget j with ⟨_, e, _⟩ | ⟨t, r', e, _, e1, e2⟩
    · rw [e]
      exact ⟨TokR_idle rfl rfl, fun b hb => by simp [Tok.fo, Tok.owns] at hb, fun h => by simp [Tok.isRo] at h, fun _ _ _ h => by cases h⟩
    · rw [e]
      cases hsj : srcOf src j with
      | some k =>
        rw [hsj] at e1
        simp only [tokS] at e1
        have he : envS src m2 ρ j = ρ k := by simp only [envS, hsj]
        have hψ : ψ j = φ k := by show (match srcOf src j with | some k => φ k | none => []) = _; rw [hsj]
        rw [he, hψ]
        obtain ⟨g1, g2, g3, _, g5⟩ := tokW_sound hι e1 e2 (hs.tok k)
        refine ⟨g1, fun b hb => ⟨k, rfl, ?_⟩, fun hr => ⟨k, rfl, ?_⟩, fun g T cs hg => ?_⟩
        · unfold Tok.fo at hb ⊢
          rw [← g2] at hb
          exact hb
        · rw [← g3] at hr; exact hr
        · obtain ⟨cs0, e0⟩ := g5 g T cs hg
          exact ⟨k, cs0, rfl, e0⟩
      | none =>
        rw [hsj] at e1
        simp only [tokS] at e1
        have hψ : ψ j = [] := by show (match srcOf src j with | some k => φ k | none => []) = _; rw [hsj]
        rw [hψ]
        split at e1
        · exact ⟨TokR_idle rfl rfl, fun b hb => by simp [Tok.fo, Tok.owns] at hb, fun h => by simp [Tok.isRo] at h, fun _ _ _ h => by cases h⟩
        · exact ⟨TokR_idle rfl rfl, fun b hb => by simp [Tok.fo, Tok.owns] at hb, fun h => by simp [Tok.isRo] at h, fun _ _ _ h => by cases h⟩
        · rename_i _ T fs _
          cases e1
          simp only [AllP, and_true] at e2; subst e2
          have he : envS src m2 ρ j = (0, 0) := by
            simp only [envS, hsj]
            rw [if_neg]
            have : m2.getD j .free = .vec T [] := e
            rw [this]; simp [isHid]
          rw [he]
          refine ⟨?_, ?_, ?_, ?_⟩
          · rw [TokR_plain rfl]
            unfold PlainR
            rw [if_pos (by rfl)]
            exact .inl ⟨rfl, rfl, fun T' fs e => by cases e; rfl, rfl⟩
          · intro b hb; have := (fo_sub hb).1; cases this
          · intro h; simp [Tok.isRo] at h
          · intro _ _ _ h; cases h
        · cases e1
  refine ⟨fun k hk => ?_, hι, ψ, hs.os, hs.tape, hs.output, hs.size, hs.prot, fun j => (htok j).1, fun j b hb => ?_, fun i j b hi hj => ?_, fun j hj => ?_, fun j => ?_, fun j g T cs hj => ?_⟩
  · have := hN k hk
    simp only [envS]
    split at this
    · rename_i j hj
      simp only [beq_iff_eq] at this
      rw [this]
    · rename_i hj
      simp only [this, if_true]
  · obtain ⟨k, _, hb'⟩ := (htok j).2.1 b hb
    exact hs.fw k b hb'
  · obtain ⟨k1, e1, hb1⟩ := (htok i).2.1 b hi
    obtain ⟨k2, e2, hb2⟩ := (htok j).2.1 b hj
    have := hs.fi k1 k2 b hb1 hb2
    subst this
    exact src_inj hnd e1 e2
  · obtain ⟨k, e, hr⟩ := (htok j).2.2.1 hj
    have he : envS src m2 ρ j = ρ k := by simp only [envS, e]
    rw [he]
    exact hs.ro k hr
  · rcases hget j with ⟨_, e, _⟩ | ⟨t, _, e, e0, _⟩
    · rw [e]; trivial
    · rw [e]
      refine Tok.toks_wf _ (fun k hk => ?_)
      have := hwf t (List.mem_of_getElem? e0) k hk
      simp only [Bool.not_eq_true'] at this
      exact this.2
  · obtain ⟨k, cs0, e, h0⟩ := (htok j).2.2.2 g T cs hj
    have he : envS src m2 ρ j = ρ k := by simp only [envS, e]
    rw [he]
    exact hs.gl k g T cs0 h0
end
end Go.Vse
