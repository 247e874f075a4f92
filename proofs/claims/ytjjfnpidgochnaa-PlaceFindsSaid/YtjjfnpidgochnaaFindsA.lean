/- What the document's answer finds: lines of words, granules of lines: loops. -/
import Derived.Test.YtjjfnpidgochnaaJudge
namespace Go.Proofs.Ytjjfnpidgochnaa
open Go Go.Vse
set_option maxRecDepth 100000
def mkG (g line i : Int) : St := { fr := Tr.but 23 [(0, .s .i64 g), (1, .s .i64 line), (5, .s .i64 (2 * i)), (6, .s .i64 i)], n := 23, m := [], dm := [], wr := [] }
def finG (x : Int) : St := { fr := Tr.but 23 [(4, .s .i64 x)], n := 23, m := [], dm := [], wr := [] }
def get2 (st : St) : Option (Int × Int) :=
  match st.fr.get 0, st.fr.get 1 with
  | .s _ g, .s _ word => some (g, word)
  | _, _ => none
def ofFound : LoopFn := lpOf 0 [] none get2 (fun p => mkOf p.1 p.2 0) .ret (fun p => finOf (p.2.tdiv 2) (p.2.tmod 2)) [] (fun p => [0 ≤ p.2, p.2 < 4 * p.1, p.1 ≤ 16])
def ofNone : LoopFn := lpOf 0 [] none get2 (fun p => mkOf p.1 p.2 0) (.exit 0) (fun _ => anySt 27) [] (fun p => [0 ≤ p.1, p.1 ≤ 16, ¬ (0 ≤ p.2 ∧ p.2 < 4 * p.1)])
def grFound : LoopFn := lpOf 0 [] none get2 (fun p => mkG p.1 p.2 0) .ret (fun p => finG (p.2.tdiv 2)) [] (fun p => [0 ≤ p.2, p.2 < 2 * p.1, p.1 ≤ 16])
def grNone : LoopFn := lpOf 0 [] none get2 (fun p => mkG p.1 p.2 0) (.exit 0) (fun _ => anySt 23) [] (fun p => [0 ≤ p.1, p.1 ≤ 16, ¬ (0 ≤ p.2 ∧ p.2 < 2 * p.1)])
theorem of_round (g word i : Int) : roundX P noCt 100 20 none (lpAt P 16 [1,1,0,1,0]) (mkOf g word i) [.cmp true, .cmp false, .cmp false] 0 [] (mkOf g word (i + 1)) =
    some (Exit.normal, [IntKind.i64.wrap (g * (2 : Int)) = g * (2 : Int), obB true (i < g * (2 : Int)), obB false ((2 : Int) * i = word), IntKind.i64.wrap ((2 : Int) * i + (1 : Int)) = (2 : Int) * i + (1 : Int), obB false ((2 : Int) * i + (1 : Int) = word), IntKind.i64.wrap ((2 : Int) * i + (1 : Int) + (1 : Int)) = (2 : Int) * i + (1 : Int) + (1 : Int), IntKind.i64.wrap (i + (1 : Int)) = i + (1 : Int), g = g, word = word, (2 : Int) * i + (1 : Int) + (1 : Int) = (2 : Int) * (i + (1 : Int)), i + (1 : Int) = i + (1 : Int)]) := by kernel_rfl
theorem of_found0 (g word i : Int) : roundX P noCt 100 20 none (lpAt P 16 [1,1,0,1,0]) (mkOf g word i) [.cmp true, .cmp true] 0 [] (finOf i 0) =
    some (Exit.ret, [IntKind.i64.wrap (g * (2 : Int)) = g * (2 : Int), obB true (i < g * (2 : Int)), obB true ((2 : Int) * i = word), i = i, (0 : Int) = (0 : Int), true = true]) := by kernel_rfl
theorem of_found1 (g word i : Int) : roundX P noCt 100 20 none (lpAt P 16 [1,1,0,1,0]) (mkOf g word i) [.cmp true, .cmp false, .cmp true] 0 [] (finOf i 1) =
    some (Exit.ret, [IntKind.i64.wrap (g * (2 : Int)) = g * (2 : Int), obB true (i < g * (2 : Int)), obB false ((2 : Int) * i = word), IntKind.i64.wrap ((2 : Int) * i + (1 : Int)) = (2 : Int) * i + (1 : Int), obB true ((2 : Int) * i + (1 : Int) = word), i = i, (1 : Int) = (1 : Int), true = true]) := by kernel_rfl
theorem of_end (g word i : Int) : roundX P noCt 100 20 none (lpAt P 16 [1,1,0,1,0]) (mkOf g word i) [.cmp false] 0 [] (anySt 27) =
    some (Exit.exit 0, [IntKind.i64.wrap (g * (2 : Int)) = g * (2 : Int), obB false (i < g * (2 : Int))]) := by kernel_rfl
theorem gr_round (g word i : Int) : roundX P noCt 100 20 none (lpAt P 17 [1,1,0,1,0]) (mkG g word i) [.cmp true, .cmp false, .cmp false] 0 [] (mkG g word (i + 1)) =
    some (Exit.normal, [obB true (i < g), obB false ((2 : Int) * i = word), IntKind.i64.wrap ((2 : Int) * i + (1 : Int)) = (2 : Int) * i + (1 : Int), obB false ((2 : Int) * i + (1 : Int) = word), IntKind.i64.wrap ((2 : Int) * i + (1 : Int) + (1 : Int)) = (2 : Int) * i + (1 : Int) + (1 : Int), IntKind.i64.wrap (i + (1 : Int)) = i + (1 : Int), g = g, word = word, (2 : Int) * i + (1 : Int) + (1 : Int) = (2 : Int) * (i + (1 : Int)), i + (1 : Int) = i + (1 : Int)]) := by kernel_rfl
theorem gr_found0 (g word i : Int) : roundX P noCt 100 20 none (lpAt P 17 [1,1,0,1,0]) (mkG g word i) [.cmp true, .cmp true] 0 [] (finG i) =
    some (Exit.ret, [obB true (i < g), obB true ((2 : Int) * i = word), i = i]) := by kernel_rfl
theorem gr_found1 (g word i : Int) : roundX P noCt 100 20 none (lpAt P 17 [1,1,0,1,0]) (mkG g word i) [.cmp true, .cmp false, .cmp true] 0 [] (finG i) =
    some (Exit.ret, [obB true (i < g), obB false ((2 : Int) * i = word), IntKind.i64.wrap ((2 : Int) * i + (1 : Int)) = (2 : Int) * i + (1 : Int), obB true ((2 : Int) * i + (1 : Int) = word), i = i]) := by kernel_rfl
theorem gr_end (g word i : Int) : roundX P noCt 100 20 none (lpAt P 17 [1,1,0,1,0]) (mkG g word i) [.cmp false] 0 [] (anySt 23) =
    some (Exit.exit 0, [obB false (i < g)]) := by kernel_rfl
theorem of_in (g word : Int) : callR P noCt 100 20 16 [.s .i64 g, .s .i64 word] [] [.lp ofFound] [] (.tup [.s .i64 (word.tdiv 2), .s .i64 (word.tmod 2), .b true]) [] [] =
    some [LoopOK P none (lpAt P 16 [1,1,0,1,0]) ofFound, g = g, word = word, (0 : Int) = (0 : Int), (0 : Int) = (0 : Int), (0 : Int) ≤ word, word < (4 : Int) * g, g ≤ (16 : Int), word.tdiv 2 = word.tdiv 2, word.tmod 2 = word.tmod 2, true = true] := by kernel_rfl
theorem of_out (g word : Int) : callR P noCt 100 20 16 [.s .i64 g, .s .i64 word] [] [.lp ofNone] [] (.tup [.i .i64 0, .i .i64 0, .b false]) [] [] =
    some [LoopOK P none (lpAt P 16 [1,1,0,1,0]) ofNone, g = g, word = word, (0 : Int) = (0 : Int), (0 : Int) = (0 : Int), (0 : Int) ≤ g, g ≤ (16 : Int), ¬((0 : Int) ≤ word ∧ word < (4 : Int) * g), (0 : Int) = (0 : Int), (0 : Int) = (0 : Int), false = false] := by kernel_rfl
theorem gr_in (g word : Int) : callR P noCt 100 20 17 [.s .i64 g, .s .i64 word] [] [.lp grFound] [] (.s .i64 (word.tdiv 2)) [] [] =
    some [LoopOK P none (lpAt P 17 [1,1,0,1,0]) grFound, g = g, word = word, (0 : Int) = (0 : Int), (0 : Int) = (0 : Int), (0 : Int) ≤ word, word < (2 : Int) * g, g ≤ (16 : Int), word.tdiv 2 = word.tdiv 2] := by kernel_rfl
theorem gr_out (g word : Int) : callR P noCt 100 20 17 [.s .i64 g, .s .i64 word] [] [.lp grNone] [] (.i .i64 (-1)) [] [] =
    some [LoopOK P none (lpAt P 17 [1,1,0,1,0]) grNone, g = g, word = word, (0 : Int) = (0 : Int), (0 : Int) = (0 : Int), (0 : Int) ≤ g, g ≤ (16 : Int), ¬((0 : Int) ≤ word ∧ word < (2 : Int) * g), (-1 : Int) = (-1 : Int)] := by kernel_rfl

theorem ofFound_ok : LoopOK P none (lpAt P 16 [1,1,0,1,0]) ofFound := lpOf_ok (fun p ho => by
  obtain ⟨g, word⟩ := p
  simp only [AllP, and_true] at ho
  obtain ⟨h0, h1, h2⟩ := ho
  have e1 : word.tdiv 2 = word / 2 := Int.tdiv_eq_ediv_of_nonneg h0
  have e2 : word.tmod 2 = word % 2 := Int.tmod_eq_emod_of_nonneg h0
  obtain ⟨j, hj⟩ : ∃ j : Nat, word / 2 = j := ⟨(word / 2).toNat, by omega⟩
  have hst : ∀ i, i < j → Walk (cW P (lpAt P 16 [1,1,0,1,0])) none 0 (mkOf g word i) .normal (mkOf g word ((i + 1 : Nat) : Int)) := fun i hi => by rw [Int.natCast_succ]; exact roundX_sound noCt_ok (of_round g word i) (by (repeat' first | exact trivial | refine And.intro ?_ ?_) <;> first | exact obT (by assumption) | exact obF (by assumption) | exact obT (by omega) | exact obF (by omega) | exact wrap_i64 (by omega) | rfl | omega)
  rcases (show word % 2 = 0 ∨ word % 2 = 1 by omega) with hm | hm
  · have := loop_walk (mk := fun i : Nat => mkOf g word i) (by simp) j (fun _ _ => rfl) hst (roundX_sound noCt_ok (of_found0 g word j) (by (repeat' first | exact trivial | refine And.intro ?_ ?_) <;> first | exact obT (by assumption) | exact obF (by assumption) | exact obT (by omega) | exact obF (by omega) | exact wrap_i64 (by omega) | rfl | omega))
    show Walk _ none 0 (mkOf g word 0) .ret (finOf (word.tdiv 2) (word.tmod 2))
    rw [e1, e2, hj, hm]; exact this
  · have := loop_walk (mk := fun i : Nat => mkOf g word i) (by simp) j (fun _ _ => rfl) hst (roundX_sound noCt_ok (of_found1 g word j) (by (repeat' first | exact trivial | refine And.intro ?_ ?_) <;> first | exact obT (by assumption) | exact obF (by assumption) | exact obT (by omega) | exact obF (by omega) | exact wrap_i64 (by omega) | rfl | omega))
    show Walk _ none 0 (mkOf g word 0) .ret (finOf (word.tdiv 2) (word.tmod 2))
    rw [e1, e2, hj, hm]; exact this)
theorem ofNone_ok : LoopOK P none (lpAt P 16 [1,1,0,1,0]) ofNone := lpOf_ok (fun p ho => by
  obtain ⟨g, word⟩ := p
  simp only [AllP, and_true] at ho
  obtain ⟨h0, h1, h2⟩ := ho
  obtain ⟨j, hj⟩ : ∃ j : Nat, g * 2 = j := ⟨(g * 2).toNat, by omega⟩
  have hst : ∀ i, i < j → Walk (cW P (lpAt P 16 [1,1,0,1,0])) none 0 (mkOf g word i) .normal (mkOf g word ((i + 1 : Nat) : Int)) := fun i hi => by rw [Int.natCast_succ]; exact roundX_sound noCt_ok (of_round g word i) (by (repeat' first | exact trivial | refine And.intro ?_ ?_) <;> first | exact obT (by assumption) | exact obF (by assumption) | exact obT (by omega) | exact obF (by omega) | exact wrap_i64 (by omega) | rfl | omega)
  exact loop_walk (mk := fun i : Nat => mkOf g word i) (by simp) j (fun _ _ => rfl) hst (roundX_sound noCt_ok (of_end g word j) (by (repeat' first | exact trivial | refine And.intro ?_ ?_) <;> first | exact obT (by assumption) | exact obF (by assumption) | exact obT (by omega) | exact obF (by omega) | exact wrap_i64 (by omega) | rfl | omega)))
theorem grFound_ok : LoopOK P none (lpAt P 17 [1,1,0,1,0]) grFound := lpOf_ok (fun p ho => by
  obtain ⟨g, word⟩ := p
  simp only [AllP, and_true] at ho
  obtain ⟨h0, h1, h2⟩ := ho
  have e1 : word.tdiv 2 = word / 2 := Int.tdiv_eq_ediv_of_nonneg h0
  obtain ⟨j, hj⟩ : ∃ j : Nat, word / 2 = j := ⟨(word / 2).toNat, by omega⟩
  have hst : ∀ i, i < j → Walk (cW P (lpAt P 17 [1,1,0,1,0])) none 0 (mkG g word i) .normal (mkG g word ((i + 1 : Nat) : Int)) := fun i hi => by rw [Int.natCast_succ]; exact roundX_sound noCt_ok (gr_round g word i) (by (repeat' first | exact trivial | refine And.intro ?_ ?_) <;> first | exact obT (by assumption) | exact obF (by assumption) | exact obT (by omega) | exact obF (by omega) | exact wrap_i64 (by omega) | rfl | omega)
  rcases (show word % 2 = 0 ∨ word % 2 = 1 by omega) with hm | hm
  · have := loop_walk (mk := fun i : Nat => mkG g word i) (by simp) j (fun _ _ => rfl) hst (roundX_sound noCt_ok (gr_found0 g word j) (by (repeat' first | exact trivial | refine And.intro ?_ ?_) <;> first | exact obT (by assumption) | exact obF (by assumption) | exact obT (by omega) | exact obF (by omega) | exact wrap_i64 (by omega) | rfl | omega))
    show Walk _ none 0 (mkG g word 0) .ret (finG (word.tdiv 2))
    rw [e1, hj]; exact this
  · have := loop_walk (mk := fun i : Nat => mkG g word i) (by simp) j (fun _ _ => rfl) hst (roundX_sound noCt_ok (gr_found1 g word j) (by (repeat' first | exact trivial | refine And.intro ?_ ?_) <;> first | exact obT (by assumption) | exact obF (by assumption) | exact obT (by omega) | exact obF (by omega) | exact wrap_i64 (by omega) | rfl | omega))
    show Walk _ none 0 (mkG g word 0) .ret (finG (word.tdiv 2))
    rw [e1, hj]; exact this)
theorem grNone_ok : LoopOK P none (lpAt P 17 [1,1,0,1,0]) grNone := lpOf_ok (fun p ho => by
  obtain ⟨g, word⟩ := p
  simp only [AllP, and_true] at ho
  obtain ⟨h0, h1, h2⟩ := ho
  obtain ⟨j, hj⟩ : ∃ j : Nat, g = j := ⟨g.toNat, by omega⟩
  have hst : ∀ i, i < j → Walk (cW P (lpAt P 17 [1,1,0,1,0])) none 0 (mkG g word i) .normal (mkG g word ((i + 1 : Nat) : Int)) := fun i hi => by rw [Int.natCast_succ]; exact roundX_sound noCt_ok (gr_round g word i) (by (repeat' first | exact trivial | refine And.intro ?_ ?_) <;> first | exact obT (by assumption) | exact obF (by assumption) | exact obT (by omega) | exact obF (by omega) | exact wrap_i64 (by omega) | rfl | omega)
  exact loop_walk (mk := fun i : Nat => mkG g word i) (by simp) j (fun _ _ => rfl) hst (roundX_sound noCt_ok (gr_end g word j) (by (repeat' first | exact trivial | refine And.intro ?_ ?_) <;> first | exact obT (by assumption) | exact obF (by assumption) | exact obT (by omega) | exact obF (by omega) | exact wrap_i64 (by omega) | rfl | omega)))

def checkS : List LV → List Vse.Tok → List Ans → FOut := fun args m an =>
  match symLs args, m with
  | [.agg [.s .i64 c0, .s .i64 c1, .s .i64 c2, .s .i64 c3, .s .i64 c4, .s .i64 c5, .s .i64 c6]], [] =>
    (match askB (mayC c0 c1 c2 c3 c4 c5 c6) an with | some (r, ob, an) => some (.i .i64 (bif r then 0 else 10), [], [], ob, an) | none => none)
  | _, _ => none
def mayS : List LV → List Vse.Tok → List Ans → FOut := fun args m an =>
  match symLs args, m with
  | [.agg [.s .i64 c0, .s .i64 c1, .s .i64 c2, .s .i64 c3, .s .i64 c4, .s .i64 c5, .s .i64 c6]], [] =>
    (match askB (mayC c0 c1 c2 c3 c4 c5 c6) an with | some (r, ob, an) => some (.b r, [], [], ob, an) | none => none)
  | _, _ => none
def awakeS : List LV → List Vse.Tok → List Ans → FOut := fun args m an =>
  match args, m with
  | [], [] => some (.b true, [], [], [], an)
  | _, _ => none
def ofS : List LV → List Vse.Tok → List Ans → FOut := fun args m an =>
  match symLs args, m with
  | [.s .i64 g, .s .i64 word], [] =>
    (match askB (0 ≤ word ∧ word < 4 * g) an with
     | some (r, ob, an) => some (bif r then .tup [.s .i64 (word.tdiv 2), .s .i64 (word.tmod 2), .b true] else .tup [.i .i64 0, .i .i64 0, .b false], [], [], (0 ≤ g ∧ g ≤ 16) :: ob, an)
     | none => none)
  | _, _ => none
def grS : List LV → List Vse.Tok → List Ans → FOut := fun args m an =>
  match symLs args, m with
  | [.s .i64 g, .s .i64 word], [] =>
    (match askB (0 ≤ word ∧ word < 2 * g) an with
     | some (r, ob, an) => some (bif r then .s .i64 (word.tdiv 2) else .i .i64 (-1), [], [], (0 ≤ g ∧ g ≤ 16) :: ob, an)
     | none => none)
  | _, _ => none

theorem checkS_ok : SpecOK P 8 checkS := fun args m an v m' wr ob an' h ho => by
  unfold checkS at h
  split at h
  · rename_i c0 c1 c2 c3 c4 c5 c6 he
    split at h
    · rename_i r ob an1 hask
      cases h
      have hr := askB_sound hask ho
      cases r with
      | true => exact ((check_trip c0 c1 c2 c3 c4 c5 c6).1 (hr.1 rfl)).args (by rw [he]; rfl)
      | false => exact ((check_trip c0 c1 c2 c3 c4 c5 c6).2 (fun h => by have := hr.2 h; cases this)).args (by rw [he]; rfl)
    · cases h
  · cases h
theorem mayS_ok : SpecOK P 19 mayS := fun args m an v m' wr ob an' h ho => by
  unfold mayS at h
  split at h
  · rename_i c0 c1 c2 c3 c4 c5 c6 he
    split at h
    · rename_i r ob an1 hask
      cases h
      have hr := askB_sound hask ho
      cases r with
      | true => exact ((may_trip c0 c1 c2 c3 c4 c5 c6).1 (hr.1 rfl)).args (by rw [he]; rfl)
      | false => exact ((may_trip c0 c1 c2 c3 c4 c5 c6).2 (fun h => by have := hr.2 h; cases this)).args (by rw [he]; rfl)
    · cases h
  · cases h
theorem awakeS_ok : SpecOK P 11 awakeS := fun args m an v m' wr ob an' h ho => by
  unfold awakeS at h
  split at h
  · cases h; exact awake_trip
  · cases h
theorem ofS_ok : SpecOK P 16 ofS := fun args m an v m' wr ob an' h ho => by
  unfold ofS at h
  split at h
  · rename_i g word he
    split at h
    · rename_i r ob an1 hask
      cases h
      simp only [AllP] at ho
      have hr := askB_sound hask ho.2
      obtain ⟨⟨h1, h2⟩, _⟩ := ho
      cases r with
      | true =>
        have h3 := hr.1 rfl
        exact (FTrip.callR noCt_ok (of_in g word) (by refine ⟨ofFound_ok, ?_⟩; exact (by (repeat' first | exact trivial | refine And.intro ?_ ?_) <;> first | exact obT (by assumption) | exact obF (by assumption) | exact obT (by omega) | exact obF (by omega) | exact wrap_i64 (by omega) | rfl | omega))).args (by rw [he]; rfl)
      | false =>
        have h3 : ¬ (0 ≤ word ∧ word < 4 * g) := fun h => by have := hr.2 h; cases this
        exact (FTrip.callR noCt_ok (of_out g word) (by refine ⟨ofNone_ok, ?_⟩; exact (by (repeat' first | exact trivial | refine And.intro ?_ ?_) <;> first | exact obT (by assumption) | exact obF (by assumption) | exact obT (by omega) | exact obF (by omega) | exact wrap_i64 (by omega) | rfl | omega))).args (by rw [he]; rfl)
    · cases h
  · cases h
theorem grS_ok : SpecOK P 17 grS := fun args m an v m' wr ob an' h ho => by
  unfold grS at h
  split at h
  · rename_i g word he
    split at h
    · rename_i r ob an1 hask
      cases h
      simp only [AllP] at ho
      have hr := askB_sound hask ho.2
      obtain ⟨⟨h1, h2⟩, _⟩ := ho
      cases r with
      | true =>
        have h3 := hr.1 rfl
        exact (FTrip.callR noCt_ok (gr_in g word) (by refine ⟨grFound_ok, ?_⟩; exact (by (repeat' first | exact trivial | refine And.intro ?_ ?_) <;> first | exact obT (by assumption) | exact obF (by assumption) | exact obT (by omega) | exact obF (by omega) | exact wrap_i64 (by omega) | rfl | omega))).args (by rw [he]; rfl)
      | false =>
        have h3 : ¬ (0 ≤ word ∧ word < 2 * g) := fun h => by have := hr.2 h; cases this
        exact (FTrip.callR noCt_ok (gr_out g word) (by refine ⟨grNone_ok, ?_⟩; exact (by (repeat' first | exact trivial | refine And.intro ?_ ?_) <;> first | exact obT (by assumption) | exact obF (by assumption) | exact obT (by omega) | exact obF (by omega) | exact wrap_i64 (by omega) | rfl | omega))).args (by rw [he]; rfl)
    · cases h
  · cases h
def ct : Ctrs := fun f =>
  if f = 8 then some (.spec checkS) else if f = 19 then some (.spec mayS) else if f = 11 then some (.spec awakeS) else if f = 16 then some (.spec ofS) else if f = 17 then some (.spec grS) else none
theorem ct_ok : CtOK P ct := fun f s h => by
  unfold ct at h
  split at h
  · rename_i e; subst e; cases h; exact checkS_ok
  · split at h
    · rename_i e; subst e; cases h; exact mayS_ok
    · split at h
      · rename_i e; subst e; cases h; exact awakeS_ok
      · split at h
        · rename_i e; subst e; cases h; exact ofS_ok
        · split at h
          · rename_i e; subst e; cases h; exact grS_ok
          · cases h

end Go.Proofs.Ytjjfnpidgochnaa
