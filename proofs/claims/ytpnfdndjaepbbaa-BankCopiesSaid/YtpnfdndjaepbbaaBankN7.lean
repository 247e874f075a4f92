/- Whether two rows of words are alike: the loop. -/
import Derived.Test.YtpnfdndjaepbbaaBankN6
namespace Go.Proofs.Ytpnfdndjaepbbaa
open Go Go.Vse
set_option maxRecDepth 100000
set_option maxHeartbeats 4000000

/-- Are so many words of two memories the same? -/
def alkB (a b : MM) : Nat → Bool
  | 0 => true
  | k + 1 => alkB a b k && decide (a.W k = b.W k)
theorem alkB_iff {a b : MM} : ∀ k, alkB a b k = true ↔ ∀ i, i < k → a.W i = b.W i
  | 0 => by simp [alkB]
  | k + 1 => by
    simp only [alkB, Bool.and_eq_true, alkB_iff k, decide_eq_true_eq]
    constructor
    · intro h i hi
      rcases Nat.lt_succ_iff_lt_or_eq.1 hi with h1 | h1
      · exact h.1 i h1
      · rw [h1]; exact h.2
    · intro h
      exact ⟨fun i hi => h i (by omega), h k (by omega)⟩
abbrev mL (b a : MM) : List Vse.Tok := mC2 .hid b a ++ [.defd, .hid]
abbrev mLop (b a : MM) : List Vse.Tok := opn (opn (mL b a) 5 (repR a)) 10 (repR b)
def mkL (b a : MM) (c : Bool) (i : Int) : St := { fr := Tr.but 195 [(6, .p 3 0), (7, .p 4 0), (9, .p 6 0), (11, .p 7 0), (13, .p 10 0), (17, .b c), (18, .s .i64 i)], n := 195, m := mL b a, dm := [11], wr := [] }
def mkLo3 (b a : MM) (c : Bool) (i : Int) : St := { fr := Tr.but 195 [(6, .p 3 0), (7, .p 4 0), (9, .p 6 0), (11, .p 7 0), (13, .p 10 0), (17, .b c), (18, .s .i64 i)], n := 195, m := mLop b a, dm := [11], wr := [] }
def finL (b a : MM) (c : Bool) : St := { fr := Tr.but 195 [(6, .p 3 0), (7, .p 4 0), (9, .p 6 0), (11, .p 7 0), (13, .p 10 0), (17, .b c)], n := 195, m := mL b a ++ [.hid, .hid], dm := [11], wr := [] }
def finLo3 (b a : MM) (c : Bool) : St := { fr := Tr.but 195 [(6, .p 3 0), (7, .p 4 0), (9, .p 6 0), (11, .p 7 0), (13, .p 10 0), (17, .b c)], n := 195, m := mLop b a, dm := [11], wr := [] }
theorem al_f (b a : MM) (i : Int) : roundX P noCt 100 30 none (lpAt P 5 [1,1,1,1,1,1,1,1,1,1,1,1,1,0,1,0]) (mkLo3 b a false i) [.cmp true] 13 [none, none, none, some 3, some 4, some 5, some 6, some 7, some 8, some 9, some 10, some 11, none, some 13, some 14] (mkLo3 b a false (i + 1)) =
    some (Exit.normal, [obB true (i < ((4 * a.c1.toNat : Nat) : Int)), IntKind.i64.wrap (i + (1 : Int)) = i + (1 : Int), false = false, AbT.mem b = AbT.mem b, 4 * a.c1.toNat = 4 * a.c1.toNat, a.c6 = a.c6, a.R 0 = a.R 0, a.R 1 = a.R 1, a.R 2 = a.R 2, a.R 3 = a.R 3, a.Q 0 = a.Q 0, a.Q 1 = a.Q 1, a.Q 2 = a.Q 2, a.Q 3 = a.Q 3, AbT.mem a = AbT.mem a, AbT.mem a = AbT.mem a, 4 * b.c1.toNat = 4 * b.c1.toNat, b.c6 = b.c6, b.R 0 = b.R 0, b.R 1 = b.R 1, b.R 2 = b.R 2, b.R 3 = b.R 3, b.Q 0 = b.Q 0, b.Q 1 = b.Q 1, b.Q 2 = b.Q 2, b.Q 3 = b.Q 3, wordS a.W (4 * a.c1.toNat) = wordS a.W (4 * a.c1.toNat), wordS b.W (4 * b.c1.toNat) = wordS b.W (4 * b.c1.toNat), false = false, i + (1 : Int) = i + (1 : Int)]) := by kernel_rfl
theorem al_tt (b a : MM) (i : Int) : roundX P noCt 100 30 none (lpAt P 5 [1,1,1,1,1,1,1,1,1,1,1,1,1,0,1,0]) (mkLo3 b a true i) [.cmp true, .cmp true, .ld [.s .i64 (a.W i.toNat)], .ld [.s .i64 (b.W i.toNat)]] 13 [none, none, none, some 3, some 4, some 5, some 6, some 7, some 8, some 9, some 10, some 11, none, some 13, some 14] (mkLo3 b a true (i + 1)) =
    some (Exit.normal, [obB true (i < ((4 * a.c1.toNat : Nat) : Int)), (0 : Int) ≤ i ∧ i < ((4 * a.c1.toNat : Nat) : Int), Option.map Sc.lv (wordS a.W (4 * a.c1.toNat))[i.toNat * 1]? = some (sI (a.W i.toNat)), (0 : Int) ≤ i ∧ i < ((4 * b.c1.toNat : Nat) : Int), Option.map Sc.lv (wordS b.W (4 * b.c1.toNat))[i.toNat * 1]? = some (sI (b.W i.toNat)), obB true (a.W i.toNat = b.W i.toNat), IntKind.i64.wrap (i + (1 : Int)) = i + (1 : Int), false = false, AbT.mem b = AbT.mem b, 4 * a.c1.toNat = 4 * a.c1.toNat, a.c6 = a.c6, a.R 0 = a.R 0, a.R 1 = a.R 1, a.R 2 = a.R 2, a.R 3 = a.R 3, a.Q 0 = a.Q 0, a.Q 1 = a.Q 1, a.Q 2 = a.Q 2, a.Q 3 = a.Q 3, AbT.mem a = AbT.mem a, AbT.mem a = AbT.mem a, 4 * b.c1.toNat = 4 * b.c1.toNat, b.c6 = b.c6, b.R 0 = b.R 0, b.R 1 = b.R 1, b.R 2 = b.R 2, b.R 3 = b.R 3, b.Q 0 = b.Q 0, b.Q 1 = b.Q 1, b.Q 2 = b.Q 2, b.Q 3 = b.Q 3, wordS a.W (4 * a.c1.toNat) = wordS a.W (4 * a.c1.toNat), wordS b.W (4 * b.c1.toNat) = wordS b.W (4 * b.c1.toNat), true = true, i + (1 : Int) = i + (1 : Int)]) := by kernel_rfl
theorem al_tf (b a : MM) (i : Int) : roundX P noCt 100 30 none (lpAt P 5 [1,1,1,1,1,1,1,1,1,1,1,1,1,0,1,0]) (mkLo3 b a true i) [.cmp true, .cmp false, .ld [.s .i64 (a.W i.toNat)], .ld [.s .i64 (b.W i.toNat)]] 13 [none, none, none, some 3, some 4, some 5, some 6, some 7, some 8, some 9, some 10, some 11, none, some 13, some 14] (mkLo3 b a false (i + 1)) =
    some (Exit.normal, [obB true (i < ((4 * a.c1.toNat : Nat) : Int)), (0 : Int) ≤ i ∧ i < ((4 * a.c1.toNat : Nat) : Int), Option.map Sc.lv (wordS a.W (4 * a.c1.toNat))[i.toNat * 1]? = some (sI (a.W i.toNat)), (0 : Int) ≤ i ∧ i < ((4 * b.c1.toNat : Nat) : Int), Option.map Sc.lv (wordS b.W (4 * b.c1.toNat))[i.toNat * 1]? = some (sI (b.W i.toNat)), obB false (a.W i.toNat = b.W i.toNat), IntKind.i64.wrap (i + (1 : Int)) = i + (1 : Int), false = false, AbT.mem b = AbT.mem b, 4 * a.c1.toNat = 4 * a.c1.toNat, a.c6 = a.c6, a.R 0 = a.R 0, a.R 1 = a.R 1, a.R 2 = a.R 2, a.R 3 = a.R 3, a.Q 0 = a.Q 0, a.Q 1 = a.Q 1, a.Q 2 = a.Q 2, a.Q 3 = a.Q 3, AbT.mem a = AbT.mem a, AbT.mem a = AbT.mem a, 4 * b.c1.toNat = 4 * b.c1.toNat, b.c6 = b.c6, b.R 0 = b.R 0, b.R 1 = b.R 1, b.R 2 = b.R 2, b.R 3 = b.R 3, b.Q 0 = b.Q 0, b.Q 1 = b.Q 1, b.Q 2 = b.Q 2, b.Q 3 = b.Q 3, wordS a.W (4 * a.c1.toNat) = wordS a.W (4 * a.c1.toNat), wordS b.W (4 * b.c1.toNat) = wordS b.W (4 * b.c1.toNat), false = false, i + (1 : Int) = i + (1 : Int)]) := by kernel_rfl
theorem al_end (b a : MM) (c : Bool) (i : Int) : roundX P noCt 100 30 none (lpAt P 5 [1,1,1,1,1,1,1,1,1,1,1,1,1,0,1,0]) (mkLo3 b a c i) [.cmp false] 13 [none, none, none, some 3, some 4, some 5, some 6, some 7, some 8, some 9, some 10, some 11, none, some 13, some 14] (finLo3 b a c) =
    some (Exit.exit 6, [obB false (i < ((4 * a.c1.toNat : Nat) : Int)), false = false, AbT.mem b = AbT.mem b, 4 * a.c1.toNat = 4 * a.c1.toNat, a.c6 = a.c6, a.R 0 = a.R 0, a.R 1 = a.R 1, a.R 2 = a.R 2, a.R 3 = a.R 3, a.Q 0 = a.Q 0, a.Q 1 = a.Q 1, a.Q 2 = a.Q 2, a.Q 3 = a.Q 3, AbT.mem a = AbT.mem a, AbT.mem a = AbT.mem a, 4 * b.c1.toNat = 4 * b.c1.toNat, b.c6 = b.c6, b.R 0 = b.R 0, b.R 1 = b.R 1, b.R 2 = b.R 2, b.R 3 = b.R 3, b.Q 0 = b.Q 0, b.Q 1 = b.Q 1, b.Q 2 = b.Q 2, b.Q 3 = b.Q 3, wordS a.W (4 * a.c1.toNat) = wordS a.W (4 * a.c1.toNat), wordS b.W (4 * b.c1.toNat) = wordS b.W (4 * b.c1.toNat), c = c]) := by kernel_rfl
def alLp (b a : MM) (r : Bool) : LoopFn := lpOf 13 [none, none, none, some 3, some 4, some 5, some 6, some 7, some 8, some 9, some 10, some 11, none] none (fun _ => some ()) (fun _ => mkL b a (alkB a b 0) 0) (.exit 6) (fun _ => finL b a r) [12] (fun _ => [a.ok, b.ok, a.c1 = b.c1, alkB a b (4 * a.c1.toNat) = r])
theorem alLp_ok (b a : MM) (r : Bool) : LoopOK P none (lpAt P 5 [1,1,1,1,1,1,1,1,1,1,1,1,1,0,1,0]) (alLp b a r) := lpOf_ok (fun _ hob => by
  simp only [AllP, and_true] at hob
  obtain ⟨ha, hb, h1, hr⟩ := hob
  subst hr
  have ho := ha
  simp only [MM.ok, okI] at ho
  have hst : ∀ n, n < 4 * a.c1.toNat → Walk (cW P (lpAt P 5 [1,1,1,1,1,1,1,1,1,1,1,1,1,0,1,0])) none 13 (mkLo3 b a (alkB a b n) ((n : Nat) : Int)) .normal (mkLo3 b a (alkB a b (n + 1)) ((n + 1 : Nat) : Int)) := fun n hn => by
    rw [Int.natCast_succ]
    have hi : ((n : Nat) : Int) < ((4 * a.c1.toNat : Nat) : Int) := by omega
    have hwa := wrd_ld1 (W := a.W) (n := 4 * a.c1.toNat) (k := n) (i := ((n : Nat) : Int)) (by omega) (by omega)
    have hwb := wrd_ld1 (W := b.W) (n := 4 * b.c1.toNat) (k := n) (i := ((n : Nat) : Int)) (by omega) (by rw [← h1]; omega)
    have hlb : (0 : Int) ≤ ((n : Nat) : Int) ∧ ((n : Nat) : Int) < ((4 * b.c1.toNat : Nat) : Int) := by rw [← h1]; omega
    cases hal : alkB a b n with
    | false =>
      have e : alkB a b (n + 1) = false := by simp [alkB, hal]
      rw [e]
      exact roundX_sound noCt_ok (al_f b a n) (by (with_reducible repeat' first | exact AllP_nil | refine AllP_cons ?_ ?_ | refine And.intro ?_ ?_) <;> first | rfl | assumption | exact obT hi | exact obT (by first | assumption | omega) | exact obF (by first | assumption | omega) | exact wrap_i64 (by omega) | omega)
    | true =>
      by_cases hd : a.W n = b.W n
      · have e : alkB a b (n + 1) = true := by simp [alkB, hal, hd]
        rw [e]
        exact roundX_sound noCt_ok (al_tt b a n) (by (with_reducible repeat' first | exact AllP_nil | refine AllP_cons ?_ ?_ | refine And.intro ?_ ?_) <;> first | rfl | assumption | exact obT hi | exact hwa | exact hwb | exact obT hd | exact hlb | exact hlb.2 | exact obT (by first | assumption | omega) | exact obF (by first | assumption | omega) | exact wrap_i64 (by omega) | omega)
      · have e : alkB a b (n + 1) = false := by simp [alkB, hal, hd]
        rw [e]
        exact roundX_sound noCt_ok (al_tf b a n) (by (with_reducible repeat' first | exact AllP_nil | refine AllP_cons ?_ ?_ | refine And.intro ?_ ?_) <;> first | rfl | assumption | exact obT hi | exact hwa | exact hwb | exact obF hd | exact hlb | exact hlb.2 | exact obT (by first | assumption | omega) | exact obF (by first | assumption | omega) | exact wrap_i64 (by omega) | omega)
  have hw := loop_walk (mk := fun n : Nat => mkLo3 b a (alkB a b n) ((n : Nat) : Int)) (by simp) (4 * a.c1.toNat) (fun _ _ => rfl) hst (roundX_sound noCt_ok (al_end b a _ _) (by (with_reducible repeat' first | exact AllP_nil | refine AllP_cons ?_ ?_ | refine And.intro ?_ ?_) <;> first | rfl | assumption | exact obT (by first | assumption | omega) | exact obF (by first | assumption | omega) | exact wrap_i64 (by omega) | omega))
  have h2 := (hw.shut (k := 5) (J := [13]) (refOK ha) rfl rfl rfl).shut (k := 10) (J := [14]) (refOK hb) rfl rfl rfl
  have h3 : Walk (fun F Q a w => LoopIn F P (lpAt P 5 [1,1,1,1,1,1,1,1,1,1,1,1,1,0,1,0]) Q a w) none 13 (mkL b a (alkB a b 0) 0) (.exit 6) _ := ((Walk.opn (st := { mkL b a (alkB a b 0) 0 with m := opn (mL b a) 5 (repR a) }) h2 (k := 10) (a := (.ref b : Abst.Ab)) rfl (refOK hb) (by simp [opn, mL, mC2])).opn (st := mkL b a (alkB a b 0) 0) (k := 5) (a := (.ref a : Abst.Ab)) rfl (refOK ha) (by simp [mkL, mL, mC2]))
  exact h3)
abbrev nA (z : MM) : MM := newA z.c0 z.c1 z.c2 z.c3 z.c4 z.c5 z.c6
abbrev oA (fs : List Sc) (o n : Nat) (z : MM) : MM := opsM (List.drop o fs) n (nA z)
end Go.Proofs.Ytpnfdndjaepbbaa
