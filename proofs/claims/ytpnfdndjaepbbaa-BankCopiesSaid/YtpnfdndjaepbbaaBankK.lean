/- Calls, one by one. -/
import Derived.Test.YtpnfdndjaepbbaaBankJ
namespace Go.Proofs.Ytpnfdndjaepbbaa
open Go Go.Vse
set_option maxRecDepth 100000
set_option maxHeartbeats 4000000

theorem ld5o {fs : List Sc} {o : Nat} (hI : isI (fs.drop o)) {k : Int} (h0 : 0 ≤ k) (h : 5 * k + 5 ≤ (fs.drop o).length) : ((fs.drop (o + k.toNat * 5)).take 5).map Sc.lv = [.s .i64 (sA (fs.drop o) (5 * k)), .s .i64 (sA (fs.drop o) (5 * k + 1)), .s .i64 (sA (fs.drop o) (5 * k + 2)), .s .i64 (sA (fs.drop o) (5 * k + 3)), .s .i64 (sA (fs.drop o) (5 * k + 4))] := by
  obtain ⟨n, rfl⟩ : ∃ n : Nat, k = n := ⟨k.toNat, by omega⟩
  rw [← List.drop_drop]
  generalize fs.drop o = gs at *
  have e : ∀ (j : Nat) (hj : j < 5), Sc.lv (gs[5 * n + j]'(by omega)) = .s .i64 (sA gs (5 * (n : Int) + (j : Int))) := fun j hj => by
    have h1 := sA_nat hI (j := 5 * n + j) (by omega)
    rw [List.getElem?_eq_getElem (by omega)] at h1
    have h2 : ((5 * n + j : Nat) : Int) = 5 * (n : Int) + (j : Int) := by omega
    rw [h2] at h1
    simpa using h1
  have e0 := e 0 (by omega); have e1 := e 1 (by omega); have e2 := e 2 (by omega); have e3 := e 3 (by omega); have e4 := e 4 (by omega)
  have hd : gs.drop (5 * n) = gs[5 * n]'(by omega) :: gs[5 * n + 1]'(by omega) :: gs[5 * n + 2]'(by omega) :: gs[5 * n + 3]'(by omega) :: gs[5 * n + 4]'(by omega) :: gs.drop (5 * n + 5) := by
    rw [List.drop_eq_getElem_cons (by omega), List.drop_eq_getElem_cons (by omega), List.drop_eq_getElem_cons (by omega), List.drop_eq_getElem_cons (by omega), List.drop_eq_getElem_cons (by omega)]
  have hk : ((n : Int)).toNat * 5 = 5 * n := by omega
  rw [hk, hd]
  simp only [List.take_succ_cons, List.take_zero, List.map_cons, List.map_nil, Nat.add_zero] at *
  rw [e0, e1, e2, e3, e4]
  simp
def opsM (gs : List Sc) : Nat → MM → MM
  | 0, a => a
  | k + 1, a => doesM (opsM gs k a) (sA gs (5 * (k : Int))) (sA gs (5 * (k : Int) + 1)) (sA gs (5 * (k : Int) + 2)) (sA gs (5 * (k : Int) + 3)) (sA gs (5 * (k : Int) + 4))
theorem opsM_ok {gs : List Sc} {a : MM} (ha : a.ok) : ∀ k, (opsM gs k a).ok ∧ (opsM gs k a).c1 = a.c1 ∧ (opsM gs k a).c6 = a.c6
  | 0 => ⟨ha, rfl, rfl⟩
  | k + 1 => by
    obtain ⟨h1, h2, h3⟩ := opsM_ok (gs := gs) ha k
    obtain ⟨g1, g2, g3⟩ := doesM_ok h1 (sA gs (5 * (k : Int))) (sA gs (5 * (k : Int) + 1)) (sA gs (5 * (k : Int) + 2)) (sA gs (5 * (k : Int) + 3)) (sA gs (5 * (k : Int) + 4))
    exact ⟨g1, g2.trans h2, g3.trans h3⟩
def rdsM : Nat → MM → MM
  | 0, a => a
  | k + 1, a => readM (rdsM k a) (k : Int)
theorem rdsM_ok {a : MM} (ha : a.ok) : ∀ k, (rdsM k a).ok ∧ (rdsM k a).c1 = a.c1 ∧ (rdsM k a).c6 = a.c6 ∧ (rdsM k a).W = a.W
  | 0 => ⟨ha, rfl, rfl, rfl⟩
  | k + 1 => by
    obtain ⟨h1, h2, h3, h4⟩ := rdsM_ok ha k
    exact ⟨h1, h2, h3, h4⟩
theorem awake_pure : PureOK P 8 [] (.b true) := pureOK_of noCt_ok awake_run trivial
def ctOf (l : List (FuncId × (List LV → List Vse.Tok → List Ans → FOut))) (dk : List FuncId) : Ctrs := fun f =>
  match l.find? (fun p => p.1 == f) with
  | some p => some (.spec p.2)
  | none => if dk.contains f then some .dark else none
theorem ctOf_ok {l : List (FuncId × (List LV → List Vse.Tok → List Ans → FOut))} {dk : List FuncId} (h : ∀ p ∈ l, SpecOK P p.1 p.2) : CtOK P (ctOf l dk) := fun f s hs => by
  unfold ctOf at hs
  split at hs
  · rename_i p hp
    cases hs
    have h1 := List.find?_some hp
    simp only [beq_iff_eq] at h1
    have := h p (List.mem_of_find?_eq_some hp)
    rw [h1] at this; exact this
  · split at hs <;> cases hs
def ctA (a : MM) : Ctrs := ctOf [(6, mayS), (9, bnewS), (10, rnewS a), (11, doesS a), (12, copyS), (13, writeS), (15, readS), (19, getS), (17, setS), (22, scrubS), (16, sameS), (14, linesS), (18, wordsS), (20, lineS), (21, granS)] [8]
theorem ctA_ok (a : MM) : CtOK P (ctA a) := ctOf_ok (by
  intro p hp
  simp only [List.mem_cons, List.not_mem_nil, or_false] at hp
  rcases hp with rfl | rfl | rfl | rfl | rfl | rfl | rfl | rfl | rfl | rfl | rfl | rfl | rfl | rfl | rfl
  · exact mayS_ok
  · exact bnewS_ok
  · exact rnewS_ok a
  · exact doesS_ok a
  · exact copyS_ok
  · exact writeS_ok
  · exact readS_ok
  · exact getS_ok
  · exact setS_ok
  · exact scrubS_ok
  · exact sameS_ok
  · exact linesS_ok
  · exact wordsS_ok
  · exact lineS_ok
  · exact granS_ok
  )
abbrev mLo (fs : List Sc) (a : MM) (q x v l0 l1 : Int) (b : MM) : List Vse.Tok := [.fl false 28 fs, .cells true 23 [.s .i64 a.c0, .s .i64 a.c1, .s .i64 a.c2, .s .i64 a.c3, .s .i64 a.c4, .s .i64 a.c5, .s .i64 a.c6], .cells true 28 [.s .i64 q, .s .i64 x, .s .i64 v, .s .i64 l0, .s .i64 l1], .abs (.mem b : Abst.Ab), .abs (.ref b : Abst.Ab)]
def mkLo (fs : List Sc) (o n c : Nat) (a : MM) (q x v l0 l1 : Int) (k : Nat) (i : Int) : St := { fr := Tr.but 138 [(1, .ss 0 o n c 5), (3, .p 1 0), (5, .p 2 0), (7, .p 3 0), (9, .p 4 0), (10, .s .i64 i)], n := 138, m := mLo fs a q x v l0 l1 (opsM (fs.drop o) k a), dm := [], wr := [] }
def finLo (fs : List Sc) (o n c : Nat) (a : MM) (q x v l0 l1 : Int) (k : Nat) : St := { fr := Tr.but 138 [(3, .p 1 0), (5, .p 2 0), (7, .p 3 0)], n := 138, m := mLo fs a q x v l0 l1 (opsM (fs.drop o) k a), dm := [], wr := [] }
theorem lo_step (fs : List Sc) (o n c : Nat) (a : MM) (q x v l0 l1 : Int) (k : Nat) (i : Int) : roundX P (ctA (opsM (fs.drop o) k a)) 100 30 none (lpAt P 3 [1,1,1,1,1,0,1,0]) (mkLo fs o n c a q x v l0 l1 k i) [.cmp true, .ld [.s .i64 (sA (fs.drop o) (5 * (k : Int))), .s .i64 (sA (fs.drop o) (5 * (k : Int) + 1)), .s .i64 (sA (fs.drop o) (5 * (k : Int) + 2)), .s .i64 (sA (fs.drop o) (5 * (k : Int) + 3)), .s .i64 (sA (fs.drop o) (5 * (k : Int) + 4))]] 5 [some 0, some 1, some 2, some 3, some 4] (mkLo fs o n c a q x v l0 l1 (k + 1) (i + 1)) =
    some (Exit.normal, [obB true (i < (n : Int)), (0 : Int) ≤ i ∧ i < (n : Int), List.map Sc.lv (List.take 5 (List.drop (o + i.toNat * 5) fs)) = [sI (sA (List.drop o fs) ((5 : Int) * (k : Int))), sI (sA (List.drop o fs) ((5 : Int) * (k : Int) + (1 : Int))), sI (sA (List.drop o fs) ((5 : Int) * (k : Int) + (2 : Int))), sI (sA (List.drop o fs) ((5 : Int) * (k : Int) + (3 : Int))), sI (sA (List.drop o fs) ((5 : Int) * (k : Int) + (4 : Int)))], [LV.p 0 0, LV.p 1 0, LV.agg [sI (sA (List.drop o fs) ((5 : Int) * (k : Int))), sI (sA (List.drop o fs) ((5 : Int) * (k : Int) + (1 : Int))), sI (sA (List.drop o fs) ((5 : Int) * (k : Int) + (2 : Int))), sI (sA (List.drop o fs) ((5 : Int) * (k : Int) + (3 : Int))), sI (sA (List.drop o fs) ((5 : Int) * (k : Int) + (4 : Int)))]] = [LV.p 0 0, LV.p 1 0, LV.agg [sI (sA (List.drop o fs) ((5 : Int) * (k : Int))), sI (sA (List.drop o fs) ((5 : Int) * (k : Int) + (1 : Int))), sI (sA (List.drop o fs) ((5 : Int) * (k : Int) + (2 : Int))), sI (sA (List.drop o fs) ((5 : Int) * (k : Int) + (3 : Int))), sI (sA (List.drop o fs) ((5 : Int) * (k : Int) + (4 : Int)))]], [Vse.Tok.abs (AbT.mem (opsM (List.drop o fs) k a)), Vse.Tok.abs (AbT.ref (opsM (List.drop o fs) k a))] = [Vse.Tok.abs (AbT.mem (opsM (List.drop o fs) k a)), Vse.Tok.abs (AbT.ref (opsM (List.drop o fs) k a))], (opsM (List.drop o fs) k a).ok, IntKind.i64.wrap (i + (1 : Int)) = i + (1 : Int), fs = fs, a.c0 = a.c0, a.c1 = a.c1, a.c2 = a.c2, a.c3 = a.c3, a.c4 = a.c4, a.c5 = a.c5, a.c6 = a.c6, q = q, x = x, v = v, l0 = l0, l1 = l1, AbT.mem (doesM (opsM (List.drop o fs) k a) (sA (List.drop o fs) ((5 : Int) * (k : Int))) (sA (List.drop o fs) ((5 : Int) * (k : Int) + (1 : Int))) (sA (List.drop o fs) ((5 : Int) * (k : Int) + (2 : Int))) (sA (List.drop o fs) ((5 : Int) * (k : Int) + (3 : Int))) (sA (List.drop o fs) ((5 : Int) * (k : Int) + (4 : Int)))) = AbT.mem (opsM (List.drop o fs) (k + 1) a), AbT.ref (doesM (opsM (List.drop o fs) k a) (sA (List.drop o fs) ((5 : Int) * (k : Int))) (sA (List.drop o fs) ((5 : Int) * (k : Int) + (1 : Int))) (sA (List.drop o fs) ((5 : Int) * (k : Int) + (2 : Int))) (sA (List.drop o fs) ((5 : Int) * (k : Int) + (3 : Int))) (sA (List.drop o fs) ((5 : Int) * (k : Int) + (4 : Int)))) = AbT.ref (opsM (List.drop o fs) (k + 1) a), o = o, n = n, c = c, 5 = 5, i + (1 : Int) = i + (1 : Int)]) := by kernel_rfl
theorem lo_end (fs : List Sc) (o n c : Nat) (a : MM) (q x v l0 l1 : Int) (k : Nat) (i : Int) : roundX P (ctA a) 100 30 none (lpAt P 3 [1,1,1,1,1,0,1,0]) (mkLo fs o n c a q x v l0 l1 k i) [.cmp false] 5 [some 0, some 1, some 2, some 3, some 4] (finLo fs o n c a q x v l0 l1 k) =
    some (Exit.exit 0, [obB false (i < (n : Int)), fs = fs, a.c0 = a.c0, a.c1 = a.c1, a.c2 = a.c2, a.c3 = a.c3, a.c4 = a.c4, a.c5 = a.c5, a.c6 = a.c6, q = q, x = x, v = v, l0 = l0, l1 = l1, AbT.mem (opsM (List.drop o fs) k a) = AbT.mem (opsM (List.drop o fs) k a), AbT.ref (opsM (List.drop o fs) k a) = AbT.ref (opsM (List.drop o fs) k a)]) := by kernel_rfl
def loLp (fs : List Sc) (o n c : Nat) (a : MM) (q x v l0 l1 : Int) : LoopFn := lpOf 5 [some 0, some 1, some 2, some 3, some 4] none (fun _ => some ()) (fun _ => mkLo fs o n c a q x v l0 l1 0 0) (.exit 0) (fun _ => finLo fs o n c a q x v l0 l1 n) [3, 4] (fun _ => [a.ok, isI (fs.drop o), (fs.drop o).length = 5 * n, n ≤ 1000])
theorem loLp_ok (fs : List Sc) (o n c : Nat) (a : MM) (q x v l0 l1 : Int) : LoopOK P none (lpAt P 3 [1,1,1,1,1,0,1,0]) (loLp fs o n c a q x v l0 l1) := lpOf_ok (fun _ hob => by
  simp only [AllP, and_true] at hob
  obtain ⟨ha, hI, hl, hn⟩ := hob
  have hst : ∀ k, k < n → Walk (cW P (lpAt P 3 [1,1,1,1,1,0,1,0])) none 5 (mkLo fs o n c a q x v l0 l1 k ((k : Nat) : Int)) .normal (mkLo fs o n c a q x v l0 l1 (k + 1) ((k + 1 : Nat) : Int)) := fun k hk => by
    rw [Int.natCast_succ]
    have hi : (k : Int) < (n : Int) := by omega
    have hok := (opsM_ok (gs := fs.drop o) ha k).1
    exact roundX_sound (ctA_ok _) (lo_step fs o n c a q x v l0 l1 k k) (by (with_reducible repeat' first | exact AllP_nil | refine AllP_cons ?_ ?_ | refine And.intro ?_ ?_) <;> first | rfl | assumption | exact obT hi | exact hok | exact ld5o hI (by omega) (by omega) | exact obT (by first | assumption | omega) | exact obF (by first | assumption | omega) | exact wrap_i64 (by omega) | omega)
  exact loop_walk (mk := fun k : Nat => mkLo fs o n c a q x v l0 l1 k ((k : Nat) : Int)) (by simp) n (fun _ _ => rfl) hst (roundX_sound (ctA_ok a) (lo_end fs o n c a q x v l0 l1 n n) (by (with_reducible repeat' first | exact AllP_nil | refine AllP_cons ?_ ?_ | refine And.intro ?_ ?_) <;> first | rfl | assumption | exact obT (by first | assumption | omega) | exact obF (by first | assumption | omega) | exact wrap_i64 (by omega) | omega)))
end Go.Proofs.Ytpnfdndjaepbbaa
