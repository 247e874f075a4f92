/- The law 'PlaceBack': its loops. -/
import Derived.Test.YtinblcmgnjcnlaaBackB
namespace Go.Proofs.Ytinblcmgnjcnlaa
open Go Go.Vse
set_option maxRecDepth 100000
set_option maxHeartbeats 4000000
abbrev mW (c0 c1 c2 c3 c4 c5 c6 : Int) : List Vse.Tok := [.cells true 23 [.s .i64 c0, .s .i64 c1, .s .i64 c2, .s .i64 c3, .s .i64 c4, .s .i64 c5, .i .i64 c6], .cells true 4 [.b false]]
def mkW (c0 c1 c2 c3 c4 c5 c6 : Int) (i : Int) : St := { fr := Tr.but 163 [(1, .p 0 0), (2, .p 1 0), (3, .s .i64 i)], n := 163, m := mW c0 c1 c2 c3 c4 c5 c6, dm := [], wr := [] }
def finW (c0 c1 c2 c3 c4 c5 c6 : Int) : St := { fr := Tr.but 163 [(1, .p 0 0), (2, .p 1 0)], n := 163, m := mW c0 c1 c2 c3 c4 c5 c6, dm := [], wr := [] }
/-- How many of the first so many lines a bank has. -/
def cnt (b j : Nat) : Nat → Nat
  | 0 => 0
  | n + 1 => cnt b j n + if n % b = j then 1 else 0
def gapG : Nat → List Vse.Tok
  | 0 => []
  | k + 1 => .hid :: .hid :: .defd :: .hid :: gapG k
abbrev mG (b : Nat) (c0 c1 c2 c3 c4 c5 c6 : Int) (k : Nat) : List Vse.Tok := [.cells true 23 [.s .i64 c0, .s .i64 c1, .s .i64 c2, .s .i64 c3, .s .i64 c4, .s .i64 c5, .i .i64 c6], .cells true 4 [.b false], .cells true 32 [.i .i64 (cnt b 0 (2 * k)), .i .i64 (cnt b 1 (2 * k)), .i .i64 (cnt b 2 (2 * k)), .i .i64 (cnt b 3 (2 * k))], .cells true 3 [.i .i64 (2 * (k : Int))]] ++ gapG k
def dmG : Nat → List Nat
  | 0 => []
  | k + 1 => (4 * k + 6) :: dmG k
def mkG (b : Nat) (c0 c1 c2 c3 c4 c5 c6 : Int) (k : Nat) : St := { fr := Tr.but 163 [(1, .p 0 0), (2, .p 1 0), (9, .p 2 0), (10, .p 3 0), (11, .i .i64 (k : Int))], n := 163, m := mG b c0 c1 c2 c3 c4 c5 c6 k, dm := dmG k, wr := [] }
def finG (b : Nat) (c0 c1 c2 c3 c4 c5 c6 : Int) (k : Nat) : St := { fr := Tr.but 163 [(1, .p 0 0), (2, .p 1 0), (9, .p 2 0), (10, .p 3 0)], n := 163, m := mG b c0 c1 c2 c3 c4 c5 c6 k, dm := dmG k, wr := [] }
theorem w_step (c0 c1 c2 c3 c4 c5 c6 : Int) (i : Int) : roundX P ctY 100 30 none (lpAt P 3 [1,1,0,1,0]) (mkW c0 c1 c2 c3 c4 c5 c6 i) [.cmp true, .cmp false] 2 [some 0, some 1] (mkW c0 c1 c2 c3 c4 c5 c6 (i + 1)) =
    some (Exit.normal, [okI c0 c1 c2 c3 c4 c5 c6, obB true (i < c1 * (2 : Int) * (2 : Int)), okI c0 c1 c2 c3 c4 c5 c6, (0 : Int) ≤ i ∧ i < (4 : Int) * c1, okI c0 c1 c2 c3 c4 c5 c6, ((0 : Int) ≤ i.tdiv 2 ∧ i.tdiv 2 < (2 : Int) * c1) ∧ (0 : Int) ≤ i.tmod 2 ∧ i.tmod 2 < (2 : Int), obB false (i.tdiv 2 * (2 : Int) + i.tmod 2 ≠ i), IntKind.i64.wrap (i + (1 : Int)) = i + (1 : Int), c0 = c0, c1 = c1, c2 = c2, c3 = c3, c4 = c4, c5 = c5, c6 = c6, false = false, i + (1 : Int) = i + (1 : Int)]) := by kernel_rfl
theorem w_end (c0 c1 c2 c3 c4 c5 c6 : Int) (i : Int) : roundX P ctY 100 30 none (lpAt P 3 [1,1,0,1,0]) (mkW c0 c1 c2 c3 c4 c5 c6 i) [.cmp false] 2 [some 0, some 1] (finW c0 c1 c2 c3 c4 c5 c6) =
    some (Exit.exit 0, [okI c0 c1 c2 c3 c4 c5 c6, obB false (i < c1 * (2 : Int) * (2 : Int)), c0 = c0, c1 = c1, c2 = c2, c3 = c3, c4 = c4, c5 = c5, c6 = c6, false = false]) := by kernel_rfl
def wLp (c0 c1 c2 c3 c4 c5 c6 : Int) : LoopFn := lpOf 2 [some 0, some 1] none (fun _ => some ()) (fun _ => mkW c0 c1 c2 c3 c4 c5 c6 0) (.exit 0) (fun _ => finW c0 c1 c2 c3 c4 c5 c6) [] (fun _ => [okI c0 c1 c2 c3 c4 c5 c6])
theorem wLp_ok (c0 c1 c2 c3 c4 c5 c6 : Int) : LoopOK P none (lpAt P 3 [1,1,0,1,0]) (wLp c0 c1 c2 c3 c4 c5 c6) := lpOf_ok (fun _ hob => by
  simp only [AllP, and_true] at hob
  have ho := hob
  simp only [okI] at ho
  have hst : ∀ k, k < 4 * c1.toNat → Walk (cW P (lpAt P 3 [1,1,0,1,0])) none 2 (mkW c0 c1 c2 c3 c4 c5 c6 ((k : Nat) : Int)) .normal (mkW c0 c1 c2 c3 c4 c5 c6 ((k + 1 : Nat) : Int)) := fun k hk => by
    rw [Int.natCast_succ]
    have hb : 0 ≤ ((k : Nat) : Int) ∧ ((k : Nat) : Int) < 4 * c1 := by omega
    obtain ⟨e1, e2⟩ := tdiv2 hb.1
    have h1 : (0 ≤ ((k : Nat) : Int).tdiv 2 ∧ ((k : Nat) : Int).tdiv 2 < 2 * c1) ∧ (0 ≤ ((k : Nat) : Int).tmod 2 ∧ ((k : Nat) : Int).tmod 2 < 2) := by rw [e1, e2]; omega
    have h2 : ¬ (((k : Nat) : Int).tdiv 2 * 2 + ((k : Nat) : Int).tmod 2 ≠ (k : Int)) := by rw [e1, e2]; omega
    exact roundX_sound ctY_ok (w_step c0 c1 c2 c3 c4 c5 c6 k) (by (repeat' first | with_reducible exact AllP_nil | with_reducible refine AllP_cons ?_ ?_ | with_reducible refine And.intro ?_ ?_) <;> first | rfl | assumption | exact h1 | exact h1.1.1 | exact h1.1.2 | exact h1.2.1 | exact h1.2.2 | exact obF h2 | exact obT (by assumption) | exact obF (by assumption) | exact obT (by omega) | exact obF (by omega) | exact wrap_i64 (by omega) | (omega))
  exact loop_walk (mk := fun k : Nat => mkW c0 c1 c2 c3 c4 c5 c6 ((k : Nat) : Int)) (by simp) (4 * c1.toNat) (fun _ _ => rfl) hst (roundX_sound ctY_ok (w_end c0 c1 c2 c3 c4 c5 c6 _) (by (repeat' first | with_reducible exact AllP_nil | with_reducible refine AllP_cons ?_ ?_ | with_reducible refine And.intro ?_ ?_) <;> first | rfl | assumption | exact obT (by assumption) | exact obF (by assumption) | exact obT (by omega) | exact obF (by omega) | exact wrap_i64 (by omega) | (omega))))
theorem half2 {c0 c1 c2 c3 c4 c5 c6 : Int} (h : okI c0 c1 c2 c3 c4 c5 c6) : (c1 * 2).tdiv 2 = c1 := by
  simp only [okI] at h
  rw [(tdiv2 (by omega)).1]; omega
end Go.Proofs.Ytinblcmgnjcnlaa
