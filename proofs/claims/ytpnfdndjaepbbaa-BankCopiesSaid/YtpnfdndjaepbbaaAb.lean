/- This seat's objects: a memory in banks, and the document`s one. -/
import Derived.Test.YtpnfdndjaepbbaaVse2F
import Derived.Test.YtpnfdndjaepbbaaRows
namespace Go.Proofs.Ytpnfdndjaepbbaa
open Go Go.Vse
/-- A memory: its configuration, its words, how often banks were read, and written. -/
structure MM where
  c0 : Int
  c1 : Int
  c2 : Int
  c3 : Int
  c4 : Int
  c5 : Int
  c6 : Int
  W : Nat → Int
  R : Nat → Int
  Q : Nat → Int
inductive AbT where
  | mem (a : MM)
  | ref (a : MM)
instance seatAb : Abst := ⟨AbT, fun _ _ => none, fun _ _ => rfl⟩
/-- A configuration that may be. -/
def okI (c0 c1 c2 c3 c4 c5 c6 : Int) : Prop := (1 ≤ c0 ∧ c0 ≤ 4) ∧ (1 ≤ c1 ∧ c1 ≤ 16) ∧ (1 ≤ c2 ∧ c2 ≤ 8) ∧ (1 ≤ c3 ∧ c3 ≤ 4) ∧ (1 ≤ c4 ∧ c4 ≤ 16) ∧ (1 ≤ c5 ∧ c5 ≤ 8) ∧ (1 ≤ c6 ∧ c6 ≤ 4)
def MM.ok (a : MM) : Prop := okI a.c0 a.c1 a.c2 a.c3 a.c4 a.c5 a.c6
/-- How many lines a bank has; what lies in it. -/
def nB (G B j : Nat) : Nat := (2 * G + B - 1 - j) / B
def bankS (B : Nat) (W : Nat → Int) (j n : Nat) : List Sc := (List.range (2 * n)).map fun i => .i .i64 (W (2 * ((i / 2) * B + j) + i % 2))
def rep1 (a : MM) : List Vse.Tok := [.cells true 69 [.s .i64 a.c0, .s .i64 a.c1, .s .i64 a.c2, .s .i64 a.c3, .s .i64 a.c4, .s .i64 a.c5, .s .i64 a.c6, .sl 1 0 1 1 3], .cells true 75 [.s .i64 (a.R 0), .s .i64 (a.Q 0), .so 2 (nB a.c1.toNat 1 0) 2], .vec 26 (bankS 1 a.W 0 (nB a.c1.toNat 1 0))]
def rep2 (a : MM) : List Vse.Tok := [.cells true 69 [.s .i64 a.c0, .s .i64 a.c1, .s .i64 a.c2, .s .i64 a.c3, .s .i64 a.c4, .s .i64 a.c5, .s .i64 a.c6, .sl 1 0 2 2 3], .cells true 75 [.s .i64 (a.R 0), .s .i64 (a.Q 0), .so 2 (nB a.c1.toNat 2 0) 2, .s .i64 (a.R 1), .s .i64 (a.Q 1), .so 3 (nB a.c1.toNat 2 1) 2], .vec 26 (bankS 2 a.W 0 (nB a.c1.toNat 2 0)), .vec 26 (bankS 2 a.W 1 (nB a.c1.toNat 2 1))]
def rep3 (a : MM) : List Vse.Tok := [.cells true 69 [.s .i64 a.c0, .s .i64 a.c1, .s .i64 a.c2, .s .i64 a.c3, .s .i64 a.c4, .s .i64 a.c5, .s .i64 a.c6, .sl 1 0 3 3 3], .cells true 75 [.s .i64 (a.R 0), .s .i64 (a.Q 0), .so 2 (nB a.c1.toNat 3 0) 2, .s .i64 (a.R 1), .s .i64 (a.Q 1), .so 3 (nB a.c1.toNat 3 1) 2, .s .i64 (a.R 2), .s .i64 (a.Q 2), .so 4 (nB a.c1.toNat 3 2) 2], .vec 26 (bankS 3 a.W 0 (nB a.c1.toNat 3 0)), .vec 26 (bankS 3 a.W 1 (nB a.c1.toNat 3 1)), .vec 26 (bankS 3 a.W 2 (nB a.c1.toNat 3 2))]
def rep4 (a : MM) : List Vse.Tok := [.cells true 69 [.s .i64 a.c0, .s .i64 a.c1, .s .i64 a.c2, .s .i64 a.c3, .s .i64 a.c4, .s .i64 a.c5, .s .i64 a.c6, .sl 1 0 4 4 3], .cells true 75 [.s .i64 (a.R 0), .s .i64 (a.Q 0), .so 2 (nB a.c1.toNat 4 0) 2, .s .i64 (a.R 1), .s .i64 (a.Q 1), .so 3 (nB a.c1.toNat 4 1) 2, .s .i64 (a.R 2), .s .i64 (a.Q 2), .so 4 (nB a.c1.toNat 4 2) 2, .s .i64 (a.R 3), .s .i64 (a.Q 3), .so 5 (nB a.c1.toNat 4 3) 2], .vec 26 (bankS 4 a.W 0 (nB a.c1.toNat 4 0)), .vec 26 (bankS 4 a.W 1 (nB a.c1.toNat 4 1)), .vec 26 (bankS 4 a.W 2 (nB a.c1.toNat 4 2)), .vec 26 (bankS 4 a.W 3 (nB a.c1.toNat 4 3))]
def repM (a : MM) : List Vse.Tok := if a.c6 = 1 then rep1 a else if a.c6 = 2 then rep2 a else if a.c6 = 3 then rep3 a else rep4 a
def wordS (W : Nat → Int) (n : Nat) : List Sc := (List.range n).map fun i => .i .i64 (W i)
def repR (a : MM) : List Vse.Tok := [.cells true 62 [.so 1 (4 * a.c1.toNat) 1, .s .i64 a.c6, .s .i64 (a.R 0), .s .i64 (a.R 1), .s .i64 (a.R 2), .s .i64 (a.R 3), .s .i64 (a.Q 0), .s .i64 (a.Q 1), .s .i64 (a.Q 2), .s .i64 (a.Q 3)], .vec 3 (wordS a.W (4 * a.c1.toNat))]
def repA : AbT → List Vse.Tok
  | .mem a => repM a
  | .ref a => repR a
def okA : AbT → Prop
  | .mem a => a.ok
  | .ref a => a.ok
instance seatRep : AbstRep := { seatAb with Rep := fun a ms => okA a ∧ ms = repA a }
noncomputable abbrev P : Program := Try.prog
def noCt : Ctrs := fun _ => none
theorem noCt_ok : CtOK P noCt := fun _ _ h => by cases h
theorem memOK1 {a : MM} (h : a.ok) (hB : a.c6 = 1) : RepOK (.mem a : Abst.Ab) (rep1 a) := by
  have e : repM a = rep1 a := by unfold repM;  rw [if_pos (by omega)]
  exact RepOK.of (show okA _ ∧ _ = _ from ⟨h, e.symm⟩) (fun x hx => by obtain ⟨_, rfl⟩ := (show okA _ ∧ x = _ from hx); exact e) rfl rfl
theorem memOK2 {a : MM} (h : a.ok) (hB : a.c6 = 2) : RepOK (.mem a : Abst.Ab) (rep2 a) := by
  have e : repM a = rep2 a := by unfold repM; rw [if_neg (by omega)]; rw [if_pos (by omega)]
  exact RepOK.of (show okA _ ∧ _ = _ from ⟨h, e.symm⟩) (fun x hx => by obtain ⟨_, rfl⟩ := (show okA _ ∧ x = _ from hx); exact e) rfl rfl
theorem memOK3 {a : MM} (h : a.ok) (hB : a.c6 = 3) : RepOK (.mem a : Abst.Ab) (rep3 a) := by
  have e : repM a = rep3 a := by unfold repM; rw [if_neg (by omega)]; rw [if_neg (by omega)]; rw [if_pos (by omega)]
  exact RepOK.of (show okA _ ∧ _ = _ from ⟨h, e.symm⟩) (fun x hx => by obtain ⟨_, rfl⟩ := (show okA _ ∧ x = _ from hx); exact e) rfl rfl
theorem memOK4 {a : MM} (h : a.ok) (hB : a.c6 = 4) : RepOK (.mem a : Abst.Ab) (rep4 a) := by
  have e : repM a = rep4 a := by unfold repM; rw [if_neg (by omega)]; rw [if_neg (by omega)]; rw [if_neg (by omega)]; 
  exact RepOK.of (show okA _ ∧ _ = _ from ⟨h, e.symm⟩) (fun x hx => by obtain ⟨_, rfl⟩ := (show okA _ ∧ x = _ from hx); exact e) rfl rfl
theorem refOK {a : MM} (h : a.ok) : RepOK (.ref a : Abst.Ab) (repR a) :=
  RepOK.of (show okA _ ∧ _ = _ from ⟨h, rfl⟩) (fun x hx => by obtain ⟨_, rfl⟩ := (show okA _ ∧ x = _ from hx); rfl) rfl rfl
abbrev sI (x : Int) : LV := .s .i64 x
theorem AllP_app {a b : List Prop} (h : AllP a) (h' : AllP b) : AllP (a ++ b) := AllP_append.2 ⟨h, h'⟩
end Go.Proofs.Ytpnfdndjaepbbaa
