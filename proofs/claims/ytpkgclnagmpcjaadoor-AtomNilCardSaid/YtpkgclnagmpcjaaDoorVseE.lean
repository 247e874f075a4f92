/- The executor's operations on local values. -/
import Derived.Test.YtpkgclnagmpcjaaDoorVseD
namespace Go.Vse
open Go

inductive Ans where
  | cmp (r : Bool)
  | nw
  | wr
  | to (z : Int)
  | idx
  | ld (vs : List LV)
  | call (v : LV) (c : List (Nat × Tok)) (r : List Nat)
  | code (ex : Exit) (fr : List LV) (m : List Tok) (wr : List Nat)

def AllP : List Prop → Prop
  | [] => True
  | p :: ps => p ∧ AllP ps
theorem AllP_append {a b : List Prop} : AllP (a ++ b) ↔ AllP a ∧ AllP b := by
  induction a with
  | nil => simp [AllP]
  | cons p ps ih => simp [AllP, ih, and_assoc]

/-- What a step of the executor hands back: a value; what is owed; the answers that are left. -/
abbrev Ex (α : Type) := Option (α × List Prop × List Ans)
def Ex.bind {α β : Type} (x : Ex α) (f : α → List Ans → Ex β) : Ex β :=
  match x with
  | none => none
  | some (a, o, an) =>
    match f a an with
    | none => none
    | some (b, o', an') => some (b, o ++ o', an')

def cellsL : LV → List LV
  | .agg xs => xs
  | x => [x]

def ofVal1 : Value → Option LV
  | .int k n => some (.i k n)
  | .bool b => some (.b b)
  | .pointer none => some .p0
  | .slice none 0 0 => some .n0
  | .nilFunc => some .f0
  | .string s => some (.v (.string s))
  | .nilIface => some (.v .nilIface)
  | .map none => some (.v (.map none))
  | _ => none
def ofVals : List Value → Option (List LV)
  | [] => some []
  | x :: xs => match ofVal1 x, ofVals xs with
    | some y, some ys => some (y :: ys)
    | _, _ => none
def ofVal : Value → Option LV
  | .agg cs => (ofVals cs.toList).map .agg
  | .tuple cs => match cs.toList with | [] => some (.tup []) | _ => none
  | x => ofVal1 x

def evO (fr : Tmp → LV) : Operand → Option LV
  | .tmp t => some (fr t)
  | .const v => ofVal v
  | .global g => some (.v (.pointer (some ⟨g, 0, none⟩)))
  | .func f => some (.fn f [])

def aggB (P : Program) (t : TypeId) : Option Bool :=
  match P.underlying t with
  | some (.struct _) | some (.array _ _) => some true
  | some _ => some false
  | none => none
def sizL (P : Program) (t : TypeId) : Option Nat := (P.info? t).map (·.size)

def partL (P : Program) (t : TypeId) (cs : List LV) (off : Nat) : Option LV :=
  match aggB P t, sizL P t with
  | some true, some n => if off + n ≤ cs.length then some (.agg ((cs.drop off).take n)) else none
  | some false, _ => cs[off]?
  | _, _ => none

def fwrap (k : IntKind) (z : Int) : Int :=
  match k with
  | .i64 => if decide (-9223372036854775808 ≤ z) && decide (z ≤ 9223372036854775807) then z else k.wrap z
  | _ => k.wrap z

theorem fwrap_eq (k : IntKind) (z : Int) : fwrap k z = k.wrap z := by
  unfold fwrap
  split
  · split
    · rename_i h
      simp only [Bool.and_eq_true, decide_eq_true_eq] at h
      simp only [IntKind.wrap, IntKind.bits, IntKind.signed, Int.reducePow, Nat.reduceSub, Bool.true_and]
      split <;> rename_i h2 <;> simp only [decide_eq_true_eq, ge_iff_le] at h2 <;> omega
    · rfl
  · rfl

def obB (r : Bool) (p : Prop) : Prop := match r with | true => p | false => ¬ p
theorem obB_iff {r : Bool} {p : Prop} : obB r p ↔ (r = true ↔ p) := by cases r <;> simp [obB]

/-- A number reckoned: known, or by an answer. -/
def arithX (k : IntKind) (sym : Bool) (raw plain : Int) (an : List Ans) : Ex LV :=
  if sym then
    match an with
    | .nw :: an => some (.s k plain, [raw = plain], an)
    | .wr :: an => some (.s k raw, [], an)
    | .to z :: an => some (.s k z, [raw = z], an)
    | _ => none
  else some (.i k raw, [], an)

def cmpP (op : BinOp) (x y : Int) : Option Prop :=
  match op with
  | .eql => some (x = y)
  | .neq => some (x ≠ y)
  | .lss => some (x < y)
  | .leq => some (x ≤ y)
  | .gtr => some (y < x)
  | .geq => some (y ≤ x)
  | _ => none
def cmpB (op : BinOp) (x y : Int) : Option Bool :=
  match op with
  | .eql => some (decide (x = y))
  | .neq => some (!decide (x = y))
  | .lss => some (decide (x < y))
  | .leq => some (decide (x ≤ y))
  | .gtr => some (decide (y < x))
  | .geq => some (decide (y ≤ x))
  | _ => none

def intX (op : BinOp) (k : IntKind) (sym : Bool) (x y : Int) (an : List Ans) : Ex LV :=
  match op with
  | .add => arithX k sym (if sym then k.wrap (x + y) else fwrap k (x + y)) (x + y) an
  | .sub => arithX k sym (if sym then k.wrap (x - y) else fwrap k (x - y)) (x - y) an
  | .mul => arithX k sym (if sym then k.wrap (x * y) else fwrap k (x * y)) (x * y) an
  | .quo =>
    if sym then
      match arithX k true (k.wrap (x.tdiv y)) (x.tdiv y) an with
      | some (v, o, an) => some (v, (y ≠ 0) :: o, an)
      | none => none
    else if y = 0 then none else some (.i k (fwrap k (x.tdiv y)), [], an)
  | .rem =>
    if sym then
      match arithX k true (x.tmod y) (x.tmod y) an with
      | some (v, o, an) => some (v, (y ≠ 0) :: o, an)
      | none => none
    else if y = 0 then none else some (.i k (x.tmod y), [], an)
  | _ =>
    if sym then
      match an, cmpP op x y with
      | .cmp r :: an, some p => some (.b r, [obB r p], an)
      | _, _ => none
    else (cmpB op x y).map fun b => (.b b, [], an)

def asI : LV → Option (IntKind × Int × Bool)
  | .i k x => some (k, x, false)
  | .s k x => some (k, x, true)
  | _ => none

/-- The parts of two structs or arrays that are held against each other, in order. -/
def pairsS (P : Program) : List Field → List LV → List LV → Option (List (TypeId × LV × LV))
  | [], _, _ => some []
  | f :: fs, xs, ys =>
    if f.name = "_" then none else
    match partL P f.type xs f.offset, partL P f.type ys f.offset, pairsS P fs xs ys with
    | some a, some b, some r => some ((f.type, a, b) :: r)
    | _, _, _ => none
def pairsA (P : Program) (e : TypeId) (sz : Nat) : (n i : Nat) → List LV → List LV → Option (List (TypeId × LV × LV))
  | 0, _, _, _ => some []
  | n + 1, i, xs, ys =>
    match partL P e xs (i * sz), partL P e ys (i * sz), pairsA P e sz n (i + 1) xs ys with
    | some a, some b, some r => some ((e, a, b) :: r)
    | _, _, _ => none
def eqAll (f : TypeId → LV → LV → List Ans → Ex Bool) : List (TypeId × LV × LV) → List Ans → Ex Bool
  | [], an => some (true, [], an)
  | (t, a, b) :: r, an =>
    match f t a b an with
    | none => none
    | some (false, o, an) => some (false, o, an)
    | some (true, o, an) =>
      match eqAll f r an with
      | none => none
      | some (x, o', an) => some (x, o ++ o', an)

def eqX (P : Program) : Nat → TypeId → LV → LV → List Ans → Ex Bool
  | 0, _, _, _, _ => none
  | d + 1, t, x, y, an =>
    match P.underlying t with
    | some .bool => (match x, y with | .b a, .b c => some (a == c, [], an) | _, _ => none)
    | some (.int _) =>
      (match asI x, asI y with
       | some (k, a, s), some (k', c, s') =>
         if k = k' then
           (if s || s' then (match an with | .cmp r :: an => some (r, [obB r (a = c)], an) | _ => none)
            else some (decide (a = c), [], an))
         else none
       | _, _ => none)
    | some (.pointer _) => (match x, y with | .p0, .p0 => some (true, [], an) | .p _ _, .p0 | .ps _ _, .p0 | .p0, .p _ _ | .p0, .ps _ _ => some (false, [], an) | _, _ => none)
    | some (.slice _) => (match x, y with | .n0, .n0 => some (true, [], an) | .sl .., .n0 | .ss .., .n0 | .se _, .n0 | .n0, .sl .. | .n0, .ss .. | .n0, .se _ => some (false, [], an) | _, _ => none)
    | some (.func ..) => (match x, y with | .f0, .f0 => some (true, [], an) | .fn .., .f0 | .yl _, .f0 | .f0, .fn .. | .f0, .yl _ => some (false, [], an) | _, _ => none)
    | some (.struct fs) =>
      if P.stoodInHeld t then none else
      (match x, y with
       | .agg xs, .agg ys => (match pairsS P fs.toList xs ys with | some l => eqAll (eqX P d) l an | none => none)
       | _, _ => none)
    | some (.array n e) =>
      (match x, y, sizL P e with
       | .agg xs, .agg ys, some sz => (match pairsA P e sz n 0 xs ys with | some l => eqAll (eqX P d) l an | none => none)
       | _, _, _ => none)
    | _ => none

/-- Neither a number nor what is not looked into. -/
def plainB : LV → Bool
  | .i .. | .s .. | .v _ => false
  | _ => true
def aggL : LV → Bool
  | .agg _ => true
  | _ => false

def binX (P : Program) (op : BinOp) (t : TypeId) (x y : LV) (an : List Ans) : Ex LV :=
  match asI x, asI y with
  | some (k, a, s), some (k', b, s') => if k = k' then intX op k (s || s') a b an else none
  | _, _ =>
    if plainB x = true ∧ (aggL x = true → P.eqGuardType P.depth t = false) then
      match op with
      | .eql => (match eqX P 50 t x y an with | some (r, o, an) => some (.b r, o, an) | none => none)
      | .neq => (match eqX P 50 t x y an with | some (r, o, an) => some (.b !r, o, an) | none => none)
      | _ => none
    else none

def fillL (place : Nat → Option (Nat × Nat)) : List LV → List (Nat × LV) → Option (List LV)
  | cs, [] => some cs
  | cs, (i, x) :: r =>
    match place i with
    | none => none
    | some (off, size) => if (cellsL x).length = size ∧ off + size ≤ cs.length then fillL place (spliceL cs off (cellsL x)) r else none

def evParts (ev : Operand → Option LV) : List (Nat × Operand) → Option (List (Nat × LV))
  | [] => some []
  | (i, x) :: r => match ev x, evParts ev r with
    | some v, some vs => some ((i, v) :: vs)
    | _, _ => none
def evAll (ev : Operand → Option LV) : List Operand → Option (List LV)
  | [] => some []
  | x :: r => match ev x, evAll ev r with
    | some v, some vs => some (v :: vs)
    | _, _ => none

def zeroL (P : Program) (t : TypeId) : Option LV := ((P.info? t).bind (·.zero)).bind ofVal

def buildX (P : Program) (t : TypeId) (parts : List (Nat × LV)) : Option LV :=
  match zeroL P t, P.underlying t with
  | some z, some (.struct fs) =>
    if fs.toList.all (fun f => (P.info? f.type).isSome) then
      (fillL (fun i => (fs[i]?).map fun f => (f.offset, P.cellsOf f.type)) (cellsL z) parts).map .agg
    else none
  | some z, some (.array _ e) =>
    (match sizL P e with
     | some sz => (fillL (fun i => some (i * sz, sz)) (cellsL z) parts).map .agg
     | none => none)
  | _, _ => none

/-- An index: known, or by an answer. -/
def idxX (i : LV) (n : Nat) (an : List Ans) : Ex (Nat × Bool) :=
  match i with
  | .i _ j => if 0 ≤ j ∧ j < n then some ((j.toNat, false), [], an) else none
  | .s _ j => (match an with | .idx :: an => some ((j.toNat, true), [0 ≤ j ∧ j < n], an) | _ => none)
  | _ => none

def ptrL (k o : Nat) (sym : Bool) : LV := if sym then .ps k o else .p k o

def indexAddrX (P : Program) (t : TypeId) (x i : LV) (an : List Ans) : Ex LV :=
  match P.underlying t with
  | some (.array n e) =>
    (match x, sizL P e with
     | .p k o, some sz => (match idxX i n an with | some ((j, s), ob, an) => some (ptrL k (o + j * sz) s, ob, an) | none => none)
     | .ps k o, some sz => (match idxX i n an with | some ((j, _), ob, an) => some (.ps k (o + j * sz), ob, an) | none => none)
     | _, _ => none)
  | some (.slice e) =>
    (match x, sizL P e with
     | .sl k o l _ z, some sz => if z = sz then (match idxX i l an with | some ((j, s), ob, an) => some (ptrL k (o + j * sz) s, ob, an) | none => none) else none
     | .ss k o l _ z, some sz => if z = sz then (match idxX i l an with | some ((j, _), ob, an) => some (.ps k (o + j * sz), ob, an) | none => none) else none
     | _, _ => none)
  | _ => none

/-- A slice's bound: known, or by an answer. -/
def bndX (x : Option LV) (dflt most : Nat) (an : List Ans) : Ex Nat :=
  match x with
  | none => some (dflt, [], an)
  | some (.i _ j) => if 0 ≤ j ∧ j ≤ most then some (j.toNat, [], an) else none
  | some (.s _ j) => (match an with | .idx :: an => some (j.toNat, [0 ≤ j ∧ j ≤ most], an) | _ => none)
  | _ => none

def pureX (P : Program) (op : Op) (ev : Operand → Option LV) (an : List Ans) : Ex LV :=
  match op with
  | .move x | .assign x => (match ev x with | some v => some (v, [], an) | none => none)
  | .pick c a b =>
    (match ev c with
     | some (.b t) => (match ev (if t then a else b) with | some v => some (v, [], an) | none => none)
     | _ => none)
  | .build t parts =>
    (match evParts ev parts.toList with
     | some ps => (match buildX P t ps with | some v => some (v, [], an) | none => none)
     | none => none)
  | .nilCheck x =>
    (match ev x with
     | some (.p k o) => some (.p k o, [], an)
     | some (.ps k o) => some (.ps k o, [], an)
     | some (.fn f c) => some (.fn f c, [], an)
     | some (.yl k) => some (.yl k, [], an)
     | _ => none)
  | .binOp bop t x y _ =>
    (match ev x, ev y with
     | some a, some b => binX P bop t a b an
     | _, _ => none)
  | .unOp uop _ x =>
    (match uop, ev x with
     | .not, some (.b a) => some (.b !a, [], an)
     | .neg, some (.i k a) => some (.i k (fwrap k (0 - a)), [], an)
     | .neg, some (.s k a) => arithX k true (k.wrap (0 - a)) (0 - a) an
     | _, _ => none)
  | .convert src dst x =>
    (match P.underlying src, P.underlying dst, ev x with
     | some _, some (.int k), some (.i _ a) => some (.i k (fwrap k a), [], an)
     | some _, some (.int k), some (.s _ a) => arithX k true (k.wrap a) a an
     | _, _, _ => none)
  | .fieldAddr s x f =>
    (match P.underlying s, ev x with
     | some (.struct fs), some (.p k o) =>
       (match fs[f]? with
        | some fd => (match sizL P fd.type with | some n => if n = 0 then none else some (.p k (o + fd.offset), [], an) | none => none)
        | none => none)
     | some (.struct fs), some (.ps k o) =>
       (match fs[f]? with
        | some fd => (match sizL P fd.type with | some n => if n = 0 then none else some (.ps k (o + fd.offset), [], an) | none => none)
        | none => none)
     | _, _ => none)
  | .field t x f =>
    (match P.underlying t, ev x with
     | some (.struct fs), some (.agg xs) =>
       (match fs[f]? with
        | some fd => (match partL P fd.type xs fd.offset with | some v => some (v, [], an) | none => none)
        | none => none)
     | _, _ => none)
  | .indexAddr t x i =>
    (match ev x, ev i with
     | some a, some b => indexAddrX P t a b an
     | _, _ => none)
  | .index t x i =>
    (match P.underlying t, ev x, ev i with
     | some (.array n e), some (.agg xs), some j =>
       (match j, sizL P e with
        | .i _ j, some sz => if 0 ≤ j ∧ j < n then (match partL P e xs (j.toNat * sz) with | some v => some (v, [], an) | none => none) else none
        | _, _ => none)
     | _, _, _ => none)
  | .slice t x lo hi mx =>
    (match P.underlying t, ev x with
     | some (.slice e), some (.sl k o l c z) =>
       (match sizL P e with
        | some sz =>
          if z = sz then
            (match mx with
             | some q =>
               (match lo, (match hi with | some h => ev h | none => none), ev q with
                | none, some (.i _ 0), some (.i _ 0) => some (.se k, [], an)
                | _, _, _ => none)
             | none =>
               match (match hi with | none => some (none : Option LV) | some h => (ev h).map some), (match lo with | none => some (none : Option LV) | some h => (ev h).map some) with
               | some h, some g =>
                 (match bndX h l c an with
                  | some (hv, o1, an) =>
                    (match bndX g 0 hv an with
                     | some (lv, o2, an) => some (.sl k (o + lv * sz) (hv - lv) (c - lv) z, o1 ++ o2, an)
                     | none => none)
                  | none => none)
               | _, _ => none)
          else none
        | none => none)
     | _, _ => none)
  | .extract x i =>
    (match ev x with
     | some (.tup xs) => (match xs[i]? with | some v => some (v, [], an) | none => none)
     | _ => none)
  | .makeFunc (.func f) first captured =>
    (if first.isEmpty then (match evAll ev captured.toList with | some vs => some (.fn f vs, [], an) | none => none) else none)
  | .call { callee := .builtin .len, args, argTypes } =>
    (match argTypes[0]?, args[0]? with
     | some t, some x =>
       (match P.underlying t, ev x with
        | some (.slice _), some (.sl _ _ l _ _) => some (.i .i64 l, [], an)
        | some (.slice _), some (.ss _ _ l _ _) => some (.s .i64 l, [], an)
        | some (.slice _), some .n0 => some (.i .i64 0, [], an)
        | some (.slice _), some (.se _) => some (.i .i64 0, [], an)
        | some (.array n _), some _ => some (.i .i64 n, [], an)
        | _, _ => none)
     | _, _ => none)
  | _ => none

end Go.Vse
