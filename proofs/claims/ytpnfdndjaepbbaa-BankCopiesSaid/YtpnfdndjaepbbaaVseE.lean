/- The executor's operations on local values. -/
import Derived.Test.YtpnfdndjaepbbaaVseD
namespace Go.Vse
open Go

/-- A frame: a trie by the bits of a slot's number; what is not there is '.tup []'. -/
inductive Tr where
  | nil
  | node (x : LV) (l r : Tr)
  deriving Inhabited
def Tr.get : Tr → Nat → LV
  | .nil, _ => .tup []
  | .node x l r, t => bif t == 0 then x else bif t % 2 == 1 then l.get (t / 2) else r.get (t / 2 - 1)
def Tr.set : Nat → Tr → Nat → LV → Tr
  | 0, tr, _, _ => tr
  | f + 1, .nil, t, v => bif t == 0 then .node v .nil .nil else bif t % 2 == 1 then .node (.tup []) (Tr.set f .nil (t / 2) v) .nil else .node (.tup []) .nil (Tr.set f .nil (t / 2 - 1) v)
  | f + 1, .node x l r, t, v => bif t == 0 then .node v l r else bif t % 2 == 1 then .node x (Tr.set f l (t / 2) v) r else .node x l (Tr.set f r (t / 2 - 1) v)
def Tr.ofGo : List LV → Nat → Tr → Tr
  | [], _, tr => tr
  | x :: xs, i, tr => Tr.ofGo xs (i + 1) (tr.set 12 i x)
def Tr.ofL (l : List LV) : Tr := Tr.ofGo l 0 .nil
def Tr.list (fr : Tr) (n : Nat) : List LV := (List.range n).map fr.get
def frOf (fr : Tr) : Tmp → LV := fr.get
section
variable [AbstRep]
structure St where
  fr : Tr
  n : Nat
  m : List Tok
  dm : List Nat
  wr : List Nat
  deriving Inhabited

/-- What stands for a loop that is not run: out of what it is begun with, how it is left, to what, and what is owed. -/
abbrev LoopFn := St → Option (Exit × St × List Prop)
inductive Ans where
  | cmp (r : Bool)
  | nw
  | wr
  | to (z : Int)
  | idx
  | at (j : Nat)
  | ld (vs : List LV)
  | st (vs : List LV)
  | call (v : LV) (c : List (Nat × Tok)) (r : List Nat)
  | lp (g : LoopFn)
  | un
/-- The first answer of a kind: each kind of question has answers of its own. -/
def takeF {α : Type} (p : Ans → Option α) : List Ans → Option (α × List Ans)
  | [] => none
  | a :: an =>
    match p a with
    | some x => some (x, an)
    | none => match takeF p an with | some (x, an') => some (x, a :: an') | none => none
def asCmp : Ans → Option Bool | .cmp r => some r | _ => none
def asAr : Ans → Option (Option (Option Int)) | .nw => some none | .wr => some (some none) | .to z => some (some (some z)) | _ => none
def asIx : Ans → Option (Option Nat) | .idx => some none | .at j => some (some j) | _ => none
def asLd : Ans → Option (List LV) | .ld vs => some vs | _ => none
def asSt : Ans → Option (List LV) | .st vs => some vs | _ => none
def asCall : Ans → Option (LV × List (Nat × Tok) × List Nat) | .call v c r => some (v, c, r) | _ => none
def asLp : Ans → Option (Option LoopFn) | .lp g => some (some g) | .un => some none | _ => none
end

def AllP : List Prop → Prop
  | [] => True
  | p :: ps => p ∧ AllP ps
theorem AllP_append {a b : List Prop} : AllP (a ++ b) ↔ AllP a ∧ AllP b := by
  induction a with
  | nil => simp [AllP]
  | cons p ps ih => simp [AllP, ih, and_assoc]

section
variable [AbstRep]
/-- What a step of the executor hands back: a value; what is owed; the answers that are left. -/
abbrev Ex (α : Type) := Option (α × List Prop × List Ans)
def Ex.bind {α β : Type} (x : Ex α) (f : α → List Ans → Ex β) : Ex β :=
  match x with
  | none => none
  | some (a, o, an) =>
    match f a an with
    | none => none
    | some (b, o', an') => some (b, o ++ o', an')
end

def LV.isAny : LV → Bool
  | .any => true
  | _ => false
def cellsL : LV → List LV
  | .agg xs => xs
  | x => [x]

def ofVal1 : Value → Option LV
  | .int k n => some (.i k n)
  | .bool b => some (.b b)
  | .pointer none => some .p0
  | .slice none 0 0 => some .n0
  | .nilFunc => some .f0
  | .string s => some (.v (.string s))
  | .nilIface => some (.v .nilIface)
  | .map none => some (.v (.map none))
  | _ => none
def ofVals : List Value → Option (List LV)
  | [] => some []
  | x :: xs => match ofVal1 x, ofVals xs with
    | some y, some ys => some (y :: ys)
    | _, _ => none
def ofVal : Value → Option LV
  | .agg cs => (ofVals cs.toList).map .agg
  | .tuple cs => match cs.toList with | [] => some (.tup []) | _ => none
  | x => ofVal1 x

def evO (fr : Tmp → LV) : Operand → Option LV
  | .tmp t => some (fr t)
  | .const v => ofVal v
  | .global g => some (.v (.pointer (some ⟨g, 0, none⟩)))
  | .func f => some (.fn f [])

def aggB (P : Program) (t : TypeId) : Option Bool :=
  match P.underlying t with
  | some (.struct _) | some (.array _ _) => some true
  | some _ => some false
  | none => none
def sizL (P : Program) (t : TypeId) : Option Nat := (P.info? t).map (·.size)

def partL (P : Program) (t : TypeId) (cs : List LV) (off : Nat) : Option LV :=
  match aggB P t, sizL P t with
  | some true, some n => if off + n ≤ cs.length then some (.agg ((cs.drop off).take n)) else none
  | some false, _ => cs[off]?
  | _, _ => none

def fwrap (k : IntKind) (z : Int) : Int :=
  match k with
  | .i64 => if decide (-9223372036854775808 ≤ z) && decide (z ≤ 9223372036854775807) then z else k.wrap z
  | _ => k.wrap z

theorem fwrap_eq (k : IntKind) (z : Int) : fwrap k z = k.wrap z := by
  unfold fwrap
  split
  · split
    · rename_i h
      simp only [Bool.and_eq_true, decide_eq_true_eq] at h
      simp only [IntKind.wrap, IntKind.bits, IntKind.signed, Int.reducePow, Nat.reduceSub, Bool.true_and]
      split <;> rename_i h2 <;> simp only [decide_eq_true_eq, ge_iff_le] at h2 <;> omega
    · rfl
  · rfl

def obB (r : Bool) (p : Prop) : Prop := match r with | true => p | false => ¬ p
theorem obB_iff {r : Bool} {p : Prop} : obB r p ↔ (r = true ↔ p) := by cases r <;> simp [obB]

section
variable [AbstRep]
/-- A number reckoned: known, or by an answer. -/
def arithX (k : IntKind) (sym : Bool) (raw plain : Int) (an : List Ans) : Ex LV :=
  if sym then
    match takeF asAr an with
    | some (none, an) => some (.s k plain, [raw = plain], an)
    | some (some none, an) => some (.s k raw, [], an)
    | some (some (some z), an) => some (.s k z, [raw = z], an)
    | none => some (.s k plain, [raw = plain], an)
  else some (.i k raw, [], an)
end

def cmpP (op : BinOp) (x y : Int) : Option Prop :=
  match op with
  | .eql => some (x = y)
  | .neq => some (x ≠ y)
  | .lss => some (x < y)
  | .leq => some (x ≤ y)
  | .gtr => some (y < x)
  | .geq => some (y ≤ x)
  | _ => none
def cmpB (op : BinOp) (x y : Int) : Option Bool :=
  match op with
  | .eql => some (decide (x = y))
  | .neq => some (!decide (x = y))
  | .lss => some (decide (x < y))
  | .leq => some (decide (x ≤ y))
  | .gtr => some (decide (y < x))
  | .geq => some (decide (y ≤ x))
  | _ => none

section
variable [AbstRep]
/-- A truth that an answer tells. -/
def askX (p : Prop) (an : List Ans) : Ex LV :=
  match takeF asCmp an with
  | some (r, an) => some (.b r, [obB r p], an)
  | none => some (.b true, [obB true p], an)
def askB (p : Prop) (an : List Ans) : Ex Bool :=
  match takeF asCmp an with
  | some (r, an) => some (r, [obB r p], an)
  | none => some (true, [obB true p], an)
def intX (op : BinOp) (k : IntKind) (sym : Bool) (x y : Int) (an : List Ans) : Ex LV :=
  match op with
  | .add => arithX k sym (if sym then k.wrap (x + y) else fwrap k (x + y)) (x + y) an
  | .sub => arithX k sym (if sym then k.wrap (x - y) else fwrap k (x - y)) (x - y) an
  | .mul => arithX k sym (if sym then k.wrap (x * y) else fwrap k (x * y)) (x * y) an
  | .quo =>
    if sym then
      match arithX k true (k.wrap (x.tdiv y)) (x.tdiv y) an with
      | some (v, o, an) => some (v, (y ≠ 0) :: o, an)
      | none => none
    else if y = 0 then none else some (.i k (fwrap k (x.tdiv y)), [], an)
  | .rem =>
    if sym then
      match arithX k true (x.tmod y) (x.tmod y) an with
      | some (v, o, an) => some (v, (y ≠ 0) :: o, an)
      | none => none
    else if y = 0 then none else some (.i k (x.tmod y), [], an)
  | _ =>
    if sym then
      match cmpP op x y with
      | some p => askX p an
      | none => none
    else (cmpB op x y).map fun b => (.b b, [], an)
end

def asB : LV → Option (Bool × Bool)
  | .b x => some (x, false)
  | .sb x => some (x, true)
  | _ => none
def asI : LV → Option (IntKind × Int × Bool)
  | .i k x => some (k, x, false)
  | .s k x => some (k, x, true)
  | _ => none

/-- The parts of two structs or arrays that are held against each other, in order. -/
def pairsS (P : Program) : List Field → List LV → List LV → Option (List (TypeId × LV × LV))
  | [], _, _ => some []
  | f :: fs, xs, ys =>
    if f.name = "_" then none else
    match partL P f.type xs f.offset, partL P f.type ys f.offset, pairsS P fs xs ys with
    | some a, some b, some r => some ((f.type, a, b) :: r)
    | _, _, _ => none
def pairsA (P : Program) (e : TypeId) (sz : Nat) : (n i : Nat) → List LV → List LV → Option (List (TypeId × LV × LV))
  | 0, _, _, _ => some []
  | n + 1, i, xs, ys =>
    match partL P e xs (i * sz), partL P e ys (i * sz), pairsA P e sz n (i + 1) xs ys with
    | some a, some b, some r => some ((e, a, b) :: r)
    | _, _, _ => none
section
variable [AbstRep]
def eqAll (f : TypeId → LV → LV → List Ans → Ex Bool) : List (TypeId × LV × LV) → List Ans → Ex Bool
  | [], an => some (true, [], an)
  | (t, a, b) :: r, an =>
    match f t a b an with
    | none => none
    | some (false, o, an) => some (false, o, an)
    | some (true, o, an) =>
      match eqAll f r an with
      | none => none
      | some (x, o', an) => some (x, o ++ o', an)

def eqX (P : Program) : Nat → TypeId → LV → LV → List Ans → Ex Bool
  | 0, _, _, _, _ => none
  | d + 1, t, x, y, an =>
    match P.underlying t with
    | some .bool =>
      (match asB x, asB y with
       | some (a, s), some (c, s') => if s || s' then askB (a = c) an else some (a == c, [], an)
       | _, _ => none)
    | some (.int _) =>
      (match asI x, asI y with
       | some (k, a, s), some (k', c, s') =>
         if k = k' then
           (if s || s' then askB (a = c) an
            else some (decide (a = c), [], an))
         else none
       | _, _ => none)
    | some (.pointer _) => (match x, y with | .p0, .p0 => some (true, [], an) | .p _ _, .p0 | .ps _ _, .p0 | .p0, .p _ _ | .p0, .ps _ _ => some (false, [], an) | _, _ => none)
    | some (.slice _) => (match x, y with | .n0, .n0 => some (true, [], an) | .sl .., .n0 | .ss .., .n0 | .se _, .n0 | .n0, .sl .. | .n0, .ss .. | .n0, .se _ => some (false, [], an) | _, _ => none)
    | some (.func ..) => (match x, y with | .f0, .f0 => some (true, [], an) | .fn .., .f0 | .yl _, .f0 | .f0, .fn .. | .f0, .yl _ => some (false, [], an) | _, _ => none)
    | some (.struct fs) =>
      if P.stoodInHeld t then none else
      (match x, y with
       | .agg xs, .agg ys => (match pairsS P fs.toList xs ys with | some l => eqAll (eqX P d) l an | none => none)
       | _, _ => none)
    | some (.array n e) =>
      (match x, y, sizL P e with
       | .agg xs, .agg ys, some sz => (match pairsA P e sz n 0 xs ys with | some l => eqAll (eqX P d) l an | none => none)
       | _, _, _ => none)
    | _ => none
end

/-- Neither a number nor what is not looked into. -/
def plainB : LV → Bool
  | .i .. | .s .. | .v _ | .any => false
  | _ => true
def aggL : LV → Bool
  | .agg _ => true
  | _ => false

def max2I (x y : Int) : Int := if y > x then y else x
def min2I (x y : Int) : Int := if y < x then y else x
section
variable [AbstRep]
def binX (P : Program) (op : BinOp) (t : TypeId) (x y : LV) (an : List Ans) : Ex LV :=
  match asI x, asI y with
  | some (k, a, s), some (k', b, s') => if k = k' then intX op k (s || s') a b an else none
  | _, _ =>
    if plainB x = true ∧ (aggL x = true → P.eqGuardType P.depth t = false) then
      match op with
      | .eql => (match eqX P 50 t x y an with | some (r, o, an) => some (.b r, o, an) | none => none)
      | .neq => (match eqX P 50 t x y an with | some (r, o, an) => some (.b !r, o, an) | none => none)
      | _ => none
    else none
end

def fillL (place : Nat → Option (Nat × Nat)) : List LV → List (Nat × LV) → Option (List LV)
  | cs, [] => some cs
  | cs, (i, x) :: r =>
    match place i with
    | none => none
    | some (off, size) => if (cellsL x).length = size ∧ off + size ≤ cs.length then fillL place (spliceL cs off (cellsL x)) r else none

def evParts (ev : Operand → Option LV) : List (Nat × Operand) → Option (List (Nat × LV))
  | [] => some []
  | (i, x) :: r => match ev x, evParts ev r with
    | some v, some vs => if v.isAny then none else some ((i, v) :: vs)
    | _, _ => none
def evAll (ev : Operand → Option LV) : List Operand → Option (List LV)
  | [] => some []
  | x :: r => match ev x, evAll ev r with
    | some v, some vs => some (v :: vs)
    | _, _ => none

def zeroL (P : Program) (t : TypeId) : Option LV := ((P.info? t).bind (·.zero)).bind ofVal

def buildX (P : Program) (t : TypeId) (parts : List (Nat × LV)) : Option LV :=
  match zeroL P t, P.underlying t with
  | some z, some (.struct fs) =>
    if fs.toList.all (fun f => (P.info? f.type).isSome) then
      (fillL (fun i => (fs[i]?).map fun f => (f.offset, P.cellsOf f.type)) (cellsL z) parts).map .agg
    else none
  | some z, some (.array _ e) =>
    (match sizL P e with
     | some sz => (fillL (fun i => some (i * sz, sz)) (cellsL z) parts).map .agg
     | none => none)
  | _, _ => none

section
variable [AbstRep]
/-- An index: known, or by an answer. -/
def idxX (i : LV) (n : Nat) (an : List Ans) : Ex (Nat × Bool) :=
  match i with
  | .i _ j => if 0 ≤ j ∧ j < n then some ((j.toNat, false), [], an) else none
  | .s _ j =>
    (match takeF asIx an with
     | some (none, an) => some ((j.toNat, true), [0 ≤ j ∧ j < n], an)
     | some (some i, an) => some ((i, false), [j = i ∧ i < n], an)
     | none => some ((j.toNat, true), [0 ≤ j ∧ j < n], an))
  | _ => none

/-- An index into what is as long as no one knows. -/
def idxS (i : LV) (n : Nat) (an : List Ans) : Ex (Nat × Bool) :=
  match i with
  | .i _ j => some ((j.toNat, true), [0 ≤ j ∧ j < n], an)
  | .s _ j =>
    (match takeF asIx an with
     | some (none, an) => some ((j.toNat, true), [0 ≤ j ∧ j < n], an)
     | some (some i, an) => some ((i, true), [j = i ∧ i < n], an)
     | none => some ((j.toNat, true), [0 ≤ j ∧ j < n], an))
  | _ => none
end

def ptrL (k o : Nat) (sym : Bool) : LV := if sym then .ps k o else .p k o

section
variable [AbstRep]
def indexAddrX (P : Program) (t : TypeId) (x i : LV) (an : List Ans) : Ex LV :=
  match P.underlying t with
  | some (.array n e) =>
    (match x, sizL P e with
     | .p k o, some sz => (match idxX i n an with | some ((j, s), ob, an) => some (ptrL k (o + j * sz) s, ob, an) | none => none)
     | .ps k o, some sz => (match idxX i n an with | some ((j, _), ob, an) => some (.ps k (o + j * sz), ob, an) | none => none)
     | _, _ => none)
  | some (.slice e) =>
    (match x, sizL P e with
     | .sl k o l _ z, some sz => if z = sz then (match idxX i l an with | some ((j, s), ob, an) => some (ptrL k (o + j * sz) s, ob, an) | none => none) else none
     | .ss k o l _ z, some sz => if z = sz then (match idxS i l an with | some ((j, _), ob, an) => some (.ps k (o + j * sz), ob, an) | none => none) else none
     | .so k l z, some sz => if z = sz ∧ z ≠ 0 then (match idxS i l an with | some ((j, _), ob, an) => some (.ps k (j * sz), ob, an) | none => none) else none
     | _, _ => none)
  | _ => none

/-- A slice's bound: known, or by an answer. -/
def bndX (x : Option LV) (dflt most : Nat) (an : List Ans) : Ex Nat :=
  match x with
  | none => some (dflt, [], an)
  | some (.i _ j) => if 0 ≤ j ∧ j ≤ most then some (j.toNat, [], an) else none
  | some (.s _ j) =>
    (match takeF asIx an with
     | some (none, an) => some (j.toNat, [0 ≤ j ∧ j ≤ most], an)
     | some (some i, an) => some (i, [j = i ∧ i ≤ most], an)
     | none => some (j.toNat, [0 ≤ j ∧ j ≤ most], an))
  | _ => none
/-- A slice's bound where no one knows how long it is. -/
def bndS (x : Option LV) (dflt most : Nat) (an : List Ans) : Ex Nat :=
  match x with
  | none => some (dflt, [], an)
  | some (.i _ j) => some (j.toNat, [0 ≤ j ∧ j ≤ most], an)
  | some (.s _ j) => some (j.toNat, [0 ≤ j ∧ j ≤ most], an)
  | _ => none
/-- A slice of a slice that is as long as no one knows. -/
def sliceS (k o l c z : Nat) (h g : Option LV) (own : Bool) (an : List Ans) : Ex LV :=
  match bndS h l c an with
  | some (hv, o1, an) =>
    (match bndS g 0 hv an with
     | some (lv, o2, an) => some (.ss k (o + lv * z) (hv - lv) (c - lv) z, (if own then [0 < l] else []) ++ (o1 ++ o2), an)
     | none => none)
  | none => none

def pureX (P : Program) (op : Op) (ev : Operand → Option LV) (an : List Ans) : Ex LV :=
  match op with
  | .move x | .assign x => (match ev x with | some v => some (v, [], an) | none => none)
  | .pick c a b =>
    (match ev c with
     | some (.b t) => (match ev (if t then a else b) with | some v => some (v, [], an) | none => none)
     | _ => none)
  | .build t parts =>
    (match evParts ev parts.toList with
     | some ps => (match buildX P t ps with | some v => some (v, [], an) | none => none)
     | none => none)
  | .nilCheck x =>
    (match ev x with
     | some (.p k o) => some (.p k o, [], an)
     | some (.ps k o) => some (.ps k o, [], an)
     | some (.fn f c) => some (.fn f c, [], an)
     | some (.yl k) => some (.yl k, [], an)
     | _ => none)
  | .binOp bop t x y _ =>
    (match ev x, ev y with
     | some a, some b => binX P bop t a b an
     | _, _ => none)
  | .unOp uop _ x =>
    (match uop, ev x with
     | .not, some (.b a) => some (.b !a, [], an)
     | .not, some (.sb a) => some (.sb !a, [], an)
     | .neg, some (.i k a) => some (.i k (fwrap k (0 - a)), [], an)
     | .neg, some (.s k a) => arithX k true (k.wrap (0 - a)) (0 - a) an
     | _, _ => none)
  | .convert src dst x =>
    (match P.underlying src, P.underlying dst, ev x with
     | some _, some (.int k), some (.i _ a) => some (.i k (fwrap k a), [], an)
     | some _, some (.int k), some (.s _ a) => arithX k true (k.wrap a) a an
     | _, _, _ => none)
  | .fieldAddr s x f =>
    (match P.underlying s, ev x with
     | some (.struct fs), some (.p k o) =>
       (match fs[f]? with
        | some fd => (match sizL P fd.type with | some n => if n = 0 then none else some (.p k (o + fd.offset), [], an) | none => none)
        | none => none)
     | some (.struct fs), some (.ps k o) =>
       (match fs[f]? with
        | some fd => (match sizL P fd.type with | some n => if n = 0 then none else some (.ps k (o + fd.offset), [], an) | none => none)
        | none => none)
     | _, _ => none)
  | .field t x f =>
    (match P.underlying t, ev x with
     | some (.struct fs), some (.agg xs) =>
       (match fs[f]? with
        | some fd => (match partL P fd.type xs fd.offset with | some v => some (v, [], an) | none => none)
        | none => none)
     | _, _ => none)
  | .indexAddr t x i =>
    (match ev x, ev i with
     | some a, some b => indexAddrX P t a b an
     | _, _ => none)
  | .index t x i =>
    (match P.underlying t, ev x, ev i with
     | some (.array n e), some (.agg xs), some j =>
       (match j, sizL P e with
        | .i _ j, some sz => if 0 ≤ j ∧ j < n then (match partL P e xs (j.toNat * sz) with | some v => some (v, [], an) | none => none) else none
        | _, _ => none)
     | _, _, _ => none)
  | .slice t x lo hi mx =>
    (match P.underlying t, ev x with
     | some (.slice e), some (.sl k o l c z) =>
       (match sizL P e with
        | some sz =>
          if z = sz then
            (match mx with
             | some q =>
               (match lo, (match hi with | some h => ev h | none => none), ev q with
                | none, some (.i _ 0), some (.i _ 0) => some (.se k, [], an)
                | _, _, _ => none)
             | none =>
               match (match hi with | none => some (none : Option LV) | some h => (ev h).map some), (match lo with | none => some (none : Option LV) | some h => (ev h).map some) with
               | some h, some g =>
                 (match bndX h l c an with
                  | some (hv, o1, an) =>
                    (match bndX g 0 hv an with
                     | some (lv, o2, an) => some (.sl k (o + lv * sz) (hv - lv) (c - lv) z, o1 ++ o2, an)
                     | none => none)
                  | none => none)
               | _, _ => none)
          else none
        | none => none)
     | some (.slice e), some (.ss k o l c z) =>
       (match sizL P e, mx, (match hi with | none => some (none : Option LV) | some h => (ev h).map some), (match lo with | none => some (none : Option LV) | some h => (ev h).map some) with
        | some sz, none, some h, some g => if z = sz then sliceS k o l c z h g false an else none
        | _, _, _, _ => none)
     | some (.slice e), some (.so k l z) =>
       (match sizL P e, mx, (match hi with | none => some (none : Option LV) | some h => (ev h).map some), (match lo with | none => some (none : Option LV) | some h => (ev h).map some) with
        | some sz, none, some h, some g => if z = sz then sliceS k 0 l l z h g true an else none
        | _, _, _, _ => none)
     | _, _ => none)
  | .extract x i =>
    (match ev x with
     | some (.tup xs) => (match xs[i]? with | some v => some (v, [], an) | none => none)
     | _ => none)
  | .makeFunc (.func f) first captured =>
    (if first.isEmpty then (match evAll ev captured.toList with | some vs => some (.fn f vs, [], an) | none => none) else none)
  | .call { callee := .builtin .len, args, argTypes } =>
    (match argTypes[0]?, args[0]? with
     | some t, some x =>
       (match P.underlying t, ev x with
        | some (.slice _), some (.sl _ _ l _ _) => some (.i .i64 l, [], an)
        | some (.slice _), some (.ss _ _ l _ _) => some (.s .i64 l, [], an)
        | some (.slice _), some (.so _ l _) => some (.s .i64 l, [], an)
        | some (.slice _), some .n0 => some (.i .i64 0, [], an)
        | some (.slice _), some (.se _) => some (.i .i64 0, [], an)
        | some (.array n _), some _ => some (.i .i64 n, [], an)
        | _, _ => none)
     | _, _ => none)
  | .call { callee := .builtin .max, args, argTypes := _ } =>
    (match args.toList with
     | [x, y] =>
       (match (ev x).bind asI, (ev y).bind asI with
        | some (k, a, s), some (k', b, s') => if k = k' then some (if s || s' then .s k (max2I a b) else .i k (max2I a b), [], an) else none
        | _, _ => none)
     | _ => none)
  | .call { callee := .builtin .min, args, argTypes := _ } =>
    (match args.toList with
     | [x, y] =>
       (match (ev x).bind asI, (ev y).bind asI with
        | some (k, a, s), some (k', b, s') => if k = k' then some (if s || s' then .s k (min2I a b) else .i k (min2I a b), [], an) else none
        | _, _ => none)
     | _ => none)
  | _ => none
end

end Go.Vse
