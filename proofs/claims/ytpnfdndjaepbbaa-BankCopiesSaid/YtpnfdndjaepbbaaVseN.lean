/- The executor: regions, calls, code. -/
import Derived.Test.YtpnfdndjaepbbaaVseM
import Derived.Test.YtpnfdndjaepbbaaVse1L
namespace Go.Vse
open Go

def opIn (n : Nat) : Operand → Bool
  | .tmp t => decide (t < n)
  | _ => true
section
variable [AbstRep]
def setTok (l : List Tok) (k : Nat) (t : Tok) : List Tok :=
  if k < l.length then l.set k t else l ++ List.replicate (k - l.length) .free ++ [t]
def setsTok (l : List Tok) : List (Nat × Tok) → List Tok
  | [] => l
  | (k, t) :: r => setsTok (setTok l k t) r
end

def putFr (fr : Tr) (d : Option Tmp) (v : LV) : Tr :=
  match d with
  | some t => fr.set 12 t v
  | none => fr

mutual
def LV.toks : LV → List Nat
  | .p k _ => [k]
  | .ps k _ => [k]
  | .sl k _ _ _ _ => [k]
  | .ss k _ _ _ _ => [k]
  | .se k => [k]
  | .so k _ _ => [k]
  | .yl k => [k]
  | .agg xs => toksL xs
  | .tup xs => toksL xs
  | .fn _ cs => toksL cs
  | .i .. => []
  | .s .. => []
  | .b _ => []
  | .sb _ => []
  | .any => []
  | .v _ => []
  | .p0 => []
  | .n0 => []
  | .f0 => []
def toksL : List LV → List Nat
  | [] => []
  | x :: xs => x.toks ++ toksL xs
end

section
variable [AbstRep]
def Tok.toks : Tok → List Nat
  | .cells _ _ cs => toksL cs
  | .glob _ _ cs => toksL cs
  | .loop _ _ tm _ _ _ df => df :: toksL tm
  | _ => []

/-- What is reached from some tokens. -/
def reach (m : List Tok) : Nat → List Nat → List Nat → List Nat
  | 0, _, seen => seen
  | _ + 1, [], seen => seen
  | n + 1, k :: todo, seen => if seen.contains k then reach m n todo seen else reach m n ((m.getD k .free).toks ++ todo) (seen ++ [k])
end

def idxIn (R : List Nat) (k : Nat) : Nat := R.findIdx (· == k)
def dedup : List Nat → List Nat
  | [] => []
  | x :: xs => if xs.contains x then dedup xs else x :: dedup xs
def nodupB : List Nat → Bool
  | [] => true
  | x :: xs => !xs.contains x && nodupB xs

section
variable [AbstRep]
def Tok.isGlob (g : Nat) : Tok → Bool
  | .glob g' _ _ => g' == g
  | _ => false
/-- Where a global's block is told of. -/
def globAt (m : List Tok) (g : Nat) : Option Nat :=
  let k := m.findIdx (·.isGlob g)
  if k < m.length then some k else none
/-- The tokens of all globals. -/
def globs (m : List Tok) : List Nat := (List.range m.length).filter fun k => match m.getD k .free with | .glob .. => true | _ => false
/-- An operand, with the globals that are told of. -/
def evG (m : List Tok) (fr : Tmp → LV) : Operand → Option LV
  | .global g => (match globAt m g with | some k => some (.p k 0) | none => evO fr (.global g))
  | x => evO fr x
def globUse (m : List Tok) (op : Op) : List Nat := op.operands.toList.filterMap fun | .global g => globAt m g | _ => none

/-- What a function's run hands back: its value, its memory, what it has written. -/
abbrev FOut := Option (LV × List Tok × List Nat × List Prop × List Ans)
end

/-- Whom a call enters: a function, or a round of a loop over a function. -/
inductive Tgt where
  | fn (f : FuncId)
  | yl (k : Nat)

def Tgt.toks : Tgt → List Nat
  | .yl k => [k]
  | .fn _ => []
def Tgt.ren (κ : Nat → Nat) : Tgt → Tgt
  | .yl k => .yl (κ k)
  | .fn f => .fn f

section
variable [AbstRep]
/-- A call in a small memory: what the arguments reach, under names of its own. -/
def callX (run : Tgt → List LV → List Tok → List Ans → FOut) (tg : Tgt) (args : List LV) (m : List Tok) (nt : Nat) (an : List Ans) : MEx :=
  let R := reach m 10000 (globs m ++ (toksL args ++ tg.toks)) []
  let n := R.length
  let ms := R.map fun k => (m.getD k .free).ren (idxIn R)
  let args' := renL (idxIn R) args
  let tg' := tg.ren (idxIn R)
  match run tg' args' ms an with
  | none => none
  | some (v, ms', wr, ob, an') =>
    let ch0 := dedup (wr.filter (· < n))
    let N := (reach ms' 10000 (v.toks ++ (ch0.map fun j => (ms'.getD j .free).toks).flatten) []).filter fun j => !(j < n)
    let ι := fun j => if j < n then R.getD j 0 else nt + idxIn N j
    let okTok := fun k => k < n || N.contains k
    if nodupB R && nodupB N
        && R.all (fun k => !(m.getD k .free).isFree)
        && ms.all (fun t => t.toks.all (· < n)) && (toksL args').all (· < n)
        && tg'.toks.all (· < n)
        && v.toks.all okTok && (ch0 ++ N).all (fun j => (ms'.getD j .free).toks.all okTok && !(ms'.getD j .free).isFree && !(ms'.getD j .free).isRo)
        && (List.range N.length).all (fun i => (m.getD (nt + i) .free).isFree)
    then
      some (v.ren ι, (ch0.map fun j => (ι j, (ms'.getD j .free).ren ι)) ++ (N.map fun j => (ι j, (ms'.getD j .free).ren ι)), R ++ (List.range N.length).map (nt + ·), ob, an')
    else none
end

/-- The function has a body: a call enters it. -/
def enterB (P : Program) (g : FuncId) : Bool := match P.funcs[g]? with | some fn => fn.body.isSome && !(fn.name == "runtime.NumGoroutine") | none => false

section
variable [AbstRep]
def opX (P : Program) (nt : Nat) (op : Op) (ev : Operand → Option LV) (m : Mem) (an : List Ans) : MEx :=
  match pureX P op ev an with
  | some (v, ob, an) => some (v, [], [], ob, an)
  | none => memX P nt op ev m an

/-- A function's triple. -/
def FSpec (P : Program) (tg : Tgt) (args : List LV) (m : Mem) (v : LV) (m' : Mem) : Prop :=
  (∀ k, al m k → al m' k) ∧ v.wf (al m') ∧
  ∀ F, okF F → ∀ w0 pr ρ w vs (R : Ending → World → Prop), Sim w0 pr ρ m w → VRs ρ args vs → wfL (al m) args →
    (∀ v' ρ' w', (∀ k, al m k → ρ' k = ρ k) → VR ρ' v v' → Sim w0 pr ρ' m' w' → R (.returned v') w') →
    match tg with
    | .fn f => CallsIn F 0 P f vs.toArray w R
    | .yl k => al m k → ∃ fn tmps asg body, (Instr.yield (ρ k).1 vs.toArray).run P w = .ok (.round (ρ k).1 fn tmps asg body) w ∧ RoundIn F 0 P (ρ k).1 fn tmps asg body w R

/-- What is owed of a call that is not entered: whatever else is in memory beside what it looks at. -/
def CallOK (P : Program) (f : FuncId) (args : List LV) (l : List (Nat × Tok)) (v : LV) (c : List (Nat × Tok)) : Prop :=
  ∀ M : Mem, (∀ p ∈ l, M p.1 = p.2) → FSpec P (.fn f) args M v (M.sets c)

/-- What looks at no memory. -/
def PureOK (P : Program) (f : FuncId) (args : List LV) (v : LV) : Prop := ∀ M : Mem, FSpec P (.fn f) args M v M
def owed (P : Program) (f : FuncId) (args : List LV) (m : Mem) (r : List Nat) (v : LV) (c : List (Nat × Tok)) : List Prop :=
  match r, c with
  | [], [] => [PureOK P f args v]
  | _, _ => [CallOK P f args (r.map fun k => (k, m k)) v c]

/-- What stands for a call that is not entered: an answer, or a law on small memories. -/
inductive Ctr where
  | dark
  | spec (s : List LV → List Tok → List Ans → FOut)
abbrev Ctrs := FuncId → Option Ctr
def onlyFn (g : FuncId) (s : List LV → List Tok → List Ans → FOut) (tg : Tgt) (args : List LV) (m : List Tok) (an : List Ans) : FOut :=
  match tg with
  | .fn f => if f = g then s args m an else none
  | .yl _ => none
def stepCall (P : Program) (opq : Ctrs) (run : Tgt → List LV → List Tok → List Ans → FOut) (f : Operand) (args : Array Operand) (fr : Tr) (m : List Tok) (nt : Nat) (an : List Ans) : MEx :=
    (match evO (frOf fr) f, evAll (evO (frOf fr)) args.toList with
     | some (.fn g cs), some as =>
       if enterB P g then
         (match opq g with
          | some .dark =>
            (match takeF asCall an with
             | some ((v, c, r), an) =>
               some (v, c, r, owed P g (as ++ cs) (memOf m) r v c, an)
             | none => Abst.nd 2 (PureOK P g (as ++ cs) (.tup [])))
          | some (.spec s) => callX (onlyFn g s) (.fn g) (as ++ cs) m nt an
          | none => callX run (.fn g) (as ++ cs) m nt an)
       else none
     | some (.yl k), some as => callX run (.yl k) as m nt an
     | _, _ => none)

def stepX (P : Program) (opq : Ctrs) (run : Tgt → List LV → List Tok → List Ans → FOut) (o : Oper) (fr : Tr) (m : List Tok) (nt : Nat) (an : List Ans) : MEx :=
  match o.op with
  | .call { callee := .value f, args, .. } => stepCall P opq run f args fr m nt an
  | op =>
    (match opY P nt op (evG m (frOf fr)) (memOf m) an with
     | some (v, c, r, ob, an) => some (v, c, r ++ globUse m op, ob, an)
     | none => none)

/-- One operation in its turn, its guard asked. -/
def entX (P : Program) (opq : Ctrs) (run : Tgt → List LV → List Tok → List Ans → FOut) (ops : Array Oper) (o : Oper) (st : St) (an : List Ans) : Option (Ent × St × List Prop × List Ans) :=
  let goA := fun (an : List Ans) => match stepX P opq run o st.fr st.m st.m.length an with
    | none => none
    | some (v, c, r, ob, an) => if !(c.all fun p => !p.2.isFree && !p.2.isRo) then none else some (({ run := true, v := v, c := c, r := r } : Ent), { st with fr := putFr st.fr o.dst v, m := setsTok st.m c, wr := (c.map (·.1)) ++ st.wr }, ob, an)
  let go := fun (_ : Unit) => goA an
  match (match o.dst with | some t => decide (t < st.n) | none => true) && decide (st.n ≤ 4000), (looks o ++ guardSlot ops o).all (· < st.n) with
  | true, true =>
    match o.guard with
    | none => go ()
    | some (g, want) =>
      match (ops[g]?).bind (·.dst) with
      | none => none
      | some t =>
        match yieldOf (frOf st.fr t) with
        | none =>
          (match frOf st.fr t with
           | .sb x =>
             (match askB (x = want) an with
              | some (r, ob1, an1) =>
                (match (if r then goA an1 else some ({ run := false, v := .tup [], c := [], r := [] }, { st with fr := putFr st.fr o.dst (.tup []) }, [], an1)) with
                 | some (e, st', ob, an2) => some (e, st', ob1 ++ ob, an2)
                 | none => none)
              | none => none)
           | _ => none)
        | some y => if y == some want then go () else some ({ run := false, v := .tup [], c := [], r := [] }, { st with fr := putFr st.fr o.dst (.tup []) }, [], an)
  | _, _ => none

def entsX (P : Program) (opq : Ctrs) (run : Tgt → List LV → List Tok → List Ans → FOut) (ops : Array Oper) : List Oper → St → List Ans → Option (List Ent × St × List Prop × List Ans)
  | [], st, an => some ([], st, [], an)
  | o :: l, st, an =>
    match entX P opq run ops o st an with
    | none => none
    | some (e, st1, ob1, an1) =>
      match entsX P opq run ops l st1 an1 with
      | none => none
      | some (es, st2, ob2, an2) => some (e :: es, st2, ob1 ++ ob2, an2)
end

/-- Who is before whom, a number's bits each. -/
def befT : List Oper → List Nat → List Nat
  | [], acc => acc
  | o :: l, acc => befT l (acc ++ [o.after.foldl (fun s e => if Region.binds .any e then s ||| 2 ^ e.on ||| acc.getD e.on 0 else s) 0])

def edgeB (l : List Oper) : Bool := l.zipIdx.all fun p => p.1.after.all fun e => !Region.binds .any e || decide (e.on < p.2)
/-- The table is what it says. -/
def befB (l : List Oper) (T : List Nat) : Bool :=
  l.zipIdx.all fun p => (List.range p.2).all fun j => !(T.getD p.2 0).testBit j || p.1.after.any fun e => Region.binds .any e && (e.on == j || (decide (j < e.on) && (T.getD e.on 0).testBit j))

section
variable [AbstRep]
def indepB (ops : Array Oper) (oi oj : Oper) (ei ej : Ent) : Bool :=
  (match oi.dst with | some t => (match oj.dst with | some u => t != u | none => true) && !(looks oj).contains t && !(guardSlot ops oj).contains t | none => true) &&
  (match oj.dst with | some t => !(looks oi).contains t && !(guardSlot ops oi).contains t | none => true) &&
  ei.c.all (fun p => ej.c.all (fun q => p.1 != q.1) && !ej.r.contains p.1) && ej.c.all (fun q => !ei.r.contains q.1)

def drawB (l : List Oper) (es : List Ent) : Bool :=
  let T := befT l []
  edgeB l && befB l T &&
  (l.zip es).zipIdx.all fun p => ((l.zip es).zipIdx).all fun q => !(decide (p.2 < q.2)) || (T.getD q.2 0).testBit p.2 || indepB l.toArray p.1.1 q.1.1 p.1.2 q.1.2

def regX (P : Program) (opq : Ctrs) (run : Tgt → List LV → List Tok → List Ans → FOut) (ops : Array Oper) (draw : Bool) (st : St) (an : List Ans) : Option (St × List Prop × List Ans) :=
  match entsX P opq run ops ops.toList st an with
  | none => none
  | some (es, st', ob, an') => if !draw || (P.follows .mixedOrders && drawB ops.toList es) then some (st', ob, an') else none

abbrev COut := Option (Exit × St × List Prop × List Ans)

def loopX (f : St → List Ans → COut) : Nat → St → List Ans → COut
  | 0, _, _ => none
  | n + 1, st, an =>
    match f st an with
    | some (.normal, st1, ob1, an1) =>
      (match loopX f n st1 an1 with
       | some (ex, st2, ob2, an2) => some (ex, st2, ob1 ++ ob2, an2)
       | none => none)
    | r => r


def loopTok (m : List Tok) (k : Nat) : Option (LoopState × Option Code × List LV × Array Tmp × Code × Code × Nat) :=
  match m.getD k .free with
  | .loop st pend tm ps asg body df => some (st, pend, tm, ps, asg, body, df)
  | _ => none

/-- The owed triple of a piece of code that is not run. -/
def CodeOK (P : Program) (rd : Option Nat) (c : Code) (st : St) (ex : Exit) (st' : St) : Prop :=
  (∀ k, al (memOf st.m) k → al (memOf st'.m) k) ∧ st'.n = st.n ∧ (∀ k ∈ st.wr, k ∈ st'.wr) ∧ (∀ k, al (memOf st.m) k → k ∉ st'.wr → memOf st'.m k = memOf st.m k) ∧
  (∀ k, (memOf st'.m k).isRo = true → (memOf st.m k).isRo = true) ∧
  ∀ F, okF F → ∀ w0 pr ρ w a Q, F.round = rd.map (fun l => (ρ l).1) → Sim w0 pr ρ (memOf st.m) w → FrR ρ (memOf st.m) st.n (frOf st.fr) a → a.defers = st.dm.map (fun d => ({ target := .collected (ρ d).1, args := #[] } : Deferred)) → (∀ d ∈ st.dm, al (memOf st.m) d) → (∀ l, rd = some l → al (memOf st.m) l) →
    (∀ ρ' a' w', (∀ k, al (memOf st.m) k → ρ' k = ρ k) → Sim w0 pr ρ' (memOf st'.m) w' → FrR ρ' (memOf st'.m) st'.n (frOf st'.fr) a' → a'.defers = st'.dm.map (fun d => ({ target := .collected (ρ' d).1, args := #[] } : Deferred)) → (∀ d ∈ st'.dm, al (memOf st'.m) d) → Q ex a' w') →
    c.wpIn F 0 P Q a w

/-- What is owed of what stands for a loop. -/
def LoopOK (P : Program) (rd : Option Nat) (c : Code) (g : LoopFn) : Prop := ∀ st ex st' ob, g st = some (ex, st', ob) → AllP ob → CodeOK P rd (.loop c) st ex st'
end

/-- What a jump that a round has left does: code of its own. -/
def jumpX : Option Code → Option Exit
  | none => some .normal
  | some .ret => some .ret
  | some (.exit id) => some (.exit id)
  | _ => none

section
variable [AbstRep]
/-- A loop over a function that has a contract is called by it. -/
def rgRun (opq : Ctrs) (run : Tgt → List LV → List Tok → List Ans → FOut) : Tgt → List LV → List Tok → List Ans → FOut
  | .fn g, args, m, an => match opq g with | some (.spec s) => s args m an | _ => run (.fn g) args m an
  | .yl k, args, m, an => run (.yl k) args m an
def rangeGo (P : Program) (run : Tgt → List LV → List Tok → List Ans → FOut) (rd : Option Nat) (f : Operand) (ps : Array Tmp) (asg body : Code) (st : St) (an : List Ans) : COut :=
    match (if opIn st.n f then evO (frOf st.fr) f else none) with
    | some (.fn g cs) =>
      if enterB P g then
        let n0 := st.m.length
        let start : Option (Nat × Nat × List Tok × List Nat) :=
          match rd with
          | some l0 => (match loopTok st.m l0 with | some (_, _, _, _, _, _, df) => some (n0, df, st.m, st.dm) | none => none)
          | none => some (n0 + 1, n0, st.m ++ [.defd], n0 :: st.dm)
        match start with
        | none => none
        | some (l, df, m1, dm1) =>
          let m2 := m1 ++ [.loop .ready none (st.fr.list st.n) ps asg body df]
          match callX run (.fn g) (.yl l :: cs) m2 m2.length an with
          | none => none
          | some (_, ch, _, ob, an') =>
            let m3 := setsTok m2 ch
            match loopTok m3 l with
            | some (lst, pend, tm, ps', asg', body', df') =>
              if lst == .busy then none else
              (match jumpX pend with
               | some ex => some (ex, { st with m := m3.set l (.loop .exhausted pend tm ps' asg' body' df'), dm := dm1, wr := l :: (ch.map (·.1)) ++ st.wr }, ob, an')
               | none => none)
            | none => none
      else none
    | _ => none

def codeX (P : Program) (opq : Ctrs) (run : Tgt → List LV → List Tok → List Ans → FOut) (lf : Nat) (rd : Option Nat) : Code → St → List Ans → COut
  | .skip, st, an => some (.normal, st, [], an)
  | .label _, st, an => some (.normal, st, [], an)
  | .region _ ops draw, st, an =>
    match regX P opq run ops draw st an with
    | some (st', ob, an') => some (.normal, st', ob, an')
    | none => none
  | .seq a b, st, an =>
    match codeX P opq run lf rd a st an with
    | some (.normal, st1, ob1, an1) =>
      (match codeX P opq run lf rd b st1 an1 with
       | some (ex, st2, ob2, an2) => some (ex, st2, ob1 ++ ob2, an2)
       | none => none)
    | r => r
  | .cond c a b, st, an =>
    match (if opIn st.n c then evO (frOf st.fr) c else none) with
    | some (.b true) => codeX P opq run lf rd a st an
    | some (.b false) => codeX P opq run lf rd b st an
    | some (.sb x) =>
      (match askB (x = true) an with
       | some (r, ob1, an) =>
         (match (bif r then codeX P opq run lf rd a st an else codeX P opq run lf rd b st an) with
          | some (ex, st', ob, an') => some (ex, st', ob1 ++ ob, an')
          | none => none)
       | none => none)
    | _ => none
  | .block id c, st, an =>
    match codeX P opq run lf rd c st an with
    | some (.exit id', st', ob, an') => if id' = id then some (.normal, st', ob, an') else some (.exit id', st', ob, an')
    | r => r
  | .loop c, st, an =>
    match takeF asLp an with
    | some (some g, an) =>
      (match g st with
       | some (ex, st', ob) => some (ex, st', LoopOK P rd c g :: ob, an)
       | none => none)
    | some (none, an) => loopX (codeX P opq run lf rd c) lf st an
    | none => loopX (codeX P opq run lf rd c) lf st an
  | .scope c, st, an =>
    match codeX P opq run lf rd c st an with
    | some (.goto _, _, _, _) => none
    | r => r
  | .exit id, st, an => some (.exit id, st, [], an)
  | .ret, st, an => some (.ret, st, [], an)
  | .rangeFunc f ps asg body, st, an => rangeGo P (rgRun opq run) rd f ps asg body st an
  | _, _, _ => none
end

/-- The frame in which a round begins: the record's, with what was yielded. -/
def roundFr (tm : List LV) (ps : Array Tmp) (args : List LV) : List LV := (ps.toList.zip args).foldl (fun fr p => fr.set p.1 p.2) tm

section
variable [AbstRep]
/-- One result. -/
def oneX (P : Program) (fr : Tr) (N : Nat) (m : List Tok) : ResultVar → Option LV
  | .tmp t => if t < N then some (frOf fr t) else none
  | .cell a t =>
    match frOf fr a with
    | .p k o => if a < N then (match memOf m k with | .cells _ _ cs => partL P t cs o | _ => none) else none
    | _ => none
def onesX (P : Program) (fr : Tr) (N : Nat) (m : List Tok) : List ResultVar → Option (List LV)
  | [] => some []
  | r :: rs =>
    match oneX P fr N m r, onesX P fr N m rs with
    | some x, some xs => some (x :: xs)
    | _, _ => none
/-- The results of a function. -/
def resX (P : Program) (fn : Func) (fr : Tr) (N : Nat) (m : List Tok) : Option LV :=
  match onesX P fr N m fn.results.toList with
  | some [v] => some v
  | some vs => some (.tup vs)
  | none => none
end

def exOk : Exit → Bool
  | .normal => true
  | .ret => true
  | _ => false
section
variable [AbstRep]
def marksOk (m : List Tok) (dm : List Nat) : Bool := nodupB dm && dm.all fun d => match m.getD d .free with | .defd => true | _ => false

def runF (P : Program) (opq : Ctrs) (lf : Nat) : Nat → Tgt → List LV → List Tok → List Ans → FOut
  | 0, _, _, _, _ => none
  | n + 1, .fn f, args, m, an =>
    match P.funcs[f]? with
    | none => none
    | some fn =>
      match fn.body with
      | none => none
      | some body =>
        match codeX P opq (runF P opq lf n) lf none body { fr := Tr.ofL args, n := fn.ntmps, m := m, dm := [], wr := [] } an with
        | some (ex, st, ob, an') =>
          if exOk ex && marksOk st.m st.dm && (decide (args.length ≤ fn.ntmps) && decide (fn.ntmps ≤ 4000)) then
            let mf := setsTok st.m (st.dm.map fun d => (d, .hid))
            match resX P fn st.fr st.n mf with
            | some v => if v.toks.all (fun k => !(mf.getD k .free).isFree) then some (v, mf, st.dm ++ st.wr, ob, an') else none
            | none => none
          else none
        | none => none
  | n + 1, .yl k, args, m, an =>
    match loopTok m k with
    | some (.ready, _, tm, ps, asg, body, _) =>
      if args.length = ps.size ∧ tm.length ≤ 4000 then
        match codeX P opq (runF P opq lf n) lf (some k) asg { fr := Tr.ofL (roundFr tm ps args), n := tm.length, m := m, dm := [], wr := [] } an with
        | some (.normal, st1, ob1, an1) =>
          (match loopTok st1.m k with
           | some (.ready, pend1, tm1, ps1, asg1, body1, df1) =>
             (match codeX P opq (runF P opq lf n) lf (some k) body { st1 with m := st1.m.set k (.loop .busy pend1 tm1 ps1 asg1 body1 df1), wr := k :: st1.wr } an1 with
              | some (ex, st2, ob2, an2) =>
                if st2.dm.isEmpty then
                  match loopTok st2.m k, (match ex with | .normal => some (none : Option Code) | .ret => some (some .ret) | .exit id => some (some (.exit id)) | _ => none) with
                  | some (_, _, tm2, ps2, asg2, body2, df2), some jump =>
                    some (.b jump.isNone, st2.m.set k (.loop (if jump.isNone then .ready else .done) jump tm2 ps2 asg2 body2 df2), k :: st2.wr, ob1 ++ ob2, an2)
                  | _, _ => none
                else none
              | none => none)
           | _ => none)
        | _ => none
      else none
    | _ => none
end

end Go.Vse
