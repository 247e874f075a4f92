/- The executor's operations, each with a definition of its own: the kernel unfolds no more than it wants. -/
import Derived.Test.YtpnfdndjaepbbaaVse1K
namespace Go.Vse
open Go
variable [AbstRep]

def p_move (_P : Program) (x : Operand) (ev : Operand → Option LV) (an : List Ans) : Ex LV := (match ev x with | some v => some (v, [], an) | none => none)

def p_pick (_P : Program) (c : Operand) (a : Operand) (b : Operand) (ev : Operand → Option LV) (an : List Ans) : Ex LV :=
    (match ev c with
     | some (.b t) => (match ev (if t then a else b) with | some v => some (v, [], an) | none => none)
     | _ => none)

def p_build (P : Program) (t : TypeId) (parts : Array (Nat × Operand)) (ev : Operand → Option LV) (an : List Ans) : Ex LV :=
    (match evParts ev parts.toList with
     | some ps => (match buildX P t ps with | some v => some (v, [], an) | none => none)
     | none => none)

def p_nilCheck (_P : Program) (x : Operand) (ev : Operand → Option LV) (an : List Ans) : Ex LV :=
    (match ev x with
     | some (.p k o) => some (.p k o, [], an)
     | some (.ps k o) => some (.ps k o, [], an)
     | some (.fn f c) => some (.fn f c, [], an)
     | some (.yl k) => some (.yl k, [], an)
     | _ => none)

def p_binOp (P : Program) (bop : BinOp) (t : TypeId) (x : Operand) (y : Operand) (ev : Operand → Option LV) (an : List Ans) : Ex LV :=
    (match ev x, ev y with
     | some a, some b => binX P bop t a b an
     | _, _ => none)

def p_unOp (_P : Program) (uop : UnOp) (x : Operand) (ev : Operand → Option LV) (an : List Ans) : Ex LV :=
    (match uop, ev x with
     | .not, some (.b a) => some (.b !a, [], an)
     | .not, some (.sb a) => some (.sb !a, [], an)
     | .neg, some (.i k a) => some (.i k (fwrap k (0 - a)), [], an)
     | .neg, some (.s k a) => arithX k true (k.wrap (0 - a)) (0 - a) an
     | _, _ => none)

def p_convert (P : Program) (src : TypeId) (dst : TypeId) (x : Operand) (ev : Operand → Option LV) (an : List Ans) : Ex LV :=
    (match P.underlying src, P.underlying dst, ev x with
     | some _, some (.int k), some (.i _ a) => some (.i k (fwrap k a), [], an)
     | some _, some (.int k), some (.s _ a) => arithX k true (k.wrap a) a an
     | _, _, _ => none)

def p_fieldAddr (P : Program) (s : TypeId) (x : Operand) (f : Nat) (ev : Operand → Option LV) (an : List Ans) : Ex LV :=
    (match P.underlying s, ev x with
     | some (.struct fs), some (.p k o) =>
       (match fs[f]? with
        | some fd => (match sizL P fd.type with | some n => if n = 0 then none else some (.p k (o + fd.offset), [], an) | none => none)
        | none => none)
     | some (.struct fs), some (.ps k o) =>
       (match fs[f]? with
        | some fd => (match sizL P fd.type with | some n => if n = 0 then none else some (.ps k (o + fd.offset), [], an) | none => none)
        | none => none)
     | _, _ => none)

def p_field (P : Program) (t : TypeId) (x : Operand) (f : Nat) (ev : Operand → Option LV) (an : List Ans) : Ex LV :=
    (match P.underlying t, ev x with
     | some (.struct fs), some (.agg xs) =>
       (match fs[f]? with
        | some fd => (match partL P fd.type xs fd.offset with | some v => some (v, [], an) | none => none)
        | none => none)
     | _, _ => none)

def p_indexAddr (P : Program) (t : TypeId) (x : Operand) (i : Operand) (ev : Operand → Option LV) (an : List Ans) : Ex LV :=
    (match ev x, ev i with
     | some a, some b => indexAddrX P t a b an
     | _, _ => none)

def p_index (P : Program) (t : TypeId) (x : Operand) (i : Operand) (ev : Operand → Option LV) (an : List Ans) : Ex LV :=
    (match P.underlying t, ev x, ev i with
     | some (.array n e), some (.agg xs), some j =>
       (match j, sizL P e with
        | .i _ j, some sz => if 0 ≤ j ∧ j < n then (match partL P e xs (j.toNat * sz) with | some v => some (v, [], an) | none => none) else none
        | _, _ => none)
     | _, _, _ => none)

def p_slice (P : Program) (t : TypeId) (x : Operand) (lo : Option Operand) (hi : Option Operand) (mx : Option Operand) (ev : Operand → Option LV) (an : List Ans) : Ex LV :=
    (match P.underlying t, ev x with
     | some (.slice e), some (.sl k o l c z) =>
       (match sizL P e with
        | some sz =>
          if z = sz then
            (match mx with
             | some q =>
               (match lo, (match hi with | some h => ev h | none => none), ev q with
                | none, some (.i _ 0), some (.i _ 0) => some (.se k, [], an)
                | _, _, _ => none)
             | none =>
               match (match hi with | none => some (none : Option LV) | some h => (ev h).map some), (match lo with | none => some (none : Option LV) | some h => (ev h).map some) with
               | some h, some g =>
                 (match bndX h l c an with
                  | some (hv, o1, an) =>
                    (match bndX g 0 hv an with
                     | some (lv, o2, an) => some (.sl k (o + lv * sz) (hv - lv) (c - lv) z, o1 ++ o2, an)
                     | none => none)
                  | none => none)
               | _, _ => none)
          else none
        | none => none)
     | some (.slice e), some (.ss k o l c z) =>
       (match sizL P e, mx, (match hi with | none => some (none : Option LV) | some h => (ev h).map some), (match lo with | none => some (none : Option LV) | some h => (ev h).map some) with
        | some sz, none, some h, some g => if z = sz then sliceS k o l c z h g false an else none
        | _, _, _, _ => none)
     | some (.slice e), some (.so k l z) =>
       (match sizL P e, mx, (match hi with | none => some (none : Option LV) | some h => (ev h).map some), (match lo with | none => some (none : Option LV) | some h => (ev h).map some) with
        | some sz, none, some h, some g => if z = sz then sliceS k 0 l l z h g true an else none
        | _, _, _, _ => none)
     | _, _ => none)

def p_extract (_P : Program) (x : Operand) (i : Nat) (ev : Operand → Option LV) (an : List Ans) : Ex LV :=
    (match ev x with
     | some (.tup xs) => (match xs[i]? with | some v => some (v, [], an) | none => none)
     | _ => none)

def p_makeFunc (_P : Program) (f : FuncId) (first : Array Operand) (captured : Array Operand) (ev : Operand → Option LV) (an : List Ans) : Ex LV :=
    (if first.isEmpty then (match evAll ev captured.toList with | some vs => some (.fn f vs, [], an) | none => none) else none)

def p_len (P : Program) (args : Array Operand) (argTypes : Array TypeId) (ev : Operand → Option LV) (an : List Ans) : Ex LV :=
    (match argTypes[0]?, args[0]? with
     | some t, some x =>
       (match P.underlying t, ev x with
        | some (.slice _), some (.sl _ _ l _ _) => some (.i .i64 l, [], an)
        | some (.slice _), some (.ss _ _ l _ _) => some (.s .i64 l, [], an)
        | some (.slice _), some (.so _ l _) => some (.s .i64 l, [], an)
        | some (.slice _), some .n0 => some (.i .i64 0, [], an)
        | some (.slice _), some (.se _) => some (.i .i64 0, [], an)
        | some (.array n _), some _ => some (.i .i64 n, [], an)
        | _, _ => none)
     | _, _ => none)

def p_max (args : Array Operand) (ev : Operand → Option LV) (an : List Ans) : Ex LV :=
    (match args.toList with
     | [x, y] =>
       (match (ev x).bind asI, (ev y).bind asI with
        | some (k, a, s), some (k', b, s') => if k = k' then some (if s || s' then .s k (max2I a b) else .i k (max2I a b), [], an) else none
        | _, _ => none)
     | _ => none)
def p_min (args : Array Operand) (ev : Operand → Option LV) (an : List Ans) : Ex LV :=
    (match args.toList with
     | [x, y] =>
       (match (ev x).bind asI, (ev y).bind asI with
        | some (k, a, s), some (k', b, s') => if k = k' then some (if s || s' then .s k (min2I a b) else .i k (min2I a b), [], an) else none
        | _, _ => none)
     | _ => none)

def m_alloc (P : Program) (nt : Nat) (t : TypeId) (_ev : Operand → Option LV) (m : Mem) (an : List Ans) : MEx :=
    (match zeroL P t with
     | some z => if (m nt).isFree = true then some (.p nt 0, [(nt, .cells true t (cellsL z))], [nt], [], an) else none
     | none => none)

def m_box (_P : Program) (nt : Nat) (t : TypeId) (x : Operand) (ev : Operand → Option LV) (m : Mem) (an : List Ans) : MEx :=
    (match ev x with
     | some v => if (m nt).isFree = true ∧ v.isAny = false then some (.p nt 0, [(nt, .cells true t (cellsL v))], [nt], [], an) else none
     | none => none)

def m_buildSlice (P : Program) (nt : Nat) (t : TypeId) (len : Nat) (parts : Array (Nat × Operand)) (ev : Operand → Option LV) (m : Mem) (an : List Ans) : MEx :=
    (match P.underlying t, evParts ev parts.toList with
     | some (.slice e), some ps =>
       (match sizL P e, zeroL P e with
        | some sz, some z =>
          if len * sz ≤ 1000000 ∧ (cellsL z).length = sz ∧ (m nt).isFree = true then
            (match fillL (fun i => some (i * sz, sz)) (repZ (cellsL z) (len * sz)) ps with
             | some cs => some (.sl nt 0 len len sz, [(nt, .cells true e cs)], [nt], [], an)
             | none => none)
          else none
        | _, _ => none)
     | _, _ => none)

def m_load (P : Program) (_nt : Nat) (t : TypeId) (a : Operand) (ev : Operand → Option LV) (m : Mem) (an : List Ans) : MEx :=
    (match (ev a).bind ptrOf with
     | some (k, o, s) =>
       (match (m k).cs? with
        | some cs => (match loadX P t cs o s an with | some (v, ob, an) => some (v, [], [k], ob, an) | none => none)
        | none => none)
     | none => none)

def m_store (P : Program) (_nt : Nat) (t : TypeId) (a : Operand) (x : Operand) (ev : Operand → Option LV) (m : Mem) (an : List Ans) : MEx :=
    (match (ev a).bind ptrOf, ev x, sizL P t with
     | some (k, o, s), some v, some n =>
       (match m k with
        | .cells true T cs =>
          if (cellsL v).length = n ∧ (cellsL v).all scalL = true then
            if s then
              (match takeF asSt an with
               | some (cs', an) => some (.tup [], [(k, .cells true T cs')], [k], [o + n ≤ cs.length, spliceL cs o (cellsL v) = cs'], an)
               | none => some (.tup [], [(k, .cells true T (spliceL cs o (cellsL v)))], [k], [o + n ≤ cs.length], an))
            else if o + n ≤ cs.length then some (.tup [], [(k, .cells true T (spliceL cs o (cellsL v)))], [k], [], an) else none
          else none
        | _ => none)
     | _, _, _ => none)

def m_makeSlice (P : Program) (nt : Nat) (t : TypeId) (l : Operand) (c : Operand) (ev : Operand → Option LV) (m : Mem) (an : List Ans) : MEx :=
    (match P.underlying t, ev l, ev c with
     | some (.slice e), some (.i .i64 l), some (.i .i64 c) =>
       (match sizL P e, zeroL P e with
        | some sz, some z =>
          if 0 ≤ l ∧ l ≤ c ∧ c ≤ 1000000 ∧ (cellsL z).length = sz ∧ bytesOk P e c.toNat = true ∧ (m nt).isFree = true then
            some (.sl nt 0 l.toNat c.toNat sz, [(nt, .cells true e (repZ (cellsL z) (c.toNat * sz)))], [nt], [], an)
          else none
        | _, _ => none)
     | _, _, _ => none)

def m_slice (P : Program) (_nt : Nat) (t : TypeId) (x : Operand) (lo : Option Operand) (hi : Option Operand) (mx : Option Operand) (ev : Operand → Option LV) (m : Mem) (an : List Ans) : MEx :=
    (match P.underlying t, ev x, lo, hi, mx with
     | some (.array n e), some (.p k o), none, none, none =>
       (match sizL P e, m k with
        | some sz, .cells _ _ cs => if n ≠ 0 ∧ o + n * sz ≤ cs.length then some (.sl k o n n sz, [], [k], [], an) else none
        | _, _ => none)
     | _, _, _, _, _ => none)

def m_append (P : Program) (nt : Nat) (args : Array Operand) (argTypes : Array TypeId) (ev : Operand → Option LV) (m : Mem) (an : List Ans) : MEx :=
    (match argTypes[0]?, argTypes[1]?, (args[0]?).bind ev, (args[1]?).bind ev with
     | some ts, some tx, some s, some x =>
       (match P.underlying ts, P.underlying tx with
        | some (.slice e), some (.int _) =>
          (match x, sizL P e, zeroL P e with
           | .i .i64 n, some sz, some z =>
             (match s with
              | .n0 =>
                if 0 < n ∧ n ≤ 1000000 ∧ (cellsL z).length = sz ∧ sz ≠ 0 ∧ bytesOk P e n.toNat = true ∧ (m nt).isFree = true then
                  some (.sl nt 0 n.toNat n.toNat sz, [(nt, .cells true e (repZ (cellsL z) (n.toNat * sz)))], [nt], [], an)
                else none
              | _ => none)
           | _, _, _ => none)
        | some (.slice e), some (.slice _) =>
          (match sizL P e with
           | some sz =>
             (match srcX m x sz, zeroL P e with
              | some (rd, new, n), some z =>
                if (cellsL z).length = sz then
                  (match appendX P nt e sz s rd new n m with
                   | some (v, ch, rd) => some (v, ch, rd, [], an)
                   | none => none)
                else none
              | _, _ => none)
           | none => none)
        | _, _ => none)
     | _, _, _, _ => none)

def m_clear (P : Program) (_nt : Nat) (args : Array Operand) (argTypes : Array TypeId) (ev : Operand → Option LV) (m : Mem) (an : List Ans) : MEx :=
    (match argTypes[0]?, (args[0]?).bind ev with
     | some t, some x =>
       (match P.underlying t, x with
        | some (.slice _), .n0 => some (.tup [], [], [], [], an)
        | some (.slice _), .se _ => some (.tup [], [], [], [], an)
        | some (.slice e), .sl k o l _ z =>
          if l = 0 then some (.tup [], [], [], [], an) else
          (match sizL P e, zeroL P e, m k with
           | some sz, some zr, .cells true T cs =>
             if z = sz ∧ (cellsL zr).length = sz ∧ (cellsL zr).all scalL = true ∧ o + l * z ≤ cs.length then
               some (.tup [], [(k, .cells true T (spliceL cs o (repZ (cellsL zr) (l * sz))))], [k], [], an)
             else none
           | _, _, _ => none)
        | _, _ => none)
     | _, _ => none)

def m_cap (P : Program) (_nt : Nat) (args : Array Operand) (argTypes : Array TypeId) (ev : Operand → Option LV) (_m : Mem) (an : List Ans) : MEx :=
    (match argTypes[0]?, (args[0]?).bind ev with
     | some t, some x =>
       (match P.underlying t, x with
        | some (.slice _), .n0 => some (.i .i64 0, [], [], [], an)
        | some (.slice _), .se _ => some (.i .i64 0, [], [], [], an)
        | _, _ => none)
     | _, _ => none)

def s_load (P : Program) (_nt : Nat) (t : TypeId) (a : Operand) (ev : Operand → Option LV) (m : Mem) (an : List Ans) : MEx :=
    (match (ev a).bind ptrOf with
     | some (k, o, _) =>
       (match (m k).flOf with
        | some (_, fs) => (match loadF P t fs o an with | some (v, ob, an) => some (v, [], [k], ob, an) | none => none)
        | none => none)
     | none => none)

def s_store (P : Program) (_nt : Nat) (t : TypeId) (a : Operand) (x : Operand) (ev : Operand → Option LV) (m : Mem) (an : List Ans) : MEx :=
    (match (ev a).bind ptrOf, (ev x).bind (fun v => scOfs (cellsL v)), sizL P t with
     | some (k, o, _), some xs, some n =>
       (match (m k).flOf with
        | some (true, fs) => if xs.length = n ∧ n ≠ 0 then some (.tup [], [(k, (m k).flSet (spliceL fs o xs))], [k], [o + n ≤ fs.length], an) else none
        | _ => none)
     | _, _, _ => none)

def s_slice (P : Program) (nt : Nat) (t : TypeId) (x : Operand) (lo : Option Operand) (hi : Option Operand) (mx : Option Operand) (ev : Operand → Option LV) (m : Mem) (an : List Ans) : MEx :=
    (match P.underlying t, ev x, lo, hi.bind ev, mx.bind ev with
     | some (.slice e), some (.ss _ _ _ _ z), none, some (.i _ 0), some (.i _ 0) =>
       if (m nt).isFree = true ∧ sizL P e = some z then some (.so nt 0 z, [(nt, .vec e [])], [nt], [], an) else none
     | some (.slice e), some (.so _ _ z), none, some (.i _ 0), some (.i _ 0) =>
       if (m nt).isFree = true ∧ sizL P e = some z then some (.so nt 0 z, [(nt, .vec e [])], [nt], [], an) else none
     | _, _, _, _, _ => none)

def s_makeSlice (P : Program) (nt : Nat) (t : TypeId) (l : Operand) (c : Operand) (ev : Operand → Option LV) (m : Mem) (an : List Ans) : MEx :=
    (match P.underlying t, ev l, ev c with
     | some (.slice e), some (.s .i64 l), some (.s .i64 c) =>
       (match sizL P e, (zeroL P e).bind (fun z => scOfs (cellsL z)) with
        | some sz, some zs =>
          if zs.length = sz ∧ (m nt).isFree = true then
            some (.so nt l.toNat sz, [(nt, .vec e (repS zs (l.toNat * sz)))], [nt], [l = c, 0 ≤ l, l ≤ 1000000, bytesOk P e l.toNat = true], an)
          else none
        | _, _ => none)
     | _, _, _ => none)

def s_append (P : Program) (nt : Nat) (args : Array Operand) (argTypes : Array TypeId) (ev : Operand → Option LV) (m : Mem) (an : List Ans) : MEx :=
    (match argTypes[0]?, argTypes[1]?, (args[0]?).bind ev, (args[1]?).bind ev with
     | some ts, some tx, some s, some x =>
       (match P.underlying ts, P.underlying tx with
        | some (.slice e), some (.slice _) =>
          (match sizL P e with
           | some sz =>
             (match srcS m x sz, zeroL P e with
              | some src, some z =>
                if (cellsL z).length = sz then
                  (match appS P nt e sz s m src with
                   | some (v, ch, rd, ob) => some (v, ch, rd, ob, an)
                   | none => none)
                else none
              | _, _ => none)
           | none => none)
        | _, _ => none)
     | _, _, _, _ => none)

def liftP (r : Ex LV) : MEx :=
  match r with
  | some (v, ob, an) => some (v, [], [], ob, an)
  | none => none
def orM (r : Ex LV) (q : Unit → MEx) : MEx :=
  match r with
  | some (v, ob, an) => some (v, [], [], ob, an)
  | none => q ()
def orN (r : MEx) (q : Unit → MEx) : MEx :=
  match r with
  | some x => some x
  | none => q ()

def opY (P : Program) (nt : Nat) (op : Op) (ev : Operand → Option LV) (m : Mem) (an : List Ans) : MEx :=
  match op with
  | .move x => liftP (p_move P x ev an)
  | .assign x => liftP (p_move P x ev an)
  | .pick c a b => liftP (p_pick P c a b ev an)
  | .build t parts => liftP (p_build P t parts ev an)
  | .nilCheck x => liftP (p_nilCheck P x ev an)
  | .binOp bop t x y _ => liftP (p_binOp P bop t x y ev an)
  | .unOp uop _ x => liftP (p_unOp P uop x ev an)
  | .convert src dst x => liftP (p_convert P src dst x ev an)
  | .fieldAddr s x f => liftP (p_fieldAddr P s x f ev an)
  | .field t x f => liftP (p_field P t x f ev an)
  | .indexAddr t x i => liftP (p_indexAddr P t x i ev an)
  | .index t x i => liftP (p_index P t x i ev an)
  | .slice t x lo hi mx => orM (p_slice P t x lo hi mx ev an) fun _ => orN (m_slice P nt t x lo hi mx ev m an) fun _ => s_slice P nt t x lo hi mx ev m an
  | .extract x i => liftP (p_extract P x i ev an)
  | .makeFunc (.func f) first captured => liftP (p_makeFunc P f first captured ev an)
  | .alloc t => orN (m_alloc P nt t ev m an) fun _ => none
  | .box t x => orN (m_box P nt t x ev m an) fun _ => none
  | .buildSlice t len parts => orN (m_buildSlice P nt t len parts ev m an) fun _ => none
  | .load t a => orN (m_load P nt t a ev m an) fun _ => s_load P nt t a ev m an
  | .store t a x => orN (m_store P nt t a x ev m an) fun _ => s_store P nt t a x ev m an
  | .makeSlice t l c => orN (m_makeSlice P nt t l c ev m an) fun _ => s_makeSlice P nt t l c ev m an
  | .call c =>
    (match c.callee with
     | .builtin b =>
       (match b with
        | .len => liftP (p_len P c.args c.argTypes ev an)
        | .max => liftP (p_max c.args ev an)
        | .min => liftP (p_min c.args ev an)
        | .append => orN (m_append P nt c.args c.argTypes ev m an) fun _ => s_append P nt c.args c.argTypes ev m an
        | .clear => orN (m_clear P nt c.args c.argTypes ev m an) fun _ => none
        | .cap => orN (m_cap P nt c.args c.argTypes ev m an) fun _ => none
        | _ => none)
     | _ => none)
  | _ => none

theorem opY_eq (P : Program) (nt : Nat) (op : Op) (ev : Operand → Option LV) (m : Mem) (an : List Ans) : opY P nt op ev m an = (match pureX P op ev an with
    | some (v, ob, an) => some (v, [], [], ob, an)
    | none => memX P nt op ev m an) := by
  cases op with
  | call c =>
    obtain ⟨callee, args, argTypes⟩ := c
    cases callee with
    | builtin b => cases b <;> (simp only [opY, pureX, memX, memC, memS, liftP, orN]; first | rfl | skip)
    | _ => rfl
  | makeFunc f first captured => cases f <;> (simp only [opY, pureX, memX, memC, memS, liftP]; first | rfl | skip)
  | _ => (simp only [opY, pureX, memX, memC, memS, liftP, orM, orN]; first | rfl | skip)

end Go.Vse
