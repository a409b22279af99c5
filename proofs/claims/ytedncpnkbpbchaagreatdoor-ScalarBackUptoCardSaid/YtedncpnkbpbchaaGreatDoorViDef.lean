/-
  A verified interpreter over pure data: definitions. Slices are lists of values; a slice whose tail may be appended to is marked 'own'. Nothing of the model's memory stands here.
-/
import Derived.Calls
import Derived.Laws.AppendOwn
set_option linter.unusedVariables false
namespace Go.Vi

/-- Pure data. A slice's elements all have 'sz' cells. 'any': one cell, whatever it holds. -/
inductive D where
  | bool (b : Bool)
  | int (k : IntKind) (n : Int)
  | str (s : List UInt8)
  | err (there : Bool)
  | slice (sz : Nat) (xs : List D)
  | agg (cs : List D)
  | any
  deriving Inhabited

def D.cells : D → List D
  | .agg cs => cs
  | d => [d]

def flat (xs : List D) : List D := xs.flatMap D.cells

/-- What a slot may hold. 'un': nothing, for its operation was not wanted. 'own': a slice whose spare room nobody else has. 'lref s off': an address in the variable whose address slot s holds. 'cref x': an address of memory that reads x and is never written. -/
inductive V where
  | d (x : D)
  | own (sz : Nat) (xs : List D)
  | lref (s off : Nat)
  | cref (x : D)
  | tup (xs : List D)
  | iter (s : List UInt8) (pos : Nat)
  | un
  deriving Inhabited

inductive Opd where
  | t (s : Nat)
  | c (v : V)
  | g (i : Nat)
  deriving Inhabited

/-- The kinds of operands that an operator takes: whole numbers, strings, bools, errors. -/
inductive BK where
  | i | s | b | e
  deriving DecidableEq, Inhabited

inductive SOp where
  | mov (mv : Bool) (x : Opd)
  | pick (c a b : Opd)
  | zbox (cs : List D)
  | box (x : Opd)
  | build (zero : List D) (parts : List (Nat × Nat × Opd))
  | mk (sz : Nat) (xs : List Opd)
  | load (n : Option Nat) (x : Opd)
  | store (n : Nat) (x v : Opd)
  | bin (k : BK) (op : BinOp) (x y : Opd)
  | eqs (neg : Bool) (n : Nat) (x y : Opd)
  | neg (x : Opd)
  | not (x : Opd)
  | cint (k : IntKind) (x : Opd)
  | cstr (x : Opd)
  | faddr (off : Nat) (n : Option Nat) (x : Opd)
  | iaddr (sz : Nat) (x i : Opd)
  | aaddr (len sz : Nat) (n : Option Nat) (x i : Opd)
  | sidx (x i : Opd)
  | aidx (len sz : Nat) (n : Option Nat) (x i : Opd)
  | app (str : Bool) (sz bytes : Nat) (x y : Opd)
  | len (str : Bool) (x : Opd)
  | max2 (x y : Opd)
  | make (zero : D) (bytes : Nat) (l c : Opd)
  | slcs (x : Opd) (lo hi : Option Opd)
  | slc (sz : Nat) (x : Opd) (lo hi mx : Option Opd)
  | rng (x : Opd)
  | nxt (s : Nat)
  | ext (x : Opd) (i : Nat)
  | call (f : Nat) (args : List (Bool × Opd))
  deriving Inhabited

structure SOper where
  dst : Option Nat
  guard : Option (Nat × Bool) := none
  op : SOp
  deriving Inhabited

inductive SC where
  | skip
  | reg (ops : List SOper) (live : List Nat)
  | seq (a b : SC)
  | cond (x : Opd) (a b : SC)
  | block (id : Nat) (b : SC)
  | loop (b : SC)
  | exit (id : Nat)
  | scope (b cur : SC)
  | label (l : Nat)
  | goto (l : Nat)
  | ret
  deriving Inhabited

/-- A scope that has not been entered. -/
def SC.scp (b : SC) : SC := .scope b b

inductive SRes where
  | slot (s : Nat)
  | cell (s : Nat) (n : Option Nat)
  deriving Inhabited

structure SFunc where
  np : Nat
  res : List SRes
  body : SC
  deriving Inhabited

/-- A program over data: its functions, those that are given by what they answer, the package's variables. -/
structure Mach where
  fn : Nat → Option SFunc
  prim : Nat → Option (List D → Option V)
  glob : Nat → Option D

abbrev Env := Nat → Option V
abbrev Bx := Nat → Option (List D)

structure RS where
  env : Env
  bx : Bx

structure St where
  env : List (Nat × V)
  bx : List (Nat × List D)

inductive Ex where
  | norm
  | exit (id : Nat)
  | goto (l : Nat)
  | ret
  deriving DecidableEq

def upd {α : Type} (e : Nat → α) (s : Nat) (v : α) : Nat → α := fun t => if t = s then v else e t
def get {α : Type} : List (Nat × α) → Nat → Option α
  | [], _ => none
  | (k, v) :: r, s => if s = k then some v else get r s
def setAll (e : Env) : List (Nat × V) → Env
  | [] => e
  | (s, v) :: r => setAll (upd e s (some v)) r

def ev (gl : Nat → Option D) (e : Env) : Opd → Option V
  | .t s => e s
  | .c v => some v
  | .g i => (gl i).map V.cref
/-- A value that is read, no more. -/
def V.read : V → Option D
  | .d x => some x
  | .own sz xs => some (.slice sz xs)
  | _ => none
def evD (gl : Nat → Option D) (e : Env) (x : Opd) : Option D := (ev gl e x).bind V.read
def evDs (gl : Nat → Option D) (e : Env) : List Opd → Option (List D)
  | [] => some []
  | x :: r => (evD gl e x).bind fun d => (evDs gl e r).bind fun ds => some (d :: ds)
def D.asInt : D → Option Int
  | .int _ n => some n
  | _ => none
def evI (gl : Nat → Option D) (e : Env) (x : Opd) : Option Int := (evD gl e x).bind D.asInt
/-- A value that is handed on: with its tail, if 'mv'. -/
def take (gl : Nat → Option D) (e : Env) (mv : Bool) (x : Opd) : Option (V × List (Nat × V)) :=
  match ev gl e x with
  | some (.own sz xs) =>
    if mv then some (.own sz xs, match x with | .t s => [(s, .d (.slice sz xs))] | _ => []) else some (.d (.slice sz xs), [])
  | some (.d x) => some (.d x, [])
  | _ => none
def takeArgs (gl : Nat → Option D) (e : Env) : List (Bool × Opd) → Option (List V × List (Nat × V))
  | [] => some ([], [])
  | (mv, x) :: r => (take gl e mv x).bind fun p => (takeArgs gl e r).bind fun q => some (p.1 :: q.1, p.2 ++ q.2)
def isOwn : V → Bool
  | .own _ _ => true
  | _ => false
/-- At most one tail is handed on. -/
def oneOwn : List V → Bool
  | [] => true
  | v :: r => if isOwn v then r.all (fun x => !isOwn x) else oneOwn r

/-- The part of a row of cells at a place: one cell, or an aggregate of n. -/
def sub (cs : List D) (off : Nat) : Option Nat → Option D
  | none => cs[off]?
  | some n => if off + n ≤ cs.length then some (.agg ((cs.drop off).take n)) else none
def whole : Option Nat → D → Option D
  | none, .agg _ => none
  | none, x => some x
  | some n, .agg cs => if cs.length = n then some (.agg cs) else none
  | some _, _ => none
def setAt : List D → Nat → List D → List D
  | cs, _, [] => cs
  | cs, off, d :: ds => setAt (cs.set off d) (off + 1) ds
def fill : List D → List (Nat × Nat × Opd) → List D → Option (List D)
  | cs, (off, sz, _) :: ps, d :: ds => if d.cells.length = sz ∧ off + sz ≤ cs.length then fill (setAt cs off d.cells) ps ds else none
  | cs, [], [] => some cs
  | _, _, _ => none

def bitsD (op : BinOp) (k : IntKind) (x y : Int) : Int :=
  let a := BitVec.ofInt k.bits x
  let b := BitVec.ofInt k.bits y
  match op with
  | .and => k.wrap (a &&& b).toNat
  | .or => k.wrap (a ||| b).toNat
  | .xor => k.wrap (a ^^^ b).toNat
  | _ => k.wrap (a &&& ~~~b).toNat

def binI (op : BinOp) (k : IntKind) (a : Int) (k' : IntKind) (b : Int) : Option D :=
  match op with
  | .shl => if 0 ≤ b then some (.int k (k.wrap (a * 2 ^ (min b.toNat k.bits)))) else none
  | .shr => if 0 ≤ b then some (.int k (a.fdiv (2 ^ (min b.toNat k.bits)))) else none
  | .add => if k = k' then some (.int k (k.wrap (a + b))) else none
  | .sub => if k = k' then some (.int k (k.wrap (a - b))) else none
  | .mul => if k = k' then some (.int k (k.wrap (a * b))) else none
  | .quo => if k = k' ∧ b ≠ 0 then some (.int k (k.wrap (a.tdiv b))) else none
  | .rem => if k = k' ∧ b ≠ 0 then some (.int k (a.tmod b)) else none
  | .and => if k = k' then some (.int k (bitsD .and k a b)) else none
  | .or => if k = k' then some (.int k (bitsD .or k a b)) else none
  | .xor => if k = k' then some (.int k (bitsD .xor k a b)) else none
  | .andNot => if k = k' then some (.int k (bitsD .andNot k a b)) else none
  | .eql => if k = k' then some (.bool (a == b)) else none
  | .neq => if k = k' then some (.bool (a != b)) else none
  | .lss => if k = k' then some (.bool (decide (a < b))) else none
  | .leq => if k = k' then some (.bool (decide (a ≤ b))) else none
  | .gtr => if k = k' then some (.bool (decide (a > b))) else none
  | .geq => if k = k' then some (.bool (decide (a ≥ b))) else none
def binS (op : BinOp) (a b : List UInt8) : Option D :=
  match op with
  | .add => if a.length + b.length ≤ 9223372036854775807 then some (.str (a ++ b)) else none
  | .eql => some (.bool (a == b))
  | .neq => some (.bool (!(a == b)))
  | .lss => some (.bool (Op.bytesLess a b))
  | .leq => some (.bool (Op.bytesLess a b || a == b))
  | .gtr => some (.bool (!(Op.bytesLess a b || a == b)))
  | .geq => some (.bool (!Op.bytesLess a b))
  | _ => none
def binB (op : BinOp) (a b : Bool) : Option D :=
  match op with
  | .eql => some (.bool (a == b))
  | .neq => some (.bool (!(a == b)))
  | _ => none
def binE (op : BinOp) (a b : Bool) : Option D :=
  match op, b with
  | .eql, false => some (.bool (!a))
  | .neq, false => some (.bool a)
  | _, _ => none
def binD (k : BK) (op : BinOp) (x y : D) : Option D :=
  match k, x, y with
  | .i, .int k a, .int k' b => binI op k a k' b
  | .s, .str a, .str b => binS op a b
  | .b, .bool a, .bool b => binB op a b
  | .e, .err a, .err b => binE op a b
  | _, _, _ => none

/-- Are two rows of whole numbers of the same kinds the same? -/
def sameInts : List D → List D → Option Bool
  | [], [] => some true
  | .int k a :: x, .int k' b :: y => if k = k' then (sameInts x y).map fun r => a == b && r else none
  | _, _ => none

def byteOf : D → Option UInt8
  | .int .u8 n => some (UInt8.ofNat n.toNat)
  | _ => none
def bytesOf : List D → Option (List UInt8)
  | [] => some []
  | d :: r => (byteOf d).bind fun b => (bytesOf r).bind fun bs => some (b :: bs)
def bytesD (s : List UInt8) : List D := s.map fun b => .int .u8 b.toNat

structure Eff where
  val : Option V
  sets : List (Nat × V) := []
  bx : Option (Nat × List D) := none

def put (dst : Option Nat) (v : Option V) (e : Env) : Env :=
  match dst with
  | some s => upd e s v
  | none => e

def bound (gl : Nat → Option D) (e : Env) (dflt : Nat) : Option Opd → Option Nat
  | none => some dflt
  | some x => (evI gl e x).bind fun n => if 0 ≤ n then some n.toNat else none

def eff (gl : Nat → Option D) (cf : Nat → List V → Option V) (dst : Option Nat) (rs : RS) : SOp → Option Eff
  | .mov mv x =>
    match ev gl rs.env x with
    | some (.lref s o) => some { val := some (.lref s o) }
    | some (.cref x) => some { val := some (.cref x) }
    | some (.tup xs) => some { val := some (.tup xs) }
    | _ => (take gl rs.env mv x).map fun p => { val := some p.1, sets := p.2 }
  | .pick c a b =>
    match evD gl rs.env c with
    | some (.bool t) => (evD gl rs.env (if t then a else b)).map fun d => { val := some (.d d) }
    | _ => none
  | .zbox cs =>
    match dst with
    | some s => if (rs.bx s).isNone && !cs.isEmpty then some { val := some (.lref s 0), bx := some (s, cs) } else none
    | none => none
  | .box x =>
    match dst, evD gl rs.env x with
    | some s, some d => if (rs.bx s).isNone && !d.cells.isEmpty then some { val := some (.lref s 0), bx := some (s, d.cells) } else none
    | _, _ => none
  | .build zero parts =>
    (evDs gl rs.env (parts.map (·.2.2))).bind fun ds => (fill zero parts ds).map fun cs => { val := some (.d (.agg cs)) }
  | .mk sz xs =>
    (evDs gl rs.env xs).bind fun ds =>
      if ds.all (fun d => d.cells.length == sz) then some { val := some (.own sz ds) } else none
  | .load n x =>
    match ev gl rs.env x with
    | some (.cref d) => (whole n d).map fun d => { val := some (.d d) }
    | some (.lref s o) => (rs.bx s).bind fun cs => (sub cs o n).map fun d => { val := some (.d d) }
    | _ => none
  | .store n x v =>
    match ev gl rs.env x, evD gl rs.env v with
    | some (.lref s o), some d => (rs.bx s).bind fun cs =>
        if d.cells.length = n ∧ o + n ≤ cs.length then some { val := none, bx := some (s, setAt cs o d.cells) } else none
    | _, _ => none
  | .bin k op x y => (evD gl rs.env x).bind fun a => (evD gl rs.env y).bind fun b => (binD k op a b).map fun d => { val := some (.d d) }
  | .eqs neg n x y =>
    match evD gl rs.env x, evD gl rs.env y with
    | some (.agg a), some (.agg b) => if a.length = n then (sameInts a b).map fun r => { val := some (.d (.bool (if neg then !r else r))) } else none
    | _, _ => none
  | .neg x =>
    match evD gl rs.env x with
    | some (.int k n) => some { val := some (.d (.int k (k.wrap (0 - n)))) }
    | _ => none
  | .not x =>
    match evD gl rs.env x with
    | some (.bool b) => some { val := some (.d (.bool (!b))) }
    | _ => none
  | .cint k x =>
    match evD gl rs.env x with
    | some (.int _ n) => some { val := some (.d (.int k (k.wrap n))) }
    | _ => none
  | .cstr x =>
    match evD gl rs.env x with
    | some (.slice _ xs) => (bytesOf xs).map fun s => { val := some (.d (.str s)) }
    | _ => none
  | .faddr off n x =>
    match ev gl rs.env x with
    | some (.lref s o) => some { val := some (.lref s (o + off)) }
    | some (.cref (.agg cs)) => (sub cs off n).map fun d => { val := some (.cref d) }
    | _ => none
  | .iaddr sz x i =>
    match evD gl rs.env x, evI gl rs.env i with
    | some (.slice sz' xs), some n => if 0 ≤ n ∧ sz' = sz then (xs[n.toNat]?).map fun d => { val := some (.cref d) } else none
    | _, _ => none
  | .aaddr len sz n x i =>
    match ev gl rs.env x, evI gl rs.env i with
    | some (.lref s o), some m => if 0 ≤ m ∧ m < len then some { val := some (.lref s (o + m.toNat * sz)) } else none
    | some (.cref (.agg cs)), some m => if 0 ≤ m ∧ m < len then (sub cs (m.toNat * sz) n).map fun d => { val := some (.cref d) } else none
    | _, _ => none
  | .sidx x i =>
    match evD gl rs.env x, evI gl rs.env i with
    | some (.str s), some n => if 0 ≤ n then (s[n.toNat]?).map fun b => { val := some (.d (.int .u8 b.toNat)) } else none
    | _, _ => none
  | .aidx len sz n x i =>
    match evD gl rs.env x, evI gl rs.env i with
    | some (.agg cs), some m => if 0 ≤ m ∧ m < len then (sub cs (m.toNat * sz) n).map fun d => { val := some (.d d) } else none
    | _, _ => none
  | .app str sz bytes x y =>
    match ev gl rs.env x, evD gl rs.env y, str with
    | some (.own sz' xs), some (.slice sz'' ys), false =>
      if sz' = sz ∧ sz'' = sz ∧ (xs.length + ys.length) * bytes ≤ 140737488355328 then
        some { val := some (.own sz (xs ++ ys)), sets := match x with | .t s => [(s, .d (.slice sz xs))] | _ => [] } else none
    | some (.own sz' xs), some (.str s), true =>
      if sz' = sz ∧ sz = 1 ∧ (xs.length + s.length) * bytes ≤ 140737488355328 then
        some { val := some (.own sz (xs ++ bytesD s)), sets := match x with | .t s => [(s, .d (.slice sz xs))] | _ => [] } else none
    | _, _, _ => none
  | .len str x =>
    match evD gl rs.env x, str with
    | some (.slice _ xs), false => some { val := some (.d (.int .i64 xs.length)) }
    | some (.str s), true => some { val := some (.d (.int .i64 s.length)) }
    | _, _ => none
  | .max2 x y =>
    match evD gl rs.env x, evD gl rs.env y with
    | some (.int k a), some (.int _ b) => some { val := some (.d (.int k (if b > a then b else a))) }
    | _, _ => none
  | .make zero bytes l c =>
    match evI gl rs.env l, evI gl rs.env c with
    | some l, some c => if 0 ≤ l ∧ l ≤ c ∧ bytes * c ≤ 281474976710656 ∧ c ≤ 9223372036854775807 then some { val := some (.own zero.cells.length (List.replicate l.toNat zero)) } else none
    | _, _ => none
  | .slcs x lo hi =>
    match evD gl rs.env x with
    | some (.str s) =>
      match bound gl rs.env s.length hi, bound gl rs.env 0 lo with
      | some h, some l => if l ≤ h ∧ h ≤ s.length then some { val := some (.d (.str ((s.take h).drop l))) } else none
      | _, _ => none
    | _ => none
  | .slc sz x lo hi mx =>
    match evD gl rs.env x with
    | some (.slice sz' xs) =>
      match bound gl rs.env xs.length hi, bound gl rs.env 0 lo, bound gl rs.env xs.length mx with
      | some h, some l, some m => if l ≤ h ∧ h ≤ m ∧ m ≤ xs.length ∧ sz' = sz ∧ (mx.isNone ∨ hi.isSome) then some { val := some (.d (.slice sz ((xs.take h).drop l))) } else none
      | _, _, _ => none
    | _ => none
  | .rng x =>
    match evD gl rs.env x with
    | some (.str s) => some { val := some (.iter s 0) }
    | _ => none
  | .nxt s =>
    match rs.env s with
    | some (.iter l pos) =>
      if pos < l.length then
        let r := Utf8.decode ⟨l.toArray⟩ pos
        some { val := some (.tup [.bool true, .int .i64 pos, .int .i32 r.1]), sets := [(s, .iter l (pos + r.2))] }
      else some { val := some (.tup [.bool false]) }
    | _ => none
  | .ext x i =>
    match ev gl rs.env x with
    | some (.tup xs) => (xs[i]?).map fun d => { val := some (.d d) }
    | _ => none
  | .call f args => (takeArgs gl rs.env args).bind fun p => if oneOwn p.1 then (cf f p.1).map fun v => { val := some v, sets := p.2 } else none

def applyEff (dst : Option Nat) (rs : RS) (e : Eff) : RS :=
  { env := put dst e.val (setAll rs.env e.sets),
    bx := match e.bx with | some (s, cs) => upd rs.bx s (some cs) | none => rs.bx }

/-- Does a guard let the operation pass? -/
def gateD (want : Bool) : D → Option Bool
  | .bool b => some (b == want)
  | _ => none
def gateV (want : Bool) : V → Option Bool
  | .d x => gateD want x
  | .un => some false
  | _ => none
def gate (want : Bool) (v : Option V) : Option Bool := v.bind (gateV want)
/-- What an operation does: nothing where its guard says no. -/
def act (gl : Nat → Option D) (cf : Nat → List V → Option V) (o : SOper) (rs : RS) : Option (Option Eff) :=
  match o.guard with
  | none => (eff gl cf o.dst rs o.op).map some
  | some (g, want) =>
    match gate want (rs.env g) with
    | some true => (eff gl cf o.dst rs o.op).map some
    | some false => some none
    | none => none
def applyAct (dst : Option Nat) (rs : RS) : Option Eff → RS
  | none => { rs with env := put dst (some .un) rs.env }
  | some e => applyEff dst rs e
def step (gl : Nat → Option D) (cf : Nat → List V → Option V) (o : SOper) (rs : RS) : Option RS := (act gl cf o rs).map (applyAct o.dst rs)

def runOps (gl : Nat → Option D) (cf : Nat → List V → Option V) : List SOper → RS → Option RS
  | [], rs => some rs
  | o :: r, rs => (step gl cf o rs).bind (runOps gl cf r)

def okLive (live : List Nat) : V → Bool
  | .lref s _ => live.contains s
  | _ => true

def St.toRS (st : St) : RS := { env := get st.env, bx := get st.bx }
def keepEnv (all : List Nat) (e : Env) : List Nat → List (Nat × V)
  | [] => []
  | s :: r => match e s with
    | some v => if okLive all v then (s, v) :: keepEnv all e r else keepEnv all e r
    | none => keepEnv all e r
def keepBx (b : Bx) : List Nat → List (Nat × List D)
  | [] => []
  | s :: r => match b s with
    | some cs => (s, cs) :: keepBx b r
    | none => keepBx b r
def restrict (live : List Nat) (rs : RS) : St := { env := keepEnv live rs.env live, bx := keepBx rs.bx live }

def findL : SC → Nat → Option SC
  | .seq a b, l =>
    match findL a l with
    | some r => some (.seq r b)
    | none => findL b l
  | .label l', l => if l' = l then some .skip else none
  | _, _ => none

def condOf (gl : Nat → Option D) (st : St) (x : Opd) : Option Bool :=
  match ev gl (get st.env) x with
  | some (.d (.bool b)) => some b
  | _ => none

def exec (gl : Nat → Option D) (cf : Nat → List V → Option V) : Nat → SC → St → Option (Ex × St)
  | 0, _, _ => none
  | n + 1, c, st =>
    match c with
    | .skip => some (.norm, st)
    | .reg ops live => (runOps gl cf ops st.toRS).map fun rs => (.norm, restrict live rs)
    | .seq a b =>
      match exec gl cf n a st with
      | some (.norm, st') => exec gl cf n b st'
      | r => r
    | .cond x a b =>
      match condOf gl st x with
      | some true => exec gl cf n a st
      | some false => exec gl cf n b st
      | none => none
    | .block id b =>
      match exec gl cf n b st with
      | some (.exit i, st') => if i = id then some (.norm, st') else some (.exit i, st')
      | r => r
    | .loop b =>
      match exec gl cf n b st with
      | some (.norm, st') => exec gl cf n (.loop b) st'
      | r => r
    | .exit id => some (.exit id, st)
    | .scope b cur =>
      match exec gl cf n cur st with
      | some (.goto l, st') =>
        match findL b l with
        | some rest => exec gl cf n (.scope b rest) st'
        | none => some (.goto l, st')
      | r => r
    | .label _ => some (.norm, st)
    | .goto l => some (.goto l, st)
    | .ret => some (.ret, st)

def resD (st : St) : SRes → Option D
  | .slot s => (get st.env s).bind V.read
  | .cell s n => match get st.env s with
    | some (.lref s' o) => (get st.bx s').bind fun cs => sub cs o n
    | _ => none
def resDs (st : St) : List SRes → Option (List D)
  | [] => some []
  | r :: rs => (resD st r).bind fun d => (resDs st rs).bind fun ds => some (d :: ds)
def results (st : St) : List SRes → Option V
  | [.slot s] =>
    match get st.env s with
    | some (.d x) => some (.d x)
    | some (.own sz xs) => some (.own sz xs)
    | _ => none
  | [r] => (resD st r).map V.d
  | rs => (resDs st rs).map V.tup
def fin (res : List SRes) : Ex × St → Option V
  | (.norm, st) => results st res
  | (.ret, st) => results st res
  | _ => none

def initEnv : Nat → List V → List (Nat × V)
  | _, [] => []
  | i, v :: r => (i, v) :: initEnv (i + 1) r

def asDs : List V → Option (List D)
  | [] => some []
  | v :: r => v.read.bind fun d => (asDs r).bind fun ds => some (d :: ds)
def okArg : V → Bool
  | .d _ => true
  | .own _ _ => true
  | _ => false

def call (M : Mach) : Nat → Nat → List V → Option V
  | 0, _, _ => none
  | n + 1, f, args =>
    match M.prim f with
    | some p => (asDs args).bind p
    | none =>
      match M.fn f with
      | some sf => if args.length = sf.np ∧ args.all okArg = true then (exec M.glob (call M n) n sf.body { env := initEnv 0 args, bx := [] }).bind (fin sf.res) else none
      | none => none

end Go.Vi
