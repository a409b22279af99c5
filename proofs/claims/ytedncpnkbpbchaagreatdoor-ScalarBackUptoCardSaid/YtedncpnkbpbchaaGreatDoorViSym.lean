/-
  The verified interpreter: equations by which a run is simplified, step by step, with no function under a binder.
-/
import Derived.Test.YtedncpnkbpbchaaGreatDoorViRun
set_option linter.unusedVariables false
set_option linter.unusedSimpArgs false
namespace Go.Vi

/-- Operations from a state that may have failed. -/
def runL (gl : Nat → Option D) (cf : Nat → List V → Option V) : List SOper → Option RS → Option RS
  | [], x => x
  | o :: r, some rs => runL gl cf r (step gl cf o rs)
  | _ :: _, none => none

/-- A datum is laid into the destination. -/
def layD (dst : Option Nat) (rs : RS) : Option D → Option RS
  | some d => some { env := put dst (some (.d d)) rs.env, bx := rs.bx }
  | none => none
def layV (dst : Option Nat) (rs : RS) : Option V → Option RS
  | some v => some { env := put dst (some v) rs.env, bx := rs.bx }
  | none => none
def movR (dst : Option Nat) (rs : RS) (mv : Bool) (x : Opd) : Option V → Option RS
  | some (.own sz xs) => if mv then some { env := put dst (some (.own sz xs)) (setAll rs.env (match x with | .t s => [(s, .d (.slice sz xs))] | _ => [])), bx := rs.bx } else some { env := put dst (some (.d (.slice sz xs))) rs.env, bx := rs.bx }
  | some (.d d) => some { env := put dst (some (.d d)) rs.env, bx := rs.bx }
  | some (.lref s o) => some { env := put dst (some (.lref s o)) rs.env, bx := rs.bx }
  | some (.cref d) => some { env := put dst (some (.cref d)) rs.env, bx := rs.bx }
  | some (.tup xs) => some { env := put dst (some (.tup xs)) rs.env, bx := rs.bx }
  | _ => none
def pickR (a b : Option D) : Option D → Option D
  | some (.bool t) => if t = true then a else b
  | _ => none
def bin2 (k : BK) (op : BinOp) : Option D → Option D → Option D
  | some a, some b => binD k op a b
  | _, _ => none
def eqs2 (neg : Bool) (n : Nat) : Option D → Option D → Option D
  | some (.agg a), some (.agg b) => if a.length = n then (match sameInts a b with | some r => some (.bool (if neg then !r else r)) | none => none) else none
  | _, _ => none
def negR : Option D → Option D
  | some (.int k n) => some (.int k (k.wrap (0 - n)))
  | _ => none
def notR : Option D → Option D
  | some (.bool b) => some (.bool (!b))
  | _ => none
def cintR (k : IntKind) : Option D → Option D
  | some (.int _ n) => some (.int k (k.wrap n))
  | _ => none
def cstrR : Option D → Option D
  | some (.slice _ xs) => (match bytesOf xs with | some s => some (.str s) | none => none)
  | _ => none
def crefR : Option D → Option V
  | some d => some (.cref d)
  | none => none
def iaddrR (sz : Nat) : Option D → Option Int → Option V
  | some (.slice sz' xs), some n => if 0 ≤ n ∧ sz' = sz then crefR (xs[n.toNat]?) else none
  | _, _ => none
def byteR : Option UInt8 → Option D
  | some b => some (.int .u8 b.toNat)
  | none => none
def sidxR : Option D → Option Int → Option D
  | some (.str s), some n => if 0 ≤ n then byteR (s[n.toNat]?) else none
  | _, _ => none
def aidxR (len sz : Nat) (n : Option Nat) : Option D → Option Int → Option D
  | some (.agg cs), some m => if 0 ≤ m ∧ m < len then sub cs (m.toNat * sz) n else none
  | _, _ => none
def lenR (str : Bool) : Option D → Option D
  | some (.slice _ xs) => if str then none else some (.int .i64 xs.length)
  | some (.str s) => if str then some (.int .i64 s.length) else none
  | _ => none
def max2R : Option D → Option D → Option D
  | some (.int k a), some (.int _ b) => some (.int k (if b > a then b else a))
  | _, _ => none
def makeR (zero : D) (bytes : Nat) : Option Int → Option Int → Option V
  | some l, some c => if 0 ≤ l ∧ l ≤ c ∧ bytes * c ≤ 281474976710656 ∧ c ≤ 9223372036854775807 then some (.own zero.cells.length (List.replicate l.toNat zero)) else none
  | _, _ => none
def slcsR : Option D → Option Nat → Option Nat → Option D
  | some (.str s), some l, some h => if l ≤ h ∧ h ≤ s.length then some (.str ((s.take h).drop l)) else none
  | _, _, _ => none
def slcR (sz : Nat) (mx hi : Bool) : Option D → Option Nat → Option Nat → Option Nat → Option D
  | some (.slice sz' xs), some l, some h, some m => if l ≤ h ∧ h ≤ m ∧ m ≤ xs.length ∧ sz' = sz ∧ (mx = true ∨ hi = true) then some (.slice sz ((xs.take h).drop l)) else none
  | _, _, _, _ => none
/-- The length that an open bound stands for. -/
def lenOf : Option D → Nat
  | some (.str s) => s.length
  | some (.slice _ xs) => xs.length
  | _ => 0
def natOf : Option Int → Option Nat
  | some n => if 0 ≤ n then some n.toNat else none
  | none => none
def rngR : Option D → Option V
  | some (.str s) => some (.iter s 0)
  | _ => none
def extR (i : Nat) : Option V → Option D
  | some (.tup xs) => xs[i]?
  | _ => none
def loadR (n : Option Nat) (bx : Bx) : Option V → Option D
  | some (.cref d) => whole n d
  | some (.lref s o) => (match bx s with | some cs => sub cs o n | none => none)
  | _ => none
def storeR (dst : Option Nat) (n : Nat) (rs : RS) : Option V → Option D → Option RS
  | some (.lref s o), some d => (match rs.bx s with
    | some cs => if d.cells.length = n ∧ o + n ≤ cs.length then some { env := put dst none rs.env, bx := upd rs.bx s (some (setAt cs o d.cells)) } else none
    | none => none)
  | _, _ => none
def faddrR (off : Nat) (n : Option Nat) : Option V → Option V
  | some (.lref s o) => some (.lref s (o + off))
  | some (.cref (.agg cs)) => crefR (sub cs off n)
  | _ => none
def aaddrR (len sz : Nat) (n : Option Nat) : Option V → Option Int → Option V
  | some (.lref s o), some m => if 0 ≤ m ∧ m < len then some (.lref s (o + m.toNat * sz)) else none
  | some (.cref (.agg cs)), some m => if 0 ≤ m ∧ m < len then crefR (sub cs (m.toNat * sz) n) else none
  | _, _ => none
def zboxR (s : Nat) (rs : RS) (cs : List D) : Option RS :=
  if (rs.bx s).isNone && !cs.isEmpty then some { env := upd rs.env s (some (.lref s 0)), bx := upd rs.bx s (some cs) } else none
def boxR (s : Nat) (rs : RS) : Option D → Option RS
  | some d => zboxR s rs d.cells
  | none => none
def buildR (zero : List D) (parts : List (Nat × Nat × Opd)) : Option (List D) → Option D
  | some ds => (match fill zero parts ds with | some cs => some (.agg cs) | none => none)
  | none => none
def mkR (sz : Nat) : Option (List D) → Option V
  | some ds => if ds.all (fun d => d.cells.length == sz) then some (.own sz ds) else none
  | none => none
def appR (dst : Option Nat) (rs : RS) (str : Bool) (sz bytes : Nat) (x : Opd) : Option V → Option D → Option RS
  | some (.own sz' xs), some (.slice sz'' ys) => if str = false ∧ sz' = sz ∧ sz'' = sz ∧ (xs.length + ys.length) * bytes ≤ 140737488355328 then
      some { env := put dst (some (.own sz (xs ++ ys))) (setAll rs.env (match x with | .t s => [(s, .d (.slice sz xs))] | _ => [])), bx := rs.bx } else none
  | some (.own sz' xs), some (.str s) => if str = true ∧ sz' = sz ∧ sz = 1 ∧ (xs.length + s.length) * bytes ≤ 140737488355328 then
      some { env := put dst (some (.own sz (xs ++ bytesD s))) (setAll rs.env (match x with | .t s => [(s, .d (.slice sz xs))] | _ => [])), bx := rs.bx } else none
  | _, _ => none
def nxtR (dst : Option Nat) (s : Nat) (rs : RS) : Option V → Option RS
  | some (.iter l pos) => if pos < l.length then
      some { env := put dst (some (.tup [.bool true, .int .i64 pos, .int .i32 (Utf8.decode ⟨l.toArray⟩ pos).1])) (upd rs.env s (some (.iter l (pos + (Utf8.decode ⟨l.toArray⟩ pos).2)))), bx := rs.bx }
      else some { env := put dst (some (.tup [.bool false])) rs.env, bx := rs.bx }
  | _ => none
/-- Arguments that are handed on without their tails. -/
def plainArgs : List (Bool × Opd) → Bool
  | [] => true
  | (mv, _) :: r => !mv && plainArgs r
def dArgs : Option (List D) → Option (List V)
  | some ds => some (ds.map V.d)
  | none => none
def callR (dst : Option Nat) (rs : RS) (cf : Nat → List V → Option V) (f : Nat) : Option (List V) → Option RS
  | some vs => layV dst rs (cf f vs)
  | none => none
def guardR (b want : Bool) (dst : Option Nat) (rs : RS) (x : Option RS) : Option RS := if b = want then x else some { env := put dst (some .un) rs.env, bx := rs.bx }

section
variable {gl : Nat → Option D} {cf : Nat → List V → Option V} {dst : Option Nat} {rs : RS}

theorem runOps_runL : ∀ (ops : List SOper) (rs : RS), runOps gl cf ops rs = runL gl cf ops (some rs)
  | [], rs => rfl
  | o :: r, rs => by
    simp only [runOps, runL]
    cases h : step gl cf o rs with
    | none => cases r <;> rfl
    | some rs' => exact runOps_runL r rs'

/-- The unguarded step. -/
def step1 (gl : Nat → Option D) (cf : Nat → List V → Option V) (dst : Option Nat) (op : SOp) (rs : RS) : Option RS := (eff gl cf dst rs op).map (applyEff dst rs)
theorem step_none {op : SOp} : step gl cf ⟨dst, none, op⟩ rs = step1 gl cf dst op rs := by
  simp only [step, act, step1, Option.map_map]
  cases eff gl cf dst rs op <;> rfl
def guardV (dst : Option Nat) (want : Bool) (rs : RS) (x : Option RS) : Option V → Option RS
  | some (.d (.bool b)) => guardR b want dst rs x
  | some .un => some { env := put dst (some .un) rs.env, bx := rs.bx }
  | _ => none
theorem step_some {op : SOp} {g : Nat} {want : Bool} : step gl cf ⟨dst, some (g, want), op⟩ rs = guardV dst want rs (step1 gl cf dst op rs) (rs.env g) := by
  simp only [step, act]
  cases h : rs.env g with
  | none => rfl
  | some v =>
    cases v <;> (try rfl)
    case d d =>
      cases d <;> (try rfl)
      case bool b =>
        simp only [guardV, guardR, step1, gate, Option.bind_some, gateV, gateD]
        by_cases hb : b = want
        · subst hb
          simp only [BEq.rfl, if_true, Option.map_map]
          cases eff gl cf dst rs op <;> rfl
        · have : (b == want) = false := by simpa using hb
          simp [this, hb, applyAct]

theorem s_mov {mv : Bool} {x : Opd} : step1 gl cf dst (.mov mv x) rs = movR dst rs mv x (ev gl rs.env x) := by
  simp only [step1, eff, take]
  cases h : ev gl rs.env x with
  | none => rfl
  | some v => cases v <;> (try rfl); cases mv <;> rfl
theorem s_pick {c a b : Opd} : step1 gl cf dst (.pick c a b) rs = layD dst rs (pickR (evD gl rs.env a) (evD gl rs.env b) (evD gl rs.env c)) := by
  simp only [step1, eff]
  cases h : evD gl rs.env c with
  | none => rfl
  | some v =>
    cases v <;> (try rfl)
    case bool t => cases t <;> simp only [pickR] <;> first | (cases h1 : evD gl rs.env a <;> simp [h1, layD, applyEff, setAll]; done) | (cases h1 : evD gl rs.env b <;> simp [h1, layD, applyEff, setAll]; done)
theorem s_zbox {s : Nat} {cs : List D} : step1 gl cf (some s) (.zbox cs) rs = zboxR s rs cs := by
  simp only [step1, eff, zboxR]
  split <;> rfl
theorem s_box {s : Nat} {x : Opd} : step1 gl cf (some s) (.box x) rs = boxR s rs (evD gl rs.env x) := by
  simp only [step1, eff]
  cases evD gl rs.env x with
  | none => rfl
  | some d => simp only [boxR, zboxR]; split <;> rfl
theorem s_build {zero : List D} {parts : List (Nat × Nat × Opd)} : step1 gl cf dst (.build zero parts) rs = layD dst rs (buildR zero parts (evDs gl rs.env (parts.map (·.2.2)))) := by
  simp only [step1, eff]
  cases evDs gl rs.env (parts.map (·.2.2)) with
  | none => rfl
  | some ds => simp only [buildR, Option.bind_some]; cases fill zero parts ds <;> rfl
theorem s_mk {sz : Nat} {xs : List Opd} : step1 gl cf dst (.mk sz xs) rs = layV dst rs (mkR sz (evDs gl rs.env xs)) := by
  simp only [step1, eff]
  cases evDs gl rs.env xs with
  | none => rfl
  | some ds => simp only [mkR, Option.bind_some]; split <;> rfl
theorem s_load {n : Option Nat} {x : Opd} : step1 gl cf dst (.load n x) rs = layD dst rs (loadR n rs.bx (ev gl rs.env x)) := by
  simp only [step1, eff]
  cases ev gl rs.env x with
  | none => rfl
  | some v =>
    cases v <;> (try rfl)
    case lref s o => simp only [loadR]; cases h : rs.bx s with
      | none => rfl
      | some cs => simp only [Option.bind_some]; cases sub cs o n <;> rfl
    case cref d => simp only [loadR]; cases whole n d <;> rfl
theorem s_store {n : Nat} {x v : Opd} : step1 gl cf dst (.store n x v) rs = storeR dst n rs (ev gl rs.env x) (evD gl rs.env v) := by
  simp only [step1, eff]
  cases ev gl rs.env x with
  | none => rfl
  | some u =>
    cases u <;> (try rfl)
    case lref s o =>
      cases evD gl rs.env v with
      | none => rfl
      | some d => simp only [storeR]; cases h : rs.bx s with
        | none => rfl
        | some cs => simp only [Option.bind_some]; split <;> rfl
theorem s_bin {k : BK} {op : BinOp} {x y : Opd} : step1 gl cf dst (.bin k op x y) rs = layD dst rs (bin2 k op (evD gl rs.env x) (evD gl rs.env y)) := by
  simp only [step1, eff]
  cases evD gl rs.env x with
  | none => rfl
  | some a =>
    cases evD gl rs.env y with
    | none => rfl
    | some b => simp only [bin2, Option.bind_some]; cases binD k op a b <;> rfl
theorem s_eqs {neg : Bool} {n : Nat} {x y : Opd} : step1 gl cf dst (.eqs neg n x y) rs = layD dst rs (eqs2 neg n (evD gl rs.env x) (evD gl rs.env y)) := by
  simp only [step1, eff]
  cases evD gl rs.env x with
  | none => rfl
  | some a =>
    cases a <;> (try rfl)
    case agg a =>
      cases evD gl rs.env y with
      | none => rfl
      | some b =>
        cases b <;> (try rfl)
        case agg b => simp only [eqs2]; split <;> (try rfl); cases sameInts a b <;> rfl
theorem s_neg {x : Opd} : step1 gl cf dst (.neg x) rs = layD dst rs (negR (evD gl rs.env x)) := by
  simp only [step1, eff]
  cases evD gl rs.env x with
  | none => rfl
  | some a => cases a <;> rfl
theorem s_not {x : Opd} : step1 gl cf dst (.not x) rs = layD dst rs (notR (evD gl rs.env x)) := by
  simp only [step1, eff]
  cases evD gl rs.env x with
  | none => rfl
  | some a => cases a <;> rfl
theorem s_cint {k : IntKind} {x : Opd} : step1 gl cf dst (.cint k x) rs = layD dst rs (cintR k (evD gl rs.env x)) := by
  simp only [step1, eff]
  cases evD gl rs.env x with
  | none => rfl
  | some a => cases a <;> rfl
theorem s_cstr {x : Opd} : step1 gl cf dst (.cstr x) rs = layD dst rs (cstrR (evD gl rs.env x)) := by
  simp only [step1, eff]
  cases evD gl rs.env x with
  | none => rfl
  | some a => cases a <;> (try rfl); case slice sz xs => simp only [cstrR]; cases bytesOf xs <;> rfl
theorem s_faddr {off : Nat} {n : Option Nat} {x : Opd} : step1 gl cf dst (.faddr off n x) rs = layV dst rs (faddrR off n (ev gl rs.env x)) := by
  simp only [step1, eff]
  cases ev gl rs.env x with
  | none => rfl
  | some v => cases v <;> (try rfl); case cref d => cases d <;> (try rfl); case agg cs => simp only [faddrR]; cases sub cs off n <;> rfl
theorem s_iaddr {sz : Nat} {x i : Opd} : step1 gl cf dst (.iaddr sz x i) rs = layV dst rs (iaddrR sz (evD gl rs.env x) (evI gl rs.env i)) := by
  simp only [step1, eff]
  cases evD gl rs.env x with
  | none => rfl
  | some a =>
    cases a <;> (try rfl)
    case slice sz' xs =>
      cases evI gl rs.env i with
      | none => rfl
      | some n => simp only [iaddrR]; split <;> (try rfl); cases xs[n.toNat]? <;> rfl
theorem s_aaddr {len sz : Nat} {n : Option Nat} {x i : Opd} : step1 gl cf dst (.aaddr len sz n x i) rs = layV dst rs (aaddrR len sz n (ev gl rs.env x) (evI gl rs.env i)) := by
  simp only [step1, eff]
  cases ev gl rs.env x with
  | none => rfl
  | some v =>
    cases v <;> (try rfl)
    case lref s o =>
      cases evI gl rs.env i with
      | none => rfl
      | some m => simp only [aaddrR]; split <;> rfl
    case cref d =>
      cases d <;> (try rfl)
      case agg cs =>
        cases evI gl rs.env i with
        | none => rfl
        | some m => simp only [aaddrR]; split <;> (try rfl); cases sub cs (m.toNat * sz) n <;> rfl
theorem s_sidx {x i : Opd} : step1 gl cf dst (.sidx x i) rs = layD dst rs (sidxR (evD gl rs.env x) (evI gl rs.env i)) := by
  simp only [step1, eff]
  cases evD gl rs.env x with
  | none => rfl
  | some a =>
    cases a <;> (try rfl)
    case str s =>
      cases evI gl rs.env i with
      | none => rfl
      | some n => simp only [sidxR]; split <;> (try rfl); cases s[n.toNat]? <;> rfl
theorem s_aidx {len sz : Nat} {n : Option Nat} {x i : Opd} : step1 gl cf dst (.aidx len sz n x i) rs = layD dst rs (aidxR len sz n (evD gl rs.env x) (evI gl rs.env i)) := by
  simp only [step1, eff]
  cases evD gl rs.env x with
  | none => rfl
  | some a =>
    cases a <;> (try rfl)
    case agg cs =>
      cases evI gl rs.env i with
      | none => rfl
      | some m => simp only [aidxR]; split <;> (try rfl); cases sub cs (m.toNat * sz) n <;> rfl
theorem s_app {str : Bool} {sz bytes : Nat} {x y : Opd} : step1 gl cf dst (.app str sz bytes x y) rs = appR dst rs str sz bytes x (ev gl rs.env x) (evD gl rs.env y) := by
  simp only [step1, eff]
  cases ev gl rs.env x with
  | none => rfl
  | some v =>
    cases v <;> (try rfl)
    case own sz' xs =>
      cases evD gl rs.env y with
      | none => rfl
      | some d =>
        cases d <;> (try rfl)
        case slice sz'' ys =>
          cases str
          · simp only [appR, true_and]; split <;> rfl
          · simp [appR]
        case str s =>
          cases str
          · simp [appR]
          · simp only [appR, true_and]; split <;> rfl
theorem s_len {str : Bool} {x : Opd} : step1 gl cf dst (.len str x) rs = layD dst rs (lenR str (evD gl rs.env x)) := by
  simp only [step1, eff]
  cases evD gl rs.env x with
  | none => rfl
  | some a => cases a <;> cases str <;> rfl
theorem s_max2 {x y : Opd} : step1 gl cf dst (.max2 x y) rs = layD dst rs (max2R (evD gl rs.env x) (evD gl rs.env y)) := by
  simp only [step1, eff]
  cases evD gl rs.env x with
  | none => rfl
  | some a =>
    cases a <;> (try rfl)
    case int k n =>
      cases evD gl rs.env y with
      | none => rfl
      | some b => cases b <;> rfl
theorem s_make {zero : D} {bytes : Nat} {l c : Opd} : step1 gl cf dst (.make zero bytes l c) rs = layV dst rs (makeR zero bytes (evI gl rs.env l) (evI gl rs.env c)) := by
  simp only [step1, eff]
  cases evI gl rs.env l with
  | none => rfl
  | some a =>
    cases evI gl rs.env c with
    | none => rfl
    | some b => simp only [makeR]; split <;> rfl
theorem bound_none {e : Env} {d : Nat} : bound gl e d none = some d := rfl
theorem bound_some {e : Env} {d : Nat} {x : Opd} : bound gl e d (some x) = natOf (evI gl e x) := by
  simp only [bound]
  cases evI gl e x <;> rfl
theorem s_slcs {x : Opd} {lo hi : Option Opd} : step1 gl cf dst (.slcs x lo hi) rs = layD dst rs (slcsR (evD gl rs.env x) (bound gl rs.env 0 lo) (bound gl rs.env (lenOf (evD gl rs.env x)) hi)) := by
  simp only [step1, eff]
  cases evD gl rs.env x with
  | none => rfl
  | some a =>
    cases a <;> (try rfl)
    case str s =>
      simp only [lenOf]
      cases bound gl rs.env s.length hi with
      | none => cases bound gl rs.env 0 lo <;> rfl
      | some h =>
        cases bound gl rs.env 0 lo with
        | none => rfl
        | some l => simp only [slcsR]; split <;> rfl
theorem s_slc {sz : Nat} {x : Opd} {lo hi mx : Option Opd} : step1 gl cf dst (.slc sz x lo hi mx) rs =
    layD dst rs (slcR sz mx.isNone hi.isSome (evD gl rs.env x) (bound gl rs.env 0 lo) (bound gl rs.env (lenOf (evD gl rs.env x)) hi) (bound gl rs.env (lenOf (evD gl rs.env x)) mx)) := by
  simp only [step1, eff]
  cases evD gl rs.env x with
  | none => rfl
  | some a =>
    cases a <;> (try rfl)
    case slice sz' xs =>
      simp only [lenOf]
      cases bound gl rs.env xs.length hi with
      | none => cases bound gl rs.env 0 lo <;> rfl
      | some h =>
        cases bound gl rs.env 0 lo with
        | none => rfl
        | some l =>
          cases bound gl rs.env xs.length mx with
          | none => rfl
          | some m => simp only [slcR]; split <;> rfl
theorem s_rng {x : Opd} : step1 gl cf dst (.rng x) rs = layV dst rs (rngR (evD gl rs.env x)) := by
  simp only [step1, eff]
  cases evD gl rs.env x with
  | none => rfl
  | some a => cases a <;> rfl
theorem s_nxt {s : Nat} : step1 gl cf dst (.nxt s) rs = nxtR dst s rs (rs.env s) := by
  simp only [step1, eff]
  cases rs.env s with
  | none => rfl
  | some v => cases v <;> (try rfl); case iter l pos => simp only [nxtR]; split <;> rfl
theorem s_ext {x : Opd} {i : Nat} : step1 gl cf dst (.ext x i) rs = layD dst rs (extR i (ev gl rs.env x)) := by
  simp only [step1, eff]
  cases ev gl rs.env x with
  | none => rfl
  | some v => cases v <;> (try rfl); case tup xs => simp only [extR]; cases xs[i]? <;> rfl

theorem takeArgs_plain {e : Env} : ∀ {args : List (Bool × Opd)}, plainArgs args = true → (∀ ds, evDs gl e (args.map (·.2)) = some ds → takeArgs gl e args = some (ds.map V.d, [])) ∧ (evDs gl e (args.map (·.2)) = none → takeArgs gl e args = none)
  | [], _ => ⟨fun ds h => by simp [evDs] at h; subst h; rfl, fun h => by simp [evDs] at h⟩
  | (mv, x) :: r, h => by
    simp only [plainArgs, Bool.and_eq_true, Bool.not_eq_true'] at h
    obtain ⟨rfl, h2⟩ := h
    obtain ⟨i1, i2⟩ := takeArgs_plain (e := e) h2
    have ht : take gl e false x = (evD gl e x).map fun d => (V.d d, []) := by
      simp only [take, evD]
      cases ev gl e x with
      | none => rfl
      | some v => cases v <;> rfl
    refine ⟨fun ds h => ?_, fun h => ?_⟩
    · simp only [List.map_cons, evDs, Option.bind_eq_some_iff, Option.some.injEq] at h
      obtain ⟨d, h3, ds', h4, rfl⟩ := h
      simp [takeArgs, ht, h3, i1 _ h4]
    · simp only [List.map_cons, evDs] at h
      simp only [takeArgs, ht]
      cases h3 : evD gl e x with
      | none => rfl
      | some d =>
        rw [h3] at h
        cases h4 : evDs gl e (r.map (·.2)) with
        | none => simp [i2 h4]
        | some ds => rw [h4] at h; cases h

theorem oneOwn_plain : ∀ ds : List D, oneOwn (ds.map V.d) = true
  | [] => rfl
  | d :: ds => oneOwn_plain ds

theorem s_call {f : Nat} {args : List (Bool × Opd)} (hp : plainArgs args = true) : step1 gl cf dst (.call f args) rs = callR dst rs cf f (dArgs (evDs gl rs.env (args.map (·.2)))) := by
  obtain ⟨h1, h2⟩ := takeArgs_plain (gl := gl) (e := rs.env) hp
  simp only [step1, eff]
  cases h : evDs gl rs.env (args.map (·.2)) with
  | none => simp [h2 h, dArgs, callR]
  | some ds =>
    simp only [h1 ds h, Option.bind_some, dArgs, callR, oneOwn_plain, if_true]
    cases cf f (ds.map V.d) <;> rfl
end

theorem s_call0 {gl : Nat → Option D} {cf : Nat → List V → Option V} {dst : Option Nat} {rs : RS} {f : Nat} : step1 gl cf dst (.call f []) rs = callR dst rs cf f (some []) := by
  rw [s_call rfl]; rfl

/-! ### Bodies -/
section
variable {M : Mach} {st : St}
def regEnd (live : List Nat) : Option RS → Option (Ex × St)
  | some rs => some (.norm, restrict live rs)
  | none => none
theorem x_reg {ops : List SOper} {live : List Nat} : X M (.reg ops live) st = regEnd live (runL M.glob (C M) ops (some st.toRS)) := by
  rw [X_reg, runOps_runL]
  cases runL M.glob (C M) ops (some st.toRS) <;> rfl
noncomputable def condX (M : Mach) (a b : SC) (st : St) : Option Bool → Option (Ex × St)
  | some t => if t = true then X M a st else X M b st
  | none => none
theorem x_cond {x : Opd} {a b : SC} : X M (.cond x a b) st = condX M a b st (condOf M.glob st x) := by
  rw [X_cond]
  cases condOf M.glob st x with
  | none => rfl
  | some t => cases t <;> rfl
def boolOf : Option V → Option Bool
  | some (.d (.bool b)) => some b
  | _ => none
theorem condOf_eq {gl : Nat → Option D} {x : Opd} : condOf gl st x = boolOf (ev gl (get st.env) x) := by
  simp only [condOf]
  cases ev gl (get st.env) x with
  | none => rfl
  | some v => cases v <;> rfl
def keepE (all : List Nat) (s : Nat) (rest : List (Nat × V)) : Option V → List (Nat × V)
  | some v => if okLive all v = true then (s, v) :: rest else rest
  | none => rest
theorem keepEnv_nil {all : List Nat} {e : Env} : keepEnv all e [] = [] := rfl
theorem keepEnv_cons {all : List Nat} {e : Env} {s : Nat} {r : List Nat} : keepEnv all e (s :: r) = keepE all s (keepEnv all e r) (e s) := by
  simp only [keepEnv]
  cases e s <;> rfl
def keepB (s : Nat) (rest : List (Nat × List D)) : Option (List D) → List (Nat × List D)
  | some cs => (s, cs) :: rest
  | none => rest
theorem keepBx_nil {b : Bx} : keepBx b [] = [] := rfl
theorem keepBx_cons {b : Bx} {s : Nat} {r : List Nat} : keepBx b (s :: r) = keepB s (keepBx b r) (b s) := by
  simp only [keepBx]
  cases b s <;> rfl
theorem get_nil {α : Type} {s : Nat} : get ([] : List (Nat × α)) s = none := rfl
theorem get_cons {α : Type} {k s : Nat} {v : α} {r : List (Nat × α)} : get ((k, v) :: r) s = if s = k then some v else get r s := rfl
theorem upd_at {α : Type} {e : Nat → α} {s t : Nat} {v : α} : upd e s v t = if t = s then v else e t := rfl
theorem andThen_norm {b : SC} : andThen M b (some (.norm, st)) = X M b st := rfl
theorem andThen_exit {b : SC} {i : Nat} : andThen M b (some (.exit i, st)) = some (.exit i, st) := rfl
theorem andThen_goto {b : SC} {i : Nat} : andThen M b (some (.goto i, st)) = some (.goto i, st) := rfl
theorem andThen_ret {b : SC} : andThen M b (some (.ret, st)) = some (.ret, st) := rfl
theorem andThen_none {b : SC} : andThen M b none = none := rfl
theorem andThen_ite {b : SC} {p : Prop} [Decidable p] {x y : Option (Ex × St)} : andThen M b (if p then x else y) = if p then andThen M b x else andThen M b y := by split <;> rfl
theorem outOf_norm {i : Nat} : outOf i (some (.norm, st)) = some (.norm, st) := rfl
theorem outOf_exit {i j : Nat} : outOf i (some (.exit j, st)) = if j = i then some (.norm, st) else some (.exit j, st) := rfl
theorem outOf_goto {i j : Nat} : outOf i (some (.goto j, st)) = some (.goto j, st) := rfl
theorem outOf_ret {i : Nat} : outOf i (some (.ret, st)) = some (.ret, st) := rfl
theorem outOf_none {i : Nat} : outOf i none = none := rfl
theorem outOf_ite {i : Nat} {p : Prop} [Decidable p] {x y : Option (Ex × St)} : outOf i (if p then x else y) = if p then outOf i x else outOf i y := by split <;> rfl
theorem regEnd_ite {live : List Nat} {p : Prop} [Decidable p] {x y : Option RS} : regEnd live (if p then x else y) = if p then regEnd live x else regEnd live y := by split <;> rfl
theorem runL_ite {gl : Nat → Option D} {cf : Nat → List V → Option V} {ops : List SOper} {p : Prop} [Decidable p] {x y : Option RS} : runL gl cf ops (if p then x else y) = if p then runL gl cf ops x else runL gl cf ops y := by split <;> rfl
theorem layD_ite {dst : Option Nat} {rs : RS} {p : Prop} [Decidable p] {x y : Option D} : layD dst rs (if p then x else y) = if p then layD dst rs x else layD dst rs y := by split <;> rfl
/-- What a function's end answers. -/
def finO (res : List SRes) : Option (Ex × St) → Option V
  | some p => fin res p
  | none => none
theorem finO_ite {res : List SRes} {p : Prop} [Decidable p] {x y : Option (Ex × St)} : finO res (if p then x else y) = if p then finO res x else finO res y := by split <;> rfl
theorem c_fn {f : Nat} {sf : SFunc} {args : List V} (hp : M.prim f = none) (hf : M.fn f = some sf) (ha : args.length = sf.np ∧ args.all okArg = true) :
    C M f args = finO sf.res (X M sf.body { env := initEnv 0 args, bx := [] }) := by
  rw [C_fn hp hf ha]
  cases X M sf.body { env := initEnv 0 args, bx := [] } <;> rfl
end

/-! ### The equations -/
section
variable {gl : Nat → Option D} {cf : Nat → List V → Option V} {dst : Option Nat} {rs : RS} {M : Mach} {st : St}
theorem e_runL0 {x : Option RS} : runL gl cf [] x = x := rfl
theorem e_runL {o : SOper} {r : List SOper} : runL gl cf (o :: r) (some rs) = runL gl cf r (step gl cf o rs) := rfl
theorem e_runLn {o : SOper} {r : List SOper} : runL gl cf (o :: r) none = none := rfl
theorem e_layD {d : D} : layD dst rs (some d) = some { env := put dst (some (.d d)) rs.env, bx := rs.bx } := rfl
theorem e_layV {v : V} : layV dst rs (some v) = some { env := put dst (some v) rs.env, bx := rs.bx } := rfl
theorem e_put {s : Nat} {v : Option V} {e : Env} : put (some s) v e = upd e s v := rfl
theorem e_put0 {v : Option V} {e : Env} : put none v e = e := rfl
theorem e_movOwn {s sz : Nat} {xs : List D} : movR dst rs true (.t s) (some (.own sz xs)) = some { env := put dst (some (.own sz xs)) (upd rs.env s (some (.d (.slice sz xs)))), bx := rs.bx } := rfl
theorem e_movOwnC {v : V} {sz : Nat} {xs : List D} : movR dst rs true (.c v) (some (.own sz xs)) = some { env := put dst (some (.own sz xs)) rs.env, bx := rs.bx } := rfl
theorem e_movRead {x : Opd} {sz : Nat} {xs : List D} : movR dst rs false x (some (.own sz xs)) = some { env := put dst (some (.d (.slice sz xs))) rs.env, bx := rs.bx } := rfl
theorem e_movD {mv : Bool} {x : Opd} {d : D} : movR dst rs mv x (some (.d d)) = some { env := put dst (some (.d d)) rs.env, bx := rs.bx } := rfl
theorem e_movL {mv : Bool} {x : Opd} {s o : Nat} : movR dst rs mv x (some (.lref s o)) = some { env := put dst (some (.lref s o)) rs.env, bx := rs.bx } := rfl
theorem e_movC {mv : Bool} {x : Opd} {d : D} : movR dst rs mv x (some (.cref d)) = some { env := put dst (some (.cref d)) rs.env, bx := rs.bx } := rfl
theorem e_movT {mv : Bool} {x : Opd} {xs : List D} : movR dst rs mv x (some (.tup xs)) = some { env := put dst (some (.tup xs)) rs.env, bx := rs.bx } := rfl
theorem e_pick {a b : Option D} {t : Bool} : pickR a b (some (.bool t)) = if t = true then a else b := rfl
theorem e_bin {k : BK} {op : BinOp} {a b : D} : bin2 k op (some a) (some b) = binD k op a b := rfl
theorem e_binI {op : BinOp} {k k' : IntKind} {a b : Int} : binD .i op (.int k a) (.int k' b) = binI op k a k' b := rfl
theorem e_binS {op : BinOp} {a b : List UInt8} : binD .s op (.str a) (.str b) = binS op a b := rfl
theorem e_binB {op : BinOp} {a b : Bool} : binD .b op (.bool a) (.bool b) = binB op a b := rfl
theorem e_binE {op : BinOp} {a b : Bool} : binD .e op (.err a) (.err b) = binE op a b := rfl
theorem e_add {k : IntKind} {a b : Int} : binI .add k a k b = some (.int k (k.wrap (a + b))) := by simp [binI]
theorem e_sub {k : IntKind} {a b : Int} : binI .sub k a k b = some (.int k (k.wrap (a - b))) := by simp [binI]
theorem e_mul {k : IntKind} {a b : Int} : binI .mul k a k b = some (.int k (k.wrap (a * b))) := by simp [binI]
theorem e_quo {k : IntKind} {a b : Int} : binI .quo k a k b = if b ≠ 0 then some (.int k (k.wrap (a.tdiv b))) else none := by simp [binI]
theorem e_rem {k : IntKind} {a b : Int} : binI .rem k a k b = if b ≠ 0 then some (.int k (a.tmod b)) else none := by simp [binI]
theorem e_and {k : IntKind} {a b : Int} : binI .and k a k b = some (.int k (bitsD .and k a b)) := by simp [binI]
theorem e_or {k : IntKind} {a b : Int} : binI .or k a k b = some (.int k (bitsD .or k a b)) := by simp [binI]
theorem e_xor {k : IntKind} {a b : Int} : binI .xor k a k b = some (.int k (bitsD .xor k a b)) := by simp [binI]
theorem e_andNot {k : IntKind} {a b : Int} : binI .andNot k a k b = some (.int k (bitsD .andNot k a b)) := by simp [binI]
/-- By how many places a shift goes. -/
def shAmt (k : IntKind) (b : Int) : Nat := min b.toNat k.bits
theorem e_shl {k k' : IntKind} {a b : Int} : binI .shl k a k' b = if 0 ≤ b then some (.int k (k.wrap (a * 2 ^ shAmt k b))) else none := rfl
theorem e_shr {k k' : IntKind} {a b : Int} : binI .shr k a k' b = if 0 ≤ b then some (.int k (a.fdiv (2 ^ shAmt k b))) else none := rfl
theorem e_sh_u8_1 : shAmt .u8 1 = 1 := rfl
theorem e_sh_u8_3 : shAmt .u8 3 = 3 := rfl
theorem e_sh_u8_4 : shAmt .u8 4 = 4 := rfl
theorem e_sh_u8_7 : shAmt .u8 7 = 7 := rfl
theorem e_sh_u32_1 : shAmt .u32 1 = 1 := rfl
theorem e_sh_u32_3 : shAmt .u32 3 = 3 := rfl
theorem e_sh_u32_4 : shAmt .u32 4 = 4 := rfl
theorem e_sh_u32_7 : shAmt .u32 7 = 7 := rfl
theorem e_sh_u32_8 : shAmt .u32 8 = 8 := rfl
theorem e_sh_u32_16 : shAmt .u32 16 = 16 := rfl
theorem e_sh_u32_24 : shAmt .u32 24 = 24 := rfl
theorem e_sh_u32_31 : shAmt .u32 31 = 31 := rfl
theorem e_sh_u64_1 : shAmt .u64 1 = 1 := rfl
theorem e_sh_u64_3 : shAmt .u64 3 = 3 := rfl
theorem e_sh_u64_4 : shAmt .u64 4 = 4 := rfl
theorem e_sh_u64_7 : shAmt .u64 7 = 7 := rfl
theorem e_sh_u64_8 : shAmt .u64 8 = 8 := rfl
theorem e_sh_u64_16 : shAmt .u64 16 = 16 := rfl
theorem e_sh_u64_24 : shAmt .u64 24 = 24 := rfl
theorem e_sh_u64_31 : shAmt .u64 31 = 31 := rfl
theorem e_sh_u64_32 : shAmt .u64 32 = 32 := rfl
theorem e_sh_u64_40 : shAmt .u64 40 = 40 := rfl
theorem e_sh_u64_48 : shAmt .u64 48 = 48 := rfl
theorem e_sh_u64_56 : shAmt .u64 56 = 56 := rfl
theorem e_sh_u64_60 : shAmt .u64 60 = 60 := rfl
theorem e_sh_u64_63 : shAmt .u64 63 = 63 := rfl
theorem e_sh_i64_1 : shAmt .i64 1 = 1 := rfl
theorem e_sh_i64_3 : shAmt .i64 3 = 3 := rfl
theorem e_sh_i64_4 : shAmt .i64 4 = 4 := rfl
theorem e_sh_i64_7 : shAmt .i64 7 = 7 := rfl
theorem e_sh_i64_8 : shAmt .i64 8 = 8 := rfl
theorem e_sh_i64_16 : shAmt .i64 16 = 16 := rfl
theorem e_sh_i64_24 : shAmt .i64 24 = 24 := rfl
theorem e_sh_i64_31 : shAmt .i64 31 = 31 := rfl
theorem e_sh_i64_32 : shAmt .i64 32 = 32 := rfl
theorem e_sh_i64_40 : shAmt .i64 40 = 40 := rfl
theorem e_sh_i64_48 : shAmt .i64 48 = 48 := rfl
theorem e_sh_i64_56 : shAmt .i64 56 = 56 := rfl
theorem e_sh_i64_60 : shAmt .i64 60 = 60 := rfl
theorem e_sh_i64_63 : shAmt .i64 63 = 63 := rfl
theorem e_eql {k : IntKind} {a b : Int} : binI .eql k a k b = some (.bool (decide (a = b))) := by
  simp only [binI, if_true, Option.some.injEq, D.bool.injEq]
  rw [Bool.eq_iff_iff]; simp
theorem e_neq {k : IntKind} {a b : Int} : binI .neq k a k b = some (.bool (decide (a ≠ b))) := by
  simp only [binI, if_true, Option.some.injEq, D.bool.injEq]
  rw [Bool.eq_iff_iff]; simp
theorem e_lss {k : IntKind} {a b : Int} : binI .lss k a k b = some (.bool (decide (a < b))) := by simp [binI]
theorem e_leq {k : IntKind} {a b : Int} : binI .leq k a k b = some (.bool (decide (a ≤ b))) := by simp [binI]
theorem e_gtr {k : IntKind} {a b : Int} : binI .gtr k a k b = some (.bool (decide (b < a))) := by simp [binI]
theorem e_geq {k : IntKind} {a b : Int} : binI .geq k a k b = some (.bool (decide (b ≤ a))) := by simp [binI]
theorem e_sadd {a b : List UInt8} : binS .add a b = if a.length + b.length ≤ 9223372036854775807 then some (.str (a ++ b)) else none := rfl
theorem e_seql {a b : List UInt8} : binS .eql a b = some (.bool (decide (a = b))) := by
  simp only [binS, Option.some.injEq, D.bool.injEq]
  rw [Bool.eq_iff_iff]; simp
theorem e_sneq {a b : List UInt8} : binS .neq a b = some (.bool (decide (a ≠ b))) := by
  simp only [binS, Option.some.injEq, D.bool.injEq]
  rw [Bool.eq_iff_iff]; simp
theorem e_slss {a b : List UInt8} : binS .lss a b = some (.bool (Op.bytesLess a b)) := rfl
theorem e_sgtr {a b : List UInt8} : binS .gtr a b = some (.bool (!(Op.bytesLess a b || a == b))) := rfl
theorem e_beql {a b : Bool} : binB .eql a b = some (.bool (decide (a = b))) := by cases a <;> cases b <;> rfl
theorem e_bneq {a b : Bool} : binB .neq a b = some (.bool (decide (a ≠ b))) := by cases a <;> cases b <;> rfl
theorem e_eeql {a : Bool} : binE .eql a false = some (.bool (!a)) := rfl
theorem e_eneq {a : Bool} : binE .neq a false = some (.bool a) := rfl
theorem e_eqs {neg : Bool} {n : Nat} {a b : List D} : eqs2 neg n (some (.agg a)) (some (.agg b)) = if a.length = n then (match sameInts a b with | some r => some (.bool (if neg then !r else r)) | none => none) else none := rfl
theorem e_neg {k : IntKind} {n : Int} : negR (some (.int k n)) = some (.int k (k.wrap (0 - n))) := rfl
theorem e_not {b : Bool} : notR (some (.bool b)) = some (.bool (!b)) := rfl
theorem e_cint {k k' : IntKind} {n : Int} : cintR k (some (.int k' n)) = some (.int k (k.wrap n)) := rfl
theorem e_cstr {sz : Nat} {xs : List D} {s : List UInt8} (h : bytesOf xs = some s) : cstrR (some (.slice sz xs)) = some (.str s) := by simp [cstrR, h]
theorem e_cref {d : D} : crefR (some d) = some (.cref d) := rfl
theorem e_iaddr {sz sz' : Nat} {xs : List D} {n : Int} : iaddrR sz (some (.slice sz' xs)) (some n) = if 0 ≤ n ∧ sz' = sz then crefR (xs[n.toNat]?) else none := rfl
theorem e_byte {b : UInt8} : byteR (some b) = some (.int .u8 b.toNat) := rfl
theorem e_sidx {s : List UInt8} {n : Int} : sidxR (some (.str s)) (some n) = if 0 ≤ n then byteR (s[n.toNat]?) else none := rfl
theorem e_aidx {len sz : Nat} {n : Option Nat} {cs : List D} {m : Int} : aidxR len sz n (some (.agg cs)) (some m) = if 0 ≤ m ∧ m < len then sub cs (m.toNat * sz) n else none := rfl
theorem e_len {sz : Nat} {xs : List D} : lenR false (some (.slice sz xs)) = some (.int .i64 xs.length) := rfl
theorem e_lenS {s : List UInt8} : lenR true (some (.str s)) = some (.int .i64 s.length) := rfl
theorem e_max2 {k k' : IntKind} {a b : Int} : max2R (some (.int k a)) (some (.int k' b)) = some (.int k (if b > a then b else a)) := rfl
theorem e_make {zero : D} {bytes : Nat} {l c : Int} : makeR zero bytes (some l) (some c) = if 0 ≤ l ∧ l ≤ c ∧ bytes * c ≤ 281474976710656 ∧ c ≤ 9223372036854775807 then some (.own zero.cells.length (List.replicate l.toNat zero)) else none := rfl
theorem e_slcs {s : List UInt8} {l h : Nat} : slcsR (some (.str s)) (some l) (some h) = if l ≤ h ∧ h ≤ s.length then some (.str ((s.take h).drop l)) else none := rfl
theorem e_slc {sz sz' : Nat} {mx hi : Bool} {xs : List D} {l h m : Nat} : slcR sz mx hi (some (.slice sz' xs)) (some l) (some h) (some m) = if l ≤ h ∧ h ≤ m ∧ m ≤ xs.length ∧ sz' = sz ∧ (mx = true ∨ hi = true) then some (.slice sz ((xs.take h).drop l)) else none := rfl
theorem e_lenOfS {s : List UInt8} : lenOf (some (.str s)) = s.length := rfl
theorem e_lenOf {sz : Nat} {xs : List D} : lenOf (some (.slice sz xs)) = xs.length := rfl
theorem e_nat {n : Int} : natOf (some n) = if 0 ≤ n then some n.toNat else none := rfl
theorem e_rng {s : List UInt8} : rngR (some (.str s)) = some (.iter s 0) := rfl
theorem e_ext {i : Nat} {xs : List D} : extR i (some (.tup xs)) = xs[i]? := rfl
theorem e_loadC {n : Option Nat} {bx : Bx} {d : D} : loadR n bx (some (.cref d)) = whole n d := rfl
def subB (n : Option Nat) (o : Nat) : Option (List D) → Option D
  | some cs => sub cs o n
  | none => none
theorem e_loadL {n : Option Nat} {bx : Bx} {s o : Nat} : loadR n bx (some (.lref s o)) = subB n o (bx s) := rfl
theorem e_subB {n : Option Nat} {o : Nat} {cs : List D} : subB n o (some cs) = sub cs o n := rfl
def storeB (dst : Option Nat) (n : Nat) (rs : RS) (s o : Nat) (d : D) : Option (List D) → Option RS
  | some cs => if d.cells.length = n ∧ o + n ≤ cs.length then some { env := put dst none rs.env, bx := upd rs.bx s (some (setAt cs o d.cells)) } else none
  | none => none
theorem e_store {n s o : Nat} {d : D} : storeR dst n rs (some (.lref s o)) (some d) = storeB dst n rs s o d (rs.bx s) := rfl
theorem e_storeB {n s o : Nat} {d : D} {cs : List D} : storeB dst n rs s o d (some cs) = if d.cells.length = n ∧ o + n ≤ cs.length then some { env := put dst none rs.env, bx := upd rs.bx s (some (setAt cs o d.cells)) } else none := rfl
theorem e_faddrL {off : Nat} {n : Option Nat} {s o : Nat} : faddrR off n (some (.lref s o)) = some (.lref s (o + off)) := rfl
theorem e_faddrC {off : Nat} {n : Option Nat} {cs : List D} : faddrR off n (some (.cref (.agg cs))) = crefR (sub cs off n) := rfl
theorem e_aaddrL {len sz : Nat} {n : Option Nat} {s o : Nat} {m : Int} : aaddrR len sz n (some (.lref s o)) (some m) = if 0 ≤ m ∧ m < len then some (.lref s (o + m.toNat * sz)) else none := rfl
theorem e_aaddrC {len sz : Nat} {n : Option Nat} {cs : List D} {m : Int} : aaddrR len sz n (some (.cref (.agg cs))) (some m) = if 0 ≤ m ∧ m < len then crefR (sub cs (m.toNat * sz) n) else none := rfl
def zboxB (s : Nat) (rs : RS) (cs : List D) : Option (List D) → Option RS
  | none => if !cs.isEmpty then some { env := upd rs.env s (some (.lref s 0)), bx := upd rs.bx s (some cs) } else none
  | some _ => none
theorem e_zbox {s : Nat} {cs : List D} : zboxR s rs cs = zboxB s rs cs (rs.bx s) := by
  simp only [zboxR]
  cases rs.bx s <;> simp [zboxB]
theorem e_zboxB {s : Nat} {d : D} {cs : List D} : zboxB s rs (d :: cs) none = some { env := upd rs.env s (some (.lref s 0)), bx := upd rs.bx s (some (d :: cs)) } := rfl
theorem e_box {s : Nat} {d : D} : boxR s rs (some d) = zboxR s rs d.cells := rfl
theorem e_build {zero : List D} {parts : List (Nat × Nat × Opd)} {ds : List D} : buildR zero parts (some ds) = (fill zero parts ds).map D.agg := by
  simp only [buildR]
  cases fill zero parts ds <;> rfl
theorem e_mk {sz : Nat} {ds : List D} : mkR sz (some ds) = if ds.all (fun d => d.cells.length == sz) then some (.own sz ds) else none := rfl
theorem e_app {sz bytes s : Nat} {xs ys : List D} : appR dst rs false sz bytes (.t s) (some (.own sz xs)) (some (.slice sz ys)) =
    if (xs.length + ys.length) * bytes ≤ 140737488355328 then some { env := put dst (some (.own sz (xs ++ ys))) (upd rs.env s (some (.d (.slice sz xs)))), bx := rs.bx } else none := by
  simp only [appR, true_and, setAll]
theorem e_appC {sz bytes : Nat} {v : V} {xs ys : List D} : appR dst rs false sz bytes (.c v) (some (.own sz xs)) (some (.slice sz ys)) =
    if (xs.length + ys.length) * bytes ≤ 140737488355328 then some { env := put dst (some (.own sz (xs ++ ys))) rs.env, bx := rs.bx } else none := by
  simp only [appR, true_and, setAll]
theorem e_appS {bytes s : Nat} {xs : List D} {ys : List UInt8} : appR dst rs true 1 bytes (.t s) (some (.own 1 xs)) (some (.str ys)) =
    if (xs.length + ys.length) * bytes ≤ 140737488355328 then some { env := put dst (some (.own 1 (xs ++ bytesD ys))) (upd rs.env s (some (.d (.slice 1 xs)))), bx := rs.bx } else none := by
  simp only [appR, true_and, setAll]
theorem e_appSC {bytes : Nat} {v : V} {xs : List D} {ys : List UInt8} : appR dst rs true 1 bytes (.c v) (some (.own 1 xs)) (some (.str ys)) =
    if (xs.length + ys.length) * bytes ≤ 140737488355328 then some { env := put dst (some (.own 1 (xs ++ bytesD ys))) rs.env, bx := rs.bx } else none := by
  simp only [appR, true_and, setAll]
theorem e_nxt {s : Nat} {l : List UInt8} {pos : Nat} : nxtR dst s rs (some (.iter l pos)) = if pos < l.length then
      some { env := put dst (some (.tup [.bool true, .int .i64 pos, .int .i32 (Utf8.decode ⟨l.toArray⟩ pos).1])) (upd rs.env s (some (.iter l (pos + (Utf8.decode ⟨l.toArray⟩ pos).2)))), bx := rs.bx }
      else some { env := put dst (some (.tup [.bool false])) rs.env, bx := rs.bx } := rfl
theorem e_dArgs {ds : List D} : dArgs (some ds) = some (ds.map V.d) := rfl
theorem e_call {f : Nat} {vs : List V} : callR dst rs cf f (some vs) = layV dst rs (cf f vs) := rfl
theorem e_guardV {want b : Bool} {x : Option RS} : guardV dst want rs x (some (.d (.bool b))) = if b = want then x else some { env := put dst (some .un) rs.env, bx := rs.bx } := rfl
theorem e_guardU {want : Bool} {x : Option RS} : guardV dst want rs x (some .un) = some { env := put dst (some .un) rs.env, bx := rs.bx } := rfl
theorem e_evT {e : Env} {s : Nat} : ev gl e (.t s) = e s := rfl
theorem e_evC {e : Env} {v : V} : ev gl e (.c v) = some v := rfl
def crefO : Option D → Option V
  | some d => some (.cref d)
  | none => none
theorem e_evG {e : Env} {i : Nat} : ev gl e (.g i) = crefO (gl i) := by
  simp only [ev]
  cases gl i <;> rfl
theorem e_crefO {d : D} : crefO (some d) = some (.cref d) := rfl
def readO : Option V → Option D
  | some v => v.read
  | none => none
theorem e_evD {e : Env} {x : Opd} : evD gl e x = readO (ev gl e x) := by
  simp only [evD]
  cases ev gl e x <;> rfl
theorem e_readD {d : D} : readO (some (.d d)) = some d := rfl
theorem e_readO {sz : Nat} {xs : List D} : readO (some (.own sz xs)) = some (.slice sz xs) := rfl
def intO : Option D → Option Int
  | some (.int _ n) => some n
  | _ => none
theorem e_evI {e : Env} {x : Opd} : evI gl e x = intO (evD gl e x) := by
  simp only [evI]
  cases evD gl e x with
  | none => rfl
  | some d => cases d <;> rfl
theorem e_intO {k : IntKind} {n : Int} : intO (some (.int k n)) = some n := rfl
def consO : Option D → Option (List D) → Option (List D)
  | some d, some ds => some (d :: ds)
  | _, _ => none
theorem e_evDs {e : Env} {x : Opd} {r : List Opd} : evDs gl e (x :: r) = consO (evD gl e x) (evDs gl e r) := by
  simp only [evDs]
  cases evD gl e x with
  | none => rfl
  | some d => cases evDs gl e r <;> rfl
theorem e_evDs0 {e : Env} : evDs gl e [] = some [] := rfl
theorem e_consO {d : D} {ds : List D} : consO (some d) (some ds) = some (d :: ds) := rfl
theorem e_regEnd {live : List Nat} : regEnd live (some rs) = some (.norm, restrict live rs) := rfl
theorem e_condX {a b : SC} {t : Bool} : condX M a b st (some t) = if t = true then X M a st else X M b st := rfl
theorem e_boolOf {b : Bool} : boolOf (some (.d (.bool b))) = some b := rfl
theorem e_keepD {all : List Nat} {s : Nat} {rest : List (Nat × V)} {d : D} : keepE all s rest (some (.d d)) = (s, .d d) :: rest := rfl
theorem e_keepO {all : List Nat} {s : Nat} {rest : List (Nat × V)} {sz : Nat} {xs : List D} : keepE all s rest (some (.own sz xs)) = (s, .own sz xs) :: rest := rfl
theorem e_keepC {all : List Nat} {s : Nat} {rest : List (Nat × V)} {d : D} : keepE all s rest (some (.cref d)) = (s, .cref d) :: rest := rfl
theorem e_keepT {all : List Nat} {s : Nat} {rest : List (Nat × V)} {xs : List D} : keepE all s rest (some (.tup xs)) = (s, .tup xs) :: rest := rfl
theorem e_keepI {all : List Nat} {s : Nat} {rest : List (Nat × V)} {l : List UInt8} {p : Nat} : keepE all s rest (some (.iter l p)) = (s, .iter l p) :: rest := rfl
theorem e_keepL {all : List Nat} {s : Nat} {rest : List (Nat × V)} {s' o : Nat} : keepE all s rest (some (.lref s' o)) = if all.contains s' = true then (s, .lref s' o) :: rest else rest := rfl
theorem e_keepU {all : List Nat} {s : Nat} {rest : List (Nat × V)} : keepE all s rest (some .un) = (s, .un) :: rest := rfl
theorem e_keepN {all : List Nat} {s : Nat} {rest : List (Nat × V)} : keepE all s rest none = rest := rfl
theorem e_keepB {s : Nat} {rest : List (Nat × List D)} {cs : List D} : keepB s rest (some cs) = (s, cs) :: rest := rfl
theorem e_keepBn {s : Nat} {rest : List (Nat × List D)} : keepB s rest none = rest := rfl
/-- A result out of a slot. -/
def resO : Option V → Option V
  | some (.d x) => some (.d x)
  | some (.own sz xs) => some (.own sz xs)
  | _ => none
theorem e_finN {res : List SRes} : finO res (some (.norm, st)) = Vi.results st res := rfl
theorem e_finR {res : List SRes} : finO res (some (.ret, st)) = Vi.results st res := rfl
theorem e_res1 {s : Nat} : Vi.results st [.slot s] = resO (get st.env s) := by
  simp only [Vi.results]
  cases get st.env s with
  | none => rfl
  | some v => cases v <;> rfl
theorem e_resD {d : D} : resO (some (.d d)) = some (.d d) := rfl
theorem e_resO {sz : Nat} {xs : List D} : resO (some (.own sz xs)) = some (.own sz xs) := rfl
def dV : Option D → Option V
  | some d => some (.d d)
  | none => none
theorem e_dV {d : D} : dV (some d) = some (.d d) := rfl
theorem e_res1c {s : Nat} {n : Option Nat} : Vi.results st [.cell s n] = dV (resD st (.cell s n)) := by
  simp only [Vi.results]
  cases resD st (.cell s n) <;> rfl
def tupO : Option (List D) → Option V
  | some ds => some (.tup ds)
  | none => none
theorem e_res2 {a b : SRes} {r : List SRes} : Vi.results st (a :: b :: r) = tupO (resDs st (a :: b :: r)) := by
  simp only [Vi.results]
  cases resDs st (a :: b :: r) <;> rfl
theorem e_tupO {ds : List D} : tupO (some ds) = some (.tup ds) := rfl
theorem e_resDs {x : SRes} {r : List SRes} : resDs st (x :: r) = consO (resD st x) (resDs st r) := by
  simp only [resDs]
  cases resD st x with
  | none => rfl
  | some d => cases resDs st r <;> rfl
theorem e_resDs0 : resDs st [] = some [] := rfl
theorem e_resS {s : Nat} : resD st (.slot s) = readO (get st.env s) := by
  simp only [resD]
  cases get st.env s <;> rfl
def cellO (st : St) (n : Option Nat) : Option V → Option D
  | some (.lref s o) => subB n o (get st.bx s)
  | _ => none
theorem e_resC {s : Nat} {n : Option Nat} : resD st (.cell s n) = cellO st n (get st.env s) := by
  simp only [resD]
  cases get st.env s with
  | none => rfl
  | some v => cases v <;> (try rfl); case lref s' o => simp only [cellO]; cases get st.bx s' <;> rfl
theorem e_cellO {n : Option Nat} {s o : Nat} : cellO st n (some (.lref s o)) = subB n o (get st.bx s) := rfl
theorem e_wholeI {k : IntKind} {n : Int} : whole none (.int k n) = some (.int k n) := rfl
theorem e_wholeS {s : List UInt8} : whole none (.str s) = some (.str s) := rfl
theorem e_wholeB {b : Bool} : whole none (.bool b) = some (.bool b) := rfl
theorem e_wholeL {sz : Nat} {xs : List D} : whole none (.slice sz xs) = some (.slice sz xs) := rfl
theorem e_wholeA {m : Nat} {cs : List D} : whole (some m) (.agg cs) = if cs.length = m then some (.agg cs) else none := rfl
theorem e_cellsI {k : IntKind} {n : Int} : (D.int k n).cells = [.int k n] := rfl
theorem e_cellsS {s : List UInt8} : (D.str s).cells = [.str s] := rfl
theorem e_cellsB {b : Bool} : (D.bool b).cells = [.bool b] := rfl
theorem e_cellsL {sz : Nat} {xs : List D} : (D.slice sz xs).cells = [.slice sz xs] := rfl
theorem e_cellsE {b : Bool} : (D.err b).cells = [.err b] := rfl
theorem e_cellsA {cs : List D} : (D.agg cs).cells = cs := rfl
end
end Go.Vi
