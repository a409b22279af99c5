/-
  The verified interpreter: when a compact operation stands for one of the model's; the meaning of operands.
-/
import Derived.Test.YtedncpnkbpbchaaGreatDoorViRel
import Derived.Laws.Tables
import Derived.Laws.MakeOwn
import Derived.Laws.Slices
import Derived.Laws.Strings
import Derived.Laws.StructEq
import Derived.Laws.RangeString
import Derived.Laws.BytesArg
import Derived.Orders
import Derived.Laws.CopyRow
import Derived.Lib.AppendStr
set_option linter.unusedVariables false
set_option linter.unusedSimpArgs false
namespace Go.Vi

def constOK : Value → V → Bool
  | .bool a, .d (.bool b) => a == b
  | .int k n, .d (.int k' n') => k == k' && n == n'
  | .string s, .d (.str l) => s.data.toList == l
  | .nilIface, .d (.err false) => true
  | .slice none 0 0, .own _ [] => true
  | .slice none 0 0, .d (.slice _ []) => true
  | _, _ => false
def constDs : List Value → List D → Bool
  | [], [] => true
  | v :: vs, x :: xs => constOK v (.d x) && notAgg x && constDs vs xs
  | _, _ => false
def opdOK : Operand → Opd → Bool
  | .tmp t, .t s => t == s
  | .const v, .c x => constOK v x
  | .global g, .g i => g == i
  | _, _ => false
def opdsOK : List Operand → List Opd → Bool
  | [], [] => true
  | x :: xs, y :: ys => opdOK x y && opdsOK xs ys
  | _, _ => false
def optOK : Option Operand → Option Opd → Bool
  | none, none => true
  | some x, some y => opdOK x y
  | _, _ => false
def argsOK : List Operand → List (Bool × Opd) → Bool
  | [], [] => true
  | x :: xs, (_, y) :: ys => opdOK x y && argsOK xs ys
  | _, _ => false
/-- A type's variables have one cell, or are aggregates of so many. -/
def shapeT (P : Program) (t : TypeId) : Option Nat → Bool
  | none => match P.underlying t, P.info? t with
    | some (.struct _), _ | some (.array _ _), _ => false
    | some _, some i => i.size == 1
    | _, _ => false
  | some m => match P.underlying t, P.info? t with
    | some (.struct _), some i | some (.array _ _), some i => i.size == m
    | _, _ => false
def partsOK (places : List (Nat × Nat)) : List (Nat × Operand) → List (Nat × Nat × Opd) → Bool
  | [], [] => true
  | (i, x) :: ps, (off, sz, y) :: qs => places[i]? == some (off, sz) && opdOK x y && partsOK places ps qs
  | _, _ => false
def elemsOK : Nat → List (Nat × Operand) → List Opd → Bool
  | _, [], [] => true
  | k, (i, x) :: ps, y :: ys => i == k && opdOK x y && elemsOK (k + 1) ps ys
  | _, _, _ => false
def intFields (P : Program) : Nat → List Field → Bool
  | _, [] => true
  | k, f :: fs => f.offset == k && f.name != "_" && (match P.underlying f.type, P.info? f.type with | some (.int _), some i => i.size == 1 | _, _ => false) && intFields P (k + 1) fs

def chkOp (P : Program) (o : Op) (so : SOp) : Bool :=
  match so with
  | .mov _ x => match o with | .move y | .assign y => opdOK y x | _ => false
  | .pick c a b => match o with | .pick c' a' b' => opdOK c' c && opdOK a' a && opdOK b' b | _ => false
  | .zbox cs => match o with
    | .alloc t => (match (P.info? t).bind (·.zero) with | some z => constDs z.cells.toList cs | none => false)
    | _ => false
  | .box x => match o with | .box _ y => opdOK y x | _ => false
  | .build zero parts => match o with
    | .build t ps => (match P.info? t, P.underlying t with
      | some it, some (.struct fields) => (match it.zero, fields.toList.mapM (fun f => (P.info? f.type).map fun i => (f.offset, i.size)) with
        | some z, some places => constDs z.cells.toList zero && partsOK places ps.toList parts
        | _, _ => false)
      | some it, some (.array n e) => (match it.zero, P.info? e with
        | some z, some ie => constDs z.cells.toList zero && partsOK ((List.range n).map fun i => (i * ie.size, ie.size)) ps.toList parts
        | _, _ => false)
      | _, _ => false)
    | _ => false
  | .mk sz xs => match o with
    | .buildSlice t len ps => (match P.underlying t with
      | some (.slice e) => (match P.info? e with
        | some ie => ie.size == sz && 0 < sz && ie.zero.isSome && (ie.zero.map (·.cells.size)) == some sz && len == xs.length && len * sz ≤ 2 ^ 24 && elemsOK 0 ps.toList xs
        | none => false)
      | _ => false)
    | _ => false
  | .load n x => match o with | .load t y => shapeT P t n && opdOK y x | _ => false
  | .store n x v => match o with | .store t y u => (P.info? t).map (·.size) == some n && opdOK y x && opdOK u v | _ => false
  | .bin k op x y => match o with
    | .binOp op' t x' y' _ => op' == op && opdOK x' x && opdOK y' y && (match P.underlying t, k with
      | some (.int _), .i => true
      | some .string, .s => true
      | some .bool, .b => true
      | some (.interface _), .e => (match y' with | .const .nilIface => true | _ => false)
      | _, _ => false)
    | _ => false
  | .eqs neg n x y => match o with
    | .binOp op' t x' y' _ => op' == (if neg then .neq else .eql) && opdOK x' x && opdOK y' y && (match P.underlying t with
      | some (.struct fs) => intFields P 0 fs.toList && fs.size == n && !P.stoodInHeld t && !P.eqGuardType P.depth t
      | _ => false)
    | _ => false
  | .neg x => match o with | .unOp .neg _ y => opdOK y x | _ => false
  | .not x => match o with | .unOp .not _ y => opdOK y x | _ => false
  | .cint k x => match o with
    | .convert src dst y => opdOK y x && (P.underlying src).isSome && (match P.underlying dst with | some (.int k') => k' == k | _ => false)
    | _ => false
  | .cstr x => match o with
    | .convert src dst y => opdOK y x && (match P.underlying src with
      | some (.slice e) => (match P.underlying e with | some (.int .u8) => true | _ => false)
      | _ => false) && (match P.underlying dst with | some .string => true | _ => false)
    | _ => false
  | .faddr off n x => match o with
    | .fieldAddr t y i => opdOK y x && (match P.underlying t with
      | some (.struct fs) => (match fs[i]? with
        | some f => f.offset == off && shapeT P f.type n && ((P.info? f.type).map (·.size)) != some 0
        | none => false)
      | _ => false)
    | _ => false
  | .iaddr sz x i => match o with
    | .indexAddr t y j => opdOK y x && opdOK j i && (match P.underlying t with
      | some (.slice e) => (P.info? e).map (·.size) == some sz && 0 < sz
      | _ => false)
    | _ => false
  | .aaddr len sz n x i => match o with
    | .indexAddr t y j => opdOK y x && opdOK j i && (match P.underlying t with
      | some (.array m e) => m == len && (P.info? e).map (·.size) == some sz && 0 < sz && shapeT P e n
      | _ => false)
    | _ => false
  | .sidx x i => match o with
    | .index t y j => opdOK y x && opdOK j i && (match P.underlying t with | some .string => true | _ => false)
    | _ => false
  | .aidx len sz n x i => match o with
    | .index t y j => opdOK y x && opdOK j i && (match P.underlying t with
      | some (.array m e) => m == len && (P.info? e).map (·.size) == some sz && shapeT P e n
      | _ => false)
    | _ => false
  | .app str sz bytes x y => match o with
    | .call { callee := .builtin .append, args, argTypes } => (match args.toList, argTypes.toList with
      | [x', y'], [t, u] => opdOK x' x && opdOK y' y && (match P.underlying t with
        | some (.slice e) => (match P.info? e with
          | some ie => ie.size == sz && 0 < sz && 0 < bytes && ie.bytes == bytes && (ie.zero.map (·.cells.size)) == some sz &&
              (if str then (match P.underlying u with | some .string => true | _ => false) && (match P.underlying e with | some (.int .u8) => true | _ => false) else u == t)
          | none => false)
        | _ => false)
      | _, _ => false)
    | _ => false
  | .len str x => match o with
    | .call { callee := .builtin .len, args, argTypes } => (match args.toList, argTypes.toList with
      | [y], [t] => opdOK y x && (match P.underlying t with
        | some .string => str
        | some (.slice _) => !str
        | _ => false)
      | _, _ => false)
    | _ => false
  | .max2 x y => match o with
    | .call { callee := .builtin .max, args, .. } => (match args.toList with | [x', y'] => opdOK x' x && opdOK y' y | _ => false)
    | _ => false
  | .make zero bytes l c => match o with
    | .makeSlice t l' c' => opdOK l' l && opdOK c' c && (match P.underlying t with
      | some (.slice e) => (match P.info? e with
        | some ie => ie.bytes == bytes && ie.size == zero.cells.length && 0 < ie.size && (match ie.zero with | some z => constDs z.cells.toList zero.cells | none => false)
        | none => false)
      | _ => false)
    | _ => false
  | .slcs x lo hi => match o with
    | .slice t y l h none => opdOK y x && optOK l lo && optOK h hi && (match P.underlying t with | some .string => true | _ => false)
    | _ => false
  | .slc sz x lo hi mx => match o with
    | .slice t y l h m => opdOK y x && optOK l lo && optOK h hi && optOK m mx && (match P.underlying t with
      | some (.slice e) => (P.info? e).map (·.size) == some sz
      | _ => false)
    | _ => false
  | .rng x => match o with
    | .range t y => opdOK y x && (match P.underlying t with | some .string => true | _ => false)
    | _ => false
  | .nxt s => match o with | .next (.tmp t) true => t == s | _ => false
  | .ext x i => match o with | .extract y j => opdOK y x && j == i | _ => false
  | .call f args => match o with
    | .call { callee := .value (.func f'), args := args', .. } => f' == f && argsOK args'.toList args && (match P.funcs[f]? with | some fn => fn.body.isSome && fn.name != "runtime.NumGoroutine" | none => false)
    | _ => false

/-! ### Operands -/
section
variable {w : World} {G : Gh} {Bf : Nat → Nat}

theorem constOK_d {v : Value} {x : D} {E : Nat → Option Nat} (h : constOK v (.d x) = true) : RelD w E v x := by
  unfold constOK at h
  split at h
  case h_1 a b he => cases he; simp at h; subst h; exact .bool _
  case h_2 k n k' n' he => cases he; simp at h; obtain ⟨rfl, rfl⟩ := h; exact .int _ _
  case h_3 s l he =>
    cases he
    simp at h
    subst h
    exact .str _
  case h_4 he => cases he; exact .nil
  case h_5 he => cases he
  case h_6 he => cases he; exact .snil _ _ _
  case h_7 => cases h

theorem constDs_get : ∀ {vs : List Value} {xs : List D} {E : Nat → Option Nat}, constDs vs xs = true → vs.length = xs.length ∧ (∀ x ∈ xs, notAgg x = true) ∧ ∀ (k : Nat) x, xs[k]? = some x → RelD w E (vs.getD k undef) x
  | [], [], E, _ => ⟨rfl, by simp, by simp⟩
  | [], _ :: _, E, h => by simp [constDs] at h
  | _ :: _, [], E, h => by simp [constDs] at h
  | v :: vs, x :: xs, E, h => by
    simp only [constDs, Bool.and_eq_true] at h
    obtain ⟨hl, hn, hr⟩ := constDs_get (E := E) h.2
    refine ⟨by simp [hl], by simpa [h.1.2] using hn, fun k y hk => ?_⟩
    cases k with
    | zero => simp at hk; subst hk; simpa using constOK_d h.1.1
    | succ k => simp at hk; simpa using hr k y hk

theorem OwnRel.read {s : Nat} {v : Value} {sz : Nat} {xs : List D} (h : OwnRel w G s v sz xs) : RelD w G.E v (.slice sz xs) := by
  obtain ⟨hsz, hna, h⟩ := h
  rcases h with ⟨rfl, rfl⟩ | ⟨g, cap, cur, T, rfl, hg, hc, _, hcs, hG, hr⟩
  · exact .snil _ _ _
  · rcases xs with _ | ⟨x, r⟩
    · exact .snil _ _ _
    · refine .scons g 0 cap sz ((x :: r).length * sz) (x :: r) (fun k => cur.getD k undef) (by simp) hc hsz hna (by simp [Gh.E, hG, Gs.ext]) (by omega) (fun k y hk => ?_) hr
      have hlt : k < (flat (x :: r)).length := by
        rcases Nat.lt_or_ge k (flat (x :: r)).length with h | h
        · exact h
        · rw [List.getElem?_eq_none h] at hk; cases hk
      rw [flat_length hsz] at hlt
      have : (x :: r).length * sz ≤ cap * sz := Nat.mul_le_mul_right _ hc
      have hk2 : k < cur.size := by omega
      simp [World.cell?, hg, hk2]

theorem SimV.read {s : Nat} {v : Value} {x : V} {d : D} (h : SimV w G Bf s v x) (hd : x.read = some d) : RelD w G.E v d := by
  cases x <;> simp [V.read] at hd
  case d => subst hd; exact h
  case own => subst hd; exact OwnRel.read h

end
end Go.Vi
