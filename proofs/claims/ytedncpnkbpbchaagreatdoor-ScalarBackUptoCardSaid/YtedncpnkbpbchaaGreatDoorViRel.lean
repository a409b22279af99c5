/-
  The verified interpreter: what its data mean in the model's memory.
-/
import Derived.Test.YtedncpnkbpbchaaGreatDoorViDef
import Derived.Below
import Derived.Laws.Cells
import Derived.Laws.Sem
import Derived.Laws.NewBlocks
set_option linter.unusedVariables false
set_option linter.unusedSimpArgs false
namespace Go.Vi

def notAgg : D → Bool
  | .agg _ => false
  | _ => true

/-- A value reads as a datum; 'E b' tells up to where block b is never written again. -/
inductive RelD (w : World) (E : Nat → Option Nat) : Value → D → Prop
  | bool (b : Bool) : RelD w E (.bool b) (.bool b)
  | int (k : IntKind) (n : Int) : RelD w E (.int k n) (.int k n)
  | str (s : List UInt8) : RelD w E (.string ⟨s.toArray⟩) (.str s)
  | nil : RelD w E .nilIface (.err false)
  | err (t : TypeId) (v : Value) : RelD w E (.iface t v) (.err true)
  | snil (A : Option Addr) (c sz : Nat) : RelD w E (.slice A 0 c) (.slice sz [])
  | scons (b off c sz e : Nat) (xs : List D) (vals : Nat → Value) : xs ≠ [] → xs.length ≤ c → (∀ x ∈ xs, x.cells.length = sz) →
      (∀ x ∈ flat xs, notAgg x = true) → E b = some e → off + xs.length * sz ≤ e →
      (∀ k x, (flat xs)[k]? = some x → w.cell? ⟨b, off + k, none⟩ = some (vals k)) →
      (∀ k x, (flat xs)[k]? = some x → RelD w E (vals k) x) →
      RelD w E (.slice (some ⟨b, off, none⟩) xs.length c) (.slice sz xs)
  | agg (vs : Array Value) (cs : List D) : vs.size = cs.length → (∀ x ∈ cs, notAgg x = true) →
      (∀ k x, cs[k]? = some x → RelD w E (vs.getD k undef) x) → RelD w E (.agg vs) (.agg cs)
  | any (v : Value) : v.oneCell' = true → RelD w E v .any

structure Mono (w : World) (E : Nat → Option Nat) (w' : World) (E' : Nat → Option Nat) : Prop where
  ext : ∀ b e, E b = some e → ∃ e', e ≤ e' ∧ E' b = some e'
  cell : ∀ b e, E b = some e → ∀ i, i < e → w'.cell? ⟨b, i, none⟩ = w.cell? ⟨b, i, none⟩

theorem flat_length {xs : List D} {sz : Nat} (h : ∀ x ∈ xs, x.cells.length = sz) : (flat xs).length = xs.length * sz := by
  induction xs with
  | nil => simp [flat]
  | cons x r ih =>
    have := ih fun y hy => h y (by simp [hy])
    simp only [flat, List.flatMap_cons, List.length_append, List.length_cons] at this ⊢
    rw [h x (by simp), this, Nat.add_mul]
    omega

theorem flat_append (xs ys : List D) : flat (xs ++ ys) = flat xs ++ flat ys := by simp [flat]

theorem RelD.mono {w w' : World} {E E' : Nat → Option Nat} (m : Mono w E w' E') {v : Value} {x : D} (h : RelD w E v x) : RelD w' E' v x := by
  induction h with
  | bool b => exact .bool b
  | int k n => exact .int k n
  | str s => exact .str s
  | nil => exact .nil
  | err t v => exact .err t v
  | snil A c sz => exact .snil A c sz
  | scons b off c sz e xs vals h0 hc hsz hna hE hle hcell _ ih =>
    obtain ⟨e', he, hE'⟩ := m.ext b e hE
    refine .scons b off c sz e' xs vals h0 hc hsz hna hE' (by omega) (fun k x hk => ?_) ih
    have hlt : k < (flat xs).length := by
      rcases Nat.lt_or_ge k (flat xs).length with h | h
      · exact h
      · rw [List.getElem?_eq_none h] at hk; cases hk
    rw [flat_length hsz] at hlt
    rw [m.cell b e hE (off + k) (by omega)]
    exact hcell k x hk
  | agg vs cs hs hna _ ih => exact .agg vs cs hs hna ih
  | any v h => exact .any v h

theorem Mono.refl (w : World) (E : Nat → Option Nat) : Mono w E w E := ⟨fun b e h => ⟨e, Nat.le_refl _, h⟩, fun _ _ _ _ _ => rfl⟩
theorem Mono.trans {w w1 w2 : World} {E E1 E2 : Nat → Option Nat} (h : Mono w E w1 E1) (k : Mono w1 E1 w2 E2) : Mono w E w2 E2 :=
  ⟨fun b e he => by
    obtain ⟨e1, h1, he1⟩ := h.ext b e he
    obtain ⟨e2, h2, he2⟩ := k.ext b e1 he1
    exact ⟨e2, by omega, he2⟩,
   fun b e he i hi => by
    obtain ⟨e1, h1, he1⟩ := h.ext b e he
    rw [k.cell b e1 he1 i (by omega), h.cell b e he i hi]⟩

/-- What stands of a block: nothing; read alone up to a place; read up to a place, its rest owned by a slot; a slot's variable. -/
inductive Gs where
  | no
  | com (e : Nat)
  | own (e k : Nat)
  | box (k : Nat)
  deriving Inhabited
def Gs.ext : Gs → Option Nat
  | .com e => some e
  | .own e _ => some e
  | _ => none
abbrev Gh := Nat → Gs
def Gh.E (G : Gh) : Nat → Option Nat := fun b => (G b).ext

/-- A slice that owns its tail. -/
def OwnRel (w : World) (G : Gh) (s : Nat) (v : Value) (sz : Nat) (xs : List D) : Prop :=
  (∀ x ∈ xs, x.cells.length = sz) ∧ (∀ x ∈ flat xs, notAgg x = true) ∧
  ((v = .slice none 0 0 ∧ xs = []) ∨
   ∃ g cap cur T, v = .slice (some ⟨g, 0, none⟩) xs.length cap ∧ w.heap[g]? = some (.cells cur T (0, 0)) ∧ xs.length ≤ cap ∧ cap ≤ maxLen ∧ cur.size = cap * sz ∧
     G g = .own (xs.length * sz) s ∧ ∀ k x, (flat xs)[k]? = some x → RelD w G.E (cur.getD k undef) x)

/-- Cells of memory that are never written read as these. -/
def CellsRel (w : World) (E : Nat → Option Nat) (b off : Nat) (cs : List D) : Prop :=
  ∃ (e : Nat) (vals : Nat → Value), E b = some e ∧ off + cs.length ≤ e ∧ (∀ x ∈ cs, notAgg x = true) ∧ ∀ k x, cs[k]? = some x → w.cell? ⟨b, off + k, none⟩ = some (vals k) ∧ RelD w E (vals k) x

def SimV (w : World) (G : Gh) (Bf : Nat → Nat) (s : Nat) (v : Value) : V → Prop
  | .d x => RelD w G.E v x
  | .own sz xs => OwnRel w G s v sz xs
  | .lref s' o => v = .pointer (some ⟨Bf s', o, none⟩)
  | .cref x => ∃ b off, v = .pointer (some ⟨b, off, none⟩) ∧ CellsRel w G.E b off x.cells
  | .tup xs => ∃ vs : Array Value, v = .tuple vs ∧ vs.size = xs.length ∧ ∀ k x, xs[k]? = some x → RelD w G.E (vs.getD k undef) x
  | .iter l pos => ∃ r, v = .pointer (some ⟨r, 0, none⟩) ∧ w.heap[r]? = some (.stringIter ⟨l.toArray⟩ pos) ∧ G r = .box s
  | .un => v = undef

/-- A slot's variable. -/
def BoxRel (w : World) (G : Gh) (g s : Nat) (cs : List D) : Prop :=
  G g = .box s ∧ ∃ vs T, w.heap[g]? = some (.cells vs T (0, 0)) ∧ vs.size = cs.length ∧ (∀ x ∈ cs, notAgg x = true) ∧ ∀ k x, cs[k]? = some x → RelD w G.E (vs.getD k undef) x

/-- What a call does to what was there before it. -/
structure Keep (w0 : World) (G0 : Gh) (w : World) (G : Gh) : Prop where
  os : w.os = w0.os
  tape : w.tape = w0.tape
  output : w.output = w0.output
  size : w0.heap.size ≤ w.heap.size
  own : ∀ b, b < w0.heap.size → ∀ e k, G0 b = .own e k → (∃ e', (G b).ext = some e' ∧ e ≤ e') ∧ ∀ i, i < e → w.cell? ⟨b, i, none⟩ = w0.cell? ⟨b, i, none⟩
  rest : ∀ b, b < w0.heap.size → (∀ e k, G0 b ≠ .own e k) → G b = G0 b ∧ w.heap[b]? = w0.heap[b]?

theorem Keep.refl (w : World) (G : Gh) : Keep w G w G := ⟨rfl, rfl, rfl, Nat.le_refl _, fun b _ e k h => ⟨⟨e, by simp [h, Gs.ext], Nat.le_refl _⟩, fun _ _ => rfl⟩, fun _ _ _ => ⟨rfl, rfl⟩⟩

end Go.Vi
