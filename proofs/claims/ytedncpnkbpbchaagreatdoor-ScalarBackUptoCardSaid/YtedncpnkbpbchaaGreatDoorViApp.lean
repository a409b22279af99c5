/-
  The verified interpreter: append.
-/
import Derived.Test.YtedncpnkbpbchaaGreatDoorViPure3
set_option linter.unusedVariables false
set_option linter.unusedSimpArgs false
namespace Go.Vi
open Go.RowKit

section
variable {P : Program} {w : World} {G : Gh}

theorem run_app_room {t u ty e : TypeId} {i : TypeInfo} {x : Value} {m n cap g : Nat} {news : List Value} {cur : Array Value} {T : TypeId}
    (ht : P.underlying t = some (.slice e)) (hi : P.info? e = some i) (hu : P.underlying u = some (.slice e) ∨ P.underlying u = some .string)
    (hl : (Builtin.lenOf x).run P w = .ok m w) (hf : (Builtin.firstCells i.size m x).run P w = .ok news.toArray w) (hnl : news.length = m * i.size) (h1 : ∀ v ∈ news, v.oneCell' = true)
    (hg : w.heap[g]? = some (.cells cur T (0, 0))) (hroom : n + m ≤ cap) (hfit : n * i.size + news.length ≤ cur.size) :
    (Builtin.append_ #[t, u] ty #[.slice (some ⟨g, 0, none⟩) n cap, x]).run P w =
      .ok (.slice (some ⟨g, 0, none⟩) (n + m) cap) (w.setRow g (cur.toList.take (n * i.size) ++ news ++ cur.toList.drop (n * i.size + news.length)).toArray) := by
  have hst := run_storeCells_at P g (n * i.size) T news 0 cur w hg (by simpa using hfit) h1
  simp only [Nat.add_zero] at hst
  rcases hu with hdu | hdu <;> simp [Builtin.append_, run_underlying ht, run_underlying hdu, sizeOf, typeInfo, hi, hl, hroom, hf, add_plain, hst]

theorem run_app_grow {t u ty e : TypeId} {i : TypeInfo} {z x : Value} {m n cap : Nat} {news olds : List Value} {A : Option Addr}
    (ht : P.underlying t = some (.slice e)) (hi : P.info? e = some i) (hz0 : i.zero = some z) (hu : P.underlying u = some (.slice e) ∨ P.underlying u = some .string)
    (hl : (Builtin.lenOf x).run P w = .ok m w) (hf : (Builtin.firstCells i.size m x).run P w.drew = .ok news.toArray w.drew) (hfo : (Builtin.firstCells i.size n (.slice A n cap)).run P w.drew = .ok olds.toArray w.drew)
    (hg : cap < n + m) (h63 : ((n + m : Nat) : Int) ≤ 9223372036854775807) (hfit : Builtin.nextslicecap (n + m) cap * i.bytes ≤ 281474976710656) :
    (Builtin.append_ #[t, u] ty #[.slice A n cap, x]).run P w =
      .ok (.slice (some ⟨w.heap.size, 0, none⟩) (n + m) (grownCap w (n + m) cap e))
        (w.drew.alloc (.cells (olds.toArray ++ news.toArray ++ Builtin.zeroCells z.cells (grownCap w (n + m) cap e - (n + m))) e)) := by
  have hn : ¬ (n + m ≤ cap) := by omega
  have h63' : ¬ (9223372036854775807 < ((n : Int) + (m : Int))) := by omega
  have h48' : ¬ (281474976710656 < Builtin.nextslicecap (n + m) cap * i.bytes) := by omega
  rcases hu with hdu | hdu
  all_goals
    simp [Builtin.append_, run_underlying ht, run_underlying hdu, sizeOf, typeInfo, zeroValue, hi, hz0, hl, hn, h63', h48', Question.forced, hf, hfo, newRow, grownCap]
    congr 2
    apply Array.ext'
    simp [List.append_assoc]


/-- What is appended. -/
structure Src (P : Program) (w : World) (E : Nat → Option Nat) (u : Value) (sz : Nat) (ys : List D) (news : List Value) : Prop where
  len : (Builtin.lenOf u).run P w = .ok ys.length w
  cells : ∀ w1 : World, w1.heap = w.heap → (Builtin.firstCells sz ys.length u).run P w1 = .ok news.toArray w1
  row : RowRel w E news.toArray (flat ys)
  sizes : ∀ y ∈ ys, y.cells.length = sz

theorem one_of_rel {E : Nat → Option Nat} {v : Value} {x : D} (h : RelD w E v x) (hn : notAgg x = true) : v.oneCell' = true := by cases h <;> first | rfl | assumption | (simp [notAgg] at hn)

theorem RowRel.one {E : Nat → Option Nat} {vs : List Value} {cs : List D} (h : RowRel w E vs.toArray cs) : ∀ v ∈ vs, v.oneCell' = true := by
  obtain ⟨h1, h2, h3⟩ := h
  intro v hv
  obtain ⟨k, hk⟩ := List.mem_iff_getElem?.1 hv
  have hlt := lt_of_get hk
  obtain ⟨x, hx⟩ : ∃ x, cs[k]? = some x := ⟨_, List.getElem?_eq_getElem (by simpa [← h1] using hlt)⟩
  have := h3 k x hx
  have e : vs.toArray.getD k undef = v := by simp [Array.getD_eq_getD_getElem?, hk]
  rw [e] at this
  exact one_of_rel this (h2 x (List.mem_of_getElem? hx))

theorem cell_heap {w w1 : World} (h : w1.heap = w.heap) (a : Addr) : w1.cell? a = w.cell? a := by simp [World.cell?, h]

theorem src_slice {E : Nat → Option Nat} {u : Value} {sz : Nat} {ys : List D} (h : RelD w E u (.slice sz ys)) (hsz : ∀ y ∈ ys, y.cells.length = sz) : ∃ news, Src P w E u sz ys news := by
  obtain ⟨A, c, rfl, hc, hcell⟩ := relD_slice h
  rcases ys with _ | ⟨y, r⟩
  · refine ⟨[], by simp [Builtin.lenOf], fun w1 hw => ?_, ⟨rfl, by simp [flat], by simp [flat]⟩, by simp⟩
    rcases A with _ | A
    · simp [Builtin.firstCells]
    · simp [Builtin.firstCells, loadCells, loadCellsFrom]
  · obtain ⟨b, off, rfl, hs, e, vals, hE, hle, hna, hcl⟩ := hcell (by simp)
    have hfl := flat_length hs
    refine ⟨(List.range (flat (y :: r)).length).map vals, by simp [Builtin.lenOf], fun w1 hw => ?_, ⟨by simp, hna, fun k x hk => ?_⟩, hs⟩
    · refine run_firstCells_some (P := P) w1 sz _ ⟨b, off, none⟩ _ c _ (by simp [hfl]) fun j v hv => ?_
      rw [add_plain, cell_heap hw]
      have hlt := lt_of_get hv
      simp at hlt
      obtain ⟨x, hx⟩ : ∃ x, (flat (y :: r))[j]? = some x := ⟨_, List.getElem?_eq_getElem hlt⟩
      rw [(hcl j x hx).1]
      simp [hlt] at hv
      rw [hv]
    · have hlt := lt_of_get hk
      have e1 : ((List.range (flat (y :: r)).length).map vals).toArray.getD k undef = vals k := by simp [Array.getD_eq_getD_getElem?, hlt]
      rw [e1]
      exact (hcl k x hk).2

theorem flat_bytesD (s : List UInt8) : flat (bytesD s) = bytesD s := by
  induction s with
  | nil => rfl
  | cons b r ih => simp only [flat, bytesD, List.map_cons, List.flatMap_cons, D.cells] at ih ⊢; rw [ih]; rfl

theorem src_str {E : Nat → Option Nat} (s : List UInt8) : ∃ news, Src P w E (.string ⟨s.toArray⟩) 1 (bytesD s) news := by
  refine ⟨s.map fun b => .int .u8 b.toNat, by simp [Builtin.lenOf, bytesD, size_mk], fun w1 hw => ?_, ⟨?_, ?_, fun k x hk => ?_⟩, ?_⟩
  · have : (ByteArray.mk s.toArray).extract 0 (bytesD s).length = ⟨s.toArray⟩ := by
      rw [extract_take_drop s (Nat.zero_le _)]; simp [bytesD]
    simp only [Builtin.firstCells, this, Sem.run_pure]
    simp
  · rw [flat_bytesD]; simp [bytesD]
  · rw [flat_bytesD]; intro x hx; simp only [bytesD, List.mem_map] at hx; obtain ⟨b, _, rfl⟩ := hx; rfl
  · rw [flat_bytesD] at hk
    simp only [bytesD, List.getElem?_map, Option.map_eq_some_iff] at hk
    obtain ⟨b, hb, rfl⟩ := hk
    have : (s.map fun b : UInt8 => Value.int .u8 (b.toNat : Int)).toArray.getD k undef = .int .u8 b.toNat := by simp [Array.getD_eq_getD_getElem?, hb]
    rw [this]
    exact .int _ _
  · intro y hy; simp only [bytesD, List.mem_map] at hy; obtain ⟨b, _, rfl⟩ := hy; rfl

theorem evo_new {w1 : World} {o : Obj} {st : Gs} (hf : ∀ b, w.heap.size ≤ b → G b = .no) (hh : w1.heap = w.heap) (ho : w1.os = w.os) (ht : w1.tape = w.tape) (hp : w1.output = w.output) :
    Evo (fun _ => False) w G (w1.alloc o) (upd G w.heap.size st) := by
  refine ⟨ho, ht, hp, by simp [World.alloc, hh], fun b hb _ => ⟨by simp only [upd]; rw [if_neg (by omega)], ?_⟩, fun b _ h => h.elim, fun b hb => ?_⟩
  · rw [heap_alloc_old w1 o b (by rw [hh]; exact hb), hh]
  · simp only [World.size_alloc, hh] at hb
    simp only [upd]
    rw [if_neg (by omega)]
    exact hf b (by omega)

theorem splice_left (cur : Array Value) (news : List Value) (n m : Nat) {j : Nat} (hj : j < n) (hc : j < cur.size) : (cur.toList.take n ++ news ++ cur.toList.drop m).toArray[j]? = cur[j]? := by
  rw [List.append_assoc, List.getElem?_toArray, List.getElem?_append_left (by simp; omega), List.getElem?_take, if_pos hj, Array.getElem?_toList]

theorem app_core {t u ty e : TypeId} {i : TypeInfo} {z : Value} {y v : Value} {sz bytes s k : Nat} {xs ys : List D} {news : List Value} (hfresh : ∀ b, w.heap.size ≤ b → G b = .no)
    (ht : P.underlying t = some (.slice e)) (hi : P.info? e = some i) (hz0 : i.zero = some z) (hsz : i.size = sz) (hby : i.bytes = bytes) (hzs : z.cells.size = sz) (h0 : 0 < sz) (hb0 : 0 < bytes)
    (hu : P.underlying u = some (.slice e) ∨ P.underlying u = some .string) (hs : Src P w G.E y sz ys news) (ho : OwnRel w G s v sz xs) (hbytes : (xs.length + ys.length) * bytes ≤ 140737488355328) :
    ∃ v' w' G' K, (Builtin.append_ #[t, u] ty #[v, y]).run P w = .ok v' w' ∧ OwnRel w' G' k v' sz (xs ++ ys) ∧ Evo K w G w' G' ∧ ∀ b, K b → (∃ e, G b = .own e s) ∧ v ≠ .slice none 0 0 := by
  subst hsz
  obtain ⟨hxs, hxna, ho⟩ := ho
  obtain ⟨hlen, hcells, ⟨r1, r2, r3⟩, hys⟩ := hs
  have hfl := flat_length hys
  have hnl : news.length = ys.length * i.size := by simpa [hfl] using r1
  have hsum : xs.length + ys.length ≤ 140737488355328 := Nat.le_trans (Nat.le_mul_of_pos_right _ hb0) hbytes
  have h63 : ((xs.length + ys.length : Nat) : Int) ≤ 9223372036854775807 := by omega
  have hsizes : ∀ x ∈ xs ++ ys, x.cells.length = i.size := fun x hx => by
    rcases List.mem_append.1 hx with h | h
    · exact hxs x h
    · exact hys x h
  have hnas : ∀ x ∈ flat (xs ++ ys), notAgg x = true := fun x hx => by
    rw [flat_append] at hx
    rcases List.mem_append.1 hx with h | h
    · exact hxna x h
    · exact r2 x h
  -- a new block
  have grown : ∀ (olds : List Value) (cap : Nat), cap < xs.length + ys.length → olds.length = xs.length * i.size → (∀ j x, (flat xs)[j]? = some x → RelD w G.E (olds.getD j undef) x) →
      ∃ G', OwnRel (w.drew.alloc (.cells (olds.toArray ++ news.toArray ++ Builtin.zeroCells z.cells (grownCap w (xs.length + ys.length) cap e - (xs.length + ys.length))) e)) G' k
        (.slice (some ⟨w.heap.size, 0, none⟩) (xs.length + ys.length) (grownCap w (xs.length + ys.length) cap e)) i.size (xs ++ ys) ∧
        Evo (fun _ => False) w G (w.drew.alloc (.cells (olds.toArray ++ news.toArray ++ Builtin.zeroCells z.cells (grownCap w (xs.length + ys.length) cap e - (xs.length + ys.length))) e)) G' := by
    intro olds cap hcap hol hor
    have hge := grownCap_ge w (xs.length + ys.length) cap e
    have hcm : grownCap w (xs.length + ys.length) cap e ≤ maxLen := grownCap_le_maxLen w _ cap e (by simp only [maxLen]; omega)
    have ev : Evo (fun _ => False) w G (w.drew.alloc (.cells (olds.toArray ++ news.toArray ++ Builtin.zeroCells z.cells (grownCap w (xs.length + ys.length) cap e - (xs.length + ys.length))) e)) (upd G w.heap.size (.own ((xs ++ ys).length * i.size) k)) :=
      evo_new hfresh rfl rfl rfl rfl
    have m := ev.mono hfresh
    refine ⟨_, ⟨hsizes, hnas, .inr ⟨w.heap.size, _, _, e, by rw [List.length_append], heap_alloc_new w.drew _, by rw [List.length_append]; exact hge, hcm, ?_, by simp [upd], fun j x hj => ?_⟩⟩, ev⟩
    · simp only [Array.size_append, List.size_toArray, size_zeroCells, hzs, hol, hnl, ← Nat.add_mul]
      congr 1
      omega
    · rw [flat_append, List.getElem?_append, flat_length hxs] at hj
      split at hj
      case isTrue hlt =>
        have := (hor j x hj).mono m
        have e1 : (olds.toArray ++ news.toArray ++ Builtin.zeroCells z.cells (grownCap w (xs.length + ys.length) cap e - (xs.length + ys.length))).getD j undef = olds.getD j undef := by
          rw [Array.getD_eq_getD_getElem?, Array.getElem?_append_left (by simp [hol]; omega), Array.getElem?_append_left (by simp [hol]; omega)]
          simp [List.getD]
        rw [e1]; exact this
      case isFalse hge2 =>
        have hlt := lt_of_get hj
        rw [hfl] at hlt
        have := (r3 _ x hj).mono m
        have e1 : (olds.toArray ++ news.toArray ++ Builtin.zeroCells z.cells (grownCap w (xs.length + ys.length) cap e - (xs.length + ys.length))).getD j undef = news.toArray.getD (j - xs.length * i.size) undef := by
          rw [Array.getD_eq_getD_getElem?, Array.getElem?_append_left (by simp [hol, hnl]; omega), Array.getElem?_append_right (by simp [hol]; omega)]
          simp [Array.getD_eq_getD_getElem?, hol]
        rw [e1]; exact this
  have hfit : ∀ cap, cap < xs.length + ys.length → Builtin.nextslicecap (xs.length + ys.length) cap * i.bytes ≤ 281474976710656 := fun cap hc => growslice_fits hc (by rw [hby]; exact hbytes)
  rcases ho with ⟨rfl, rfl⟩ | ⟨g, cap, cur, T, rfl, hg, hc, hcm, hcs, hG, hr⟩
  · by_cases hm : ys.length = 0
    · obtain rfl := List.eq_nil_of_length_eq_zero hm
      have hn : news = [] := List.eq_nil_of_length_eq_zero (by simpa using hnl)
      subst hn
      refine ⟨.slice none 0 0, w, G, fun _ => False, ?_, ⟨by simp, by simp [flat], .inl ⟨rfl, rfl⟩⟩, Evo.refl _ w G hfresh (fun _ h => h), fun b h => h.elim⟩
      have hc0 := hcells w rfl
      simp only [List.length_nil] at hlen hc0
      rcases hu with hdu | hdu <;> simp [Builtin.append_, run_underlying ht, run_underlying hdu, sizeOf, typeInfo, hi, hlen, hc0]
    · obtain ⟨G', h1, h2⟩ := grown [] 0 (by simp; omega) (by simp) (by simp [flat])
      have hrun := run_app_grow (P := P) (w := w) (ty := ty) (A := none) (n := 0) (cap := 0) (olds := []) ht hi hz0 hu hlen (hcells w.drew rfl) (by simp [Builtin.firstCells]) (by omega) (by simpa using h63) (by simpa using hfit 0 (by simp; omega))
      simp only [List.length_nil, Nat.zero_add, List.nil_append] at hrun h1 h2 ⊢
      exact ⟨_, _, G', _, hrun, h1, h2, fun b h => h.elim⟩
  · by_cases hroom : xs.length + ys.length ≤ cap
    · have hmul : (xs.length + ys.length) * i.size ≤ cap * i.size := Nat.mul_le_mul_right _ hroom
      have hadd : (xs.length + ys.length) * i.size = xs.length * i.size + ys.length * i.size := Nat.add_mul ..
      have hrun := run_app_room (P := P) (w := w) (ty := ty) (n := xs.length) (cap := cap) ht hi hu hlen (hcells w rfl) hnl (RowRel.one ⟨r1, r2, r3⟩) hg hroom (by rw [hcs, hnl]; omega)
      have hnew : (w.setRow g (cur.toList.take (xs.length * i.size) ++ news ++ cur.toList.drop (xs.length * i.size + news.length)).toArray).heap[g]? = some (.cells (cur.toList.take (xs.length * i.size) ++ news ++ cur.toList.drop (xs.length * i.size + news.length)).toArray T (0, 0)) := setRow_heap w g cur _ T _ hg
      have hgl := lt_of_heap hg
      have ev : Evo (fun b => b = g) w G (w.setRow g (cur.toList.take (xs.length * i.size) ++ news ++ cur.toList.drop (xs.length * i.size + news.length)).toArray) (upd G g (.own ((xs ++ ys).length * i.size) k)) := by
        refine ⟨rfl, rfl, rfl, by simp, fun b hb hne => ⟨by simp only [upd]; rw [if_neg hne], setRow_other w g b _ hne⟩, fun b hb hbg => ?_, fun b hb => ?_⟩
        · subst hbg
          refine .inl ⟨_, _, hG, ⟨(xs ++ ys).length * i.size, by simp [upd, Gs.ext], by rw [List.length_append]; omega⟩, fun j hj => ?_⟩
          rw [cell_of_row _ b j _ T (0, 0) hnew, cell_of_row _ b j _ T (0, 0) hg]
          exact splice_left _ _ _ _ hj (by rw [hcs]; omega)
        · simp only [size_setRow] at hb
          simp only [upd]
          rw [if_neg (by omega)]
          exact hfresh b hb
      have m := ev.mono hfresh
      refine ⟨_, _, _, _, hrun, ⟨hsizes, hnas, .inr ⟨g, cap, _, T, by rw [List.length_append], hnew, by rw [List.length_append]; exact hroom, hcm, ?_, by simp [upd], fun j x hj => ?_⟩⟩, ev, fun b hb => ⟨⟨xs.length * i.size, by rw [show b = g from hb]; exact hG⟩, by simp⟩⟩
      · simp only [List.size_toArray, List.length_append, List.length_take, List.length_drop, Array.length_toList]
        omega
      · rw [flat_append, List.getElem?_append, flat_length hxs] at hj
        split at hj
        case isTrue hlt =>
          have := (hr j x hj).mono m
          have e1 : (cur.toList.take (xs.length * i.size) ++ news ++ cur.toList.drop (xs.length * i.size + news.length)).toArray.getD j undef = cur.getD j undef := by
            rw [Array.getD_eq_getD_getElem?, splice_left _ _ _ _ hlt (by rw [hcs]; omega), Array.getD_eq_getD_getElem?]
          rw [e1]; exact this
        case isFalse hge2 =>
          have hlt := lt_of_get hj
          rw [hfl] at hlt
          have := (r3 _ x hj).mono m
          have htl : (cur.toList.take (xs.length * i.size)).length = xs.length * i.size := by simp; omega
          have e1 : (cur.toList.take (xs.length * i.size) ++ news ++ cur.toList.drop (xs.length * i.size + news.length)).toArray.getD j undef = news.toArray.getD (j - xs.length * i.size) undef := by
            rw [List.append_assoc, Array.getD_eq_getD_getElem?, List.getElem?_toArray, List.getElem?_append_right (by omega), htl, List.getElem?_append_left (by omega)]
            simp [Array.getD_eq_getD_getElem?]
          rw [e1]; exact this
    · have hol : (cur.toList.take (xs.length * i.size)).length = xs.length * i.size := by
        have : xs.length * i.size ≤ cap * i.size := Nat.mul_le_mul_right _ hc
        simp; omega
      have hcell : ∀ j v, (cur.toList.take (xs.length * i.size))[j]? = some v → w.drew.cell? ((⟨g, 0, none⟩ : Addr).add j) = some v := fun j v hj => by
        rw [add_plain]
        rw [List.getElem?_take] at hj
        split at hj
        · show w.cell? ⟨g, 0 + j, none⟩ = some v
          rw [Nat.zero_add, cell_of_row w g j cur T (0, 0) hg, ← Array.getElem?_toList]
          exact hj
        · cases hj
      obtain ⟨G', h1, h2⟩ := grown (cur.toList.take (xs.length * i.size)) cap (by omega) hol (fun j x hj => by
        have hlt := lt_of_get hj
        rw [flat_length hxs] at hlt
        have := hr j x hj
        have e1 : (cur.toList.take (xs.length * i.size)).getD j undef = cur.getD j undef := by
          simp [List.getD, Array.getD_eq_getD_getElem?, List.getElem?_take, hlt]
        rw [e1]; exact this)
      have hrun := run_app_grow (P := P) (w := w) (ty := ty) (A := some ⟨g, 0, none⟩) (n := xs.length) (cap := cap) (olds := cur.toList.take (xs.length * i.size)) ht hi hz0 hu hlen (hcells w.drew rfl)
        (run_firstCells_some (P := P) w.drew i.size xs.length _ _ cap _ hol hcell) (by omega) h63 (hfit cap (by omega))
      exact ⟨_, _, G', _, hrun, h1, h2, fun b h => h.elim⟩


/-- The tail goes to another slot. -/
theorem OwnRel.move {s k sz : Nat} {v : Value} {xs : List D} (hfresh : ∀ b, w.heap.size ≤ b → G b = .no) (h : OwnRel w G s v sz xs) :
    ∃ G' K, OwnRel w G' k v sz xs ∧ Evo K w G w G' ∧ ∀ b, K b → (∃ e, G b = .own e s) ∧ v ≠ .slice none 0 0 := by
  obtain ⟨h1, h2, h3⟩ := h
  rcases h3 with ⟨rfl, rfl⟩ | ⟨g, cap, cur, T, rfl, hg, hc, hm, hcs, hG, hr⟩
  · exact ⟨G, fun _ => False, ⟨h1, h2, .inl ⟨rfl, rfl⟩⟩, Evo.refl _ w G hfresh (fun _ h => h), fun _ h => h.elim⟩
  · have ev : Evo (fun b => b = g) w G w (upd G g (.own (xs.length * sz) k)) :=
      ⟨rfl, rfl, rfl, Nat.le_refl _, fun b hb hne => ⟨by simp only [upd]; rw [if_neg hne], rfl⟩, fun b hb hbg => .inl ⟨xs.length * sz, s, by rw [show b = g from hbg]; exact hG, ⟨xs.length * sz, by rw [show b = g from hbg]; simp [upd, Gs.ext], Nat.le_refl _⟩, fun _ _ => rfl⟩,
        fun b hb => by have := lt_of_heap hg; simp only [upd]; rw [if_neg (by omega)]; exact hfresh b hb⟩
    exact ⟨_, _, ⟨h1, h2, .inr ⟨g, cap, cur, T, rfl, hg, hc, hm, hcs, by simp [upd], fun j x hj => (hr j x hj).mono (ev.mono hfresh)⟩⟩, ev, fun b hb => ⟨⟨xs.length * sz, by rw [show b = g from hb]; exact hG⟩, by simp⟩⟩

end
end Go.Vi
