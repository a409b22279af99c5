/-
  The verified interpreter: from a run over data to what a row asks of the call.
-/
import Derived.Test.YtedncpnkbpbchaaGreatDoorViRun
import Derived.WalkKit
import Derived.ProofKit
import Derived.OpenShut
import Derived.WideKeyArgs
import Derived.Deep.DeepHandedRow
import Derived.Lib.LaidTab
set_option linter.unusedVariables false
set_option linter.unusedSimpArgs false
namespace Go.Vi
open Go.ChangeShapes Go.WideShapes Go.ChangeAt Go.RowKit

def cellsIn : Obj → Nat
  | .cells c _ _ => c.size
  | _ => 0
/-- All that stood when the call began is there to be read. -/
def oldG (W : World) : Gh := fun b => match W.heap[b]? with
  | some o => .com (cellsIn o)
  | none => .no

theorem oldG_com {W : World} {b : Nat} (h : b < W.heap.size) : ∃ e, oldG W b = .com e := by
  simp [oldG, h]

theorem oldG_cell {W : World} {b i : Nat} {v : Value} (h : W.cell? ⟨b, i, none⟩ = some v) : ∃ e, (oldG W).E b = some e ∧ i < e := by
  simp only [World.cell?] at h
  split at h
  case h_1 c T fz hh =>
    simp at h
    have := (Array.getElem?_eq_some_iff.1 h).1
    exact ⟨c.size, by simp [Gh.E, oldG, hh, Gs.ext, cellsIn], this⟩
  case h_2 => cases h

theorem oldG_base {gl : Nat → Option D} {W : World} (h : ∀ i x, gl i = some x → CellsRel W (oldG W).E i 0 x.cells) : Base gl W (oldG W) W := by
  refine ⟨fun b hb => ?_, h, Below.refl _ _, fun b hb => oldG_com hb⟩
  simp only [oldG]
  rw [Array.getElem?_eq_none hb]

/-- Cells that hold whole numbers, as a row of data. -/
theorem cellsRel_ints {W : World} {b off : Nat} {k : IntKind} (ns : List Int) (h0 : ns ≠ []) (h : ∀ (i : Nat) n, ns[i]? = some n → W.cell? ⟨b, off + i, none⟩ = some (.int k n)) : CellsRel W (oldG W).E b off (ns.map (D.int k)) := by
  have hl : 0 < ns.length := List.length_pos_iff.2 h0
  obtain ⟨e, he, hlt⟩ := oldG_cell (h (ns.length - 1) (ns[ns.length - 1]'(by omega)) (by simp))
  refine ⟨e, fun i => .int k (ns.getD i 0), he, by simp; omega, fun x hx => ?_, fun i x hx => ?_⟩
  · obtain ⟨n, _, rfl⟩ := List.mem_map.1 hx; rfl
  · rw [List.getElem?_map, Option.map_eq_some_iff] at hx
    obtain ⟨n, hn, rfl⟩ := hx
    have hd : ns.getD i 0 = n := by simp [List.getD, hn]
    exact ⟨by simp only [hd]; exact h i n hn, by simp only [hd]; exact .int k n⟩

theorem relD_ints {W : World} {b off cap : Nat} {k : IntKind} (ns : List Int) (hc : ns.length ≤ cap) (h : ∀ (i : Nat) n, ns[i]? = some n → W.cell? ⟨b, off + i, none⟩ = some (.int k n)) :
    RelD W (oldG W).E (.slice (some ⟨b, off, none⟩) ns.length cap) (.slice 1 (ns.map (D.int k))) := by
  cases ns with
  | nil => exact .snil _ _ _
  | cons n ns =>
    obtain ⟨e, vals, hE, hle, hna, hcell⟩ := cellsRel_ints (W := W) (b := b) (off := off) (k := k) (n :: ns) (by simp) h
    have hf := flat_ints (n :: ns) k
    have := RelD.scons (w := W) (E := (oldG W).E) b off cap 1 e ((n :: ns).map (D.int k)) vals (by simp) (by simpa using hc) (fun x hx => by obtain ⟨m, _, rfl⟩ := List.mem_map.1 hx; rfl)
      (fun x hx => by rw [hf] at hx; obtain ⟨m, _, rfl⟩ := List.mem_map.1 hx; rfl) hE (by simpa using hle) (fun i x hx => by rw [hf] at hx; exact (hcell i x hx).1) (fun i x hx => by rw [hf] at hx; exact (hcell i x hx).2)
    simpa using this

section
variable {P : Program} {W : World} {M : Mach}

/-- A law that returns true over data returns true, and what stood stays. -/
theorem law_calls (hM : MachOK P W M) {f : Nat} {vs : List V} {args : Array Value} (hgl : ∀ i x, M.glob i = some x → CellsRel W (oldG W).E i 0 x.cells) (h : C M f vs = some (.d (.bool true))) (hn : args.size = vs.length)
    (hargs : ∀ (i : Nat) x, vs[i]? = some x → ∃ d, x = .d d ∧ RelD W (oldG W).E (args.getD i undef) d) : Calls P f args W fun e W' => e = .returned (.bool true) ∧ Below W.heap.size W W' := by
  refine (C_sound hM h W (oldG W) args hn (oldG_base hgl) (fun b hb k hk => ?_) (fun i x hx => ?_)).mono fun e W' ⟨v, G', he, _, hv, _, hb⟩ => ?_
  · obtain ⟨e, he⟩ := oldG_com hb
    rw [he] at hk; cases hk
  · obtain ⟨d, rfl, hd⟩ := hargs i x hx
    exact ⟨rfl, hd⟩
  · have := relD_bool hv
    exact ⟨by rw [he, this], hb.below⟩

section
variable {H : Type} {enc : TypeId × Value → H}
theorem trodAll_stays (hl : laidOutB P = true) {W' : World} {sp : Nat → Bool} : ∀ {ts : List TypeId} {vs : List Value} {ds : List (DataW H)} {ps : List MemPlace}, (ts.all fun t => P.readableRec t && decide (t < P.types.size)) = true →
    DataW.TrodAll enc P W 0 (fun _ => true) true ts vs ds ps → (∀ p ∈ ps, W.sameAt W' p) → (∀ p ∈ ps, sp p.block = true) → DataW.TrodAll enc P W' 0 sp true ts vs ds ps
  | [], [], [], ps, _, h, _, _ => h
  | [], _ :: _, _, _, _, h, _, _ => by cases h
  | [], [], _ :: _, _, _, h, _, _ => by cases h
  | _ :: _, [], _, _, _, h, _, _ => by cases h
  | _ :: _, _ :: _, [], _, _, h, _, _ => by cases h
  | t :: ts, v :: vs, d :: ds, ps, ht, ⟨p, q, h1, h2, e⟩, hs, hp => by
    simp only [List.all_cons, Bool.and_eq_true, decide_eq_true_eq] at ht
    subst e
    exact ⟨p, q, WideElems.Trod_stays hl ht.1.1 ht.1.2 h1 (fun x hx => hs x (by simp [hx])) (fun x hx => hp x (by simp [hx])),
      trodAll_stays hl ht.2 h2 (fun x hx => hs x (by simp [hx])) (fun x hx => hp x (by simp [hx])), rfl⟩

/-- What the row asks of a law's call. -/
theorem law_post {f : Func} {fno : Nat} {s : ChangeSpec} {tb : TypeId} {args : Array Value} {ds gs : List (DataW H)} {before : List MemPlace} (hl : laidOutB P = true) (hvars : s.vars = [])
    (hW : DataW.Whole enc P f.params.toList s.vars false W args.toList ds gs before) (hts : (f.params.toList.all fun t => P.readableRec t && decide (t < P.types.size)) = true)
    (hr : f.resultTypes = #[tb]) (htb : P.underlying tb = some .bool) (hspec : s.fn H (ds ++ gs) = { results := [.lit (.bool true)], args := ds })
    (h : Calls P fno args W fun e W' => e = .returned (.bool true) ∧ Below W.heap.size W W') :
    Calls P fno args W fun e W' => ∃ v, e = .returned v ∧ s.post enc P f false true false false W args v W' := by
  refine h.mono fun e W' ⟨he, hb⟩ => ?_
  have hlt := hW.lt
  have hW' := hW
  obtain ⟨p, q, hA, hV, hpq, hfz, hnd⟩ := hW
  have hV2 : DataW.TrodVars enc P W (fun _ => true) [] gs q := by rw [hvars] at hV; exact hV
  obtain ⟨hgs, hq⟩ := trodVars_none hV2
  subst hgs; subst hq
  have hold : ∀ x ∈ before, (fun b => decide (b < W.heap.size)) x.block = true := fun x hx => by simpa using hlt x hx
  have args : ∀ sp : Nat → Bool, (∀ x ∈ before, sp x.block = true) → DataW.TrodAll enc P W' 0 sp true f.params.toList args.toList ds p := fun sp hsp =>
    trodAll_stays hl hts hA (fun x hx => hb.same (hlt x (by rw [hpq]; simp [hx]))) (fun x hx => hsp x (by rw [hpq]; simp [hx]))
  have res : ∀ (b : Nat) (sp : Nat → Bool) (hd : Bool), DataW.TrodAll enc P W' b sp hd f.resultTypes.toList ((Value.bool true).resultList f.resultTypes.size) [.lit (.bool true)] [] := fun b sp hd => by
    rw [hr]; exact trodAll_mk1 (shut_bool htb _)
  have hnil : ∀ sp : Nat → Bool, DataW.TrodVars enc P W' sp s.vars (s.fn H (ds ++ [])).vars [] := fun sp => by rw [hspec, hvars]; rfl
  refine ⟨_, he, ds, [], before, [], p, [], hW', ?_, ?_, hnil _, World.keptBut_mono (fun x hx => ⟨hx, ?_⟩) (hb.frame (· ∈ before)), fun _ => ?_⟩
  · rw [hspec]; exact res _ _ _
  · rw [hspec]; exact args _ hold
  · rw [hpq] at hx
    exact Or.inr (List.mem_append.1 hx)
  · refine ⟨ok_one hr rfl (okWide_bool_mk htb _), [.lit (.bool true)] ++ ds, _, p, ⟨p, [], ?_, hnil _, by simp, ?_, ?_⟩, fun x hx _ => by rw [hpq]; simpa using hx⟩
    · skip
      have := trodAll_append (args _ (fun _ _ => rfl)) (res 0 (fun _ => true) true)
      simpa using this
    · intro b off hp
      have hm : MemPlace.cell b off ∈ before := by rw [hpq]; simpa using hp
      exact (hb.frozen (p := ⟨b, off, none⟩) (hlt _ hm)).trans (hfz b off hm)
    · intro ha; cases ha
end
end

theorem get_mem {α : Type} : ∀ {l : List (Nat × α)} {s : Nat} {x : α}, get l s = some x → (s, x) ∈ l
  | [], _, _, h => by simp [get] at h
  | (k, v) :: r, s, x, h => by
    simp only [get] at h
    split at h
    case isTrue hs => subst hs; cases h; simp
    case isFalse => exact List.mem_cons_of_mem _ (get_mem h)

/-! ### The package's variables -/
section
variable {P : Program} {W : World}

theorem laidVars_mem : ∀ {l : List (String × DataW Unit)} {ps : List MemPlace}, DataW.LaidVars P W l ps → ∀ n d, (n, d) ∈ l →
    ∃ g t cs fuel p, P.globalNamed n = some g ∧ (P.globals[g]?).map (·.type) = some t ∧ W.var? P n = some cs ∧ DataW.trod (fun _ => ()) P W 0 (fun _ => true) false fuel t cs.toList = some (d, p)
  | [], _, _, n, d, h => by simp at h
  | (n1, d1) :: r, ps, h, n, d, hm => by
    obtain ⟨g, t, cs, fuel, p, q, h1, h2, h3, h4, h5, _⟩ := h
    rcases List.mem_cons.1 hm with e | e
    · cases e; exact ⟨g, t, cs, fuel, p, h1, h2, h3, h4⟩
    · exact laidVars_mem h5 n d e

/-- A row of cells: those of a variable. -/
theorem cells_ints {g : Nat} {name : String} {cs : Array Value} {k : IntKind} {ns : List Int} (hg : P.globalNamed name = some g) (hv : W.var? P name = some cs) (hc : cs.toList = ns.map (Value.int k)) (h0 : ns ≠ []) :
    CellsRel W (oldG W).E g 0 (ns.map (D.int k)) := by
  refine cellsRel_ints ns h0 fun i n hn => ?_
  rw [Nat.zero_add, World.var?_cell hg hv i, ← Array.getElem?_toList, hc, List.getElem?_map, hn]
  rfl

/-- A variable that is an array of whole numbers. -/
theorem laid_ints {l : List (String × DataW Unit)} {name : String} {g : Nat} {t e : TypeId} {n : Nat} {k : IntKind} {zs : List Int} (h : laidMet P l W) (hm : (name, Lib.tabData k zs) ∈ l) (hg : P.globalNamed name = some g)
    (hty : (P.globals[g]?).map (·.type) = some t) (ht : P.underlying t = some (.array n e)) (he : P.underlying e = some (.int k)) (hce : P.cellsOf e = 1) (hct : P.cellsOf t = n) (h0 : zs ≠ []) : CellsRel W (oldG W).E g 0 (zs.map (D.int k)) := by
  obtain ⟨ps, hl, _⟩ := h
  obtain ⟨g', t', cs, fuel, p, h1, h2, h3, h4⟩ := laidVars_mem hl _ _ hm
  obtain rfl := Option.some.inj (hg.symm.trans h1)
  obtain rfl := Option.some.inj (hty.symm.trans h2)
  exact cells_ints hg h3 (Lib.cells_of_tab ht he hce hct h4) h0

def pairsOf (k : IntKind) (ps : List (Int × Int)) : DataW Unit := .agg (ps.map fun p => .agg [.lit (.int k p.1), .lit (.int k p.2)])
def flatPairs (ps : List (Int × Int)) : List Int := ps.flatMap fun p => [p.1, p.2]

theorem chunks {k : IntKind} : ∀ (ps : List (Int × Int)) (cs : List Value), cs.length = 2 * ps.length → (∀ i, (hi : i < ps.length) → (cs.drop (i * 2)).take 2 = [.int k (ps[i]'hi).1, .int k (ps[i]'hi).2]) → cs = (flatPairs ps).map (Value.int k)
  | [], cs, hl, _ => by
    have : cs = [] := List.eq_nil_of_length_eq_zero (by simpa using hl)
    subst this; rfl
  | p :: ps, cs, hl, h => by
    match cs, hl with
    | a :: b :: cs, hl =>
      have h0 := h 0 (by simp)
      simp at h0
      have := chunks ps cs (by simp at hl; omega) fun i hi => by
        have := h (i + 1) (by simpa using hi)
        rw [show (i + 1) * 2 = i * 2 + 1 + 1 by omega] at this
        simpa using this
      rw [this, h0.1, h0.2]
      simp [flatPairs]

/-- A variable that is an array of structs of two whole numbers. -/
theorem laid_pairs {l : List (String × DataW Unit)} {name : String} {g : Nat} {t e : TypeId} {f0 f1 : Field} {n : Nat} {k : IntKind} {zs : List (Int × Int)} (h : laidMet P l W) (hm : (name, pairsOf k zs) ∈ l) (hg : P.globalNamed name = some g)
    (hty : (P.globals[g]?).map (·.type) = some t) (ht : P.underlying t = some (.array n e)) (he : P.underlying e = some (.struct #[f0, f1])) (ce : P.cellsOf e = 2) (ct : P.cellsOf t = 2 * n) (o0 : f0.offset = 0) (o1 : f1.offset = 1)
    (c0 : P.cellsOf f0.type = 1) (c1 : P.cellsOf f1.type = 1) (t0 : P.underlying f0.type = some (.int k)) (t1 : P.underlying f1.type = some (.int k)) (h0 : zs ≠ []) : CellsRel W (oldG W).E g 0 ((flatPairs zs).map (D.int k)) := by
  obtain ⟨ps, hl, _⟩ := h
  obtain ⟨g', t', cs, fuel, p, h1, h2, h3, h4⟩ := laidVars_mem hl _ _ hm
  obtain rfl := Option.some.inj (hg.symm.trans h1)
  obtain rfl := Option.some.inj (hty.symm.trans h2)
  refine cells_ints hg h3 ?_ (by cases zs with | nil => exact absurd rfl h0 | cons z zs => simp [flatPairs])
  obtain ⟨xs, m, _, hx, hlen, hxl, hel⟩ := DataW.trod_array ht h4
  have hxs : xs.map (·.1) = zs.map fun p => (.agg [.lit (.int k p.1), .lit (.int k p.2)] : DataW Unit) := by
    have := congrArg Prod.fst hx
    simp only [pairsOf, DataW.agg.injEq] at this
    exact this.symm
  have hzl : zs.length = n := by
    have := congrArg List.length hxs
    simp at this; omega
  refine chunks zs cs.toList (by rw [hlen, ct, hzl]) fun i hi => ?_
  have hE := hel i (by omega)
  rw [ce] at hE
  have hxi : i < xs.length := by omega
  rw [List.getElem?_eq_getElem hxi] at hE
  obtain ⟨ys, m2, _, hy, hyl, hys, hf⟩ := DataW.trod_struct he hE
  have hdat : xs[i].1 = .agg [.lit (.int k (zs[i]'hi).1), .lit (.int k (zs[i]'hi).2)] := by
    have := congrArg (·[i]?) hxs
    simpa [hxi, hi] using this
  have hA := hf 0 f0 rfl
  have hB := hf 1 f1 rfl
  rw [o0, c0] at hA
  rw [o1, c1] at hB
  match ys, hys with
  | [y0, y1], _ =>
    simp only [List.getElem?_cons_zero, List.getElem?_cons_succ] at hA hB
    obtain ⟨z0, e0, ez0, _⟩ := DataW.trod_int t0 hA
    obtain ⟨z1, e1, ez1, _⟩ := DataW.trod_int t1 hB
    rw [hy] at hdat
    simp only [List.map_cons, List.map_nil, DataW.agg.injEq, List.cons.injEq, and_true] at hdat
    rw [ez0, ez1] at hdat
    simp only [DataW.lit.injEq, Lit.int.injEq, true_and] at hdat
    rw [hdat.1] at e0
    rw [hdat.2] at e1
    rw [ce] at hyl
    generalize (cs.toList.drop (i * 2)).take 2 = r at *
    match r, hyl with
    | [a, b], _ =>
      simp at e0 e1
      rw [e0, e1]
end
end Go.Vi
