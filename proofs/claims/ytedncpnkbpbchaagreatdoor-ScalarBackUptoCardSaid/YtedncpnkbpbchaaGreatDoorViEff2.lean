/-
  The verified interpreter: make, iterators, stores, append, moves.
-/
import Derived.Test.YtedncpnkbpbchaaGreatDoorViEff
set_option linter.unusedVariables false
set_option linter.unusedSimpArgs false
namespace Go.Vi
open Go.RowKit

section
variable {P : Program} {gl : Nat → Option D} {W0 w0 : World} {G0 : Gh} {N : Nat} {G : Gh} {Bf : Nat → Nat} {rs : RS} {a : Act} {w : World} {cf : Nat → List V → Option V} {dst : Option Nat} {e : Eff}

theorem flat_replicate (n : Nat) (z : D) : flat (List.replicate n z) = (List.replicate n z.cells).flatten := by
  induction n with
  | zero => rfl
  | succ n ih => simp only [flat, List.replicate_succ, List.flatMap_cons, List.flatten_cons] at ih ⊢; rw [ih]

theorem flat_replicate_get {z : D} (h0 : 0 < z.cells.length) : ∀ (n k : Nat) (x : D), (flat (List.replicate n z))[k]? = some x → k < n * z.cells.length ∧ z.cells[k % z.cells.length]? = some x
  | 0, k, x, h => by simp [flat] at h
  | n + 1, k, x, h => by
    have hfc : flat (List.replicate (n + 1) z) = z.cells ++ flat (List.replicate n z) := by rw [List.replicate_succ]; rfl
    rw [hfc, List.getElem?_append] at h
    have hm : (n + 1) * z.cells.length = n * z.cells.length + z.cells.length := Nat.succ_mul ..
    split at h
    case isTrue hlt => exact ⟨by omega, by rw [Nat.mod_eq_of_lt hlt]; exact h⟩
    case isFalse hge =>
      obtain ⟨h1, h2⟩ := flat_replicate_get h0 n _ x h
      exact ⟨by omega, by rw [Nat.mod_eq_sub_mod (by omega)]; exact h2⟩

theorem make_sound (h : Sim gl W0 w0 G0 N G Bf rs a w) (hn : ∀ b, b < w0.heap.size → ∀ k, G0 b ≠ .box k) {o : Oper} (hd : ∀ d, o.dst = some d → d < N) {zero : D} {bytes : Nat} {l c : Opd} (hc : chkOp P o.op (.make zero bytes l c) = true) (he : eff gl cf o.dst rs (.make zero bytes l c) = some e) : EffOK P gl W0 w0 G0 N rs a w o e := by
  obtain ⟨d, op, ty, pos, after, guard⟩ := o
  cases op <;> try (simp only [chkOp, Bool.false_eq_true] at hc; done)
  case makeSlice t l' c' =>
    simp only [chkOp, Bool.and_eq_true] at hc
    obtain ⟨⟨hl, hcc⟩, h3⟩ := hc
    split at h3
    case h_2 => cases h3
    case h_1 el hu =>
      cases hie : P.info? el with
      | none => rw [hie] at h3; cases h3
      | some ie =>
        simp only [hie, Bool.and_eq_true, beq_iff_eq, decide_eq_true_eq] at h3
        obtain ⟨⟨⟨hby, hsz⟩, h0⟩, hz⟩ := h3
        cases hzz : ie.zero with
        | none => simp [hzz] at hz
        | some z =>
          simp only [hzz] at hz
          obtain ⟨z1, z2, z3⟩ := constDs_row (w := w) (E := G.E) hz
          simp only [eff] at he
          split at he
          case h_2 => cases he
          case h_1 ln cn hel hec =>
            simp only [Option.ite_none_right_eq_some, Option.some.injEq] at he
            obtain ⟨⟨b1, b2, b3, b4⟩, rfl⟩ := he
            obtain ⟨kl, hvl⟩ := h.evI hl hel
            obtain ⟨kc, hvc⟩ := h.evI hcc hec
            have hrun := run_make (P := P) w t el ie z hu hie hzz kl kc ln cn b1 b2 (by rw [hby]; exact b3) b4
            have hown := owned h hn hd (vs := madeCells z.cells (cn.toNat * ie.size)) (T := el) (sz := zero.cells.length) (cap := cn.toNat) (xs := List.replicate ln.toNat zero)
              (fun x hx => by rw [List.eq_of_mem_replicate hx]) (fun x hx => by
                obtain ⟨k, hk⟩ := mem_flat_get hx
                exact z2 x (List.mem_of_getElem? (flat_replicate_get (by omega) _ k x hk).2))
              (by simp; omega) (by simp only [maxLen]; omega) (by rw [size_madeCells, hsz]) (fun k x hk => by
                obtain ⟨g1, g2⟩ := flat_replicate_get (by omega) _ k x hk
                have hle : ln.toNat * zero.cells.length ≤ cn.toNat * zero.cells.length := Nat.mul_le_mul_right _ (by omega)
                have hk2 : k < cn.toNat * ie.size := by rw [hsz]; omega
                have hmod : k % zero.cells.length < zero.cells.length := Nat.mod_lt _ (by omega)
                have e1 : (madeCells z.cells (cn.toNat * ie.size)).getD k undef = z.cells.getD (k % zero.cells.length) undef := by
                  rw [Array.getD_eq_getD_getElem?, Array.getD_eq_getD_getElem?, madeCells, Array.getElem?_map, Array.getElem?_range]
                  rw [if_pos hk2]
                  simp only [Option.map_some, Option.getD_some, z1]
                  rw [getElem!_pos z.cells (k % zero.cells.length) (by rw [z1]; exact hmod), Array.getElem?_eq_getElem (by rw [z1]; exact hmod)]
                  rfl
                rw [e1]
                exact z3 _ x g2)
            simp only [List.length_replicate] at hown
            refine ⟨_, _, _, _, .inl ?_, hown⟩
            simp [execOp, hvl, hvc, hrun]

theorem rng_sound (h : Sim gl W0 w0 G0 N G Bf rs a w) (hn : ∀ b, b < w0.heap.size → ∀ k, G0 b ≠ .box k) {o : Oper} (hd : ∀ d, o.dst = some d → d < N) {x : Opd} (hc : chkOp P o.op (.rng x) = true) (he : eff gl cf o.dst rs (.rng x) = some e) : EffOK P gl W0 w0 G0 N rs a w o e := by
  obtain ⟨d, op, ty, pos, after, guard⟩ := o
  cases op <;> try (simp only [chkOp, Bool.false_eq_true] at hc; done)
  case range t y =>
    simp only [chkOp, Bool.and_eq_true] at hc
    obtain ⟨h1, h2⟩ := hc
    split at h2
    case h_2 => cases h2
    case h_1 hu =>
      simp only [eff] at he
      split at he
      case h_2 => cases he
      case h_1 s hx =>
        cases he
        have hv := relD_str (h.evD h1 hx)
        have hsim := h.alloc (dst := d) hn hd (w1 := w) (ob := .stringIter ⟨s.toArray⟩ 0) (st := .box (d.getD 0)) (Bf' := Bf) (bx' := rs.bx) (x := .iter s 0) (v := .pointer (some ⟨w.heap.size, 0, none⟩)) rfl rfl rfl rfl
          (fun d' hd' => by
            subst hd'
            exact ⟨w.heap.size, rfl, by have := heap_alloc_new w (.stringIter ⟨s.toArray⟩ 0); exact this, by simp [upd]⟩)
          (fun _ _ => rfl) (fun s cs hs => .inl hs) (fun _ h => h) (fun _ _ _ hx => by cases hx)
        refine ⟨_, _, _, _, .inl ?_, hsim⟩
        simp [execOp, hv, Instr.range, run_underlying hu]

theorem setAt_row {E : Nat → Option Nat} {vs : Array Value} {cs : List D} {us : Array Value} {ds : List D} {off : Nat} (h : RowRel w E vs cs) (g : RowRel w E us ds) (hle : off + ds.length ≤ cs.length) :
    RowRel w E (vs.toList.take off ++ us.toList ++ vs.toList.drop (off + us.toList.length)).toArray (setAt cs off ds) := by
  obtain ⟨h1, h2, h3⟩ := h
  obtain ⟨g1, g2, g3⟩ := g
  obtain ⟨s1, s2⟩ := setAt_spec ds cs off hle
  refine ⟨by simp [s1, g1, h1]; omega, fun x hx => ?_, fun k x hk => ?_⟩
  · obtain ⟨k, hk⟩ := List.mem_iff_getElem?.1 hx
    rw [s2] at hk
    split at hk
    · exact g2 x (List.mem_of_getElem? hk)
    · exact h2 x (List.mem_of_getElem? hk)
  · have hkl := lt_of_get hk
    rw [s2] at hk
    have htl : (vs.toList.take off).length = off := by simp; omega
    have hul : us.toList.length = ds.length := by simp [g1]
    rw [Array.getD_eq_getD_getElem?, List.getElem?_toArray, List.append_assoc]
    split at hk
    case isTrue hc =>
      rw [List.getElem?_append_right (by omega), htl, List.getElem?_append_left (by omega), Array.getElem?_toList]
      have := g3 _ x hk
      rwa [Array.getD_eq_getD_getElem?] at this
    case isFalse hc =>
      have := h3 _ x hk
      rw [Array.getD_eq_getD_getElem?] at this
      by_cases hk2 : k < off
      · rw [List.getElem?_append_left (by omega), List.getElem?_take, if_pos hk2, Array.getElem?_toList]; exact this
      · rw [List.getElem?_append_right (by omega), htl, List.getElem?_append_right (by omega), List.getElem?_drop, hul, show off + ds.length + (k - off - ds.length) = k by omega, Array.getElem?_toList]; exact this

theorem store_sound (h : Sim gl W0 w0 G0 N G Bf rs a w) (hn : ∀ b, b < w0.heap.size → ∀ k, G0 b ≠ .box k) {o : Oper} (hd : ∀ d, o.dst = some d → d < N) {n : Nat} {x v : Opd} (hc : chkOp P o.op (.store n x v) = true) (he : eff gl cf o.dst rs (.store n x v) = some e) : EffOK P gl W0 w0 G0 N rs a w o e := by
  obtain ⟨d, op, ty, pos, after, guard⟩ := o
  cases op <;> try (simp only [chkOp, Bool.false_eq_true] at hc; done)
  case store t y u =>
    simp only [chkOp, Bool.and_eq_true, beq_iff_eq] at hc
    obtain ⟨⟨hsz, h1⟩, h2⟩ := hc
    obtain ⟨inf, hi, hi0⟩ := Option.map_eq_some_iff.1 hsz
    simp only [eff] at he
    split at he
    case h_2 => cases he
    case h_1 s o' dd hx hv =>
      simp only [Option.bind_eq_some_iff, Option.ite_none_right_eq_some, Option.some.injEq] at he
      obtain ⟨cs, hb, ⟨hl, hle⟩, rfl⟩ := he
      obtain ⟨hadr, _⟩ := opd_lref h h1 hx
      have hrow := (h.evD h2 hv).row
      obtain ⟨hG, vs, T, hg, hs, hna, hr⟩ := h.bx s cs hb
      have hul : (a.eval u).cells.toList.length = dd.cells.length := by simp [hrow.1]
      have hst := run_storeCells_at P (Bf s) o' T (a.eval u).cells.toList 0 vs w hg (by simp only [hul, hs]; omega) (RowRel.one (by simpa using hrow))
      simp only [Nat.add_zero] at hst
      generalize hnew : (vs.toList.take o' ++ (a.eval u).cells.toList ++ vs.toList.drop (o' + (a.eval u).cells.toList.length)).toArray = nv at hst
      have hheap : (w.setRow (Bf s) nv).heap[Bf s]? = some (.cells nv T (0, 0)) := setRow_heap w _ vs nv T _ hg
      have ev : Evo (fun b => b = Bf s) w G (w.setRow (Bf s) nv) G :=
        ⟨rfl, rfl, rfl, by simp, fun b hb hne => ⟨rfl, setRow_other w _ b nv hne⟩, fun b hb hbg => .inr ⟨s, by rw [show b = Bf s from hbg]; exact hG⟩, fun b hb => h.base.fresh b (by simpa using hb)⟩
      have m := ev.mono h.base.fresh
      have hrow2 := setAt_row (off := o') (⟨hs, hna, hr⟩ : RowRel w G.E vs cs) hrow (by omega)
      rw [hnew] at hrow2
      refine ⟨undef, _, G, Bf, .inr ⟨?_, rfl⟩, h.lay (dst := d) ev hn hd (fun s' y' hy' => ?_) (fun s' cs' hs' => ?_) (fun s1 s2 o2 hs1 => ?_)⟩
      · have hsize : (a.eval u).cells.size = inf.size := by rw [hrow.1, hl, hi0]
        simp [execOp, hadr, Instr.storeAt, Instr.sureAddr, storeVar, sizeOf, typeInfo, hi, hsize, hst]
      · rcases put_cases hy' with ⟨_, g2⟩ | ⟨g1, g2⟩
        · cases g2
        · refine .inr ⟨g1, (h.env s' y' g2).evo ev h.base.fresh (fun b e hb hk => ?_) (fun b l p hb hb2 hk => ?_) fun _ _ _ => rfl⟩
          · rw [show b = Bf s from hk, hG] at hb; cases hb
          · rw [show b = Bf s from hk, hg] at hb2; cases hb2
      · simp only [applyEff] at hs'
        by_cases hss : s' = s
        · subst hss
          simp only [upd, if_true, Option.some.injEq] at hs'
          subst hs'
          exact ⟨hG, nv, T, hheap, hrow2.1, hrow2.2.1, fun k x hk => (hrow2.2.2 k x hk).mono m⟩
        · simp only [upd, if_neg hss] at hs'
          refine (h.bx s' cs' hs').evo ev h.base.fresh fun hk => ?_
          have := (h.bx s' cs' hs').1
          rw [show Bf s' = Bf s from hk, hG] at this
          cases this
          exact hss rfl
      · simp only [applyEff] at hs1 ⊢
        rcases put_cases hs1 with ⟨_, g2⟩ | ⟨g1, g2⟩
        · cases g2
        · have := h.lref s1 s2 o2 g2
          by_cases hss : s2 = s
          · subst hss; simp [upd]
          · simpa [upd, hss] using this

theorem nxt_sound (h : Sim gl W0 w0 G0 N G Bf rs a w) (hn : ∀ b, b < w0.heap.size → ∀ k, G0 b ≠ .box k) {o : Oper} (hd : ∀ d, o.dst = some d → d < N) {s : Nat} (hc : chkOp P o.op (.nxt s) = true) (he : eff gl cf o.dst rs (.nxt s) = some e) : EffOK P gl W0 w0 G0 N rs a w o e := by
  obtain ⟨d, op, ty, pos, after, guard⟩ := o
  cases op <;> try (simp only [chkOp, Bool.false_eq_true] at hc; done)
  case next y isS =>
    cases y <;> try (simp only [chkOp, Bool.false_eq_true] at hc; done)
    cases isS <;> try (simp only [chkOp, Bool.false_eq_true] at hc; done)
    case tmp.true t =>
      simp only [chkOp, beq_iff_eq] at hc
      subst hc
      simp only [eff] at he
      split at he
      case h_2 => cases he
      case h_1 l p hx =>
        obtain ⟨r, hv, hr, hG⟩ := h.env t _ hx
        split at he
        case isTrue hlt =>
          cases he
          generalize hdec : Utf8.decode ⟨l.toArray⟩ p = dc
          have hrl := lt_of_heap hr
          have hset : ∀ (ob : Obj), ({ w with heap := w.heap.setIfInBounds r ob } : World).heap[r]? = some ob := fun ob => by simp [hrl]
          have ev : Evo (fun b => b = r) w G { w with heap := w.heap.setIfInBounds r (.stringIter ⟨l.toArray⟩ (p + dc.2)) } G :=
            ⟨rfl, rfl, rfl, by simp, fun b hb hne => ⟨rfl, by simp [Array.getElem?_setIfInBounds_ne (Ne.symm hne)]⟩, fun b hb hbg => .inr ⟨t, by rw [show b = r from hbg]; exact hG⟩, fun b hb => h.base.fresh b (by simpa using hb)⟩
          refine ⟨.tuple #[.bool true, .int .i64 p, .int .i32 dc.1], _, G, Bf, .inl ?_, h.lay (dst := d) ev hn hd (fun s' y' hy' => ?_) (fun s' cs' hs' => ?_) (fun s1 s2 o2 hs1 => ?_)⟩
          · simp only [execOp, Act.eval, hv, Sem.run_bind, Instr.next, getObj, Sem.run, hr, Result.andThen_ok, Sem.run_pure, Sem.run_ite, size_mk, hlt, if_true, hdec, setObj]
            rfl
          · rcases put_cases hy' with ⟨g1, g2⟩ | ⟨g1, g2⟩
            · cases g2
              refine .inl ⟨g1, #[.bool true, .int .i64 p, .int .i32 dc.1], rfl, rfl, fun k x hk => ?_⟩
              rcases k with _ | _ | _ | k
              · simp at hk; subst hk; exact .bool _
              · simp at hk; subst hk; exact .int _ _
              · simp at hk; subst hk; exact .int _ _
              · simp at hk
            · refine .inr ⟨g1, ?_⟩
              simp only [setAll] at g2
              by_cases hst : s' = t
              · subst hst
                simp only [upd, if_true, Option.some.injEq] at g2
                subst g2
                exact ⟨r, hv, hset _, hG⟩
              · simp only [upd, if_neg hst] at g2
                refine (h.env s' y' g2).evo ev h.base.fresh (fun b e hb hk => ?_) (fun b l' p' hb hb2 hk => ?_) fun _ _ _ => rfl
                · rw [show b = r from hk, hG] at hb; cases hb
                · rw [show b = r from hk, hG] at hb; cases hb; exact hst rfl
          · refine (h.bx s' cs' hs').evo ev h.base.fresh fun hk => ?_
            obtain ⟨_, vs, T, g1, _⟩ := h.bx s' cs' hs'
            rw [show Bf s' = r from hk, hr] at g1
            cases g1
          · rcases put_cases hs1 with ⟨_, g2⟩ | ⟨g1, g2⟩
            · cases g2
            · simp only [setAll] at g2
              by_cases hst : s1 = t
              · subst hst; simp [upd] at g2
              · simp only [upd, if_neg hst] at g2
                exact h.lref s1 s2 o2 g2
        case isFalse hlt =>
          cases he
          refine EffOK.of_pure h hn hd (.mk (v := .tuple #[.bool false]) ?_ (fun _ => ⟨#[.bool false], rfl, rfl, fun k x hk => ?_⟩) (fun _ _ hq => by cases hq))
          · simp only [execOp, Act.eval, hv, Sem.run_bind, Instr.next, getObj, Sem.run, hr, Result.andThen_ok, Sem.run_pure, Sem.run_ite, size_mk, hlt, if_false]
          · cases k with
            | zero => simp at hk; subst hk; exact .bool _
            | succ k => simp at hk

theorem constOK_own {c : Value} {sz : Nat} {xs : List D} (h : constOK c (.own sz xs) = true) : c = .slice none 0 0 := by
  cases c <;> simp [constOK] at h
  case slice A n cc => rcases A with _ | A <;> rcases n with _ | n <;> rcases cc with _ | cc <;> simp_all [constOK]

/-- What is taken out of a slot leaves the slice to be read. -/
def leave (x : Opd) (sz : Nat) (xs : List D) : List (Nat × V) :=
  match x with
  | .t s => [(s, .d (.slice sz xs))]
  | _ => []

/-- A tail leaves its slot; something is laid into the destination. -/
theorem Sim.moved (h : Sim gl W0 w0 G0 N G Bf rs a w) (hn : ∀ b, b < w0.heap.size → ∀ k, G0 b ≠ .box k) (hd : ∀ d, dst = some d → d < N) {X : Operand} {x : Opd} {sz s : Nat} {xs : List D} {y : V} (ho : opdOK X x = true) (hv : Vi.ev gl rs.env x = some (.own sz xs))
    (hs : OwnRel w G s (a.eval X) sz xs) (hss : ∀ s', x = .t s' → s' = s) {w' : World} {v' : Value} {G' : Gh} {K : Nat → Prop} (hres : SimV w' G' Bf (dst.getD 0) v' y) (hnl : ∀ s' o', y ≠ .lref s' o') (ev : Evo K w G w' G')
    (hK : ∀ b, K b → (∃ e, G b = .own e s) ∧ a.eval X ≠ .slice none 0 0) :
    Sim gl W0 w0 G0 N G' Bf { env := put dst (some y) (setAll rs.env (leave x sz xs)), bx := rs.bx } (a.put dst v') w' := by
  have m := ev.mono h.base.fresh
  have hslot : ∀ u, ¬ (x = .t u) → ∀ b e, G b = .own e u → ¬ K b := fun u hu b e hb hk => by
    obtain ⟨⟨e', he'⟩, hne⟩ := hK b hk
    rw [hb] at he'
    cases he'
    cases X <;> cases x <;> simp [opdOK] at ho
    case tmp.t => exact hu (by rw [hss _ rfl])
    case const.c =>
      simp [Vi.ev] at hv; subst hv
      exact hne (constOK_own ho)
    case global.g => simp [Vi.ev] at hv
  have hbox : ∀ u b l p, G b = .box u → w.heap[b]? = some (.stringIter l p) → ¬ K b := fun u b l p hb _ hk => by
    obtain ⟨⟨e', he'⟩, _⟩ := hK b hk
    rw [hb] at he'; cases he'
  refine h.lay (dst := dst) ev hn hd (fun u z hz => ?_) (fun u cs hu => ?_) (fun u s' o' hu => ?_)
  · rcases put_cases hz with ⟨g1, g2⟩ | ⟨g1, g2⟩
    · cases g2
      subst g1
      exact .inl ⟨rfl, hres⟩
    · refine .inr ⟨g1, ?_⟩
      by_cases hxu : x = .t u
      · subst hxu
        simp only [leave, setAll, upd, if_true, Option.some.injEq] at g2
        subst g2
        have hX : a.eval X = a.tmps.getD u undef := by
          cases X <;> simp [opdOK] at ho
          subst ho; rfl
        rw [← hX]
        exact (OwnRel.read hs).mono m
      · have : setAll rs.env (leave x sz xs) u = rs.env u := by
          cases x <;> simp only [leave, setAll]
          case t t =>
            have : u ≠ t := fun e => hxu (by rw [e])
            simp [upd, this]
        rw [this] at g2
        exact (h.env u z g2).evo ev h.base.fresh (hslot u hxu) (hbox u) fun _ _ _ => rfl
  · refine (h.bx u cs hu).evo ev h.base.fresh fun hk => ?_
    obtain ⟨⟨e', he'⟩, _⟩ := hK _ hk
    rw [(h.bx u cs hu).1] at he'; cases he'
  · rcases put_cases hu with ⟨_, g2⟩ | ⟨_, g2⟩
    · exact absurd (Option.some.inj g2) (hnl s' o')
    · by_cases hxu : x = .t u
      · subst hxu; simp [leave, setAll, upd] at g2
      · have : setAll rs.env (leave x sz xs) u = rs.env u := by
          cases x <;> simp only [leave, setAll]
          case t t =>
            have : u ≠ t := fun e => hxu (by rw [e])
            simp [upd, this]
        rw [this] at g2
        exact h.lref u s' o' g2

/-- Memory has been made; something is laid into the destination. -/
theorem Sim.grown (h : Sim gl W0 w0 G0 N G Bf rs a w) (hn : ∀ b, b < w0.heap.size → ∀ k, G0 b ≠ .box k) (hd : ∀ d, dst = some d → d < N) {y : V} {w' : World} {v' : Value} {G' : Gh} {K : Nat → Prop} (hres : SimV w' G' Bf (dst.getD 0) v' y) (hnl : ∀ s' o', y ≠ .lref s' o')
    (ev : Evo K w G w' G') (hK : ∀ b, ¬ K b) : Sim gl W0 w0 G0 N G' Bf { env := put dst (some y) rs.env, bx := rs.bx } (a.put dst v') w' := by
  refine h.lay (dst := dst) ev hn hd (fun u z hz => ?_) (fun u cs hu => (h.bx u cs hu).evo ev h.base.fresh (hK _)) (fun u s' o' hu => ?_)
  · rcases put_cases hz with ⟨g1, g2⟩ | ⟨g1, g2⟩
    · cases g2
      subst g1
      exact .inl ⟨rfl, hres⟩
    · exact .inr ⟨g1, (h.env u z g2).evo ev h.base.fresh (fun b _ _ => hK b) (fun b _ _ _ _ => hK b) fun _ _ _ => rfl⟩
  · rcases put_cases hu with ⟨_, g2⟩ | ⟨_, g2⟩
    · exact absurd (Option.some.inj g2) (hnl s' o')
    · exact h.lref u s' o' g2

theorem mov_sound (h : Sim gl W0 w0 G0 N G Bf rs a w) (hn : ∀ b, b < w0.heap.size → ∀ k, G0 b ≠ .box k) {o : Oper} (hd : ∀ d, o.dst = some d → d < N) {mv : Bool} {x : Opd} (hc : chkOp P o.op (.mov mv x) = true) (he : eff gl cf o.dst rs (.mov mv x) = some e) : EffOK P gl W0 w0 G0 N rs a w o e := by
  obtain ⟨X, ho, hrun⟩ : ∃ X, opdOK X x = true ∧ (execOp a.eval o).run P w = .ok (.value (a.eval X)) w := by
    obtain ⟨d, op, ty, pos, after, guard⟩ := o
    cases op <;> try (simp only [chkOp, Bool.false_eq_true] at hc; done)
    · exact ⟨_, hc, rfl⟩
    · exact ⟨_, hc, rfl⟩
  simp only [eff] at he
  split at he
  case h_1 s o' hx =>
    cases he
    obtain ⟨hv, hb⟩ := opd_lref h ho hx
    exact EffOK.of_pure h hn hd (.mk hrun (fun _ => hv) (fun s' o2 hq => by cases hq; exact hb))
  case h_2 y hx =>
    cases he
    obtain ⟨s, hs, _⟩ := h.ev ho hx
    exact EffOK.of_pure h hn hd (.mk hrun (fun _ => hs) (fun _ _ hq => by cases hq))
  case h_3 ys hx =>
    cases he
    obtain ⟨s, hs, _⟩ := h.ev ho hx
    exact EffOK.of_pure h hn hd (.mk hrun (fun _ => hs) (fun _ _ hq => by cases hq))
  case h_4 =>
    simp only [Option.map_eq_some_iff] at he
    obtain ⟨p, hp, rfl⟩ := he
    simp only [take] at hp
    split at hp
    case h_1 sz xs hx =>
      cases mv
      · simp only [Bool.false_eq_true, if_false, Option.some.injEq] at hp
        subst hp
        obtain ⟨s, hs, _⟩ := h.ev ho hx
        exact EffOK.of_pure h hn hd (.data hrun (OwnRel.read hs))
      · simp only [if_true, Option.some.injEq] at hp
        subst hp
        obtain ⟨s, hs, hss⟩ := h.ev ho hx
        obtain ⟨G', K, ho2, ev2, hk2⟩ := OwnRel.move (k := o.dst.getD 0) h.base.fresh hs
        exact ⟨_, _, _, _, .inl hrun, h.moved hn hd ho hx hs hss (y := .own sz xs) ho2 (fun _ _ => by simp) ev2 hk2⟩
    case h_2 d hx =>
      simp only [Option.some.injEq] at hp
      subst hp
      obtain ⟨s, hs, _⟩ := h.ev ho hx
      exact EffOK.of_pure h hn hd (.data hrun hs)
    case h_3 => cases hp

theorem app_sound (h : Sim gl W0 w0 G0 N G Bf rs a w) (hn : ∀ b, b < w0.heap.size → ∀ k, G0 b ≠ .box k) {o : Oper} (hd : ∀ d, o.dst = some d → d < N) {str : Bool} {sz bytes : Nat} {x y : Opd} (hc : chkOp P o.op (.app str sz bytes x y) = true) (he : eff gl cf o.dst rs (.app str sz bytes x y) = some e) : EffOK P gl W0 w0 G0 N rs a w o e := by
  obtain ⟨d, op, ty, pos, after, guard⟩ := o
  cases op <;> try (simp only [chkOp, Bool.false_eq_true] at hc; done)
  case call c =>
    obtain ⟨callee, args, argTypes⟩ := c
    cases callee <;> try (simp only [chkOp, Bool.false_eq_true] at hc; done)
    case builtin b =>
      cases b <;> try (simp only [chkOp, Bool.false_eq_true] at hc; done)
      simp only [chkOp] at hc
      split at hc
      case h_2 => cases hc
      case h_1 x' y' t u hargs hts =>
        have ha : args = #[x', y'] := by rw [← Array.toList_inj]; simpa using hargs
        have ht : argTypes = #[t, u] := by rw [← Array.toList_inj]; simpa using hts
        subst ha; subst ht
        simp only [Bool.and_eq_true] at hc
        obtain ⟨⟨h1, h2⟩, h3⟩ := hc
        split at h3
        case h_2 => cases h3
        case h_1 el hu =>
          cases hie : P.info? el with
          | none => rw [hie] at h3; cases h3
          | some ie =>
            simp only [hie, Bool.and_eq_true, beq_iff_eq, decide_eq_true_eq] at h3
            obtain ⟨⟨⟨⟨⟨hsz, h0⟩, hb0⟩, hby⟩, hz⟩, hty⟩ := h3
            obtain ⟨z, hzz, hzs⟩ := Option.map_eq_some_iff.1 hz
            have run : ∀ (xs ys : List D) (news : List Value), ev gl rs.env x = some (.own sz xs) → (P.underlying u = some (.slice el) ∨ P.underlying u = some .string) → Src P w G.E (a.eval y') sz ys news → (xs.length + ys.length) * bytes ≤ 140737488355328 →
                EffOK P gl W0 w0 G0 N rs a w ⟨d, .call { callee := .builtin .append, args := #[x', y'], argTypes := #[t, u] }, ty, pos, after, guard⟩ { val := some (.own sz (xs ++ ys)), sets := leave x sz xs } := by
              intro xs ys news hx hut hsrc hbytes
              obtain ⟨s0, hs0, hss⟩ := h.ev h1 hx
              obtain ⟨v', w', G', K1, hr, ho2, ev2, hk2⟩ := app_core (ty := ty) (k := d.getD 0) h.base.fresh hu hie hzz hsz hby hzs h0 hb0 hut hsrc hs0 hbytes
              have hs := h.moved hn hd h1 hx hs0 hss (y := .own sz (xs ++ ys)) ho2 (fun _ _ => by simp) ev2 hk2
              refine ⟨v', w', G', Bf, .inl ?_, hs⟩
              simp [execOp, resolve, invoke, builtin, hr]
            simp only [eff] at he
            split at he
            case h_1 sz' xs sz'' ys hx hy =>
              simp only [Option.ite_none_right_eq_some, Option.some.injEq] at he
              obtain ⟨⟨rfl, rfl, hbytes⟩, rfl⟩ := he
              simp only [Bool.false_eq_true, if_false, beq_iff_eq] at hty
              subst hty
              have hrel := h.evD h2 hy
              have hsizes : ∀ z ∈ ys, z.cells.length = sz'' := by
                obtain ⟨A, c, _, _, hcell⟩ := relD_slice hrel
                intro z hz
                obtain ⟨_, _, _, hh, _⟩ := hcell (by intro e; rw [e] at hz; cases hz)
                exact hh z hz
              obtain ⟨news, hsrc⟩ := src_slice (P := P) hrel hsizes
              exact run xs ys news hx (.inl hu) hsrc hbytes
            case h_2 sz' xs s hx hy =>
              simp only [Option.ite_none_right_eq_some, Option.some.injEq] at he
              obtain ⟨⟨rfl, rfl, hbytes⟩, rfl⟩ := he
              simp only [if_true, Bool.and_eq_true] at hty
              have hut : P.underlying u = some .string := by
                cases huu : P.underlying u with
                | none => rw [huu] at hty; cases hty.1
                | some du => rw [huu] at hty; cases du <;> first | rfl | (cases hty.1)
              have hv := relD_str (h.evD h2 hy)
              obtain ⟨news, hsrc⟩ := src_str (P := P) (w := w) (E := G.E) s
              rw [← hv] at hsrc
              exact run xs (bytesD s) news hx (.inr hut) hsrc (by simpa [bytesD] using hbytes)
            case h_3 => cases he

/-- Every operation but a call. -/
theorem eff_sound (h : Sim gl W0 w0 G0 N G Bf rs a w) (hn : ∀ b, b < w0.heap.size → ∀ k, G0 b ≠ .box k) {o : Oper} (hd : ∀ d, o.dst = some d → d < N) {so : SOp} (hc : chkOp P o.op so = true) (he : eff gl cf o.dst rs so = some e) (hcall : ∀ f args, so ≠ .call f args) : EffOK P gl W0 w0 G0 N rs a w o e := by
  cases so with
  | mov mv x => exact mov_sound h hn hd hc he
  | pick c x y => exact .of_pure h hn hd (pick_sound h hc he)
  | zbox cs => exact zbox_sound h hn hd hc he
  | box x => exact box_sound h hn hd hc he
  | build z p => exact .of_pure h hn hd (build_sound h hc he)
  | mk sz xs => exact mk_sound h hn hd hc he
  | load n x => exact .of_pure h hn hd (load_sound h hc he)
  | store n x v => exact store_sound h hn hd hc he
  | bin k op x y => exact .of_pure h hn hd (bin_sound h hc he)
  | eqs neg n x y => exact .of_pure h hn hd (eqs_sound h hc he)
  | neg x => exact .of_pure h hn hd (neg_sound h hc he)
  | not x => exact .of_pure h hn hd (not_sound h hc he)
  | cint k x => exact .of_pure h hn hd (cint_sound h hc he)
  | cstr x => exact .of_pure h hn hd (cstr_sound h hc he)
  | faddr off n x => exact .of_pure h hn hd (faddr_sound h hc he)
  | iaddr sz x i => exact .of_pure h hn hd (iaddr_sound h hc he)
  | aaddr len sz n x i => exact .of_pure h hn hd (aaddr_sound h hc he)
  | sidx x i => exact .of_pure h hn hd (sidx_sound h hc he)
  | aidx len sz n x i => exact .of_pure h hn hd (aidx_sound h hc he)
  | app str sz bytes x y => exact app_sound h hn hd hc he
  | len str x => exact .of_pure h hn hd (len_sound h hc he)
  | max2 x y => exact .of_pure h hn hd (max_sound h hc he)
  | make z b l c => exact make_sound h hn hd hc he
  | slcs x lo hi => exact .of_pure h hn hd (slcs_sound h hc he)
  | slc sz x lo hi mx => exact .of_pure h hn hd (slc_sound h hc he)
  | rng x => exact rng_sound h hn hd hc he
  | nxt s => exact nxt_sound h hn hd hc he
  | ext x i => exact .of_pure h hn hd (ext_sound h hc he)
  | call f args => exact absurd rfl (hcall f args)
end
end Go.Vi
