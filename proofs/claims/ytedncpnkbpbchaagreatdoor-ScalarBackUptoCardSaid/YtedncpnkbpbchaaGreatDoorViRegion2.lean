/-
  The verified interpreter: a region's run.
-/
import Derived.Test.YtedncpnkbpbchaaGreatDoorViRegion
set_option linter.unusedVariables false
set_option linter.unusedSimpArgs false
namespace Go.Vi
open Go.RowKit

def guardOK (ops : Array Oper) : Option (Nat × Bool) → Option (Nat × Bool) → Bool
  | none, none => true
  | some (j, want), some (s, want') => want == want' && (ops[j]?).bind (·.dst) == some s
  | _, _ => false
def chkOper (P : Program) (N : Nat) (ops : Array Oper) (o : Oper) (so : SOper) : Bool :=
  o.dst == so.dst && o.dst.all (· < N) && guardOK ops o.guard so.guard && chkOp P o.op so.op
def chkOpers (P : Program) (N : Nat) (ops : Array Oper) : List Oper → List SOper → Bool
  | [], [] => true
  | o :: os, s :: ss => chkOper P N ops o s && chkOpers P N ops os ss
  | _, _ => false
/-- Of each operation those that it comes behind. -/
def depTable (ops : List Oper) : List (List Nat) :=
  ops.foldl (fun acc o => acc ++ [((o.after.toList.filter (Region.binds .any)).flatMap fun e => e.on :: acc.getD e.on []).eraseDups]) []
def closedT (ops : Array Oper) (T : List (List Nat)) : Bool :=
  (List.range ops.size).all fun i => match ops[i]? with
    | some o => (o.after.toList.filter (Region.binds .any)).all (fun e => decide (e.on < i)) && (T.getD i []).all fun j => (o.after.toList.filter (Region.binds .any)).any fun e => e.on == j || (T.getD e.on []).contains j
    | none => false
def pairsOK (sops : List SOper) (T : List (List Nat)) : Bool :=
  (List.range sops.length).all fun i => (List.range i).all fun j => (T.getD i []).contains j || (match sops[j]?, sops[i]? with | some x, some y => indep x y | _, _ => false)
def drawOK (ops : Array Oper) (sops : List SOper) : Bool := closedT ops (depTable ops.toList) && pairsOK sops (depTable ops.toList)

section
variable {P : Program} {gl : Nat → Option D} {W0 w0 : World} {G0 : Gh} {N : Nat} {G : Gh} {Bf : Nat → Nat} {rs : RS} {a : Act} {w : World} {cf : Nat → List V → Option V} {ops : Array Oper} {sops : List SOper}

theorem step_sound (h : Sim gl W0 w0 G0 N G Bf rs a w) (hn : ∀ b, b < w0.heap.size → ∀ k, G0 b ≠ .box k) {i : Nat} {o : Oper} {so : SOper} {rs' : RS} (hi : ops[i]? = some o) (hc : chkOper P N ops o so = true) (hs : step gl cf so rs = some rs')
    (hcf : ∀ f vs r, cf f vs = some r → CallOK P gl W0 f vs r) {K : Act → World → Prop} {Q : Exit → Act → World → Prop} (hK : ∀ G' Bf' a' w', Sim gl W0 w0 G0 N G' Bf' rs' a' w' → K a' w') : wpOp P ops Q i K a w := by
  simp only [chkOper, Bool.and_eq_true, beq_iff_eq] at hc
  obtain ⟨⟨⟨hdst, hN⟩, hg⟩, hop⟩ := hc
  have hd : ∀ d, o.dst = some d → d < N := fun d hd => by rw [hd] at hN; simpa using hN
  simp only [step, Option.map_eq_some_iff] at hs
  obtain ⟨x, hx, rfl⟩ := hs
  rw [← hdst] at hK
  unfold wpOp
  simp only [hi]
  -- the operation is done
  have done : ∀ e, eff gl cf so.dst rs so.op = some e → (∀ G' Bf' a' w', Sim gl W0 w0 G0 N G' Bf' (applyEff o.dst rs e) a' w' → K a' w') → o.wp P a w K Q := by
    intro e he hK
    rw [← hdst] at he
    by_cases hcall : ∃ f args, so.op = .call f args
    · obtain ⟨f, args, hca⟩ := hcall
      rw [hca] at he hop
      exact call_sound h hn hd hop he (fun vs r hr => hcf f vs r hr) hK
    · obtain ⟨v, w', G', Bf', hr, hsim⟩ := eff_sound h hn hd hop he (fun f args hh => hcall ⟨f, args, hh⟩)
      unfold Oper.wp
      rcases hr with hr | ⟨hr, rfl⟩ <;> rw [hr] <;> exact hK _ _ _ _ hsim
  simp only [act] at hx
  cases hog : o.guard with
  | none =>
    cases hsg : so.guard with
    | some p => rw [hog, hsg] at hg; cases hg
    | none =>
      simp only [hsg, Option.map_eq_some_iff] at hx
      obtain ⟨e, he, rfl⟩ := hx
      have : Region.wanted o (yielded ops a.tmps) = true := by simp [Region.wanted, hog]
      rw [if_pos this]
      exact .inl (done e he hK)
  | some p =>
    obtain ⟨j, want⟩ := p
    cases hsg : so.guard with
    | none => rw [hog, hsg] at hg; cases hg
    | some q =>
      obtain ⟨s, want'⟩ := q
      rw [hog, hsg] at hg
      simp only [guardOK, Bool.and_eq_true, beq_iff_eq] at hg
      obtain ⟨rfl, hjs⟩ := hg
      rw [hsg] at hx
      simp only at hx
      have gated : ∀ t, gate want (rs.env s) = some t → Region.wanted o (yielded ops a.tmps) = t := by
        intro t ht
        simp only [gate, Option.bind_eq_some_iff] at ht
        obtain ⟨v, hb, hv⟩ := ht
        have hsim := h.env s v hb
        cases v <;> simp only [gateV] at hv <;> try cases hv
        case d x =>
          cases x <;> simp only [gateD] at hv <;> try cases hv
          case bool b =>
            have hv2 := relD_bool hsim
            have hsz : a.tmps[s]? = some (.bool b) := by
              rw [Array.getD_eq_getD_getElem?] at hv2
              cases hq : a.tmps[s]? with
              | none => rw [hq] at hv2; simp [undef] at hv2
              | some u => rw [hq] at hv2; simp at hv2; rw [hv2]
            have hy : yielded ops a.tmps j = some b := by simp [yielded, hjs, hsz]
            simp only [Region.wanted, hog, hy]
            cases b <;> cases want <;> rfl
        case un =>
          have hy : yielded ops a.tmps j = none := by
            have hv2 : a.tmps.getD s undef = undef := hsim
            rw [Array.getD_eq_getD_getElem?] at hv2
            simp only [yielded, hjs, Option.bind_some]
            cases hq : a.tmps[s]? with
            | none => rfl
            | some u => rw [hq] at hv2; simp at hv2; subst hv2; rfl
          simp only [Region.wanted, hog, hy]
          rfl
      split at hx
      case h_1 ht =>
        simp only [Option.map_eq_some_iff] at hx
        obtain ⟨e, he, rfl⟩ := hx
        rw [if_pos (gated _ ht)]
        exact .inl (done e he hK)
      case h_2 ht =>
        cases hx
        rw [if_neg (by rw [gated _ ht]; simp)]
        exact hK _ _ _ _ (h.pure hn hd (x := some .un) (fun d y _ hy => by cases hy; rfl) (fun _ _ hy => by cases hy))
      case h_3 => cases hx

theorem chkOpers_get : ∀ {os : List Oper} {ss : List SOper}, chkOpers P N ops os ss = true → os.length = ss.length ∧ ∀ (i : Nat) o, os[i]? = some o → ∃ s, ss[i]? = some s ∧ chkOper P N ops o s = true
  | [], [], _ => ⟨rfl, by simp⟩
  | [], _ :: _, h => by simp [chkOpers] at h
  | _ :: _, [], h => by simp [chkOpers] at h
  | o :: os, s :: ss, h => by
    simp only [chkOpers, Bool.and_eq_true] at h
    obtain ⟨h1, h2⟩ := chkOpers_get h.2
    refine ⟨by simp [h1], fun i o' hi => ?_⟩
    cases i with
    | zero => simp at hi; subst hi; exact ⟨s, rfl, h.1⟩
    | succ i => simpa using h2 i o' (by simpa using hi)

/-- Operations by their numbers. -/
def runIdx (gl : Nat → Option D) (cf : Nat → List V → Option V) (sops : List SOper) : List Nat → RS → Option RS
  | [], rs => some rs
  | i :: r, rs => (sops[i]?).bind fun so => (step gl cf so rs).bind (runIdx gl cf sops r)

theorem runOps_idx : ∀ (l pre : List SOper) (rs : RS), runOps gl cf l rs = runIdx gl cf (pre ++ l) (List.range' pre.length l.length) rs
  | [], pre, rs => rfl
  | o :: l, pre, rs => by
    have ih := fun rs => runOps_idx l (pre ++ [o]) rs
    simp only [List.append_assoc, List.singleton_append, List.length_append, List.length_singleton] at ih
    simp only [runOps, List.length_cons, List.range'_succ, runIdx, List.getElem?_append_right (Nat.le_refl _), Nat.sub_self, List.getElem?_cons_zero, Option.bind_some]
    congr 1
    funext rs'
    exact ih rs'

theorem region_sound (h : Sim gl W0 w0 G0 N G Bf rs a w) (hn : ∀ b, b < w0.heap.size → ∀ k, G0 b ≠ .box k) (hc : chkOpers P N ops ops.toList sops = true) (hcf : ∀ f vs r, cf f vs = some r → CallOK P gl W0 f vs r) {Q : Exit → Act → World → Prop} {rsF : RS}
    (hQ : ∀ G' Bf' a' w', Sim gl W0 w0 G0 N G' Bf' rsF a' w' → Q .normal a' w') : ∀ (L : List Nat) (G : Gh) (Bf : Nat → Nat) (rs : RS) (a : Act) (w : World), (∀ i ∈ L, i < ops.size) → Sim gl W0 w0 G0 N G Bf rs a w → runIdx gl cf sops L rs = some rsF → wpOps P ops Q L a w
  | [], G, Bf, rs, a, w, _, hs, hr => by
    simp only [runIdx, Option.some.injEq] at hr
    subst hr
    exact hQ _ _ _ _ hs
  | i :: L, G, Bf, rs, a, w, hL, hs, hr => by
    have hi := hL i (by simp)
    obtain ⟨so, hso, hco⟩ := (chkOpers_get hc).2 i ops[i] (by simp [hi])
    simp only [runIdx, hso, Option.bind_some, Option.bind_eq_some_iff] at hr
    obtain ⟨rs', h1, h2⟩ := hr
    rw [wpOps_cons]
    exact step_sound hs hn (by simp [hi]) hco h1 hcf fun G' Bf' a' w' hs' => region_sound h hn hc hcf hQ L G' Bf' rs' a' w' (fun j hj => hL j (by simp [hj])) hs' h2

/-- An operation that is free comes to the front. -/
theorem runIdx_front {i : Nat} : ∀ (L1 L2 : List Nat) (rs rsF : RS), (∀ j ∈ L1, ∃ x y, sops[j]? = some x ∧ sops[i]? = some y ∧ indep x y = true) → runIdx gl cf sops (L1 ++ i :: L2) rs = some rsF →
    ∃ y rs1, sops[i]? = some y ∧ step gl cf y rs = some rs1 ∧ runIdx gl cf sops (L1 ++ L2) rs1 = some rsF
  | [], L2, rs, rsF, _, hr => by
    simp only [List.nil_append, runIdx, Option.bind_eq_some_iff] at hr
    obtain ⟨y, hy, rs1, h1, h2⟩ := hr
    exact ⟨y, rs1, hy, h1, h2⟩
  | j :: L1, L2, rs, rsF, hL, hr => by
    simp only [List.cons_append, runIdx, Option.bind_eq_some_iff] at hr
    obtain ⟨x, hx, rsx, h1, h2⟩ := hr
    obtain ⟨y, rs1, hy, h3, h4⟩ := runIdx_front L1 L2 rsx rsF (fun k hk => hL k (by simp [hk])) h2
    obtain ⟨x', y', hx', hy', hi⟩ := hL j (by simp)
    rw [hx] at hx'; cases hx'
    rw [hy] at hy'; cases hy'
    obtain ⟨r1, g1, g2⟩ := step_swap hi h1 h3
    exact ⟨y, r1, hy, g1, by simp only [List.cons_append, runIdx, hx, Option.bind_some, g2]; exact h4⟩

theorem draw_sound (hn : ∀ b, b < w0.heap.size → ∀ k, G0 b ≠ .box k) (hc : chkOpers P N ops ops.toList sops = true) {T : List (List Nat)} (hT : closedT ops T = true) (hp : pairsOK sops T = true) (hcf : ∀ f vs r, cf f vs = some r → CallOK P gl W0 f vs r) {Q : Exit → Act → World → Prop} {rsF : RS}
    (hQ : ∀ G' Bf' a' w', Sim gl W0 w0 G0 N G' Bf' rsF a' w' → Q .normal a' w') : ∀ (fuel : Nat) (listed : Array Bool) (L : List Nat) (G : Gh) (Bf : Nat → Nat) (rs : RS) (a : Act) (w : World), listed.size = ops.size → L.length ≤ fuel → L.Pairwise (· < ·) →
      (∀ i, i ∈ L ↔ listed[i]? = some false) → (∀ k, listed[k]? = some true → ∀ j ∈ T.getD k [], listed[j]? = some true) → Sim gl W0 w0 G0 N G Bf rs a w → runIdx gl cf sops L rs = some rsF → wpAny P .any ops Q fuel listed a w := by
  have hlen := (chkOpers_get hc).1
  have closed : ∀ i o, ops[i]? = some o → (∀ e ∈ o.after, Region.binds .any e = true → e.on < i) ∧ ∀ j ∈ T.getD i [], ∃ e ∈ o.after, Region.binds .any e = true ∧ (e.on = j ∨ j ∈ T.getD e.on []) := by
    intro i o hi
    have hlt : i < ops.size := (Array.getElem?_eq_some_iff.1 hi).1
    have := List.all_eq_true.1 hT i (by simpa using hlt)
    rw [hi] at this
    simp only [Bool.and_eq_true, List.all_eq_true, decide_eq_true_eq, List.any_eq_true, Bool.or_eq_true, beq_iff_eq, List.contains_iff_mem, Array.mem_toList_iff, List.mem_filter] at this
    exact ⟨fun e he hb => this.1 e ⟨he, hb⟩, fun j hj => by obtain ⟨e, ⟨h1, h2⟩, h3⟩ := this.2 j hj; exact ⟨e, h1, h2, h3⟩⟩
  -- the least that is left is ready
  have least : ∀ (listed : Array Bool) (i : Nat) (L : List Nat), listed.size = ops.size → (i :: L).Pairwise (· < ·) → (∀ k, k ∈ i :: L ↔ listed[k]? = some false) → i ∈ Region.ready .any ops listed := by
    intro listed i L hsz hpw hL
    have hi := (hL i).1 (by simp)
    have hlt : i < ops.size := by rw [← hsz]; exact (Array.getElem?_eq_some_iff.1 hi).1
    rw [mem_ready]
    refine ⟨by rw [Array.getD_eq_getD_getElem?, hi]; rfl, ops[i], by simp [hlt], fun e he hbe => ?_⟩
    have hlt2 := (closed i ops[i] (by simp [hlt])).1 e he hbe
    have hne : listed[e.on]? ≠ some false := fun hh => by
      have := (hL e.on).2 hh
      rcases List.mem_cons.1 this with h | h
      · omega
      · have := (List.pairwise_cons.1 hpw).1 _ h
        omega
    have hin : e.on < listed.size := by omega
    rw [Array.getD_eq_getD_getElem?, Array.getElem?_eq_getElem hin]
    rw [Array.getElem?_eq_getElem hin] at hne
    cases hq : listed[e.on]
    · exact absurd (by rw [hq]) hne
    · rfl
  intro fuel
  induction fuel with
  | zero =>
    intro listed L G Bf rs a w hsz hlf hpw hL hcl hs hr
    obtain rfl := List.eq_nil_of_length_eq_zero (Nat.le_zero.1 hlf)
    refine ⟨?_, ?_⟩
    · rw [List.eq_nil_iff_forall_not_mem]
      intro i hi
      have := (mem_ready.1 hi).1
      have h2 : listed[i]? = some false := by
        rw [Array.getD_eq_getD_getElem?] at this
        cases hq : listed[i]? with
        | none => rw [hq] at this; cases this
        | some b => rw [hq] at this; simp at this; rw [this]
      exact absurd ((hL i).2 h2) (by simp)
    · simp only [runIdx, Option.some.injEq] at hr
      subst hr
      exact hQ _ _ _ _ hs
  | succ fuel ih =>
    intro listed L G Bf rs a w hsz hlf hpw hL hcl hs hr
    refine ⟨fun hnil => ?_, fun i hi => ?_⟩
    · cases L with
      | nil =>
        simp only [runIdx, Option.some.injEq] at hr
        subst hr
        exact hQ _ _ _ _ hs
      | cons i L =>
        have := least listed i L hsz hpw hL
        rw [hnil] at this
        cases this
    · obtain ⟨h0, o, ho, hall⟩ := mem_ready.1 hi
      have hlt : i < ops.size := (Array.getElem?_eq_some_iff.1 ho).1
      have hif : listed[i]? = some false := by
        rw [Array.getD_eq_getD_getElem?] at h0
        cases hq : listed[i]? with
        | none => rw [hq] at h0; cases h0
        | some b => rw [hq] at h0; simp at h0; rw [h0]
      obtain ⟨L1, L2, rfl⟩ := List.append_of_mem ((hL i).2 hif)
      obtain ⟨hb, hd⟩ := closed i o ho
      have hlisted : ∀ e ∈ o.after, Region.binds .any e = true → listed[e.on]? = some true := fun e he hbe => by
        have := hall e he hbe
        rw [Array.getD_eq_getD_getElem?] at this
        cases hq : listed[e.on]? with
        | none => rw [hq] at this; cases this
        | some b => rw [hq] at this; simp at this; rw [this]
      have hdeps : ∀ j ∈ T.getD i [], listed[j]? = some true := fun j hj => by
        obtain ⟨e, he, hbe, h | h⟩ := hd j hj
        · rw [← h]; exact hlisted e he hbe
        · exact hcl e.on (hlisted e he hbe) j h
      have hfree : ∀ j ∈ L1, ∃ x y, sops[j]? = some x ∧ sops[i]? = some y ∧ indep x y = true := fun j hj => by
        have hji : j < i := (List.pairwise_append.1 hpw).2.2 j hj i (by simp)
        have hjf := (hL j).1 (by simp [hj])
        have hil : i < sops.length := by rw [← hlen]; simpa using hlt
        have := List.all_eq_true.1 (List.all_eq_true.1 hp i (by simpa using hil)) j (by simpa using hji)
        simp only [Bool.or_eq_true, List.contains_iff_mem] at this
        rcases this with h | h
        · have := hdeps j h; rw [hjf] at this; cases this
        · rw [List.getElem?_eq_getElem hil, List.getElem?_eq_getElem (show j < sops.length by omega)] at h
          exact ⟨_, _, List.getElem?_eq_getElem (by omega), List.getElem?_eq_getElem hil, h⟩
      obtain ⟨y, rs1, hy, hst, hrest⟩ := runIdx_front L1 L2 rs rsF hfree hr
      obtain ⟨so, hso, hco⟩ := (chkOpers_get hc).2 i o (by rw [Array.getElem?_toList]; exact ho)
      rw [hy] at hso; cases hso
      refine step_sound hs hn ho hco hst hcf fun G' Bf' a' w' hs' => ?_
      have hnd : i ∉ L1 ++ L2 := by
        intro hmem
        have hp2 := List.pairwise_append.1 hpw
        rcases List.mem_append.1 hmem with h | h
        · have := hp2.2.2 i h i (by simp); omega
        · have := (List.pairwise_cons.1 hp2.2.1).1 i h; omega
      refine ih (listed.setIfInBounds i true) (L1 ++ L2) G' Bf' rs1 a' w' (by simpa using hsz) (by simp only [List.length_append, List.length_cons] at hlf ⊢; omega) ?_ (fun j => ?_) (fun k hk j hj => ?_) hs' hrest
      · have hp2 := List.pairwise_append.1 hpw
        exact List.pairwise_append.2 ⟨hp2.1, (List.pairwise_cons.1 hp2.2.1).2, fun x hx y hy => hp2.2.2 x hx y (by simp [hy])⟩
      · by_cases hji : j = i
        · subst hji
          have : (listed.setIfInBounds j true)[j]? = some true := by simp [show j < listed.size by omega]
          rw [this]
          exact ⟨fun h => absurd h hnd, fun h => by cases h⟩
        · rw [Array.getElem?_setIfInBounds_ne (Ne.symm hji), ← hL j]
          simp [hji]
      · have hset : ∀ m, listed[m]? = some true → (listed.setIfInBounds i true)[m]? = some true := fun m hm => by
          by_cases hmi : m = i
          · rw [hmi, Array.getElem?_setIfInBounds_self_of_lt (by omega)]
          · rw [Array.getElem?_setIfInBounds_ne (Ne.symm hmi)]; exact hm
        by_cases hki : k = i
        · subst hki; exact hset j (hdeps j hj)
        · rw [Array.getElem?_setIfInBounds_ne (Ne.symm hki)] at hk
          exact hset j (hcl k hk j hj)
end
end Go.Vi
