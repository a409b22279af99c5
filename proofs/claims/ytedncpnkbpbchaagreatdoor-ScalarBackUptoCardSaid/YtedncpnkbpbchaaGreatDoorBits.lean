/-
  strconv.FormatUint at base 16 (formatBits walked), and with it strconv.FormatUint over data.
-/
import Derived.Test.YtedncpnkbpbchaaGreatDoorUint
import Derived.RegionTactic
set_option linter.unusedVariables false
set_option maxRecDepth 100000
set_option maxHeartbeats 6400000
namespace Go.Proofs.YtedncpnkbpbchaaGreatDoor
open Go.RowKit Go.Sort Go.Lib
structure HexInv (u v i : Nat) (dk : Array UInt8) : Prop where
  size : dk.size = 65
  lo : 50 ≤ i
  hi : i ≤ 65
  rest : v < 16 ^ (i - 49)
  text : YtedncpnkbpbchaaGreatDoor.hexL u = YtedncpnkbpbchaaGreatDoor.hexL v ++ dk.toList.drop i
theorem p2_16 (w : World) : Calls Tryz.prog 94 #[.int .i64 16] w fun e w' => e = .returned (.bool true) ∧ w' = w := by
  have e1 : IntKind.i64.wrap (16 - 1) = 15 := by decide
  have e2 : bits BinOp.and IntKind.i64 16 15 = 0 := by decide
  go_enter Tryz.func94, Tryz.ntmps94
  go_wp2
  go_ret
  exact ⟨rfl, rfl⟩

theorem hexF_up : ∀ (f n : Nat), n < 16 ^ f → 1 ≤ f → YtedncpnkbpbchaaGreatDoor.hexF (f + 1) n = YtedncpnkbpbchaaGreatDoor.hexF f n
  | 0, n, h, h1 => by omega
  | f + 1, n, h, h1 => by
    rw [hexF]
    conv => rhs; rw [hexF]
    by_cases hn : n < 16
    · rw [if_pos hn, if_pos hn]
    · rw [if_neg hn, if_neg hn]
      have hf : 1 ≤ f := by
        rcases Nat.eq_zero_or_pos f with rfl | h'
        · simp at h; omega
        · exact h'
      rw [hexF_up f (n / 16) (by rw [Nat.pow_succ] at h; omega) hf]
theorem hexL_step (v : Nat) (h : 16 ≤ v) (hv : v < 16 ^ 16) : YtedncpnkbpbchaaGreatDoor.hexL v = YtedncpnkbpbchaaGreatDoor.hexL (v / 16) ++ [YtedncpnkbpbchaaGreatDoor.hexDigit (v % 16)] := by
  unfold hexL
  rw [hexF, if_neg (by omega), ← hexF_up 15 (v / 16) (by omega) (by omega)]
theorem hexL_last (v : Nat) (h : v < 16) : YtedncpnkbpbchaaGreatDoor.hexL v = [YtedncpnkbpbchaaGreatDoor.hexDigit v] := by
  unfold hexL
  rw [hexF, if_pos h]
def digs : ByteArray := ⟨#[48, 49, 50, 51, 52, 53, 54, 55, 56, 57, 97, 98, 99, 100, 101, 102, 103, 104, 105, 106, 107, 108, 109, 110, 111, 112, 113, 114, 115, 116, 117, 118, 119, 120, 121, 122]⟩
theorem digs_at : ∀ m : Fin 16, digs[m.1]! = YtedncpnkbpbchaaGreatDoor.hexDigit m.1 := by decide +kernel
theorem idx_digs (k : IntKind) (z : Int) (i : Nat) (hz : z = (i : Int)) (hi : i < 16) (w : World) :
    (Instr.index 9 (.string digs) (.int k z)).run Tryz.prog w = .ok (.int .u8 ((YtedncpnkbpbchaaGreatDoor.hexDigit i).toNat : Int)) w := by
  subst hz
  rw [run_index_string w 9 digs k _ Tryz.underlying9, dif_pos ⟨by omega, by show (i : Int) < ((36 : Nat) : Int); omega⟩]
  have e : ((i : Int)).toNat = i := by omega
  simp only [e]
  have := digs_at ⟨i, hi⟩
  rw [getElem!_pos digs i (by show i < 36; omega)] at this
  rw [this]
theorem and15 (v : Nat) (h : v < 18446744073709551616) : bits BinOp.and IntKind.u64 (v : Int) 15 = ((v % 16 : Nat) : Int) := by
  have : v &&& 15 = v % 16 := Nat.and_two_pow_sub_one_eq_mod v 4
  simp only [bits]
  have e1 : (((v : Int) % 2 ^ IntKind.u64.bits).toNat &&& ((15 : Int) % 2 ^ IntKind.u64.bits).toNat) = v % 16 := by
    have h1 : ((v : Int) % 2 ^ IntKind.u64.bits).toNat = v := by show ((v : Int) % 2 ^ 64).toNat = v; omega
    rw [h1, ← this]; rfl
  have e2 : BitVec.ofInt 64 (v : Int) = BitVec.ofNat 64 v := by simp
  show IntKind.u64.wrap ((BitVec.ofInt 64 (v : Int) &&& BitVec.ofInt 64 15).toNat : Int) = _
  rw [e2, BitVec.toNat_and]
  have e3 : (BitVec.ofInt 64 15).toNat = 15 := by decide
  have e4 : (BitVec.ofNat 64 v).toNat = v := by simp; omega
  rw [e3, e4, this]
  exact Go.Vi.wrap_u64 (by omega) (by omega)
theorem HexInv.start (u : Nat) (h : u < 18446744073709551616) : HexInv u u 65 (Array.replicate 65 0) := ⟨by simp, by omega, by omega, by simpa using h, by simp⟩
theorem HexInv.step {u v m : Nat} {dk : Array UInt8} (h : HexInv u v (m + 1) dk) (hv : 16 ≤ v) : HexInv u (v / 16) m (dk.setIfInBounds m (YtedncpnkbpbchaaGreatDoor.hexDigit (v % 16))) := by
  have hr := h.rest
  have hlo := h.lo
  have hhi := h.hi
  have hm : 50 ≤ m := by
    rcases Nat.lt_or_ge m 50 with h' | h'
    · have e : m = 49 := by omega
      subst e
      simp at hr; omega
    · exact h'
  have hv64 : v < 16 ^ 16 := Nat.lt_of_lt_of_le hr (Nat.pow_le_pow_right (by decide) (by omega))
  refine ⟨by simpa using h.size, hm, by omega, ?_, ?_⟩
  · have e : m + 1 - 49 = (m - 49) + 1 := by omega
    rw [e, Nat.pow_succ] at hr
    omega
  · rw [h.text, hexL_step v hv hv64, List.append_assoc]
    congr 1
    obtain ⟨l⟩ := dk
    have hs := h.size
    simp only [List.size_toArray] at hs
    simp only [List.setIfInBounds_toArray]
    rw [List.drop_eq_getElem_cons (i := m) (by simp; omega), List.getElem_set_self, List.drop_set_of_lt (by omega)]
    simp
theorem HexInv.last {u v m : Nat} {dk : Array UInt8} (h : HexInv u v (m + 1) dk) (hv : v < 16) : YtedncpnkbpbchaaGreatDoor.hexL u = (dk.setIfInBounds m (YtedncpnkbpbchaaGreatDoor.hexDigit v)).toList.drop m := by
  have hlo := h.lo
  have hhi := h.hi
  rw [h.text, hexL_last v hv]
  obtain ⟨l⟩ := dk
  have hs := h.size
  simp only [List.size_toArray] at hs
  simp only [List.setIfInBounds_toArray]
  rw [List.drop_eq_getElem_cons (i := m) (by simp; omega), List.getElem_set_self, List.drop_set_of_lt (by omega)]
  simp
theorem HexInv.v64 {u v i : Nat} {dk : Array UInt8} (h : HexInv u v i dk) : v < 18446744073709551616 := by
  have hr := h.rest
  have hhi := h.hi
  exact Nat.lt_of_lt_of_le hr (Nat.pow_le_pow_right (by decide) (by omega) : 16 ^ (i - 49) ≤ 16 ^ 16)
theorem zeros65_at (i : Nat) (h : i < 65) : Tryz.zeroCells145[i]? = some (.int .u8 0) := by
  have e : Tryz.zeroCells145 = Array.replicate 65 (.int .u8 0) := rfl
  rw [e, Array.getElem?_replicate, if_pos h]
theorem holds_zero65 (w : World) : Holds (fun (b : UInt8) => Value.int .u8 (b.toNat : Int)) (w.alloc (.cells Tryz.zeroCells145 145)) w.heap.size 0 (Array.replicate 65 (0 : UInt8)) := fun j hj => by
  have hj' : j < 65 := by simpa using hj
  refine ⟨?_, World.frozen?_alloc_new _ _ _ _⟩
  rw [World.cell?_alloc_new, zeros65_at _ (by omega), getElem!_pos _ j hj]
  simp
theorem bits16 (u : Nat) (hu64 : u < 18446744073709551616) (w : World) (hc : w.cell? ⟨9, 15, none⟩ = some (.int .u8 4)) (h9 : 9 < w.heap.size) :
    Calls Tryz.prog 80 #[.slice none 0 0, .int .u64 u, .int .i64 16, .bool false, .bool false] w fun e w' => ∃ s, e = .returned (.tuple #[s, .string ⟨(YtedncpnkbpbchaaGreatDoor.hexL u).toArray⟩]) ∧ ∃ k os, w' = grow (w.drewN k) os := by
  have hc' : (w.alloc (.cells Tryz.zeroCells145 145)).cell? ⟨9, 15, none⟩ = some (.int .u8 4) := by
    rw [World.cell?_alloc_old _ _ _ (by show 9 ≠ w.heap.size; omega)]
    exact hc
  have hH : Holds (fun (b : UInt8) => Value.int .u8 (b.toNat : Int)) (w.alloc (.cells Tryz.zeroCells145 145)) w.heap.size 0 (Array.replicate 65 0) := holds_zero65 w
  have AH := Lib.hid hH
  clear hH
  go_enter Tryz.func80, Tryz.ntmps80
  go_wp2_with (go_at_fn 94)
  refine (p2_16 _).mono ?_
  rintro e w' ⟨rfl, rfl⟩
  go_wp2_with (go_at_fn 95)
  refine (tz16 _ hc').mono ?_
  rintro e w' ⟨rfl, rfl⟩
  clear hc'
  go_wp2
  go_loopw [1, 13] (fun vu vn wr => ∃ (v i n : Nat) (dk : Array UInt8), vu = .int .u64 v ∧ vn = .int .i64 i ∧ wr = (putRow (fun (b : UInt8) => Value.int .u8 (b.toNat : Int)) (w.alloc (.cells Tryz.zeroCells145 145)) w.heap.size 0 dk).drewN n ∧ Hid (HexInv u v i dk)) (fun vu _ _ => (RowKit.intOf vu).toNat)
  case atStart => exact ⟨u, 65, 0, _, rfl, rfl, (putRow_self _ _ _ _ _ AH.out).symm, Lib.hid (HexInv.start u hu64)⟩
  case round =>
    obtain ⟨v, i, n, dk0, rfl, rfl, hw0, HI0⟩ := hrel
    rename World => W0
    obtain ⟨m, rfl⟩ : ∃ m, i = m + 1 := ⟨i - 1, by have := HI0.out.lo; omega⟩
    have hv64 : v < 18446744073709551616 := HI0.out.v64
    have hs0 := HI0.out.size
    have hmlo := HI0.out.lo
    have hmhi := HI0.out.hi
    have hH0 : Holds (fun (b : UInt8) => Value.int .u8 (b.toNat : Int)) W0 w.heap.size 0 dk0 := by rw [hw0]; exact holds_putRow _ _ _ _ _ dk0 AH.out (by rw [hs0]; rfl)
    obtain ⟨G0, hG0⟩ : ∃ G : Nat → Int, ∀ t, G t = (dk0[t]!.toNat : Int) := ⟨_, fun _ => rfl⟩
    have hc0 : W0.cell? ⟨w.heap.size, m, none⟩ = some (.int .u8 (G0 m)) := by have h := (hH0 m (by omega)).1; rw [Nat.zero_add] at h; rw [hG0]; exact h
    have hf0 : W0.frozen? ⟨w.heap.size, m, none⟩ = false := by have h := (hH0 m (by omega)).2; rw [Nat.zero_add] at h; exact h
    have AW0 := Lib.hid hw0
    clear hw0 hG0 hH0
    by_cases h16 : 16 ≤ v
    · have hb := and15 v hv64
      have hX : ∀ w, (Instr.index 9 (.string ⟨#[48, 49, 50, 51, 52, 53, 54, 55, 56, 57, 97, 98, 99, 100, 101, 102, 103, 104, 105, 106, 107, 108, 109, 110, 111, 112, 113, 114, 115, 116, 117, 118, 119, 120, 121, 122]⟩) (.int .u64 ((v % 16 : Nat) : Int))).run Tryz.prog w = .ok (.int .u8 ((YtedncpnkbpbchaaGreatDoor.hexDigit (v % 16)).toNat : Int)) w := fun w => idx_digs .u64 _ _ rfl (by omega) w
      have hd : digs[v % 16]! = YtedncpnkbpbchaaGreatDoor.hexDigit (v % 16) := digs_at ⟨v % 16, by omega⟩
      rw [getElem!_pos digs (v % 16) (by show v % 16 < 36; omega)] at hd
      have hst : W0.setCell ⟨w.heap.size, m, none⟩ (.int .u8 ((YtedncpnkbpbchaaGreatDoor.hexDigit (v % 16)).toNat : Int)) = (putRow (fun (b : UInt8) => Value.int .u8 (b.toNat : Int)) (w.alloc (.cells Tryz.zeroCells145 145)) w.heap.size 0 (dk0.setIfInBounds m (YtedncpnkbpbchaaGreatDoor.hexDigit (v % 16)))).drewN n := by
        have h := store1_world (w.alloc (.cells Tryz.zeroCells145 145)) w.heap.size 0 dk0 n m (YtedncpnkbpbchaaGreatDoor.hexDigit (v % 16)) (by omega)
        rw [Nat.zero_add, ← AW0.out] at h
        exact h
      have HS := Lib.hid hst
      clear hst
      have HD := Lib.hid hd
      clear hd
      go_wp2
      refine ⟨⟨v / 16, m, n, dk0.setIfInBounds m (YtedncpnkbpbchaaGreatDoor.hexDigit (v % 16)), by simp, rfl, ?_, Lib.hid (HI0.out.step h16)⟩, ?_⟩
      · rw [← HS.out, ← HD.out]; rfl
      · simp [RowKit.intOf]; omega
    · have hX : ∀ w, (Instr.index 9 (.string ⟨#[48, 49, 50, 51, 52, 53, 54, 55, 56, 57, 97, 98, 99, 100, 101, 102, 103, 104, 105, 106, 107, 108, 109, 110, 111, 112, 113, 114, 115, 116, 117, 118, 119, 120, 121, 122]⟩) (.int .u64 (v : Int))).run Tryz.prog w = .ok (.int .u8 ((YtedncpnkbpbchaaGreatDoor.hexDigit v).toNat : Int)) w := fun w => idx_digs .u64 _ _ rfl (by omega) w
      have hal : Tryz.prog.arrayLen 145 = 65 := by kernel_rfl
      have hsl : ∀ W, (Instr.sliceAt 145 (.pointer (some ⟨w.heap.size, 0, none⟩)) (some (.int .i64 (m : Int))) none none).run Tryz.prog W = .ok (.slice (some ⟨w.heap.size, m, none⟩) (65 - m) (65 - m)) W := fun W => by
        rw [run_sliceAt_array_l W 145 ⟨w.heap.size, 0, none⟩ (by kernel_rfl) .i64 (m : Int) (by omega) (by rw [hal]; omega)]
        simp only [hal]
        go_simp
        omega
      clear hal
      have hst : W0.setCell ⟨w.heap.size, m, none⟩ (.int .u8 ((YtedncpnkbpbchaaGreatDoor.hexDigit v).toNat : Int)) = (putRow (fun (b : UInt8) => Value.int .u8 (b.toNat : Int)) (w.alloc (.cells Tryz.zeroCells145 145)) w.heap.size 0 (dk0.setIfInBounds m (YtedncpnkbpbchaaGreatDoor.hexDigit v))).drewN n := by
        have h := store1_world (w.alloc (.cells Tryz.zeroCells145 145)) w.heap.size 0 dk0 n m (YtedncpnkbpbchaaGreatDoor.hexDigit v) (by omega)
        rw [Nat.zero_add, ← AW0.out] at h
        exact h
      have hcv : (convert 23 9 (.slice (some ⟨w.heap.size, m, none⟩) (65 - m) (65 - m))).run Tryz.prog (W0.setCell ⟨w.heap.size, m, none⟩ (.int .u8 ((YtedncpnkbpbchaaGreatDoor.hexDigit v).toNat : Int))) = .ok (.string ⟨(YtedncpnkbpbchaaGreatDoor.hexL u).toArray⟩) (W0.setCell ⟨w.heap.size, m, none⟩ (.int .u8 ((YtedncpnkbpbchaaGreatDoor.hexDigit v).toNat : Int))) := by
        have hlast := HI0.out.last (by omega)
        have hlen : (YtedncpnkbpbchaaGreatDoor.hexL u).length = 65 - m := by rw [hlast]; simp [hs0]
        have h := run_convert_bytes_back (P := Tryz.prog) (W0.setCell ⟨w.heap.size, m, none⟩ (.int .u8 ((YtedncpnkbpbchaaGreatDoor.hexDigit v).toNat : Int))) 23 9 5 ⟨w.heap.size, m, none⟩ (65 - m) (YtedncpnkbpbchaaGreatDoor.hexL u) Tryz.underlying23 Tryz.underlying5 Tryz.underlying9 (fun j hj => by
          rw [Lib.add_plain, hst, World.cell?_drewN]
          have hc := cell?_putRow (fun (b : UInt8) => Value.int .u8 (b.toNat : Int)) _ w.heap.size 0 _ (dk0.setIfInBounds m (YtedncpnkbpbchaaGreatDoor.hexDigit v)) AH.out (by simp [hs0]) (m + j) (by simp; omega)
          rw [Nat.zero_add] at hc
          rw [hc]
          have : (YtedncpnkbpbchaaGreatDoor.hexL u)[j] = (dk0.setIfInBounds m (YtedncpnkbpbchaaGreatDoor.hexDigit v))[m + j]! := by
            simp only [hlast, List.getElem_drop]
            rw [getElem!_pos _ (m + j) (by simp; omega)]
            rfl
          rw [this])
        rw [hlen] at h
        exact h
      have HS := Lib.hid hst
      clear hst
      go_wp2
      go_ret2
      obtain ⟨os, eo⟩ := Lib.fin_at w (.cells Tryz.zeroCells145 145) (dk0.setIfInBounds m (YtedncpnkbpbchaaGreatDoor.hexDigit v)) n 0
      refine ⟨⟨_, rfl⟩, n, os, ?_⟩
      rw [HS.out]
      exact eo
theorem uint16_inner (u : Nat) (hu64 : u < 18446744073709551616) (w : World) (hc : w.cell? ⟨9, 15, none⟩ = some (.int .u8 4)) (h9 : 9 < w.heap.size) :
    Calls Tryz.prog 60 #[.int .u64 u, .int .i64 16] w fun e w' => e = .returned (.string ⟨(YtedncpnkbpbchaaGreatDoor.hexL u).toArray⟩) ∧ ∃ k os, w' = grow (w.drewN k) os := by
  go_enter Tryz.func60, Tryz.ntmps60
  go_wp2_with (go_at_fn 80)
  refine (bits16 u hu64 _ hc h9).mono ?_
  rintro e w' ⟨s, rfl, k, os, rfl⟩
  go_wp2
  go_ret
  exact ⟨rfl, k, os, rfl⟩
theorem uint16 (u : Nat) (hu64 : u < 18446744073709551616) (w : World) (hc : w.cell? ⟨9, 15, none⟩ = some (.int .u8 4)) (h9 : 9 < w.heap.size) :
    Calls Tryz.prog 39 #[.int .u64 u, .int .i64 16] w fun e w' => e = .returned (.string ⟨(YtedncpnkbpbchaaGreatDoor.hexL u).toArray⟩) ∧ ∃ k os, w' = grow (w.drewN k) os := by
  go_enter Tryz.func39, Tryz.ntmps39
  go_wp2_with (go_at_fn 60)
  refine (uint16_inner u hu64 _ hc h9).mono ?_
  rintro e w' ⟨rfl, k, os, rfl⟩
  go_wp2
  go_ret
  exact ⟨rfl, k, os, rfl⟩
open Go.Vi in
theorem fuint_ok {gl : Nat → Option D} {W0 : World} {vs : List V} {ds : List D} {r : V} (htab : Lib.TabIs Tryz.prog W0 "internal/strconv.uint64pow10" .u64 Lib.pow10Tab) (hc : W0.cell? ⟨9, 15, none⟩ = some (.int .u8 4)) (h9 : 9 < W0.heap.size) (hds : asDs vs = some ds) (hr : fuintPrim ds = some r) : CallOK Tryz.prog gl W0 39 vs r := by
  unfold fuintPrim at hr
  split at hr
  case h_2 => cases hr
  case h_1 n b =>
    split at hr
    case isFalse => cases hr
    case isTrue hs =>
      obtain ⟨h0, h1⟩ := hs
      obtain ⟨u, rfl⟩ := Int.eq_ofNat_of_zero_le h0
      split at hr
      case isTrue hb10 =>
        cases hr
        subst hb10
        intro w G vals hsz hb hn hargs
        obtain ⟨v1, v2, rfl, r1, r2⟩ := args_two hds hsz hargs
        rw [relD_int r1, relD_int r2]
        refine (uint10 u (by omega) w (tab_below htab hb.below)).mono fun e w' ⟨he, k, os, hw⟩ => ?_
        exact done_str hb hn he (by rw [hw]; exact Lib.below_grow _ w (Nat.le_refl _) k os)
      case isFalse =>
        split at hr
        case isFalse => cases hr
        case isTrue hb16 =>
          cases hr
          subst hb16
          intro w G vals hsz hb hn hargs
          obtain ⟨v1, v2, rfl, r1, r2⟩ := args_two hds hsz hargs
          rw [relD_int r1, relD_int r2]
          have hbl := hb.below
          refine (uint16 u (by omega) w (by
            rw [← hc]
            simp only [World.cell?]
            rw [hbl.block 9 h9]) (Nat.lt_of_lt_of_le h9 hbl.size)).mono fun e w' ⟨he, k, os, hw⟩ => ?_
          exact done_str hb hn he (by rw [hw]; exact Lib.below_grow _ w (Nat.le_refl _) k os)
end Go.Proofs.YtedncpnkbpbchaaGreatDoor
