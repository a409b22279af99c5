/-
  How long bytes are whose reading is of a bounded bulk.
-/
import Derived.Test.YtedncpnkbpbchaaGreatDoorRows
set_option maxRecDepth 100000
namespace Go.Proofs.YtedncpnkbpbchaaGreatDoor

theorem bulk_pos {H : Type} (d : DataW H) : 1 ≤ Rows.uptoBulk d := by
  cases d with
  | lit l => cases l <;> simp [Rows.uptoBulk]
  | _ => simp [Rows.uptoBulk]
theorem bulk_length {H : Type} : ∀ l : List (DataW H), l.length ≤ Rows.uptoBulkAll l
  | [] => by simp [Rows.uptoBulkAll]
  | d :: l => by
    have := bulk_length l
    have := bulk_pos d
    simp only [Rows.uptoBulkAll, List.length_cons]
    omega
/-- How long bytes of a bounded reading are. -/
theorem bulk_bytes {H : Type} {d : DataW H} {b : List UInt8} (h : (d = .nil ∧ b = []) ∨ ∃ xs rest, d = .slice xs rest ∧ xs.length = b.length) : b.length ≤ Rows.uptoBulk d := by
  rcases h with ⟨rfl, rfl⟩ | ⟨xs, rest, rfl, hl⟩
  · simp [Rows.uptoBulk]
  · have := bulk_length xs
    simp only [Rows.uptoBulk]
    omega

end Go.Proofs.YtedncpnkbpbchaaGreatDoor
