/-
  The document's bank: New, Add (its disks' content is nobody's matter).
-/
import Derived.Test.YtgbgneiciabidaaGreatDoorDiskB
import Derived.Deep.OwnRows
namespace Go.Proofs.YtgbgneiciabidaaGreatDoor
open Go Go.RowKit
set_option linter.unusedVariables false
set_option linter.unusedSimpArgs false

def ZeroPost (w : World) (r : Ending) (w' : World) : Prop := ∃ a n c, r = .returned (.agg #[.slice a n c, .bool false]) ∧ Below w.heap.size w w'
theorem ref_zero {w : World} : Calls Tryz.prog 217 #[] w (ZeroPost w) := by
  have hmk : ∀ w : World, (Instr.makeSlice 141 (.int .i64 128) (.int .i64 128)).run Tryz.prog w = .ok (.slice (some ⟨w.heap.size, 0, none⟩) 128 128) (w.alloc (.cells (madeCells #[.int .u8 0] 128) 5)) :=
    run_make_row' (P := Tryz.prog) 141 5 (.int .u8 0) 1 Tryz.underlying141 info_u8 rfl .i64 .i64 128 (by omega) (by omega)
  go_enter Tryz.func217, Tryz.ntmps217
  go_wp2
  have hb : Below w.heap.size w (((w.alloc (.cells #[.slice (some ⟨w.heap.size + 1 + 1, 0, none⟩) 1 1, .bool false] 320)).alloc (.cells (madeCells #[.int .u8 0] 128) 5)).alloc (.cells #[.slice (some ⟨w.heap.size + 1, 0, none⟩) 128 128] 141)) :=
    (((Below.refl _ _).alloc (Nat.le_refl _) _).alloc (by simp) _).alloc (by simp; omega) _
  have z0 : (((w.alloc (.cells #[.slice (some ⟨w.heap.size + 1 + 1, 0, none⟩) 1 1, .bool false] 320)).alloc (.cells (madeCells #[.int .u8 0] 128) 5)).alloc (.cells #[.slice (some ⟨w.heap.size + 1, 0, none⟩) 128 128] 141)).cell? ⟨w.heap.size, 0, none⟩ = some (.slice (some ⟨w.heap.size + 1 + 1, 0, none⟩) 1 1) := by
    rw [World.cell?_alloc_lt _ _ _ (by simp; omega), World.cell?_alloc_lt _ _ _ (by simp)]; exact World.cell?_alloc_new _ _ _ 0
  have z1 : (((w.alloc (.cells #[.slice (some ⟨w.heap.size + 1 + 1, 0, none⟩) 1 1, .bool false] 320)).alloc (.cells (madeCells #[.int .u8 0] 128) 5)).alloc (.cells #[.slice (some ⟨w.heap.size + 1, 0, none⟩) 128 128] 141)).cell? ⟨w.heap.size, 1, none⟩ = some (.bool false) := by
    rw [World.cell?_alloc_lt _ _ _ (by simp; omega), World.cell?_alloc_lt _ _ _ (by simp)]; exact World.cell?_alloc_new _ _ _ 1
  refine bodyPost_ret (v := .agg #[.slice (some ⟨w.heap.size + 1 + 1, 0, none⟩) 1 1, .bool false]) (by simp [results, Tryz.results217, go_sem, z0, z1]) rfl ⟨_, _, _, rfl, hb⟩

def refBankS (b n : Nat) : Say := ex fun x : Value × List Value × Int => all [pts b (.cells #[x.1, .int .i64 (-1), .bool false, .int .i64 x.2.2] 222 (0, 0)), rowS 226 1 x.1 n x.2.1]
def RefNew (l : List Say) (w : World) (r : Ending) (w' : World) : Prop := ∃ b, r = .returned (.pointer (some ⟨b, 0, none⟩)) ∧ Kept w w' ∧ Has w' (refBankS b 0 :: l)
theorem ref_BankNew {w : World} {l : List Say} (h : Has w l) : Calls Tryz.prog 70 #[] w (RefNew l w) := by
  have h1 := (h.alloc (.cells #[.slice none 0 0, .int .i64 (-1), .bool false, .int .i64 0] 222)).row_nil 226 1
  have HB : Hid (Has (w.alloc (.cells #[.slice none 0 0, .int .i64 (-1), .bool false, .int .i64 0] 222)) (refBankS w.heap.size 0 :: l)) := Has.chosen (.slice none 0 0, [], 0) h1.swap.unite
  clear h h1
  go_enter Tryz.func70, Tryz.ntmps70
  go_wp2
  go_ret
  exact ⟨_, rfl, (Kept.refl w).alloc _, HB.out⟩
end Go.Proofs.YtgbgneiciabidaaGreatDoor
