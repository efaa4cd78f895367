/-
  Law 11, plain: what a fresh space gives first.
-/
import Derived.Test.YtgbgneiciabidaaGreatDoorPutB
import Derived.Test.YtgbgneiciabidaaGreatDoorRefD
import Derived.Test.YtgbgneiciabidaaGreatDoorRefB
import Derived.Test.YtgbgneiciabidaaGreatDoorNew
namespace Go.Proofs.YtgbgneiciabidaaGreatDoor
open Go Go.RowKit
set_option linter.all false

theorem fresh_takes {n d k : Nat} {y : Shelf} (h : Takes (freshSpc [⟨1, n⟩]) d k y) : d = 0 ∧ k = 2 := by
  have hs := h.shelf
  have hd : d = 0 := by
    have := (List.getElem?_eq_some_iff.1 hs).1
    simp [freshSpc] at this
    exact this
  subst hd
  have hy : y = emptyShelf n := by simpa [freshSpc] using hs.symm
  subst hy
  refine ⟨rfl, ?_⟩
  have hlo := h.lo
  by_cases e : k = 2
  · exact e
  · have := h.least 2 (by omega) (by omega)
    simp [Shelf.busy, emptyShelf] at this
theorem holds_none (B : Int) : HoldsTo [] B := by
  intro k g h
  simp [VMap.get] at h
theorem fits_fresh (sizes : List Nat) : Fits (freshSpc (sizes.map fun n => ⟨1, n⟩)) (sizes.map fun n => List.replicate n zeros) [] := by
  refine ⟨by simp [freshSpc], ?_, ?_⟩
  · intro d y secs hy hs
    simp only [freshSpc, List.map_map, List.getElem?_map] at hy hs
    cases hq : sizes[d]? with
    | none => rw [hq] at hy; cases hy
    | some n => rw [hq] at hy hs; cases hy; cases hs; simp [emptyShelf]
  · intro d k y _ _; simp [VMap.get]
theorem cntTo_nil0 : ∀ n, cntTo (fun _ => false) n = 0
  | 0 => rfl
  | n + 1 => by rw [cntTo, cntTo_nil0 n]; rfl
theorem fresh_room {n : Nat} (h : 3 ≤ n) : ¬ ∀ d ∈ actives (freshSpc [⟨1, n⟩]).es, (freshSpc [⟨1, n⟩]).free d = 0 := by
  intro hall
  have h0 := hall 0 (by simp [actives, freshSpc, idxTo])
  have hu : (emptyShelf n).used = 0 := by simp [Shelf.used, emptyShelf, cntTo_nil0]
  simp [Spc.free, freshSpc, hu] at h0
  omega
end Go.Proofs.YtgbgneiciabidaaGreatDoor
