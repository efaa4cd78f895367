/-
  Pages (layer 11), the seventh part: what Put does to the pages (plain).
-/
import Derived.Test.YtgbgneiciabidaaGreatDoorStoreF
import Derived.Test.YtgbgneiciabidaaGreatDoorNodeD
import Derived.Test.YtgbgneiciabidaaGreatDoorBank
import Derived.Test.YtgbgneiciabidaaGreatDoorTakeB
namespace Go.Proofs.YtgbgneiciabidaaGreatDoor
open Go Go.RowKit
set_option linter.all false

theorem get_ins {α : Type} (x : Int × α) (k : Int) : ∀ (M : List (Int × α)), (∀ p ∈ M, p.1 ≠ x.1) → VMap.get k (VMap.ins x M) = if k = x.1 then some x.2 else VMap.get k M
  | [], _ => by
    by_cases e : k = x.1
    · subst e; simp [VMap.ins, VMap.get]
    · rw [if_neg e]
      simp [VMap.ins, VMap.get]; omega
  | y :: r, h => by
    have hy := h y (by simp)
    have ih := get_ins x k r fun p hp => h p (by simp [hp])
    unfold VMap.ins
    split
    · by_cases e : k = x.1
      · subst e; simp [VMap.get]
      · rw [if_neg e]
        have e2 : (x.1 == k) = false := by simp; omega
        simp [VMap.get, e2]
    · by_cases e : y.1 = k
      · have e3 : k ≠ x.1 := by omega
        rw [if_neg e3]
        simp [VMap.get, e]
      · have e2 : (y.1 == k) = false := by simpa using e
        have h1 : VMap.get k (y :: VMap.ins x r) = VMap.get k (VMap.ins x r) := by simp [VMap.get, e2]
        have h2 : VMap.get k (y :: r) = VMap.get k r := by simp [VMap.get, e2]
        rw [h1, h2, ih]
theorem get_del {α : Type} (a k : Int) (M : List (Int × α)) : VMap.get k (VMap.del a M) = if k = a then none else VMap.get k M := by
  unfold VMap.get VMap.del
  rw [List.find?_filter]
  by_cases e : k = a
  · subst e
    rw [if_pos rfl]
    have : M.find? (fun a => decide ((!a.1 == k) = true ∧ (a.1 == k) = true)) = none := by
      rw [List.find?_eq_none]; intro p hp; simp
    rw [this]; rfl
  · rw [if_neg e]
    congr 2
    funext p
    by_cases h : p.1 = k
    · simp [h]; exact e
    · simp [h]
theorem get_put {α : Type} (a k : Int) (v : α) (M : List (Int × α)) : VMap.get k (VMap.put a v M) = if k = a then some v else VMap.get k M := by
  rw [VMap.put, get_ins]
  · by_cases e : k = a
    · simp [e]
    · simp only [if_neg e, get_del]
  · intro p hp
    have := (List.mem_filter.1 hp).2
    simpa using this
theorem del_none {α : Type} {a : Int} {M : List (Int × α)} (h : VMap.get a M = none) : VMap.del a M = M := by
  unfold VMap.del
  refine List.filter_eq_self.2 fun p hp => ?_
  unfold VMap.get at h
  rw [Option.map_eq_none_iff, List.find?_eq_none] at h
  simpa using h p hp

/-- One hold more on a page that there is. -/
def bump (Q : Pgs) (k : Int) : Pgs := match VMap.get k Q with | some g => VMap.put k { g with holds := g.holds + 1 } Q | none => Q
def bumpAll (Q : Pgs) (ks : List Int) : Pgs := ks.foldl bump Q
theorem bumpAll_succ (Q : Pgs) (ks : List Int) (k : Nat) (h : k < ks.length) : bumpAll Q (ks.take (k + 1)) = bump (bumpAll Q (ks.take k)) ks[k] := by
  unfold bumpAll
  rw [List.take_succ_eq_append_getElem h, List.foldl_append]; rfl
theorem bump_some (Q : Pgs) (j k : Int) : (VMap.get k (bump Q j)).isSome = (VMap.get k Q).isSome := by
  unfold bump
  cases h : VMap.get j Q with
  | none => rfl
  | some g =>
    simp only [get_put]
    by_cases e : k = j
    · subst e; simp [h]
    · simp [e]
theorem bumpAll_some (ks : List Int) : ∀ (Q : Pgs) (k : Int), (VMap.get k (bumpAll Q ks)).isSome = (VMap.get k Q).isSome := by
  induction ks with
  | nil => intro Q k; rfl
  | cons x ks ih => intro Q k; show (VMap.get k (bumpAll (bump Q x) ks)).isSome = _; rw [ih, bump_some]
/-- All holds lie between 0 and B. -/
def HoldsTo (Q : Pgs) (B : Int) : Prop := ∀ k g, VMap.get k Q = some g → 0 ≤ g.holds ∧ g.holds ≤ B
theorem HoldsTo.bump {Q : Pgs} {B : Int} (h : HoldsTo Q B) (j : Int) : HoldsTo (bump Q j) (B + 1) := by
  intro k g hg
  unfold Go.Proofs.YtgbgneiciabidaaGreatDoor.bump at hg
  cases hj : VMap.get j Q with
  | none => rw [hj] at hg; have := h k g hg; omega
  | some g0 =>
    rw [hj] at hg
    simp only [get_put] at hg
    by_cases e : k = j
    · rw [if_pos e] at hg
      cases hg
      have := h j g0 hj
      simp only
      omega
    · rw [if_neg e] at hg
      have := h k g hg; omega
theorem HoldsTo.all (ks : List Int) : ∀ {Q : Pgs} {B : Int}, HoldsTo Q B → HoldsTo (bumpAll Q ks) (B + ks.length) := by
  induction ks with
  | nil => intro Q B h; simpa [bumpAll] using h
  | cons x ks ih =>
    intro Q B h
    have := ih (h.bump x)
    intro k g hg
    have := this k g hg
    simp only [List.length_cons]
    omega
theorem HoldsTo.put {Q : Pgs} {B : Int} (h : HoldsTo Q B) (hB : 0 ≤ B) (a : Int) (n : Nd) : HoldsTo (VMap.put a ⟨n, 0, 0⟩ Q) B := by
  intro k g hg
  rw [get_put] at hg
  by_cases e : k = a
  · rw [if_pos e] at hg; cases hg; exact ⟨Int.le_refl _, hB⟩
  · rw [if_neg e] at hg; exact h k g hg
end Go.Proofs.YtgbgneiciabidaaGreatDoor
