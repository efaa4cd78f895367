/-
  Law 11: what a fresh world does first (awake).
-/
import Derived.Test.YtgbgneiciabidaaGreatDoorMade
namespace Go.Proofs.YtgbgneiciabidaaGreatDoor
open Go Go.RowKit
set_option linter.all false

theorem Has.ints_new {w : World} {l : List Say} (h : Has w l) (xs : List Int) (hx : xs.length ≤ 1000) : Has (w.alloc (.cells (xs.map intVal).toArray 3)) (intsS (.slice (some ⟨w.heap.size, 0, none⟩) xs.length xs.length) xs :: l) :=
  (h.alloc (.cells (xs.map intVal).toArray 3)).row_of_pts (by simp) (Nat.le_refl _) (by simp [maxLen]; omega) (by simp) (by simp only [Nat.mul_one]; exact List.take_of_length_le (by simp))
def YesPost (l : List Say) (w : World) (r : Ending) (w' : World) : Prop := r = .returned (.bool true) ∧ Kept w w' ∧ Has w' l

/-- A leaf of one pair, put into a fresh world of one device. -/
theorem fresh_put {w w' : World} {l : List Say} {p bank sp n : Nat} {nd : Nd} {r : Ending} (hn : 3 ≤ n) (ok : nd.ok = true) (lv : nd.level = 0)
    (h : StPut p bank sp 0 0 [] [List.replicate n zeros] (freshSpc [⟨1, n⟩]) nd l w r w') :
    r = .returned (.tuple #[.int .i64 2, .nilIface]) ∧ Kept w w' ∧ ∃ secs, Has w' (world3 p bank sp 1 1 [(2, ⟨nd, 0, 0⟩)] secs ((freshSpc [⟨1, n⟩]).put 0 ((emptyShelf n).took 2)) l) := by
  have hk : nd.kids = [] := by simp [Nd.kids, lv]
  have hne : namedErr [] nd = .nilIface := by simp [namedErr, hk]
  obtain ⟨hK, (⟨h1, _⟩ | ⟨_, h2, _⟩ | ⟨_, _, h3, _⟩ | ⟨d, k, y, secs, _, _, ht, hs, hr, hh⟩)⟩ := h
  · rw [ok] at h1; cases h1
  · exact absurd hne h2
  · exact absurd h3 (fresh_room hn)
  · obtain ⟨rfl, rfl⟩ := fresh_takes ht
    have hy : y = emptyShelf n := by simpa [freshSpc] using ht.shelf.symm
    subst hy
    rw [hk] at hh
    have e : put1 [] (lenV 0 2) nd = [(2, ⟨nd, 0, 0⟩)] := by simp [put1, hk, bumpAll]; rfl
    rw [e] at hh
    exact ⟨hr, hK, _, hh⟩

set_option maxHeartbeats 1000000 in
set_option maxRecDepth 100000 in
theorem law_awake {w : World} {l : List Say} (h : Has w l) (ht : Tab l) : Calls Tryz.prog 17 #[] w (YesPost l w) := by
  have h1 := h.ints_new [10] (by simp)
  have HM := Lib.hid (law_made [10] h1 (Srcs.of_ints (.head _)))
  have HK0 : Hid (Kept w (w.alloc (.cells ([10].map intVal).toArray 3))) := (Kept.refl w).alloc _
  have Ht := Lib.hid ht
  clear h h1 ht
  simp only [List.map_cons, List.map_nil, intVal, List.length_cons, List.length_nil, Nat.zero_add] at HM HK0
  go_enter Tryz.func17, Tryz.ntmps17
  go_wp2_with fail
  refine HM.out.mono ?_
  rintro r w1 ⟨hK1, (⟨hno, _⟩ | ⟨_, bank, sp, p, x, rfl, h1⟩)⟩
  · exact absurd hno (by decide)
  · have h2 := ((h1.alloc (.cells #[ptrV bank, ptrV sp, ptrV p, ptrV x] 30)).ints_new [1] (by simp)).ints_new [5] (by simp)
    simp only [World.size_alloc, List.map_cons, List.map_nil, intVal, List.length_cons, List.length_nil, Nat.zero_add] at h2
    have h3 := h2.reord [3, 3, 3]
    have HP := Lib.hid (st_Put (p := p) (bank := bank) (sp := sp) (m := 0) (N := 0) (Q := []) (disks := [List.replicate 10 zeros]) (X := freshSpc [⟨1, 10⟩]) ⟨0, [1], [5]⟩ (kv := .slice (some ⟨w1.heap.size + 1, 0, none⟩) 1 1) (vv := .slice (some ⟨w1.heap.size + 1 + 1, 0, none⟩) 1 1) h3 Ht.out.cons.cons.cons.cons (.tail _ (.head _)) (.head _) (fits_fresh [10]) (holds_none _) (by omega) (by omega))
    have HK1 := Lib.hid (((HK0.out.trans hK1).alloc (.cells #[ptrV bank, ptrV sp, ptrV p, ptrV x] 30) |>.alloc (.cells #[.int .i64 1] 3)).alloc (.cells #[.int .i64 5] 3))
    clear h1 h2 h3 hK1 HM HK0
    simp only [Nd.val, ptrV] at HP HK1 ⊢
    go_wp2_with fail
    refine HP.out.mono ?_
    rintro r w2 hpost
    obtain ⟨rfl, hK2, secs, h4⟩ := fresh_put (by omega) (by decide) rfl hpost
    have hr1 := h4.at (b := w1.heap.size) (o := .cells #[.pointer (some ⟨bank, 0, none⟩), .pointer (some ⟨sp, 0, none⟩), .pointer (some ⟨p, 0, none⟩), .pointer (some ⟨x, 0, none⟩)] 30 (0, 0)) (by simp [world3, reord])
    have c1 : w2.cell? ⟨w1.heap.size, 1, none⟩ = some (.pointer (some ⟨sp, 0, none⟩)) := cell_of hr1 1 rfl
    have c2 : w2.cell? ⟨w1.heap.size, 2, none⟩ = some (.pointer (some ⟨p, 0, none⟩)) := cell_of hr1 2 rfl
    have l1 := World.block_lt_of_cell? _ _ c1
    have HPg := Lib.hid (st_Pages h4 (by simp))
    have HK2 := Lib.hid (HK1.out.trans hK2)
    clear hK2 h4 hpost HP HK1 hr1
    go_wp2_with fail
    refine HPg.out.mono ?_
    rintro r w3 ⟨v, rfl, hK3, h5⟩
    obtain ⟨a5, c5, rfl, _, _⟩ := h5.ints_read (v := v) (xs := [2]) (.head _)
    have hr1 := h5.at (b := w1.heap.size) (o := .cells #[.pointer (some ⟨bank, 0, none⟩), .pointer (some ⟨sp, 0, none⟩), .pointer (some ⟨p, 0, none⟩), .pointer (some ⟨x, 0, none⟩)] 30 (0, 0)) (by simp [world3, reord])
    have c1 : w3.cell? ⟨w1.heap.size, 1, none⟩ = some (.pointer (some ⟨sp, 0, none⟩)) := cell_of hr1 1 rfl
    have l1 := World.block_lt_of_cell? _ _ c1
    have h6 := h5.pull 3
    have HT : Hid (Calls Tryz.prog 35 #[.pointer (some ⟨sp, 0, none⟩), .int .i64 2] w3 _) := sp_Taken h6 0 2 ⟨1, 10⟩ ((emptyShelf 10).took 2) ⟨rfl, rfl, by decide, by omega, by decide⟩
    have HK3 := Lib.hid (HK2.out.trans hK3)
    clear hK3 h5 h6 HPg HK2 hr1
    go_wp2_with fail
    refine HT.out.mono ?_
    rintro r w4 ⟨rfl, hK4, h7⟩
    have HF : Hid (Kept w w4 ∧ Has w4 l) := ⟨HK3.out.trans hK4, h7.tail.tail.tail.tail.tail.tail.tail.tail⟩
    have e : ((emptyShelf 10).took 2).taken 2 = true := rfl
    rw [e]
    clear hK4 h7 HT HK3
    go_wp2
    go_ret
    exact ⟨rfl, HF.out.1, HF.out.2⟩
end Go.Proofs.YtgbgneiciabidaaGreatDoor
