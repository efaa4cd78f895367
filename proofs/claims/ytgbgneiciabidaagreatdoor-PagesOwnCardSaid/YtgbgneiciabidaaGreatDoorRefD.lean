/-
  The document's bank, the second part: disks, Add.
-/
import Derived.Test.YtgbgneiciabidaaGreatDoorRefC
import Derived.Test.YtgbgneiciabidaaGreatDoorFrame
import Derived.Deep.RegionLaw
namespace Go.Proofs.YtgbgneiciabidaaGreatDoor
open Go Go.RowKit
set_option linter.unusedVariables false
set_option linter.unusedSimpArgs false

theorem info_refsec : (Tryz.prog.info? 320).map (fun i => (i.zero, i.size, i.bytes)) = some (some (.agg #[.slice none 0 0, .bool false]), 2, 32) := by kernel_rfl
def RDMid (w : World) (d : Nat) (l : List Say) (k : Nat) (wx : World) : Prop := ∃ v xs, Kept w wx ∧ Has wx (pts d (.cells #[v] 281 (0, 0)) :: rowS 320 2 v k xs :: l)
def RDPost (w : World) (d : Nat) (l : List Say) (k : Nat) (r : Ending) (wx : World) : Prop := r = .returned (.tuple #[]) ∧ RDMid w d l k wx

set_option maxHeartbeats 2000000 in
set_option maxRecDepth 100000 in
theorem ref_more {w : World} {l : List Say} {d : Nat} (h : Has w (pts d (.cells #[.slice none 0 0] 281 (0, 0)) :: l)) (n : Nat) (hn : n ≤ 4096) :
    Calls Tryz.prog 189 #[.pointer (some ⟨d, 0, none⟩), .int .i64 (n : Int)] w (RDPost w d l n) := by
  obtain ⟨i0, I1, I2, I3, I4⟩ := info_parts info_refsec
  have H0 : Hid (RDMid w d l 0 w) := ⟨.slice none 0 0, [], Kept.refl w, (h.row_nil _ _).swap⟩
  clear h
  go_enter Tryz.func189, Tryz.ntmps189
  go_wp2
  go_loopg [4] n (fun gk i wr => ∃ k : Nat, k ≤ n ∧ gk = n - k ∧ i = .int .i64 k ∧ Hid (RDMid w d l k wr))
  case atStart => exact ⟨0, Nat.zero_le _, rfl, rfl, H0⟩
  case round =>
    clear H0
    obtain ⟨k, hk, rfl, rfl, HM⟩ := hrel
    by_cases hlt : k < n
    · obtain ⟨v, xs, hK, hh⟩ := HM.out
      obtain ⟨a, c, rfl, _⟩ := hh.row_val (e := 320) (size := 2) (v := v) (n := k) (xs := xs) (.tail _ (.head _))
      have s0 : wr.cell? ⟨d, 0, none⟩ = some (.slice a k c) := cell_of hh.got 0 rfl
      have ls := World.block_lt_of_cell? _ _ s0
      have HW := Lib.hid hh.drew
      have HK := Lib.hid hK.drew
      have HZ := Lib.hid (ref_zero (w := wr.drew))
      clear hh hK HM
      go_wp2_with fail
      go_region_law (first
        | (go_loud (refine step_append_row rfl (.tmp 14) (.tmp 16) 279 rfl 320 i0 (.agg #[.slice none 0 0, .bool false]) 2 32 Tryz.underlying279 I1 I2 I3 I4 rfl (by decide) (.slice a k c) k xs rfl (HRow.out.alloc_off _) ⟨_, 0, none⟩ 1 1 [.slice za zn zc, .bool false] rfl rfl (many_new _ [.slice za zn zc, .bool false] _ rfl) (by intro u hu; simp at hu; rcases hu with rfl | rfl <;> rfl) (by simp [maxLen]; omega) (by omega) ?_)
           intro v2 V2 hK2 h2; obtain ⟨a2, c2, rfl, _⟩ := h2.row_val (e := 320) (size := 2) (n := k + 1) (v := v2) (xs := xs ++ [.slice za zn zc, .bool false]) (.head _); have hp2 := h2.swap.got; have s1'' := cell_of hp2 0 rfl; have f1'' := thaw_of hp2 0; have H5 := Lib.hid h2; have HK5 := Lib.hid hK2; clear h2 hK2 hp2)
        | (go_simp; go_at_call 217; refine HZ.out.mono ?_; rintro r V ⟨za, zn, zc, rfl, hb⟩; have hv := HW.out.below hb; have s1' := cell_of hv.got 0 rfl; have l1' := World.block_lt_of_cell? _ _ s1'; have HRow : Hid (Has V (rowS 320 2 (.slice a k c) k xs :: pts d (.cells #[.slice a k c] 281 (0, 0)) :: l)) := hv.swap; have HK4 := Lib.hid (HK.out.trans (Kept.below hb)); clear hv hb))
      all_goals
        go_wp2
        go_roundg (n - (k + 1))
        case measure => omega
        case rel => exact ⟨k + 1, by omega, rfl, by simp, _, _, ((HK4.out.alloc _).trans HK5.out).setCell _ _, (H5.out.swap).setCell 0 (.slice a2 (k + 1) c2)⟩
    · obtain rfl : k = n := by omega
      go_wp2
      go_end0
      exact ⟨rfl, HM.out⟩

def RDNew (l : List Say) (w : World) (r : Ending) (w' : World) : Prop := ∃ d, r = .returned (.pointer (some ⟨d, 0, none⟩)) ∧ Kept w w' ∧ Has w' l
theorem ref_DiskNew {w : World} {l : List Say} (h : Has w l) (n : Nat) (h1 : 1 ≤ n) (hn : n ≤ 4096) : Calls Tryz.prog 131 #[.int .i64 (n : Int)] w (RDNew l w) := by
  have hA := h.alloc (.cells #[.slice none 0 0] 281)
  have HMo := Lib.hid (ref_more hA n hn)
  have HK : Hid (Kept w (w.alloc (.cells #[.slice none 0 0] 281))) := (Kept.refl w).alloc _
  have d1 : decide ((n : Int) < 1) = false := by simp; omega
  have d2 : decide ((4096 : Int) < n) = false := by simp; omega
  clear h hA
  go_enter Tryz.func131, Tryz.ntmps131
  go_wp2_with fail
  refine HMo.out.mono ?_
  rintro r w1 ⟨rfl, v, xs, hK, hh⟩
  have HF : Hid (Kept w w1 ∧ Has w1 l) := ⟨HK.out.trans hK, hh.tail.tail⟩
  clear hK hh HMo
  go_wp2
  go_ret
  exact ⟨_, rfl, HF.out⟩

theorem info_refdisk : (Tryz.prog.info? 226).map (fun i => (i.zero, i.size, i.bytes)) = some (some (.pointer none), 1, 8) := by kernel_rfl
def RefAdd (b n : Nat) (l : List Say) (w : World) (r : Ending) (w' : World) : Prop := ∃ x, r = .returned (.tuple #[.int .i64 x, .int .i64 0]) ∧ Kept w w' ∧ Has w' (refBankS b (n + 1) :: l)
set_option maxRecDepth 100000 in
theorem ref_BankAdd {w : World} {l : List Say} {b m : Nat} (h : Has w (refBankS b m :: l)) (hm : m < 8) (n : Nat) (h1 : 1 ≤ n) (hn : n ≤ 4096) :
    Calls Tryz.prog 73 #[.pointer (some ⟨b, 0, none⟩), .int .i64 (n : Int)] w (RefAdd b m l w) := by
  obtain ⟨⟨v, xs, done⟩, hh⟩ := h.opened
  have hh := hh.split
  simp only [List.cons_append, List.nil_append] at hh
  obtain ⟨a, c, rfl, _⟩ := hh.row_val (e := 226) (size := 1) (v := v) (n := m) (xs := xs) (.tail _ (.head _))
  have c0 : w.cell? ⟨b, 0, none⟩ = some (.slice a m c) := cell_of hh.got 0 rfl
  have c2 : w.cell? ⟨b, 2, none⟩ = some (.bool false) := cell_of hh.got 2 rfl
  have lb := World.block_lt_of_cell? _ _ c0
  have d1 : decide ((8 : Int) ≤ (m : Int)) = false := by simp; omega
  have HN := Lib.hid (ref_DiskNew hh n h1 hn)
  obtain ⟨i0, I1, I2, I3, I4⟩ := info_parts info_refdisk
  clear h hh
  go_enter Tryz.func73, Tryz.ntmps73
  go_wp2_with fail
  refine HN.out.mono ?_
  rintro r w1 ⟨d, rfl, hK, h3⟩
  have c0 : w1.cell? ⟨b, 0, none⟩ = some (.slice a m c) := cell_of h3.got 0 rfl
  have lb := World.block_lt_of_cell? _ _ c0
  have H3 := Lib.hid h3.swap
  have HK3 := Lib.hid hK
  clear hK h3 HN c2
  go_wp2_with (at_builtin; go_loud (refine wpList_append_row (l := pts b (.cells #[.slice a m c, .int .i64 (-1), .bool false, .int .i64 done] 222 (0, 0)) :: l) rfl (.tmp 25) (.tmp 27) 220 rfl 226 i0 (.pointer none) 1 8 Tryz.underlying220 I1 I2 I3 I4 rfl (by decide) _ m xs rfl ?hown ⟨_, 0, none⟩ 1 1 [ptrOf d] rfl rfl ?hnews ?hone ?h63 ?hby ?next))
  case hown => exact H3.out.alloc_off _
  case hnews => exact one_new _ _ _
  case hone => intro u hu; simp at hu; subst hu; rfl
  case h63 => simp [maxLen]; omega
  case hby => omega
  case next =>
    intro v2 w4 hK4 h4
    obtain ⟨a2, c2, rfl, _⟩ := h4.row_val (e := 226) (size := 1) (n := m + 1) (v := v2) (xs := xs ++ [ptrOf d]) (.head _)
    have hp := h4.swap.got
    have c0 : w4.cell? ⟨b, 0, none⟩ = some (.slice a m c) := cell_of hp 0 rfl
    have f0 := thaw_of hp 0
    have HF : Hid (Kept w (w4.setCell ⟨b, 0, none⟩ (.slice a2 (m + 1) c2)) ∧ Has (w4.setCell ⟨b, 0, none⟩ (.slice a2 (m + 1) c2)) (refBankS b (m + 1) :: l)) :=
      ⟨((HK3.out.alloc _).trans hK4).setCell _ _, Has.chosen (.slice a2 (m + 1) c2, xs ++ [ptrOf d], done) (h4.swap.setCell 0 (.slice a2 (m + 1) c2)).unite⟩
    clear hK4 h4 hp
    go_wp2
    go_ret2
    exact ⟨_, rfl, HF.out.1, HF.out.2⟩
end Go.Proofs.YtgbgneiciabidaaGreatDoor
