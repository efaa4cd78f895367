/-
  Frames (layer 2), the second part: single bytes, the packer, a frame.
-/
import Derived.Test.YtgbgneiciabidaaGreatDoorFrame
namespace Go.Proofs.YtgbgneiciabidaaGreatDoor
open Go Go.RowKit
set_option linter.unusedVariables false
set_option linter.unusedSimpArgs false

set_option maxHeartbeats 1000000 in
set_option maxRecDepth 100000 in
theorem pack_put1 {w : World} {L : List Say} {p : Nat} {cur : List Int} (h : Has w (packS p cur :: L)) (g c : Nat) (ns : List Int)
    (hm : rowS 3 1 (.slice (some ⟨g, 0, none⟩) ns.length c) ns.length (ns.map (Value.int .i64 ·)) ∈ L) (hns : ∀ x ∈ ns, 0 ≤ x ∧ x ≤ 255) (hlen : cur.length + ns.length ≤ 1000) :
    Calls Tryz.prog 190 #[.pointer (some ⟨p, 0, none⟩), .int .i64 1, .slice (some ⟨g, 0, none⟩) ns.length c] w (PutPost w p (cur ++ ns) L) := by
  obtain ⟨i0, I1, I2, I3, I4⟩ := info_parts info_u8
  have hns' := Lib.hid hns
  have Hm := Lib.hid hm
  have H0 : Hid (PackMid w p (cur ++ ns.take 0) L w) := ⟨Kept.refl w, by simpa using h⟩
  clear hm h hns
  go_enter Tryz.func190, Tryz.ntmps190
  go_wp2
  go_loopg [11] ns.length (fun gk i wr => ∃ (k : Nat), k ≤ ns.length ∧ gk = ns.length - k ∧ i = .int .i64 k ∧ Hid (PackMid w p (cur ++ ns.take k) L wr))
  case atStart => exact ⟨0, Nat.zero_le _, rfl, rfl, H0⟩
  case round =>
    clear H0
    obtain ⟨k, hk, rfl, rfl, HM⟩ := hrel
    by_cases hlt : k < ns.length
    · obtain ⟨hK, hh⟩ := HM.out
      obtain ⟨bv, hh⟩ := hh.pack_open
      simp only [packParts, List.cons_append, List.nil_append] at hh
      obtain ⟨_, a', c', hv', _, _, hr⟩ := hh.row_read (v := .slice (some ⟨g, 0, none⟩) ns.length c) (n := ns.length) (xs := ns.map (Value.int .i64 ·)) (.tail _ (.tail _ Hm.out))
      cases hv'
      obtain ⟨g', hg', hc, _⟩ := hr k (.int .i64 ns[k]) (by simp [hlt])
      cases hg'
      have hb := hns'.out ns[k] (List.getElem_mem hlt)
      have hcl : (cur ++ ns.take k).length + 1 ≤ 1000 := by
        rw [List.length_append, List.length_take, Nat.min_eq_left hk]; omega
      have hnext : Hid (cur ++ ns.take (k + 1) = (cur ++ ns.take k) ++ [ns[k]]) := by
        show _ = _
        rw [List.take_succ_eq_append_getElem hlt, List.append_assoc]
      generalize ns[k] = x at *
      generalize cur ++ ns.take k = cur' at *
      obtain ⟨hx0, hx1⟩ := hb
      obtain ⟨a0, c0, rfl, _⟩ := hh.row_val (e := 5) (size := 1) (v := bv) (n := cur'.length) (xs := cur'.map byteVal) (.tail _ (.head _))
      have hH0 : Has wr (pts p (.cells #[.slice a0 cur'.length c0, .bool false] 283 (0, 0)) :: rowS 5 1 (.slice a0 cur'.length c0) cur'.length (cur'.map byteVal) :: L) := hh
      obtain ⟨N0, hN0⟩ : ∃ N0, N0 = cur'.length := ⟨_, rfl⟩
      obtain ⟨xs0, hxs0⟩ : ∃ xs, xs = cur'.map byteVal := ⟨_, rfl⟩
      rw [← hN0, ← hxs0] at hH0
      rw [← hN0] at hcl
      have HN0 := Lib.hid hN0
      have HX0 := Lib.hid hxs0
      have H0 := Lib.hid hH0
      have HK0 := Lib.hid hK
      have p0 := cell_of hH0.got 0 rfl
      have p1 := cell_of hH0.got 1 rfl
      have f0 := thaw_of hH0.got 0
      have f1 := thaw_of hH0.got 1
      have hk1 : (k : Int) < (ns.length : Int) := by omega
      have hk0 : (0 : Int) ≤ k := by omega
      have hx2 : decide (x < 0) = false := by simp; omega
      have hx3 : x / 256 = 0 := by omega
      have l0 := World.block_lt_of_cell? _ _ p0
      clear hr hh hK HM hH0 hN0 hxs0
      go_wp2_with (at_builtin; go_loud (refine wpList_append_row (l := pts p (.cells #[.slice a0 N0 c0, .bool false] 283 (0, 0)) :: L) rfl (.tmp 149) (.tmp 152) 141 rfl 5 i0 (.int .u8 0) 1 1 Tryz.underlying141 I1 I2 I3 I4 rfl (by decide) _ N0 xs0 rfl ?hown ⟨_, 0, none⟩ 1 1 [byteVal x] rfl rfl (many_new _ [byteVal x] _ (by simp [World.setCell])) (by intro u hu; simp at hu; rcases hu with rfl <;> rfl) ?h63 ?hby ?next))
      case hown => exact ((H0.out.setCell 1 (.bool false)).swap).alloc_off _
      case h63 => simp [maxLen]; omega
      case hby => omega
      case next =>
        intro v1 w1 hK1 h1
        obtain ⟨xs1, hxs1⟩ : ∃ y, y = xs0 ++ [byteVal x] := ⟨_, rfl⟩
        obtain ⟨N1, hN1⟩ : ∃ y, y = N0 + 1 := ⟨_, rfl⟩
        rw [← hxs1, ← hN1] at h1
        obtain ⟨a1, c1, rfl, _⟩ := h1.row_val (e := 5) (size := 1) (v := v1) (n := N1) (xs := xs1) (.head _)
        have hp1 := h1.swap.got
        have p0 := cell_of hp1 0 rfl
        have p1 := cell_of hp1 1 rfl
        have f0 := thaw_of hp1 0
        have f1 := thaw_of hp1 1
        have l0 := World.block_lt_of_cell? _ _ p0
        have hB1 : N1 ≤ 1000 := by omega
        have H1 := Lib.hid (h1.swap.setCell 0 (.slice a1 N1 c1))
        have HK1 : Hid (Kept w (w1.setCell ⟨p, 0, none⟩ (.slice a1 N1 c1))) := (((HK0.out.setCell _ _).alloc _).trans hK1).setCell _ _
        have HN1 := Lib.hid hN1
        have HX1 := Lib.hid hxs1
        clear hK1 h1 hp1 HK0 H0 hN1 hxs1
        go_wp2
        go_roundg (ns.length - (k + 1))
        case measure => omega
        case rel =>
          refine ⟨k + 1, by omega, rfl, by simp, HK1.out, ?_⟩
          rw [hnext.out]
          refine Has.pack_shut (bv := .slice a1 N1 c1) ?_
          have h9 := H1.out
          have e1 : (cur' ++ [x]).length = N1 := by rw [HN1.out, HN0.out]; simp
          have e2 : (cur' ++ [x]).map byteVal = xs1 := by rw [HX1.out, HX0.out]; simp
          simp only [packParts, bytesS]
          rw [e1, e2]
          exact h9
    · obtain rfl : k = ns.length := by omega
      have HM' : Hid (PackMid w p (cur ++ ns) L wr) := by have := HM.out; rw [List.take_length] at this; exact this
      clear HM
      go_wp2
      go_ret
      exact ⟨rfl, HM'.out⟩
end Go.Proofs.YtgbgneiciabidaaGreatDoor
