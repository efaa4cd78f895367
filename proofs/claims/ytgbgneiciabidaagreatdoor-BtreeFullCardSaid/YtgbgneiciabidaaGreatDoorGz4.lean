/-
  Frames (layer 2): the sum of bytes, words, packers.
-/
import Derived.Test.YtgbgneiciabidaaGreatDoorGz3
import Derived.Deep.RegionHeld
import Derived.Laws.CopyOwn
namespace Go.Proofs.YtgbgneiciabidaaGreatDoor
open Go Go.RowKit
set_option linter.unusedVariables false
set_option linter.unusedSimpArgs false

def crcBit (s : Int) : Int := if bits BinOp.and .u32 s 1 == 1 then bits BinOp.xor .u32 (s / 2) 3988292384 else s / 2
def crcBits : Nat → Int → Int
  | 0, s => s
  | n + 1, s => crcBit (crcBits n s)
def crcByte (s c : Int) : Int := crcBits 8 (bits BinOp.xor .u32 s (c % 4294967296))
def crcTo (cur : List Int) (k : Nat) : Int := (cur.take k).foldl crcByte 4294967295
theorem crcTo_succ (cur : List Int) (k : Nat) (h : k < cur.length) : crcTo cur (k + 1) = crcByte (crcTo cur k) cur[k] := by
  unfold crcTo
  rw [List.take_succ_eq_append_getElem h, List.foldl_append]; rfl
def sumOf (cur : List Int) : Int := bits BinOp.xor .u32 IntKind.u32.max (crcTo cur cur.length)

set_option maxRecDepth 100000 in
theorem frame_Sum {w : World} {l : List Say} {v : Value} {cur : List Int} (h : Has w l) (hm : bytesS v cur ∈ l) (hne : 0 < cur.length) (hlen : cur.length ≤ 128) (g c : Nat) (hg : w.cell? ⟨g, 0, none⟩ = some v) :
    Calls Tryz.prog 193 #[.slice (some ⟨g, 0, none⟩) 1 c] w fun r w' => r = .returned (.int .u32 (sumOf cur)) ∧ w = w' := by
  obtain ⟨gd, cd, rfl, hcd, hdat, _⟩ := h.bytes_read (v := v) (cur := cur) hm hne
  have HD := Lib.hid hdat
  have l0 := World.block_lt_of_cell? _ _ hg
  clear hdat h hm
  go_enter Tryz.func193, Tryz.ntmps193
  go_wp2
  refine wp_loop_rounds 2 ?_
  rw [rounds_succ]
  go_wp2
  go_loopg [3, 17] cur.length (fun gk s i wr => ∃ (k : Nat), k ≤ cur.length ∧ gk = cur.length - k ∧ i = .int .i64 k ∧ s = .int .u32 (crcTo cur k) ∧ wr = w)
  case atStart => exact ⟨0, Nat.zero_le _, rfl, rfl, rfl, rfl⟩
  case round =>
    obtain ⟨k, hk, rfl, rfl, rfl, rfl⟩ := hrel
    by_cases hlt : k < cur.length
    · have hc := HD.out k (byteVal cur[k]) (by simp [hlt])
      unfold byteVal at hc
      have hk1 : (k : Int) < (cur.length : Int) := by omega
      have hk0 : (0 : Int) ≤ k := by omega
      have hS := Lib.hid (crcTo_succ cur k hlt)
      generalize crcTo cur k = S at *
      generalize cur[k] = x at *
      go_wp2
      go_loopg [3, 25] 8 (fun gk s i wx => ∃ (j : Nat), j ≤ 8 ∧ gk = 8 - j ∧ i = .int .i64 j ∧ s = .int .u32 (crcBits j (bits BinOp.xor .u32 S (x % 4294967296))) ∧ wx = wr)
      case atStart => exact ⟨0, Nat.zero_le _, rfl, rfl, rfl, rfl⟩
      case round =>
        obtain ⟨j, hj, rfl, rfl, rfl, rfl⟩ := hrel
        by_cases hlj : j < 8
        · have hB : Hid (crcBits (j + 1) (bits BinOp.xor .u32 S (x % 4294967296)) = crcBit (crcBits j (bits BinOp.xor .u32 S (x % 4294967296)))) := rfl
          generalize crcBits j (bits BinOp.xor .u32 S (x % 4294967296)) = T at *
          by_cases hb : (bits BinOp.and .u32 T 1 == 1) = true
          · go_wp2
            go_roundg (8 - (j + 1))
            case measure => omega
            case rel =>
              refine ⟨j + 1, by omega, rfl, by simp, ?_, rfl⟩
              rw [hB.out, crcBit, if_pos hb]
          · have hb' : (bits BinOp.and .u32 T 1 == 1) = false := by simpa using hb
            go_wp2
            go_roundg (8 - (j + 1))
            case measure => omega
            case rel =>
              refine ⟨j + 1, by omega, rfl, by simp, ?_, rfl⟩
              rw [hB.out, crcBit, if_neg hb]
        · obtain rfl : j = 8 := by omega
          have hB : Hid (crcByte S x = crcBits 8 (bits BinOp.xor .u32 S (x % 4294967296))) := rfl
          go_wp2
          go_roundg (cur.length - (k + 1))
          case measure => omega
          case rel =>
            exact ⟨k + 1, by omega, rfl, by simp, by rw [hS.out, hB.out], rfl⟩
    · obtain rfl : k = cur.length := by omega
      go_wp2
      rw [rounds_succ]
      go_wp2
      go_ret
      exact ⟨rfl, rfl⟩

def bytes8 (x : Int) : List Int := [x / 72057594037927936, x / 281474976710656 % 256, x / 1099511627776 % 256, x / 4294967296 % 256, x / 16777216 % 256, x / 65536 % 256, x / 256 % 256, x % 256]
theorem many_new (w : World) (vs : List Value) (t : TypeId) {b : Nat} (hb : w.heap.size = b) : ∀ j u, vs[j]? = some u → (w.alloc (.cells vs.toArray t)).cell? ((⟨b, 0, none⟩ : Addr).add j) = some u := by
  intro j u hu
  subst hb
  rw [Addr.add_lit, World.cell?_alloc_new]
  simpa using hu
theorem flat8_len (ns : List Int) : (ns.flatMap bytes8).length = 8 * ns.length := by
  induction ns with
  | nil => rfl
  | cons x ns ih => rw [List.flatMap_cons, List.length_append, ih, List.length_cons]; simp [bytes8]; omega
def packParts (p : Nat) (cur : List Int) (bv : Value) : List Say := [pts p (.cells #[bv, .bool false] 283 (0, 0)), bytesS bv cur]
def packS (p : Nat) (cur : List Int) : Say := ex fun bv : Value => all (packParts p cur bv)
theorem Has.pack_open {w : World} {l : List Say} {p : Nat} {cur : List Int} (h : Has w (packS p cur :: l)) : ∃ bv, Has w (packParts p cur bv ++ l) := by
  obtain ⟨x, h⟩ := h.opened
  exact ⟨x, h.split⟩
theorem Has.pack_shut {w : World} {l : List Say} {p : Nat} {cur : List Int} {bv : Value} (h : Has w (packParts p cur bv ++ l)) : Has w (packS p cur :: l) := Has.chosen bv h.unite
def PackMid (w : World) (p : Nat) (cur : List Int) (l : List Say) (wx : World) : Prop := Kept w wx ∧ Has wx (packS p cur :: l)
def PutPost (w : World) (p : Nat) (cur : List Int) (l : List Say) (r : Ending) (wx : World) : Prop := r = .returned (.pointer (some ⟨p, 0, none⟩)) ∧ PackMid w p cur l wx

set_option maxHeartbeats 1000000 in
set_option maxRecDepth 100000 in
theorem pack_put8 {w : World} {L : List Say} {p : Nat} {cur : List Int} (h : Has w (packS p cur :: L)) (g c : Nat) (ns : List Int)
    (hm : rowS 3 1 (.slice (some ⟨g, 0, none⟩) ns.length c) ns.length (ns.map (Value.int .i64 ·)) ∈ L) (hns : ∀ x ∈ ns, 0 ≤ x ∧ x ≤ 4611686018427387903) (hlen : cur.length + 8 * ns.length ≤ 1000) :
    Calls Tryz.prog 190 #[.pointer (some ⟨p, 0, none⟩), .int .i64 8, .slice (some ⟨g, 0, none⟩) ns.length c] w (PutPost w p (cur ++ ns.flatMap bytes8) L) := by
  obtain ⟨i0, I1, I2, I3, I4⟩ := info_parts info_u8
  have hns' := Lib.hid hns
  have Hm := Lib.hid hm
  have H0 : Hid (PackMid w p (cur ++ (ns.take 0).flatMap bytes8) L w) := ⟨Kept.refl w, by simpa using h⟩
  clear hm h hns
  go_enter Tryz.func190, Tryz.ntmps190
  go_wp2
  go_loopg [11] ns.length (fun gk i wr => ∃ (k : Nat), k ≤ ns.length ∧ gk = ns.length - k ∧ i = .int .i64 k ∧ Hid (PackMid w p (cur ++ (ns.take k).flatMap bytes8) L wr))
  case atStart => exact ⟨0, Nat.zero_le _, rfl, rfl, H0⟩
  case round =>
    clear H0
    obtain ⟨k, hk, rfl, rfl, HM⟩ := hrel
    by_cases hlt : k < ns.length
    · obtain ⟨hK, hh⟩ := HM.out
      obtain ⟨bv, hh⟩ := hh.pack_open
      simp only [packParts, List.cons_append, List.nil_append] at hh
      obtain ⟨_, a', c', hv', _, _, hr⟩ := hh.row_read (v := .slice (some ⟨g, 0, none⟩) ns.length c) (n := ns.length) (xs := ns.map (Value.int .i64 ·)) (.tail _ (.tail _ Hm.out))
      cases hv'
      obtain ⟨g', hg', hc, _⟩ := hr k (.int .i64 ns[k]) (by simp [hlt])
      cases hg'
      have hb := hns'.out ns[k] (List.getElem_mem hlt)
      have hcl : (cur ++ (ns.take k).flatMap bytes8).length + 8 ≤ 1000 := by
        rw [List.length_append, flat8_len, List.length_take, Nat.min_eq_left hk]; omega
      have hnext : Hid (cur ++ (ns.take (k + 1)).flatMap bytes8 = (cur ++ (ns.take k).flatMap bytes8) ++ bytes8 ns[k]) := by
        show _ = _
        rw [List.take_succ_eq_append_getElem hlt, List.flatMap_append, List.append_assoc]; simp
      generalize ns[k] = x at *
      generalize cur ++ (ns.take k).flatMap bytes8 = cur' at *
      obtain ⟨hx0, hx1⟩ := hb
      obtain ⟨a0, c0, rfl, _⟩ := hh.row_val (e := 5) (size := 1) (v := bv) (n := cur'.length) (xs := cur'.map byteVal) (.tail _ (.head _))
      have hH0 : Has wr (pts p (.cells #[.slice a0 cur'.length c0, .bool false] 283 (0, 0)) :: rowS 5 1 (.slice a0 cur'.length c0) cur'.length (cur'.map byteVal) :: L) := hh
      obtain ⟨N0, hN0⟩ : ∃ N0, N0 = cur'.length := ⟨_, rfl⟩
      obtain ⟨xs0, hxs0⟩ : ∃ xs, xs = cur'.map byteVal := ⟨_, rfl⟩
      rw [← hN0, ← hxs0] at hH0
      rw [← hN0] at hcl
      have HN0 := Lib.hid hN0
      have HX0 := Lib.hid hxs0
      have H0 := Lib.hid hH0
      have HK0 := Lib.hid hK
      have p0 := cell_of hH0.got 0 rfl
      have p1 := cell_of hH0.got 1 rfl
      have f0 := thaw_of hH0.got 0
      have f1 := thaw_of hH0.got 1
      have hk1 : (k : Int) < (ns.length : Int) := by omega
      have hk0 : (0 : Int) ≤ k := by omega
      have hx2 : decide (x < 0) = false := by simp; omega
      have hx3 : decide (4611686018427387903 < x) = false := by simp; omega
      have l0 := World.block_lt_of_cell? _ _ p0
      clear hr hh hK HM hH0 hN0 hxs0
      go_wp2_with (at_builtin; go_loud (refine wpList_append_row (l := pts p (.cells #[.slice a0 N0 c0, .bool false] 283 (0, 0)) :: L) rfl (.tmp 41) (.tmp 54) 141 rfl 5 i0 (.int .u8 0) 1 1 Tryz.underlying141 I1 I2 I3 I4 rfl (by decide) _ N0 xs0 rfl ?hown ⟨_, 0, none⟩ 4 4 [byteVal (x / 72057594037927936), byteVal (x / 281474976710656 % 256), byteVal (x / 1099511627776 % 256), byteVal (x / 4294967296 % 256)] rfl rfl (many_new _ [byteVal (x / 72057594037927936), byteVal (x / 281474976710656 % 256), byteVal (x / 1099511627776 % 256), byteVal (x / 4294967296 % 256)] _ (by simp [World.setCell])) (by intro u hu; simp at hu; rcases hu with rfl | rfl | rfl | rfl <;> rfl) ?h63 ?hby ?next))
      case hown => exact ((H0.out.setCell 1 (.bool false)).swap).alloc_off _
      case h63 => simp [maxLen]; omega
      case hby => omega
      case next =>
        intro v1 w1 hK1 h1
        obtain ⟨xs1, hxs1⟩ : ∃ y, y = xs0 ++ [byteVal (x / 72057594037927936), byteVal (x / 281474976710656 % 256), byteVal (x / 1099511627776 % 256), byteVal (x / 4294967296 % 256)] := ⟨_, rfl⟩
        obtain ⟨N1, hN1⟩ : ∃ y, y = N0 + 4 := ⟨_, rfl⟩
        rw [← hxs1, ← hN1] at h1
        obtain ⟨a1, c1, rfl, _⟩ := h1.row_val (e := 5) (size := 1) (v := v1) (n := N1) (xs := xs1) (.head _)
        have hp1 := h1.swap.got
        have p0 := cell_of hp1 0 rfl
        have p1 := cell_of hp1 1 rfl
        have f0 := thaw_of hp1 0
        have f1 := thaw_of hp1 1
        have l0 := World.block_lt_of_cell? _ _ p0
        have hB1 : N1 ≤ 996 := by omega
        have H1 := Lib.hid (h1.swap.setCell 0 (.slice a1 N1 c1))
        have HK1 : Hid (Kept w (w1.setCell ⟨p, 0, none⟩ (.slice a1 N1 c1))) := (((HK0.out.setCell _ _).alloc _).trans hK1).setCell _ _
        have HN1 := Lib.hid hN1
        have HX1 := Lib.hid hxs1
        clear hK1 h1 hp1 HK0 H0 hN1 hxs1
        go_wp2_with (at_builtin; go_loud (refine wpList_append_row (l := pts p (.cells #[.slice a1 N1 c1, .bool false] 283 (0, 0)) :: L) rfl (.tmp 82) (.tmp 89) 141 rfl 5 i0 (.int .u8 0) 1 1 Tryz.underlying141 I1 I2 I3 I4 rfl (by decide) _ N1 xs1 rfl ?hown ⟨_, 0, none⟩ 2 2 [byteVal (x / 16777216 % 256), byteVal (x / 65536 % 256)] rfl rfl (many_new _ [byteVal (x / 16777216 % 256), byteVal (x / 65536 % 256)] _ (by simp [World.setCell])) (by intro u hu; simp at hu; rcases hu with rfl | rfl <;> rfl) ?h63 ?hby ?next))
        case hown => exact ((H1.out.setCell 1 (.bool false)).swap).alloc_off _
        case h63 => simp [maxLen]; omega
        case hby => omega
        case next =>
          intro v2 w2 hK2 h2
          obtain ⟨xs2, hxs2⟩ : ∃ y, y = xs1 ++ [byteVal (x / 16777216 % 256), byteVal (x / 65536 % 256)] := ⟨_, rfl⟩
          obtain ⟨N2, hN2⟩ : ∃ y, y = N1 + 2 := ⟨_, rfl⟩
          rw [← hxs2, ← hN2] at h2
          obtain ⟨a2, c2, rfl, _⟩ := h2.row_val (e := 5) (size := 1) (v := v2) (n := N2) (xs := xs2) (.head _)
          have hp2 := h2.swap.got
          have p0 := cell_of hp2 0 rfl
          have p1 := cell_of hp2 1 rfl
          have f0 := thaw_of hp2 0
          have f1 := thaw_of hp2 1
          have l0 := World.block_lt_of_cell? _ _ p0
          have hB2 : N2 ≤ 998 := by omega
          have H2 := Lib.hid (h2.swap.setCell 0 (.slice a2 N2 c2))
          have HK2 : Hid (Kept w (w2.setCell ⟨p, 0, none⟩ (.slice a2 N2 c2))) := (((HK1.out.setCell _ _).alloc _).trans hK2).setCell _ _
          have HN2 := Lib.hid hN2
          have HX2 := Lib.hid hxs2
          clear hK2 h2 hp2 HK1 H1 hN2 hxs2
          go_wp2_with (at_builtin; go_loud (refine wpList_append_row (l := pts p (.cells #[.slice a2 N2 c2, .bool false] 283 (0, 0)) :: L) rfl (.tmp 117) (.tmp 121) 141 rfl 5 i0 (.int .u8 0) 1 1 Tryz.underlying141 I1 I2 I3 I4 rfl (by decide) _ N2 xs2 rfl ?hown ⟨_, 0, none⟩ 1 1 [byteVal (x / 256 % 256)] rfl rfl (many_new _ [byteVal (x / 256 % 256)] _ (by simp [World.setCell])) (by intro u hu; simp at hu; rcases hu with rfl <;> rfl) ?h63 ?hby ?next))
          case hown => exact ((H2.out.setCell 1 (.bool false)).swap).alloc_off _
          case h63 => simp [maxLen]; omega
          case hby => omega
          case next =>
            intro v3 w3 hK3 h3
            obtain ⟨xs3, hxs3⟩ : ∃ y, y = xs2 ++ [byteVal (x / 256 % 256)] := ⟨_, rfl⟩
            obtain ⟨N3, hN3⟩ : ∃ y, y = N2 + 1 := ⟨_, rfl⟩
            rw [← hxs3, ← hN3] at h3
            obtain ⟨a3, c3, rfl, _⟩ := h3.row_val (e := 5) (size := 1) (v := v3) (n := N3) (xs := xs3) (.head _)
            have hp3 := h3.swap.got
            have p0 := cell_of hp3 0 rfl
            have p1 := cell_of hp3 1 rfl
            have f0 := thaw_of hp3 0
            have f1 := thaw_of hp3 1
            have l0 := World.block_lt_of_cell? _ _ p0
            have hB3 : N3 ≤ 999 := by omega
            have H3 := Lib.hid (h3.swap.setCell 0 (.slice a3 N3 c3))
            have HK3 : Hid (Kept w (w3.setCell ⟨p, 0, none⟩ (.slice a3 N3 c3))) := (((HK2.out.setCell _ _).alloc _).trans hK3).setCell _ _
            have HN3 := Lib.hid hN3
            have HX3 := Lib.hid hxs3
            clear hK3 h3 hp3 HK2 H2 hN3 hxs3
            go_wp2_with (at_builtin; go_loud (refine wpList_append_row (l := pts p (.cells #[.slice a3 N3 c3, .bool false] 283 (0, 0)) :: L) rfl (.tmp 149) (.tmp 152) 141 rfl 5 i0 (.int .u8 0) 1 1 Tryz.underlying141 I1 I2 I3 I4 rfl (by decide) _ N3 xs3 rfl ?hown ⟨_, 0, none⟩ 1 1 [byteVal (x % 256)] rfl rfl (many_new _ [byteVal (x % 256)] _ (by simp [World.setCell])) (by intro u hu; simp at hu; rcases hu with rfl <;> rfl) ?h63 ?hby ?next))
            case hown => exact ((H3.out.setCell 1 (.bool false)).swap).alloc_off _
            case h63 => simp [maxLen]; omega
            case hby => omega
            case next =>
              intro v4 w4 hK4 h4
              obtain ⟨xs4, hxs4⟩ : ∃ y, y = xs3 ++ [byteVal (x % 256)] := ⟨_, rfl⟩
              obtain ⟨N4, hN4⟩ : ∃ y, y = N3 + 1 := ⟨_, rfl⟩
              rw [← hxs4, ← hN4] at h4
              obtain ⟨a4, c4, rfl, _⟩ := h4.row_val (e := 5) (size := 1) (v := v4) (n := N4) (xs := xs4) (.head _)
              have hp4 := h4.swap.got
              have p0 := cell_of hp4 0 rfl
              have p1 := cell_of hp4 1 rfl
              have f0 := thaw_of hp4 0
              have f1 := thaw_of hp4 1
              have l0 := World.block_lt_of_cell? _ _ p0
              have hB4 : N4 ≤ 1000 := by omega
              have H4 := Lib.hid (h4.swap.setCell 0 (.slice a4 N4 c4))
              have HK4 : Hid (Kept w (w4.setCell ⟨p, 0, none⟩ (.slice a4 N4 c4))) := (((HK3.out.setCell _ _).alloc _).trans hK4).setCell _ _
              have HN4 := Lib.hid hN4
              have HX4 := Lib.hid hxs4
              clear hK4 h4 hp4 HK3 H3 hN4 hxs4
              go_wp2
              go_roundg (ns.length - (k + 1))
              case measure => omega
              case rel =>
                refine ⟨k + 1, by omega, rfl, by simp, HK4.out, ?_⟩
                rw [hnext.out]
                refine Has.pack_shut (bv := .slice a4 N4 c4) ?_
                have h9 := H4.out
                have e1 : (cur' ++ bytes8 x).length = N4 := by rw [HN4.out, HN3.out, HN2.out, HN1.out, HN0.out]; simp [bytes8]
                have e2 : (cur' ++ bytes8 x).map byteVal = xs4 := by rw [HX4.out, HX3.out, HX2.out, HX1.out, HX0.out]; simp [bytes8]
                simp only [packParts, bytesS]
                rw [e1, e2]
                exact h9
    · obtain rfl : k = ns.length := by omega
      have HM' : Hid (PackMid w p (cur ++ ns.flatMap bytes8) L wr) := by have := HM.out; rw [List.take_length] at this; exact this
      clear HM
      go_wp2
      go_ret
      exact ⟨rfl, HM'.out⟩
end Go.Proofs.YtgbgneiciabidaaGreatDoor
/-
  Frames (layer 2), the second part: single bytes, the packer, a frame.
-/
namespace Go.Proofs.YtgbgneiciabidaaGreatDoor
open Go Go.RowKit
set_option linter.unusedVariables false
set_option linter.unusedSimpArgs false

set_option maxHeartbeats 1000000 in
set_option maxRecDepth 100000 in
theorem pack_put1 {w : World} {L : List Say} {p : Nat} {cur : List Int} (h : Has w (packS p cur :: L)) (g c : Nat) (ns : List Int)
    (hm : rowS 3 1 (.slice (some ⟨g, 0, none⟩) ns.length c) ns.length (ns.map (Value.int .i64 ·)) ∈ L) (hns : ∀ x ∈ ns, 0 ≤ x ∧ x ≤ 255) (hlen : cur.length + ns.length ≤ 1000) :
    Calls Tryz.prog 190 #[.pointer (some ⟨p, 0, none⟩), .int .i64 1, .slice (some ⟨g, 0, none⟩) ns.length c] w (PutPost w p (cur ++ ns) L) := by
  obtain ⟨i0, I1, I2, I3, I4⟩ := info_parts info_u8
  have hns' := Lib.hid hns
  have Hm := Lib.hid hm
  have H0 : Hid (PackMid w p (cur ++ ns.take 0) L w) := ⟨Kept.refl w, by simpa using h⟩
  clear hm h hns
  go_enter Tryz.func190, Tryz.ntmps190
  go_wp2
  go_loopg [11] ns.length (fun gk i wr => ∃ (k : Nat), k ≤ ns.length ∧ gk = ns.length - k ∧ i = .int .i64 k ∧ Hid (PackMid w p (cur ++ ns.take k) L wr))
  case atStart => exact ⟨0, Nat.zero_le _, rfl, rfl, H0⟩
  case round =>
    clear H0
    obtain ⟨k, hk, rfl, rfl, HM⟩ := hrel
    by_cases hlt : k < ns.length
    · obtain ⟨hK, hh⟩ := HM.out
      obtain ⟨bv, hh⟩ := hh.pack_open
      simp only [packParts, List.cons_append, List.nil_append] at hh
      obtain ⟨_, a', c', hv', _, _, hr⟩ := hh.row_read (v := .slice (some ⟨g, 0, none⟩) ns.length c) (n := ns.length) (xs := ns.map (Value.int .i64 ·)) (.tail _ (.tail _ Hm.out))
      cases hv'
      obtain ⟨g', hg', hc, _⟩ := hr k (.int .i64 ns[k]) (by simp [hlt])
      cases hg'
      have hb := hns'.out ns[k] (List.getElem_mem hlt)
      have hcl : (cur ++ ns.take k).length + 1 ≤ 1000 := by
        rw [List.length_append, List.length_take, Nat.min_eq_left hk]; omega
      have hnext : Hid (cur ++ ns.take (k + 1) = (cur ++ ns.take k) ++ [ns[k]]) := by
        show _ = _
        rw [List.take_succ_eq_append_getElem hlt, List.append_assoc]
      generalize ns[k] = x at *
      generalize cur ++ ns.take k = cur' at *
      obtain ⟨hx0, hx1⟩ := hb
      obtain ⟨a0, c0, rfl, _⟩ := hh.row_val (e := 5) (size := 1) (v := bv) (n := cur'.length) (xs := cur'.map byteVal) (.tail _ (.head _))
      have hH0 : Has wr (pts p (.cells #[.slice a0 cur'.length c0, .bool false] 283 (0, 0)) :: rowS 5 1 (.slice a0 cur'.length c0) cur'.length (cur'.map byteVal) :: L) := hh
      obtain ⟨N0, hN0⟩ : ∃ N0, N0 = cur'.length := ⟨_, rfl⟩
      obtain ⟨xs0, hxs0⟩ : ∃ xs, xs = cur'.map byteVal := ⟨_, rfl⟩
      rw [← hN0, ← hxs0] at hH0
      rw [← hN0] at hcl
      have HN0 := Lib.hid hN0
      have HX0 := Lib.hid hxs0
      have H0 := Lib.hid hH0
      have HK0 := Lib.hid hK
      have p0 := cell_of hH0.got 0 rfl
      have p1 := cell_of hH0.got 1 rfl
      have f0 := thaw_of hH0.got 0
      have f1 := thaw_of hH0.got 1
      have hk1 : (k : Int) < (ns.length : Int) := by omega
      have hk0 : (0 : Int) ≤ k := by omega
      have hx2 : decide (x < 0) = false := by simp; omega
      have hx3 : x / 256 = 0 := by omega
      have l0 := World.block_lt_of_cell? _ _ p0
      clear hr hh hK HM hH0 hN0 hxs0
      go_wp2_with (at_builtin; go_loud (refine wpList_append_row (l := pts p (.cells #[.slice a0 N0 c0, .bool false] 283 (0, 0)) :: L) rfl (.tmp 149) (.tmp 152) 141 rfl 5 i0 (.int .u8 0) 1 1 Tryz.underlying141 I1 I2 I3 I4 rfl (by decide) _ N0 xs0 rfl ?hown ⟨_, 0, none⟩ 1 1 [byteVal x] rfl rfl (many_new _ [byteVal x] _ (by simp [World.setCell])) (by intro u hu; simp at hu; rcases hu with rfl <;> rfl) ?h63 ?hby ?next))
      case hown => exact ((H0.out.setCell 1 (.bool false)).swap).alloc_off _
      case h63 => simp [maxLen]; omega
      case hby => omega
      case next =>
        intro v1 w1 hK1 h1
        obtain ⟨xs1, hxs1⟩ : ∃ y, y = xs0 ++ [byteVal x] := ⟨_, rfl⟩
        obtain ⟨N1, hN1⟩ : ∃ y, y = N0 + 1 := ⟨_, rfl⟩
        rw [← hxs1, ← hN1] at h1
        obtain ⟨a1, c1, rfl, _⟩ := h1.row_val (e := 5) (size := 1) (v := v1) (n := N1) (xs := xs1) (.head _)
        have hp1 := h1.swap.got
        have p0 := cell_of hp1 0 rfl
        have p1 := cell_of hp1 1 rfl
        have f0 := thaw_of hp1 0
        have f1 := thaw_of hp1 1
        have l0 := World.block_lt_of_cell? _ _ p0
        have hB1 : N1 ≤ 1000 := by omega
        have H1 := Lib.hid (h1.swap.setCell 0 (.slice a1 N1 c1))
        have HK1 : Hid (Kept w (w1.setCell ⟨p, 0, none⟩ (.slice a1 N1 c1))) := (((HK0.out.setCell _ _).alloc _).trans hK1).setCell _ _
        have HN1 := Lib.hid hN1
        have HX1 := Lib.hid hxs1
        clear hK1 h1 hp1 HK0 H0 hN1 hxs1
        go_wp2
        go_roundg (ns.length - (k + 1))
        case measure => omega
        case rel =>
          refine ⟨k + 1, by omega, rfl, by simp, HK1.out, ?_⟩
          rw [hnext.out]
          refine Has.pack_shut (bv := .slice a1 N1 c1) ?_
          have h9 := H1.out
          have e1 : (cur' ++ [x]).length = N1 := by rw [HN1.out, HN0.out]; simp
          have e2 : (cur' ++ [x]).map byteVal = xs1 := by rw [HX1.out, HX0.out]; simp
          simp only [packParts, bytesS]
          rw [e1, e2]
          exact h9
    · obtain rfl : k = ns.length := by omega
      have HM' : Hid (PackMid w p (cur ++ ns) L wr) := by have := HM.out; rw [List.take_length] at this; exact this
      clear HM
      go_wp2
      go_ret
      exact ⟨rfl, HM'.out⟩
end Go.Proofs.YtgbgneiciabidaaGreatDoor
/-
  Frames (layer 2), the third part: the packer's other methods.
-/
namespace Go.Proofs.YtgbgneiciabidaaGreatDoor
open Go Go.RowKit
set_option linter.unusedVariables false
set_option linter.unusedSimpArgs false

def PackNew (l : List Say) (w : World) (r : Ending) (w' : World) : Prop := ∃ p, r = .returned (.pointer (some ⟨p, 0, none⟩)) ∧ PackMid w p [] l w'
theorem pack_New {w : World} {l : List Say} (h : Has w l) : Calls Tryz.prog 133 #[] w (PackNew l w) := by
  have h1 := (h.alloc (.cells #[.slice none 0 0, .bool false] 283)).row_nil 5 1
  have HB : Hid (Has (w.alloc (.cells #[.slice none 0 0, .bool false] 283)) (packS w.heap.size [] :: l)) := Has.pack_shut (bv := .slice none 0 0) h1.swap
  clear h h1
  go_enter Tryz.func133, Tryz.ntmps133
  go_wp2
  go_ret
  exact ⟨_, rfl, (Kept.refl w).alloc _, HB.out⟩

theorem pack_Byte {w : World} {L : List Say} {p : Nat} {cur : List Int} (h : Has w (packS p cur :: L)) (g c : Nat) (ns : List Int)
    (hm : rowS 3 1 (.slice (some ⟨g, 0, none⟩) ns.length c) ns.length (ns.map (Value.int .i64 ·)) ∈ L) (hns : ∀ x ∈ ns, 0 ≤ x ∧ x ≤ 255) (hlen : cur.length + ns.length ≤ 1000) :
    Calls Tryz.prog 134 #[.pointer (some ⟨p, 0, none⟩), .slice (some ⟨g, 0, none⟩) ns.length c] w (PutPost w p (cur ++ ns) L) := by
  have HP := Lib.hid (pack_put1 h g c ns hm hns hlen)
  clear h hm hns
  go_enter Tryz.func134, Tryz.ntmps134
  go_wp2_with fail
  refine HP.out.mono ?_
  rintro r w1 ⟨rfl, hh⟩
  have HH := Lib.hid hh
  clear hh HP
  go_wp2
  go_ret
  exact ⟨rfl, HH.out⟩

theorem pack_Long {w : World} {L : List Say} {p : Nat} {cur : List Int} (h : Has w (packS p cur :: L)) (g c : Nat) (ns : List Int)
    (hm : rowS 3 1 (.slice (some ⟨g, 0, none⟩) ns.length c) ns.length (ns.map (Value.int .i64 ·)) ∈ L) (hns : ∀ x ∈ ns, 0 ≤ x ∧ x ≤ 4611686018427387903) (hlen : cur.length + 8 * ns.length ≤ 1000) :
    Calls Tryz.prog 136 #[.pointer (some ⟨p, 0, none⟩), .slice (some ⟨g, 0, none⟩) ns.length c] w (PutPost w p (cur ++ ns.flatMap bytes8) L) := by
  have HP := Lib.hid (pack_put8 h g c ns hm hns hlen)
  clear h hm hns
  go_enter Tryz.func136, Tryz.ntmps136
  go_wp2_with fail
  refine HP.out.mono ?_
  rintro r w1 ⟨rfl, hh⟩
  have HH := Lib.hid hh
  clear hh HP
  go_wp2
  go_ret
  exact ⟨rfl, HH.out⟩

def BytesPost (cur : List Int) (l : List Say) (w : World) (r : Ending) (w' : World) : Prop := ∃ v, r = .returned (.tuple #[v, .nilIface]) ∧ Kept w w' ∧ Has w' (bytesS v cur :: l)
theorem pack_Bytes {w : World} {L : List Say} {p : Nat} {cur : List Int} (h : Has w (packS p cur :: L)) (h0 : 0 < cur.length) (h1 : cur.length ≤ 1000) :
    Calls Tryz.prog 137 #[.pointer (some ⟨p, 0, none⟩)] w (BytesPost cur (packS p cur :: L) w) := by
  obtain ⟨bv, hh⟩ := h.pack_open
  simp only [packParts, List.cons_append, List.nil_append] at hh
  obtain ⟨g, c, hv, hc, hdat, _⟩ := hh.bytes_read (v := bv) (cur := cur) (.tail _ (.head _)) h0
  subst hv
  have p0 := cell_of hh.got 0 rfl
  have p1 := cell_of hh.got 1 rfl
  have l0 := World.block_lt_of_cell? _ _ p0
  have HC := Lib.hid (clone_u8 hh g 0 cur.length c (cur.map byteVal) (by simp) (fun j u hu => by rw [Nat.zero_add]; exact hdat j u hu) (bytes_one cur) (by simp [maxLen]; omega) (by omega))
  clear h hh hdat
  go_enter Tryz.func137, Tryz.ntmps137
  go_wp2_with fail
  refine HC.out.mono ?_
  rintro r w1 ⟨v, rfl, hK, h2⟩
  have HP : Hid (Kept w w1 ∧ Has w1 (bytesS v cur :: packS p cur :: L)) := ⟨hK, Has.swap (Has.pack_shut (bv := .slice (some ⟨g, 0, none⟩) cur.length c) ((h2.push 2)))⟩
  clear hK h2 HC
  go_wp2
  go_ret2
  exact ⟨_, rfl, HP.out⟩

def word4 (s : Int) : List Int := [s / 16777216 % 256, s / 65536 % 256, s / 256 % 256, s % 256]
theorem frame_word {w : World} (s : Int) :
    Calls Tryz.prog 192 #[.int .u32 s] w fun r w' => r = .returned (.slice (some ⟨w.heap.size, 0, none⟩) 4 4) ∧ w' = w.alloc (.cells ((word4 s).map byteVal).toArray 5) := by
  go_enter Tryz.func192, Tryz.ntmps192
  go_wp2
  go_ret
  exact ⟨rfl, rfl⟩

def frameBody (kind : Int) (cur : List Int) : List Int := kind :: (cur.length : Int) :: (cur ++ List.replicate (122 - cur.length) 0)
def frameOf (kind : Int) (cur : List Int) : List Int := frameBody kind cur ++ word4 (sumOf (frameBody kind cur))
theorem body_len (kind : Int) (cur : List Int) (h : cur.length ≤ 122) : (frameBody kind cur).length = 124 := by simp [frameBody]; omega
theorem frame_len (kind : Int) (cur : List Int) (h : cur.length ≤ 122) : (frameOf kind cur).length = 128 := by rw [frameOf, List.length_append, body_len kind cur h]; rfl

theorem Has.setRow {w : World} {l : List Say} {b : Nat} {c : Array Value} {e : TypeId} {f : Nat × Nat} (h : Has w (pts b (.cells c e f) :: l)) (cs : Array Value) : Has (w.setRow b cs) (pts b (.cells cs e f) :: l) :=
  Sep.put h (setRow_heap w b c cs e f h.got) fun k hk => setRow_other w b k cs hk
theorem Kept.setRow {a w : World} (h : Kept a w) (b : Nat) (cs : Array Value) : Kept a (w.setRow b cs) := ⟨h.os, h.tape, h.output, by have := h.size; simpa [World.setRow] using this⟩
theorem made_list : (madeCells #[Value.int .u8 0] 128).toList = List.replicate 128 (byteVal 0) := by kernel_rfl
theorem body_cells (kind : Int) (cur : List Int) (h : cur.length ≤ 122) :
    ((((madeCells #[Value.int .u8 0] 128).setIfInBounds 0 (byteVal kind)).setIfInBounds 1 (byteVal cur.length)).toList.take 2 ++ (cur.map byteVal ++ (((madeCells #[Value.int .u8 0] 128).setIfInBounds 0 (byteVal kind)).setIfInBounds 1 (byteVal cur.length)).toList.drop (2 + cur.length))).take (124 * 1) =
    (frameBody kind cur).map byteVal := by
  rw [Array.toList_setIfInBounds, Array.toList_setIfInBounds, made_list]
  have e : ((List.replicate 128 (byteVal 0)).set 0 (byteVal kind)).set 1 (byteVal cur.length) = byteVal kind :: byteVal cur.length :: List.replicate 126 (byteVal 0) := rfl
  rw [e]
  have e2 : (byteVal kind :: byteVal cur.length :: List.replicate 126 (byteVal 0)).drop (2 + cur.length) = List.replicate (126 - cur.length) (byteVal 0) := by
    rw [Nat.add_comm]
    show (byteVal kind :: byteVal cur.length :: List.replicate 126 (byteVal 0)).drop (cur.length + 1 + 1) = _
    rw [List.drop_succ_cons, List.drop_succ_cons, List.drop_replicate]
  rw [e2]
  have e3 : (126 - cur.length) = (122 - cur.length) + 4 := by omega
  rw [e3, ← List.replicate_append_replicate]
  simp only [frameBody, List.take_succ_cons, List.take_zero, List.cons_append, List.nil_append, List.map_cons, List.map_append, List.map_replicate, Nat.reduceMul]
  rw [← List.append_assoc, List.take_left' (by simp; omega)]

set_option maxRecDepth 100000 in
set_option maxHeartbeats 1000000 in
theorem frame_Put {w : World} {l : List Say} {v : Value} {cur : List Int} (h : Has w l) (hm : bytesS v cur ∈ l) (h0 : 0 < cur.length) (h1 : cur.length ≤ 122) (kind : Int) :
    Calls Tryz.prog 138 #[.int .u8 kind, v] w (BytesPost (frameOf kind cur) l w) := by
  obtain ⟨g, c, hv, hc, hdat, _⟩ := h.bytes_read hm h0
  subst hv
  obtain ⟨i0, I1, I2, I3, I4⟩ := info_parts info_u8
  have hmk : ∀ w : World, (Instr.makeSlice 141 (.int .i64 124) (.int .i64 128)).run Tryz.prog w = .ok (.slice (some ⟨w.heap.size, 0, none⟩) 124 128) (w.alloc (.cells (madeCells #[.int .u8 0] 128) 5)) := fun w => by
    have := run_make (P := Tryz.prog) w 141 5 i0 (.int .u8 0) Tryz.underlying141 I1 I2 .i64 .i64 124 128 (by omega) (by omega) (by rw [I4]; omega) (by omega)
    rw [I3] at this
    exact this
  have hl1 : decide ((122 : Int) < (cur.length : Int)) = false := by simp; omega
  have hl2 : (cur.length : Int) % 256 = cur.length := by omega
  have ha := ((h.alloc (.cells (madeCells #[.int .u8 0] 128) 5)).setCell 0 (byteVal kind)).setCell 1 (byteVal cur.length)
  have HA := Lib.hid ha
  have ha0 := (h.alloc (.cells (madeCells #[.int .u8 0] 128) 5)).got
  have k0 : (w.alloc (.cells (madeCells #[.int .u8 0] 128) 5)).cell? ⟨w.heap.size, 0, none⟩ = some (.int .u8 0) := cell_of ha0 0 (by kernel_rfl)
  have k1 : (w.alloc (.cells (madeCells #[.int .u8 0] 128) 5)).cell? ⟨w.heap.size, 1, none⟩ = some (.int .u8 0) := cell_of ha0 1 (by kernel_rfl)
  have f0 := thaw_of ha0 0
  have f1 := thaw_of ha0 1
  have HK : Hid (Kept w (((w.alloc (.cells (madeCells #[.int .u8 0] 128) 5)).setCell ⟨w.heap.size, 0, none⟩ (byteVal kind)).setCell ⟨w.heap.size, 1, none⟩ (byteVal cur.length))) := (((Kept.refl w).alloc _).setCell _ _).setCell _ _
  clear ha0
  have hgl : g < w.heap.size := World.block_lt_of_cell? _ _ (hdat 0 (byteVal cur[0]) (by simp [h0]))
  have HD : Hid (∀ j u, (cur.map byteVal)[j]? = some u → (((w.alloc (.cells (madeCells #[.int .u8 0] 128) 5)).setCell ⟨w.heap.size, 0, none⟩ (byteVal kind)).setCell ⟨w.heap.size, 1, none⟩ (byteVal cur.length)).cell? ((⟨g, 0, none⟩ : Addr).add j) = some u) := fun j u hu => by
    have h2 := hdat j u hu
    rw [Addr.add_lit, Nat.zero_add]
    rw [World.cell?_setCell_far _ _ _ _ (by show w.heap.size ≠ g; omega), World.cell?_setCell_far _ _ _ _ (by show w.heap.size ≠ g; omega), World.cell?_alloc_lt _ _ _ hgl]
    exact h2
  clear ha hdat h hm
  go_enter Tryz.func138, Tryz.ntmps138
  go_upto_region 4 with fail
  generalize w.alloc (.cells (madeCells #[.int .u8 0] 128) 5) = W at *
  generalize w.heap.size = b at *
  have lb := World.block_lt_of_cell? _ _ k0
  have hA := Lib.hid (body_cells kind cur h1)
  have hAs : (((madeCells #[Value.int .u8 0] 128).setIfInBounds 0 (byteVal kind)).setIfInBounds 1 (byteVal cur.length)).size = 128 := by simp [size_madeCells]
  generalize ((madeCells #[Value.int .u8 0] 128).setIfInBounds 0 (byteVal kind)).setIfInBounds 1 (byteVal cur.length) = A at *
  have hsz : (Tryz.prog.info? 5).map (·.size) = some 1 := by rw [I1]; simp [I3]
  have HS := Lib.hid hsz
  have HAs := Lib.hid hAs
  clear hsz hAs
  have hcopy : ∃ W2, (Builtin.copy_ #[141, 141] 3 #[.slice (some ⟨b, 2, none⟩) 122 126, .slice (some ⟨g, 0, none⟩) cur.length c]).run Tryz.prog ((W.setCell ⟨b, 0, none⟩ (.int .u8 kind)).setCell ⟨b, 1, none⟩ (.int .u8 (cur.length : Int))) = .ok (goInt (cur.map byteVal).length) W2 ∧ Kept w W2 ∧
      Has W2 (rowS 5 1 (.slice (some ⟨b, 0, none⟩) 124 128) 124 ((frameBody kind cur).map byteVal) :: l) := by
    refine ⟨_, run_copy_row (P := Tryz.prog) _ 141 141 3 5 b 2 122 126 ⟨g, 0, none⟩ cur.length c A 5 (cur.map byteVal) Tryz.underlying141 HS.out HA.out.got (by rw [List.length_map]; exact (Nat.min_eq_left h1).symm) HD.out (by rw [HAs.out, List.length_map]; omega) (bytes_one cur), HK.out.setRow b _, ?_⟩
    have h2 := HA.out.setRow (A.toList.take 2 ++ cur.map byteVal ++ A.toList.drop (2 + (cur.map byteVal).length)).toArray
    refine h2.row_of_pts (by rw [List.length_map, body_len kind cur h1]) (by omega) (by simp [maxLen]) ?_ ?_
    · have := HAs.out
      simp only [List.size_toArray, List.length_append, List.length_take, List.length_drop, List.length_map, Array.length_toList, this]; omega
    · rw [← hA.out, List.length_map, List.append_assoc]
  obtain ⟨W2, hrun, hK2, hh2⟩ := hcopy
  have hW2 : Hid (W2 = W2) := rfl
  have HK2 := Lib.hid hK2
  have HB := Lib.hid hh2
  have e124 := body_len kind cur h1
  have HE := Lib.hid e124
  clear hK2 hh2 e124
  go_wp2_with fail
  have HSum := Lib.hid (frame_Sum (w := W2.alloc (.cells #[.slice (some ⟨b, 0, none⟩) 124 128] 141)) (v := .slice (some ⟨b, 0, none⟩) 124 128) (cur := frameBody kind cur) (l := [bytesS (.slice (some ⟨b, 0, none⟩) 124 128) (frameBody kind cur)])
    (by have := (HB.out.only (.head _)).alloc_off (.cells #[.slice (some ⟨b, 0, none⟩) 124 128] 141); unfold bytesS; rw [HE.out]; exact this) (.head _) (by rw [HE.out]; omega) (by rw [HE.out]; omega) W2.heap.size 1 (World.cell?_alloc_new _ _ _ 0 |>.trans rfl))
  refine HSum.out.mono ?_
  rintro r w3 ⟨rfl, rfl⟩
  go_wp2_with fail
  refine (frame_word _).mono ?_
  rintro r w4 ⟨rfl, rfl⟩
  have H5 := Lib.hid ((HB.out.alloc_off (.cells #[.slice (some ⟨b, 0, none⟩) 124 128] 141)).alloc_off (.cells ((word4 (sumOf (frameBody kind cur))).map byteVal).toArray 5))
  have HN := Lib.hid (many_new (W2.alloc (.cells #[.slice (some ⟨b, 0, none⟩) 124 128] 141)) ((word4 (sumOf (frameBody kind cur))).map byteVal) 5 rfl)
  have HK5 : Hid (Kept w ((W2.alloc (.cells #[.slice (some ⟨b, 0, none⟩) 124 128] 141)).alloc (.cells ((word4 (sumOf (frameBody kind cur))).map byteVal).toArray 5))) := (HK2.out.alloc _).alloc _
  have hw4 := bytes_one (word4 (sumOf (frameBody kind cur)))
  have hw5 : ((word4 (sumOf (frameBody kind cur))).map byteVal).length = 4 := rfl
  have HW4 := Lib.hid hw4
  have HW5 := Lib.hid hw5
  have HX : Hid ((frameBody kind cur).map byteVal ++ (word4 (sumOf (frameBody kind cur))).map byteVal = (frameOf kind cur).map byteVal ∧ (frameOf kind cur).length = 124 + 4) := ⟨by simp [frameOf], frame_len kind cur h1⟩
  clear hw4 hw5 HB HSum HK2
  generalize (word4 (sumOf (frameBody kind cur))).map byteVal = ws at *
  generalize (frameBody kind cur).map byteVal = bs at *
  generalize hW3 : (W2.alloc (.cells #[.slice (some ⟨b, 0, none⟩) 124 128] 141)) = W3 at *
  generalize hW4 : (W3.alloc (.cells ws.toArray 5)) = W4 at *
  clear hrun hW3 hW4
  generalize W3.heap.size = wb at *
  go_wp2_with (at_builtin; go_loud (refine wpList_append_row (l := l) rfl (.tmp 24) (.tmp 28) 141 rfl 5 i0 (.int .u8 0) 1 1 Tryz.underlying141 I1 I2 I3 I4 rfl (by decide) _ 124 bs rfl H5.out ⟨wb, 0, none⟩ 4 4 ws rfl HW5.out HN.out HW4.out (by simp [maxLen]) (by omega) ?next))
  case next =>
    intro v2 w5 hK5 h5
    have HP : Hid (Kept w w5 ∧ Has w5 (bytesS v2 (frameOf kind cur) :: l)) := ⟨HK5.out.trans hK5, by unfold bytesS; rw [← HX.out.1, HX.out.2]; exact h5⟩
    clear hK5 h5
    go_wp2
    go_ret2
    exact ⟨_, rfl, HP.out⟩
end Go.Proofs.YtgbgneiciabidaaGreatDoor
