/-
  Frames (layer 2), the second part: single bytes, the packer, a frame.
-/
import Derived.Test.YtgbgneiciabidaaGreatDoorGs3
import Derived.Deep.RegionHeld
import Derived.Laws.CopyOwn
import Derived.BigQuiet
namespace Go.Proofs.YtgbgneiciabidaaGreatDoor
open Go Go.RowKit
set_option linter.all false
set_option maxHeartbeats 8000000
set_option maxRecDepth 100000 in
theorem pack_put1 {w : World} {L : List Say} {p : Nat} {cur : List Int} (h : Has w (packS p cur :: L)) (g c : Nat) (ns : List Int)
  (hm : rowS 3 1 (.slice (some ⟨g, 0, none⟩) ns.length c) ns.length (ns.map (Value.int .i64 ·)) ∈ L) (hns : ∀ x ∈ ns, 0 <= x /\ x <= 255) (hlen : cur.length + ns.length <= 1000) :
  Calls Tryz.prog 190 #[.pointer (some ⟨p, 0, none⟩), .int .i64 1, .slice (some ⟨g, 0, none⟩) ns.length c] w (PutPost w p (cur ++ ns) L) := by
 obtain ⟨i0, I1, I2, I3, I4⟩ := info_parts info_u8
 have hns' := Lib.hid hns
 have Hm := Lib.hid hm
 have H0 : Hid (PackMid w p (cur ++ ns.take 0) L w) := ⟨Kept.refl w, by simpa using h⟩
 clear hm h hns
 go_enter Tryz.func190, Tryz.ntmps190
 go_wp2
 go_loopg [11] ns.length (fun gk i wr => ∃ (k : Nat), k <= ns.length /\ gk = ns.length - k /\ i = .int .i64 k /\ Hid (PackMid w p (cur ++ ns.take k) L wr))
 case atStart => exact ⟨0, Nat.zero_le _, rfl, rfl, H0⟩
 case round =>
  clear H0
  obtain ⟨k, hk, rfl, rfl, HM⟩ := hrel
  by_cases hlt : k < ns.length
  ·obtain ⟨hK, hh⟩ := HM.out
   obtain ⟨bv, hh⟩ := hh.pack_open
   simp only [packParts, List.cons_append, List.nil_append] at hh
   obtain ⟨_, a', c', hv', _, _, hr⟩ := hh.row_read (v := .slice (some ⟨g, 0, none⟩) ns.length c) (n := ns.length) (xs := ns.map (Value.int .i64 ·)) (.tail _ (.tail _ Hm.out))
   cases hv'
   obtain ⟨g', hg', hc, _⟩ := hr k (.int .i64 ns[k]) (by simp [hlt])
   cases hg'
   have hb := hns'.out ns[k] (List.getElem_mem hlt)
   have hcl : (cur ++ ns.take k).length + 1 <= 1000 := by
    rw [List.length_append, List.length_take, Nat.min_eq_left hk]; omega
   have hnext : Hid (cur ++ ns.take (k + 1) = (cur ++ ns.take k) ++ [ns[k]]) := by
    show _ = _
    rw [List.take_succ_eq_append_getElem hlt, List.append_assoc]
   generalize ns[k] = x at *
   generalize cur ++ ns.take k = cur' at *
   obtain ⟨hx0, hx1⟩ := hb
   obtain ⟨a0, c0, rfl, _⟩ := hh.row_val (e := 5) (size := 1) (v := bv) (n := cur'.length) (xs := cur'.map byteVal) (.tail _ (.head _))
   have hH0 : Has wr (pts p (.cells #[.slice a0 cur'.length c0, .bool false] 283 (0, 0)) :: rowS 5 1 (.slice a0 cur'.length c0) cur'.length (cur'.map byteVal) :: L) := hh
   obtain ⟨N0, hN0⟩ : ∃ N0, N0 = cur'.length := ⟨_, rfl⟩
   obtain ⟨xs0, hxs0⟩ : ∃ xs, xs = cur'.map byteVal := ⟨_, rfl⟩
   rw [<- hN0, <- hxs0] at hH0
   rw [<- hN0] at hcl
   have HN0 := Lib.hid hN0
   have HX0 := Lib.hid hxs0
   have H0 := Lib.hid hH0
   have HK0 := Lib.hid hK
   have p0 := cell_of hH0.got 0 rfl
   have p1 := cell_of hH0.got 1 rfl
   have f0 := thaw_of hH0.got 0
   have f1 := thaw_of hH0.got 1
   have hk1 : (k : Int) < (ns.length : Int) := by omega
   have hk0 : (0 : Int) <= k := by omega
   have hx2 : decide (x < 0) = false := by simp; omega
   have hx3 : x / 256 = 0 := by omega
   have l0 := World.block_lt_of_cell? _ _ p0
   clear hr hh hK HM hH0 hN0 hxs0
   go_wp2_with (at_builtin; go_loud (refine wpList_append_row (l := pts p (.cells #[.slice a0 N0 c0, .bool false] 283 (0, 0)) :: L) rfl (.tmp 149) (.tmp 152) 141 rfl 5 i0 (.int .u8 0) 1 1 Tryz.underlying141 I1 I2 I3 I4 rfl (by decide) _ N0 xs0 rfl ?hown ⟨_, 0, none⟩ 1 1 [byteVal x] rfl rfl (many_new _ [byteVal x] _ (by simp [World.setCell])) (by intro u hu; simp at hu; rcases hu with rfl <;> rfl) ?h63 ?hby ?next))
   case hown => exact ((H0.out.setCell 1 (.bool false)).swap).alloc_off _
   case h63 => simp [maxLen]; omega
   case hby => omega
   case next =>
    intro v1 w1 hK1 h1
    obtain ⟨xs1, hxs1⟩ : ∃ y, y = xs0 ++ [byteVal x] := ⟨_, rfl⟩
    obtain ⟨N1, hN1⟩ : ∃ y, y = N0 + 1 := ⟨_, rfl⟩
    rw [<- hxs1, <- hN1] at h1
    obtain ⟨a1, c1, rfl, _⟩ := h1.row_val (e := 5) (size := 1) (v := v1) (n := N1) (xs := xs1) (.head _)
    have hp1 := h1.swap.got
    have p0 := cell_of hp1 0 rfl
    have p1 := cell_of hp1 1 rfl
    have f0 := thaw_of hp1 0
    have f1 := thaw_of hp1 1
    have l0 := World.block_lt_of_cell? _ _ p0
    have hB1 : N1 <= 1000 := by omega
    have H1 := Lib.hid (h1.swap.setCell 0 (.slice a1 N1 c1))
    have HK1 : Hid (Kept w (w1.setCell ⟨p, 0, none⟩ (.slice a1 N1 c1))) := (((HK0.out.setCell _ _).alloc _).trans hK1).setCell _ _
    have HN1 := Lib.hid hN1
    have HX1 := Lib.hid hxs1
    clear hK1 h1 hp1 HK0 H0 hN1 hxs1
    go_wp2
    go_roundg (ns.length - (k + 1))
    case measure => omega
    case rel =>
     refine ⟨k + 1, by omega, rfl, by simp, HK1.out, ?_⟩
     rw [hnext.out]
     refine Has.pack_shut (bv := .slice a1 N1 c1) ?_
     have h9 := H1.out
     have e1 : (cur' ++ [x]).length = N1 := by rw [HN1.out, HN0.out]; simp
     have e2 : (cur' ++ [x]).map byteVal = xs1 := by rw [HX1.out, HX0.out]; simp
     simp only [packParts, bytesS]
     rw [e1, e2]
     exact h9
  ·obtain rfl : k = ns.length := by omega
   have HM' : Hid (PackMid w p (cur ++ ns) L wr) := by have := HM.out; rw [List.take_length] at this; exact this
   clear HM
   go_wp2
   go_ret
   exact ⟨rfl, HM'.out⟩
/-
  Frames (layer 2), the third part: the packer's other methods.
-/
def PackNew (l : List Say) (w : World) (r : Ending) (w' : World) : Prop := ∃ p, r = .returned (.pointer (some ⟨p, 0, none⟩)) /\ PackMid w p [] l w'
theorem pack_New {w : World} {l : List Say} (h : Has w l) : Calls Tryz.prog 133 #[] w (PackNew l w) := by
 have h1 := (h.alloc (.cells #[.slice none 0 0, .bool false] 283)).row_nil 5 1
 have HB : Hid (Has (w.alloc (.cells #[.slice none 0 0, .bool false] 283)) (packS w.heap.size [] :: l)) := Has.pack_shut (bv := .slice none 0 0) h1.swap
 clear h h1
 go_enter Tryz.func133, Tryz.ntmps133
 go_wp2
 go_ret
 exact ⟨_, rfl, (Kept.refl w).alloc _, HB.out⟩
theorem pack_Byte {w : World} {L : List Say} {p : Nat} {cur : List Int} (h : Has w (packS p cur :: L)) (g c : Nat) (ns : List Int)
  (hm : rowS 3 1 (.slice (some ⟨g, 0, none⟩) ns.length c) ns.length (ns.map (Value.int .i64 ·)) ∈ L) (hns : ∀ x ∈ ns, 0 <= x /\ x <= 255) (hlen : cur.length + ns.length <= 1000) :
  Calls Tryz.prog 134 #[.pointer (some ⟨p, 0, none⟩), .slice (some ⟨g, 0, none⟩) ns.length c] w (PutPost w p (cur ++ ns) L) := by
 have HP := Lib.hid (pack_put1 h g c ns hm hns hlen)
 clear h hm hns
 go_enter Tryz.func134, Tryz.ntmps134
 go_wp2_with fail
 refine HP.out.mono ?_
 rintro r w1 ⟨rfl, hh⟩
 have HH := Lib.hid hh
 clear hh HP
 go_wp2
 go_ret
 exact ⟨rfl, HH.out⟩
theorem pack_Long {w : World} {L : List Say} {p : Nat} {cur : List Int} (h : Has w (packS p cur :: L)) (g c : Nat) (ns : List Int)
  (hm : rowS 3 1 (.slice (some ⟨g, 0, none⟩) ns.length c) ns.length (ns.map (Value.int .i64 ·)) ∈ L) (hns : ∀ x ∈ ns, 0 <= x /\ x <= 4611686018427387903) (hlen : cur.length + 8 * ns.length <= 1000) :
  Calls Tryz.prog 136 #[.pointer (some ⟨p, 0, none⟩), .slice (some ⟨g, 0, none⟩) ns.length c] w (PutPost w p (cur ++ ns.flatMap bytes8) L) := by
 have HP := Lib.hid (pack_put8 h g c ns hm hns hlen)
 clear h hm hns
 go_enter Tryz.func136, Tryz.ntmps136
 go_wp2_with fail
 refine HP.out.mono ?_
 rintro r w1 ⟨rfl, hh⟩
 have HH := Lib.hid hh
 clear hh HP
 go_wp2
 go_ret
 exact ⟨rfl, HH.out⟩
def BytesPost (cur : List Int) (l : List Say) (w : World) (r : Ending) (w' : World) : Prop := ∃ v, r = .returned (.tuple #[v, .nilIface]) /\ Kept w w' /\ Has w' (bytesS v cur :: l)
theorem pack_Bytes {w : World} {L : List Say} {p : Nat} {cur : List Int} (h : Has w (packS p cur :: L)) (h0 : 0 < cur.length) (h1 : cur.length <= 1000) :
  Calls Tryz.prog 137 #[.pointer (some ⟨p, 0, none⟩)] w (BytesPost cur (packS p cur :: L) w) := by
 obtain ⟨bv, hh⟩ := h.pack_open
 simp only [packParts, List.cons_append, List.nil_append] at hh
 obtain ⟨g, c, hv, hc, hdat, _⟩ := hh.bytes_read (v := bv) (cur := cur) (.tail _ (.head _)) h0
 subst hv
 have p0 := cell_of hh.got 0 rfl
 have p1 := cell_of hh.got 1 rfl
 have l0 := World.block_lt_of_cell? _ _ p0
 have HC := Lib.hid (clone_u8 hh g 0 cur.length c (cur.map byteVal) (by simp) (fun j u hu => by rw [Nat.zero_add]; exact hdat j u hu) (bytes_one cur) (by simp [maxLen]; omega) (by omega))
 clear h hh hdat
 go_enter Tryz.func137, Tryz.ntmps137
 go_wp2_with fail
 refine HC.out.mono ?_
 rintro r w1 ⟨v, rfl, hK, h2⟩
 have HP : Hid (Kept w w1 /\ Has w1 (bytesS v cur :: packS p cur :: L)) := ⟨hK, Has.swap (Has.pack_shut (bv := .slice (some ⟨g, 0, none⟩) cur.length c) ((h2.push 2)))⟩
 clear hK h2 HC
 go_wp2
 go_ret2
 exact ⟨_, rfl, HP.out⟩
def word4 (s : Int) : List Int := [s / 16777216 % 256, s / 65536 % 256, s / 256 % 256, s % 256]
theorem frame_word {w : World} (s : Int) :
  Calls Tryz.prog 192 #[.int .u32 s] w fun r w' => r = .returned (.slice (some ⟨w.heap.size, 0, none⟩) 4 4) /\ w' = w.alloc (.cells ((word4 s).map byteVal).toArray 5) := by
 go_enter Tryz.func192, Tryz.ntmps192
 go_wp2
 go_ret
 exact ⟨rfl, rfl⟩
def frameBody (kind : Int) (cur : List Int) : List Int := kind :: (cur.length : Int) :: (cur ++ List.replicate (122 - cur.length) 0)
def frameOf (kind : Int) (cur : List Int) : List Int := frameBody kind cur ++ word4 (sumOf (frameBody kind cur))
theorem body_len (kind : Int) (cur : List Int) (h : cur.length <= 122) : (frameBody kind cur).length = 124 := by simp [frameBody]; omega
theorem frame_len (kind : Int) (cur : List Int) (h : cur.length <= 122) : (frameOf kind cur).length = 128 := by rw [frameOf, List.length_append, body_len kind cur h]; rfl
theorem Has.setRow {w : World} {l : List Say} {b : Nat} {c : Array Value} {e : TypeId} {f : Nat × Nat} (h : Has w (pts b (.cells c e f) :: l)) (cs : Array Value) : Has (w.setRow b cs) (pts b (.cells cs e f) :: l) :=
 Sep.put h (setRow_heap w b c cs e f h.got) fun k hk => setRow_other w b k cs hk
theorem Kept.setRow {a w : World} (h : Kept a w) (b : Nat) (cs : Array Value) : Kept a (w.setRow b cs) := ⟨h.os, h.tape, h.output, by have := h.size; simpa [World.setRow] using this⟩
theorem made_list : (madeCells #[Value.int .u8 0] 128).toList = List.replicate 128 (byteVal 0) := by kernel_rfl
theorem body_cells (kind : Int) (cur : List Int) (h : cur.length <= 122) :
  ((((madeCells #[Value.int .u8 0] 128).setIfInBounds 0 (byteVal kind)).setIfInBounds 1 (byteVal cur.length)).toList.take 2 ++ (cur.map byteVal ++ (((madeCells #[Value.int .u8 0] 128).setIfInBounds 0 (byteVal kind)).setIfInBounds 1 (byteVal cur.length)).toList.drop (2 + cur.length))).take (124 * 1) =
  (frameBody kind cur).map byteVal := by
 rw [Array.toList_setIfInBounds, Array.toList_setIfInBounds, made_list]
 have e : ((List.replicate 128 (byteVal 0)).set 0 (byteVal kind)).set 1 (byteVal cur.length) = byteVal kind :: byteVal cur.length :: List.replicate 126 (byteVal 0) := rfl
 rw [e]
 have e2 : (byteVal kind :: byteVal cur.length :: List.replicate 126 (byteVal 0)).drop (2 + cur.length) = List.replicate (126 - cur.length) (byteVal 0) := by
  rw [Nat.add_comm]
  show (byteVal kind :: byteVal cur.length :: List.replicate 126 (byteVal 0)).drop (cur.length + 1 + 1) = _
  rw [List.drop_succ_cons, List.drop_succ_cons, List.drop_replicate]
 rw [e2]
 have e3 : (126 - cur.length) = (122 - cur.length) + 4 := by omega
 rw [e3, <- List.replicate_append_replicate]
 simp only [frameBody, List.take_succ_cons, List.take_zero, List.cons_append, List.nil_append, List.map_cons, List.map_append, List.map_replicate, Nat.reduceMul]
 rw [<- List.append_assoc, List.take_left' (by simp; omega)]
set_option maxRecDepth 100000 in
theorem frame_Put {w : World} {l : List Say} {v : Value} {cur : List Int} (h : Has w l) (hm : bytesS v cur ∈ l) (h0 : 0 < cur.length) (h1 : cur.length <= 122) (kind : Int) :
  Calls Tryz.prog 138 #[.int .u8 kind, v] w (BytesPost (frameOf kind cur) l w) := by
 obtain ⟨g, c, hv, hc, hdat, _⟩ := h.bytes_read hm h0
 subst hv
 obtain ⟨i0, I1, I2, I3, I4⟩ := info_parts info_u8
 have hmk : ∀ w : World, (Instr.makeSlice 141 (.int .i64 124) (.int .i64 128)).run Tryz.prog w = .ok (.slice (some ⟨w.heap.size, 0, none⟩) 124 128) (w.alloc (.cells (madeCells #[.int .u8 0] 128) 5)) := fun w => by
  have := run_make (P := Tryz.prog) w 141 5 i0 (.int .u8 0) Tryz.underlying141 I1 I2 .i64 .i64 124 128 (by omega) (by omega) (by rw [I4]; omega) (by omega)
  rw [I3] at this
  exact this
 have hl1 : decide ((122 : Int) < (cur.length : Int)) = false := by simp; omega
 have hl2 : (cur.length : Int) % 256 = cur.length := by omega
 have ha := ((h.alloc (.cells (madeCells #[.int .u8 0] 128) 5)).setCell 0 (byteVal kind)).setCell 1 (byteVal cur.length)
 have HA := Lib.hid ha
 have ha0 := (h.alloc (.cells (madeCells #[.int .u8 0] 128) 5)).got
 have k0 : (w.alloc (.cells (madeCells #[.int .u8 0] 128) 5)).cell? ⟨w.heap.size, 0, none⟩ = some (.int .u8 0) := cell_of ha0 0 (by kernel_rfl)
 have k1 : (w.alloc (.cells (madeCells #[.int .u8 0] 128) 5)).cell? ⟨w.heap.size, 1, none⟩ = some (.int .u8 0) := cell_of ha0 1 (by kernel_rfl)
 have f0 := thaw_of ha0 0
 have f1 := thaw_of ha0 1
 have HK : Hid (Kept w (((w.alloc (.cells (madeCells #[.int .u8 0] 128) 5)).setCell ⟨w.heap.size, 0, none⟩ (byteVal kind)).setCell ⟨w.heap.size, 1, none⟩ (byteVal cur.length))) := (((Kept.refl w).alloc _).setCell _ _).setCell _ _
 clear ha0
 have hgl : g < w.heap.size := World.block_lt_of_cell? _ _ (hdat 0 (byteVal cur[0]) (by simp [h0]))
 have HD : Hid (∀ j u, (cur.map byteVal)[j]? = some u -> (((w.alloc (.cells (madeCells #[.int .u8 0] 128) 5)).setCell ⟨w.heap.size, 0, none⟩ (byteVal kind)).setCell ⟨w.heap.size, 1, none⟩ (byteVal cur.length)).cell? ((⟨g, 0, none⟩ : Addr).add j) = some u) := fun j u hu => by
  have h2 := hdat j u hu
  rw [Addr.add_lit, Nat.zero_add]
  rw [World.cell?_setCell_far _ _ _ _ (by show w.heap.size ≠ g; omega), World.cell?_setCell_far _ _ _ _ (by show w.heap.size ≠ g; omega), World.cell?_alloc_lt _ _ _ hgl]
  exact h2
 clear ha hdat h hm
 go_enter Tryz.func138, Tryz.ntmps138
 go_upto_region 4 with fail
 generalize w.alloc (.cells (madeCells #[.int .u8 0] 128) 5) = W at *
 generalize w.heap.size = b at *
 have lb := World.block_lt_of_cell? _ _ k0
 have hA := Lib.hid (body_cells kind cur h1)
 have hAs : (((madeCells #[Value.int .u8 0] 128).setIfInBounds 0 (byteVal kind)).setIfInBounds 1 (byteVal cur.length)).size = 128 := by simp [size_madeCells]
 generalize ((madeCells #[Value.int .u8 0] 128).setIfInBounds 0 (byteVal kind)).setIfInBounds 1 (byteVal cur.length) = A at *
 have hsz : (Tryz.prog.info? 5).map (·.size) = some 1 := by rw [I1]; simp [I3]
 have HS := Lib.hid hsz
 have HAs := Lib.hid hAs
 clear hsz hAs
 have hcopy : ∃ W2, (Builtin.copy_ #[141, 141] 3 #[.slice (some ⟨b, 2, none⟩) 122 126, .slice (some ⟨g, 0, none⟩) cur.length c]).run Tryz.prog ((W.setCell ⟨b, 0, none⟩ (.int .u8 kind)).setCell ⟨b, 1, none⟩ (.int .u8 (cur.length : Int))) = .ok (goInt (cur.map byteVal).length) W2 /\ Kept w W2 /\
   Has W2 (rowS 5 1 (.slice (some ⟨b, 0, none⟩) 124 128) 124 ((frameBody kind cur).map byteVal) :: l) := by
  refine ⟨_, run_copy_row (P := Tryz.prog) _ 141 141 3 5 b 2 122 126 ⟨g, 0, none⟩ cur.length c A 5 (cur.map byteVal) Tryz.underlying141 HS.out HA.out.got (by rw [List.length_map]; exact (Nat.min_eq_left h1).symm) HD.out (by rw [HAs.out, List.length_map]; omega) (bytes_one cur), HK.out.setRow b _, ?_⟩
  have h2 := HA.out.setRow (A.toList.take 2 ++ cur.map byteVal ++ A.toList.drop (2 + (cur.map byteVal).length)).toArray
  refine h2.row_of_pts (by rw [List.length_map, body_len kind cur h1]) (by omega) (by simp [maxLen]) ?_ ?_
  ·have := HAs.out
   simp only [List.size_toArray, List.length_append, List.length_take, List.length_drop, List.length_map, Array.length_toList, this]; omega
  ·rw [<- hA.out, List.length_map, List.append_assoc]
 obtain ⟨W2, hrun, hK2, hh2⟩ := hcopy
 have hW2 : Hid (W2 = W2) := rfl
 have HK2 := Lib.hid hK2
 have HB := Lib.hid hh2
 have e124 := body_len kind cur h1
 have HE := Lib.hid e124
 clear hK2 hh2 e124
 go_wp2_with fail
 have HSum := Lib.hid (frame_Sum (w := W2.alloc (.cells #[.slice (some ⟨b, 0, none⟩) 124 128] 141)) (v := .slice (some ⟨b, 0, none⟩) 124 128) (cur := frameBody kind cur) (l := [bytesS (.slice (some ⟨b, 0, none⟩) 124 128) (frameBody kind cur)])
  (by have := (HB.out.only (.head _)).alloc_off (.cells #[.slice (some ⟨b, 0, none⟩) 124 128] 141); unfold bytesS; rw [HE.out]; exact this) (.head _) (by rw [HE.out]; omega) (by rw [HE.out]; omega) W2.heap.size 1 (World.cell?_alloc_new _ _ _ 0 |>.trans rfl))
 refine HSum.out.mono ?_
 rintro r w3 ⟨rfl, rfl⟩
 go_wp2_with fail
 refine (frame_word _).mono ?_
 rintro r w4 ⟨rfl, rfl⟩
 have H5 := Lib.hid ((HB.out.alloc_off (.cells #[.slice (some ⟨b, 0, none⟩) 124 128] 141)).alloc_off (.cells ((word4 (sumOf (frameBody kind cur))).map byteVal).toArray 5))
 have HN := Lib.hid (many_new (W2.alloc (.cells #[.slice (some ⟨b, 0, none⟩) 124 128] 141)) ((word4 (sumOf (frameBody kind cur))).map byteVal) 5 rfl)
 have HK5 : Hid (Kept w ((W2.alloc (.cells #[.slice (some ⟨b, 0, none⟩) 124 128] 141)).alloc (.cells ((word4 (sumOf (frameBody kind cur))).map byteVal).toArray 5))) := (HK2.out.alloc _).alloc _
 have hw4 := bytes_one (word4 (sumOf (frameBody kind cur)))
 have hw5 : ((word4 (sumOf (frameBody kind cur))).map byteVal).length = 4 := rfl
 have HW4 := Lib.hid hw4
 have HW5 := Lib.hid hw5
 have HX : Hid ((frameBody kind cur).map byteVal ++ (word4 (sumOf (frameBody kind cur))).map byteVal = (frameOf kind cur).map byteVal /\ (frameOf kind cur).length = 124 + 4) := ⟨by simp [frameOf], frame_len kind cur h1⟩
 clear hw4 hw5 HB HSum HK2
 generalize (word4 (sumOf (frameBody kind cur))).map byteVal = ws at *
 generalize (frameBody kind cur).map byteVal = bs at *
 generalize hW3 : (W2.alloc (.cells #[.slice (some ⟨b, 0, none⟩) 124 128] 141)) = W3 at *
 generalize hW4 : (W3.alloc (.cells ws.toArray 5)) = W4 at *
 clear hrun hW3 hW4
 generalize W3.heap.size = wb at *
 go_wp2_with (at_builtin; go_loud (refine wpList_append_row (l := l) rfl (.tmp 24) (.tmp 28) 141 rfl 5 i0 (.int .u8 0) 1 1 Tryz.underlying141 I1 I2 I3 I4 rfl (by decide) _ 124 bs rfl H5.out ⟨wb, 0, none⟩ 4 4 ws rfl HW5.out HN.out HW4.out (by simp [maxLen]) (by omega) ?next))
 case next =>
  intro v2 w5 hK5 h5
  have HP : Hid (Kept w w5 /\ Has w5 (bytesS v2 (frameOf kind cur) :: l)) := ⟨HK5.out.trans hK5, by unfold bytesS; rw [<- HX.out.1, HX.out.2]; exact h5⟩
  clear hK5 h5
  go_wp2
  go_ret2
  exact ⟨_, rfl, HP.out⟩
/-
  Nodes (layer 10): their pairs, and whether they are right.
-/
def intVal (x : Int) : Value := .int .i64 x
def intsS (v : Value) (xs : List Int) : Say := rowS 3 1 v xs.length (xs.map intVal)
theorem Has.ints_read {w : World} {l : List Say} {v : Value} {xs : List Int} (h : Has w l) (hm : intsS v xs ∈ l) :
  ∃ a c, v = .slice a xs.length c /\ xs.length <= c /\ ∀ k (hk : k < xs.length), ∃ g, a = some ⟨g, 0, none⟩ /\ w.cell? ⟨g, k, none⟩ = some (.int .i64 xs[k]) /\ ∀ j, w.frozen? ⟨g, j, none⟩ = false := by
 obtain ⟨_, a, c, hv, hc, _, hr⟩ := h.row_read hm
 exact ⟨a, c, hv, hc, fun k hk => hr k _ (by simp [hk, intVal])⟩
structure Nd where
 level : Int
 keys : List Int
 vals : List Int
def Nd.val (n : Nd) (kv vv : Value) : Value := .agg #[.int .i64 n.level, kv, vv]
def pairOk (k v : Int) : Bool := decide (0 <= k) && decide (k <= 1099511627776) && decide (1 <= v) && decide (v <= 2305843009213693952)
theorem pair_right {w : World} (k v : Int) : Calls Tryz.prog 164 #[.agg #[.int .i64 k, .int .i64 v]] w fun r w' => r = .returned (.bool (pairOk k v)) /\ Below w.heap.size w w' := by
 by_cases h1 : 0 <= k
 ·by_cases h2 : k <= 1099511627776
  ·by_cases h3 : 1 <= v
   ·go_enter Tryz.func164, Tryz.ntmps164
    go_wp2
    go_ret
    exact ⟨by simp [pairOk, h1, h2, h3], (Below.refl _ _).alloc (Nat.le_refl _) _⟩
   ·go_enter Tryz.func164, Tryz.ntmps164
    go_wp2
    go_ret
    exact ⟨by simp [pairOk]; omega, (Below.refl _ _).alloc (Nat.le_refl _) _⟩
  ·go_enter Tryz.func164, Tryz.ntmps164
   go_wp2
   go_ret
   exact ⟨by simp [pairOk]; omega, (Below.refl _ _).alloc (Nat.le_refl _) _⟩
 ·go_enter Tryz.func164, Tryz.ntmps164
  go_wp2
  go_ret
  exact ⟨by simp [pairOk]; omega, (Below.refl _ _).alloc (Nat.le_refl _) _⟩
def pairCells (p : Int × Int) : List Value := [.int .i64 p.1, .int .i64 p.2]
def pairsS (v : Value) (ps : List (Int × Int)) : Say := rowS 87 2 v ps.length (ps.flatMap pairCells)
theorem info_pair : (Tryz.prog.info? 87).map (fun i => (i.zero, i.size, i.bytes)) = some (some (.agg #[.int .i64 0, .int .i64 0]), 2, 16) := by kernel_rfl
def PairsPost (ps : List (Int × Int)) (l : List Say) (w : World) (r : Ending) (w' : World) : Prop := ∃ v, r = .returned v /\ Kept w w' /\ Has w' (pairsS v ps :: l)
def PairsMid (w : World) (ps : List (Int × Int)) (l : List Say) (k : Nat) (o : Value) (wx : World) : Prop := Kept w wx /\ Has wx (rowS 87 2 o k ((ps.take k).flatMap pairCells) :: l)
set_option maxRecDepth 100000 in
theorem node_pairs {w : World} {l : List Say} (n : Nd) {kv vv : Value} (h : Has w l) (hk : intsS kv n.keys ∈ l) (hv : intsS vv n.vals ∈ l) (hl : n.keys.length = n.vals.length) (h7 : n.keys.length <= 100) :
  Calls Tryz.prog 135 #[n.val kv vv] w (PairsPost (n.keys.zip n.vals) l w) := by
 obtain ⟨i0, I1, I2, I3, I4⟩ := info_parts info_pair
 obtain ⟨lv, ks, vs⟩ := n
 simp only [Nd.val] at *
 obtain ⟨ak, ck, rfl, _, hrk⟩ := h.ints_read hk
 obtain ⟨av, cv, rfl, _, hrv⟩ := h.ints_read hv
 have hbox := h.alloc (.cells #[.int .i64 lv, .slice ak ks.length ck, .slice av vs.length cv] 35)
 have c1 := cell_of hbox.got 1 rfl
 have c2 := cell_of hbox.got 2 rfl
 have HB := Lib.hid hbox
 have HK : Hid (Kept w (w.alloc (.cells #[.int .i64 lv, .slice ak ks.length ck, .slice av vs.length cv] 35))) := (Kept.refl w).alloc _
 have Hk := Lib.hid hk
 have Hv := Lib.hid hv
 have Hl := Lib.hid hl
 clear hbox h hk hv hrk hrv hl
 go_enter Tryz.func135, Tryz.ntmps135
 go_upto_region 1 with fail
 generalize w.alloc (.cells #[.int .i64 lv, .slice ak ks.length ck, .slice av vs.length cv] 35) = W at *
 generalize w.heap.size = bx at *
 have H0 : Hid (PairsMid w (ks.zip vs) (pts bx (.cells #[.int .i64 lv, .slice ak ks.length ck, .slice av vs.length cv] 35 (0, 0)) :: l) 0 (.slice none 0 0) W) := ⟨HK.out, HB.out.row_nil _ _⟩
 have lb := World.block_lt_of_cell? _ _ c1
 clear HB HK
 go_wp2
 go_loopg [3, 9] ks.length (fun gk o i wr => ∃ k : Nat, k <= ks.length /\ gk = ks.length - k /\ i = .int .i64 k /\ Hid (PairsMid w (ks.zip vs) (pts bx (.cells #[.int .i64 lv, .slice ak ks.length ck, .slice av vs.length cv] 35 (0, 0)) :: l) k o wr))
 case atStart => exact ⟨0, Nat.zero_le _, rfl, rfl, H0⟩
 case round =>
  clear H0 c1 c2 lb
  obtain ⟨k, hk, rfl, rfl, HM⟩ := hrel
  by_cases hlt : k < ks.length
  ·obtain ⟨hK, hh⟩ := HM.out
   have hlv : k < vs.length := by rw [<- Hl.out]; exact hlt
   obtain ⟨a1, c1', e1, _, hr1⟩ := hh.ints_read (.tail _ (.tail _ Hk.out))
   cases e1
   obtain ⟨gk1, rfl, hc1, _⟩ := hr1 k hlt
   obtain ⟨a2, c2', e2, _, hr2⟩ := hh.ints_read (.tail _ (.tail _ Hv.out))
   cases e2
   obtain ⟨gv1, rfl, hc2, _⟩ := hr2 k hlv
   have c2 := cell_of hh.tail.got 2 rfl
   have lb := World.block_lt_of_cell? _ _ c2
   have hk1 : (k : Int) < (ks.length : Int) := by omega
   have hk2 : (k : Int) < (vs.length : Int) := by omega
   have hk0 : (0 : Int) <= k := by omega
   have HX : Hid ((ks.zip vs).take (k + 1) = (ks.zip vs).take k ++ [(ks[k], vs[k])]) := by
    show _ = _
    have hz : k < (ks.zip vs).length := by rw [List.length_zip]; omega
    rw [List.take_succ_eq_append_getElem hz, List.getElem_zip]
   generalize hkk : ks[k] = kk at *
   generalize hvk : vs[k] = vk at *
   have HH := Lib.hid hh
   have HK := Lib.hid hK
   obtain ⟨xs, hxs⟩ : ∃ xs, xs = ((ks.zip vs).take k).flatMap pairCells := ⟨_, rfl⟩
   have HXS := Lib.hid hxs
   have hh' := hh
   rw [<- hxs] at hh'
   have HH' := Lib.hid hh'
   clear hr1 hr2 hh hK HM hkk hvk HH hxs hh'
   go_wp2_with (at_builtin; go_loud (refine wpList_append_row (l := pts bx (.cells #[.int .i64 lv, .slice (some ⟨gk1, 0, none⟩) ks.length ck, .slice (some ⟨gv1, 0, none⟩) vs.length cv] 35 (0, 0)) :: l) rfl (.tmp 14) (.tmp 22) 75 rfl 87 i0 (.agg #[.int .i64 0, .int .i64 0]) 2 16 Tryz.underlying75 I1 I2 I3 I4 rfl (by decide) _ k xs rfl ?hown ⟨_, 0, none⟩ 1 1 [.int .i64 kk, .int .i64 vk] rfl rfl (many_new _ [.int .i64 kk, .int .i64 vk] _ rfl) (by intro u hu; simp at hu; rcases hu with rfl | rfl <;> rfl) ?h63 ?hby ?next))
   case hown => exact HH'.out.alloc_off _
   case h63 => simp [maxLen]; omega
   case hby => omega
   case next =>
    intro v2 w4 hK4 h4
    have HK4 := Lib.hid ((HK.out.alloc _).trans hK4)
    have H4 := Lib.hid h4
    clear hK4 h4
    go_wp2
    go_roundg (ks.length - (k + 1))
    case measure => omega
    case rel =>
     refine ⟨k + 1, by omega, rfl, by simp, HK4.out, ?_⟩
     rw [HX.out, List.flatMap_append, <- HXS.out]
     exact H4.out
  ·obtain rfl : k = ks.length := by omega
   obtain ⟨hK, hh⟩ := HM.out
   have HP : Hid (Kept w wr /\ Has wr (pairsS u3 (ks.zip vs) :: l)) := ⟨hK, by
    have h1 := hh.swap.tail
    have e : ks.length = (ks.zip vs).length := by rw [List.length_zip, <- Hl.out]; simp
    rw [e, List.take_length] at h1
    exact h1⟩
   clear hK hh HM
   go_wp2
   go_ret
   exact ⟨_, rfl, HP.out⟩
/-
  Nodes (layer 10), the second part: whether they are right.
-/
structure Garb (W : World) where
 w : World
 below : Below W.heap.size W w
instance (W : World) : Nonempty (Garb W) := ⟨⟨W, Below.refl _ _⟩⟩
theorem wp_region_garb {P : Program} {id : Nat} {Q : Exit -> Act -> World -> Prop} {a : Act} {W : World} {l : List Oper} (hm : P.follows .mixedOrders = true) (hB : Region.lexB .any l.toArray = true)
  (h : wpQuiet P l.toArray (fun w' => ∃ n : Garb W, w' = n.w) (fun a' => ∀ w', (∃ n : Garb W, w' = n.w) -> Q .normal a' w') l a) : (Code.region id l.toArray true).wp P Q a W :=
 wp_region_quiet (C := fun w' => ∃ n : Garb W, w' = n.w) hm hB ⟨⟨W.drew, (Below.refl _ _).drew⟩, rfl⟩ (by simpa using h)
theorem garb_call {P : Program} {f : FuncId} {args : Array Value} {W : World} {n : Garb W} {v : Value} (h : Calls P f args n.w fun e w' => e = .returned v /\ Below n.w.heap.size n.w w') :
  Calls P f args n.w fun e w'' => e = .returned v /\ ∃ m : Garb W, w'' = m.w :=
 h.mono fun _ w' ⟨he, hb⟩ => ⟨he, ⟨w', n.below.trans (hb.mono n.below.size)⟩, rfl⟩
def ordAt (ps : List (Int × Int)) (k : Nat) : Bool :=
 match ps[k]? with
 | none => true
 | some p => pairOk p.1 p.2 && (k == 0 || match ps[k - 1]? with | none => true | some q => decide (q.1 < p.1))
def ordTo (ps : List (Int × Int)) : Nat -> Bool
 | 0 => true
 | k + 1 => ordTo ps k && ordAt ps k
theorem ordTo_false (ps : List (Int × Int)) (k : Nat) (h : ordAt ps k = false) : ∀ n, k < n -> ordTo ps n = false
 | 0, hn => by omega
 | n + 1, hn => by
  rw [ordTo]
  by_cases e : k = n
  ·subst e; simp [h]
  ·simp [ordTo_false ps k h n (by omega)]
theorem bcell1 {w W : World} (hb : Below W.heap.size W w) {b o : Nat} {v : Value} (h : W.cell? ⟨b, o, none⟩ = some v) : w.cell? ⟨b, o, none⟩ = some v := by
 rw [(bcell hb).1 _ _ (World.block_lt_of_cell? _ _ h)]; exact h
theorem Has.pairs_read {w : World} {l : List Say} {v : Value} {ps : List (Int × Int)} (h : Has w l) (hm : pairsS v ps ∈ l) :
  ∃ a c, v = .slice a ps.length c /\ ps.length <= c /\ ∀ k p, ps[k]? = some p -> ∃ g, a = some ⟨g, 0, none⟩ /\ w.cell? ⟨g, k * 2, none⟩ = some (.int .i64 p.1) /\ w.cell? ⟨g, k * 2 + 1, none⟩ = some (.int .i64 p.2) := by
 obtain ⟨h1, h2⟩ := h.row_own hm
 rcases h2 with ⟨rfl, h0⟩ | ⟨g, cap, cur, rfl, _, hg, hn, hc, hs, ht⟩
 ·refine ⟨none, 0, by rw [h0], by omega, fun k p hp => ?_⟩
  have := (List.getElem?_eq_some_iff.1 hp).1
  omega
 ·refine ⟨_, cap, rfl, hn, fun k p hp => ⟨g, rfl, ?_⟩⟩
  have hx : ∀ (ps : List (Int × Int)) (k : Nat) (p : Int × Int), ps[k]? = some p -> (ps.flatMap pairCells)[k * 2]? = some (.int .i64 p.1) /\ (ps.flatMap pairCells)[k * 2 + 1]? = some (.int .i64 p.2) := by
   intro ps
   induction ps with
   | nil => intro k p hp; simp at hp
   | cons q ps ih =>
    intro k p hp
    cases k with
    | zero => simp at hp; subst hp; simp [pairCells]
    | succ k =>
     have := ih k p (by simpa using hp)
     have e : (q :: ps).flatMap pairCells = [.int .i64 q.1, .int .i64 q.2] ++ ps.flatMap pairCells := rfl
     rw [e]
     constructor
     ·rw [List.getElem?_append_right (by simp; omega)]; simpa [show (k + 1) * 2 - 2 = k * 2 by omega] using this.1
     ·rw [List.getElem?_append_right (by simp; omega)]; simpa [show (k + 1) * 2 + 1 - 2 = k * 2 + 1 by omega] using this.2
  obtain ⟨e1, e2⟩ := hx ps k p hp
  have take : ∀ (j : Nat) (u : Value), (ps.flatMap pairCells)[j]? = some u -> cur[j]? = some u := by
   intro j u hu
   rw [<- ht, List.getElem?_take] at hu
   split at hu
   ·simpa using hu
   ·cases hu
  exact ⟨cell_of hg _ (take _ _ e1), cell_of hg _ (take _ _ e2)⟩
set_option maxRecDepth 100000 in
theorem node_ordered {w : World} {l : List Say} {v : Value} {ps : List (Int × Int)} (h : Has w l) (hm : pairsS v ps ∈ l) (hlen : ps.length <= 100) :
  Calls Tryz.prog 161 #[v] w fun r w' => r = .returned (.bool (ordTo ps ps.length)) /\ Below w.heap.size w w' := by
 obtain ⟨a, c, rfl, _, hr⟩ := h.pairs_read hm
 have HR := Lib.hid hr
 clear h hm hr
 go_enter Tryz.func161, Tryz.ntmps161
 go_wp2
 go_loopg [7] ps.length (fun gk i wr => ∃ k : Nat, k <= ps.length /\ gk = ps.length - k /\ i = .int .i64 k /\ ordTo ps k = true /\ Hid (Below w.heap.size w wr))
 case atStart => exact ⟨0, Nat.zero_le _, rfl, rfl, rfl, Below.refl _ _⟩
 case round =>
  obtain ⟨k, hk, rfl, rfl, ho, HB⟩ := hrel
  by_cases hlt : k < ps.length
  ·obtain ⟨g, rfl, h1, h2⟩ := HR.out k ps[k] (List.getElem?_eq_getElem hlt)
   have hk1 : (k : Int) < (ps.length : Int) := by omega
   have hk0 : (0 : Int) <= k := by omega
   have b1 := bcell1 HB.out h1
   have b2 := bcell1 HB.out h2
   have HO := Lib.hid ho
   generalize hp : ps[k] = p at *
   obtain ⟨pa, pb⟩ := p
   simp only at h1 h2 b1 b2
   have l1 := World.block_lt_of_cell? _ _ b1
   clear h1 h2 ho
   have HN : Hid (Below w.heap.size w (wr.alloc (.cells #[.int .i64 pa, .int .i64 pb] 87))) := HB.out.alloc HB.out.size _
   have HP := Lib.hid hp
   have x0 : (wr.alloc (.cells #[.int .i64 pa, .int .i64 pb] 87)).cell? ⟨wr.heap.size, 0, none⟩ = some (.int .i64 pa) := World.cell?_alloc_new _ _ _ 0
   have x1 : (wr.alloc (.cells #[.int .i64 pa, .int .i64 pb] 87)).cell? ⟨wr.heap.size, 1, none⟩ = some (.int .i64 pb) := World.cell?_alloc_new _ _ _ 1
   clear hp HB
   go_upto_region 4 with fail
   generalize wr.alloc (.cells #[.int .i64 pa, .int .i64 pb] 87) = W at *
   generalize wr.heap.size = b4 at *
   clear b1 b2 l1
   have l1 := World.block_lt_of_cell? _ _ x0
   have y0 : ∀ n : Garb W, n.w.cell? ⟨b4, 0, none⟩ = some (.int .i64 pa) := fun n => bcell1 n.below x0
   have y1 : ∀ n : Garb W, n.w.cell? ⟨b4, 1, none⟩ = some (.int .i64 pb) := fun n => bcell1 n.below x1
   have hkl := Lib.hid hlt
   have HRt : Hid (∀ n : Garb W, Calls Tryz.prog 164 #[.agg #[.int .i64 pa, .int .i64 pb]] n.w fun e w'' => e = .returned (.bool (pairOk pa pb)) /\ ∃ m : Garb W, w'' = m.w) := fun n => garb_call (pair_right (w := n.w) pa pb)
   cases hpk : pairOk pa pb with
   | false =>
    rw [hpk] at HRt
    have HPK := Lib.hid hpk
    clear hpk
    refine wp_region_garb (W := W) (by kernel_rfl) (by kernel_rfl) ?_
    repeat (go_big_quiet_step ((go_at_call 164; exact HRt.out _)))
    refine wpQuiet_nil ?_
    rintro _ ⟨n, rfl⟩
    go_wp2
    go_ret
    refine ⟨?_, HN.out.trans (n.below.mono HN.out.size)⟩
    rw [ordTo_false ps k _ ps.length hlt]
    ·rfl
    ·rw [ordAt, List.getElem?_eq_getElem hlt, HP.out]; simp [HPK.out]
   | true =>
    rw [hpk] at HRt
    have HPK := Lib.hid hpk
    clear hpk
    by_cases h0 : k = 0
    ·subst h0
     have hd0 : decide ((0 : Int) < ((0 : Nat) : Int)) = false := rfl
     have HA : Hid (ordTo ps (0 + 1) = true) := by show _ = _; rw [ordTo, HO.out, ordAt, List.getElem?_eq_getElem hlt, HP.out]; simp [HPK.out]
     refine wp_region_garb (W := W) (by kernel_rfl) (by kernel_rfl) ?_
     repeat (go_big_quiet_step ((go_at_call 164; exact HRt.out _)))
     refine wpQuiet_nil ?_
     rintro _ ⟨n, rfl⟩
     go_wp2
     go_roundg (ps.length - (0 + 1))
     case measure => omega
     case rel => exact ⟨0 + 1, by omega, rfl, by simp, HA.out, HN.out.trans (n.below.mono HN.out.size)⟩
    ·obtain ⟨m, hm⟩ : ∃ m, k = m + 1 := ⟨k - 1, by omega⟩
     have hmlt : m < ps.length := by omega
     have hd0 : 0 < k := by omega
     have hsub : (k : Int) - 1 = (m : Int) := by omega
     have hsub2 : IntKind.i64.wrap ((k : Int) - 1) = (m : Int) := by rw [IntKind.wrap_i64]; omega
     have hm1 : (m : Int) < (ps.length : Int) := by omega
     have hm0 : (0 : Int) <= (m : Int) := by omega
     have HQ := Lib.hid (List.getElem?_eq_getElem hmlt)
     obtain ⟨g', hg', q1, _⟩ := HR.out m ps[m] (List.getElem?_eq_getElem hmlt)
     cases hg'
     generalize ps[m] = q at *
     have z0 : ∀ n : Garb W, n.w.cell? ⟨g, m * 2, none⟩ = some (.int .i64 q.1) := fun n => bcell1 (HN.out.trans (n.below.mono HN.out.size)) q1
     have Hm := Lib.hid hm
     clear q1 hm h0
     have HAt : Hid (ordAt ps k = decide (q.1 < pa)) := by
      show _ = _
      have e := Hm.out
      rw [ordAt, List.getElem?_eq_getElem hlt, HP.out]
      have e2 : k - 1 = m := by omega
      have e3 : (k == 0) = false := by simp; omega
      simp only [e2, HQ.out, e3, HPK.out, Bool.true_and, Bool.false_or]
     have Hhlt := Lib.hid hlt
     by_cases hc : q.1 < pa
     ·have hcb : decide (pa <= q.1) = false := by simp; omega
      have HA : Hid (ordTo ps (k + 1) = true) := by show _ = _; rw [ordTo, HO.out, HAt.out]; simp [hc]
      refine wp_region_garb (W := W) (by kernel_rfl) (by kernel_rfl) ?_
      repeat (go_big_quiet_step ((go_at_call 164; exact HRt.out _)))
      refine wpQuiet_nil ?_
      rintro _ ⟨n, rfl⟩
      go_wp2
      go_roundg (ps.length - (k + 1))
      case measure => omega
      case rel => exact ⟨k + 1, by omega, rfl, by simp, HA.out, HN.out.trans (n.below.mono HN.out.size)⟩
     ·have hcb : pa <= q.1 := by omega
      have HA : Hid (ordTo ps ps.length = false) := ordTo_false ps k (by rw [HAt.out]; simp; omega) ps.length hlt
      refine wp_region_garb (W := W) (by kernel_rfl) (by kernel_rfl) ?_
      repeat (go_big_quiet_step ((go_at_call 164; exact HRt.out _)))
      refine wpQuiet_nil ?_
      rintro _ ⟨n, rfl⟩
      go_wp2
      go_ret
      exact ⟨by rw [HA.out]; rfl, HN.out.trans (n.below.mono HN.out.size)⟩
  ·obtain rfl : k = ps.length := by omega
   have HO := Lib.hid ho
   clear ho
   go_wp2
   go_ret
   exact ⟨by rw [HO.out]; rfl, HB.out⟩
end Go.Proofs.YtgbgneiciabidaaGreatDoor
