/-
  Frames (layer 2): the unpacker.
-/
import Derived.Test.YtgbgneiciabidaaGreatDoorGb19
import Derived.Test.YtgbgneiciabidaaGreatDoorGb9
import Derived.Test.YtgbgneiciabidaaGreatDoorGb12
import Derived.Test.YtgbgneiciabidaaGreatDoorGb18
namespace Go.Proofs.YtgbgneiciabidaaGreatDoor
open Go Go.RowKit
set_option linter.all false

def acc (xs : List Int) : Int := xs.foldl (fun a b => a * 256 + b) 0
theorem acc_snoc (xs : List Int) (x : Int) : acc (xs ++ [x]) = acc xs * 256 + x := by simp [acc, List.foldl_append]
theorem acc_bd : ∀ (k : Nat) (xs : List Int), xs.length = k → (∀ x ∈ xs, 0 ≤ x ∧ x < 256) → 0 ≤ acc xs ∧ acc xs < 256 ^ k
  | 0, xs, h, _ => by obtain rfl := List.eq_nil_of_length_eq_zero h; simp [acc]
  | k + 1, xs, h, hb => by
    obtain ⟨ys, y, rfl⟩ : ∃ ys y, xs = ys ++ [y] := ⟨xs.dropLast, xs.getLast (by intro e; subst e; simp at h), (List.dropLast_concat_getLast _).symm⟩
    have h1 := acc_bd k ys (by simpa using h) fun x hx => hb x (by simp [hx])
    have h2 := hb y (by simp)
    rw [acc_snoc, Int.pow_succ]
    omega
/-- An unpacker that has these bytes before it. -/
structure UnpAt where
  g : Nat
  o : Nat
  c : Nat
  full : List Int
  fc : Nat
def unpS (u : Nat) (rest : List Int) : Say := ex fun x : UnpAt => fact ((∀ (k : Nat) (b : Int), rest[k]? = some b → x.full[x.o + k]? = some b) ∧ rest.length ≤ x.c ∧ x.c ≤ maxLen)
  (all [pts u (.cells #[.slice (some ⟨x.g, x.o, none⟩) rest.length x.c, .bool false] 345 (0, 0)), bytesS (.slice (some ⟨x.g, 0, none⟩) x.full.length x.fc) x.full])
theorem Has.unp_open {w : World} {l : List Say} {u : Nat} {rest : List Int} (h : Has w (unpS u rest :: l)) : ∃ x : UnpAt, ((∀ (k : Nat) (b : Int), rest[k]? = some b → x.full[x.o + k]? = some b) ∧ rest.length ≤ x.c ∧ x.c ≤ maxLen) ∧
    Has w (pts u (.cells #[.slice (some ⟨x.g, x.o, none⟩) rest.length x.c, .bool false] 345 (0, 0)) :: bytesS (.slice (some ⟨x.g, 0, none⟩) x.full.length x.fc) x.full :: l) := by
  obtain ⟨x, h⟩ := h.opened
  obtain ⟨ok, h⟩ := h.unfact
  exact ⟨x, ok, h.split⟩
theorem Has.unp_shut {w : World} {l : List Say} {u : Nat} {rest : List Int} (x : UnpAt) (ok : (∀ (k : Nat) (b : Int), rest[k]? = some b → x.full[x.o + k]? = some b) ∧ rest.length ≤ x.c ∧ x.c ≤ maxLen)
    (h : Has w (pts u (.cells #[.slice (some ⟨x.g, x.o, none⟩) rest.length x.c, .bool false] 345 (0, 0)) :: bytesS (.slice (some ⟨x.g, 0, none⟩) x.full.length x.fc) x.full :: l)) : Has w (unpS u rest :: l) :=
  Has.chosen x (Has.tofact ok (Has.unite h))
theorem wrap_u64 (x : Int) (h0 : 0 ≤ x) (h1 : x < 18446744073709551616) : IntKind.u64.wrap x = x := by
  have : x % 2 ^ 64 = x := Int.emod_eq_of_lt h0 (by omega)
  simp [IntKind.wrap, IntKind.bits, IntKind.signed]
  omega
theorem or_byte (a b : Nat) (ha : a ≤ 72057594037927935) (hb : b < 256) : bits BinOp.or IntKind.u64 ((a : Int) * 256) (b : Int) = (a : Int) * 256 + b := by
  have e : ((BitVec.ofInt 64 ((a : Int) * 256)) ||| (BitVec.ofInt 64 (b : Int))).toNat = a * 256 + b := by
    have e1 : (BitVec.ofInt 64 ((a : Int) * 256)).toNat = a * 256 := by
      rw [BitVec.toNat_ofInt]
      omega
    have e2 : (BitVec.ofInt 64 (b : Int)).toNat = b := by
      rw [BitVec.toNat_ofInt]
      omega
    rw [BitVec.toNat_or, e1, e2]
    have := Nat.shiftLeft_add_eq_or_of_lt (show b < 2 ^ 8 by omega) a
    rw [Nat.shiftLeft_eq] at this
    exact this.symm
  unfold bits
  show IntKind.u64.wrap (((BitVec.ofInt 64 ((a : Int) * 256)) ||| (BitVec.ofInt 64 (b : Int))).toNat : Int) = _
  rw [e, wrap_u64 _ (by omega) (by omega)]
  omega

def UTakePost (u : Nat) (n : Int) (rest : List Int) (l : List Say) (w : World) (r : Ending) (w' : World) : Prop := r = .returned (.int .i64 n) ∧ Kept w w' ∧ Has w' (unpS u rest :: l)
set_option maxRecDepth 100000 in
set_option maxHeartbeats 2000000 in
theorem unp_take {w : World} {l : List Say} {u : Nat} {xs rest : List Int} (h : Has w (unpS u (xs ++ rest) :: l)) (h1 : 1 ≤ xs.length) (h8 : xs.length ≤ 8) (hb : ∀ x ∈ xs, 0 ≤ x ∧ x < 256) (hm : acc xs ≤ 4611686018427387903) :
    Calls Tryz.prog 249 #[.pointer (some ⟨u, 0, none⟩), .int .i64 (xs.length : Int)] w (UTakePost u (acc xs) rest l w) := by
  obtain ⟨⟨g, o, c, full, fc⟩, ⟨hr, hc, hcm⟩, hh⟩ := h.unp_open
  simp only at hr hc hcm hh
  have hp := hh.got
  have u0 : w.cell? ⟨u, 0, none⟩ = some (.slice (some ⟨g, o, none⟩) (xs ++ rest).length c) := cell_of hp 0 rfl
  have u1 : w.cell? ⟨u, 1, none⟩ = some (.bool false) := cell_of hp 1 rfl
  have f0 := thaw_of hp 0
  have lu := World.block_lt_of_cell? _ _ u0
  have hby := hh.bytes_at (gb := g) (n := full.length) (c := fc) (sec := full) (by simp)
  have HX : Hid (∀ (k : Nat) (b : Int), xs[k]? = some b → w.cell? ⟨g, o + k, none⟩ = some (.int .u8 b)) := fun k b hk => by
    have hkl := (List.getElem?_eq_some_iff.1 hk).1
    have h2 := hr k b (by rw [List.getElem?_append_left hkl]; exact hk)
    have := hby.get h2
    rwa [Nat.zero_add] at this
  rw [List.length_append] at u0 hc
  have Hh := Lib.hid hh
  have Hr := Lib.hid hr
  have Hb := Lib.hid hb
  have Hm := Lib.hid hm
  clear h hh hp hby hr hb hm
  generalize hn : xs.length = n at *
  generalize hn2 : rest.length = m at *
  have Hn := Lib.hid hn
  have Hn2 := Lib.hid hn2
  clear hn hn2
  have hnI : (n : Int) ≤ 8 := by omega
  have hcI : ((n : Int) + (m : Int)) ≤ (c : Int) := by omega
  have hcMI : (c : Int) ≤ 9223372036854775807 := by unfold maxLen at hcm; omega
  have hmI : (m : Int) ≤ 9223372036854775807 := by omega
  go_enter Tryz.func249, Tryz.ntmps249
  go_wp2
  go_loop [31, 5] (fun i a => ∃ k : Nat, k ≤ n ∧ i = .int .i64 k ∧ a = .int .u64 (acc (xs.take k))) (fun i _ => n - (intOf i).toNat)
  case atStart => exact ⟨0, Nat.zero_le _, rfl, rfl⟩
  case round =>
    obtain ⟨k, hk, rfl, rfl⟩ := hrel
    by_cases hlt : k < n
    · have hkx : k < xs.length := by have := Hn.out; omega
      have hc2 := HX.out k xs[k] (List.getElem?_eq_getElem hkx)
      have hxb := Hb.out xs[k] (List.getElem_mem hkx)
      have hab := acc_bd k (xs.take k) (by rw [List.length_take]; omega) fun x hx => Hb.out x (List.mem_of_mem_take hx)
      have HT : Hid (acc (xs.take (k + 1)) = acc (xs.take k) * 256 + xs[k]) := by rw [List.take_succ_eq_append_getElem hkx]; exact acc_snoc _ _
      generalize xs[k] = x at *
      generalize acc (xs.take k) = a at *
      have hlg := World.block_lt_of_cell? _ _ hc2
      have hkI : (k : Int) < (n : Int) := by omega
      have hab2 : a ≤ 72057594037927935 := by
        have : (256 : Int) ^ k ≤ 256 ^ 7 := by exact_mod_cast Nat.pow_le_pow_right (by decide) (show k ≤ 7 by omega)
        have h7 : (256 : Int) ^ 7 = 72057594037927936 := by decide
        omega
      obtain ⟨a, rfl⟩ := Int.eq_ofNat_of_zero_le hab.1
      obtain ⟨x, rfl⟩ := Int.eq_ofNat_of_zero_le hxb.1
      have hor := or_byte a x (by omega) (by omega)
      have hwr : IntKind.u64.wrap ((a : Int) * 256) = (a : Int) * 256 := wrap_u64 _ (by omega) (by omega)
      clear hab hab2
      go_wp2
      go_round
      case rel => exact ⟨k + 1, by omega, by go_num, by rw [HT.out]⟩
      case measure => simp [intOf]; omega
    · obtain rfl : k = n := by omega
      have hA : acc (xs.take k) = acc xs := by rw [List.take_of_length_le]; have := Hn.out; omega
      have hA0 := (acc_bd k xs Hn.out Hb.out).1
      have hA1 := Hm.out
      rw [hA]
      have HA := Lib.hid hA
      clear hA
      obtain ⟨A, hAA⟩ : ∃ A, A = acc xs := ⟨_, rfl⟩
      have HAA := Lib.hid hAA
      rw [← hAA] at hA0 hA1 ⊢
      clear hAA
      by_cases hck : k = c
      · subst hck
        obtain rfl : m = 0 := by omega
        go_wp2
        go_ret
        obtain rfl : rest = [] := List.eq_nil_of_length_eq_zero Hn2.out
        refine ⟨by rw [← HAA.out]; rfl, (Kept.refl w).setCell _ _, Has.unp_shut ⟨g, o, 0, full, fc⟩ ⟨fun k b h => by simp at h, by simp, by simp⟩ ?_⟩
        exact Hh.out.setCell 0 (.slice (some ⟨g, o, none⟩) 0 0)
      · have hkc : k < c := by omega
        go_wp2
        go_ret
        refine ⟨by rw [← HAA.out]; rfl, (Kept.refl w).setCell _ _, Has.unp_shut ⟨g, o + k, c - k, full, fc⟩ ⟨fun j b h => ?_, by have := Hn2.out; show rest.length ≤ c - k; omega, by show c - k ≤ maxLen; omega⟩ ?_⟩
        · have := Hr.out (k + j) b (by rw [List.getElem?_append_right (by have := Hn.out; omega), Hn.out, Nat.add_sub_cancel_left]; exact h)
          rwa [← Nat.add_assoc] at this
        · show Has _ (pts u (.cells #[.slice (some ⟨g, o + k, none⟩) rest.length (c - k), .bool false] 345 (0, 0)) :: _)
          rw [Hn2.out]
          exact Hh.out.setCell 0 (.slice (some ⟨g, o + k, none⟩) m (c - k))

theorem unp_Byte {w : World} {l : List Say} {u : Nat} {x : Int} {rest : List Int} (h : Has w (unpS u (x :: rest) :: l)) (h0 : 0 ≤ x) (h1 : x < 256) :
    Calls Tryz.prog 235 #[.pointer (some ⟨u, 0, none⟩)] w (UTakePost u x rest l w) := by
  have e : acc [x] = x := by simp [acc]
  have H := Lib.hid (unp_take (xs := [x]) h (by simp) (by simp) (by intro y hy; obtain rfl := List.mem_singleton.1 hy; exact ⟨h0, h1⟩) (by rw [e]; omega))
  rw [e] at H
  simp only [List.length_singleton] at H
  clear h
  go_enter Tryz.func235, Tryz.ntmps235
  go_wp2_with fail
  refine H.out.mono ?_
  rintro r w1 ⟨rfl, hK, hh⟩
  have HP : Hid (Kept w w1 ∧ Has w1 (unpS u rest :: l)) := ⟨hK, hh⟩
  clear hK hh H
  go_wp2
  go_ret
  exact ⟨rfl, HP.out⟩
theorem acc_bytes8 (x : Int) (h0 : 0 ≤ x) (h1 : x ≤ 4611686018427387903) : acc (bytes8 x) = x ∧ ∀ b ∈ bytes8 x, 0 ≤ b ∧ b < 256 := by
  unfold bytes8 acc
  constructor
  · simp only [List.foldl_cons, List.foldl_nil]
    omega
  · intro b hb
    simp only [List.mem_cons, List.not_mem_nil, or_false] at hb
    omega
theorem unp_Long {w : World} {l : List Say} {u : Nat} {x : Int} {rest : List Int} (h : Has w (unpS u (bytes8 x ++ rest) :: l)) (h0 : 0 ≤ x) (h1 : x ≤ 4611686018427387903) :
    Calls Tryz.prog 236 #[.pointer (some ⟨u, 0, none⟩)] w (UTakePost u x rest l w) := by
  obtain ⟨e, hb⟩ := acc_bytes8 x h0 h1
  have H := Lib.hid (unp_take (xs := bytes8 x) h (by simp [bytes8]) (by simp [bytes8]) hb (by rw [e]; exact h1))
  rw [e] at H
  have e8 : (bytes8 x).length = 8 := rfl
  rw [e8] at H
  clear h e hb e8
  go_enter Tryz.func236, Tryz.ntmps236
  go_wp2_with fail
  refine H.out.mono ?_
  rintro r w1 ⟨rfl, hK, hh⟩
  have HP : Hid (Kept w w1 ∧ Has w1 (unpS u rest :: l)) := ⟨hK, hh⟩
  clear hK hh H
  go_wp2
  go_ret
  exact ⟨rfl, HP.out⟩
def NewUnpPost (cur : List Int) (l : List Say) (w : World) (r : Ending) (w' : World) : Prop := ∃ u : Nat, r = .returned (.pointer (some ⟨u, 0, none⟩)) ∧ Kept w w' ∧ Has w' (unpS u cur :: l)
theorem unp_New {w : World} {l : List Say} {v : Value} {cur : List Int} (h : Has w l) (hm : bytesS v cur ∈ l) (h0 : 0 < cur.length) (h1 : cur.length ≤ 122) :
    Calls Tryz.prog 234 #[v] w (NewUnpPost cur l w) := by
  obtain ⟨g, c, rfl, hcl, hdat, _⟩ := h.bytes_read hm h0
  have HC := Lib.hid (clone_u8 h g 0 cur.length c (cur.map byteVal) (by simp) (fun j u hu => by rw [Nat.zero_add]; exact hdat j u hu) (bytes_one cur) (by simp [maxLen]; omega) (by omega))
  have H0 := Lib.hid h0
  clear h hdat
  go_enter Tryz.func234, Tryz.ntmps234
  go_wp2_with fail
  refine HC.out.mono ?_
  rintro r w1 ⟨v, rfl, hK, h2⟩
  have h3 : Has w1 (bytesS v cur :: l) := h2
  obtain ⟨gv, cv, rfl, hcv, _, _⟩ := h3.bytes_read (v := v) (cur := cur) (.head _) H0.out
  have h4 := h3.alloc (.cells #[.slice (some ⟨gv, 0, none⟩) cur.length cv, .bool false] 345)
  have HK := Lib.hid (hK.alloc (.cells #[.slice (some ⟨gv, 0, none⟩) cur.length cv, .bool false] 345))
  have hbig : cv ≤ maxLen := by
    obtain ⟨_, _, _, e, _, hm, _⟩ := h3.row_read (.head _)
    injection e with e1 e2 e3
    rw [e3]; exact hm
  have HP : Hid (Has (w1.alloc (.cells #[.slice (some ⟨gv, 0, none⟩) cur.length cv, .bool false] 345)) (unpS w1.heap.size cur :: l)) :=
    Has.unp_shut ⟨gv, 0, cv, cur, cv⟩ ⟨fun k b hk => by rw [Nat.zero_add]; exact hk, hcv, hbig⟩ h4
  clear h2 h3 h4 hK HC
  go_wp2
  go_ret
  exact ⟨_, rfl, HK.out, HP.out⟩
end Go.Proofs.YtgbgneiciabidaaGreatDoor
/-
  Nodes (layer 10): Parse of what Bytes gave.
-/
namespace Go.Proofs.YtgbgneiciabidaaGreatDoor
open Go Go.RowKit
set_option linter.all false

def ParsePost (n : Nd) (gb c : Nat) (l : List Say) (w : World) (r : Ending) (w' : World) : Prop :=
  ∃ kv vv, r = .returned (.tuple #[n.val kv vv, .nilIface]) ∧ Kept w w' ∧ Has w' (intsS kv n.keys :: intsS vv n.vals :: bytesS (.slice (some ⟨gb, 0, none⟩) 128 c) (frameOf 2 (nodeBytes n)) :: l)
def restP (ks vs : List Int) (k : Nat) : List Int := ((ks.zip vs).drop k).flatMap pairBytes
theorem rest_next {ks vs : List Int} {k : Nat} {x y : Int} (hx : ks[k]? = some x) (hy : vs[k]? = some y) : restP ks vs k = bytes8 x ++ (bytes8 y ++ restP ks vs (k + 1)) := by
  have hk := (List.getElem?_eq_some_iff.1 hx).1
  have hv := (List.getElem?_eq_some_iff.1 hy).1
  have hz : k < (ks.zip vs).length := by simp; omega
  unfold restP
  rw [List.drop_eq_getElem_cons hz, List.flatMap_cons]
  have e : (ks.zip vs)[k] = (x, y) := by
    rw [List.getElem_zip]
    rw [List.getElem?_eq_getElem hk] at hx
    rw [List.getElem?_eq_getElem hv] at hy
    rw [Option.some.inj hx, Option.some.inj hy]
  rw [e, pairBytes, List.append_assoc]
def ParMid (w : World) (lv : Int) (ks vs : List Int) (u r7 r2 gb c : Nat) (vb : Value) (l : List Say) (k : Nat) (wr : World) : Prop :=
  ∃ ak ck av cv, Kept w wr ∧ Has wr (unpS u (restP ks vs k) :: pts r7 (.cells #[.int .i64 lv, .slice ak k ck, .slice av k cv] 35 (0, 0)) :: intsS (.slice ak k ck) (ks.take k) :: intsS (.slice av k cv) (vs.take k) :: bytesS vb (nodeBytes ⟨lv, ks, vs⟩) :: bytesS (.slice (some ⟨gb, 0, none⟩) 128 c) (frameOf 2 (nodeBytes ⟨lv, ks, vs⟩)) :: pts r2 (.cells #[.int .i64 0, .slice none 0 0, .slice none 0 0] 35 (0, 0)) :: l)
theorem pairs_ok {n : Nd} (ok : n.ok = true) (k : Nat) (x y : Int) (hx : n.keys[k]? = some x) (hy : n.vals[k]? = some y) : pairOk x y = true := by
  have hk := (List.getElem?_eq_some_iff.1 hx).1
  have hv := (List.getElem?_eq_some_iff.1 hy).1
  unfold Nd.ok at ok
  simp only [Bool.and_eq_true] at ok
  have hz : n.pairs[k]? = some (x, y) := by
    unfold Nd.pairs
    rw [List.getElem?_zip_eq_some]
    exact ⟨hx, hy⟩
  exact ordTo_all n.pairs _ ok.2 k (x, y) (List.getElem?_eq_some_iff.1 hz).1 hz
theorem nodeBytes_len {n : Nd} (ok : n.ok = true) : 0 < (nodeBytes n).length ∧ (nodeBytes n).length ≤ 122 := by
  obtain ⟨_, _, h3, h4, h5⟩ := ok_lens ok
  unfold nodeBytes
  rw [List.length_append, flatP_len]
  have : n.pairs.length ≤ 7 := by unfold Nd.pairs; rw [List.length_zip]; omega
  simp
  omega

set_option maxHeartbeats 4000000 in
set_option maxRecDepth 100000 in
theorem node_Parse {w : World} {l : List Say} {gb c : Nat} (nd : Nd) (ok : nd.ok = true) (h : Has w (bytesS (.slice (some ⟨gb, 0, none⟩) 128 c) (frameOf 2 (nodeBytes nd)) :: l)) (hc : 128 ≤ c) (hcm : c ≤ maxLen) :
    Calls Tryz.prog 205 #[(.slice (some ⟨gb, 0, none⟩) 128 c)] w (ParsePost nd gb c l w) := by
  obtain ⟨o1, o2, o3, o4, o5⟩ := ok_lens ok
  have hnb := nodeBytes_len ok
  have Hpk : Hid (∀ (k : Nat) (x y : Int), nd.keys[k]? = some x → nd.vals[k]? = some y → 0 ≤ x ∧ x ≤ 1099511627776 ∧ 1 ≤ y ∧ y ≤ 2305843009213693952) := by
    intro k x y hx hy
    have h1 := pairs_ok ok k x y hx hy
    simp only [pairOk, Bool.and_eq_true, decide_eq_true_eq] at h1
    omega
  obtain ⟨lv, ks, vs⟩ := nd
  simp only at o1 o2 o3 o4 o5
  have HG := Lib.hid (frame_Get (kind := 2) (cur := nodeBytes ⟨lv, ks, vs⟩) ((h.alloc (.cells #[.int .i64 0, .slice none 0 0, .slice none 0 0] 35)).swap) hc hcm hnb.2)
  have Hnb := Lib.hid hnb
  have Hok := Lib.hid ok
  have HK := Lib.hid ((Kept.refl w).alloc (.cells #[.int .i64 0, .slice none 0 0, .slice none 0 0] 35))
  clear h hnb ok
  go_enter Tryz.func205, Tryz.ntmps205
  go_wp2_with fail
  refine HG.out.mono ?_
  rintro r w1 ⟨vb, rfl, hK, h1⟩
  have HU := Lib.hid (unp_New h1 (.head _) Hnb.out.1 Hnb.out.2)
  clear h1 HG
  have hk1 := HK.out.trans hK
  clear HK
  have HK := Lib.hid hk1
  clear hk1
  clear hK
  go_wp2_with fail
  refine HU.out.mono ?_
  rintro r w2 ⟨u, rfl, hK, h1⟩
  have h2 : Has w2 (unpS u (lv :: (ks.length : Int) :: restP ks vs 0) :: bytesS vb (nodeBytes ⟨lv, ks, vs⟩) :: bytesS (.slice (some ⟨gb, 0, none⟩) 128 c) (frameOf 2 (nodeBytes ⟨lv, ks, vs⟩)) :: pts w.heap.size (.cells #[.int .i64 0, .slice none 0 0, .slice none 0 0] 35 (0, 0)) :: l) := h1
  have HB := Lib.hid (unp_Byte h2 o1 (by omega))
  clear h1 h2 HU
  have hk1 := HK.out.trans hK
  clear HK
  have HK := Lib.hid hk1
  clear hk1
  clear hK
  go_wp2_with fail
  refine HB.out.mono ?_
  rintro r w3 ⟨rfl, hK, h1⟩
  have h2 := (h1.alloc (.cells #[.int .i64 lv, .slice none 0 0, .slice none 0 0] 35)).swap
  have HB2 := Lib.hid (unp_Byte h2 (by omega) (by omega))
  have hk1 := (HK.out.trans hK).alloc (.cells #[.int .i64 lv, .slice none 0 0, .slice none 0 0] 35)
  clear h1 h2 HB hK HK
  have HK := Lib.hid hk1
  clear hk1
  have hn7 : (ks.length : Int) ≤ 7 := by omega
  go_wp2_with fail
  refine HB2.out.mono ?_
  rintro r w4 ⟨rfl, hK, h1⟩
  generalize hr7 : w3.heap.size = r7 at *
  clear hr7
  generalize hr2 : w.heap.size = r2 at *
  clear hr2
  have HM0 : Hid (ParMid w lv ks vs u r7 r2 gb c vb l 0 w4) :=
    ⟨none, 0, none, 0, HK.out.trans hK, ((h1.row_nil 3 1).row_nil 3 1).reord [2, 2, 1]⟩
  clear h1 hK HB2 HK
  go_wp2
  go_loopg [27] ks.length (fun gk i wr => ∃ k : Nat, k ≤ ks.length ∧ gk = ks.length - k ∧ i = .int .i64 k ∧ Hid (ParMid w lv ks vs u r7 r2 gb c vb l k wr))
  case atStart => exact ⟨0, Nat.zero_le _, rfl, rfl, HM0⟩
  case round =>
    clear HM0
    obtain ⟨k, hk, rfl, rfl, HM⟩ := hrel
    obtain ⟨ak, ck, av, cv, hK, hh⟩ := HM.out
    have HK := Lib.hid hK
    clear HM hK
    by_cases hlt : k < ks.length
    · have hkI : (k : Int) < (ks.length : Int) := by omega
      have hxk : ks[k]? = some (ks[k]'hlt) := List.getElem?_eq_getElem hlt
      have hyk : vs[k]? = some (vs[k]'(by omega)) := List.getElem?_eq_getElem (by omega)
      have hq := Hpk.out k _ _ hxk hyk
      have hrn := rest_next hxk hyk
      have htx : ks.take (k + 1) = ks.take k ++ [ks[k]'hlt] := by rw [List.take_succ_eq_append_getElem hlt]
      have hty : vs.take (k + 1) = vs.take k ++ [vs[k]'(by omega)] := by rw [List.take_succ_eq_append_getElem (by omega)]
      have hlx : (ks.take k).length = k := by rw [List.length_take]; omega
      have hly : (vs.take k).length = k := by rw [List.length_take]; omega
      generalize ks[k]'hlt = x at *
      generalize vs[k]'(by omega) = y at *
      rw [hrn] at hh
      have Hrn := Lib.hid hrn
      have Htx := Lib.hid htx
      have Hty := Lib.hid hty
      have hlx2 : (ks.take k).length ≤ 1000000000000 := by omega
      have hly2 : (vs.take k).length ≤ 1000000000000 := by omega
      have Hlx := Lib.hid hlx
      have Hly := Lib.hid hly
      clear hxk hyk hrn htx hty hlx hly
      have hpt := hh.tail.got
      have s1 : wr.cell? ⟨r7, 1, none⟩ = some (.slice ak k ck) := cell_of hpt 1 rfl
      have HH := Lib.hid hh
      clear hh hpt
      go_wp2
      have hh := HH.out
      clear HH
      obtain ⟨FA, HFA⟩ : ∃ FA : List (Nat × Addr × Value), Hid (FA = [(1, ⟨r7, 1, none⟩, .slice ak k ck)]) := ⟨_, rfl⟩
      have fa1 : ∀ n : In (factsOf FA 1), n.w.cell? ⟨r7, 1, none⟩ = some (.slice ak k ck) := fun n => factsOf.cell (by rw [HFA.out]; simp) n
      have hFA : ∀ p ∈ FA, wr.cell? p.2.1 = some p.2.2 := by rw [HFA.out]; exact (fcons s1 fnil)
      haveI neFA : ∀ k, Nonempty (In (factsOf FA k)) := fun k => ⟨⟨_, factsOf.drew hFA k⟩⟩
      refine ws_begin [0, 1, 2, 3, 4, 5, 6, 7] (factsOf FA) (unpS u (bytes8 x ++ (bytes8 y ++ restP ks vs (k + 1))) :: pts r7 (.cells #[.int .i64 lv, .slice ak k ck, .slice av k cv] 35 (0, 0)) :: intsS (.slice ak k ck) (ks.take k) :: intsS (.slice av k cv) (vs.take k) :: bytesS vb (nodeBytes ⟨lv, ks, vs⟩) :: bytesS (.slice (some ⟨gb, 0, none⟩) 128 c) (frameOf 2 (nodeBytes ⟨lv, ks, vs⟩)) :: pts r2 (.cells #[.int .i64 0, .slice none 0 0, .slice none 0 0] 35 (0, 0)) :: l) #[0, 1, 0, 4, 12, 31, 63, 127] (by kernel_rfl) (by kernel_rfl) (by kernel_rfl) factsOf.alloc (factsOf.drew hFA) hh ?_
      clear hFA
      refine ws_q (at_lit rfl) rfl rfl rfl ?_
      go_big_quiet_op
      show WS _ _ _ _ _ _ _ _ _ _
      refine ws_q (at_lit rfl) rfl rfl rfl ?_
      go_big_quiet_op
      show WS _ _ _ _ _ _ _ _ _ _
      refine ws_q (at_lit rfl) rfl rfl rfl ?_
      go_big_quiet_op
      show WS _ _ _ _ _ _ _ _ _ _
      refine ws_call (at_lit rfl) rfl rfl 236 #[.pointer (some ⟨u, 0, none⟩)] (fun w => by go_simp) (fun v L' => v = .int .i64 x ∧ L' = unpS u (bytes8 y ++ restP ks vs (k + 1)) :: pts r7 (.cells #[.int .i64 lv, .slice ak k ck, .slice av k cv] 35 (0, 0)) :: intsS (.slice ak k ck) (ks.take k) :: intsS (.slice av k cv) (vs.take k) :: bytesS vb (nodeBytes ⟨lv, ks, vs⟩) :: bytesS (.slice (some ⟨gb, 0, none⟩) 128 c) (frameOf 2 (nodeBytes ⟨lv, ks, vs⟩)) :: pts r2 (.cells #[.int .i64 0, .slice none 0 0, .slice none 0 0] 35 (0, 0)) :: l) (fun w' F hS hh => ?_) ?_
      · refine (unp_Long hh (by omega) (by omega)).mono ?_
        rintro r w2' ⟨rfl, hK, hh'⟩
        exact ⟨_, _, rfl, hK, ⟨rfl, rfl⟩, hh'⟩
      rintro _ _ ⟨rfl, rfl⟩
      refine ⟨fun w F hh => lives (l' := [(1, ⟨r7, 1, none⟩, .slice ak k ck)]) (by rw [HFA.out]; simp [liveFacts, Nat.testBit]) (fcons (cell_of (hh.at (b := r7) (o := (.cells #[.int .i64 lv, .slice ak k ck, .slice av k cv] 35 (0, 0))) (by simp)) 1 (v := .slice ak k ck) rfl) <| fnil), ?_⟩
      simp only [Act.put, List.setIfInBounds_toArray, List.set_cons_zero, List.set_cons_succ]
      show WS _ _ _ _ _ _ _ _ _ _
      refine ws_slice (at_lit rfl) rfl rfl 1 (.cells #[.int .i64 x] 3 (0, 0)) (fun w => by go_simp) ?_
      intro g1'
      simp only [Act.put, List.setIfInBounds_toArray, List.set_cons_zero, List.set_cons_succ]
      show WS _ _ _ _ _ _ _ _ _ _
      refine ws_reord [3] ?_
      simp only [reord, pull]
      refine ws_append_int (at_lit rfl) rfl rfl (.tmp 30) (.tmp 33) rfl (y := x) rfl rfl (by simp) Hlx.out (by omega) (fun p' c' w F hh => lives (l' := []) (by rw [HFA.out]; simp [liveFacts, Nat.testBit]) (fnil)) ?_
      intro ak2 ck2
      simp only [Act.put, List.setIfInBounds_toArray, List.set_cons_zero, List.set_cons_succ]
      show WS _ _ _ _ _ _ _ _ _ _
      refine ws_q (at_lit rfl) rfl rfl rfl ?_
      go_big_quiet_op
      show WS _ _ _ _ _ _ _ _ _ _
      refine ws_reord [3] ?_
      simp only [reord, pull]
      refine ws_store (at_lit rfl) rfl rfl 22 (.tmp 35) (.tmp 34) rfl rfl (v := .slice ak2 (k + 1) ck2) rfl (by simp [Value.cells]) (by simp [Value.cells, Value.oneCell']) (by kernel_rfl) (by simp only [Value.cells, putCells, List.setIfInBounds_toArray, List.set_cons_zero, List.set_cons_succ]; rfl) (fun w F hh => lives (l' := []) (by rw [HFA.out]; simp [liveFacts, Nat.testBit]) (fnil)) ?_
      simp only [Act.put, List.setIfInBounds_toArray, List.set_cons_zero, List.set_cons_succ]
      show WS _ _ _ _ _ _ _ _ _ _
      refine ws_end ?_
      intro w7 hK7 h7
      have hh1 := h7.reord [3]
      clear h7
      have h9 : Has w7 (unpS u (bytes8 y ++ restP ks vs (k + 1)) :: pts r7 (.cells #[.int .i64 lv, .slice ak2 (k + 1) ck2, .slice av k cv] 35 (0, 0)) :: intsS (.slice ak2 (k + 1) ck2) (ks.take k ++ [x]) :: pts g1' (.cells #[.int .i64 x] 3 (0, 0)) :: intsS (.slice av k cv) (vs.take k) :: bytesS vb (nodeBytes ⟨lv, ks, vs⟩) :: bytesS (.slice (some ⟨gb, 0, none⟩) 128 c) (frameOf 2 (nodeBytes ⟨lv, ks, vs⟩)) :: pts r2 (.cells #[.int .i64 0, .slice none 0 0, .slice none 0 0] 35 (0, 0)) :: l) := hh1
      have hpt := h9.tail.got
      have s2 : w7.cell? ⟨r7, 2, none⟩ = some (.slice av k cv) := cell_of hpt 2 rfl
      have HH := Lib.hid h9
      have HK7 := Lib.hid (HK.out.trans hK7)
      clear h9 hh1 hpt hK7 HFA neFA FA s1 fa1 HK hh
      go_wp2
      have hh := HH.out
      clear HH
      obtain ⟨FA, HFA⟩ : ∃ FA : List (Nat × Addr × Value), Hid (FA = [(1, ⟨r7, 2, none⟩, .slice av k cv)]) := ⟨_, rfl⟩
      have fa1 : ∀ n : In (factsOf FA 1), n.w.cell? ⟨r7, 2, none⟩ = some (.slice av k cv) := fun n => factsOf.cell (by rw [HFA.out]; simp) n
      have hFA : ∀ p ∈ FA, w7.cell? p.2.1 = some p.2.2 := by rw [HFA.out]; exact (fcons s2 fnil)
      haveI neFA : ∀ k, Nonempty (In (factsOf FA k)) := fun k => ⟨⟨_, factsOf.drew hFA k⟩⟩
      refine ws_begin [0, 1, 2, 3, 4, 5, 6, 7] (factsOf FA) (unpS u (bytes8 y ++ restP ks vs (k + 1)) :: pts r7 (.cells #[.int .i64 lv, .slice ak2 (k + 1) ck2, .slice av k cv] 35 (0, 0)) :: intsS (.slice ak2 (k + 1) ck2) (ks.take k ++ [x]) :: pts g1' (.cells #[.int .i64 x] 3 (0, 0)) :: intsS (.slice av k cv) (vs.take k) :: bytesS vb (nodeBytes ⟨lv, ks, vs⟩) :: bytesS (.slice (some ⟨gb, 0, none⟩) 128 c) (frameOf 2 (nodeBytes ⟨lv, ks, vs⟩)) :: pts r2 (.cells #[.int .i64 0, .slice none 0 0, .slice none 0 0] 35 (0, 0)) :: l) #[0, 1, 0, 4, 12, 31, 63, 127] (by kernel_rfl) (by kernel_rfl) (by kernel_rfl) factsOf.alloc (factsOf.drew hFA) hh ?_
      clear hFA
      refine ws_q (at_lit rfl) rfl rfl rfl ?_
      go_big_quiet_op
      show WS _ _ _ _ _ _ _ _ _ _
      refine ws_q (at_lit rfl) rfl rfl rfl ?_
      go_big_quiet_op
      show WS _ _ _ _ _ _ _ _ _ _
      refine ws_q (at_lit rfl) rfl rfl rfl ?_
      go_big_quiet_op
      show WS _ _ _ _ _ _ _ _ _ _
      refine ws_call (at_lit rfl) rfl rfl 236 #[.pointer (some ⟨u, 0, none⟩)] (fun w => by go_simp) (fun v L' => v = .int .i64 y ∧ L' = unpS u (restP ks vs (k + 1)) :: pts r7 (.cells #[.int .i64 lv, .slice ak2 (k + 1) ck2, .slice av k cv] 35 (0, 0)) :: intsS (.slice ak2 (k + 1) ck2) (ks.take k ++ [x]) :: pts g1' (.cells #[.int .i64 x] 3 (0, 0)) :: intsS (.slice av k cv) (vs.take k) :: bytesS vb (nodeBytes ⟨lv, ks, vs⟩) :: bytesS (.slice (some ⟨gb, 0, none⟩) 128 c) (frameOf 2 (nodeBytes ⟨lv, ks, vs⟩)) :: pts r2 (.cells #[.int .i64 0, .slice none 0 0, .slice none 0 0] 35 (0, 0)) :: l) (fun w' F hS hh => ?_) ?_
      · refine (unp_Long hh (by omega) (by omega)).mono ?_
        rintro r w2' ⟨rfl, hK, hh'⟩
        exact ⟨_, _, rfl, hK, ⟨rfl, rfl⟩, hh'⟩
      rintro _ _ ⟨rfl, rfl⟩
      refine ⟨fun w F hh => lives (l' := [(1, ⟨r7, 2, none⟩, .slice av k cv)]) (by rw [HFA.out]; simp [liveFacts, Nat.testBit]) (fcons (cell_of (hh.at (b := r7) (o := (.cells #[.int .i64 lv, .slice ak2 (k + 1) ck2, .slice av k cv] 35 (0, 0))) (by simp)) 2 (v := .slice av k cv) rfl) <| fnil), ?_⟩
      simp only [Act.put, List.setIfInBounds_toArray, List.set_cons_zero, List.set_cons_succ]
      show WS _ _ _ _ _ _ _ _ _ _
      refine ws_slice (at_lit rfl) rfl rfl 1 (.cells #[.int .i64 y] 3 (0, 0)) (fun w => by go_simp) ?_
      intro g2'
      simp only [Act.put, List.setIfInBounds_toArray, List.set_cons_zero, List.set_cons_succ]
      show WS _ _ _ _ _ _ _ _ _ _
      refine ws_reord [5] ?_
      simp only [reord, pull]
      refine ws_append_int (at_lit rfl) rfl rfl (.tmp 37) (.tmp 40) rfl (y := y) rfl rfl (by simp) Hly.out (by omega) (fun p' c' w F hh => lives (l' := []) (by rw [HFA.out]; simp [liveFacts, Nat.testBit]) (fnil)) ?_
      intro av2 cv2
      simp only [Act.put, List.setIfInBounds_toArray, List.set_cons_zero, List.set_cons_succ]
      show WS _ _ _ _ _ _ _ _ _ _
      refine ws_q (at_lit rfl) rfl rfl rfl ?_
      go_big_quiet_op
      show WS _ _ _ _ _ _ _ _ _ _
      refine ws_reord [3] ?_
      simp only [reord, pull]
      refine ws_store (at_lit rfl) rfl rfl 22 (.tmp 42) (.tmp 41) rfl rfl (v := .slice av2 (k + 1) cv2) rfl (by simp [Value.cells]) (by simp [Value.cells, Value.oneCell']) (by kernel_rfl) (by simp only [Value.cells, putCells, List.setIfInBounds_toArray, List.set_cons_zero, List.set_cons_succ]; rfl) (fun w F hh => lives (l' := []) (by rw [HFA.out]; simp [liveFacts, Nat.testBit]) (fnil)) ?_
      simp only [Act.put, List.setIfInBounds_toArray, List.set_cons_zero, List.set_cons_succ]
      show WS _ _ _ _ _ _ _ _ _ _
      refine ws_end ?_
      intro w9 hK9 h9
      have HM2 : Hid (ParMid w lv ks vs u r7 r2 gb c vb l (k + 1) w9) := by
        refine ⟨ak2, ck2, av2, cv2, HK7.out.trans hK9, ?_⟩
        rw [Htx.out, Hty.out]
        exact (h9.reord [2, 4, 2, 0, 1]).tail.tail
      clear h9 hK9 HK7 HFA neFA FA s2 fa1 hh
      go_wp2
      go_roundg (ks.length - (k + 1))
      case measure => omega
      case rel => exact ⟨k + 1, by omega, rfl, by go_num, HM2⟩
    · have hke : k = ks.length := by omega
      have hge : (ks.length : Int) ≤ (k : Int) := by omega
      have e1 : ks.take k = ks := List.take_of_length_le (by omega)
      have e2 : vs.take k = vs := List.take_of_length_le (by omega)
      rw [e1, e2] at hh
      have Hke := Lib.hid hke
      clear e1 e2 hke
      have hpt := hh.tail.got
      have s0 : wr.cell? ⟨r7, 0, none⟩ = some (.int .i64 lv) := cell_of hpt 0 rfl
      have s1 : wr.cell? ⟨r7, 1, none⟩ = some (.slice ak k ck) := cell_of hpt 1 rfl
      have s2 : wr.cell? ⟨r7, 2, none⟩ = some (.slice av k cv) := cell_of hpt 2 rfl
      have l7 := World.block_lt_of_cell? _ _ s0
      have HNB := Lib.hid (node_Bytes ⟨lv, ks, vs⟩ (kv := .slice ak k ck) (vv := .slice av k cv) hh (.tail _ (.tail _ (.head _))) (.tail _ (.tail _ (.tail _ (.head _)))))
      simp only [Nd.val] at HNB
      clear hh hpt
      go_wp2_with fail
      refine HNB.out.mono ?_
      rintro r w5 (⟨hno, _⟩ | ⟨_, v5, rfl, hK, h5⟩)
      · rw [Hok.out] at hno; cases hno
      have hl128 := frame_len 2 (nodeBytes ⟨lv, ks, vs⟩) Hnb.out.2
      obtain ⟨g5, c5, rfl, _⟩ := h5.bytes_read (v := v5) (cur := frameOf 2 (nodeBytes ⟨lv, ks, vs⟩)) (.head _) (by omega)
      rw [hl128] at h5 ⊢
      have HEq := Lib.hid (bytes_Equal_yes (c1 := c5) (c2 := c) (h5.bytes_at (gb := g5) (n := 128) (c := c5) (sec := frameOf 2 (nodeBytes ⟨lv, ks, vs⟩)) (.head _)) (h5.bytes_at (gb := gb) (n := 128) (c := c) (sec := frameOf 2 (nodeBytes ⟨lv, ks, vs⟩)) (by simp)))
      rw [hl128] at HEq
      have hpt := h5.at (b := r7) (o := (.cells #[.int .i64 lv, .slice ak k ck, .slice av k cv] 35 (0, 0))) (by simp)
      have t0 : w5.cell? ⟨r7, 0, none⟩ = some (.int .i64 lv) := cell_of hpt 0 rfl
      have t1 : w5.cell? ⟨r7, 1, none⟩ = some (.slice ak k ck) := cell_of hpt 1 rfl
      have t2 : w5.cell? ⟨r7, 2, none⟩ = some (.slice av k cv) := cell_of hpt 2 rfl
      have l7 := World.block_lt_of_cell? _ _ t0
      have hpr := h5.at (b := r2) (o := (.cells #[.int .i64 0, .slice none 0 0, .slice none 0 0] 35 (0, 0))) (by simp)
      have q0 : w5.cell? ⟨r2, 0, none⟩ = some (.int .i64 0) := cell_of hpr 0 rfl
      have q1 : w5.cell? ⟨r2, 1, none⟩ = some (.slice none 0 0) := cell_of hpr 1 rfl
      have q2 : w5.cell? ⟨r2, 2, none⟩ = some (.slice none 0 0) := cell_of hpr 2 rfl
      have f0 := thaw_of hpr 0
      have f1 := thaw_of hpr 1
      have f2 := thaw_of hpr 2
      have lr2 := World.block_lt_of_cell? _ _ q0
      have h6 := (((h5.pull 7).setCell 0 (.int .i64 lv)).setCell 1 (.slice ak k ck)).setCell 2 (.slice av k cv)
      have hg6 := h6.got
      have Z0 := Lib.hid (cell_of hg6 0 (v := .int .i64 lv) rfl)
      have Z1 := Lib.hid (cell_of hg6 1 (v := .slice ak k ck) rfl)
      have Z2 := Lib.hid (cell_of hg6 2 (v := .slice av k cv) rfl)
      have HF : Hid (ParsePost ⟨lv, ks, vs⟩ gb c l w (.returned (.tuple #[.agg #[.int .i64 lv, .slice ak k ck, .slice av k cv], .nilIface])) (((w5.setCell ⟨r2, 0, none⟩ (.int .i64 lv)).setCell ⟨r2, 1, none⟩ (.slice ak k ck)).setCell ⟨r2, 2, none⟩ (.slice av k cv))) := by
        refine ⟨.slice ak k ck, .slice av k cv, rfl, (((HK.out.trans hK).setCell _ _).setCell _ _).setCell _ _, ?_⟩
        exact (h6.reord [0, 0, 0, 0, 2]).tail.tail.tail.tail.tail
      clear hK h5 h6 hg6 hpt hpr HNB HK s0 s1 s2 hl128
      go_wp2_with fail
      refine HEq.out.mono ?_
      rintro r w6 ⟨rfl, rfl⟩
      go_wp2
      exact bodyPost_ret (v := .tuple #[.agg #[.int .i64 lv, .slice ak k ck, .slice av k cv], .nilIface]) (by have z0 := Z0.out; have z1 := Z1.out; have z2 := Z2.out; simp [results, Tryz.results205, go_sem, z0, z1, z2]) rfl HF.out
end Go.Proofs.YtgbgneiciabidaaGreatDoor
