/-
  Bitmaps (layer 7), the third part: Count, Set, Clear.
-/
import Derived.Test.YtgbgneiciabidaaGreatDoorGs5
import Derived.RegionTactic
import Derived.BigRegion
import Derived.Handy
import Derived.Deep.LoopGhost
import Derived.Test.YtgbgneiciabidaaGreatDoorGs2
import Derived.Deep.RegionWith
namespace Go.Proofs.YtgbgneiciabidaaGreatDoor
open Go Go.RowKit
set_option linter.all false
set_option maxHeartbeats 8000000
def cntTo (S : Nat -> Bool) : Nat -> Nat
 | 0 => 0
 | n + 1 => cntTo S n + if S n then 1 else 0
theorem cntTo_shift (S : Nat -> Bool) : ∀ n, cntTo S (n + 1) = (if S 0 then 1 else 0) + cntTo (fun i => S (i + 1)) n
 | 0 => by simp [cntTo]
 | n + 1 => by rw [cntTo, cntTo_shift S n, cntTo]; omega
theorem cntTo_congr {S T : Nat -> Bool} : ∀ n, (∀ i, i < n -> S i = T i) -> cntTo S n = cntTo T n
 | 0, _ => rfl
 | n + 1, h => by rw [cntTo, cntTo, cntTo_congr n fun i hi => h i (by omega), h n (by omega)]
theorem cntTo_le (S : Nat -> Bool) : ∀ n, cntTo S n <= n
 | 0 => Nat.le_refl _
 | n + 1 => by have := cntTo_le S n; rw [cntTo]; split <;> omega
theorem cntTo_add (S : Nat -> Bool) (m : Nat) : ∀ n, cntTo S (m + n) = cntTo S m + cntTo (fun i => S (m + i)) n
 | 0 => by simp [cntTo]
 | n + 1 => by rw [<- Nat.add_assoc, cntTo, cntTo_add S m n, cntTo]; omega
theorem cntTo_none {S : Nat -> Bool} : ∀ n, (∀ i, i < n -> S i = false) -> cntTo S n = 0
 | 0, _ => rfl
 | n + 1, h => by rw [cntTo, cntTo_none n fun i hi => h i (by omega), h n (by omega)]; rfl
theorem pop_cnt : ∀ (n x : Nat), pop n x = cntTo x.testBit n
 | 0, _ => rfl
 | n + 1, x => by
  rw [cntTo_shift, pop, pop_cnt n (x / 2)]
  have e : (fun i => x.testBit (i + 1)) = (x / 2).testBit := funext fun i => Nat.testBit_succ ..
  rw [e, Nat.testBit_zero]
  have : x % 2 = 0 \/ x % 2 = 1 := by omega
  rcases this with h | h <;> simp [h]
theorem Words.cnt {n : Nat} {ws : List Nat} {S : Nat -> Bool} (h : Words n ws S) : cntTo S (64 * ws.length) = cntTo S n := by
 obtain ⟨d, hd⟩ : ∃ d, 64 * ws.length = n + d := ⟨64 * ws.length - n, by have := h.len; omega⟩
 rw [hd, cntTo_add, cntTo_none d fun i _ => h.off _ (by omega)]; rfl
theorem Words.cnt_step {n : Nat} {ws : List Nat} {S : Nat -> Bool} (h : Words n ws S) (k x : Nat) (hx : ws[k]? = some x) : cntTo S (64 * (k + 1)) = cntTo S (64 * k) + pop 64 x := by
 rw [Nat.mul_add, Nat.mul_one, cntTo_add, pop_cnt]
 congr 1
 refine cntTo_congr _ fun i hi => ?_
 rw [h.bit, show (64 * k + i) / 64 = k by omega, show (64 * k + i) % 64 = i by omega, List.getD_eq_getElem?_getD, hx]; rfl
set_option maxRecDepth 100000 in
theorem bm_Count {w : World} {l : List Say} {b n : Nat} {S : Nat -> Bool} (h : Has w l) (hm : bmS b n S ∈ l) :
  Calls Tryz.prog 200 #[.pointer (some ⟨b, 0, none⟩)] w fun e w' => e = .returned (.int .i64 (cntTo S n : Nat)) /\ w = w' := by
 obtain ⟨ws, a, c, hw, hc, h0, h1, hx⟩ := h.bm_read hm
 have hb := hw.few
 have Hx := Lib.hid hx; clear hx
 have Hw := Lib.hid hw; clear hw h hm
 go_enter Tryz.func200, Tryz.ntmps200
 go_wp2
 go_loop [3, 11] (fun s i => ∃ k : Nat, k <= ws.length /\ i = .int .i64 k /\ s = .int .i64 (cntTo S (64 * k) : Nat)) (fun _ i => ws.length - (intOf i).toNat)
 case atStart => exact ⟨0, Nat.zero_le _, rfl, rfl⟩
 case round =>
  obtain ⟨k, hk, rfl, rfl⟩ := hrel
  by_cases hlt : k < ws.length
  ·obtain ⟨x, hx⟩ : ∃ x, ws[k]? = some x := ⟨_, List.getElem?_eq_getElem hlt⟩
   obtain ⟨g, rfl, hg⟩ := Hx.out k x hx
   have HT := Lib.hid (OnesCount64 x (Hw.out.lt x (List.mem_of_getElem? hx)) w)
   have hle := cntTo_le S (64 * k)
   have hpl := pop_le 64 x
   have Hs := Lib.hid (Hw.out.cnt_step k x hx)
   clear hx
   generalize cntTo S (64 * k) = s at *
   generalize pop 64 x = p at *
   go_wp2_with (go_at_call 221; refine HT.out.mono ?_; rintro e w' ⟨rfl, rfl⟩)
   go_round
   case rel => exact ⟨k + 1, by omega, by go_num, int_eq (by rw [Hs.out]; omega)⟩
   case measure => simp [intOf]; omega
  ·obtain rfl : k = ws.length := by omega
   have He := Lib.hid Hw.out.cnt
   go_wp2
   go_ret
   exact ⟨by rw [<- He.out]; rfl, rfl⟩
theorem may_all : May 218 := ⟨Tryz.f218, Tryz.func218, by kernel_rfl, by kernel_rfl⟩
theorem bm_all1 {w : World} {l : List Say} {b n : Nat} {S : Nat -> Bool} (h : Has w l) (hm : bmS b n S ∈ l) (q c i : Nat) (hq : w.cell? ⟨q, 0, none⟩ = some (.int .i64 (i : Int))) (hi : i < n) :
  Calls Tryz.prog 195 #[.pointer (some ⟨b, 0, none⟩), .slice (some ⟨q, 0, none⟩) 1 c] w fun e w' =>
   e = .returned (.bool true) /\ ∃ m, w' = (w.alloc (.cells #[.pointer (some ⟨b, 0, none⟩)] 178 (0, 0))).drewN m := by
 obtain ⟨ws, a, c', hw, hc, h0, h1, hx⟩ := h.bm_read hm
 have hbl : b < w.heap.size := World.block_lt_of_cell? _ _ h0
 have hql : q < w.heap.size := World.block_lt_of_cell? _ _ hq
 clear hx h1 hc hw h hm
 have hlam : ∀ m, Calls Tryz.prog 218 #[.int .i64 (i : Int), .pointer (some ⟨w.heap.size, 0, none⟩)] ((w.alloc (.cells #[.pointer (some ⟨b, 0, none⟩)] 178 (0, 0))).drewN m) fun e w' =>
   e = .returned (.bool false) /\ ∃ m', w' = (w.alloc (.cells #[.pointer (some ⟨b, 0, none⟩)] 178 (0, 0))).drewN m' := by
  intro m
  have h0' : ((w.alloc (.cells #[.pointer (some ⟨b, 0, none⟩)] 178 (0, 0))).drewN m).cell? ⟨b, 0, none⟩ = some (.int .i64 (n : Int)) := by
   show (w.alloc (.cells #[.pointer (some ⟨b, 0, none⟩)] 178 (0, 0))).cell? ⟨b, 0, none⟩ = _
   rw [World.cell?_alloc_lt _ _ _ hbl]; exact h0
  go_enter Tryz.func218, Tryz.ntmps218
  go_wp2_with (go_at_call 160; refine (bm_in_yes _ n _ _ h0' (by omega) (by omega)).mono ?_; rintro e w' ⟨rfl, rfl⟩)
  go_ret
  exact ⟨rfl, m, rfl⟩
 have HC := Lib.hid (ContainsFuncInt 218 may_all #[.pointer (some ⟨w.heap.size, 0, none⟩)] (fun _ => false) (some ⟨q, 0, none⟩) c [(i : Int)] (w.alloc (.cells #[.pointer (some ⟨b, 0, none⟩)] 178 (0, 0))) (by simp [maxLen])
  (fun k hk => ⟨q, 0, rfl, by
   have : k = 0 := by simpa using hk
   subst this
   rw [World.cell?_alloc_lt _ _ _ hql]; simpa using hq⟩)
  (fun k m hk => by
   have : k = 0 := by simpa using hk
   subst this
   exact hlam m))
 clear hlam
 go_enter Tryz.func195, Tryz.ntmps195
 go_wp2_with fail
 refine HC.out.mono ?_
 rintro e w' ⟨rfl, m, rfl⟩
 go_wp2
 go_ret
 exact ⟨rfl, m, rfl⟩
theorem map_set_word (ws : List Nat) (k y : Nat) : (ws.set k y).map wordOf = (ws.map wordOf).set k (wordOf y) := List.map_set ..
theorem pow_wrap (m : Nat) (h : m < 64) : IntKind.u64.wrap (2 ^ m) = ((2 ^ m : Nat) : Int) := by
 have : 2 ^ m < 18446744073709551616 := Nat.lt_of_lt_of_le (Nat.pow_lt_pow_right (by omega) h) (by decide)
 have e := wrap_u64_of (2 ^ m) this
 simpa using e
theorem or_word {n : Nat} {ws : List Nat} {S : Nat -> Bool} (x i : Nat) (h : Words n ws S) (k : Nat) (hk : i / 64 = k) (hx : ws[k]? = some x) :
  Value.int .u64 (bits BinOp.or IntKind.u64 (x : Int) (IntKind.u64.wrap (2 ^ (i % 64)))) = wordOf (x ||| 2 ^ (i % 64)) := by
 have hm : i % 64 < 64 := Nat.mod_lt _ (by decide)
 rw [pow_wrap _ hm, bits_or_u64_nat x _ (h.lt x (List.mem_of_getElem? hx)) (Nat.lt_of_lt_of_le (Nat.pow_lt_pow_right (by omega) hm) (by decide))]; rfl
theorem andNot_word {n : Nat} {ws : List Nat} {S : Nat -> Bool} (x i : Nat) (h : Words n ws S) (k : Nat) (hk : i / 64 = k) (hx : ws[k]? = some x) :
  Value.int .u64 (bits BinOp.andNot IntKind.u64 (x : Int) (IntKind.u64.wrap (2 ^ (i % 64)))) = wordOf (x &&& (18446744073709551615 - 2 ^ (i % 64))) := by
 have hm : i % 64 < 64 := Nat.mod_lt _ (by decide)
 rw [pow_wrap _ hm, u64_andNot_nat x _ (h.lt x (List.mem_of_getElem? hx)) (Nat.lt_of_lt_of_le (Nat.pow_lt_pow_right (by omega) hm) (by decide))]; rfl
theorem Words.with {n : Nat} {ws : List Nat} {S T : Nat -> Bool} (h : Words n ws S) (i : Nat) (hi : i < n) (x y : Nat) (hx : ws[i / 64]? = some x) (hy : y < 18446744073709551616)
  (hT : ∀ j, j < 64 -> T (i / 64 * 64 + j) = y.testBit j) (hk : ∀ k, k / 64 ≠ i / 64 -> T k = S k) (hoff : ∀ k, n <= k -> T k = false) : Words n (ws.set (i / 64) y) T := by
 have hlt : i / 64 < ws.length := (List.getElem?_eq_some_iff.1 hx).1
 refine ⟨by simpa using h.len, by simpa using h.few, h.big, fun z hz => ?_, fun k => ?_, hoff⟩
 ·rcases List.mem_or_eq_of_mem_set hz with hz | rfl
  ·exact h.lt z hz
  ·exact hy
 ·by_cases hki : k / 64 = i / 64
  ·have e : k = i / 64 * 64 + k % 64 := by omega
   rw [hki, List.getD_eq_getElem?_getD, List.getElem?_set_self hlt]
   have := hT (k % 64) (Nat.mod_lt _ (by decide))
   rw [<- e] at this
   exact this
  ·rw [hk k hki, h.bit, List.getD_eq_getElem?_getD, List.getD_eq_getElem?_getD, List.getElem?_set_ne (Ne.symm hki)]
theorem Words.set {n : Nat} {ws : List Nat} {S : Nat -> Bool} (h : Words n ws S) (i : Nat) (hi : i < n) (x : Nat) (hx : ws[i / 64]? = some x) :
  Words n (ws.set (i / 64) (x ||| 2 ^ (i % 64))) (fun k => k == i || S k) := by
 have hxlt := h.lt x (List.mem_of_getElem? hx)
 have hp : 2 ^ (i % 64) < 2 ^ 64 := Nat.pow_lt_pow_right (by omega) (Nat.mod_lt _ (by decide))
 refine h.with i hi x _ hx (Nat.or_lt_two_pow (n := 64) (by omega) hp) (fun j hj => ?_) (fun k hk => ?_) (fun k hk => ?_)
 ·rw [h.bit, show (i / 64 * 64 + j) / 64 = i / 64 by omega, show (i / 64 * 64 + j) % 64 = j by omega, List.getD_eq_getElem?_getD, hx, Nat.testBit_or, Nat.testBit_two_pow]
  have e : (i / 64 * 64 + j == i) = decide (i % 64 = j) := by
   rw [Bool.eq_iff_iff]; simp; omega
  rw [e, Bool.or_comm]; rfl
 ·have : (k == i) = false := by simp; rintro rfl; exact hk rfl
  simp [this]
 ·have : (k == i) = false := by simp; omega
  simp [this, h.off k hk]
theorem Words.clear {n : Nat} {ws : List Nat} {S : Nat -> Bool} (h : Words n ws S) (i : Nat) (hi : i < n) (x : Nat) (hx : ws[i / 64]? = some x) :
  Words n (ws.set (i / 64) (x &&& (18446744073709551615 - 2 ^ (i % 64)))) (fun k => !(k == i) && S k) := by
 have hxlt := h.lt x (List.mem_of_getElem? hx)
 have hp : 2 ^ (i % 64) < 2 ^ 64 := Nat.pow_lt_pow_right (by omega) (Nat.mod_lt _ (by decide))
 refine h.with i hi x _ hx (Nat.lt_of_le_of_lt Nat.and_le_left hxlt) (fun j hj => ?_) (fun k hk => ?_) (fun k hk => ?_)
 ·rw [h.bit, show (i / 64 * 64 + j) / 64 = i / 64 by omega, show (i / 64 * 64 + j) % 64 = j by omega, List.getD_eq_getElem?_getD, hx, Nat.testBit_and,
   show 18446744073709551615 - 2 ^ (i % 64) = 2 ^ 64 - (2 ^ (i % 64) + 1) by omega, Nat.testBit_two_pow_sub_succ hp, Nat.testBit_two_pow]
  have e : (i / 64 * 64 + j == i) = decide (i % 64 = j) := by
   rw [Bool.eq_iff_iff]; simp; omega
  rw [e, Bool.and_comm]; simp [hj]
 ·have : (k == i) = false := by simp; rintro rfl; exact hk rfl
  simp [this]
 ·simp [h.off k hk]
theorem bm_Set1 {w : World} {l : List Say} {b n : Nat} {S : Nat -> Bool} (h : Has w (bmS b n S :: l)) (q c i : Nat) (hq : w.cell? ⟨q, 0, none⟩ = some (.int .i64 (i : Int))) (hi : i < n) :
  Calls Tryz.prog 142 #[.pointer (some ⟨b, 0, none⟩), .slice (some ⟨q, 0, none⟩) 1 c] w fun e w' =>
   e = .returned .nilIface /\ Kept w w' /\ Has w' (bmS b n (fun k => k == i || S k) :: l) := by
 have HA := Lib.hid (bm_all1 h (.head _) q c i hq hi)
 obtain ⟨v, ws, hw, h1⟩ := h.bm_open
 obtain ⟨x, hx, hxlt, hSx⟩ := hw.get i hi
 have hk : i / 64 < ws.length := (List.getElem?_eq_some_iff.1 hx).1
 have hql : q < w.heap.size := World.block_lt_of_cell? _ _ hq
 have P : ∀ m w1, w1 = (w.alloc (.cells #[.pointer (some ⟨b, 0, none⟩)] 178 (0, 0))).drewN m -> Kept w w1 /\ w1.cell? ⟨q, 0, none⟩ = some (.int .i64 (i : Int)) /\
   Has w1 (pts b (.cells #[.int .i64 (n : Int), v] 250 (0, 0)) :: rowS 247 1 v ws.length (ws.map wordOf) :: l) := by
  rintro m w1 rfl
  refine ⟨((Kept.refl w).alloc _).drewN m, ?_, (h1.alloc_off _).drewN m⟩
  show (w.alloc (.cells #[.pointer (some ⟨b, 0, none⟩)] 178 (0, 0))).cell? ⟨q, 0, none⟩ = _
  rw [World.cell?_alloc_lt _ _ _ hql]; exact hq
 have HP := Lib.hid P
 clear P h1 h
 have big := hw.big
 have few := hw.few
 have Hw := Lib.hid hw
 have Hx := Lib.hid hx
 clear hw hx hSx
 go_enter Tryz.func142, Tryz.ntmps142
 go_wp2_with (go_at_call 195; refine HA.out.mono ?_; rintro e w' ⟨rfl, m, rfl⟩)
 obtain ⟨w1, hw1⟩ : ∃ w1, w1 = (w.alloc (.cells #[.pointer (some ⟨b, 0, none⟩)] 178 (0, 0))).drewN m := ⟨_, rfl⟩
 rw [<- hw1]
 obtain ⟨hK, hq1, h2⟩ := HP.out m w1 hw1
 clear hw1
 obtain ⟨_, a, c', rfl, hc, _, hr⟩ := h2.row_read (v := v) (e := 247) (n := ws.length) (xs := ws.map wordOf) (by simp)
 obtain ⟨g, rfl, hg, hf⟩ := hr (i / 64) (wordOf x) (by simp [Hx.out])
 have hb := h2.got
 have c0 := cell_of hb 0 rfl
 have c1 := cell_of hb 1 rfl
 have H2 := Lib.hid h2
 have HK := Lib.hid hK
 clear hb hr h2 hK
 unfold wordOf at hg
 refine wp_loop_rounds 2 ?_
 rw [rounds_succ]
 go_wp2
 go_region
 go_wp2
 rw [rounds_succ]
 go_wp2
 go_ret
 refine ⟨rfl, (HK.out.setCell _ _).drew, ?_⟩
 have h3 := (H2.out.swap.row_set (i / 64) (wordOf (x ||| 2 ^ (i % 64)))).swap.drew
 rw [<- map_set_word] at h3
 rw [or_word x i Hw.out (i / 64) rfl Hx.out]
 refine Has.bm_shut (v := .slice (some ⟨g, 0, none⟩) ws.length c') (Hw.out.set i hi x Hx.out) ?_
 rw [List.length_set]
 exact h3
theorem bm_Clear1 {w : World} {l : List Say} {b n : Nat} {S : Nat -> Bool} (h : Has w (bmS b n S :: l)) (q c i : Nat) (hq : w.cell? ⟨q, 0, none⟩ = some (.int .i64 (i : Int))) (hi : i < n) :
  Calls Tryz.prog 144 #[.pointer (some ⟨b, 0, none⟩), .slice (some ⟨q, 0, none⟩) 1 c] w fun e w' =>
   e = .returned .nilIface /\ Kept w w' /\ Has w' (bmS b n (fun k => !(k == i) && S k) :: l) := by
 have HA := Lib.hid (bm_all1 h (.head _) q c i hq hi)
 obtain ⟨v, ws, hw, h1⟩ := h.bm_open
 obtain ⟨x, hx, hxlt, hSx⟩ := hw.get i hi
 have hk : i / 64 < ws.length := (List.getElem?_eq_some_iff.1 hx).1
 have hql : q < w.heap.size := World.block_lt_of_cell? _ _ hq
 have P : ∀ m w1, w1 = (w.alloc (.cells #[.pointer (some ⟨b, 0, none⟩)] 178 (0, 0))).drewN m -> Kept w w1 /\ w1.cell? ⟨q, 0, none⟩ = some (.int .i64 (i : Int)) /\
   Has w1 (pts b (.cells #[.int .i64 (n : Int), v] 250 (0, 0)) :: rowS 247 1 v ws.length (ws.map wordOf) :: l) := by
  rintro m w1 rfl
  refine ⟨((Kept.refl w).alloc _).drewN m, ?_, (h1.alloc_off _).drewN m⟩
  show (w.alloc (.cells #[.pointer (some ⟨b, 0, none⟩)] 178 (0, 0))).cell? ⟨q, 0, none⟩ = _
  rw [World.cell?_alloc_lt _ _ _ hql]; exact hq
 have HP := Lib.hid P
 clear P h1 h
 have big := hw.big
 have few := hw.few
 have Hw := Lib.hid hw
 have Hx := Lib.hid hx
 clear hw hx hSx
 go_enter Tryz.func144, Tryz.ntmps144
 go_wp2_with (go_at_call 195; refine HA.out.mono ?_; rintro e w' ⟨rfl, m, rfl⟩)
 obtain ⟨w1, hw1⟩ : ∃ w1, w1 = (w.alloc (.cells #[.pointer (some ⟨b, 0, none⟩)] 178 (0, 0))).drewN m := ⟨_, rfl⟩
 rw [<- hw1]
 obtain ⟨hK, hq1, h2⟩ := HP.out m w1 hw1
 clear hw1
 obtain ⟨_, a, c', rfl, hc, _, hr⟩ := h2.row_read (v := v) (e := 247) (n := ws.length) (xs := ws.map wordOf) (by simp)
 obtain ⟨g, rfl, hg, hf⟩ := hr (i / 64) (wordOf x) (by simp [Hx.out])
 have hb := h2.got
 have c0 := cell_of hb 0 rfl
 have c1 := cell_of hb 1 rfl
 have H2 := Lib.hid h2
 have HK := Lib.hid hK
 clear hb hr h2 hK
 unfold wordOf at hg
 refine wp_loop_rounds 2 ?_
 rw [rounds_succ]
 go_wp2
 go_region
 go_wp2
 rw [rounds_succ]
 go_wp2
 go_ret
 refine ⟨rfl, (HK.out.setCell _ _).drew, ?_⟩
 have h3 := (H2.out.swap.row_set (i / 64) (wordOf (x &&& (18446744073709551615 - 2 ^ (i % 64))))).swap.drew
 rw [<- map_set_word] at h3
 rw [andNot_word x i Hw.out (i / 64) rfl Hx.out]
 refine Has.bm_shut (v := .slice (some ⟨g, 0, none⟩) ws.length c') (Hw.out.clear i hi x Hx.out) ?_
 rw [List.length_set]
 exact h3
/-
  Bitmaps (layer 7), the fourth part: Grow, New.
-/
theorem info_u64 : (Tryz.prog.info? 247).map (fun i => (i.zero, i.size, i.bytes)) = some (some (.int .u64 0), 1, 8) := by kernel_rfl
theorem Words.more {n : Nat} {ws : List Nat} {S : Nat -> Bool} (h : Words n ws S) (hlt : ws.length < 64) : Words n (ws ++ [0]) S := by
 refine ⟨by have := h.len; simp; omega, by simp; omega, h.big, fun x hx => ?_, fun i => ?_, h.off⟩
 ·rcases List.mem_append.1 hx with hx | hx
  ·exact h.lt x hx
  ·simp at hx; omega
 ·rw [h.bit, List.getD_eq_getElem?_getD, List.getD_eq_getElem?_getD]
  by_cases hi : i / 64 < ws.length
  ·rw [List.getElem?_append_left hi]
  ·rw [List.getElem?_append_right (by omega), List.getElem?_eq_none (by omega)]
   by_cases h0 : i / 64 - ws.length = 0
   ·rw [h0]; rfl
   ·rw [List.getElem?_eq_none (by simp; omega)]
def GrowRel (b n n2 : Nat) (S : Nat -> Bool) (l : List Say) (w : World) (k : Nat) (wr : World) : Prop :=
 ∃ v ws, Words n ws S /\ 64 - ws.length = k /\ Kept w wr /\ Has wr (pts b (.cells #[.int .i64 (n2 : Int), v] 250 (0, 0)) :: rowS 247 1 v ws.length (ws.map wordOf) :: l)
set_option maxRecDepth 100000 in
theorem bm_Grow {w : World} {l : List Say} {b n : Nat} {S : Nat -> Bool} (h : Has w (bmS b n S :: l)) (more : Nat) (hm : n + more <= 4096) :
  Calls Tryz.prog 179 #[.pointer (some ⟨b, 0, none⟩), .int .i64 (more : Int)] w fun e w' =>
   e = .returned .nilIface /\ Kept w w' /\ Has w' (bmS b (n + more) S :: l) := by
 obtain ⟨v, ws, hw, h1⟩ := h.bm_open
 obtain ⟨n2, hn2⟩ : ∃ n2, n2 = n + more := ⟨_, rfl⟩
 have hb := h1.got
 have c0 : w.cell? ⟨b, 0, none⟩ = some (.int .i64 (n : Int)) := cell_of hb 0 rfl
 have f0 := thaw_of hb 0
 have h2 := h1.setCell 0 (.int .i64 ((n2 : Nat) : Int))
 have hsum : IntKind.i64.wrap ((n : Int) + (more : Int)) = (n2 : Int) := by rw [hn2]; rw [IntWalk.i64_in _ (by omega)]; omega
 have hn4 : n2 <= 4096 := by omega
 have hd : decide ((4096 : Int) - n < more) = false := by simp; omega
 have hd2 : decide ((more : Int) > (4096 : Int) - n) = false := by simp; omega
 have Hw := Lib.hid hw
 have Hn2 := Lib.hid hn2
 have H2 := Lib.hid h2
 clear h h1 hb hw hn2 h2
 obtain ⟨i0, hi, hz0, hz1, hz2⟩ := info_parts info_u64
 go_enter Tryz.func179, Tryz.ntmps179
 go_wp2
 generalize hW : w.setCell ⟨b, 0, none⟩ (.int .i64 ((n2 : Nat) : Int)) = W at *
 have HK : Hid (Kept w W) := by rw [<- hW]; exact (Kept.refl w).setCell _ _
 clear hW
 go_loopg [] (64 - ws.length) (fun k wr => GrowRel b n n2 S l w k wr)
 case atStart => exact ⟨v, ws, Hw.out, rfl, HK.out, H2.out⟩
 case round =>
  clear H2 Hw HK c0 f0
  obtain ⟨v1, ws1, hw1, hk1, hK1, hh⟩ := hrel
  obtain ⟨_, a, c, rfl, hc, _, hr⟩ := hh.row_read (v := v1) (e := 247) (n := ws1.length) (xs := ws1.map wordOf) (by simp)
  have hb := hh.got
  have c0 : wr.cell? ⟨b, 0, none⟩ = some (.int .i64 (n2 : Int)) := cell_of hb 0 rfl
  have c1 : wr.cell? ⟨b, 1, none⟩ = some (.slice a ws1.length c) := cell_of hb 1 rfl
  have few := hw1.few
  have Hw1 := Lib.hid hw1
  have HK1 := Lib.hid hK1
  have HH := Lib.hid hh
  have Hk1 := Lib.hid hk1
  have hwr : IntKind.i64.wrap ((ws1.length : Int) * 64) = (ws1.length : Int) * 64 := IntWalk.i64_in _ (by omega)
  clear hr hb hw1 hK1 hh hk1
  by_cases hlt : (ws1.length : Int) * 64 < n2
  ·go_wp2_with fail
   go_quiet (fail)
   go_wp2_with (at_builtin; go_loud (refine wpList_append_row (l := pts b (.cells #[.int .i64 (n2 : Int), .slice a ws1.length c] 250 (0, 0)) :: l) rfl (.tmp 40) (.tmp 41) 248 rfl 247 i0 (.int .u64 0) 1 8 Tryz.underlying248 hi hz0 hz1 hz2 rfl (by decide) _ ws1.length (ws1.map wordOf) rfl ?hown ⟨_, 0, none⟩ 1 1 [.int .u64 0] rfl rfl ?hnews ?hone ?h63 ?hby ?next))
   case hown => exact ((HH.out.swap).drewN nq).alloc_off _
   case hnews => exact one_new (wr.drewN nq) _ _
   case hone => intro u hu; simp at hu; subst hu; rfl
   case h63 => simp [maxLen]; omega
   case hby => omega
   case next =>
    intro v2 w2 hK2 h2
    obtain ⟨_, a2, cc2, rfl, _, _, _⟩ := h2.row_read (v := v2) (e := 247) (n := ws1.length + 1) (xs := ws1.map wordOf ++ [.int .u64 0]) (by simp)
    have h3 := h2.swap
    have hb := h3.got
    have c1 : w2.cell? ⟨b, 1, none⟩ = some (.slice a ws1.length c) := cell_of hb 1 rfl
    have f1 := thaw_of hb 1
    have H4 := Lib.hid (h3.setCell 1 (.slice a2 (ws1.length + 1) cc2))
    have HK2 := Lib.hid hK2
    clear hb h2 h3 hK2
    go_wp2
    go_roundg (63 - ws1.length)
    case measure => have := Hk1.out; omega
    case rel =>
     refine ⟨.slice a2 (ws1.length + 1) cc2, ws1 ++ [0], Hw1.out.more (by omega), by simp, ?_, ?_⟩
     ·exact ((((HK1.out.drewN nq).alloc _).trans HK2.out).setCell _ _)
     ·simpa [wordOf] using H4.out
  ·go_wp2_with fail
   go_quiet (fail)
   go_wp2
   go_ret
   refine ⟨rfl, HK1.out.drewN nq, ?_⟩
   rw [<- Hn2.out]
   have hw1 := Hw1.out
   exact Has.bm_shut ⟨by omega, hw1.few, hn4, hw1.lt, hw1.bit, fun i hi => hw1.off i (by have := Hn2.out; omega)⟩ (HH.out.drewN nq)
theorem words_none : Words 0 [] (fun _ => false) := ⟨by simp, by simp, by omega, by simp, fun i => by simp, fun _ _ => rfl⟩
theorem bm_New {w : World} {l : List Say} (h : Has w l) (n : Nat) (hn : n <= 4096) :
  Calls Tryz.prog 178 #[.int .i64 (n : Int)] w fun e w' =>
   e = .returned (.tuple #[.pointer (some ⟨w.heap.size, 0, none⟩), .nilIface]) /\ Kept w w' /\ Has w' (bmS w.heap.size n (fun _ => false) :: l) := by
 have h1 : Has (w.alloc (.cells #[.int .i64 0, .slice none 0 0] 250 (0, 0))) (bmS w.heap.size 0 (fun _ => false) :: l) := by
  refine Has.bm_shut (v := .slice none 0 0) (ws := []) words_none ?_
  exact ((h.alloc _).row_nil 247 1).swap
 have HG := Lib.hid (bm_Grow h1 n (by omega))
 clear h1 h
 go_enter Tryz.func178, Tryz.ntmps178
 go_wp2_with fail
 refine HG.out.mono ?_
 rintro e w1 ⟨rfl, hK, h2⟩
 have HK := Lib.hid hK
 have H2 := Lib.hid h2
 clear hK h2
 go_wp2
 go_ret2
 exact ⟨rfl, ((Kept.refl w).alloc _).trans HK.out, by simpa using H2.out⟩
/-
  Spaces (layer 8), the first part: the shelf of one device.
-/
theorem quiet_same {P : Program} {f : FuncId} {args : Array Value} {w : World} {n : Nat} {v : Value} (h : Calls P f args (w.drewN n) fun e w' => e = .returned v /\ w.drewN n = w') :
  Calls P f args (w.drewN n) fun e w'' => e = .returned v /\ ∃ m, w'' = w.drewN m := h.mono fun _ _ ⟨a, b⟩ => ⟨a, n, b.symm⟩
theorem quiet_drew {P : Program} {f : FuncId} {args : Array Value} {w : World} {n : Nat} {v : Value} (h : Calls P f args (w.drewN n) fun e w' => e = .returned v /\ ∃ m, w' = (w.drewN n).drewN m) :
  Calls P f args (w.drewN n) fun e w'' => e = .returned v /\ ∃ m, w'' = w.drewN m := Calls.quiet_of h
def ptr (b : Nat) : Value := .pointer (some ⟨b, 0, none⟩)
structure Shelf where
 n : Nat
 taken : Nat -> Bool
 fresh : Nat -> Bool
 given : Nat -> Bool
def Shelf.used (s : Shelf) : Nat := cntTo s.taken s.n + cntTo s.given s.n
def shelfParts (b : Nat) (s : Shelf) (x : Nat × Nat × Nat) : List Say :=
 [pts b (.cells #[.pointer (some ⟨x.1, 0, none⟩), .pointer (some ⟨x.2.1, 0, none⟩), .pointer (some ⟨x.2.2, 0, none⟩)] 180 (0, 0)), bmS x.1 s.n s.taken, bmS x.2.1 s.n s.fresh, bmS x.2.2 s.n s.given]
def shelfS (b : Nat) (s : Shelf) : Say := ex fun x : Nat × Nat × Nat => all (shelfParts b s x)
theorem Has.shelf_open {w : World} {l : List Say} {b : Nat} {s : Shelf} (h : Has w (shelfS b s :: l)) : ∃ x, Has w (shelfParts b s x ++ l) := by
 obtain ⟨x, h⟩ := h.opened
 exact ⟨x, h.split⟩
theorem Has.shelf_shut {w : World} {l : List Say} {b : Nat} {s : Shelf} {x : Nat × Nat × Nat} (h : Has w (shelfParts b s x ++ l)) : Has w (shelfS b s :: l) := Has.chosen x h.unite
theorem Has.shelf_read {w : World} {l : List Say} {b : Nat} {s : Shelf} (h : Has w l) (hm : shelfS b s ∈ l) :
  ∃ x y z, w.cell? ⟨b, 0, none⟩ = some (.pointer (some ⟨x, 0, none⟩)) /\ w.cell? ⟨b, 1, none⟩ = some (.pointer (some ⟨y, 0, none⟩)) /\ w.cell? ⟨b, 2, none⟩ = some (.pointer (some ⟨z, 0, none⟩)) /\
   Has w [bmS x s.n s.taken, bmS y s.n s.fresh, bmS z s.n s.given] := by
 obtain ⟨⟨x, y, z⟩, h1⟩ := (h.only hm).shelf_open
 have hb := Has.got (l := [bmS x s.n s.taken, bmS y s.n s.fresh, bmS z s.n s.given]) h1
 exact ⟨x, y, z, cell_of hb 0 rfl, cell_of hb 1 rfl, cell_of hb 2 rfl, h1.tail⟩
theorem shelf_used {w : World} {l : List Say} {b : Nat} {s : Shelf} (h : Has w l) (hm : shelfS b s ∈ l) (hn : s.n <= 4096) :
  Calls Tryz.prog 149 #[.pointer (some ⟨b, 0, none⟩)] w fun e w' => e = .returned (.int .i64 (s.used : Nat)) /\ ∃ m, w' = w.drewN m := by
 obtain ⟨x, y, z, c0, c1, c2, hh⟩ := h.shelf_read hm
 have b1 := cntTo_le s.taken s.n
 have b2 := cntTo_le s.given s.n
 have HT := Lib.hid (fun n => quiet_same (bm_Count (w := w.drewN n) (hh.drewN n) (b := x) (.head _)))
 have HG := Lib.hid (fun n => quiet_same (bm_Count (w := w.drewN n) (hh.drewN n) (b := z) (.tail _ (.tail _ (.head _)))))
 have Hu : Hid (s.used = cntTo s.taken s.n + cntTo s.given s.n) := rfl
 generalize cntTo s.taken s.n = t at *
 generalize cntTo s.given s.n = g at *
 have hsum : IntKind.i64.wrap ((t : Int) + g) = (t : Int) + g := IntWalk.i64_in _ (by omega)
 clear hh h hm
 go_enter Tryz.func149, Tryz.ntmps149
 go_wp2
 go_quiet (first | (go_at_call_of 200 (some (⟨x, 0, none⟩ : Addr)); exact HT.out _) | (go_at_call 200; exact HG.out _))
 go_wp2
 go_ret
 exact ⟨by rw [Hu.out]; simp, nq, rfl⟩
theorem bm_GrowI {w : World} {l : List Say} {b n : Nat} {S : Nat -> Bool} (h : Has w (bmS b n S :: l)) (m : Int) (size : Nat) (hm : (n : Int) + m = size) (h0 : 0 <= m) (h4 : size <= 4096) :
  Calls Tryz.prog 179 #[.pointer (some ⟨b, 0, none⟩), .int .i64 m] w fun e w' =>
   e = .returned .nilIface /\ Kept w w' /\ Has w' (bmS b size S :: l) := by
 obtain ⟨k, rfl⟩ := Int.eq_ofNat_of_zero_le h0
 have e : n + k = size := by omega
 have := bm_Grow h k (by omega)
 rw [e] at this
 exact this
set_option maxRecDepth 100000 in
theorem shelf_grow {w : World} {l : List Say} {b : Nat} {s : Shelf} (h : Has w (shelfS b s :: l)) (size : Nat) (h1 : s.n <= size) (h2 : size <= 4096) :
  Calls Tryz.prog 121 #[.pointer (some ⟨b, 0, none⟩), .int .i64 (size : Int)] w fun e w' =>
   e = .returned (.tuple #[]) /\ Kept w w' /\ Has w' (shelfS b { s with n := size } :: l) := by
 obtain ⟨⟨x, y, z⟩, hh⟩ := h.shelf_open
 obtain ⟨n, T, F, G⟩ := s
 simp only at h1
 simp only [shelfParts, List.cons_append, List.nil_append] at hh
 have hb := hh.got
 have c0 : w.cell? ⟨b, 0, none⟩ = some (.pointer (some ⟨x, 0, none⟩)) := cell_of hb 0 rfl
 have c1 : w.cell? ⟨b, 1, none⟩ = some (.pointer (some ⟨y, 0, none⟩)) := cell_of hb 1 rfl
 have c2 : w.cell? ⟨b, 2, none⟩ = some (.pointer (some ⟨z, 0, none⟩)) := cell_of hb 2 rfl
 have hblt : b < w.heap.size := World.block_lt_of_cell? _ _ c0
 have HH := Lib.hid hh
 clear hh hb h
 go_enter Tryz.func121, Tryz.ntmps121
 go_wp2
 go_region
 generalize hB : w.heap.size = B at *
 generalize hW : (w.alloc (.cells #[.pointer (some ⟨x, 0, none⟩), .pointer (some ⟨y, 0, none⟩), .pointer (some ⟨z, 0, none⟩)] 178)).drew = W0 at *
 have H0 : Hid (Has W0 (pts B (.cells #[.pointer (some ⟨x, 0, none⟩), .pointer (some ⟨y, 0, none⟩), .pointer (some ⟨z, 0, none⟩)] 178 (0, 0)) :: pts b (.cells #[.pointer (some ⟨x, 0, none⟩), .pointer (some ⟨y, 0, none⟩), .pointer (some ⟨z, 0, none⟩)] 180 (0, 0)) :: bmS x n T :: bmS y n F :: bmS z n G :: l)) := by
  rw [<- hW, <- hB]; exact (HH.out.alloc _).drew
 have K0 : Hid (Kept w W0) := by rw [<- hW]; exact ((Kept.refl w).alloc _).drew
 clear hW hB HH c0 c1 c2 hblt
 have d0 : W0.cell? ⟨B, 0, none⟩ = some (.pointer (some ⟨x, 0, none⟩)) := cell_of H0.out.got 0 rfl
 go_wp2
 refine wp_loop_rounds 4 ?_
 rw [rounds_succ]
 have L0 := Lib.hid (bm_Len (b := x) (n := n) (S := T) H0.out (.tail _ (.tail _ (.head _))))
 have G0 := Lib.hid (bm_GrowI (H0.out.pull 2) ((size : Int) - n) size (by omega) (by omega) h2)
 go_wp2_with fail
 refine L0.out.mono ?_
 rintro r w' ⟨rfl, rfl⟩
 go_wp2_with fail
 refine G0.out.mono ?_
 rintro r W1 ⟨rfl, hk1, hh1⟩
 have H1 : Hid (Has W1 (pts B (.cells #[.pointer (some ⟨x, 0, none⟩), .pointer (some ⟨y, 0, none⟩), .pointer (some ⟨z, 0, none⟩)] 178 (0, 0)) :: pts b (.cells #[.pointer (some ⟨x, 0, none⟩), .pointer (some ⟨y, 0, none⟩), .pointer (some ⟨z, 0, none⟩)] 180 (0, 0)) :: bmS x size T :: bmS y n F :: bmS z n G :: l)) := hh1.push 2
 have K1 : Hid (Kept w W1) := K0.out.trans hk1
 clear hk1 hh1 L0 G0 d0
 clear H0 K0
 have d1 : W1.cell? ⟨B, 1, none⟩ = some (.pointer (some ⟨y, 0, none⟩)) := cell_of H1.out.got 1 rfl
 go_wp2
 rw [rounds_succ]
 have L1 := Lib.hid (bm_Len (b := y) (n := n) (S := F) H1.out (.tail _ (.tail _ (.tail _ (.head _)))))
 have G1 := Lib.hid (bm_GrowI (H1.out.pull 3) ((size : Int) - n) size (by omega) (by omega) h2)
 go_wp2_with fail
 refine L1.out.mono ?_
 rintro r w' ⟨rfl, rfl⟩
 go_wp2_with fail
 refine G1.out.mono ?_
 rintro r W2 ⟨rfl, hk2, hh2⟩
 have H2 : Hid (Has W2 (pts B (.cells #[.pointer (some ⟨x, 0, none⟩), .pointer (some ⟨y, 0, none⟩), .pointer (some ⟨z, 0, none⟩)] 178 (0, 0)) :: pts b (.cells #[.pointer (some ⟨x, 0, none⟩), .pointer (some ⟨y, 0, none⟩), .pointer (some ⟨z, 0, none⟩)] 180 (0, 0)) :: bmS x size T :: bmS y size F :: bmS z n G :: l)) := hh2.push 3
 have K2 : Hid (Kept w W2) := K1.out.trans hk2
 clear hk2 hh2 L1 G1 d1
 clear H1 K1
 have d2 : W2.cell? ⟨B, 2, none⟩ = some (.pointer (some ⟨z, 0, none⟩)) := cell_of H2.out.got 2 rfl
 go_wp2
 rw [rounds_succ]
 have L2 := Lib.hid (bm_Len (b := z) (n := n) (S := G) H2.out (.tail _ (.tail _ (.tail _ (.tail _ (.head _))))))
 have G2 := Lib.hid (bm_GrowI (H2.out.pull 4) ((size : Int) - n) size (by omega) (by omega) h2)
 go_wp2_with fail
 refine L2.out.mono ?_
 rintro r w' ⟨rfl, rfl⟩
 go_wp2_with fail
 refine G2.out.mono ?_
 rintro r W3 ⟨rfl, hk3, hh3⟩
 have H3 : Hid (Has W3 (pts B (.cells #[.pointer (some ⟨x, 0, none⟩), .pointer (some ⟨y, 0, none⟩), .pointer (some ⟨z, 0, none⟩)] 178 (0, 0)) :: pts b (.cells #[.pointer (some ⟨x, 0, none⟩), .pointer (some ⟨y, 0, none⟩), .pointer (some ⟨z, 0, none⟩)] 180 (0, 0)) :: bmS x size T :: bmS y size F :: bmS z size G :: l)) := hh3.push 4
 have K3 : Hid (Kept w W3) := K2.out.trans hk3
 clear hk3 hh3 L2 G2 d2
 clear H2 K2
 go_wp2
 rw [rounds_succ]
 go_wp2
 go_end0
 exact ⟨rfl, K3.out, Has.shelf_shut (x := (x, y, z)) H3.out.tail⟩
def emptyShelf (n : Nat) : Shelf := ⟨n, fun _ => false, fun _ => false, fun _ => false⟩
def ShelfPost (w : World) (s : Shelf) (l : List Say) (r : Ending) (w' : World) : Prop := ∃ b, r = .returned (.pointer (some ⟨b, 0, none⟩)) /\ Kept w w' /\ Has w' (shelfS b s :: l)
set_option maxRecDepth 100000 in
theorem newShelf {w : World} {l : List Say} (h : Has w l) (n : Nat) (hn : n <= 4096) :
  Calls Tryz.prog 120 #[.int .i64 (n : Int)] w (ShelfPost w (emptyShelf n) l) := by
 have H0 := Lib.hid (h.alloc (.cells #[.pointer none, .pointer none, .pointer none] 264))
 have K0 : Hid (Kept w (w.alloc (.cells #[.pointer none, .pointer none, .pointer none] 264))) := (Kept.refl w).alloc _
 clear h
 go_enter Tryz.func120, Tryz.ntmps120
 go_wp2
 generalize hW : w.alloc (.cells #[.pointer none, .pointer none, .pointer none] 264) = W0 at *
 generalize w.heap.size = B at *
 refine wp_loop_rounds 4 ?_
 clear hW
 have N0 := Lib.hid (bm_New H0.out n hn)
 generalize hx0 : W0.heap.size = x0 at N0
 have c0 : W0.cell? ⟨B, 0, none⟩ = some (.pointer none) := cell_of H0.out.got 0 rfl
 rw [rounds_succ]
 go_wp2_with fail
 refine N0.out.mono ?_
 rintro r V1 ⟨rfl, hk1, hh1⟩
 have hg1 := hh1.swap.got
 have c1 : V1.cell? ⟨B, 0, none⟩ = some (.pointer none) := cell_of hg1 0 rfl
 have f1 := thaw_of hg1 0
 have T1 : Hid (Has (V1.setCell ⟨B, 0, none⟩ (.pointer (some ⟨x0, 0, none⟩))) (pts B (.cells #[.pointer (some ⟨x0, 0, none⟩), .pointer none, .pointer none] 264 (0, 0)) :: bmS x0 n (fun _ => false) :: l)) := hh1.swap.setCell 0 _
 have K1 : Hid (Kept w (V1.setCell ⟨B, 0, none⟩ (.pointer (some ⟨x0, 0, none⟩)))) := (K0.out.trans hk1).setCell _ _
 clear hk1 hh1 hg1 N0
 go_wp2
 generalize hW1 : V1.setCell ⟨B, 0, none⟩ (.pointer (some ⟨x0, 0, none⟩)) = W1 at *
 have H1 := T1
 clear hW1 c1 f1 T1 H0 K0
 have N1 := Lib.hid (bm_New H1.out n hn)
 generalize hx1 : W1.heap.size = x1 at N1
 have c1 : W1.cell? ⟨B, 1, none⟩ = some (.pointer none) := cell_of H1.out.got 1 rfl
 rw [rounds_succ]
 go_wp2_with fail
 refine N1.out.mono ?_
 rintro r V2 ⟨rfl, hk2, hh2⟩
 have hg2 := hh2.swap.got
 have c2 : V2.cell? ⟨B, 1, none⟩ = some (.pointer none) := cell_of hg2 1 rfl
 have f2 := thaw_of hg2 1
 have T2 : Hid (Has (V2.setCell ⟨B, 1, none⟩ (.pointer (some ⟨x1, 0, none⟩))) (pts B (.cells #[.pointer (some ⟨x0, 0, none⟩), .pointer (some ⟨x1, 0, none⟩), .pointer none] 264 (0, 0)) :: bmS x1 n (fun _ => false) :: bmS x0 n (fun _ => false) :: l)) := hh2.swap.setCell 1 _
 have K2 : Hid (Kept w (V2.setCell ⟨B, 1, none⟩ (.pointer (some ⟨x1, 0, none⟩)))) := (K1.out.trans hk2).setCell _ _
 clear hk2 hh2 hg2 N1
 go_wp2
 generalize hW2 : V2.setCell ⟨B, 1, none⟩ (.pointer (some ⟨x1, 0, none⟩)) = W2 at *
 have H2 := T2
 clear hW2 c2 f2 T2 H1 K1
 have N2 := Lib.hid (bm_New H2.out n hn)
 generalize hx2 : W2.heap.size = x2 at N2
 have c2 : W2.cell? ⟨B, 2, none⟩ = some (.pointer none) := cell_of H2.out.got 2 rfl
 rw [rounds_succ]
 go_wp2_with fail
 refine N2.out.mono ?_
 rintro r V3 ⟨rfl, hk3, hh3⟩
 have hg3 := hh3.swap.got
 have c3 : V3.cell? ⟨B, 2, none⟩ = some (.pointer none) := cell_of hg3 2 rfl
 have f3 := thaw_of hg3 2
 have T3 : Hid (Has (V3.setCell ⟨B, 2, none⟩ (.pointer (some ⟨x2, 0, none⟩))) (pts B (.cells #[.pointer (some ⟨x0, 0, none⟩), .pointer (some ⟨x1, 0, none⟩), .pointer (some ⟨x2, 0, none⟩)] 264 (0, 0)) :: bmS x2 n (fun _ => false) :: bmS x1 n (fun _ => false) :: bmS x0 n (fun _ => false) :: l)) := hh3.swap.setCell 2 _
 have K3 : Hid (Kept w (V3.setCell ⟨B, 2, none⟩ (.pointer (some ⟨x2, 0, none⟩)))) := (K2.out.trans hk3).setCell _ _
 clear hk3 hh3 hg3 N2
 go_wp2
 generalize hW3 : V3.setCell ⟨B, 2, none⟩ (.pointer (some ⟨x2, 0, none⟩)) = W3 at *
 have H3 := T3
 clear hW3 c3 f3 T3 H2 K2
 rw [rounds_succ]
 have d0 : W3.cell? ⟨B, 0, none⟩ = some (.pointer (some ⟨x0, 0, none⟩)) := cell_of H3.out.got 0 rfl
 have d1 : W3.cell? ⟨B, 1, none⟩ = some (.pointer (some ⟨x1, 0, none⟩)) := cell_of H3.out.got 1 rfl
 have d2 : W3.cell? ⟨B, 2, none⟩ = some (.pointer (some ⟨x2, 0, none⟩)) := cell_of H3.out.got 2 rfl
 go_wp2
 go_ret
 refine ⟨W3.heap.size, rfl, K3.out.alloc _, ?_⟩
 have h4 := (H3.out.tail.alloc (.cells #[.pointer (some ⟨x0, 0, none⟩), .pointer (some ⟨x1, 0, none⟩), .pointer (some ⟨x2, 0, none⟩)] 180))
 exact Has.shelf_shut (x := (x0, x1, x2)) (((h4.pull 2).push 1).pull 3 |>.push 1 |>.swap |>.swap)
end Go.Proofs.YtgbgneiciabidaaGreatDoor
