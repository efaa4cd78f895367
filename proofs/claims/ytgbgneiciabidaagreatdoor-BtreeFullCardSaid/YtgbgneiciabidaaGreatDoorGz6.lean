/-
  Bitmaps (layer 7): what each call does to a bitmap in memory, said of the set of numbers that it stands for.
-/
import Derived.Test.YtgbgneiciabidaaGreatDoorGz5
import Derived.Test.YtgbgneiciabidaaGreatDoorGz1
import Derived.RegionTactic
import Derived.BigRegion
import Derived.Handy
import Derived.Deep.LoopGhost
namespace Go.Proofs.YtgbgneiciabidaaGreatDoor
open Go Go.RowKit
set_option linter.unusedVariables false
set_option linter.unusedSimpArgs false

structure Words (n : Nat) (ws : List Nat) (S : Nat → Bool) : Prop where
  len : n ≤ 64 * ws.length
  few : ws.length ≤ 64
  big : n ≤ 4096
  lt : ∀ x ∈ ws, x < 18446744073709551616
  bit : ∀ i, S i = (ws.getD (i / 64) 0).testBit (i % 64)
  off : ∀ i, n ≤ i → S i = false
def wordOf (x : Nat) : Value := .int .u64 (x : Int)
def bmS (b n : Nat) (S : Nat → Bool) : Say := ex fun x : Value × List Nat => fact (Words n x.2 S) (all [pts b (.cells #[.int .i64 (n : Int), x.1] 250 (0, 0)), rowS 247 1 x.1 x.2.length (x.2.map wordOf)])

theorem Has.bm_open {w : World} {l : List Say} {b n : Nat} {S : Nat → Bool} (h : Has w (bmS b n S :: l)) :
    ∃ v ws, Words n ws S ∧ Has w (pts b (.cells #[.int .i64 (n : Int), v] 250 (0, 0)) :: rowS 247 1 v ws.length (ws.map wordOf) :: l) := by
  obtain ⟨⟨v, ws⟩, h⟩ := h.opened
  obtain ⟨hw, h⟩ := h.unfact
  exact ⟨v, ws, hw, h.split⟩
theorem Has.bm_shut {w : World} {l : List Say} {b n : Nat} {S : Nat → Bool} {v : Value} {ws : List Nat} (hw : Words n ws S)
    (h : Has w (pts b (.cells #[.int .i64 (n : Int), v] 250 (0, 0)) :: rowS 247 1 v ws.length (ws.map wordOf) :: l)) : Has w (bmS b n S :: l) :=
  Has.chosen (v, ws) (Has.tofact hw (Has.unite (m := [_, _]) h))

theorem Words.get {n : Nat} {ws : List Nat} {S : Nat → Bool} (h : Words n ws S) (i : Nat) (hi : i < n) : ∃ x, ws[i / 64]? = some x ∧ x < 18446744073709551616 ∧ S i = x.testBit (i % 64) := by
  have hlt : i / 64 < ws.length := by have := h.len; omega
  refine ⟨ws[i / 64], List.getElem?_eq_getElem hlt, h.lt _ (List.getElem_mem hlt), ?_⟩
  rw [h.bit, List.getD_eq_getElem?_getD, List.getElem?_eq_getElem hlt]; rfl

theorem Has.bm_read {w : World} {l : List Say} {b n : Nat} {S : Nat → Bool} (h : Has w l) (hm : bmS b n S ∈ l) :
    ∃ ws a c, Words n ws S ∧ ws.length ≤ c ∧ w.cell? ⟨b, 0, none⟩ = some (.int .i64 (n : Int)) ∧ w.cell? ⟨b, 1, none⟩ = some (.slice a ws.length c) ∧
      ∀ (k x : Nat), ws[k]? = some x → ∃ g, a = some ⟨g, 0, none⟩ ∧ w.cell? ⟨g, k, none⟩ = some (.int .u64 (x : Int)) := by
  obtain ⟨v, ws, hw, h1⟩ := (h.only hm).bm_open
  obtain ⟨_, a, c, rfl, hc, _, hr⟩ := h1.row_read (v := v) (e := 247) (n := ws.length) (xs := ws.map wordOf) (by simp)
  have hb := h1.got
  refine ⟨ws, a, c, hw, hc, cell_of hb 0 rfl, cell_of hb 1 rfl, fun k x hx => ?_⟩
  obtain ⟨g, ha, hg, _⟩ := hr k (wordOf x) (by simp [hx])
  exact ⟨g, ha, hg⟩

theorem bm_in_yes (b : Nat) (n i : Int) (w : World) (h0 : w.cell? ⟨b, 0, none⟩ = some (.int .i64 n)) (g0 : 0 ≤ i) (g1 : i < n) :
    Calls Tryz.prog 160 #[.pointer (some ⟨b, 0, none⟩), .int .i64 i] w fun e w' => e = .returned (.bool true) ∧ w = w' := by
  go_enter Tryz.func160, Tryz.ntmps160
  go_wp2
  go_ret
  exact ⟨rfl, rfl⟩
theorem bm_in_no (b : Nat) (n i : Int) (w : World) (h0 : w.cell? ⟨b, 0, none⟩ = some (.int .i64 n)) (g : i < 0 ∨ n ≤ i) :
    Calls Tryz.prog 160 #[.pointer (some ⟨b, 0, none⟩), .int .i64 i] w fun e w' => e = .returned (.bool false) ∧ w = w' := by
  by_cases g1 : i < 0
  · go_enter Tryz.func160, Tryz.ntmps160
    go_wp2
    go_ret
    exact ⟨rfl, rfl⟩
  · have g2 : decide (i < n) = false := by simp; omega
    have g3 : 0 ≤ i := by omega
    clear g g1
    go_enter Tryz.func160, Tryz.ntmps160
    go_wp2
    go_ret
    exact ⟨by rw [← g2]; rfl, rfl⟩
theorem bm_Len {w : World} {l : List Say} {b n : Nat} {S : Nat → Bool} (h : Has w l) (hm : bmS b n S ∈ l) :
    Calls Tryz.prog 180 #[.pointer (some ⟨b, 0, none⟩)] w fun e w' => e = .returned (.int .i64 (n : Int)) ∧ w = w' := by
  obtain ⟨ws, a, c, hw, hc, h0, h1, hx⟩ := h.bm_read hm
  clear hx
  go_enter Tryz.func180, Tryz.ntmps180
  go_wp2
  go_ret
  exact ⟨rfl, rfl⟩

theorem has_bit (x m : Nat) (hx : x < 18446744073709551616) : (bits BinOp.and IntKind.u64 ((x : Int) / 2 ^ m) 1 == 1) = x.testBit m := by
  have e1 : (x : Int) / 2 ^ m = ((x / 2 ^ m : Nat) : Int) := by simp
  have hlt : x / 2 ^ m < 18446744073709551616 := Nat.lt_of_le_of_lt (Nat.div_le_self _ _) hx
  have := bits_and_u64_nat (x / 2 ^ m) 1 hlt (by decide)
  rw [e1, show (1 : Int) = ((1 : Nat) : Int) from rfl, this, nat_mask1]
  rw [Nat.testBit_eq_decide_div_mod_eq]
  rw [Bool.eq_iff_iff]
  simp only [beq_iff_eq, decide_eq_true_eq]
  omega

theorem bm_Has {w : World} {l : List Say} {b n : Nat} {S : Nat → Bool} (h : Has w l) (hm : bmS b n S ∈ l) (i : Nat) :
    Calls Tryz.prog 97 #[.pointer (some ⟨b, 0, none⟩), .int .i64 (i : Int)] w fun e w' => e = .returned (.bool (S i)) ∧ w = w' := by
  obtain ⟨ws, a, c, hw, hc, h0, h1, hx⟩ := h.bm_read hm
  by_cases hi : i < n
  · obtain ⟨x, hxi, hlt, hS⟩ := hw.get i hi
    obtain ⟨g, rfl, hg⟩ := hx _ _ hxi
    have hk : i / 64 < ws.length := (List.getElem?_eq_some_iff.1 hxi).1
    have hb := hw.big
    have hres := Lib.hid (has_bit x (i % 64) hlt)
    have HS := Lib.hid hS
    clear hx hxi hS hw h hm
    go_enter Tryz.func97, Tryz.ntmps97
    go_wp2_with (go_at_call 160; refine (bm_in_yes _ _ _ _ h0 (by omega) (by omega)).mono ?_; rintro e w' ⟨rfl, rfl⟩)
    go_ret
    exact ⟨by rw [HS.out, ← hres.out]; rfl, rfl⟩
  · have hS := Lib.hid (hw.off i (by omega))
    clear hx hw h hm
    go_enter Tryz.func97, Tryz.ntmps97
    go_wp2_with (go_at_call 160; refine (bm_in_no _ _ _ _ h0 (by omega)).mono ?_; rintro e w' ⟨rfl, rfl⟩)
    go_ret
    exact ⟨by rw [hS.out]; rfl, rfl⟩

/-! The table of math/bits. -/
def Tab (l : List Say) : Prop := ∀ w, Has w l → ∀ j, j < 64 → w.cell? ⟨0, j, none⟩ = some (.int .u8 (Lib.deBruijn64tab.getD j 0 : Nat))
theorem Tab.cons {A : Say} {l : List Say} (h : Tab l) : Tab (A :: l) := fun w hw => h w hw.tail
theorem Tab.app {l : List Say} (h : Tab l) : ∀ (m : List Say), Tab (m ++ l)
  | [] => h
  | A :: m => (Tab.app h m).cons
theorem Tab.of_old {W : World} {l : List Say} (hc : ∀ j, j < 64 → W.cell? ⟨0, j, none⟩ = some (.int .u8 (Lib.deBruijn64tab.getD j 0 : Nat))) (hm : old W ∈ l) : Tab l := fun w hw j hj => hw.old_cell hm (hc j hj)
theorem tz64_core (x k idx : Nat) (w : World) (hx0 : ((x : Int) == 0) = false)
    (key : IntKind.u64.wrap (bits BinOp.and IntKind.u64 (x : Int) (IntKind.u64.wrap (-(x : Int))) * 285870213051353865) / 288230376151711744 = (idx : Int))
    (hi : idx < 64) (hk : k < 64) (hcell : w.cell? ⟨0, idx, none⟩ = some (.int .u8 k)) :
    Calls Tryz.prog 215 #[.int .u64 x] w fun e w' => e = .returned (.int .i64 k) ∧ w = w' := by
  go_enter Tryz.func215, Tryz.ntmps215
  go_wp2_with (simp only [key])
  go_ret
  exact ⟨rfl, rfl⟩
theorem tz64_key (x a : Nat) (hx : x < 18446744073709551616) (hx0 : x ≠ 0) (hlow : x &&& (18446744073709551616 - x) = a) :
    IntKind.u64.wrap (bits BinOp.and IntKind.u64 (x : Int) (IntKind.u64.wrap (-(x : Int))) * 285870213051353865) / 288230376151711744 = ((a * 285870213051353865 % 18446744073709551616 / 288230376151711744 : Nat) : Int) := by
  have e1 : IntKind.u64.wrap (-(x : Int)) = ((18446744073709551616 - x : Nat) : Int) := by rw [IntKind.wrap_u64]; omega
  rw [e1, bits_and_u64_nat x _ hx (by omega), hlow, IntKind.wrap_u64]
  omega
theorem TrailingZeros64 {w : World} {l : List Say} (h : Has w l) (hm : Tab l) (x : Nat) (hx : x < 18446744073709551616) (hx0 : x ≠ 0) :
    Calls Tryz.prog 215 #[.int .u64 x] w fun e w' => e = .returned (.int .i64 (Lib.ctz 64 x : Nat)) ∧ w = w' := by
  obtain ⟨hlow, hk⟩ := Lib.lowest_bit 64 x hx0 hx
  obtain ⟨hi, htab⟩ := Lib.deBruijn64_at _ hk
  have hcell := hm w h _ hi
  rw [htab] at hcell
  exact tz64_core x _ _ w (by simp; omega) (tz64_key x _ hx hx0 hlow) hi hk hcell

theorem ctz_bit (x : Nat) (hx : x < 18446744073709551616) (hx0 : x ≠ 0) : x.testBit (Lib.ctz 64 x) = true ∧ ∀ j, j < Lib.ctz 64 x → x.testBit j = false := by
  obtain ⟨m, hm, hk⟩ := Lib.ctzFrom_spec 64 x (by omega) hx
  have e : Lib.ctz 64 x = Lib.ctzFrom 64 x := by simp [Lib.ctz, hx0]
  rw [e]
  generalize Lib.ctzFrom 64 x = k at *
  subst hm
  constructor
  · rw [Nat.mul_comm, Nat.testBit_mul_two_pow]; simp
  · intro j hj
    rw [Nat.mul_comm, Nat.testBit_mul_two_pow]
    have : ¬ k ≤ j := by omega
    simp [this]
end Go.Proofs.YtgbgneiciabidaaGreatDoor
/-
  Bitmaps (layer 7), the second part: find, Free, Next, Count.
-/
namespace Go.Proofs.YtgbgneiciabidaaGreatDoor
open Go Go.RowKit
set_option linter.unusedVariables false
set_option linter.unusedSimpArgs false

def maskT (ws : List Nat) (M i : Nat) : Bool := ((ws.getD (i / 64) 0) ^^^ M).testBit (i % 64)

theorem mask_zero (x M m : Nat) (hx : (x ^^^ M) / 2 ^ m = 0) (j : Nat) (hj : m ≤ j) : (x ^^^ M).testBit j = false := by
  obtain ⟨d, rfl⟩ : ∃ d, j = m + d := ⟨j - m, by omega⟩
  have := Nat.testBit_div_two_pow (n := m) (x ^^^ M) d
  rw [hx] at this
  rw [Nat.add_comm m d, ← this]; simp

theorem int_eq {k : IntKind} {a b : Int} (h : a = b) : Value.int k a = Value.int k b := by rw [h]
theorem mask_bit (x M m y : Nat) (hy : (x ^^^ M) / 2 ^ m = y) (d : Nat) : (x ^^^ M).testBit (m + d) = y.testBit d := by
  have := Nat.testBit_div_two_pow (n := m) (x ^^^ M) d
  rw [Nat.add_comm m d, ← this, hy]

theorem found_in (ws : List Nat) (M k x y z : Nat) (hgd : ws.getD (k / 64) 0 = x) (hy : (x ^^^ M) / 2 ^ (k % 64) = y) (h64 : x ^^^ M < 18446744073709551616)
    (hb : y.testBit z = true) (hl : ∀ j, j < z → y.testBit j = false) : maskT ws M (k + z) = true ∧ ∀ j, k ≤ j → j < k + z → maskT ws M j = false := by
  have hz : k % 64 + z < 64 := by
    apply Nat.lt_of_not_le
    intro hge
    have h1 : (x ^^^ M).testBit (k % 64 + z) = false := Nat.testBit_lt_two_pow (Nat.lt_of_lt_of_le (show x ^^^ M < 2 ^ 64 by omega) (Nat.pow_le_pow_right (by omega) hge))
    rw [mask_bit x M _ y hy, hb] at h1
    cases h1
  constructor
  · unfold maskT
    rw [show (k + z) / 64 = k / 64 by omega, show (k + z) % 64 = k % 64 + z by omega, hgd, mask_bit x M _ y hy, hb]
  · intro j h1 h2
    unfold maskT
    obtain ⟨d, rfl⟩ : ∃ d, j = k + d := ⟨j - k, by omega⟩
    rw [show (k + d) / 64 = k / 64 by omega, show (k + d) % 64 = k % 64 + d by omega, hgd, mask_bit x M _ y hy]
    exact hl d (by omega)

def Found (n from_ : Nat) (T : Nat → Bool) (k : Nat) (ok : Bool) : Prop :=
  if ok then from_ ≤ k ∧ k < n ∧ T k = true ∧ ∀ j, from_ ≤ j → j < k → T j = false else k = 0 ∧ ∀ j, from_ ≤ j → j < n → T j = false

def FindPost (n from_ M : Nat) (S : Nat → Bool) (w : World) (e : Ending) (w' : World) : Prop :=
  ∃ ws k ok, Words n ws S ∧ Found n from_ (maskT ws M) k ok ∧ e = .returned (.tuple #[.int .i64 (k : Int), .bool ok]) ∧ w = w'
def SeekPost (n from_ : Nat) (T : Nat → Bool) (w : World) (e : Ending) (w' : World) : Prop :=
  ∃ k ok, Found n from_ T k ok ∧ e = .returned (.tuple #[.int .i64 (k : Int), .bool ok]) ∧ w = w'

theorem shr_val (x M m : Nat) : ((x ^^^ M : Nat) : Int) / 2 ^ m = (((x ^^^ M) / 2 ^ m : Nat) : Int) := by simp

set_option maxHeartbeats 1000000 in
set_option maxRecDepth 100000 in
theorem bm_find {w : World} {l : List Say} {b n : Nat} {S : Nat → Bool} (h : Has w l) (hm : bmS b n S ∈ l) (ht : Tab l) (from_ M : Nat) (hf : from_ ≤ 4096) (hM : M < 18446744073709551616) :
    Calls Tryz.prog 184 #[.pointer (some ⟨b, 0, none⟩), .int .i64 (from_ : Int), .int .u64 (M : Int)] w (FindPost n from_ M S w) := by
  obtain ⟨ws, a, c, hw, hc, h0, h1, hx⟩ := h.bm_read hm
  have hb := hw.big
  have hmax : max (from_ : Int) 0 = from_ := by omega
  have Hx := Lib.hid hx; clear hx
  have Hw := Lib.hid hw; clear hw
  have HH := Lib.hid h; clear h
  have Ht := Lib.hid ht; clear ht hm
  go_enter Tryz.func184, Tryz.ntmps184
  go_wp2
  go_loop [8, 9] (fun i _ => ∃ k : Nat, from_ ≤ k ∧ k ≤ 4160 ∧ i = .int .i64 k ∧ Hid (∀ j, from_ ≤ j → j < k → j < n → maskT ws M j = false)) (fun i _ => 5000 - (intOf i).toNat)
  case atStart =>
    refine ⟨from_, Nat.le_refl _, by omega, ?_, fun j h1 h2 => absurd h1 (by omega)⟩
    rfl
  case round =>
    obtain ⟨k, hk1, hk2, rfl, Hk⟩ := hrel
    by_cases hlt : (k : Int) < n
    · obtain ⟨x, hxi, hxlt, _⟩ := Hw.out.get k (by omega)
      obtain ⟨g, rfl, hg⟩ := Hx.out _ _ hxi
      have hkl : k / 64 < ws.length := (List.getElem?_eq_some_iff.1 hxi).1
      have hxor := bits_xor_u64_nat x M hxlt hM
      have hgd : ws.getD (k / 64) 0 = x := by rw [List.getD_eq_getElem?_getD, hxi]; rfl
      have Hgd := Lib.hid hgd; clear hgd hxi
      have hy64 : x ^^^ M < 18446744073709551616 := by
        have := Nat.xor_lt_two_pow (x := x) (y := M) (n := 64) (by omega) (by omega)
        omega
      have hshr := shr_val x M (k % 64)
      generalize hy : (x ^^^ M) / 2 ^ (k % 64) = y at hshr
      have hylt : y < 18446744073709551616 := by rw [← hy]; exact Nat.lt_of_le_of_lt (Nat.div_le_self _ _) hy64
      by_cases hy0 : y = 0
      · subst hy0
        have Hy := Lib.hid hy; clear hy hy64
        go_wp2
        refine ⟨⟨k + (64 - k % 64), by omega, by omega, int_eq (by omega), fun j j1 j2 j3 => ?_⟩, by simp [intOf]; omega⟩
        by_cases hj : j < k
        · exact Hk.out j j1 hj j3
        · have e1 : j / 64 = k / 64 := by omega
          have e2 : k % 64 ≤ j % 64 := by omega
          unfold maskT
          rw [e1, Hgd.out]
          exact mask_zero x M (k % 64) Hy.out _ e2
      · have hyb : ((y : Int) == 0) = false := by simp; exact hy0
        obtain ⟨hc1, hc2⟩ := ctz_bit y hylt hy0
        have hc3 : Lib.ctz 64 y < 64 := (Lib.lowest_bit 64 y hy0 hylt).2
        obtain ⟨hf1, hf2⟩ := found_in ws M k x y _ Hgd.out hy hy64 hc1 hc2
        have HT := Lib.hid (TrailingZeros64 HH.out Ht.out y hylt hy0)
        have Hy := Lib.hid hy; clear hy hy64 hc1 hc2 hy0
        generalize Lib.ctz 64 y = z at *
        have Hf1 := Lib.hid hf1; clear hf1
        have Hf2 := Lib.hid hf2; clear hf2
        by_cases hz : ((k + z : Nat) : Int) < n
        · go_wp2_with (go_at_call 215; refine HT.out.mono ?_; rintro e w' ⟨rfl, rfl⟩)
          go_ret2
          refine ⟨ws, k + z, true, Hw.out, ?_, rfl, rfl⟩
          unfold Found
          exact ⟨by omega, by omega, Hf1.out, fun j j1 j2 => (Nat.lt_or_ge j k).elim (fun h => Hk.out j j1 h (by omega)) (fun h => Hf2.out j h j2)⟩
        · go_wp2_with (go_at_call 215; refine HT.out.mono ?_; rintro e w' ⟨rfl, rfl⟩)
          go_ret2
          refine ⟨ws, 0, false, Hw.out, ?_, rfl, rfl⟩
          unfold Found
          exact ⟨rfl, fun j j1 j2 => (Nat.lt_or_ge j k).elim (fun h => Hk.out j j1 h (by omega)) (fun h => Hf2.out j h (by omega))⟩
    · go_wp2
      go_ret2
      exact ⟨ws, 0, false, Hw.out, by unfold Found; exact ⟨rfl, fun j j1 j2 => Hk.out j j1 (by omega) j2⟩, rfl, rfl⟩

theorem Words.maskT_full {n : Nat} {ws : List Nat} {S : Nat → Bool} (h : Words n ws S) (i : Nat) : maskT ws 18446744073709551615 i = !S i := by
  rw [h.bit]; unfold maskT
  rw [Nat.testBit_xor, show (18446744073709551615 : Nat) = 2 ^ 64 - 1 from rfl, Nat.testBit_two_pow_sub_one]
  have : i % 64 < 64 := Nat.mod_lt _ (by decide)
  simp [this]
theorem Found.congr {n f : Nat} {T T' : Nat → Bool} (hT : ∀ i, T i = T' i) {k : Nat} {ok : Bool} (h : Found n f T k ok) : Found n f T' k ok := by
  have : T = T' := funext hT
  rw [← this]; exact h

theorem bm_Free {w : World} {l : List Say} {b n : Nat} {S : Nat → Bool} (h : Has w l) (hm : bmS b n S ∈ l) (ht : Tab l) (from_ : Nat) (hf : from_ ≤ 4096) :
    Calls Tryz.prog 141 #[.pointer (some ⟨b, 0, none⟩), .int .i64 (from_ : Int)] w (SeekPost n from_ (fun i => !S i) w) := by
  have H := Lib.hid (bm_find h hm ht from_ 18446744073709551615 hf (by decide))
  clear h hm ht
  go_enter Tryz.func141, Tryz.ntmps141
  go_wp2_with fail
  refine H.out.mono ?_
  rintro e w' ⟨ws, k, ok, hw, hfound, rfl, rfl⟩
  have Hf := Lib.hid (hfound.congr hw.maskT_full)
  clear hfound hw
  go_wp2
  go_ret2
  exact ⟨k, ok, Hf.out, rfl, rfl⟩
end Go.Proofs.YtgbgneiciabidaaGreatDoor
/-
  Bitmaps (layer 7), the third part: Count, Set, Clear.
-/
namespace Go.Proofs.YtgbgneiciabidaaGreatDoor
open Go Go.RowKit
set_option linter.unusedVariables false
set_option linter.unusedSimpArgs false

def cntTo (S : Nat → Bool) : Nat → Nat
  | 0 => 0
  | n + 1 => cntTo S n + if S n then 1 else 0
theorem cntTo_shift (S : Nat → Bool) : ∀ n, cntTo S (n + 1) = (if S 0 then 1 else 0) + cntTo (fun i => S (i + 1)) n
  | 0 => by simp [cntTo]
  | n + 1 => by rw [cntTo, cntTo_shift S n, cntTo]; omega
theorem cntTo_congr {S T : Nat → Bool} : ∀ n, (∀ i, i < n → S i = T i) → cntTo S n = cntTo T n
  | 0, _ => rfl
  | n + 1, h => by rw [cntTo, cntTo, cntTo_congr n fun i hi => h i (by omega), h n (by omega)]
theorem cntTo_le (S : Nat → Bool) : ∀ n, cntTo S n ≤ n
  | 0 => Nat.le_refl _
  | n + 1 => by have := cntTo_le S n; rw [cntTo]; split <;> omega
theorem cntTo_add (S : Nat → Bool) (m : Nat) : ∀ n, cntTo S (m + n) = cntTo S m + cntTo (fun i => S (m + i)) n
  | 0 => by simp [cntTo]
  | n + 1 => by rw [← Nat.add_assoc, cntTo, cntTo_add S m n, cntTo]; omega
theorem cntTo_none {S : Nat → Bool} : ∀ n, (∀ i, i < n → S i = false) → cntTo S n = 0
  | 0, _ => rfl
  | n + 1, h => by rw [cntTo, cntTo_none n fun i hi => h i (by omega), h n (by omega)]; rfl
theorem pop_cnt : ∀ (n x : Nat), pop n x = cntTo x.testBit n
  | 0, _ => rfl
  | n + 1, x => by
    rw [cntTo_shift, pop, pop_cnt n (x / 2)]
    have e : (fun i => x.testBit (i + 1)) = (x / 2).testBit := funext fun i => Nat.testBit_succ ..
    rw [e, Nat.testBit_zero]
    have : x % 2 = 0 ∨ x % 2 = 1 := by omega
    rcases this with h | h <;> simp [h]

theorem Words.cnt {n : Nat} {ws : List Nat} {S : Nat → Bool} (h : Words n ws S) : cntTo S (64 * ws.length) = cntTo S n := by
  obtain ⟨d, hd⟩ : ∃ d, 64 * ws.length = n + d := ⟨64 * ws.length - n, by have := h.len; omega⟩
  rw [hd, cntTo_add, cntTo_none d fun i _ => h.off _ (by omega)]; rfl
theorem Words.cnt_step {n : Nat} {ws : List Nat} {S : Nat → Bool} (h : Words n ws S) (k x : Nat) (hx : ws[k]? = some x) : cntTo S (64 * (k + 1)) = cntTo S (64 * k) + pop 64 x := by
  rw [Nat.mul_add, Nat.mul_one, cntTo_add, pop_cnt]
  congr 1
  refine cntTo_congr _ fun i hi => ?_
  rw [h.bit, show (64 * k + i) / 64 = k by omega, show (64 * k + i) % 64 = i by omega, List.getD_eq_getElem?_getD, hx]; rfl

set_option maxRecDepth 100000 in
theorem bm_Count {w : World} {l : List Say} {b n : Nat} {S : Nat → Bool} (h : Has w l) (hm : bmS b n S ∈ l) :
    Calls Tryz.prog 200 #[.pointer (some ⟨b, 0, none⟩)] w fun e w' => e = .returned (.int .i64 (cntTo S n : Nat)) ∧ w = w' := by
  obtain ⟨ws, a, c, hw, hc, h0, h1, hx⟩ := h.bm_read hm
  have hb := hw.few
  have Hx := Lib.hid hx; clear hx
  have Hw := Lib.hid hw; clear hw h hm
  go_enter Tryz.func200, Tryz.ntmps200
  go_wp2
  go_loop [3, 11] (fun s i => ∃ k : Nat, k ≤ ws.length ∧ i = .int .i64 k ∧ s = .int .i64 (cntTo S (64 * k) : Nat)) (fun _ i => ws.length - (intOf i).toNat)
  case atStart => exact ⟨0, Nat.zero_le _, rfl, rfl⟩
  case round =>
    obtain ⟨k, hk, rfl, rfl⟩ := hrel
    by_cases hlt : k < ws.length
    · obtain ⟨x, hx⟩ : ∃ x, ws[k]? = some x := ⟨_, List.getElem?_eq_getElem hlt⟩
      obtain ⟨g, rfl, hg⟩ := Hx.out k x hx
      have HT := Lib.hid (OnesCount64 x (Hw.out.lt x (List.mem_of_getElem? hx)) w)
      have hle := cntTo_le S (64 * k)
      have hpl := pop_le 64 x
      have Hs := Lib.hid (Hw.out.cnt_step k x hx)
      clear hx
      generalize cntTo S (64 * k) = s at *
      generalize pop 64 x = p at *
      go_wp2_with (go_at_call 221; refine HT.out.mono ?_; rintro e w' ⟨rfl, rfl⟩)
      go_round
      case rel => exact ⟨k + 1, by omega, by go_num, int_eq (by rw [Hs.out]; omega)⟩
      case measure => simp [intOf]; omega
    · obtain rfl : k = ws.length := by omega
      have He := Lib.hid Hw.out.cnt
      go_wp2
      go_ret
      exact ⟨by rw [← He.out]; rfl, rfl⟩

theorem may_all : May 218 := ⟨Tryz.f218, Tryz.func218, by kernel_rfl, by kernel_rfl⟩
theorem bm_all1 {w : World} {l : List Say} {b n : Nat} {S : Nat → Bool} (h : Has w l) (hm : bmS b n S ∈ l) (q c i : Nat) (hq : w.cell? ⟨q, 0, none⟩ = some (.int .i64 (i : Int))) (hi : i < n) :
    Calls Tryz.prog 195 #[.pointer (some ⟨b, 0, none⟩), .slice (some ⟨q, 0, none⟩) 1 c] w fun e w' =>
      e = .returned (.bool true) ∧ ∃ m, w' = (w.alloc (.cells #[.pointer (some ⟨b, 0, none⟩)] 178 (0, 0))).drewN m := by
  obtain ⟨ws, a, c', hw, hc, h0, h1, hx⟩ := h.bm_read hm
  have hbl : b < w.heap.size := World.block_lt_of_cell? _ _ h0
  have hql : q < w.heap.size := World.block_lt_of_cell? _ _ hq
  clear hx h1 hc hw h hm
  have hlam : ∀ m, Calls Tryz.prog 218 #[.int .i64 (i : Int), .pointer (some ⟨w.heap.size, 0, none⟩)] ((w.alloc (.cells #[.pointer (some ⟨b, 0, none⟩)] 178 (0, 0))).drewN m) fun e w' =>
      e = .returned (.bool false) ∧ ∃ m', w' = (w.alloc (.cells #[.pointer (some ⟨b, 0, none⟩)] 178 (0, 0))).drewN m' := by
    intro m
    have h0' : ((w.alloc (.cells #[.pointer (some ⟨b, 0, none⟩)] 178 (0, 0))).drewN m).cell? ⟨b, 0, none⟩ = some (.int .i64 (n : Int)) := by
      show (w.alloc (.cells #[.pointer (some ⟨b, 0, none⟩)] 178 (0, 0))).cell? ⟨b, 0, none⟩ = _
      rw [World.cell?_alloc_lt _ _ _ hbl]; exact h0
    go_enter Tryz.func218, Tryz.ntmps218
    go_wp2_with (go_at_call 160; refine (bm_in_yes _ n _ _ h0' (by omega) (by omega)).mono ?_; rintro e w' ⟨rfl, rfl⟩)
    go_ret
    exact ⟨rfl, m, rfl⟩
  have HC := Lib.hid (ContainsFuncInt 218 may_all #[.pointer (some ⟨w.heap.size, 0, none⟩)] (fun _ => false) (some ⟨q, 0, none⟩) c [(i : Int)] (w.alloc (.cells #[.pointer (some ⟨b, 0, none⟩)] 178 (0, 0))) (by simp [maxLen])
    (fun k hk => ⟨q, 0, rfl, by
      have : k = 0 := by simpa using hk
      subst this
      rw [World.cell?_alloc_lt _ _ _ hql]; simpa using hq⟩)
    (fun k m hk => by
      have : k = 0 := by simpa using hk
      subst this
      exact hlam m))
  clear hlam
  go_enter Tryz.func195, Tryz.ntmps195
  go_wp2_with fail
  refine HC.out.mono ?_
  rintro e w' ⟨rfl, m, rfl⟩
  go_wp2
  go_ret
  exact ⟨rfl, m, rfl⟩

theorem map_set_word (ws : List Nat) (k y : Nat) : (ws.set k y).map wordOf = (ws.map wordOf).set k (wordOf y) := List.map_set ..
theorem pow_wrap (m : Nat) (h : m < 64) : IntKind.u64.wrap (2 ^ m) = ((2 ^ m : Nat) : Int) := by
  have : 2 ^ m < 18446744073709551616 := Nat.lt_of_lt_of_le (Nat.pow_lt_pow_right (by omega) h) (by decide)
  have e := wrap_u64_of (2 ^ m) this
  simpa using e
theorem or_word {n : Nat} {ws : List Nat} {S : Nat → Bool} (x i : Nat) (h : Words n ws S) (k : Nat) (hk : i / 64 = k) (hx : ws[k]? = some x) :
    Value.int .u64 (bits BinOp.or IntKind.u64 (x : Int) (IntKind.u64.wrap (2 ^ (i % 64)))) = wordOf (x ||| 2 ^ (i % 64)) := by
  have hm : i % 64 < 64 := Nat.mod_lt _ (by decide)
  rw [pow_wrap _ hm, bits_or_u64_nat x _ (h.lt x (List.mem_of_getElem? hx)) (Nat.lt_of_lt_of_le (Nat.pow_lt_pow_right (by omega) hm) (by decide))]; rfl
theorem andNot_word {n : Nat} {ws : List Nat} {S : Nat → Bool} (x i : Nat) (h : Words n ws S) (k : Nat) (hk : i / 64 = k) (hx : ws[k]? = some x) :
    Value.int .u64 (bits BinOp.andNot IntKind.u64 (x : Int) (IntKind.u64.wrap (2 ^ (i % 64)))) = wordOf (x &&& (18446744073709551615 - 2 ^ (i % 64))) := by
  have hm : i % 64 < 64 := Nat.mod_lt _ (by decide)
  rw [pow_wrap _ hm, u64_andNot_nat x _ (h.lt x (List.mem_of_getElem? hx)) (Nat.lt_of_lt_of_le (Nat.pow_lt_pow_right (by omega) hm) (by decide))]; rfl
theorem Words.with {n : Nat} {ws : List Nat} {S T : Nat → Bool} (h : Words n ws S) (i : Nat) (hi : i < n) (x y : Nat) (hx : ws[i / 64]? = some x) (hy : y < 18446744073709551616)
    (hT : ∀ j, j < 64 → T (i / 64 * 64 + j) = y.testBit j) (hk : ∀ k, k / 64 ≠ i / 64 → T k = S k) (hoff : ∀ k, n ≤ k → T k = false) : Words n (ws.set (i / 64) y) T := by
  have hlt : i / 64 < ws.length := (List.getElem?_eq_some_iff.1 hx).1
  refine ⟨by simpa using h.len, by simpa using h.few, h.big, fun z hz => ?_, fun k => ?_, hoff⟩
  · rcases List.mem_or_eq_of_mem_set hz with hz | rfl
    · exact h.lt z hz
    · exact hy
  · by_cases hki : k / 64 = i / 64
    · have e : k = i / 64 * 64 + k % 64 := by omega
      rw [hki, List.getD_eq_getElem?_getD, List.getElem?_set_self hlt]
      have := hT (k % 64) (Nat.mod_lt _ (by decide))
      rw [← e] at this
      exact this
    · rw [hk k hki, h.bit, List.getD_eq_getElem?_getD, List.getD_eq_getElem?_getD, List.getElem?_set_ne (Ne.symm hki)]
theorem Words.set {n : Nat} {ws : List Nat} {S : Nat → Bool} (h : Words n ws S) (i : Nat) (hi : i < n) (x : Nat) (hx : ws[i / 64]? = some x) :
    Words n (ws.set (i / 64) (x ||| 2 ^ (i % 64))) (fun k => k == i || S k) := by
  have hxlt := h.lt x (List.mem_of_getElem? hx)
  have hp : 2 ^ (i % 64) < 2 ^ 64 := Nat.pow_lt_pow_right (by omega) (Nat.mod_lt _ (by decide))
  refine h.with i hi x _ hx (Nat.or_lt_two_pow (n := 64) (by omega) hp) (fun j hj => ?_) (fun k hk => ?_) (fun k hk => ?_)
  · rw [h.bit, show (i / 64 * 64 + j) / 64 = i / 64 by omega, show (i / 64 * 64 + j) % 64 = j by omega, List.getD_eq_getElem?_getD, hx, Nat.testBit_or, Nat.testBit_two_pow]
    have e : (i / 64 * 64 + j == i) = decide (i % 64 = j) := by
      rw [Bool.eq_iff_iff]; simp; omega
    rw [e, Bool.or_comm]; rfl
  · have : (k == i) = false := by simp; rintro rfl; exact hk rfl
    simp [this]
  · have : (k == i) = false := by simp; omega
    simp [this, h.off k hk]
theorem Words.clear {n : Nat} {ws : List Nat} {S : Nat → Bool} (h : Words n ws S) (i : Nat) (hi : i < n) (x : Nat) (hx : ws[i / 64]? = some x) :
    Words n (ws.set (i / 64) (x &&& (18446744073709551615 - 2 ^ (i % 64)))) (fun k => !(k == i) && S k) := by
  have hxlt := h.lt x (List.mem_of_getElem? hx)
  have hp : 2 ^ (i % 64) < 2 ^ 64 := Nat.pow_lt_pow_right (by omega) (Nat.mod_lt _ (by decide))
  refine h.with i hi x _ hx (Nat.lt_of_le_of_lt Nat.and_le_left hxlt) (fun j hj => ?_) (fun k hk => ?_) (fun k hk => ?_)
  · rw [h.bit, show (i / 64 * 64 + j) / 64 = i / 64 by omega, show (i / 64 * 64 + j) % 64 = j by omega, List.getD_eq_getElem?_getD, hx, Nat.testBit_and,
      show 18446744073709551615 - 2 ^ (i % 64) = 2 ^ 64 - (2 ^ (i % 64) + 1) by omega, Nat.testBit_two_pow_sub_succ hp, Nat.testBit_two_pow]
    have e : (i / 64 * 64 + j == i) = decide (i % 64 = j) := by
      rw [Bool.eq_iff_iff]; simp; omega
    rw [e, Bool.and_comm]; simp [hj]
  · have : (k == i) = false := by simp; rintro rfl; exact hk rfl
    simp [this]
  · simp [h.off k hk]

theorem bm_Set1 {w : World} {l : List Say} {b n : Nat} {S : Nat → Bool} (h : Has w (bmS b n S :: l)) (q c i : Nat) (hq : w.cell? ⟨q, 0, none⟩ = some (.int .i64 (i : Int))) (hi : i < n) :
    Calls Tryz.prog 142 #[.pointer (some ⟨b, 0, none⟩), .slice (some ⟨q, 0, none⟩) 1 c] w fun e w' =>
      e = .returned .nilIface ∧ Kept w w' ∧ Has w' (bmS b n (fun k => k == i || S k) :: l) := by
  have HA := Lib.hid (bm_all1 h (.head _) q c i hq hi)
  obtain ⟨v, ws, hw, h1⟩ := h.bm_open
  obtain ⟨x, hx, hxlt, hSx⟩ := hw.get i hi
  have hk : i / 64 < ws.length := (List.getElem?_eq_some_iff.1 hx).1
  have hql : q < w.heap.size := World.block_lt_of_cell? _ _ hq
  have P : ∀ m w1, w1 = (w.alloc (.cells #[.pointer (some ⟨b, 0, none⟩)] 178 (0, 0))).drewN m → Kept w w1 ∧ w1.cell? ⟨q, 0, none⟩ = some (.int .i64 (i : Int)) ∧
      Has w1 (pts b (.cells #[.int .i64 (n : Int), v] 250 (0, 0)) :: rowS 247 1 v ws.length (ws.map wordOf) :: l) := by
    rintro m w1 rfl
    refine ⟨((Kept.refl w).alloc _).drewN m, ?_, (h1.alloc_off _).drewN m⟩
    show (w.alloc (.cells #[.pointer (some ⟨b, 0, none⟩)] 178 (0, 0))).cell? ⟨q, 0, none⟩ = _
    rw [World.cell?_alloc_lt _ _ _ hql]; exact hq
  have HP := Lib.hid P
  clear P h1 h
  have big := hw.big
  have few := hw.few
  have Hw := Lib.hid hw
  have Hx := Lib.hid hx
  clear hw hx hSx
  go_enter Tryz.func142, Tryz.ntmps142
  go_wp2_with (go_at_call 195; refine HA.out.mono ?_; rintro e w' ⟨rfl, m, rfl⟩)
  obtain ⟨w1, hw1⟩ : ∃ w1, w1 = (w.alloc (.cells #[.pointer (some ⟨b, 0, none⟩)] 178 (0, 0))).drewN m := ⟨_, rfl⟩
  rw [← hw1]
  obtain ⟨hK, hq1, h2⟩ := HP.out m w1 hw1
  clear hw1
  obtain ⟨_, a, c', rfl, hc, _, hr⟩ := h2.row_read (v := v) (e := 247) (n := ws.length) (xs := ws.map wordOf) (by simp)
  obtain ⟨g, rfl, hg, hf⟩ := hr (i / 64) (wordOf x) (by simp [Hx.out])
  have hb := h2.got
  have c0 := cell_of hb 0 rfl
  have c1 := cell_of hb 1 rfl
  have H2 := Lib.hid h2
  have HK := Lib.hid hK
  clear hb hr h2 hK
  unfold wordOf at hg
  refine wp_loop_rounds 2 ?_
  rw [rounds_succ]
  go_wp2
  go_region
  go_wp2
  rw [rounds_succ]
  go_wp2
  go_ret
  refine ⟨rfl, (HK.out.setCell _ _).drew, ?_⟩
  have h3 := (H2.out.swap.row_set (i / 64) (wordOf (x ||| 2 ^ (i % 64)))).swap.drew
  rw [← map_set_word] at h3
  rw [or_word x i Hw.out (i / 64) rfl Hx.out]
  refine Has.bm_shut (v := .slice (some ⟨g, 0, none⟩) ws.length c') (Hw.out.set i hi x Hx.out) ?_
  rw [List.length_set]
  exact h3

theorem bm_Clear1 {w : World} {l : List Say} {b n : Nat} {S : Nat → Bool} (h : Has w (bmS b n S :: l)) (q c i : Nat) (hq : w.cell? ⟨q, 0, none⟩ = some (.int .i64 (i : Int))) (hi : i < n) :
    Calls Tryz.prog 144 #[.pointer (some ⟨b, 0, none⟩), .slice (some ⟨q, 0, none⟩) 1 c] w fun e w' =>
      e = .returned .nilIface ∧ Kept w w' ∧ Has w' (bmS b n (fun k => !(k == i) && S k) :: l) := by
  have HA := Lib.hid (bm_all1 h (.head _) q c i hq hi)
  obtain ⟨v, ws, hw, h1⟩ := h.bm_open
  obtain ⟨x, hx, hxlt, hSx⟩ := hw.get i hi
  have hk : i / 64 < ws.length := (List.getElem?_eq_some_iff.1 hx).1
  have hql : q < w.heap.size := World.block_lt_of_cell? _ _ hq
  have P : ∀ m w1, w1 = (w.alloc (.cells #[.pointer (some ⟨b, 0, none⟩)] 178 (0, 0))).drewN m → Kept w w1 ∧ w1.cell? ⟨q, 0, none⟩ = some (.int .i64 (i : Int)) ∧
      Has w1 (pts b (.cells #[.int .i64 (n : Int), v] 250 (0, 0)) :: rowS 247 1 v ws.length (ws.map wordOf) :: l) := by
    rintro m w1 rfl
    refine ⟨((Kept.refl w).alloc _).drewN m, ?_, (h1.alloc_off _).drewN m⟩
    show (w.alloc (.cells #[.pointer (some ⟨b, 0, none⟩)] 178 (0, 0))).cell? ⟨q, 0, none⟩ = _
    rw [World.cell?_alloc_lt _ _ _ hql]; exact hq
  have HP := Lib.hid P
  clear P h1 h
  have big := hw.big
  have few := hw.few
  have Hw := Lib.hid hw
  have Hx := Lib.hid hx
  clear hw hx hSx
  go_enter Tryz.func144, Tryz.ntmps144
  go_wp2_with (go_at_call 195; refine HA.out.mono ?_; rintro e w' ⟨rfl, m, rfl⟩)
  obtain ⟨w1, hw1⟩ : ∃ w1, w1 = (w.alloc (.cells #[.pointer (some ⟨b, 0, none⟩)] 178 (0, 0))).drewN m := ⟨_, rfl⟩
  rw [← hw1]
  obtain ⟨hK, hq1, h2⟩ := HP.out m w1 hw1
  clear hw1
  obtain ⟨_, a, c', rfl, hc, _, hr⟩ := h2.row_read (v := v) (e := 247) (n := ws.length) (xs := ws.map wordOf) (by simp)
  obtain ⟨g, rfl, hg, hf⟩ := hr (i / 64) (wordOf x) (by simp [Hx.out])
  have hb := h2.got
  have c0 := cell_of hb 0 rfl
  have c1 := cell_of hb 1 rfl
  have H2 := Lib.hid h2
  have HK := Lib.hid hK
  clear hb hr h2 hK
  unfold wordOf at hg
  refine wp_loop_rounds 2 ?_
  rw [rounds_succ]
  go_wp2
  go_region
  go_wp2
  rw [rounds_succ]
  go_wp2
  go_ret
  refine ⟨rfl, (HK.out.setCell _ _).drew, ?_⟩
  have h3 := (H2.out.swap.row_set (i / 64) (wordOf (x &&& (18446744073709551615 - 2 ^ (i % 64))))).swap.drew
  rw [← map_set_word] at h3
  rw [andNot_word x i Hw.out (i / 64) rfl Hx.out]
  refine Has.bm_shut (v := .slice (some ⟨g, 0, none⟩) ws.length c') (Hw.out.clear i hi x Hx.out) ?_
  rw [List.length_set]
  exact h3
end Go.Proofs.YtgbgneiciabidaaGreatDoor
/-
  Bitmaps (layer 7), the fourth part: Grow, New.
-/
namespace Go.Proofs.YtgbgneiciabidaaGreatDoor
open Go Go.RowKit
set_option linter.unusedVariables false
set_option linter.unusedSimpArgs false

theorem info_u64 : (Tryz.prog.info? 247).map (fun i => (i.zero, i.size, i.bytes)) = some (some (.int .u64 0), 1, 8) := by kernel_rfl

theorem Words.more {n : Nat} {ws : List Nat} {S : Nat → Bool} (h : Words n ws S) (hlt : ws.length < 64) : Words n (ws ++ [0]) S := by
  refine ⟨by have := h.len; simp; omega, by simp; omega, h.big, fun x hx => ?_, fun i => ?_, h.off⟩
  · rcases List.mem_append.1 hx with hx | hx
    · exact h.lt x hx
    · simp at hx; omega
  · rw [h.bit, List.getD_eq_getElem?_getD, List.getD_eq_getElem?_getD]
    by_cases hi : i / 64 < ws.length
    · rw [List.getElem?_append_left hi]
    · rw [List.getElem?_append_right (by omega), List.getElem?_eq_none (by omega)]
      by_cases h0 : i / 64 - ws.length = 0
      · rw [h0]; rfl
      · rw [List.getElem?_eq_none (by simp; omega)]

def GrowRel (b n n2 : Nat) (S : Nat → Bool) (l : List Say) (w : World) (k : Nat) (wr : World) : Prop :=
  ∃ v ws, Words n ws S ∧ 64 - ws.length = k ∧ Kept w wr ∧ Has wr (pts b (.cells #[.int .i64 (n2 : Int), v] 250 (0, 0)) :: rowS 247 1 v ws.length (ws.map wordOf) :: l)

set_option maxRecDepth 100000 in
theorem bm_Grow {w : World} {l : List Say} {b n : Nat} {S : Nat → Bool} (h : Has w (bmS b n S :: l)) (more : Nat) (hm : n + more ≤ 4096) :
    Calls Tryz.prog 179 #[.pointer (some ⟨b, 0, none⟩), .int .i64 (more : Int)] w fun e w' =>
      e = .returned .nilIface ∧ Kept w w' ∧ Has w' (bmS b (n + more) S :: l) := by
  obtain ⟨v, ws, hw, h1⟩ := h.bm_open
  obtain ⟨n2, hn2⟩ : ∃ n2, n2 = n + more := ⟨_, rfl⟩
  have hb := h1.got
  have c0 : w.cell? ⟨b, 0, none⟩ = some (.int .i64 (n : Int)) := cell_of hb 0 rfl
  have f0 := thaw_of hb 0
  have h2 := h1.setCell 0 (.int .i64 ((n2 : Nat) : Int))
  have hsum : IntKind.i64.wrap ((n : Int) + (more : Int)) = (n2 : Int) := by rw [hn2]; rw [IntWalk.i64_in _ (by omega)]; omega
  have hn4 : n2 ≤ 4096 := by omega
  have hd : decide ((4096 : Int) - n < more) = false := by simp; omega
  have hd2 : decide ((more : Int) > (4096 : Int) - n) = false := by simp; omega
  have Hw := Lib.hid hw
  have Hn2 := Lib.hid hn2
  have H2 := Lib.hid h2
  clear h h1 hb hw hn2 h2
  obtain ⟨i0, hi, hz0, hz1, hz2⟩ := info_parts info_u64
  go_enter Tryz.func179, Tryz.ntmps179
  go_wp2
  generalize hW : w.setCell ⟨b, 0, none⟩ (.int .i64 ((n2 : Nat) : Int)) = W at *
  have HK : Hid (Kept w W) := by rw [← hW]; exact (Kept.refl w).setCell _ _
  clear hW
  go_loopg [] (64 - ws.length) (fun k wr => GrowRel b n n2 S l w k wr)
  case atStart => exact ⟨v, ws, Hw.out, rfl, HK.out, H2.out⟩
  case round =>
    clear H2 Hw HK c0 f0
    obtain ⟨v1, ws1, hw1, hk1, hK1, hh⟩ := hrel
    obtain ⟨_, a, c, rfl, hc, _, hr⟩ := hh.row_read (v := v1) (e := 247) (n := ws1.length) (xs := ws1.map wordOf) (by simp)
    have hb := hh.got
    have c0 : wr.cell? ⟨b, 0, none⟩ = some (.int .i64 (n2 : Int)) := cell_of hb 0 rfl
    have c1 : wr.cell? ⟨b, 1, none⟩ = some (.slice a ws1.length c) := cell_of hb 1 rfl
    have few := hw1.few
    have Hw1 := Lib.hid hw1
    have HK1 := Lib.hid hK1
    have HH := Lib.hid hh
    have Hk1 := Lib.hid hk1
    have hwr : IntKind.i64.wrap ((ws1.length : Int) * 64) = (ws1.length : Int) * 64 := IntWalk.i64_in _ (by omega)
    clear hr hb hw1 hK1 hh hk1
    by_cases hlt : (ws1.length : Int) * 64 < n2
    · go_wp2_with fail
      go_quiet (fail)
      go_wp2_with (at_builtin; go_loud (refine wpList_append_row (l := pts b (.cells #[.int .i64 (n2 : Int), .slice a ws1.length c] 250 (0, 0)) :: l) rfl (.tmp 40) (.tmp 41) 248 rfl 247 i0 (.int .u64 0) 1 8 Tryz.underlying248 hi hz0 hz1 hz2 rfl (by decide) _ ws1.length (ws1.map wordOf) rfl ?hown ⟨_, 0, none⟩ 1 1 [.int .u64 0] rfl rfl ?hnews ?hone ?h63 ?hby ?next))
      case hown => exact ((HH.out.swap).drewN nq).alloc_off _
      case hnews => exact one_new (wr.drewN nq) _ _
      case hone => intro u hu; simp at hu; subst hu; rfl
      case h63 => simp [maxLen]; omega
      case hby => omega
      case next =>
        intro v2 w2 hK2 h2
        obtain ⟨_, a2, cc2, rfl, _, _, _⟩ := h2.row_read (v := v2) (e := 247) (n := ws1.length + 1) (xs := ws1.map wordOf ++ [.int .u64 0]) (by simp)
        have h3 := h2.swap
        have hb := h3.got
        have c1 : w2.cell? ⟨b, 1, none⟩ = some (.slice a ws1.length c) := cell_of hb 1 rfl
        have f1 := thaw_of hb 1
        have H4 := Lib.hid (h3.setCell 1 (.slice a2 (ws1.length + 1) cc2))
        have HK2 := Lib.hid hK2
        clear hb h2 h3 hK2
        go_wp2
        go_roundg (63 - ws1.length)
        case measure => have := Hk1.out; omega
        case rel =>
          refine ⟨.slice a2 (ws1.length + 1) cc2, ws1 ++ [0], Hw1.out.more (by omega), by simp, ?_, ?_⟩
          · exact ((((HK1.out.drewN nq).alloc _).trans HK2.out).setCell _ _)
          · simpa [wordOf] using H4.out
    · go_wp2_with fail
      go_quiet (fail)
      go_wp2
      go_ret
      refine ⟨rfl, HK1.out.drewN nq, ?_⟩
      rw [← Hn2.out]
      have hw1 := Hw1.out
      exact Has.bm_shut ⟨by omega, hw1.few, hn4, hw1.lt, hw1.bit, fun i hi => hw1.off i (by have := Hn2.out; omega)⟩ (HH.out.drewN nq)

theorem words_none : Words 0 [] (fun _ => false) := ⟨by simp, by simp, by omega, by simp, fun i => by simp, fun _ _ => rfl⟩

theorem bm_New {w : World} {l : List Say} (h : Has w l) (n : Nat) (hn : n ≤ 4096) :
    Calls Tryz.prog 178 #[.int .i64 (n : Int)] w fun e w' =>
      e = .returned (.tuple #[.pointer (some ⟨w.heap.size, 0, none⟩), .nilIface]) ∧ Kept w w' ∧ Has w' (bmS w.heap.size n (fun _ => false) :: l) := by
  have h1 : Has (w.alloc (.cells #[.int .i64 0, .slice none 0 0] 250 (0, 0))) (bmS w.heap.size 0 (fun _ => false) :: l) := by
    refine Has.bm_shut (v := .slice none 0 0) (ws := []) words_none ?_
    exact ((h.alloc _).row_nil 247 1).swap
  have HG := Lib.hid (bm_Grow h1 n (by omega))
  clear h1 h
  go_enter Tryz.func178, Tryz.ntmps178
  go_wp2_with fail
  refine HG.out.mono ?_
  rintro e w1 ⟨rfl, hK, h2⟩
  have HK := Lib.hid hK
  have H2 := Lib.hid h2
  clear hK h2
  go_wp2
  go_ret2
  exact ⟨rfl, ((Kept.refl w).alloc _).trans HK.out, by simpa using H2.out⟩
end Go.Proofs.YtgbgneiciabidaaGreatDoor
