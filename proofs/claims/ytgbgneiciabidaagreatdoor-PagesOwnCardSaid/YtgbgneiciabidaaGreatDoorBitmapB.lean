/-
  Bitmaps (layer 7), the second part: find, Free, Next, Count.
-/
import Derived.Test.YtgbgneiciabidaaGreatDoorBitmap
namespace Go.Proofs.YtgbgneiciabidaaGreatDoor
open Go Go.RowKit
set_option linter.unusedVariables false
set_option linter.unusedSimpArgs false

/-- What a search over the words xor a mask looks for. -/
def maskT (ws : List Nat) (M i : Nat) : Bool := ((ws.getD (i / 64) 0) ^^^ M).testBit (i % 64)

theorem mask_zero (x M m : Nat) (hx : (x ^^^ M) / 2 ^ m = 0) (j : Nat) (hj : m ≤ j) : (x ^^^ M).testBit j = false := by
  obtain ⟨d, rfl⟩ : ∃ d, j = m + d := ⟨j - m, by omega⟩
  have := Nat.testBit_div_two_pow (n := m) (x ^^^ M) d
  rw [hx] at this
  rw [Nat.add_comm m d, ← this]; simp

theorem int_eq {k : IntKind} {a b : Int} (h : a = b) : Value.int k a = Value.int k b := by rw [h]
theorem mask_bit (x M m y : Nat) (hy : (x ^^^ M) / 2 ^ m = y) (d : Nat) : (x ^^^ M).testBit (m + d) = y.testBit d := by
  have := Nat.testBit_div_two_pow (n := m) (x ^^^ M) d
  rw [Nat.add_comm m d, ← this, hy]

theorem found_in (ws : List Nat) (M k x y z : Nat) (hgd : ws.getD (k / 64) 0 = x) (hy : (x ^^^ M) / 2 ^ (k % 64) = y) (h64 : x ^^^ M < 18446744073709551616)
    (hb : y.testBit z = true) (hl : ∀ j, j < z → y.testBit j = false) : maskT ws M (k + z) = true ∧ ∀ j, k ≤ j → j < k + z → maskT ws M j = false := by
  have hz : k % 64 + z < 64 := by
    apply Nat.lt_of_not_le
    intro hge
    have h1 : (x ^^^ M).testBit (k % 64 + z) = false := Nat.testBit_lt_two_pow (Nat.lt_of_lt_of_le (show x ^^^ M < 2 ^ 64 by omega) (Nat.pow_le_pow_right (by omega) hge))
    rw [mask_bit x M _ y hy, hb] at h1
    cases h1
  constructor
  · unfold maskT
    rw [show (k + z) / 64 = k / 64 by omega, show (k + z) % 64 = k % 64 + z by omega, hgd, mask_bit x M _ y hy, hb]
  · intro j h1 h2
    unfold maskT
    obtain ⟨d, rfl⟩ : ∃ d, j = k + d := ⟨j - k, by omega⟩
    rw [show (k + d) / 64 = k / 64 by omega, show (k + d) % 64 = k % 64 + d by omega, hgd, mask_bit x M _ y hy]
    exact hl d (by omega)

/-- The search's answer. -/
def Found (n from_ : Nat) (T : Nat → Bool) (k : Nat) (ok : Bool) : Prop :=
  if ok then from_ ≤ k ∧ k < n ∧ T k = true ∧ ∀ j, from_ ≤ j → j < k → T j = false else k = 0 ∧ ∀ j, from_ ≤ j → j < n → T j = false

def FindPost (n from_ M : Nat) (S : Nat → Bool) (w : World) (e : Ending) (w' : World) : Prop :=
  ∃ ws k ok, Words n ws S ∧ Found n from_ (maskT ws M) k ok ∧ e = .returned (.tuple #[.int .i64 (k : Int), .bool ok]) ∧ w = w'
def SeekPost (n from_ : Nat) (T : Nat → Bool) (w : World) (e : Ending) (w' : World) : Prop :=
  ∃ k ok, Found n from_ T k ok ∧ e = .returned (.tuple #[.int .i64 (k : Int), .bool ok]) ∧ w = w'

theorem shr_val (x M m : Nat) : ((x ^^^ M : Nat) : Int) / 2 ^ m = (((x ^^^ M) / 2 ^ m : Nat) : Int) := by simp

set_option maxHeartbeats 1000000 in
set_option maxRecDepth 100000 in
theorem bm_find {w : World} {l : List Say} {b n : Nat} {S : Nat → Bool} (h : Has w l) (hm : bmS b n S ∈ l) (ht : Tab l) (from_ M : Nat) (hf : from_ ≤ 4096) (hM : M < 18446744073709551616) :
    Calls Tryz.prog 184 #[.pointer (some ⟨b, 0, none⟩), .int .i64 (from_ : Int), .int .u64 (M : Int)] w (FindPost n from_ M S w) := by
  obtain ⟨ws, a, c, hw, hc, h0, h1, hx⟩ := h.bm_read hm
  have hb := hw.big
  have hmax : max (from_ : Int) 0 = from_ := by omega
  have Hx := Lib.hid hx; clear hx
  have Hw := Lib.hid hw; clear hw
  have HH := Lib.hid h; clear h
  have Ht := Lib.hid ht; clear ht hm
  go_enter Tryz.func184, Tryz.ntmps184
  go_wp2
  go_loop [8, 9] (fun i _ => ∃ k : Nat, from_ ≤ k ∧ k ≤ 4160 ∧ i = .int .i64 k ∧ Hid (∀ j, from_ ≤ j → j < k → j < n → maskT ws M j = false)) (fun i _ => 5000 - (intOf i).toNat)
  case atStart =>
    refine ⟨from_, Nat.le_refl _, by omega, ?_, fun j h1 h2 => absurd h1 (by omega)⟩
    rfl
  case round =>
    obtain ⟨k, hk1, hk2, rfl, Hk⟩ := hrel
    by_cases hlt : (k : Int) < n
    · obtain ⟨x, hxi, hxlt, _⟩ := Hw.out.get k (by omega)
      obtain ⟨g, rfl, hg⟩ := Hx.out _ _ hxi
      have hkl : k / 64 < ws.length := (List.getElem?_eq_some_iff.1 hxi).1
      have hxor := bits_xor_u64_nat x M hxlt hM
      have hgd : ws.getD (k / 64) 0 = x := by rw [List.getD_eq_getElem?_getD, hxi]; rfl
      have Hgd := Lib.hid hgd; clear hgd hxi
      have hy64 : x ^^^ M < 18446744073709551616 := by
        have := Nat.xor_lt_two_pow (x := x) (y := M) (n := 64) (by omega) (by omega)
        omega
      have hshr := shr_val x M (k % 64)
      generalize hy : (x ^^^ M) / 2 ^ (k % 64) = y at hshr
      have hylt : y < 18446744073709551616 := by rw [← hy]; exact Nat.lt_of_le_of_lt (Nat.div_le_self _ _) hy64
      by_cases hy0 : y = 0
      · subst hy0
        have Hy := Lib.hid hy; clear hy hy64
        go_wp2
        refine ⟨⟨k + (64 - k % 64), by omega, by omega, int_eq (by omega), fun j j1 j2 j3 => ?_⟩, by simp [intOf]; omega⟩
        by_cases hj : j < k
        · exact Hk.out j j1 hj j3
        · have e1 : j / 64 = k / 64 := by omega
          have e2 : k % 64 ≤ j % 64 := by omega
          unfold maskT
          rw [e1, Hgd.out]
          exact mask_zero x M (k % 64) Hy.out _ e2
      · have hyb : ((y : Int) == 0) = false := by simp; exact hy0
        obtain ⟨hc1, hc2⟩ := ctz_bit y hylt hy0
        have hc3 : Lib.ctz 64 y < 64 := (Lib.lowest_bit 64 y hy0 hylt).2
        obtain ⟨hf1, hf2⟩ := found_in ws M k x y _ Hgd.out hy hy64 hc1 hc2
        have HT := Lib.hid (TrailingZeros64 HH.out Ht.out y hylt hy0)
        have Hy := Lib.hid hy; clear hy hy64 hc1 hc2 hy0
        generalize Lib.ctz 64 y = z at *
        have Hf1 := Lib.hid hf1; clear hf1
        have Hf2 := Lib.hid hf2; clear hf2
        by_cases hz : ((k + z : Nat) : Int) < n
        · go_wp2_with (go_at_call 215; refine HT.out.mono ?_; rintro e w' ⟨rfl, rfl⟩)
          go_ret2
          refine ⟨ws, k + z, true, Hw.out, ?_, rfl, rfl⟩
          unfold Found
          exact ⟨by omega, by omega, Hf1.out, fun j j1 j2 => (Nat.lt_or_ge j k).elim (fun h => Hk.out j j1 h (by omega)) (fun h => Hf2.out j h j2)⟩
        · go_wp2_with (go_at_call 215; refine HT.out.mono ?_; rintro e w' ⟨rfl, rfl⟩)
          go_ret2
          refine ⟨ws, 0, false, Hw.out, ?_, rfl, rfl⟩
          unfold Found
          exact ⟨rfl, fun j j1 j2 => (Nat.lt_or_ge j k).elim (fun h => Hk.out j j1 h (by omega)) (fun h => Hf2.out j h (by omega))⟩
    · go_wp2
      go_ret2
      exact ⟨ws, 0, false, Hw.out, by unfold Found; exact ⟨rfl, fun j j1 j2 => Hk.out j j1 (by omega) j2⟩, rfl, rfl⟩

theorem Words.maskT_zero {n : Nat} {ws : List Nat} {S : Nat → Bool} (h : Words n ws S) (i : Nat) : maskT ws 0 i = S i := by
  rw [h.bit]; unfold maskT; rw [Nat.xor_zero]
theorem Words.maskT_full {n : Nat} {ws : List Nat} {S : Nat → Bool} (h : Words n ws S) (i : Nat) : maskT ws 18446744073709551615 i = !S i := by
  rw [h.bit]; unfold maskT
  rw [Nat.testBit_xor, show (18446744073709551615 : Nat) = 2 ^ 64 - 1 from rfl, Nat.testBit_two_pow_sub_one]
  have : i % 64 < 64 := Nat.mod_lt _ (by decide)
  simp [this]
theorem Found.congr {n f : Nat} {T T' : Nat → Bool} (hT : ∀ i, T i = T' i) {k : Nat} {ok : Bool} (h : Found n f T k ok) : Found n f T' k ok := by
  have : T = T' := funext hT
  rw [← this]; exact h

theorem bm_Next {w : World} {l : List Say} {b n : Nat} {S : Nat → Bool} (h : Has w l) (hm : bmS b n S ∈ l) (ht : Tab l) (from_ : Nat) (hf : from_ ≤ 4096) :
    Calls Tryz.prog 127 #[.pointer (some ⟨b, 0, none⟩), .int .i64 (from_ : Int)] w (SeekPost n from_ S w) := by
  have H := Lib.hid (bm_find h hm ht from_ 0 hf (by decide))
  clear h hm ht
  go_enter Tryz.func127, Tryz.ntmps127
  go_wp2_with fail
  refine H.out.mono ?_
  rintro e w' ⟨ws, k, ok, hw, hfound, rfl, rfl⟩
  have Hf := Lib.hid (hfound.congr hw.maskT_zero)
  clear hfound hw
  go_wp2
  go_ret2
  exact ⟨k, ok, Hf.out, rfl, rfl⟩
theorem bm_Free {w : World} {l : List Say} {b n : Nat} {S : Nat → Bool} (h : Has w l) (hm : bmS b n S ∈ l) (ht : Tab l) (from_ : Nat) (hf : from_ ≤ 4096) :
    Calls Tryz.prog 141 #[.pointer (some ⟨b, 0, none⟩), .int .i64 (from_ : Int)] w (SeekPost n from_ (fun i => !S i) w) := by
  have H := Lib.hid (bm_find h hm ht from_ 18446744073709551615 hf (by decide))
  clear h hm ht
  go_enter Tryz.func141, Tryz.ntmps141
  go_wp2_with fail
  refine H.out.mono ?_
  rintro e w' ⟨ws, k, ok, hw, hfound, rfl, rfl⟩
  have Hf := Lib.hid (hfound.congr hw.maskT_full)
  clear hfound hw
  go_wp2
  go_ret2
  exact ⟨k, ok, Hf.out, rfl, rfl⟩
end Go.Proofs.YtgbgneiciabidaaGreatDoor
