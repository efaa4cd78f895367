/-
  Bitmaps (layer 7): what each call does to a bitmap in memory, said of the set of numbers that it stands for.
-/
import Derived.Test.YtgbgneiciabidaaGreatDoorGo7
import Derived.Test.YtgbgneiciabidaaGreatDoorGo2
namespace Go.Proofs.YtgbgneiciabidaaGreatDoor
open Go Go.RowKit
set_option linter.unusedVariables false
set_option linter.unusedSimpArgs false

/-- The words that stand for the set S of numbers below n. -/
structure Words (n : Nat) (ws : List Nat) (S : Nat → Bool) : Prop where
  len : n ≤ 64 * ws.length
  few : ws.length ≤ 64
  big : n ≤ 4096
  lt : ∀ x ∈ ws, x < 18446744073709551616
  bit : ∀ i, S i = (ws.getD (i / 64) 0).testBit (i % 64)
  off : ∀ i, n ≤ i → S i = false
def wordOf (x : Nat) : Value := .int .u64 (x : Int)
/-- A bitmap at block b: it stands for the set S of numbers below n. -/
def bmS (b n : Nat) (S : Nat → Bool) : Say := ex fun x : Value × List Nat => fact (Words n x.2 S) (all [pts b (.cells #[.int .i64 (n : Int), x.1] 250 (0, 0)), rowS 247 1 x.1 x.2.length (x.2.map wordOf)])

theorem Has.bm_open {w : World} {l : List Say} {b n : Nat} {S : Nat → Bool} (h : Has w (bmS b n S :: l)) :
    ∃ v ws, Words n ws S ∧ Has w (pts b (.cells #[.int .i64 (n : Int), v] 250 (0, 0)) :: rowS 247 1 v ws.length (ws.map wordOf) :: l) := by
  obtain ⟨⟨v, ws⟩, h⟩ := h.opened
  obtain ⟨hw, h⟩ := h.unfact
  exact ⟨v, ws, hw, h.split⟩
theorem Has.bm_shut {w : World} {l : List Say} {b n : Nat} {S : Nat → Bool} {v : Value} {ws : List Nat} (hw : Words n ws S)
    (h : Has w (pts b (.cells #[.int .i64 (n : Int), v] 250 (0, 0)) :: rowS 247 1 v ws.length (ws.map wordOf) :: l)) : Has w (bmS b n S :: l) :=
  Has.chosen (v, ws) (Has.tofact hw (Has.unite (m := [_, _]) h))

theorem Words.get {n : Nat} {ws : List Nat} {S : Nat → Bool} (h : Words n ws S) (i : Nat) (hi : i < n) : ∃ x, ws[i / 64]? = some x ∧ x < 18446744073709551616 ∧ S i = x.testBit (i % 64) := by
  have hlt : i / 64 < ws.length := by have := h.len; omega
  refine ⟨ws[i / 64], List.getElem?_eq_getElem hlt, h.lt _ (List.getElem_mem hlt), ?_⟩
  rw [h.bit, List.getD_eq_getElem?_getD, List.getElem?_eq_getElem hlt]; rfl

/-- What whoever reads a bitmap finds. -/
theorem Has.bm_read {w : World} {l : List Say} {b n : Nat} {S : Nat → Bool} (h : Has w l) (hm : bmS b n S ∈ l) :
    ∃ ws a c, Words n ws S ∧ ws.length ≤ c ∧ w.cell? ⟨b, 0, none⟩ = some (.int .i64 (n : Int)) ∧ w.cell? ⟨b, 1, none⟩ = some (.slice a ws.length c) ∧
      ∀ (k x : Nat), ws[k]? = some x → ∃ g, a = some ⟨g, 0, none⟩ ∧ w.cell? ⟨g, k, none⟩ = some (.int .u64 (x : Int)) := by
  obtain ⟨v, ws, hw, h1⟩ := (h.only hm).bm_open
  obtain ⟨_, a, c, rfl, hc, _, hr⟩ := h1.row_read (v := v) (e := 247) (n := ws.length) (xs := ws.map wordOf) (by simp)
  have hb := h1.got
  refine ⟨ws, a, c, hw, hc, cell_of hb 0 rfl, cell_of hb 1 rfl, fun k x hx => ?_⟩
  obtain ⟨g, ha, hg, _⟩ := hr k (wordOf x) (by simp [hx])
  exact ⟨g, ha, hg⟩

theorem bm_in_yes (b : Nat) (n i : Int) (w : World) (h0 : w.cell? ⟨b, 0, none⟩ = some (.int .i64 n)) (g0 : 0 ≤ i) (g1 : i < n) :
    Calls Tryz.prog 160 #[.pointer (some ⟨b, 0, none⟩), .int .i64 i] w fun e w' => e = .returned (.bool true) ∧ w = w' := by
  go_enter Tryz.func160, Tryz.ntmps160
  go_wp2
  go_ret
  exact ⟨rfl, rfl⟩
theorem bm_in_no (b : Nat) (n i : Int) (w : World) (h0 : w.cell? ⟨b, 0, none⟩ = some (.int .i64 n)) (g : i < 0 ∨ n ≤ i) :
    Calls Tryz.prog 160 #[.pointer (some ⟨b, 0, none⟩), .int .i64 i] w fun e w' => e = .returned (.bool false) ∧ w = w' := by
  by_cases g1 : i < 0
  · go_enter Tryz.func160, Tryz.ntmps160
    go_wp2
    go_ret
    exact ⟨rfl, rfl⟩
  · have g2 : decide (i < n) = false := by simp; omega
    have g3 : 0 ≤ i := by omega
    clear g g1
    go_enter Tryz.func160, Tryz.ntmps160
    go_wp2
    go_ret
    exact ⟨by rw [← g2]; rfl, rfl⟩
theorem bm_Len {w : World} {l : List Say} {b n : Nat} {S : Nat → Bool} (h : Has w l) (hm : bmS b n S ∈ l) :
    Calls Tryz.prog 180 #[.pointer (some ⟨b, 0, none⟩)] w fun e w' => e = .returned (.int .i64 (n : Int)) ∧ w = w' := by
  obtain ⟨ws, a, c, hw, hc, h0, h1, hx⟩ := h.bm_read hm
  clear hx
  go_enter Tryz.func180, Tryz.ntmps180
  go_wp2
  go_ret
  exact ⟨rfl, rfl⟩

theorem has_bit (x m : Nat) (hx : x < 18446744073709551616) : (bits BinOp.and IntKind.u64 ((x : Int) / 2 ^ m) 1 == 1) = x.testBit m := by
  have e1 : (x : Int) / 2 ^ m = ((x / 2 ^ m : Nat) : Int) := by simp
  have hlt : x / 2 ^ m < 18446744073709551616 := Nat.lt_of_le_of_lt (Nat.div_le_self _ _) hx
  have := bits_and_u64_nat (x / 2 ^ m) 1 hlt (by decide)
  rw [e1, show (1 : Int) = ((1 : Nat) : Int) from rfl, this, nat_mask1]
  rw [Nat.testBit_eq_decide_div_mod_eq]
  rw [Bool.eq_iff_iff]
  simp only [beq_iff_eq, decide_eq_true_eq]
  omega

/-- Has: is a number below n in the set? -/
theorem bm_Has {w : World} {l : List Say} {b n : Nat} {S : Nat → Bool} (h : Has w l) (hm : bmS b n S ∈ l) (i : Nat) :
    Calls Tryz.prog 97 #[.pointer (some ⟨b, 0, none⟩), .int .i64 (i : Int)] w fun e w' => e = .returned (.bool (S i)) ∧ w = w' := by
  obtain ⟨ws, a, c, hw, hc, h0, h1, hx⟩ := h.bm_read hm
  by_cases hi : i < n
  · obtain ⟨x, hxi, hlt, hS⟩ := hw.get i hi
    obtain ⟨g, rfl, hg⟩ := hx _ _ hxi
    have hk : i / 64 < ws.length := (List.getElem?_eq_some_iff.1 hxi).1
    have hb := hw.big
    have hres := Lib.hid (has_bit x (i % 64) hlt)
    have HS := Lib.hid hS
    clear hx hxi hS hw h hm
    go_enter Tryz.func97, Tryz.ntmps97
    go_wp2_with (go_at_call 160; refine (bm_in_yes _ _ _ _ h0 (by omega) (by omega)).mono ?_; rintro e w' ⟨rfl, rfl⟩)
    go_ret
    exact ⟨by rw [HS.out, ← hres.out]; rfl, rfl⟩
  · have hS := Lib.hid (hw.off i (by omega))
    clear hx hw h hm
    go_enter Tryz.func97, Tryz.ntmps97
    go_wp2_with (go_at_call 160; refine (bm_in_no _ _ _ _ h0 (by omega)).mono ?_; rintro e w' ⟨rfl, rfl⟩)
    go_ret
    exact ⟨by rw [hS.out]; rfl, rfl⟩

/-! The table of math/bits. -/
/-- Wherever l holds, the table can be read. -/
def Tab (l : List Say) : Prop := ∀ w, Has w l → ∀ j, j < 64 → w.cell? ⟨0, j, none⟩ = some (.int .u8 (Lib.deBruijn64tab.getD j 0 : Nat))
theorem Tab.cons {A : Say} {l : List Say} (h : Tab l) : Tab (A :: l) := fun w hw => h w hw.tail
theorem Tab.app {l : List Say} (h : Tab l) : ∀ (m : List Say), Tab (m ++ l)
  | [] => h
  | A :: m => (Tab.app h m).cons
theorem Tab.of_old {W : World} {l : List Say} (hc : ∀ j, j < 64 → W.cell? ⟨0, j, none⟩ = some (.int .u8 (Lib.deBruijn64tab.getD j 0 : Nat))) (hm : old W ∈ l) : Tab l := fun w hw j hj => hw.old_cell hm (hc j hj)
theorem tz64_core (x k idx : Nat) (w : World) (hx0 : ((x : Int) == 0) = false)
    (key : IntKind.u64.wrap (bits BinOp.and IntKind.u64 (x : Int) (IntKind.u64.wrap (-(x : Int))) * 285870213051353865) / 288230376151711744 = (idx : Int))
    (hi : idx < 64) (hk : k < 64) (hcell : w.cell? ⟨0, idx, none⟩ = some (.int .u8 k)) :
    Calls Tryz.prog 215 #[.int .u64 x] w fun e w' => e = .returned (.int .i64 k) ∧ w = w' := by
  go_enter Tryz.func215, Tryz.ntmps215
  go_wp2_with (simp only [key])
  go_ret
  exact ⟨rfl, rfl⟩
theorem tz64_key (x a : Nat) (hx : x < 18446744073709551616) (hx0 : x ≠ 0) (hlow : x &&& (18446744073709551616 - x) = a) :
    IntKind.u64.wrap (bits BinOp.and IntKind.u64 (x : Int) (IntKind.u64.wrap (-(x : Int))) * 285870213051353865) / 288230376151711744 = ((a * 285870213051353865 % 18446744073709551616 / 288230376151711744 : Nat) : Int) := by
  have e1 : IntKind.u64.wrap (-(x : Int)) = ((18446744073709551616 - x : Nat) : Int) := by rw [IntKind.wrap_u64]; omega
  rw [e1, bits_and_u64_nat x _ hx (by omega), hlow, IntKind.wrap_u64]
  omega
theorem TrailingZeros64 {w : World} {l : List Say} (h : Has w l) (hm : Tab l) (x : Nat) (hx : x < 18446744073709551616) (hx0 : x ≠ 0) :
    Calls Tryz.prog 215 #[.int .u64 x] w fun e w' => e = .returned (.int .i64 (Lib.ctz 64 x : Nat)) ∧ w = w' := by
  obtain ⟨hlow, hk⟩ := Lib.lowest_bit 64 x hx0 hx
  obtain ⟨hi, htab⟩ := Lib.deBruijn64_at _ hk
  have hcell := hm w h _ hi
  rw [htab] at hcell
  exact tz64_core x _ _ w (by simp; omega) (tz64_key x _ hx hx0 hlow) hi hk hcell

/-- The lowest bit of a word. -/
theorem ctz_bit (x : Nat) (hx : x < 18446744073709551616) (hx0 : x ≠ 0) : x.testBit (Lib.ctz 64 x) = true ∧ ∀ j, j < Lib.ctz 64 x → x.testBit j = false := by
  obtain ⟨m, hm, hk⟩ := Lib.ctzFrom_spec 64 x (by omega) hx
  have e : Lib.ctz 64 x = Lib.ctzFrom 64 x := by simp [Lib.ctz, hx0]
  rw [e]
  generalize Lib.ctzFrom 64 x = k at *
  subst hm
  constructor
  · rw [Nat.mul_comm, Nat.testBit_mul_two_pow]; simp
  · intro j hj
    rw [Nat.mul_comm, Nat.testBit_mul_two_pow]
    have : ¬ k ≤ j := by omega
    simp [this]
end Go.Proofs.YtgbgneiciabidaaGreatDoor
/-
  Bitmaps (layer 7), the second part: find, Free, Next, Count.
-/
namespace Go.Proofs.YtgbgneiciabidaaGreatDoor
open Go Go.RowKit
set_option linter.unusedVariables false
set_option linter.unusedSimpArgs false

/-- What a search over the words xor a mask looks for. -/
def maskT (ws : List Nat) (M i : Nat) : Bool := ((ws.getD (i / 64) 0) ^^^ M).testBit (i % 64)

theorem mask_zero (x M m : Nat) (hx : (x ^^^ M) / 2 ^ m = 0) (j : Nat) (hj : m ≤ j) : (x ^^^ M).testBit j = false := by
  obtain ⟨d, rfl⟩ : ∃ d, j = m + d := ⟨j - m, by omega⟩
  have := Nat.testBit_div_two_pow (n := m) (x ^^^ M) d
  rw [hx] at this
  rw [Nat.add_comm m d, ← this]; simp

theorem int_eq {k : IntKind} {a b : Int} (h : a = b) : Value.int k a = Value.int k b := by rw [h]
theorem mask_bit (x M m y : Nat) (hy : (x ^^^ M) / 2 ^ m = y) (d : Nat) : (x ^^^ M).testBit (m + d) = y.testBit d := by
  have := Nat.testBit_div_two_pow (n := m) (x ^^^ M) d
  rw [Nat.add_comm m d, ← this, hy]

theorem found_in (ws : List Nat) (M k x y z : Nat) (hgd : ws.getD (k / 64) 0 = x) (hy : (x ^^^ M) / 2 ^ (k % 64) = y) (h64 : x ^^^ M < 18446744073709551616)
    (hb : y.testBit z = true) (hl : ∀ j, j < z → y.testBit j = false) : maskT ws M (k + z) = true ∧ ∀ j, k ≤ j → j < k + z → maskT ws M j = false := by
  have hz : k % 64 + z < 64 := by
    apply Nat.lt_of_not_le
    intro hge
    have h1 : (x ^^^ M).testBit (k % 64 + z) = false := Nat.testBit_lt_two_pow (Nat.lt_of_lt_of_le (show x ^^^ M < 2 ^ 64 by omega) (Nat.pow_le_pow_right (by omega) hge))
    rw [mask_bit x M _ y hy, hb] at h1
    cases h1
  constructor
  · unfold maskT
    rw [show (k + z) / 64 = k / 64 by omega, show (k + z) % 64 = k % 64 + z by omega, hgd, mask_bit x M _ y hy, hb]
  · intro j h1 h2
    unfold maskT
    obtain ⟨d, rfl⟩ : ∃ d, j = k + d := ⟨j - k, by omega⟩
    rw [show (k + d) / 64 = k / 64 by omega, show (k + d) % 64 = k % 64 + d by omega, hgd, mask_bit x M _ y hy]
    exact hl d (by omega)

/-- The search's answer. -/
def Found (n from_ : Nat) (T : Nat → Bool) (k : Nat) (ok : Bool) : Prop :=
  if ok then from_ ≤ k ∧ k < n ∧ T k = true ∧ ∀ j, from_ ≤ j → j < k → T j = false else k = 0 ∧ ∀ j, from_ ≤ j → j < n → T j = false

def FindPost (n from_ M : Nat) (S : Nat → Bool) (w : World) (e : Ending) (w' : World) : Prop :=
  ∃ ws k ok, Words n ws S ∧ Found n from_ (maskT ws M) k ok ∧ e = .returned (.tuple #[.int .i64 (k : Int), .bool ok]) ∧ w = w'
def SeekPost (n from_ : Nat) (T : Nat → Bool) (w : World) (e : Ending) (w' : World) : Prop :=
  ∃ k ok, Found n from_ T k ok ∧ e = .returned (.tuple #[.int .i64 (k : Int), .bool ok]) ∧ w = w'

theorem shr_val (x M m : Nat) : ((x ^^^ M : Nat) : Int) / 2 ^ m = (((x ^^^ M) / 2 ^ m : Nat) : Int) := by simp

set_option maxHeartbeats 1000000 in
set_option maxRecDepth 100000 in
theorem bm_find {w : World} {l : List Say} {b n : Nat} {S : Nat → Bool} (h : Has w l) (hm : bmS b n S ∈ l) (ht : Tab l) (from_ M : Nat) (hf : from_ ≤ 4096) (hM : M < 18446744073709551616) :
    Calls Tryz.prog 184 #[.pointer (some ⟨b, 0, none⟩), .int .i64 (from_ : Int), .int .u64 (M : Int)] w (FindPost n from_ M S w) := by
  obtain ⟨ws, a, c, hw, hc, h0, h1, hx⟩ := h.bm_read hm
  have hb := hw.big
  have hmax : max (from_ : Int) 0 = from_ := by omega
  have Hx := Lib.hid hx; clear hx
  have Hw := Lib.hid hw; clear hw
  have HH := Lib.hid h; clear h
  have Ht := Lib.hid ht; clear ht hm
  go_enter Tryz.func184, Tryz.ntmps184
  go_wp2
  go_loop [8, 9] (fun i _ => ∃ k : Nat, from_ ≤ k ∧ k ≤ 4160 ∧ i = .int .i64 k ∧ Hid (∀ j, from_ ≤ j → j < k → j < n → maskT ws M j = false)) (fun i _ => 5000 - (intOf i).toNat)
  case atStart =>
    refine ⟨from_, Nat.le_refl _, by omega, ?_, fun j h1 h2 => absurd h1 (by omega)⟩
    rfl
  case round =>
    obtain ⟨k, hk1, hk2, rfl, Hk⟩ := hrel
    by_cases hlt : (k : Int) < n
    · obtain ⟨x, hxi, hxlt, _⟩ := Hw.out.get k (by omega)
      obtain ⟨g, rfl, hg⟩ := Hx.out _ _ hxi
      have hkl : k / 64 < ws.length := (List.getElem?_eq_some_iff.1 hxi).1
      have hxor := bits_xor_u64_nat x M hxlt hM
      have hgd : ws.getD (k / 64) 0 = x := by rw [List.getD_eq_getElem?_getD, hxi]; rfl
      have Hgd := Lib.hid hgd; clear hgd hxi
      have hy64 : x ^^^ M < 18446744073709551616 := by
        have := Nat.xor_lt_two_pow (x := x) (y := M) (n := 64) (by omega) (by omega)
        omega
      have hshr := shr_val x M (k % 64)
      generalize hy : (x ^^^ M) / 2 ^ (k % 64) = y at hshr
      have hylt : y < 18446744073709551616 := by rw [← hy]; exact Nat.lt_of_le_of_lt (Nat.div_le_self _ _) hy64
      by_cases hy0 : y = 0
      · subst hy0
        have Hy := Lib.hid hy; clear hy hy64
        go_wp2
        refine ⟨⟨k + (64 - k % 64), by omega, by omega, int_eq (by omega), fun j j1 j2 j3 => ?_⟩, by simp [intOf]; omega⟩
        by_cases hj : j < k
        · exact Hk.out j j1 hj j3
        · have e1 : j / 64 = k / 64 := by omega
          have e2 : k % 64 ≤ j % 64 := by omega
          unfold maskT
          rw [e1, Hgd.out]
          exact mask_zero x M (k % 64) Hy.out _ e2
      · have hyb : ((y : Int) == 0) = false := by simp; exact hy0
        obtain ⟨hc1, hc2⟩ := ctz_bit y hylt hy0
        have hc3 : Lib.ctz 64 y < 64 := (Lib.lowest_bit 64 y hy0 hylt).2
        obtain ⟨hf1, hf2⟩ := found_in ws M k x y _ Hgd.out hy hy64 hc1 hc2
        have HT := Lib.hid (TrailingZeros64 HH.out Ht.out y hylt hy0)
        have Hy := Lib.hid hy; clear hy hy64 hc1 hc2 hy0
        generalize Lib.ctz 64 y = z at *
        have Hf1 := Lib.hid hf1; clear hf1
        have Hf2 := Lib.hid hf2; clear hf2
        by_cases hz : ((k + z : Nat) : Int) < n
        · go_wp2_with (go_at_call 215; refine HT.out.mono ?_; rintro e w' ⟨rfl, rfl⟩)
          go_ret2
          refine ⟨ws, k + z, true, Hw.out, ?_, rfl, rfl⟩
          unfold Found
          exact ⟨by omega, by omega, Hf1.out, fun j j1 j2 => (Nat.lt_or_ge j k).elim (fun h => Hk.out j j1 h (by omega)) (fun h => Hf2.out j h j2)⟩
        · go_wp2_with (go_at_call 215; refine HT.out.mono ?_; rintro e w' ⟨rfl, rfl⟩)
          go_ret2
          refine ⟨ws, 0, false, Hw.out, ?_, rfl, rfl⟩
          unfold Found
          exact ⟨rfl, fun j j1 j2 => (Nat.lt_or_ge j k).elim (fun h => Hk.out j j1 h (by omega)) (fun h => Hf2.out j h (by omega))⟩
    · go_wp2
      go_ret2
      exact ⟨ws, 0, false, Hw.out, by unfold Found; exact ⟨rfl, fun j j1 j2 => Hk.out j j1 (by omega) j2⟩, rfl, rfl⟩

theorem Words.maskT_full {n : Nat} {ws : List Nat} {S : Nat → Bool} (h : Words n ws S) (i : Nat) : maskT ws 18446744073709551615 i = !S i := by
  rw [h.bit]; unfold maskT
  rw [Nat.testBit_xor, show (18446744073709551615 : Nat) = 2 ^ 64 - 1 from rfl, Nat.testBit_two_pow_sub_one]
  have : i % 64 < 64 := Nat.mod_lt _ (by decide)
  simp [this]
theorem Found.congr {n f : Nat} {T T' : Nat → Bool} (hT : ∀ i, T i = T' i) {k : Nat} {ok : Bool} (h : Found n f T k ok) : Found n f T' k ok := by
  have : T = T' := funext hT
  rw [← this]; exact h

theorem bm_Free {w : World} {l : List Say} {b n : Nat} {S : Nat → Bool} (h : Has w l) (hm : bmS b n S ∈ l) (ht : Tab l) (from_ : Nat) (hf : from_ ≤ 4096) :
    Calls Tryz.prog 141 #[.pointer (some ⟨b, 0, none⟩), .int .i64 (from_ : Int)] w (SeekPost n from_ (fun i => !S i) w) := by
  have H := Lib.hid (bm_find h hm ht from_ 18446744073709551615 hf (by decide))
  clear h hm ht
  go_enter Tryz.func141, Tryz.ntmps141
  go_wp2_with fail
  refine H.out.mono ?_
  rintro e w' ⟨ws, k, ok, hw, hfound, rfl, rfl⟩
  have Hf := Lib.hid (hfound.congr hw.maskT_full)
  clear hfound hw
  go_wp2
  go_ret2
  exact ⟨k, ok, Hf.out, rfl, rfl⟩
end Go.Proofs.YtgbgneiciabidaaGreatDoor
