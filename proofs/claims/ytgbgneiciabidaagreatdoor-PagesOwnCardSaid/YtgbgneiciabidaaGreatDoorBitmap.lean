/-
  Bitmaps (layer 7): what each call does to a bitmap in memory, said of the set of numbers that it stands for.
-/
import Derived.Test.YtgbgneiciabidaaGreatDoorBm
import Derived.Test.YtgbgneiciabidaaGreatDoorFn
namespace Go.Proofs.YtgbgneiciabidaaGreatDoor
open Go Go.RowKit
set_option linter.unusedVariables false
set_option linter.unusedSimpArgs false

/-- The words that stand for the set S of numbers below n. -/
structure Words (n : Nat) (ws : List Nat) (S : Nat → Bool) : Prop where
  len : n ≤ 64 * ws.length
  few : ws.length ≤ 64
  big : n ≤ 4096
  lt : ∀ x ∈ ws, x < 18446744073709551616
  bit : ∀ i, S i = (ws.getD (i / 64) 0).testBit (i % 64)
  off : ∀ i, n ≤ i → S i = false
def wordOf (x : Nat) : Value := .int .u64 (x : Int)
/-- A bitmap at block b: it stands for the set S of numbers below n. -/
def bmS (b n : Nat) (S : Nat → Bool) : Say := ex fun x : Value × List Nat => fact (Words n x.2 S) (all [pts b (.cells #[.int .i64 (n : Int), x.1] 250 (0, 0)), rowS 247 1 x.1 x.2.length (x.2.map wordOf)])

theorem Has.bm_open {w : World} {l : List Say} {b n : Nat} {S : Nat → Bool} (h : Has w (bmS b n S :: l)) :
    ∃ v ws, Words n ws S ∧ Has w (pts b (.cells #[.int .i64 (n : Int), v] 250 (0, 0)) :: rowS 247 1 v ws.length (ws.map wordOf) :: l) := by
  obtain ⟨⟨v, ws⟩, h⟩ := h.opened
  obtain ⟨hw, h⟩ := h.unfact
  exact ⟨v, ws, hw, h.split⟩
theorem Has.bm_shut {w : World} {l : List Say} {b n : Nat} {S : Nat → Bool} {v : Value} {ws : List Nat} (hw : Words n ws S)
    (h : Has w (pts b (.cells #[.int .i64 (n : Int), v] 250 (0, 0)) :: rowS 247 1 v ws.length (ws.map wordOf) :: l)) : Has w (bmS b n S :: l) :=
  Has.chosen (v, ws) (Has.tofact hw (Has.unite (m := [_, _]) h))

theorem Words.get {n : Nat} {ws : List Nat} {S : Nat → Bool} (h : Words n ws S) (i : Nat) (hi : i < n) : ∃ x, ws[i / 64]? = some x ∧ x < 18446744073709551616 ∧ S i = x.testBit (i % 64) := by
  have hlt : i / 64 < ws.length := by have := h.len; omega
  refine ⟨ws[i / 64], List.getElem?_eq_getElem hlt, h.lt _ (List.getElem_mem hlt), ?_⟩
  rw [h.bit, List.getD_eq_getElem?_getD, List.getElem?_eq_getElem hlt]; rfl

/-- What whoever reads a bitmap finds. -/
theorem Has.bm_read {w : World} {l : List Say} {b n : Nat} {S : Nat → Bool} (h : Has w l) (hm : bmS b n S ∈ l) :
    ∃ ws a c, Words n ws S ∧ ws.length ≤ c ∧ w.cell? ⟨b, 0, none⟩ = some (.int .i64 (n : Int)) ∧ w.cell? ⟨b, 1, none⟩ = some (.slice a ws.length c) ∧
      ∀ (k x : Nat), ws[k]? = some x → ∃ g, a = some ⟨g, 0, none⟩ ∧ w.cell? ⟨g, k, none⟩ = some (.int .u64 (x : Int)) := by
  obtain ⟨v, ws, hw, h1⟩ := (h.only hm).bm_open
  obtain ⟨_, a, c, rfl, hc, _, hr⟩ := h1.row_read (v := v) (e := 247) (n := ws.length) (xs := ws.map wordOf) (by simp)
  have hb := h1.got
  refine ⟨ws, a, c, hw, hc, cell_of hb 0 rfl, cell_of hb 1 rfl, fun k x hx => ?_⟩
  obtain ⟨g, ha, hg, _⟩ := hr k (wordOf x) (by simp [hx])
  exact ⟨g, ha, hg⟩

theorem bm_in_yes (b : Nat) (n i : Int) (w : World) (h0 : w.cell? ⟨b, 0, none⟩ = some (.int .i64 n)) (g0 : 0 ≤ i) (g1 : i < n) :
    Calls Tryz.prog 160 #[.pointer (some ⟨b, 0, none⟩), .int .i64 i] w fun e w' => e = .returned (.bool true) ∧ w = w' := by
  go_enter Tryz.func160, Tryz.ntmps160
  go_wp2
  go_ret
  exact ⟨rfl, rfl⟩
theorem bm_in_no (b : Nat) (n i : Int) (w : World) (h0 : w.cell? ⟨b, 0, none⟩ = some (.int .i64 n)) (g : i < 0 ∨ n ≤ i) :
    Calls Tryz.prog 160 #[.pointer (some ⟨b, 0, none⟩), .int .i64 i] w fun e w' => e = .returned (.bool false) ∧ w = w' := by
  by_cases g1 : i < 0
  · go_enter Tryz.func160, Tryz.ntmps160
    go_wp2
    go_ret
    exact ⟨rfl, rfl⟩
  · have g2 : decide (i < n) = false := by simp; omega
    have g3 : 0 ≤ i := by omega
    clear g g1
    go_enter Tryz.func160, Tryz.ntmps160
    go_wp2
    go_ret
    exact ⟨by rw [← g2]; rfl, rfl⟩
theorem bm_Len {w : World} {l : List Say} {b n : Nat} {S : Nat → Bool} (h : Has w l) (hm : bmS b n S ∈ l) :
    Calls Tryz.prog 180 #[.pointer (some ⟨b, 0, none⟩)] w fun e w' => e = .returned (.int .i64 (n : Int)) ∧ w = w' := by
  obtain ⟨ws, a, c, hw, hc, h0, h1, hx⟩ := h.bm_read hm
  clear hx
  go_enter Tryz.func180, Tryz.ntmps180
  go_wp2
  go_ret
  exact ⟨rfl, rfl⟩

theorem has_bit (x m : Nat) (hx : x < 18446744073709551616) : (bits BinOp.and IntKind.u64 ((x : Int) / 2 ^ m) 1 == 1) = x.testBit m := by
  have e1 : (x : Int) / 2 ^ m = ((x / 2 ^ m : Nat) : Int) := by simp
  have hlt : x / 2 ^ m < 18446744073709551616 := Nat.lt_of_le_of_lt (Nat.div_le_self _ _) hx
  have := bits_and_u64_nat (x / 2 ^ m) 1 hlt (by decide)
  rw [e1, show (1 : Int) = ((1 : Nat) : Int) from rfl, this, nat_mask1]
  rw [Nat.testBit_eq_decide_div_mod_eq]
  rw [Bool.eq_iff_iff]
  simp only [beq_iff_eq, decide_eq_true_eq]
  omega

/-- Has: is a number below n in the set? -/
theorem bm_Has {w : World} {l : List Say} {b n : Nat} {S : Nat → Bool} (h : Has w l) (hm : bmS b n S ∈ l) (i : Nat) :
    Calls Tryz.prog 97 #[.pointer (some ⟨b, 0, none⟩), .int .i64 (i : Int)] w fun e w' => e = .returned (.bool (S i)) ∧ w = w' := by
  obtain ⟨ws, a, c, hw, hc, h0, h1, hx⟩ := h.bm_read hm
  by_cases hi : i < n
  · obtain ⟨x, hxi, hlt, hS⟩ := hw.get i hi
    obtain ⟨g, rfl, hg⟩ := hx _ _ hxi
    have hk : i / 64 < ws.length := (List.getElem?_eq_some_iff.1 hxi).1
    have hb := hw.big
    have hres := Lib.hid (has_bit x (i % 64) hlt)
    have HS := Lib.hid hS
    clear hx hxi hS hw h hm
    go_enter Tryz.func97, Tryz.ntmps97
    go_wp2_with (go_at_call 160; refine (bm_in_yes _ _ _ _ h0 (by omega) (by omega)).mono ?_; rintro e w' ⟨rfl, rfl⟩)
    go_ret
    exact ⟨by rw [HS.out, ← hres.out]; rfl, rfl⟩
  · have hS := Lib.hid (hw.off i (by omega))
    clear hx hw h hm
    go_enter Tryz.func97, Tryz.ntmps97
    go_wp2_with (go_at_call 160; refine (bm_in_no _ _ _ _ h0 (by omega)).mono ?_; rintro e w' ⟨rfl, rfl⟩)
    go_ret
    exact ⟨by rw [hS.out]; rfl, rfl⟩

/-! The table of math/bits. -/
/-- Wherever l holds, the table can be read. -/
def Tab (l : List Say) : Prop := ∀ w, Has w l → ∀ j, j < 64 → w.cell? ⟨0, j, none⟩ = some (.int .u8 (Lib.deBruijn64tab.getD j 0 : Nat))
theorem Tab.cons {A : Say} {l : List Say} (h : Tab l) : Tab (A :: l) := fun w hw => h w hw.tail
theorem Tab.app {l : List Say} (h : Tab l) : ∀ (m : List Say), Tab (m ++ l)
  | [] => h
  | A :: m => (Tab.app h m).cons
theorem Tab.of_old {W : World} {l : List Say} (hc : ∀ j, j < 64 → W.cell? ⟨0, j, none⟩ = some (.int .u8 (Lib.deBruijn64tab.getD j 0 : Nat))) (hm : old W ∈ l) : Tab l := fun w hw j hj => hw.old_cell hm (hc j hj)
theorem tz64_core (x k idx : Nat) (w : World) (hx0 : ((x : Int) == 0) = false)
    (key : IntKind.u64.wrap (bits BinOp.and IntKind.u64 (x : Int) (IntKind.u64.wrap (-(x : Int))) * 285870213051353865) / 288230376151711744 = (idx : Int))
    (hi : idx < 64) (hk : k < 64) (hcell : w.cell? ⟨0, idx, none⟩ = some (.int .u8 k)) :
    Calls Tryz.prog 215 #[.int .u64 x] w fun e w' => e = .returned (.int .i64 k) ∧ w = w' := by
  go_enter Tryz.func215, Tryz.ntmps215
  go_wp2_with (simp only [key])
  go_ret
  exact ⟨rfl, rfl⟩
theorem tz64_key (x a : Nat) (hx : x < 18446744073709551616) (hx0 : x ≠ 0) (hlow : x &&& (18446744073709551616 - x) = a) :
    IntKind.u64.wrap (bits BinOp.and IntKind.u64 (x : Int) (IntKind.u64.wrap (-(x : Int))) * 285870213051353865) / 288230376151711744 = ((a * 285870213051353865 % 18446744073709551616 / 288230376151711744 : Nat) : Int) := by
  have e1 : IntKind.u64.wrap (-(x : Int)) = ((18446744073709551616 - x : Nat) : Int) := by rw [IntKind.wrap_u64]; omega
  rw [e1, bits_and_u64_nat x _ hx (by omega), hlow, IntKind.wrap_u64]
  omega
theorem TrailingZeros64 {w : World} {l : List Say} (h : Has w l) (hm : Tab l) (x : Nat) (hx : x < 18446744073709551616) (hx0 : x ≠ 0) :
    Calls Tryz.prog 215 #[.int .u64 x] w fun e w' => e = .returned (.int .i64 (Lib.ctz 64 x : Nat)) ∧ w = w' := by
  obtain ⟨hlow, hk⟩ := Lib.lowest_bit 64 x hx0 hx
  obtain ⟨hi, htab⟩ := Lib.deBruijn64_at _ hk
  have hcell := hm w h _ hi
  rw [htab] at hcell
  exact tz64_core x _ _ w (by simp; omega) (tz64_key x _ hx hx0 hlow) hi hk hcell

/-- The lowest bit of a word. -/
theorem ctz_bit (x : Nat) (hx : x < 18446744073709551616) (hx0 : x ≠ 0) : x.testBit (Lib.ctz 64 x) = true ∧ ∀ j, j < Lib.ctz 64 x → x.testBit j = false := by
  obtain ⟨m, hm, hk⟩ := Lib.ctzFrom_spec 64 x (by omega) hx
  have e : Lib.ctz 64 x = Lib.ctzFrom 64 x := by simp [Lib.ctz, hx0]
  rw [e]
  generalize Lib.ctzFrom 64 x = k at *
  subst hm
  constructor
  · rw [Nat.mul_comm, Nat.testBit_mul_two_pow]; simp
  · intro j hj
    rw [Nat.mul_comm, Nat.testBit_mul_two_pow]
    have : ¬ k ≤ j := by omega
    simp [this]
end Go.Proofs.YtgbgneiciabidaaGreatDoor
