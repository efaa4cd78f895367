/-
  Plain: how many bits of a word are set, as bits.OnesCount64 counts them.
-/
import Derived.WalkKit
import Derived.Laws.Bits64b
import Derived.Laws.BitsAllLaws
namespace Go.Proofs.YtgbgneiciabidaaGreatDoor
open Go
set_option linter.unusedVariables false
set_option linter.unusedSimpArgs false

/-- How many of the first n bits are set. -/
def pop : Nat → Nat → Nat
  | 0, _ => 0
  | n + 1, x => x % 2 + pop n (x / 2)

theorem pop_zero : ∀ n, pop n 0 = 0
  | 0 => rfl
  | n + 1 => by simp [pop, pop_zero n]
theorem pop_le : ∀ n x, pop n x ≤ n
  | 0, _ => Nat.le_refl _
  | n + 1, x => by have := pop_le n (x / 2); simp only [pop]; omega

theorem and_lane (b c q M : Nat) (hb : b < 256) (hc : c < 256) : (b + 256 * q) &&& (c + 256 * M) = (b &&& c) + 256 * (q &&& M) := by
  have hlt : b &&& c < 2 ^ 8 := Nat.and_lt_two_pow _ (by omega)
  have h1 : ((b + 256 * q) &&& (c + 256 * M)) % 2 ^ 8 = b &&& c := by
    rw [Nat.and_mod_two_pow, show (b + 256 * q) % 2 ^ 8 = b by omega, show (c + 256 * M) % 2 ^ 8 = c by omega]
  have h2 : ((b + 256 * q) &&& (c + 256 * M)) >>> 8 = q &&& M := by
    rw [Nat.shiftRight_and_distrib, Nat.shiftRight_eq_div_pow, Nat.shiftRight_eq_div_pow, show (b + 256 * q) / 2 ^ 8 = q by omega, show (c + 256 * M) / 2 ^ 8 = M by omega]
  rw [Nat.shiftRight_eq_div_pow] at h2
  omega

theorem fin2 : ∀ b : Fin 256, ∀ r : Fin 2, (b.val / 2 + 128 * r.val) &&& 85 = (b.val / 2) &&& 85 := by decide +kernel
theorem fin4 : ∀ b : Fin 256, ∀ r : Fin 4, (b.val / 4 + 64 * r.val) &&& 51 = (b.val / 4) &&& 51 := by decide +kernel

/-- The three steps at one byte. -/
def s1 (b : Nat) : Nat := (b / 2 &&& 85) + (b &&& 85)
def s2 (b : Nat) : Nat := (b / 4 &&& 51) + (b &&& 51)
def s3 (b : Nat) : Nat := (b / 16 + b) &&& 15
theorem s_pop : ∀ b : Fin 256, s1 b.val < 256 ∧ s2 (s1 b.val) < 256 ∧ s2 (s1 b.val) % 16 ≤ 4 ∧ s2 (s1 b.val) / 16 ≤ 4 ∧ s3 (s2 (s1 b.val)) = pop 8 b.val := by decide +kernel

theorem step1 (b q M : Nat) (hb : b < 256) : ((b + 256 * q) / 2 &&& (85 + 256 * M)) + ((b + 256 * q) &&& (85 + 256 * M)) = s1 b + 256 * ((q / 2 &&& M) + (q &&& M)) := by
  have e : (b + 256 * q) / 2 = (b / 2 + 128 * (q % 2)) + 256 * (q / 2) := by omega
  rw [e, and_lane _ _ _ _ (by omega) (by omega), and_lane _ _ _ _ hb (by omega), fin2 ⟨b, hb⟩ ⟨q % 2, by omega⟩]
  simp only [s1]
  omega
theorem step2 (b q M : Nat) (hb : b < 256) : ((b + 256 * q) / 4 &&& (51 + 256 * M)) + ((b + 256 * q) &&& (51 + 256 * M)) = s2 b + 256 * ((q / 4 &&& M) + (q &&& M)) := by
  have e : (b + 256 * q) / 4 = (b / 4 + 64 * (q % 4)) + 256 * (q / 4) := by omega
  rw [e, and_lane _ _ _ _ (by omega) (by omega), and_lane _ _ _ _ hb (by omega), fin4 ⟨b, hb⟩ ⟨q % 4, by omega⟩]
  simp only [s2]
  omega
theorem and15 (x : Nat) : x &&& 15 = x % 16 := Nat.and_two_pow_sub_one_eq_mod x 4
theorem step3 (b q M : Nat) (h1 : b % 16 ≤ 4) (h2 : b / 16 ≤ 4) (h3 : q % 16 ≤ 4) : ((b + 256 * q) / 16 + (b + 256 * q)) &&& (15 + 256 * M) = s3 b + 256 * ((q / 16 + q) &&& M) := by
  have e : (b + 256 * q) / 16 + (b + 256 * q) = (b / 16 + b + 16 * (q % 16)) + 256 * (q / 16 + q) := by omega
  rw [e, and_lane _ _ _ _ (by omega) (by omega), and15]
  simp only [s3, and15]
  omega

/-- The word out of its bytes. -/
def join : List Nat → Nat
  | [] => 0
  | b :: l => b + 256 * join l
def mask (c : Nat) : Nat → Nat
  | 0 => 0
  | n + 1 => c + 256 * mask c n

theorem join1 : ∀ l : List Nat, (∀ b ∈ l, b < 256) → (join l / 2 &&& mask 85 l.length) + (join l &&& mask 85 l.length) = join (l.map s1)
  | [], _ => rfl
  | b :: l, h => by
    simp only [join, List.length_cons, mask, List.map_cons]
    rw [step1 b _ _ (h b (by simp)), join1 l fun x hx => h x (by simp [hx])]
theorem join2 : ∀ l : List Nat, (∀ b ∈ l, b < 256) → (join l / 4 &&& mask 51 l.length) + (join l &&& mask 51 l.length) = join (l.map s2)
  | [], _ => rfl
  | b :: l, h => by
    simp only [join, List.length_cons, mask, List.map_cons]
    rw [step2 b _ _ (h b (by simp)), join2 l fun x hx => h x (by simp [hx])]
theorem join_low : ∀ l : List Nat, (∀ b ∈ l, b % 16 ≤ 4) → join l % 16 ≤ 4
  | [], _ => by simp [join]
  | b :: l, h => by have := h b (by simp); simp only [join]; omega
theorem join3 : ∀ l : List Nat, (∀ b ∈ l, b % 16 ≤ 4 ∧ b / 16 ≤ 4) → (join l / 16 + join l) &&& mask 15 l.length = join (l.map s3)
  | [], _ => rfl
  | b :: l, h => by
    simp only [join, List.length_cons, mask, List.map_cons]
    rw [step3 b _ _ (h b (by simp)).1 (h b (by simp)).2 (join_low l fun x hx => (h x (by simp [hx])).1), join3 l fun x hx => h x (by simp [hx])]

/-- What bits.OnesCount64 reckons, in natural numbers. -/
def swar (x : Nat) : Nat :=
  let a1 := (x / 2 &&& 6148914691236517205) + (x &&& 6148914691236517205)
  let a2 := (a1 / 4 &&& 3689348814741910323) + (a1 &&& 3689348814741910323)
  let a3 := (a2 / 16 + a2) &&& 1085102592571150095
  let a4 := a3 + a3 / 256
  let a5 := a4 + a4 / 65536
  let a6 := a5 + a5 / 4294967296
  a6 % 128

theorem pop_split : ∀ (m n x : Nat), pop (m + n) x = pop m x + pop n (x / 2 ^ m)
  | 0, n, x => by simp [pop]
  | m + 1, n, x => by
    rw [show m + 1 + n = (m + n) + 1 by omega, pop, pop, pop_split m n (x / 2), Nat.div_div_eq_div_mul, Nat.pow_succ, Nat.mul_comm (2 ^ m) 2]
    omega
theorem pop_mod : ∀ (m x : Nat), pop m (x % 2 ^ m) = pop m x
  | 0, x => by simp [pop]
  | m + 1, x => by
    have e1 : x % 2 ^ (m + 1) % 2 = x % 2 := by rw [Nat.pow_succ, Nat.mul_comm]; exact Nat.mod_mul_right_mod x 2 (2 ^ m)
    have e2 : x % 2 ^ (m + 1) / 2 = (x / 2) % 2 ^ m := by
      rw [Nat.pow_succ, Nat.mul_comm, Nat.mod_mul, Nat.add_mul_div_left _ _ (by omega)]
      omega
    rw [pop, pop, e1, e2, pop_mod m]

theorem div_at (r q m : Nat) (hm : 0 < m) (h : r < m) : (r + m * q) / m = q := by
  rw [Nat.add_mul_div_left _ _ hm, Nat.div_eq_of_lt h, Nat.zero_add]
theorem fold8 (c0 c1 c2 c3 c4 c5 c6 c7 : Nat) (l0 : c0 ≤ 8) (l1 : c1 ≤ 8) (l2 : c2 ≤ 8) (l3 : c3 ≤ 8) (l4 : c4 ≤ 8) (l5 : c5 ≤ 8) (l6 : c6 ≤ 8) (l7 : c7 ≤ 8) :
    (join [c0, c1, c2, c3, c4, c5, c6, c7] + join [c0, c1, c2, c3, c4, c5, c6, c7] / 256 + (join [c0, c1, c2, c3, c4, c5, c6, c7] + join [c0, c1, c2, c3, c4, c5, c6, c7] / 256) / 65536 +
      (join [c0, c1, c2, c3, c4, c5, c6, c7] + join [c0, c1, c2, c3, c4, c5, c6, c7] / 256 + (join [c0, c1, c2, c3, c4, c5, c6, c7] + join [c0, c1, c2, c3, c4, c5, c6, c7] / 256) / 65536) / 4294967296) % 128 =
    c0 + (c1 + (c2 + (c3 + (c4 + (c5 + (c6 + c7)))))) := by
  have q1 : join [c0, c1, c2, c3, c4, c5, c6, c7] / 256 = join [c1, c2, c3, c4, c5, c6, c7] := div_at c0 _ 256 (by decide) (by omega)
  have r4 : join [c0, c1, c2, c3, c4, c5, c6, c7] + join [c1, c2, c3, c4, c5, c6, c7] = join [c0 + c1, c1 + c2, c2 + c3, c3 + c4, c4 + c5, c5 + c6, c6 + c7, c7] := by simp only [join]; omega
  rw [q1, r4]
  have q2 : join [c0 + c1, c1 + c2, c2 + c3, c3 + c4, c4 + c5, c5 + c6, c6 + c7, c7] / 65536 = join [c2 + c3, c3 + c4, c4 + c5, c5 + c6, c6 + c7, c7] := by
    have e : join [c0 + c1, c1 + c2, c2 + c3, c3 + c4, c4 + c5, c5 + c6, c6 + c7, c7] = ((c0 + c1) + 256 * (c1 + c2)) + 65536 * join [c2 + c3, c3 + c4, c4 + c5, c5 + c6, c6 + c7, c7] := by
      show (c0 + c1) + 256 * ((c1 + c2) + 256 * join [c2 + c3, c3 + c4, c4 + c5, c5 + c6, c6 + c7, c7]) = _
      omega
    rw [e]; exact div_at _ _ 65536 (by decide) (by omega)
  have r5 : join [c0 + c1, c1 + c2, c2 + c3, c3 + c4, c4 + c5, c5 + c6, c6 + c7, c7] + join [c2 + c3, c3 + c4, c4 + c5, c5 + c6, c6 + c7, c7] =
      join [c0 + c1 + (c2 + c3), c1 + c2 + (c3 + c4), c2 + c3 + (c4 + c5), c3 + c4 + (c5 + c6), c4 + c5 + (c6 + c7), c5 + c6 + c7, c6 + c7, c7] := by simp only [join]; omega
  rw [q2, r5]
  have q3 : join [c0 + c1 + (c2 + c3), c1 + c2 + (c3 + c4), c2 + c3 + (c4 + c5), c3 + c4 + (c5 + c6), c4 + c5 + (c6 + c7), c5 + c6 + c7, c6 + c7, c7] / 4294967296 = join [c4 + c5 + (c6 + c7), c5 + c6 + c7, c6 + c7, c7] := by
    have e : join [c0 + c1 + (c2 + c3), c1 + c2 + (c3 + c4), c2 + c3 + (c4 + c5), c3 + c4 + (c5 + c6), c4 + c5 + (c6 + c7), c5 + c6 + c7, c6 + c7, c7] =
        ((c0 + c1 + (c2 + c3)) + 256 * (c1 + c2 + (c3 + c4)) + 65536 * (c2 + c3 + (c4 + c5)) + 16777216 * (c3 + c4 + (c5 + c6))) + 4294967296 * join [c4 + c5 + (c6 + c7), c5 + c6 + c7, c6 + c7, c7] := by
      show (c0 + c1 + (c2 + c3)) + 256 * ((c1 + c2 + (c3 + c4)) + 256 * ((c2 + c3 + (c4 + c5)) + 256 * ((c3 + c4 + (c5 + c6)) + 256 * join [c4 + c5 + (c6 + c7), c5 + c6 + c7, c6 + c7, c7]))) = _
      omega
    rw [e]; exact div_at _ _ 4294967296 (by decide) (by omega)
  rw [q3]
  have e6 : join [c0 + c1 + (c2 + c3), c1 + c2 + (c3 + c4), c2 + c3 + (c4 + c5), c3 + c4 + (c5 + c6), c4 + c5 + (c6 + c7), c5 + c6 + c7, c6 + c7, c7] + join [c4 + c5 + (c6 + c7), c5 + c6 + c7, c6 + c7, c7] =
      (c0 + (c1 + (c2 + (c3 + (c4 + (c5 + (c6 + c7))))))) + 128 * (2 * (join [c1 + c2 + (c3 + c4), c2 + c3 + (c4 + c5), c3 + c4 + (c5 + c6), c4 + c5 + (c6 + c7), c5 + c6 + c7, c6 + c7, c7] + join [c5 + c6 + c7, c6 + c7, c7])) := by
    show (c0 + c1 + (c2 + c3)) + 256 * join [c1 + c2 + (c3 + c4), c2 + c3 + (c4 + c5), c3 + c4 + (c5 + c6), c4 + c5 + (c6 + c7), c5 + c6 + c7, c6 + c7, c7] + ((c4 + c5 + (c6 + c7)) + 256 * join [c5 + c6 + c7, c6 + c7, c7]) = _
    omega
  rw [e6, Nat.add_mul_mod_self_left, Nat.mod_eq_of_lt (by omega)]

set_option maxHeartbeats 1000000 in
theorem swar_eq (x : Nat) (hx : x < 18446744073709551616) : swar x = pop 64 x := by
  obtain ⟨b0, b1, b2, b3, b4, b5, b6, b7, h0, h1, h2, h3, h4, h5, h6, h7, rfl⟩ : ∃ b0 b1 b2 b3 b4 b5 b6 b7 : Nat, b0 < 256 ∧ b1 < 256 ∧ b2 < 256 ∧ b3 < 256 ∧ b4 < 256 ∧ b5 < 256 ∧ b6 < 256 ∧ b7 < 256 ∧ x = join [b0, b1, b2, b3, b4, b5, b6, b7] := by
    have d : ∀ y : Nat, y = y % 256 + 256 * (y / 256) := fun y => by omega
    have z : x / 256 / 256 / 256 / 256 / 256 / 256 / 256 / 256 = 0 := by simp only [Nat.div_div_eq_div_mul, Nat.reduceMul]; exact Nat.div_eq_of_lt hx
    refine ⟨x % 256, x / 256 % 256, x / 256 / 256 % 256, x / 256 / 256 / 256 % 256, x / 256 / 256 / 256 / 256 % 256, x / 256 / 256 / 256 / 256 / 256 % 256, x / 256 / 256 / 256 / 256 / 256 / 256 % 256,
      x / 256 / 256 / 256 / 256 / 256 / 256 / 256 % 256, Nat.mod_lt _ (by decide), Nat.mod_lt _ (by decide), Nat.mod_lt _ (by decide), Nat.mod_lt _ (by decide), Nat.mod_lt _ (by decide), Nat.mod_lt _ (by decide), Nat.mod_lt _ (by decide), Nat.mod_lt _ (by decide), ?_⟩
    simp only [join]
    have e7 := d (x / 256 / 256 / 256 / 256 / 256 / 256 / 256)
    rw [z] at e7
    rw [← e7, ← d, ← d, ← d, ← d, ← d, ← d, ← d]
  have hall : ∀ b ∈ [b0, b1, b2, b3, b4, b5, b6, b7], b < 256 := by simp [h0, h1, h2, h3, h4, h5, h6, h7]
  have k1 := join1 [b0, b1, b2, b3, b4, b5, b6, b7] hall
  have k2 := join2 ([b0, b1, b2, b3, b4, b5, b6, b7].map s1) fun b hb => by
    obtain ⟨a, ha, rfl⟩ := List.mem_map.1 hb
    exact (s_pop ⟨a, hall a ha⟩).1
  have k3 := join3 (([b0, b1, b2, b3, b4, b5, b6, b7].map s1).map s2) fun b hb => by
    obtain ⟨a, ha, rfl⟩ := List.mem_map.1 hb
    obtain ⟨c, hc, rfl⟩ := List.mem_map.1 ha
    exact ⟨(s_pop ⟨c, hall c hc⟩).2.2.1, (s_pop ⟨c, hall c hc⟩).2.2.2.1⟩
  have m1 : mask 85 8 = 6148914691236517205 := by decide
  have m2 : mask 51 8 = 3689348814741910323 := by decide
  have m3 : mask 15 8 = 1085102592571150095 := by decide
  simp only [List.length_cons, List.length_nil, List.length_map, Nat.reduceAdd, m1, m2, m3] at k1 k2 k3
  simp only [swar]
  rw [k1, k2, k3]
  simp only [List.map_cons, List.map_nil]
  have e0 := (s_pop ⟨b0, h0⟩).2.2.2.2
  have e1 := (s_pop ⟨b1, h1⟩).2.2.2.2
  have e2 := (s_pop ⟨b2, h2⟩).2.2.2.2
  have e3 := (s_pop ⟨b3, h3⟩).2.2.2.2
  have e4 := (s_pop ⟨b4, h4⟩).2.2.2.2
  have e5 := (s_pop ⟨b5, h5⟩).2.2.2.2
  have e6 := (s_pop ⟨b6, h6⟩).2.2.2.2
  have e7 := (s_pop ⟨b7, h7⟩).2.2.2.2
  simp only at e0 e1 e2 e3 e4 e5 e6 e7
  rw [e0, e1, e2, e3, e4, e5, e6, e7]
  have p8 : ∀ (b q n : Nat), b < 256 → pop (8 + n) (b + 256 * q) = pop 8 b + pop n q := by
    intro b q n hb
    rw [pop_split, ← pop_mod 8 (b + 256 * q), show (b + 256 * q) % 2 ^ 8 = b by omega, show (b + 256 * q) / 2 ^ 8 = q by omega]
  have hp : pop 64 (join [b0, b1, b2, b3, b4, b5, b6, b7]) = pop 8 b0 + (pop 8 b1 + (pop 8 b2 + (pop 8 b3 + (pop 8 b4 + (pop 8 b5 + (pop 8 b6 + pop 8 b7)))))) := by
    simp only [join]
    rw [show (64 : Nat) = 8 + (8 + (8 + (8 + (8 + (8 + (8 + (8 + 0))))))) from rfl, p8 _ _ _ h0, p8 _ _ _ h1, p8 _ _ _ h2, p8 _ _ _ h3, p8 _ _ _ h4, p8 _ _ _ h5, p8 _ _ _ h6, p8 _ _ _ h7]
    simp [pop]
  rw [hp]
  have l0 := pop_le 8 b0
  have l1 := pop_le 8 b1
  have l2 := pop_le 8 b2
  have l3 := pop_le 8 b3
  have l4 := pop_le 8 b4
  have l5 := pop_le 8 b5
  have l6 := pop_le 8 b6
  have l7 := pop_le 8 b7
  generalize pop 8 b0 = c0 at *
  generalize pop 8 b1 = c1 at *
  generalize pop 8 b2 = c2 at *
  generalize pop 8 b3 = c3 at *
  generalize pop 8 b4 = c4 at *
  generalize pop 8 b5 = c5 at *
  generalize pop 8 b6 = c6 at *
  generalize pop 8 b7 = c7 at *
  exact fold8 c0 c1 c2 c3 c4 c5 c6 c7 l0 l1 l2 l3 l4 l5 l6 l7
end Go.Proofs.YtgbgneiciabidaaGreatDoor
