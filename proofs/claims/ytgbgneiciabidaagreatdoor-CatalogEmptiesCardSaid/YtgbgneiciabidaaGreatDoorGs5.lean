/-
  Plain: how many bits of a word are set, as bits.OnesCount64 counts them.
-/
import Derived.WalkKit
import Derived.Laws.Bits64b
import Derived.Laws.BitsAllLaws
import Derived.Test.YtgbgneiciabidaaGreatDoorProg
import Derived.Test.YtgbgneiciabidaaGreatDoorGs1
import Derived.Outline
import Derived.Lib.Hide
import Derived.Lib.TrailingZeros
import Derived.Laws.Bits128
namespace Go.Proofs.YtgbgneiciabidaaGreatDoor
open Go
set_option linter.all false
set_option maxHeartbeats 8000000
def pop : Nat -> Nat -> Nat
 | 0, _ => 0
 | n + 1, x => x % 2 + pop n (x / 2)
theorem pop_le : ∀ n x, pop n x <= n
 | 0, _ => Nat.le_refl _
 | n + 1, x => by have := pop_le n (x / 2); simp only [pop]; omega
theorem and_lane (b c q M : Nat) (hb : b < 256) (hc : c < 256) : (b + 256 * q) &&& (c + 256 * M) = (b &&& c) + 256 * (q &&& M) := by
 have hlt : b &&& c < 2 ^ 8 := Nat.and_lt_two_pow _ (by omega)
 have h1 : ((b + 256 * q) &&& (c + 256 * M)) % 2 ^ 8 = b &&& c := by
  rw [Nat.and_mod_two_pow, show (b + 256 * q) % 2 ^ 8 = b by omega, show (c + 256 * M) % 2 ^ 8 = c by omega]
 have h2 : ((b + 256 * q) &&& (c + 256 * M)) >>> 8 = q &&& M := by
  rw [Nat.shiftRight_and_distrib, Nat.shiftRight_eq_div_pow, Nat.shiftRight_eq_div_pow, show (b + 256 * q) / 2 ^ 8 = q by omega, show (c + 256 * M) / 2 ^ 8 = M by omega]
 rw [Nat.shiftRight_eq_div_pow] at h2
 omega
theorem fin2 : ∀ b : Fin 256, ∀ r : Fin 2, (b.val / 2 + 128 * r.val) &&& 85 = (b.val / 2) &&& 85 := by decide +kernel
theorem fin4 : ∀ b : Fin 256, ∀ r : Fin 4, (b.val / 4 + 64 * r.val) &&& 51 = (b.val / 4) &&& 51 := by decide +kernel
def s1 (b : Nat) : Nat := (b / 2 &&& 85) + (b &&& 85)
def s2 (b : Nat) : Nat := (b / 4 &&& 51) + (b &&& 51)
def s3 (b : Nat) : Nat := (b / 16 + b) &&& 15
theorem s_pop : ∀ b : Fin 256, s1 b.val < 256 /\ s2 (s1 b.val) < 256 /\ s2 (s1 b.val) % 16 <= 4 /\ s2 (s1 b.val) / 16 <= 4 /\ s3 (s2 (s1 b.val)) = pop 8 b.val := by decide +kernel
theorem step1 (b q M : Nat) (hb : b < 256) : ((b + 256 * q) / 2 &&& (85 + 256 * M)) + ((b + 256 * q) &&& (85 + 256 * M)) = s1 b + 256 * ((q / 2 &&& M) + (q &&& M)) := by
 have e : (b + 256 * q) / 2 = (b / 2 + 128 * (q % 2)) + 256 * (q / 2) := by omega
 rw [e, and_lane _ _ _ _ (by omega) (by omega), and_lane _ _ _ _ hb (by omega), fin2 ⟨b, hb⟩ ⟨q % 2, by omega⟩]
 simp only [s1]
 omega
theorem step2 (b q M : Nat) (hb : b < 256) : ((b + 256 * q) / 4 &&& (51 + 256 * M)) + ((b + 256 * q) &&& (51 + 256 * M)) = s2 b + 256 * ((q / 4 &&& M) + (q &&& M)) := by
 have e : (b + 256 * q) / 4 = (b / 4 + 64 * (q % 4)) + 256 * (q / 4) := by omega
 rw [e, and_lane _ _ _ _ (by omega) (by omega), and_lane _ _ _ _ hb (by omega), fin4 ⟨b, hb⟩ ⟨q % 4, by omega⟩]
 simp only [s2]
 omega
theorem and15 (x : Nat) : x &&& 15 = x % 16 := Nat.and_two_pow_sub_one_eq_mod x 4
theorem step3 (b q M : Nat) (h1 : b % 16 <= 4) (h2 : b / 16 <= 4) (h3 : q % 16 <= 4) : ((b + 256 * q) / 16 + (b + 256 * q)) &&& (15 + 256 * M) = s3 b + 256 * ((q / 16 + q) &&& M) := by
 have e : (b + 256 * q) / 16 + (b + 256 * q) = (b / 16 + b + 16 * (q % 16)) + 256 * (q / 16 + q) := by omega
 rw [e, and_lane _ _ _ _ (by omega) (by omega), and15]
 simp only [s3, and15]
 omega
def join : List Nat -> Nat
 | [] => 0
 | b :: l => b + 256 * join l
def mask (c : Nat) : Nat -> Nat
 | 0 => 0
 | n + 1 => c + 256 * mask c n
theorem join1 : ∀ l : List Nat, (∀ b ∈ l, b < 256) -> (join l / 2 &&& mask 85 l.length) + (join l &&& mask 85 l.length) = join (l.map s1)
 | [], _ => rfl
 | b :: l, h => by
  simp only [join, List.length_cons, mask, List.map_cons]
  rw [step1 b _ _ (h b (by simp)), join1 l fun x hx => h x (by simp [hx])]
theorem join2 : ∀ l : List Nat, (∀ b ∈ l, b < 256) -> (join l / 4 &&& mask 51 l.length) + (join l &&& mask 51 l.length) = join (l.map s2)
 | [], _ => rfl
 | b :: l, h => by
  simp only [join, List.length_cons, mask, List.map_cons]
  rw [step2 b _ _ (h b (by simp)), join2 l fun x hx => h x (by simp [hx])]
theorem join_low : ∀ l : List Nat, (∀ b ∈ l, b % 16 <= 4) -> join l % 16 <= 4
 | [], _ => by simp [join]
 | b :: l, h => by have := h b (by simp); simp only [join]; omega
theorem join3 : ∀ l : List Nat, (∀ b ∈ l, b % 16 <= 4 /\ b / 16 <= 4) -> (join l / 16 + join l) &&& mask 15 l.length = join (l.map s3)
 | [], _ => rfl
 | b :: l, h => by
  simp only [join, List.length_cons, mask, List.map_cons]
  rw [step3 b _ _ (h b (by simp)).1 (h b (by simp)).2 (join_low l fun x hx => (h x (by simp [hx])).1), join3 l fun x hx => h x (by simp [hx])]
def swar (x : Nat) : Nat :=
 let a1 := (x / 2 &&& 6148914691236517205) + (x &&& 6148914691236517205)
 let a2 := (a1 / 4 &&& 3689348814741910323) + (a1 &&& 3689348814741910323)
 let a3 := (a2 / 16 + a2) &&& 1085102592571150095
 let a4 := a3 + a3 / 256
 let a5 := a4 + a4 / 65536
 let a6 := a5 + a5 / 4294967296
 a6 % 128
theorem pop_split : ∀ (m n x : Nat), pop (m + n) x = pop m x + pop n (x / 2 ^ m)
 | 0, n, x => by simp [pop]
 | m + 1, n, x => by
  rw [show m + 1 + n = (m + n) + 1 by omega, pop, pop, pop_split m n (x / 2), Nat.div_div_eq_div_mul, Nat.pow_succ, Nat.mul_comm (2 ^ m) 2]
  omega
theorem pop_mod : ∀ (m x : Nat), pop m (x % 2 ^ m) = pop m x
 | 0, x => by simp [pop]
 | m + 1, x => by
  have e1 : x % 2 ^ (m + 1) % 2 = x % 2 := by rw [Nat.pow_succ, Nat.mul_comm]; exact Nat.mod_mul_right_mod x 2 (2 ^ m)
  have e2 : x % 2 ^ (m + 1) / 2 = (x / 2) % 2 ^ m := by
   rw [Nat.pow_succ, Nat.mul_comm, Nat.mod_mul, Nat.add_mul_div_left _ _ (by omega)]
   omega
  rw [pop, pop, e1, e2, pop_mod m]
theorem div_at (r q m : Nat) (hm : 0 < m) (h : r < m) : (r + m * q) / m = q := by
 rw [Nat.add_mul_div_left _ _ hm, Nat.div_eq_of_lt h, Nat.zero_add]
theorem fold8 (c0 c1 c2 c3 c4 c5 c6 c7 : Nat) (l0 : c0 <= 8) (l1 : c1 <= 8) (l2 : c2 <= 8) (l3 : c3 <= 8) (l4 : c4 <= 8) (l5 : c5 <= 8) (l6 : c6 <= 8) (l7 : c7 <= 8) :
  (join [c0, c1, c2, c3, c4, c5, c6, c7] + join [c0, c1, c2, c3, c4, c5, c6, c7] / 256 + (join [c0, c1, c2, c3, c4, c5, c6, c7] + join [c0, c1, c2, c3, c4, c5, c6, c7] / 256) / 65536 +
   (join [c0, c1, c2, c3, c4, c5, c6, c7] + join [c0, c1, c2, c3, c4, c5, c6, c7] / 256 + (join [c0, c1, c2, c3, c4, c5, c6, c7] + join [c0, c1, c2, c3, c4, c5, c6, c7] / 256) / 65536) / 4294967296) % 128 =
  c0 + (c1 + (c2 + (c3 + (c4 + (c5 + (c6 + c7)))))) := by
 have q1 : join [c0, c1, c2, c3, c4, c5, c6, c7] / 256 = join [c1, c2, c3, c4, c5, c6, c7] := div_at c0 _ 256 (by decide) (by omega)
 have r4 : join [c0, c1, c2, c3, c4, c5, c6, c7] + join [c1, c2, c3, c4, c5, c6, c7] = join [c0 + c1, c1 + c2, c2 + c3, c3 + c4, c4 + c5, c5 + c6, c6 + c7, c7] := by simp only [join]; omega
 rw [q1, r4]
 have q2 : join [c0 + c1, c1 + c2, c2 + c3, c3 + c4, c4 + c5, c5 + c6, c6 + c7, c7] / 65536 = join [c2 + c3, c3 + c4, c4 + c5, c5 + c6, c6 + c7, c7] := by
  have e : join [c0 + c1, c1 + c2, c2 + c3, c3 + c4, c4 + c5, c5 + c6, c6 + c7, c7] = ((c0 + c1) + 256 * (c1 + c2)) + 65536 * join [c2 + c3, c3 + c4, c4 + c5, c5 + c6, c6 + c7, c7] := by
   show (c0 + c1) + 256 * ((c1 + c2) + 256 * join [c2 + c3, c3 + c4, c4 + c5, c5 + c6, c6 + c7, c7]) = _
   omega
  rw [e]; exact div_at _ _ 65536 (by decide) (by omega)
 have r5 : join [c0 + c1, c1 + c2, c2 + c3, c3 + c4, c4 + c5, c5 + c6, c6 + c7, c7] + join [c2 + c3, c3 + c4, c4 + c5, c5 + c6, c6 + c7, c7] =
   join [c0 + c1 + (c2 + c3), c1 + c2 + (c3 + c4), c2 + c3 + (c4 + c5), c3 + c4 + (c5 + c6), c4 + c5 + (c6 + c7), c5 + c6 + c7, c6 + c7, c7] := by simp only [join]; omega
 rw [q2, r5]
 have q3 : join [c0 + c1 + (c2 + c3), c1 + c2 + (c3 + c4), c2 + c3 + (c4 + c5), c3 + c4 + (c5 + c6), c4 + c5 + (c6 + c7), c5 + c6 + c7, c6 + c7, c7] / 4294967296 = join [c4 + c5 + (c6 + c7), c5 + c6 + c7, c6 + c7, c7] := by
  have e : join [c0 + c1 + (c2 + c3), c1 + c2 + (c3 + c4), c2 + c3 + (c4 + c5), c3 + c4 + (c5 + c6), c4 + c5 + (c6 + c7), c5 + c6 + c7, c6 + c7, c7] =
    ((c0 + c1 + (c2 + c3)) + 256 * (c1 + c2 + (c3 + c4)) + 65536 * (c2 + c3 + (c4 + c5)) + 16777216 * (c3 + c4 + (c5 + c6))) + 4294967296 * join [c4 + c5 + (c6 + c7), c5 + c6 + c7, c6 + c7, c7] := by
   show (c0 + c1 + (c2 + c3)) + 256 * ((c1 + c2 + (c3 + c4)) + 256 * ((c2 + c3 + (c4 + c5)) + 256 * ((c3 + c4 + (c5 + c6)) + 256 * join [c4 + c5 + (c6 + c7), c5 + c6 + c7, c6 + c7, c7]))) = _
   omega
  rw [e]; exact div_at _ _ 4294967296 (by decide) (by omega)
 rw [q3]
 have e6 : join [c0 + c1 + (c2 + c3), c1 + c2 + (c3 + c4), c2 + c3 + (c4 + c5), c3 + c4 + (c5 + c6), c4 + c5 + (c6 + c7), c5 + c6 + c7, c6 + c7, c7] + join [c4 + c5 + (c6 + c7), c5 + c6 + c7, c6 + c7, c7] =
   (c0 + (c1 + (c2 + (c3 + (c4 + (c5 + (c6 + c7))))))) + 128 * (2 * (join [c1 + c2 + (c3 + c4), c2 + c3 + (c4 + c5), c3 + c4 + (c5 + c6), c4 + c5 + (c6 + c7), c5 + c6 + c7, c6 + c7, c7] + join [c5 + c6 + c7, c6 + c7, c7])) := by
  show (c0 + c1 + (c2 + c3)) + 256 * join [c1 + c2 + (c3 + c4), c2 + c3 + (c4 + c5), c3 + c4 + (c5 + c6), c4 + c5 + (c6 + c7), c5 + c6 + c7, c6 + c7, c7] + ((c4 + c5 + (c6 + c7)) + 256 * join [c5 + c6 + c7, c6 + c7, c7]) = _
  omega
 rw [e6, Nat.add_mul_mod_self_left, Nat.mod_eq_of_lt (by omega)]
theorem swar_eq (x : Nat) (hx : x < 18446744073709551616) : swar x = pop 64 x := by
 obtain ⟨b0, b1, b2, b3, b4, b5, b6, b7, h0, h1, h2, h3, h4, h5, h6, h7, rfl⟩ : ∃ b0 b1 b2 b3 b4 b5 b6 b7 : Nat, b0 < 256 /\ b1 < 256 /\ b2 < 256 /\ b3 < 256 /\ b4 < 256 /\ b5 < 256 /\ b6 < 256 /\ b7 < 256 /\ x = join [b0, b1, b2, b3, b4, b5, b6, b7] := by
  have d : ∀ y : Nat, y = y % 256 + 256 * (y / 256) := fun y => by omega
  have z : x / 256 / 256 / 256 / 256 / 256 / 256 / 256 / 256 = 0 := by simp only [Nat.div_div_eq_div_mul, Nat.reduceMul]; exact Nat.div_eq_of_lt hx
  refine ⟨x % 256, x / 256 % 256, x / 256 / 256 % 256, x / 256 / 256 / 256 % 256, x / 256 / 256 / 256 / 256 % 256, x / 256 / 256 / 256 / 256 / 256 % 256, x / 256 / 256 / 256 / 256 / 256 / 256 % 256,
   x / 256 / 256 / 256 / 256 / 256 / 256 / 256 % 256, Nat.mod_lt _ (by decide), Nat.mod_lt _ (by decide), Nat.mod_lt _ (by decide), Nat.mod_lt _ (by decide), Nat.mod_lt _ (by decide), Nat.mod_lt _ (by decide), Nat.mod_lt _ (by decide), Nat.mod_lt _ (by decide), ?_⟩
  simp only [join]
  have e7 := d (x / 256 / 256 / 256 / 256 / 256 / 256 / 256)
  rw [z] at e7
  rw [<- e7, <- d, <- d, <- d, <- d, <- d, <- d, <- d]
 have hall : ∀ b ∈ [b0, b1, b2, b3, b4, b5, b6, b7], b < 256 := by simp [h0, h1, h2, h3, h4, h5, h6, h7]
 have k1 := join1 [b0, b1, b2, b3, b4, b5, b6, b7] hall
 have k2 := join2 ([b0, b1, b2, b3, b4, b5, b6, b7].map s1) fun b hb => by
  obtain ⟨a, ha, rfl⟩ := List.mem_map.1 hb
  exact (s_pop ⟨a, hall a ha⟩).1
 have k3 := join3 (([b0, b1, b2, b3, b4, b5, b6, b7].map s1).map s2) fun b hb => by
  obtain ⟨a, ha, rfl⟩ := List.mem_map.1 hb
  obtain ⟨c, hc, rfl⟩ := List.mem_map.1 ha
  exact ⟨(s_pop ⟨c, hall c hc⟩).2.2.1, (s_pop ⟨c, hall c hc⟩).2.2.2.1⟩
 have m1 : mask 85 8 = 6148914691236517205 := by decide
 have m2 : mask 51 8 = 3689348814741910323 := by decide
 have m3 : mask 15 8 = 1085102592571150095 := by decide
 simp only [List.length_cons, List.length_nil, List.length_map, Nat.reduceAdd, m1, m2, m3] at k1 k2 k3
 simp only [swar]
 rw [k1, k2, k3]
 simp only [List.map_cons, List.map_nil]
 have e0 := (s_pop ⟨b0, h0⟩).2.2.2.2
 have e1 := (s_pop ⟨b1, h1⟩).2.2.2.2
 have e2 := (s_pop ⟨b2, h2⟩).2.2.2.2
 have e3 := (s_pop ⟨b3, h3⟩).2.2.2.2
 have e4 := (s_pop ⟨b4, h4⟩).2.2.2.2
 have e5 := (s_pop ⟨b5, h5⟩).2.2.2.2
 have e6 := (s_pop ⟨b6, h6⟩).2.2.2.2
 have e7 := (s_pop ⟨b7, h7⟩).2.2.2.2
 simp only at e0 e1 e2 e3 e4 e5 e6 e7
 rw [e0, e1, e2, e3, e4, e5, e6, e7]
 have p8 : ∀ (b q n : Nat), b < 256 -> pop (8 + n) (b + 256 * q) = pop 8 b + pop n q := by
  intro b q n hb
  rw [pop_split, <- pop_mod 8 (b + 256 * q), show (b + 256 * q) % 2 ^ 8 = b by omega, show (b + 256 * q) / 2 ^ 8 = q by omega]
 have hp : pop 64 (join [b0, b1, b2, b3, b4, b5, b6, b7]) = pop 8 b0 + (pop 8 b1 + (pop 8 b2 + (pop 8 b3 + (pop 8 b4 + (pop 8 b5 + (pop 8 b6 + pop 8 b7)))))) := by
  simp only [join]
  rw [show (64 : Nat) = 8 + (8 + (8 + (8 + (8 + (8 + (8 + (8 + 0))))))) from rfl, p8 _ _ _ h0, p8 _ _ _ h1, p8 _ _ _ h2, p8 _ _ _ h3, p8 _ _ _ h4, p8 _ _ _ h5, p8 _ _ _ h6, p8 _ _ _ h7]
  simp [pop]
 rw [hp]
 have l0 := pop_le 8 b0
 have l1 := pop_le 8 b1
 have l2 := pop_le 8 b2
 have l3 := pop_le 8 b3
 have l4 := pop_le 8 b4
 have l5 := pop_le 8 b5
 have l6 := pop_le 8 b6
 have l7 := pop_le 8 b7
 generalize pop 8 b0 = c0 at *
 generalize pop 8 b1 = c1 at *
 generalize pop 8 b2 = c2 at *
 generalize pop 8 b3 = c3 at *
 generalize pop 8 b4 = c4 at *
 generalize pop 8 b5 = c5 at *
 generalize pop 8 b6 = c6 at *
 generalize pop 8 b7 = c7 at *
 exact fold8 c0 c1 c2 c3 c4 c5 c6 c7 l0 l1 l2 l3 l4 l5 l6 l7
end Go.Proofs.YtgbgneiciabidaaGreatDoor
/-
  Words of bits: what bits.OnesCount64 and bits.TrailingZeros64 answer.
-/
namespace Go.Proofs.YtgbgneiciabidaaGreatDoor
open Go Go.RowKit
set_option linter.all false
set_option maxHeartbeats 8000000
theorem ones_core (x p1 p2 a1 p3 p4 a2 s3 a3 a4 a5 a6 r : Nat) (w : World)
  (h1 : bits BinOp.and IntKind.u64 ((x : Int) / 2) 6148914691236517205 = (p1 : Int)) (h2 : bits BinOp.and IntKind.u64 (x : Int) 6148914691236517205 = (p2 : Int))
  (h3 : IntKind.u64.wrap ((p1 : Int) + p2) = (a1 : Int))
  (h4 : bits BinOp.and IntKind.u64 ((a1 : Int) / 4) 3689348814741910323 = (p3 : Int)) (h5 : bits BinOp.and IntKind.u64 (a1 : Int) 3689348814741910323 = (p4 : Int))
  (h6 : IntKind.u64.wrap ((p3 : Int) + p4) = (a2 : Int)) (h7 : IntKind.u64.wrap ((a2 : Int) / 16 + a2) = (s3 : Int))
  (h8 : bits BinOp.and IntKind.u64 (s3 : Int) 1085102592571150095 = (a3 : Int))
  (h9 : IntKind.u64.wrap ((a3 : Int) + (a3 : Int) / 256) = (a4 : Int)) (h10 : IntKind.u64.wrap ((a4 : Int) + (a4 : Int) / 65536) = (a5 : Int)) (h11 : IntKind.u64.wrap ((a5 : Int) + (a5 : Int) / 4294967296) = (a6 : Int))
  (h12 : a6 < 9223372036854775808) (h13 : bits BinOp.and IntKind.i64 (a6 : Int) 127 = (r : Int)) :
  Calls Tryz.prog 221 #[.int .u64 (x : Int)] w fun e w' => e = .returned (.int .i64 (r : Int)) /\ w' = w := by
 go_enter Tryz.func221, Tryz.ntmps221
 go_wp2
 go_ret
 exact ⟨rfl, rfl⟩
theorem wrap_u64_of (n : Nat) (h : n < 18446744073709551616) : IntKind.u64.wrap (n : Int) = (n : Int) := by rw [IntKind.wrap_u64]; omega
theorem OnesCount64 (x : Nat) (hx : x < 18446744073709551616) (w : World) :
  Calls Tryz.prog 221 #[.int .u64 (x : Int)] w fun e w' => e = .returned (.int .i64 (pop 64 x : Nat)) /\ w' = w := by
 have hs := swar_eq x hx
 simp only [swar] at hs
 have b1 : x / 2 &&& 6148914691236517205 <= 6148914691236517205 := Nat.and_le_right
 have b2 : x &&& 6148914691236517205 <= 6148914691236517205 := Nat.and_le_right
 have h1 := bits_and_u64_nat (x / 2) 6148914691236517205 (by omega) (by decide)
 have h2 := bits_and_u64_nat x 6148914691236517205 hx (by decide)
 generalize x / 2 &&& 6148914691236517205 = p1 at *
 generalize x &&& 6148914691236517205 = p2 at *
 have b3 : (p1 + p2) / 4 &&& 3689348814741910323 <= 3689348814741910323 := Nat.and_le_right
 have b4 : (p1 + p2) &&& 3689348814741910323 <= 3689348814741910323 := Nat.and_le_right
 have h3 := wrap_u64_of (p1 + p2) (by omega)
 have h4 := bits_and_u64_nat ((p1 + p2) / 4) 3689348814741910323 (by omega) (by decide)
 have h5 := bits_and_u64_nat (p1 + p2) 3689348814741910323 (by omega) (by decide)
 generalize (p1 + p2) / 4 &&& 3689348814741910323 = p3 at *
 generalize (p1 + p2) &&& 3689348814741910323 = p4 at *
 have h6 := wrap_u64_of (p3 + p4) (by omega)
 have h7 := wrap_u64_of ((p3 + p4) / 16 + (p3 + p4)) (by omega)
 have b5 : ((p3 + p4) / 16 + (p3 + p4)) &&& 1085102592571150095 <= 1085102592571150095 := Nat.and_le_right
 have h8 := bits_and_u64_nat ((p3 + p4) / 16 + (p3 + p4)) 1085102592571150095 (by omega) (by decide)
 generalize ((p3 + p4) / 16 + (p3 + p4)) &&& 1085102592571150095 = a3 at *
 have h9 := wrap_u64_of (a3 + a3 / 256) (by omega)
 have h10 := wrap_u64_of ((a3 + a3 / 256) + (a3 + a3 / 256) / 65536) (by omega)
 have h11 := wrap_u64_of (((a3 + a3 / 256) + (a3 + a3 / 256) / 65536) + ((a3 + a3 / 256) + (a3 + a3 / 256) / 65536) / 4294967296) (by omega)
 have h12 : ((a3 + a3 / 256) + (a3 + a3 / 256) / 65536) + ((a3 + a3 / 256) + (a3 + a3 / 256) / 65536) / 4294967296 < 9223372036854775808 := by omega
 refine ones_core x p1 p2 (p1 + p2) p3 p4 (p3 + p4) ((p3 + p4) / 16 + (p3 + p4)) a3 (a3 + a3 / 256) ((a3 + a3 / 256) + (a3 + a3 / 256) / 65536)
  (((a3 + a3 / 256) + (a3 + a3 / 256) / 65536) + ((a3 + a3 / 256) + (a3 + a3 / 256) / 65536) / 4294967296) (pop 64 x) w ?_ ?_ ?_ ?_ ?_ ?_ ?_ ?_ ?_ ?_ ?_ h12 ?_
 ·simpa using h1
 ·simpa using h2
 ·simpa using h3
 ·simpa using h4
 ·simpa using h5
 ·simpa using h6
 ·simpa using h7
 ·simpa using h8
 ·simpa using h9
 ·simpa using h10
 ·simpa using h11
 ·rw [<- hs, i64_and127]
  omega
/-
  Bitmaps (layer 7): what each call does to a bitmap in memory, said of the set of numbers that it stands for.
-/
structure Words (n : Nat) (ws : List Nat) (S : Nat -> Bool) : Prop where
 len : n <= 64 * ws.length
 few : ws.length <= 64
 big : n <= 4096
 lt : ∀ x ∈ ws, x < 18446744073709551616
 bit : ∀ i, S i = (ws.getD (i / 64) 0).testBit (i % 64)
 off : ∀ i, n <= i -> S i = false
def wordOf (x : Nat) : Value := .int .u64 (x : Int)
def bmS (b n : Nat) (S : Nat -> Bool) : Say := ex fun x : Value × List Nat => fact (Words n x.2 S) (all [pts b (.cells #[.int .i64 (n : Int), x.1] 250 (0, 0)), rowS 247 1 x.1 x.2.length (x.2.map wordOf)])
theorem Has.bm_open {w : World} {l : List Say} {b n : Nat} {S : Nat -> Bool} (h : Has w (bmS b n S :: l)) :
  ∃ v ws, Words n ws S /\ Has w (pts b (.cells #[.int .i64 (n : Int), v] 250 (0, 0)) :: rowS 247 1 v ws.length (ws.map wordOf) :: l) := by
 obtain ⟨⟨v, ws⟩, h⟩ := h.opened
 obtain ⟨hw, h⟩ := h.unfact
 exact ⟨v, ws, hw, h.split⟩
theorem Has.bm_shut {w : World} {l : List Say} {b n : Nat} {S : Nat -> Bool} {v : Value} {ws : List Nat} (hw : Words n ws S)
  (h : Has w (pts b (.cells #[.int .i64 (n : Int), v] 250 (0, 0)) :: rowS 247 1 v ws.length (ws.map wordOf) :: l)) : Has w (bmS b n S :: l) :=
 Has.chosen (v, ws) (Has.tofact hw (Has.unite (m := [_, _]) h))
theorem Words.get {n : Nat} {ws : List Nat} {S : Nat -> Bool} (h : Words n ws S) (i : Nat) (hi : i < n) : ∃ x, ws[i / 64]? = some x /\ x < 18446744073709551616 /\ S i = x.testBit (i % 64) := by
 have hlt : i / 64 < ws.length := by have := h.len; omega
 refine ⟨ws[i / 64], List.getElem?_eq_getElem hlt, h.lt _ (List.getElem_mem hlt), ?_⟩
 rw [h.bit, List.getD_eq_getElem?_getD, List.getElem?_eq_getElem hlt]; rfl
theorem Has.bm_read {w : World} {l : List Say} {b n : Nat} {S : Nat -> Bool} (h : Has w l) (hm : bmS b n S ∈ l) :
  ∃ ws a c, Words n ws S /\ ws.length <= c /\ w.cell? ⟨b, 0, none⟩ = some (.int .i64 (n : Int)) /\ w.cell? ⟨b, 1, none⟩ = some (.slice a ws.length c) /\
   ∀ (k x : Nat), ws[k]? = some x -> ∃ g, a = some ⟨g, 0, none⟩ /\ w.cell? ⟨g, k, none⟩ = some (.int .u64 (x : Int)) := by
 obtain ⟨v, ws, hw, h1⟩ := (h.only hm).bm_open
 obtain ⟨_, a, c, rfl, hc, _, hr⟩ := h1.row_read (v := v) (e := 247) (n := ws.length) (xs := ws.map wordOf) (by simp)
 have hb := h1.got
 refine ⟨ws, a, c, hw, hc, cell_of hb 0 rfl, cell_of hb 1 rfl, fun k x hx => ?_⟩
 obtain ⟨g, ha, hg, _⟩ := hr k (wordOf x) (by simp [hx])
 exact ⟨g, ha, hg⟩
theorem bm_in_yes (b : Nat) (n i : Int) (w : World) (h0 : w.cell? ⟨b, 0, none⟩ = some (.int .i64 n)) (g0 : 0 <= i) (g1 : i < n) :
  Calls Tryz.prog 160 #[.pointer (some ⟨b, 0, none⟩), .int .i64 i] w fun e w' => e = .returned (.bool true) /\ w = w' := by
 go_enter Tryz.func160, Tryz.ntmps160
 go_wp2
 go_ret
 exact ⟨rfl, rfl⟩
theorem bm_in_no (b : Nat) (n i : Int) (w : World) (h0 : w.cell? ⟨b, 0, none⟩ = some (.int .i64 n)) (g : i < 0 \/ n <= i) :
  Calls Tryz.prog 160 #[.pointer (some ⟨b, 0, none⟩), .int .i64 i] w fun e w' => e = .returned (.bool false) /\ w = w' := by
 by_cases g1 : i < 0
 ·go_enter Tryz.func160, Tryz.ntmps160
  go_wp2
  go_ret
  exact ⟨rfl, rfl⟩
 ·have g2 : decide (i < n) = false := by simp; omega
  have g3 : 0 <= i := by omega
  clear g g1
  go_enter Tryz.func160, Tryz.ntmps160
  go_wp2
  go_ret
  exact ⟨by rw [<- g2]; rfl, rfl⟩
theorem bm_Len {w : World} {l : List Say} {b n : Nat} {S : Nat -> Bool} (h : Has w l) (hm : bmS b n S ∈ l) :
  Calls Tryz.prog 180 #[.pointer (some ⟨b, 0, none⟩)] w fun e w' => e = .returned (.int .i64 (n : Int)) /\ w = w' := by
 obtain ⟨ws, a, c, hw, hc, h0, h1, hx⟩ := h.bm_read hm
 clear hx
 go_enter Tryz.func180, Tryz.ntmps180
 go_wp2
 go_ret
 exact ⟨rfl, rfl⟩
theorem has_bit (x m : Nat) (hx : x < 18446744073709551616) : (bits BinOp.and IntKind.u64 ((x : Int) / 2 ^ m) 1 == 1) = x.testBit m := by
 have e1 : (x : Int) / 2 ^ m = ((x / 2 ^ m : Nat) : Int) := by simp
 have hlt : x / 2 ^ m < 18446744073709551616 := Nat.lt_of_le_of_lt (Nat.div_le_self _ _) hx
 have := bits_and_u64_nat (x / 2 ^ m) 1 hlt (by decide)
 rw [e1, show (1 : Int) = ((1 : Nat) : Int) from rfl, this, nat_mask1]
 rw [Nat.testBit_eq_decide_div_mod_eq]
 rw [Bool.eq_iff_iff]
 simp only [beq_iff_eq, decide_eq_true_eq]
 omega
theorem bm_Has {w : World} {l : List Say} {b n : Nat} {S : Nat -> Bool} (h : Has w l) (hm : bmS b n S ∈ l) (i : Nat) :
  Calls Tryz.prog 97 #[.pointer (some ⟨b, 0, none⟩), .int .i64 (i : Int)] w fun e w' => e = .returned (.bool (S i)) /\ w = w' := by
 obtain ⟨ws, a, c, hw, hc, h0, h1, hx⟩ := h.bm_read hm
 by_cases hi : i < n
 ·obtain ⟨x, hxi, hlt, hS⟩ := hw.get i hi
  obtain ⟨g, rfl, hg⟩ := hx _ _ hxi
  have hk : i / 64 < ws.length := (List.getElem?_eq_some_iff.1 hxi).1
  have hb := hw.big
  have hres := Lib.hid (has_bit x (i % 64) hlt)
  have HS := Lib.hid hS
  clear hx hxi hS hw h hm
  go_enter Tryz.func97, Tryz.ntmps97
  go_wp2_with (go_at_call 160; refine (bm_in_yes _ _ _ _ h0 (by omega) (by omega)).mono ?_; rintro e w' ⟨rfl, rfl⟩)
  go_ret
  exact ⟨by rw [HS.out, <- hres.out]; rfl, rfl⟩
 ·have hS := Lib.hid (hw.off i (by omega))
  clear hx hw h hm
  go_enter Tryz.func97, Tryz.ntmps97
  go_wp2_with (go_at_call 160; refine (bm_in_no _ _ _ _ h0 (by omega)).mono ?_; rintro e w' ⟨rfl, rfl⟩)
  go_ret
  exact ⟨by rw [hS.out]; rfl, rfl⟩
/-! The table of math/bits. -/
def Tab (l : List Say) : Prop := ∀ w, Has w l -> ∀ j, j < 64 -> w.cell? ⟨0, j, none⟩ = some (.int .u8 (Lib.deBruijn64tab.getD j 0 : Nat))
theorem Tab.cons {A : Say} {l : List Say} (h : Tab l) : Tab (A :: l) := fun w hw => h w hw.tail
theorem Tab.app {l : List Say} (h : Tab l) : ∀ (m : List Say), Tab (m ++ l)
 | [] => h
 | A :: m => (Tab.app h m).cons
theorem Tab.of_old {W : World} {l : List Say} (hc : ∀ j, j < 64 -> W.cell? ⟨0, j, none⟩ = some (.int .u8 (Lib.deBruijn64tab.getD j 0 : Nat))) (hm : old W ∈ l) : Tab l := fun w hw j hj => hw.old_cell hm (hc j hj)
theorem tz64_core (x k idx : Nat) (w : World) (hx0 : ((x : Int) == 0) = false)
  (key : IntKind.u64.wrap (bits BinOp.and IntKind.u64 (x : Int) (IntKind.u64.wrap (-(x : Int))) * 285870213051353865) / 288230376151711744 = (idx : Int))
  (hi : idx < 64) (hk : k < 64) (hcell : w.cell? ⟨0, idx, none⟩ = some (.int .u8 k)) :
  Calls Tryz.prog 215 #[.int .u64 x] w fun e w' => e = .returned (.int .i64 k) /\ w = w' := by
 go_enter Tryz.func215, Tryz.ntmps215
 go_wp2_with (simp only [key])
 go_ret
 exact ⟨rfl, rfl⟩
theorem tz64_key (x a : Nat) (hx : x < 18446744073709551616) (hx0 : x ≠ 0) (hlow : x &&& (18446744073709551616 - x) = a) :
  IntKind.u64.wrap (bits BinOp.and IntKind.u64 (x : Int) (IntKind.u64.wrap (-(x : Int))) * 285870213051353865) / 288230376151711744 = ((a * 285870213051353865 % 18446744073709551616 / 288230376151711744 : Nat) : Int) := by
 have e1 : IntKind.u64.wrap (-(x : Int)) = ((18446744073709551616 - x : Nat) : Int) := by rw [IntKind.wrap_u64]; omega
 rw [e1, bits_and_u64_nat x _ hx (by omega), hlow, IntKind.wrap_u64]
 omega
theorem TrailingZeros64 {w : World} {l : List Say} (h : Has w l) (hm : Tab l) (x : Nat) (hx : x < 18446744073709551616) (hx0 : x ≠ 0) :
  Calls Tryz.prog 215 #[.int .u64 x] w fun e w' => e = .returned (.int .i64 (Lib.ctz 64 x : Nat)) /\ w = w' := by
 obtain ⟨hlow, hk⟩ := Lib.lowest_bit 64 x hx0 hx
 obtain ⟨hi, htab⟩ := Lib.deBruijn64_at _ hk
 have hcell := hm w h _ hi
 rw [htab] at hcell
 exact tz64_core x _ _ w (by simp; omega) (tz64_key x _ hx hx0 hlow) hi hk hcell
theorem ctz_bit (x : Nat) (hx : x < 18446744073709551616) (hx0 : x ≠ 0) : x.testBit (Lib.ctz 64 x) = true /\ ∀ j, j < Lib.ctz 64 x -> x.testBit j = false := by
 obtain ⟨m, hm, hk⟩ := Lib.ctzFrom_spec 64 x (by omega) hx
 have e : Lib.ctz 64 x = Lib.ctzFrom 64 x := by simp [Lib.ctz, hx0]
 rw [e]
 generalize Lib.ctzFrom 64 x = k at *
 subst hm
 constructor
 ·rw [Nat.mul_comm, Nat.testBit_mul_two_pow]; simp
 ·intro j hj
  rw [Nat.mul_comm, Nat.testBit_mul_two_pow]
  have : ¬ k <= j := by omega
  simp [this]
/-
  Bitmaps (layer 7), the second part: find, Free, Next, Count.
-/
def maskT (ws : List Nat) (M i : Nat) : Bool := ((ws.getD (i / 64) 0) ^^^ M).testBit (i % 64)
theorem mask_zero (x M m : Nat) (hx : (x ^^^ M) / 2 ^ m = 0) (j : Nat) (hj : m <= j) : (x ^^^ M).testBit j = false := by
 obtain ⟨d, rfl⟩ : ∃ d, j = m + d := ⟨j - m, by omega⟩
 have := Nat.testBit_div_two_pow (n := m) (x ^^^ M) d
 rw [hx] at this
 rw [Nat.add_comm m d, <- this]; simp
theorem int_eq {k : IntKind} {a b : Int} (h : a = b) : Value.int k a = Value.int k b := by rw [h]
theorem mask_bit (x M m y : Nat) (hy : (x ^^^ M) / 2 ^ m = y) (d : Nat) : (x ^^^ M).testBit (m + d) = y.testBit d := by
 have := Nat.testBit_div_two_pow (n := m) (x ^^^ M) d
 rw [Nat.add_comm m d, <- this, hy]
theorem found_in (ws : List Nat) (M k x y z : Nat) (hgd : ws.getD (k / 64) 0 = x) (hy : (x ^^^ M) / 2 ^ (k % 64) = y) (h64 : x ^^^ M < 18446744073709551616)
  (hb : y.testBit z = true) (hl : ∀ j, j < z -> y.testBit j = false) : maskT ws M (k + z) = true /\ ∀ j, k <= j -> j < k + z -> maskT ws M j = false := by
 have hz : k % 64 + z < 64 := by
  apply Nat.lt_of_not_le
  intro hge
  have h1 : (x ^^^ M).testBit (k % 64 + z) = false := Nat.testBit_lt_two_pow (Nat.lt_of_lt_of_le (show x ^^^ M < 2 ^ 64 by omega) (Nat.pow_le_pow_right (by omega) hge))
  rw [mask_bit x M _ y hy, hb] at h1
  cases h1
 constructor
 ·unfold maskT
  rw [show (k + z) / 64 = k / 64 by omega, show (k + z) % 64 = k % 64 + z by omega, hgd, mask_bit x M _ y hy, hb]
 ·intro j h1 h2
  unfold maskT
  obtain ⟨d, rfl⟩ : ∃ d, j = k + d := ⟨j - k, by omega⟩
  rw [show (k + d) / 64 = k / 64 by omega, show (k + d) % 64 = k % 64 + d by omega, hgd, mask_bit x M _ y hy]
  exact hl d (by omega)
def Found (n from_ : Nat) (T : Nat -> Bool) (k : Nat) (ok : Bool) : Prop :=
 if ok then from_ <= k /\ k < n /\ T k = true /\ ∀ j, from_ <= j -> j < k -> T j = false else k = 0 /\ ∀ j, from_ <= j -> j < n -> T j = false
def FindPost (n from_ M : Nat) (S : Nat -> Bool) (w : World) (e : Ending) (w' : World) : Prop :=
 ∃ ws k ok, Words n ws S /\ Found n from_ (maskT ws M) k ok /\ e = .returned (.tuple #[.int .i64 (k : Int), .bool ok]) /\ w = w'
def SeekPost (n from_ : Nat) (T : Nat -> Bool) (w : World) (e : Ending) (w' : World) : Prop :=
 ∃ k ok, Found n from_ T k ok /\ e = .returned (.tuple #[.int .i64 (k : Int), .bool ok]) /\ w = w'
theorem shr_val (x M m : Nat) : ((x ^^^ M : Nat) : Int) / 2 ^ m = (((x ^^^ M) / 2 ^ m : Nat) : Int) := by simp
set_option maxRecDepth 100000 in
theorem bm_find {w : World} {l : List Say} {b n : Nat} {S : Nat -> Bool} (h : Has w l) (hm : bmS b n S ∈ l) (ht : Tab l) (from_ M : Nat) (hf : from_ <= 4096) (hM : M < 18446744073709551616) :
  Calls Tryz.prog 184 #[.pointer (some ⟨b, 0, none⟩), .int .i64 (from_ : Int), .int .u64 (M : Int)] w (FindPost n from_ M S w) := by
 obtain ⟨ws, a, c, hw, hc, h0, h1, hx⟩ := h.bm_read hm
 have hb := hw.big
 have hmax : max (from_ : Int) 0 = from_ := by omega
 have Hx := Lib.hid hx; clear hx
 have Hw := Lib.hid hw; clear hw
 have HH := Lib.hid h; clear h
 have Ht := Lib.hid ht; clear ht hm
 go_enter Tryz.func184, Tryz.ntmps184
 go_wp2
 go_loop [8, 9] (fun i _ => ∃ k : Nat, from_ <= k /\ k <= 4160 /\ i = .int .i64 k /\ Hid (∀ j, from_ <= j -> j < k -> j < n -> maskT ws M j = false)) (fun i _ => 5000 - (intOf i).toNat)
 case atStart =>
  refine ⟨from_, Nat.le_refl _, by omega, ?_, fun j h1 h2 => absurd h1 (by omega)⟩
  rfl
 case round =>
  obtain ⟨k, hk1, hk2, rfl, Hk⟩ := hrel
  by_cases hlt : (k : Int) < n
  ·obtain ⟨x, hxi, hxlt, _⟩ := Hw.out.get k (by omega)
   obtain ⟨g, rfl, hg⟩ := Hx.out _ _ hxi
   have hkl : k / 64 < ws.length := (List.getElem?_eq_some_iff.1 hxi).1
   have hxor := bits_xor_u64_nat x M hxlt hM
   have hgd : ws.getD (k / 64) 0 = x := by rw [List.getD_eq_getElem?_getD, hxi]; rfl
   have Hgd := Lib.hid hgd; clear hgd hxi
   have hy64 : x ^^^ M < 18446744073709551616 := by
    have := Nat.xor_lt_two_pow (x := x) (y := M) (n := 64) (by omega) (by omega)
    omega
   have hshr := shr_val x M (k % 64)
   generalize hy : (x ^^^ M) / 2 ^ (k % 64) = y at hshr
   have hylt : y < 18446744073709551616 := by rw [<- hy]; exact Nat.lt_of_le_of_lt (Nat.div_le_self _ _) hy64
   by_cases hy0 : y = 0
   ·subst hy0
    have Hy := Lib.hid hy; clear hy hy64
    go_wp2
    refine ⟨⟨k + (64 - k % 64), by omega, by omega, int_eq (by omega), fun j j1 j2 j3 => ?_⟩, by simp [intOf]; omega⟩
    by_cases hj : j < k
    ·exact Hk.out j j1 hj j3
    ·have e1 : j / 64 = k / 64 := by omega
     have e2 : k % 64 <= j % 64 := by omega
     unfold maskT
     rw [e1, Hgd.out]
     exact mask_zero x M (k % 64) Hy.out _ e2
   ·have hyb : ((y : Int) == 0) = false := by simp; exact hy0
    obtain ⟨hc1, hc2⟩ := ctz_bit y hylt hy0
    have hc3 : Lib.ctz 64 y < 64 := (Lib.lowest_bit 64 y hy0 hylt).2
    obtain ⟨hf1, hf2⟩ := found_in ws M k x y _ Hgd.out hy hy64 hc1 hc2
    have HT := Lib.hid (TrailingZeros64 HH.out Ht.out y hylt hy0)
    have Hy := Lib.hid hy; clear hy hy64 hc1 hc2 hy0
    generalize Lib.ctz 64 y = z at *
    have Hf1 := Lib.hid hf1; clear hf1
    have Hf2 := Lib.hid hf2; clear hf2
    by_cases hz : ((k + z : Nat) : Int) < n
    ·go_wp2_with (go_at_call 215; refine HT.out.mono ?_; rintro e w' ⟨rfl, rfl⟩)
     go_ret2
     refine ⟨ws, k + z, true, Hw.out, ?_, rfl, rfl⟩
     unfold Found
     exact ⟨by omega, by omega, Hf1.out, fun j j1 j2 => (Nat.lt_or_ge j k).elim (fun h => Hk.out j j1 h (by omega)) (fun h => Hf2.out j h j2)⟩
    ·go_wp2_with (go_at_call 215; refine HT.out.mono ?_; rintro e w' ⟨rfl, rfl⟩)
     go_ret2
     refine ⟨ws, 0, false, Hw.out, ?_, rfl, rfl⟩
     unfold Found
     exact ⟨rfl, fun j j1 j2 => (Nat.lt_or_ge j k).elim (fun h => Hk.out j j1 h (by omega)) (fun h => Hf2.out j h (by omega))⟩
  ·go_wp2
   go_ret2
   exact ⟨ws, 0, false, Hw.out, by unfold Found; exact ⟨rfl, fun j j1 j2 => Hk.out j j1 (by omega) j2⟩, rfl, rfl⟩
theorem Words.maskT_zero {n : Nat} {ws : List Nat} {S : Nat -> Bool} (h : Words n ws S) (i : Nat) : maskT ws 0 i = S i := by
 rw [h.bit]; unfold maskT; rw [Nat.xor_zero]
theorem Words.maskT_full {n : Nat} {ws : List Nat} {S : Nat -> Bool} (h : Words n ws S) (i : Nat) : maskT ws 18446744073709551615 i = !S i := by
 rw [h.bit]; unfold maskT
 rw [Nat.testBit_xor, show (18446744073709551615 : Nat) = 2 ^ 64 - 1 from rfl, Nat.testBit_two_pow_sub_one]
 have : i % 64 < 64 := Nat.mod_lt _ (by decide)
 simp [this]
theorem Found.congr {n f : Nat} {T T' : Nat -> Bool} (hT : ∀ i, T i = T' i) {k : Nat} {ok : Bool} (h : Found n f T k ok) : Found n f T' k ok := by
 have : T = T' := funext hT
 rw [<- this]; exact h
theorem bm_Next {w : World} {l : List Say} {b n : Nat} {S : Nat -> Bool} (h : Has w l) (hm : bmS b n S ∈ l) (ht : Tab l) (from_ : Nat) (hf : from_ <= 4096) :
  Calls Tryz.prog 127 #[.pointer (some ⟨b, 0, none⟩), .int .i64 (from_ : Int)] w (SeekPost n from_ S w) := by
 have H := Lib.hid (bm_find h hm ht from_ 0 hf (by decide))
 clear h hm ht
 go_enter Tryz.func127, Tryz.ntmps127
 go_wp2_with fail
 refine H.out.mono ?_
 rintro e w' ⟨ws, k, ok, hw, hfound, rfl, rfl⟩
 have Hf := Lib.hid (hfound.congr hw.maskT_zero)
 clear hfound hw
 go_wp2
 go_ret2
 exact ⟨k, ok, Hf.out, rfl, rfl⟩
theorem bm_Free {w : World} {l : List Say} {b n : Nat} {S : Nat -> Bool} (h : Has w l) (hm : bmS b n S ∈ l) (ht : Tab l) (from_ : Nat) (hf : from_ <= 4096) :
  Calls Tryz.prog 141 #[.pointer (some ⟨b, 0, none⟩), .int .i64 (from_ : Int)] w (SeekPost n from_ (fun i => !S i) w) := by
 have H := Lib.hid (bm_find h hm ht from_ 18446744073709551615 hf (by decide))
 clear h hm ht
 go_enter Tryz.func141, Tryz.ntmps141
 go_wp2_with fail
 refine H.out.mono ?_
 rintro e w' ⟨ws, k, ok, hw, hfound, rfl, rfl⟩
 have Hf := Lib.hid (hfound.congr hw.maskT_full)
 clear hfound hw
 go_wp2
 go_ret2
 exact ⟨k, ok, Hf.out, rfl, rfl⟩
end Go.Proofs.YtgbgneiciabidaaGreatDoor
