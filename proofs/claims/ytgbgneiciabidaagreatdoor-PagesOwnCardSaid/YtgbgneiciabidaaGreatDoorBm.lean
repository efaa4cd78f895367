/-
  Words of bits: what bits.OnesCount64 and bits.TrailingZeros64 answer.
-/
import Derived.Test.YtgbgneiciabidaaGreatDoorProg
import Derived.Test.YtgbgneiciabidaaGreatDoorSep
import Derived.Test.YtgbgneiciabidaaGreatDoorPop
import Derived.Outline
import Derived.Lib.Hide
import Derived.Lib.TrailingZeros
import Derived.Laws.Bits128
namespace Go.Proofs.YtgbgneiciabidaaGreatDoor
open Go Go.RowKit
set_option linter.unusedVariables false
set_option linter.unusedSimpArgs false

theorem ones_core (x p1 p2 a1 p3 p4 a2 s3 a3 a4 a5 a6 r : Nat) (w : World)
    (h1 : bits BinOp.and IntKind.u64 ((x : Int) / 2) 6148914691236517205 = (p1 : Int)) (h2 : bits BinOp.and IntKind.u64 (x : Int) 6148914691236517205 = (p2 : Int))
    (h3 : IntKind.u64.wrap ((p1 : Int) + p2) = (a1 : Int))
    (h4 : bits BinOp.and IntKind.u64 ((a1 : Int) / 4) 3689348814741910323 = (p3 : Int)) (h5 : bits BinOp.and IntKind.u64 (a1 : Int) 3689348814741910323 = (p4 : Int))
    (h6 : IntKind.u64.wrap ((p3 : Int) + p4) = (a2 : Int)) (h7 : IntKind.u64.wrap ((a2 : Int) / 16 + a2) = (s3 : Int))
    (h8 : bits BinOp.and IntKind.u64 (s3 : Int) 1085102592571150095 = (a3 : Int))
    (h9 : IntKind.u64.wrap ((a3 : Int) + (a3 : Int) / 256) = (a4 : Int)) (h10 : IntKind.u64.wrap ((a4 : Int) + (a4 : Int) / 65536) = (a5 : Int)) (h11 : IntKind.u64.wrap ((a5 : Int) + (a5 : Int) / 4294967296) = (a6 : Int))
    (h12 : a6 < 9223372036854775808) (h13 : bits BinOp.and IntKind.i64 (a6 : Int) 127 = (r : Int)) :
    Calls Tryz.prog 221 #[.int .u64 (x : Int)] w fun e w' => e = .returned (.int .i64 (r : Int)) ∧ w' = w := by
  go_enter Tryz.func221, Tryz.ntmps221
  go_wp2
  go_ret
  exact ⟨rfl, rfl⟩

theorem wrap_u64_of (n : Nat) (h : n < 18446744073709551616) : IntKind.u64.wrap (n : Int) = (n : Int) := by rw [IntKind.wrap_u64]; omega

theorem OnesCount64 (x : Nat) (hx : x < 18446744073709551616) (w : World) :
    Calls Tryz.prog 221 #[.int .u64 (x : Int)] w fun e w' => e = .returned (.int .i64 (pop 64 x : Nat)) ∧ w' = w := by
  have hs := swar_eq x hx
  simp only [swar] at hs
  have b1 : x / 2 &&& 6148914691236517205 ≤ 6148914691236517205 := Nat.and_le_right
  have b2 : x &&& 6148914691236517205 ≤ 6148914691236517205 := Nat.and_le_right
  have h1 := bits_and_u64_nat (x / 2) 6148914691236517205 (by omega) (by decide)
  have h2 := bits_and_u64_nat x 6148914691236517205 hx (by decide)
  generalize x / 2 &&& 6148914691236517205 = p1 at *
  generalize x &&& 6148914691236517205 = p2 at *
  have b3 : (p1 + p2) / 4 &&& 3689348814741910323 ≤ 3689348814741910323 := Nat.and_le_right
  have b4 : (p1 + p2) &&& 3689348814741910323 ≤ 3689348814741910323 := Nat.and_le_right
  have h3 := wrap_u64_of (p1 + p2) (by omega)
  have h4 := bits_and_u64_nat ((p1 + p2) / 4) 3689348814741910323 (by omega) (by decide)
  have h5 := bits_and_u64_nat (p1 + p2) 3689348814741910323 (by omega) (by decide)
  generalize (p1 + p2) / 4 &&& 3689348814741910323 = p3 at *
  generalize (p1 + p2) &&& 3689348814741910323 = p4 at *
  have h6 := wrap_u64_of (p3 + p4) (by omega)
  have h7 := wrap_u64_of ((p3 + p4) / 16 + (p3 + p4)) (by omega)
  have b5 : ((p3 + p4) / 16 + (p3 + p4)) &&& 1085102592571150095 ≤ 1085102592571150095 := Nat.and_le_right
  have h8 := bits_and_u64_nat ((p3 + p4) / 16 + (p3 + p4)) 1085102592571150095 (by omega) (by decide)
  generalize ((p3 + p4) / 16 + (p3 + p4)) &&& 1085102592571150095 = a3 at *
  have h9 := wrap_u64_of (a3 + a3 / 256) (by omega)
  have h10 := wrap_u64_of ((a3 + a3 / 256) + (a3 + a3 / 256) / 65536) (by omega)
  have h11 := wrap_u64_of (((a3 + a3 / 256) + (a3 + a3 / 256) / 65536) + ((a3 + a3 / 256) + (a3 + a3 / 256) / 65536) / 4294967296) (by omega)
  have h12 : ((a3 + a3 / 256) + (a3 + a3 / 256) / 65536) + ((a3 + a3 / 256) + (a3 + a3 / 256) / 65536) / 4294967296 < 9223372036854775808 := by omega
  refine ones_core x p1 p2 (p1 + p2) p3 p4 (p3 + p4) ((p3 + p4) / 16 + (p3 + p4)) a3 (a3 + a3 / 256) ((a3 + a3 / 256) + (a3 + a3 / 256) / 65536)
    (((a3 + a3 / 256) + (a3 + a3 / 256) / 65536) + ((a3 + a3 / 256) + (a3 + a3 / 256) / 65536) / 4294967296) (pop 64 x) w ?_ ?_ ?_ ?_ ?_ ?_ ?_ ?_ ?_ ?_ ?_ h12 ?_
  · simpa using h1
  · simpa using h2
  · simpa using h3
  · simpa using h4
  · simpa using h5
  · simpa using h6
  · simpa using h7
  · simpa using h8
  · simpa using h9
  · simpa using h10
  · simpa using h11
  · rw [← hs, i64_and127]
    omega
end Go.Proofs.YtgbgneiciabidaaGreatDoor
