/-
  Nodes (layer 10): the place of a key.
-/
import Derived.Test.YtgbgneiciabidaaGreatDoorGs11
import Derived.Test.YtgbgneiciabidaaGreatDoorGs7
namespace Go.Proofs.YtgbgneiciabidaaGreatDoor
open Go Go.RowKit
set_option linter.all false
set_option maxHeartbeats 8000000
def lowB (xs : List Int) (x : Int) : Nat := (xs.takeWhile fun y => decide (y < x)).length
theorem lowB_of {xs : List Int} {x : Int} {i : Nat} (hi : i <= xs.length) (h1 : ∀ (t : Nat) y, t < i -> xs[t]? = some y -> y < x) (h2 : ∀ (t : Nat) y, i <= t -> xs[t]? = some y -> x <= y) : lowB xs x = i := by
 unfold lowB
 have e : xs = xs.take i ++ xs.drop i := (List.take_append_drop i xs).symm
 rw [e, List.takeWhile_append_of_pos]
 ·have hd : (xs.drop i).takeWhile (fun y => decide (y < x)) = [] := by
   cases hq : xs.drop i with
   | nil => rfl
   | cons y r =>
    have : xs[i]? = some y := by
     have h3 := congrArg (·[0]?) hq
     simp only [List.getElem?_drop] at h3
     simpa using h3
    have := h2 i y (Nat.le_refl _) this
    rw [List.takeWhile_cons, if_neg (by simpa using this)]
  rw [hd, List.append_nil, List.length_take]
  omega
 ·intro y hy
  obtain ⟨t, ht, rfl⟩ := List.getElem_of_mem hy
  rw [List.getElem_take]
  rw [List.length_take] at ht
  simpa using h1 t _ (by omega) (List.getElem?_eq_getElem (by omega))
theorem cmp_isNaN_int {w : World} (x : Int) : Calls Tryz.prog 240 #[.int .i64 x] w fun r w' => r = .returned (.bool false) /\ w' = w := by
 go_enter Tryz.func240, Tryz.ntmps240
 go_wp2
 go_ret
 exact ⟨rfl, rfl⟩
theorem sl_isNaN_int {w : World} (x : Int) : Calls Tryz.prog 212 #[.int .i64 x] w fun r w' => r = .returned (.bool false) /\ w' = w := by
 go_enter Tryz.func212, Tryz.ntmps212
 go_wp2
 go_ret
 exact ⟨rfl, rfl⟩
theorem cmp_Less_int {w : World} (x y : Int) : Calls Tryz.prog 211 #[.int .i64 x, .int .i64 y] w fun r w' => r = .returned (.bool (decide (x < y))) /\ w' = w := by
 have HN := Lib.hid (cmp_isNaN_int (w := w) x)
 go_enter Tryz.func211, Tryz.ntmps211
 go_wp2_with fail
 refine HN.out.mono ?_
 rintro r w1 ⟨rfl, rfl⟩
 go_wp2
 go_ret
 exact ⟨rfl, rfl⟩
set_option maxRecDepth 100000 in
theorem sl_BinarySearch {w : World} {v : Value} {xs : List Int} (h : Rd w v xs) (hs : xs.Pairwise (· <= ·)) (hl : xs.length <= 1000000) (x : Int) :
  Calls Tryz.prog 169 #[v, .int .i64 x] w fun r w' => r = .returned (.tuple #[.int .i64 (lowB xs x : Nat), .bool (decide (xs[lowB xs x]? = some x))]) /\ w' = w := by
 obtain ⟨a, c, rfl, hr⟩ := h
 have HA : Hid (∀ (k : Nat) (y : Int), xs[k]? = some y -> ∃ g o, a = some ⟨g, o, none⟩ /\ w.cell? ⟨g, o + k, none⟩ = some (.int .i64 y)) := fun k y hx => by
  have hk := (List.getElem?_eq_some_iff.1 hx).1
  rw [List.getElem?_eq_getElem hk] at hx
  rw [<- Option.some.inj hx]; exact hr k hk
 have HS : Hid (∀ (s t : Nat) (y z : Int), s <= t -> xs[s]? = some y -> xs[t]? = some z -> y <= z) := fun s t y z hst h1 h2 => by
  obtain ⟨k1, e1⟩ := List.getElem?_eq_some_iff.1 h1
  obtain ⟨k2, e2⟩ := List.getElem?_eq_some_iff.1 h2
  rcases Nat.lt_or_ge s t with hlt | hge
  ·rw [<- e1, <- e2]; exact List.pairwise_iff_getElem.1 hs s t k1 k2 hlt
  ·obtain rfl : s = t := by omega
   rw [h1] at h2; obtain rfl := Option.some.inj h2; exact Int.le_refl _
 have HL := Lib.hid (fun y : Int => cmp_Less_int (w := w) y x)
 have HN := Lib.hid (fun y : Int => sl_isNaN_int (w := w) y)
 clear hr hs
 generalize hn : xs.length = n at *
 have Hn := Lib.hid hn
 have hnI : (n : Int) <= 1000000 := by omega
 clear hn
 go_enter Tryz.func169, Tryz.ntmps169
 go_wp2
 go_loopg [7, 8] n (fun gk i j wr => ∃ p q : Nat, p <= q /\ q <= n /\ gk = q - p /\ i = .int .i64 p /\ j = .int .i64 q /\ Hid (∀ (t : Nat) y, t < p -> xs[t]? = some y -> y < x) /\ Hid (∀ (t : Nat) y, q <= t -> xs[t]? = some y -> x <= y) /\ wr = w)
 case atStart => exact ⟨0, n, Nat.zero_le _, Nat.le_refl _, rfl, rfl, rfl, fun t y ht => absurd ht (Nat.not_lt_zero _), fun t y ht hy => by have := (List.getElem?_eq_some_iff.1 hy).1; have := Hn.out; omega, rfl⟩
 case round =>
  obtain ⟨p, q, hpq, hqn, hgk, rfl, rfl, HP, HQ, rfl⟩ := hrel
  obtain rfl := hgk.symm
  by_cases hlt : p < q
  ·have hkl : (p + q) / 2 < xs.length := by have := Hn.out; omega
   obtain ⟨g1, o1, rfl, c1⟩ := HA.out ((p + q) / 2) xs[(p + q) / 2] (List.getElem?_eq_getElem hkl)
   have Hm : Hid (xs[(p + q) / 2]? = some xs[(p + q) / 2]) := List.getElem?_eq_getElem hkl
   generalize xs[(p + q) / 2] = y at *
   have l1 := World.block_lt_of_cell? _ _ c1
   clear hkl
   by_cases hyx : y < x
   ·go_wp2_with (go_at_call 211; refine (HL.out _).mono ?_; rintro r w1 ⟨rfl, rfl⟩)
    go_roundg (q - ((p + q) / 2 + 1))
    case measure => omega
    case rel => exact ⟨(p + q) / 2 + 1, q, by omega, hqn, rfl, by rw [show ((p : Int) + (q : Int)) / 2 + 1 = (((p + q) / 2 + 1 : Nat) : Int) by omega], rfl, fun t z ht hz => Int.lt_of_le_of_lt (HS.out t ((p + q) / 2) z y (by omega) hz Hm.out) hyx, HQ, rfl⟩
   ·go_wp2_with (go_at_call 211; refine (HL.out _).mono ?_; rintro r w1 ⟨rfl, rfl⟩)
    go_roundg ((p + q) / 2 - p)
    case measure => omega
    case rel => exact ⟨p, (p + q) / 2, by omega, by omega, rfl, rfl, by rw [show ((p : Int) + (q : Int)) / 2 = (((p + q) / 2 : Nat) : Int) by omega], HP, fun t z ht hz => by
      have := HS.out ((p + q) / 2) t y z ht Hm.out hz
      omega, rfl⟩
  ·have hpe : p = q := by omega
   subst hpe
   have HE : Hid (lowB xs x = p) := lowB_of (by have := Hn.out; omega) HP.out HQ.out
   by_cases hpn : p < n
   ·have hkl : p < xs.length := by have := Hn.out; omega
    obtain ⟨g1, o1, rfl, c1⟩ := HA.out p xs[p] (List.getElem?_eq_getElem hkl)
    have Hm : Hid (xs[p]? = some xs[p]) := List.getElem?_eq_getElem hkl
    generalize xs[p] = y at *
    have l1 := World.block_lt_of_cell? _ _ c1
    have hpI : (p : Int) < (n : Int) := by omega
    clear hkl
    by_cases hyx : y = x
    ·have hyB : (y == x) = true := by simpa using hyx
     have HF : Hid ((wr, lowB xs x, decide (xs[lowB xs x]? = some x)) = (wr, p, true)) := by
      show _ = _
      rw [HE.out, Hm.out, hyx]; simp
     go_wp2_with (go_at_call 212; refine (HN.out _).mono ?_; rintro r w1 ⟨rfl, rfl⟩)
     go_ret2
     have hf := HF.out
     injection hf with _ hf
     injection hf with hf1 hf2
     exact ⟨by rw [hf2, hf1] <;> rfl, rfl⟩
    ·have hyB : (y == x) = false := by simpa using hyx
     have HF : Hid ((wr, lowB xs x, decide (xs[lowB xs x]? = some x)) = (wr, p, false)) := by
      show _ = _
      rw [HE.out, Hm.out]; simp [hyx]
     go_wp2_with (go_at_call 212; refine (HN.out _).mono ?_; rintro r w1 ⟨rfl, rfl⟩)
     go_ret2
     have hf := HF.out
     injection hf with _ hf
     injection hf with hf1 hf2
     exact ⟨by rw [hf2, hf1] <;> rfl, rfl⟩
   ·have hpI : (n : Int) <= (p : Int) := by omega
    have HF : Hid ((wr, lowB xs x, decide (xs[lowB xs x]? = some x)) = (wr, p, false)) := by
     show _ = _
     rw [HE.out, List.getElem?_eq_none (by have := Hn.out; omega)]; simp
    go_wp2
    go_ret2
    have hf := HF.out
    injection hf with _ hf
    injection hf with hf1 hf2
    exact ⟨by rw [hf2, hf1] <;> rfl, rfl⟩
set_option maxRecDepth 100000 in
theorem node_Find {w : World} (nd : Nd) {kv vv : Value} (h : Rd w kv nd.keys) (hs : nd.keys.Pairwise (· <= ·)) (hl : nd.keys.length <= 1000000) (x : Int) :
  Calls Tryz.prog 108 #[nd.val kv vv, .int .i64 x] w fun r w' => r = .returned (if nd.keys[lowB nd.keys x]? = some x then .tuple #[.int .i64 (lowB nd.keys x : Nat), .bool true] else .tuple #[.int .i64 ((lowB nd.keys x : Nat) - 1), .bool false]) /\ Below w.heap.size w w' := by
 obtain ⟨lv, ks, vs⟩ := nd
 have hb : Below w.heap.size w (w.alloc (.cells #[.int .i64 lv, kv, vv] 35)) := (Below.refl _ _).alloc (Nat.le_refl _) _
 have HC := Lib.hid (sl_BinarySearch (h.below hb) hs hl x)
 have hlb : lowB ks x <= 1000000 := Nat.le_trans (List.takeWhile_sublist _).length_le hl
 have HB := Lib.hid hb
 obtain ⟨ka, kc, rfl, _⟩ := h
 clear hb hs hl
 simp only [Nd.val] at *
 by_cases hx : ks[lowB ks x]? = some x
 ·rw [decide_eq_true hx] at HC
  rw [if_pos hx]
  clear hx
  generalize lowB ks x = p at *
  go_enter Tryz.func108, Tryz.ntmps108
  go_wp2_with fail
  refine HC.out.mono ?_
  rintro r w1 ⟨rfl, rfl⟩
  go_wp2
  go_ret2
  exact ⟨rfl, HB.out⟩
 ·rw [decide_eq_false hx] at HC
  rw [if_neg hx]
  clear hx
  generalize lowB ks x = p at *
  have hw : IntKind.i64.wrap ((p : Int) - 1) = (p : Int) - 1 := by rw [IntKind.wrap_i64]; omega
  go_enter Tryz.func108, Tryz.ntmps108
  go_wp2_with fail
  refine HC.out.mono ?_
  rintro r w1 ⟨rfl, rfl⟩
  go_wp2
  go_ret2
  exact ⟨rfl, HB.out⟩
end Go.Proofs.YtgbgneiciabidaaGreatDoor
