/-
  Slices searched by a function: slices.IndexFunc, slices.ContainsFunc at whole numbers.
-/
import Derived.Test.YtgbgneiciabidaaGreatDoorProg
import Derived.Test.YtgbgneiciabidaaGreatDoorSep
import Derived.Outline
import Derived.Lib.Hide
namespace Go.Proofs.YtgbgneiciabidaaGreatDoor
open Go Go.RowKit
set_option linter.unusedVariables false
set_option linter.unusedSimpArgs false

/-- A function that may be called by its number. -/
structure May (K : FuncId) : Prop where
  it : ∃ fn, Tryz.prog.funcs[K]? = some fn ∧ (fn.name == "runtime.NumGoroutine") = false ∧ fn.body.isNone = false

theorem May.run {K : FuncId} (h : May K) (vs : Array Value) (w : World) : (callFunc K vs).run Tryz.prog w = .ok (.enter K vs) w := by
  obtain ⟨fn, hf, hn, hb⟩ := h.it
  have hn' : ¬ fn.name = "runtime.NumGoroutine" := by simpa using hn
  have hb' : ¬ fn.body = none := by intro e; rw [e] at hb; cases hb
  simp [callFunc, program, Sem.run, bind, Sem.bind, hf, hn', hb']

/-- Where the first one stands that meets p; -1: none. -/
def firstAt (p : Int → Bool) (xs : List Int) : Int := match xs.findIdx? p with | some i => i | none => -1

theorem firstAt_hit (p : Int → Bool) (xs : List Int) (k : Nat) (hk : k < xs.length) (hb : ∀ j (h : j < k), p (xs[j]'(by omega)) = false) (hp : p xs[k] = true) : firstAt p xs = k := by
  have : xs.findIdx? p = some k := by
    rw [List.findIdx?_eq_some_iff_getElem]
    exact ⟨hk, hp, fun j hj => by simp [hb j hj]⟩
  simp [firstAt, this]
theorem firstAt_none (p : Int → Bool) (xs : List Int) (hb : ∀ j (h : j < xs.length), p xs[j] = false) : firstAt p xs = -1 := by
  have : xs.findIdx? p = none := by
    rw [List.findIdx?_eq_none_iff]
    intro x hx
    obtain ⟨j, hj, rfl⟩ := List.getElem_of_mem hx
    exact hb j hj
  simp [firstAt, this]
theorem firstAt_any (p : Int → Bool) (xs : List Int) : decide (0 ≤ firstAt p xs) = xs.any p := by
  unfold firstAt
  cases h : xs.findIdx? p with
  | none =>
    rw [List.findIdx?_eq_none_iff] at h
    have : xs.any p = false := by simpa using h
    rw [this]; rfl
  | some i =>
    rw [List.findIdx?_eq_some_iff_getElem] at h
    obtain ⟨hi, hp, _⟩ := h
    have : xs.any p = true := List.any_eq_true.2 ⟨_, List.getElem_mem hi, hp⟩
    rw [this]; simp

set_option maxRecDepth 100000 in
set_option maxHeartbeats 1000000 in
theorem IndexFuncInt (K : FuncId) (hK : May K) (caps : Array Value) (p : Int → Bool) (a : Option Addr) (c : Nat) (xs : List Int) (w : World) (hm : xs.length ≤ maxLen)
    (hx : ∀ (k : Nat) (h : k < xs.length), ∃ b off, a = some ⟨b, off, none⟩ ∧ w.cell? ⟨b, off + k, none⟩ = some (.int .i64 xs[k]))
    (hp : ∀ (k m : Nat) (h : k < xs.length), Calls Tryz.prog K (#[.int .i64 xs[k]] ++ caps) (w.drewN m) fun e w' => e = .returned (.bool (p xs[k])) ∧ ∃ m', w' = w.drewN m') :
    Calls Tryz.prog 194 #[.slice a xs.length c, .func (.func K) #[] caps] w fun e w' => e = .returned (.int .i64 (firstAt p xs)) ∧ ∃ m, w' = w.drewN m := by
  have hcall := fun (vs : Array Value) (w : World) => hK.run vs w
  have hm2 : xs.length ≤ 9223372036854775807 := by simpa [maxLen] using hm
  clear hm
  have Hx := Lib.hid hx; clear hx
  have Hp := Lib.hid hp; clear hp
  go_enter Tryz.func194, Tryz.ntmps194
  go_wp2
  go_loopw [8] (fun i wr => ∃ k : Nat, k ≤ xs.length ∧ i = .int .i64 k ∧ (∃ m, wr = w.drewN m) ∧ Hid (∀ j (h : j < xs.length), j < k → p xs[j] = false)) (fun i _ => xs.length - (intOf i).toNat)
  case atStart => exact ⟨0, Nat.zero_le _, rfl, ⟨0, rfl⟩, fun _ _ h => absurd h (Nat.not_lt_zero _)⟩
  case round =>
    obtain ⟨k, hk, rfl, ⟨m, rfl⟩, Hb⟩ := hrel
    by_cases hlt : k < xs.length
    · obtain ⟨b, off, rfl, hc⟩ := Hx.out k hlt
      have hq := Hp.out k m hlt
      generalize hxk : xs[k] = x at hc hq
      have hxk := Lib.hid hxk
      by_cases hpx : p x = true
      · rw [hpx] at hq
        have hq := Lib.hid hq
        have Hhit := Lib.hid (firstAt_hit p xs k hlt (fun j h => Hb.out j (by omega) h) (by rw [hxk.out]; exact hpx))
        clear hpx
        go_wp2_with fail
        refine hq.out.mono ?_
        rintro e w' ⟨rfl, m', rfl⟩
        go_wp2
        go_ret
        exact ⟨by rw [Hhit.out]; rfl, m', rfl⟩
      · have hpx : p x = false := by simpa using hpx
        rw [hpx] at hq
        have hq := Lib.hid hq
        have Hpx := Lib.hid hpx; clear hpx
        go_wp2_with fail
        refine hq.out.mono ?_
        rintro e w' ⟨rfl, m', rfl⟩
        go_wp2
        go_roundw
        case rel =>
          refine ⟨k + 1, by omega, by go_num, ⟨m', rfl⟩, fun j h hj => ?_⟩
          by_cases hjk : j = k
          · subst hjk; rw [hxk.out]; exact Hpx.out
          · exact Hb.out j h (by omega)
        case measure => simp [intOf]; omega
    · have e := firstAt_none p xs fun j h => Hb.out j h (by omega)
      have He := Lib.hid e; clear e
      go_wp2
      go_ret
      exact ⟨by rw [He.out]; rfl, m, rfl⟩

theorem ContainsFuncInt (K : FuncId) (hK : May K) (caps : Array Value) (p : Int → Bool) (a : Option Addr) (c : Nat) (xs : List Int) (w : World) (hm : xs.length ≤ maxLen)
    (hx : ∀ (k : Nat) (h : k < xs.length), ∃ b off, a = some ⟨b, off, none⟩ ∧ w.cell? ⟨b, off + k, none⟩ = some (.int .i64 xs[k]))
    (hp : ∀ (k m : Nat) (h : k < xs.length), Calls Tryz.prog K (#[.int .i64 xs[k]] ++ caps) (w.drewN m) fun e w' => e = .returned (.bool (p xs[k])) ∧ ∃ m', w' = w.drewN m') :
    Calls Tryz.prog 139 #[.slice a xs.length c, .func (.func K) #[] caps] w fun e w' => e = .returned (.bool (xs.any p)) ∧ ∃ m, w' = w.drewN m := by
  have H := Lib.hid (IndexFuncInt K hK caps p a c xs w hm hx hp)
  have He := Lib.hid (firstAt_any p xs)
  clear hx hp hm
  go_enter Tryz.func139, Tryz.ntmps139
  go_wp2_with (go_at_call 194; refine H.out.mono ?_; rintro e w' ⟨rfl, m, rfl⟩)
  go_ret
  exact ⟨by rw [← He.out]; rfl, m, rfl⟩
end Go.Proofs.YtgbgneiciabidaaGreatDoor
