/-
  The statements of layer 12: equal.
-/
import Derived.Test.YtgbgneiciabidaaGreatDoorGo44
namespace Go.Proofs.YtgbgneiciabidaaGreatDoor
open Go Go.RowKit
set_option linter.all false

attribute [-go_sem] run_neq_struct
attribute [local go_sem] neq_pair guard_pair
def EqM (w : World) (l : List Say) (ps qs : List KV) (k : Nat) (wr : World) : Prop := Kept w wr ∧ Has wr l ∧ ps.take k = qs.take k
def EqPost (ps qs : List KV) (l : List Say) (w : World) (r : Ending) (w' : World) : Prop := r = .returned (.bool (decide (ps = qs))) ∧ Kept w w' ∧ Has w' l
set_option maxHeartbeats 4000000 in
set_option maxRecDepth 100000 in
theorem law_equal {w : World} {l : List Say} {v1 v2 : Value} {ps qs : List KV} (h : Has w l) (h1 : pairsS v1 ps ∈ l) (h2 : pairsS v2 qs ∈ l) (hp : ps.length ≤ 100000) :
    Calls Tryz.prog 41 #[v1, v2] w (EqPost ps qs l w) := by
  obtain ⟨a1, q1, rfl, _, _⟩ := h.pairs_read h1
  obtain ⟨a2, q2, rfl, _, _⟩ := h.pairs_read h2
  by_cases hl : ps.length = qs.length
  · obtain ⟨n, hn⟩ : ∃ n, ps.length = n := ⟨_, rfl⟩
    rw [← hl] at h2 ⊢
    rw [hn] at h1 h2 hp hl ⊢
    have HM0 : Hid (EqM w l ps qs 0 w) := ⟨Kept.refl w, h, rfl⟩
    have HH := Lib.hid (And.intro h1 (And.intro h2 (And.intro hn hl.symm)))
    clear h h1 h2 hn hl
    go_enter Tryz.func41, Tryz.ntmps41
    go_wp2
    go_loopg [13] n (fun gk i wr => ∃ k : Nat, k ≤ n ∧ gk = n - k ∧ i = .int .i64 k ∧ Hid (EqM w l ps qs k wr))
    case atStart => exact ⟨0, Nat.zero_le _, rfl, rfl, HM0⟩
    case round =>
      clear HM0
      obtain ⟨k, hk, rfl, rfl, HM⟩ := hrel
      obtain ⟨hK, hh, ht⟩ := HM.out
      clear HM
      obtain ⟨m1, m2, hn1, hn2⟩ := HH.out
      by_cases hlt : k < n
      · obtain ⟨b1, c1, e1, _, r1⟩ := hh.pairs_read m1
        injection e1 with e1 _ _
        subst e1
        obtain ⟨b2, c2, e2, _, r2⟩ := hh.pairs_read m2
        injection e2 with e2 _ _
        subst e2
        obtain ⟨x, hx⟩ : ∃ x, ps[k]? = some x := ⟨_, List.getElem?_eq_getElem (by omega)⟩
        obtain ⟨y, hy⟩ : ∃ y, qs[k]? = some y := ⟨_, List.getElem?_eq_getElem (by omega)⟩
        obtain ⟨g1, rfl, x0, x1⟩ := r1 k x hx
        obtain ⟨g2, rfl, y0, y1⟩ := r2 k y hy
        obtain ⟨xk, xv⟩ := x
        obtain ⟨yk, yv⟩ := y
        simp only at x0 x1 y0 y1
        have lx := World.block_lt_of_cell? _ _ x0
        have ly := World.block_lt_of_cell? _ _ y0
        have kI : (k : Int) < (n : Int) := by omega
        have k0 : (0 : Int) ≤ k := by omega
        have Hx := Lib.hid (And.intro hx (And.intro hy ht))
        have HK := Lib.hid (And.intro hK hh)
        clear hK hh ht m1 m2 hn1 hn2 r1 r2 hx hy
        go_upto_region 6 with fail
        go_quiet (fail)
        have hKd := HK.out.1.drewN nq
        have hhd := HK.out.2.drewN nq
        generalize wr.drewN nq = wn at *
        by_cases he : xk = yk ∧ xv = yv
        · have hb : (!xk == yk || !xv == yv) = false := by simp [he.1, he.2]
          have HM2 : Hid (EqM w l ps qs (k + 1) wn) := by
            refine ⟨hKd, hhd, ?_⟩
            rw [(take_succ Hx.out.1).1, (take_succ Hx.out.2.1).1, Hx.out.2.2, he.1, he.2]
          clear hKd hhd HK Hx x0 x1 y0 y1 lx ly he
          rw [hb]
          go_wp2
          go_roundg (n - (k + 1))
          case measure => omega
          case rel => exact ⟨k + 1, by omega, rfl, by go_num, HM2⟩
        · have hb : (!xk == yk || !xv == yv) = true := by
            by_cases h1 : xk = yk
            · have h2 : ¬ xv = yv := fun h => he ⟨h1, h⟩
              simp [h2]
            · simp [h1]
          have HF : Hid (EqPost ps qs l w (.returned (.bool false)) wn) := by
            refine ⟨?_, hKd, hhd⟩
            rw [decide_eq_false]
            intro hpq
            have q1 := Hx.out.1
            rw [hpq, Hx.out.2.1] at q1
            have q2 := Option.some.inj q1
            injection q2 with q2 q3
            exact he ⟨q2.symm, q3.symm⟩
          clear hKd hhd HK Hx x0 x1 y0 y1 lx ly he
          rw [hb]
          go_wp2
          go_ret
          exact HF.out
      · have hke : k = n := by omega
        have HF : Hid (EqPost ps qs l w (.returned (.bool true)) wr) := by
          refine ⟨?_, hK, hh⟩
          rw [List.take_of_length_le (by omega), List.take_of_length_le (by omega)] at ht
          rw [decide_eq_true ht]
        clear hK hh ht m1 m2 hn1 hn2 HH
        subst hke
        go_wp2
        go_ret
        exact HF.out
  · have HF : Hid (EqPost ps qs l w (.returned (.bool false)) w) := by
      refine ⟨?_, Kept.refl w, h⟩
      rw [decide_eq_false]
      intro hpq
      exact hl (by rw [hpq])
    have hlb : ((ps.length : Int) == (qs.length : Int)) = false := by simp; omega
    clear h h1 h2 hl hp
    go_enter Tryz.func41, Tryz.ntmps41
    go_wp2
    go_ret
    exact HF.out
end Go.Proofs.YtgbgneiciabidaaGreatDoor
