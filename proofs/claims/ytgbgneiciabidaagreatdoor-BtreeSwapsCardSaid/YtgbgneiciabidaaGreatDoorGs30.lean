/-
  The statements of layer 12: awake.
-/
import Derived.Test.YtgbgneiciabidaaGreatDoorGs29
import Derived.Laws.StructEq
namespace Go.Proofs.YtgbgneiciabidaaGreatDoor
open Go Go.RowKit
set_option linter.all false
set_option maxHeartbeats 8000000
theorem awake_holds {es : List Ent} {Q' : Pgs} {s' : Nat} (hI : FInv es Q' (fun _ => 0)) (hL : Live Q') (hm : Moved [] Q' 0 2) (hR : Root Q' 2 [(1, 5)] s') (hs : s' <= 2) : holdsOf Q' 2 = 1 := by
 rcases hR.it with ⟨h, _, _⟩ | ⟨lv, hT, _, hh⟩
 ·cases h
 cases lv with
 | succ lv =>
  obtain ⟨g, s0, hg, hlv, hTL, rfl⟩ := hT
  have h1 := (wt_two (lv + 1) g.n.keys.length).1
  cases hp : g.n.pairs with
  | nil =>
   rw [hp] at hTL
   cases hTL
  | cons q B =>
   rw [hp] at hTL
   obtain ⟨LM, LB, sM, sB, q1, _, _, _, rfl⟩ := hTL.one
   have := q1.weighs.1
   omega
 | zero =>
  obtain ⟨g, hg, hlv, _, _⟩ := hT
  have hheld : ∀ a, heldOf Q' a = oneAt 2 a := fun a => by
   have := hm.held a
   have e : oneAt 0 a = 0 := by unfold oneAt; rw [if_neg (fun x => x.2 rfl)]
   have e2 : heldOf [] a = 0 := rfl
   omega
  have hk : g.n.kids = [] := by
   unfold Nd.kids
   rw [hlv]
   rfl
  have hall := hL.all hI (Z := [2]) (fun a ga ha hpos => by
   have h1 := hheld a
   unfold heldOf at h1
   rw [ha] at h1
   have h2 : ga.held = oneAt 2 a := h1
   unfold oneAt at h2
   by_cases e : a = 2
   ·simp [e]
   ·rw [if_neg (fun x => e x.1)] at h2; omega) (fun b hb gb hgb c hc => by
   have e : b = 2 := by simpa using hb
   subst e
   rw [hg] at hgb
   obtain rfl := Option.some.inj hgb
   rw [hk] at hc
   cases hc)
  have hr : refs Q' 2 = 0 := by
   refine Nat.eq_zero_of_not_pos fun hp => ?_
   obtain ⟨b, gb, hgb, hc⟩ := refs_who hI.up hp
   have e : b = 2 := by simpa using hall b gb hgb
   subst e
   rw [hg] at hgb
   obtain rfl := Option.some.inj hgb
   rw [hk] at hc
   cases hc
  have h3 := (hI.pg 2 g hg).2.2
  have h4 := hheld 2
  unfold heldOf at h4
  rw [hg] at h4
  have h5 : g.held = oneAt 2 2 := h4
  unfold holdsOf
  rw [hg]
  show g.holds = 1
  rw [h3, hr, h5]
  rfl
theorem awake_at {ta : Int} (h : Next [⟨1, 10⟩] [] ta) : ta = 2 := by
 obtain ⟨d, k, e, rfl, he, _, h2, _, hj⟩ := h.act
 have hd : d = 0 := by
  have := (List.getElem?_eq_some_iff.1 he).1
  simp at this
  exact this
 subst hd
 by_cases hk : k = 2
 ·subst hk
  rfl
 ·have := hj 2 (by omega) (by omega)
  cases this
theorem awake_full : ¬ FullQ [⟨1, 10⟩] [] := fun h => by
 have := h 0 ⟨1, 10⟩ rfl rfl 2 (by decide) (by decide)
 cases this
set_option maxRecDepth 100000 in
theorem awake12 {w : World} {l : List Say} (h : Has w l) (ht : Tab l) :
  Calls Tryz.prog 37 #[] w (fun r w' => r = .returned (.bool true) /\ Kept w w' /\ Has w' l) := by
 have h1 := (h.alloc (.cells #[.int .i64 10] 3)).row_of_pts (n := 1) (xs := [.int .i64 10]) (size := 1) (by simp) (Nat.le_refl _) (by simp [maxLen]) (by simp) (by simp)
 have h2 : Has (w.alloc (.cells #[.int .i64 10] 3)) (intsS (.slice (some ⟨w.heap.size, 0, none⟩) 1 1) [10] :: l) := h1
 have HM := Lib.hid (made12 [10] h2 (Srcs.of_ints (.head _)) (by decide))
 have HK := Lib.hid ((Kept.refl w).alloc (.cells #[.int .i64 10] 3))
 have Ht := Lib.hid ht
 clear h h1 h2 ht
 go_enter Tryz.func37, Tryz.ntmps37
 go_wp2_with fail
 refine HM.out.mono ?_
 rintro r w1 ⟨t, sp, p, bank, rfl, hK1, h3⟩
 generalize w.heap.size = g0 at *
 have c1 : w1.cell? ⟨t, 1, none⟩ = some (.pointer (some ⟨p, 0, none⟩)) := cell_of h3.got 1 rfl
 have lt1 := World.block_lt_of_cell? _ _ c1
 have HS := Lib.hid (bt_Set 0 1 5 h3.swap Ht.out.cons.cons (.nil _) (fun a g hg => by cases hg) (by omega) (by omega))
 have HK1 := Lib.hid (HK.out.trans hK1)
 clear h3 hK1 HM HK
 go_wp2_with fail
 refine HS.out.mono ?_
 rintro r w2 (⟨hno, _⟩ | ⟨_, hK2, Q', hL, h4, (⟨_, ⟨Q1, news, _, _, hfull, hq⟩, _⟩ | ⟨ta, s', rfl, hmv, hs, hR, hnx⟩)⟩)
 ·exact absurd hno (by decide)
 ·rw [hq rfl] at hfull
  exact absurd hfull awake_full
 have hta := awake_at (hnx rfl)
 subst hta
 have c1 : w2.cell? ⟨t, 1, none⟩ = some (.pointer (some ⟨p, 0, none⟩)) := cell_of (h4.at (b := t) (o := .cells #[.pointer (some ⟨sp, 0, none⟩), .pointer (some ⟨p, 0, none⟩), .int .i64 0, .int .i64 0, .int .i64 0, .int .i64 0, .slice none 0 0, .slice none 0 0, .slice none 0 0, .slice none 0 0] 70 (0, 0)) (by simp [treesS])) 1 rfl
 have lt2 := World.block_lt_of_cell? _ _ c1
 have HFn := Lib.hid (bt_FindR 2 1 h4 hR)
 have HQ := Lib.hid (And.intro hL (And.intro hmv (And.intro hs hR)))
 have HK2 := Lib.hid (HK1.out.trans hK2)
 clear h4 hL hmv hs hR hnx hK2 HS HK1
 go_wp2_with fail
 refine HFn.out.mono ?_
 rintro r w3 ⟨hK3, rfl, h5⟩
 have c1 : w3.cell? ⟨t, 1, none⟩ = some (.pointer (some ⟨p, 0, none⟩)) := cell_of (h5.at (b := t) (o := .cells #[.pointer (some ⟨sp, 0, none⟩), .pointer (some ⟨p, 0, none⟩), .int .i64 0, .int .i64 0, .int .i64 0, .int .i64 0, .slice none 0 0, .slice none 0 0, .slice none 0 0, .slice none 0 0] 70 (0, 0)) (by simp [treesS])) 1 rfl
 have lt3 := World.block_lt_of_cell? _ _ c1
 have hho := bt_Holds h5 2 (by omega) (by omega)
 rw [awake_holds h5.bt_inv.1 HQ.out.1 HQ.out.2.1 HQ.out.2.2.2 HQ.out.2.2.1] at hho
 have HH := Lib.hid hho
 have HF : Hid (Kept w w3 /\ Has w3 l) := ⟨HK2.out.trans hK3, h5.tail.tail.tail⟩
 clear h5 hho hK3 HFn HQ HK2
 rw [show foundV (putL [] 1 5) 1 = .tuple #[.int .i64 5, .bool true] from rfl]
 go_wp2_with fail
 refine HH.out.mono ?_
 rintro r w4 ⟨rfl, rfl⟩
 clear HH
 go_wp2
 go_ret
 exact ⟨rfl, HF.out⟩
/-
  Two pairs are compared.
-/
set_option maxRecDepth 100000 in
theorem neq_pair (a b c d : Int) (W : World) : (binOp .neq 87 (.agg #[.int .i64 a, .int .i64 b]) (.agg #[.int .i64 c, .int .i64 d])).run Tryz.prog W = .ok (.bool (!(a == c && b == d))) W := by
 have hu := Tryz.underlying87
 have hi := Tryz.underlying3
 have hs : Tryz.prog.stoodInHeld 87 = false := by kernel_rfl
 have hf : Tryz.prog.underlying 87 = some (.struct (Tryz.prog.fieldsOf 87)) := by unfold Program.fieldsOf; rw [hu]
 rw [run_neq_struct, run_equalIn_agg W 9999 _ _ _ hf hs]
 unfold Program.fieldsOf
 rw [hu]
 simp [Op.eqFields, part, typeInfo, sizeOf, run_underlying hu, run_underlying hi, asAgg, Result.andThen, go_sem, run_equalIn_int, hi]
 by_cases h1 : a = c <;> by_cases h2 : b = d <;> simp [h1, h2]
theorem guard_pair (x y : Operand) (a b c d : Int) (W : World) : (eqGuard .neq 87 x y (.agg #[.int .i64 a, .int .i64 b]) (.agg #[.int .i64 c, .int .i64 d])).run Tryz.prog W = .ok () W := run_eqGuard_agg W _ _ _ _ _ _ (by kernel_rfl)
end Go.Proofs.YtgbgneiciabidaaGreatDoor
