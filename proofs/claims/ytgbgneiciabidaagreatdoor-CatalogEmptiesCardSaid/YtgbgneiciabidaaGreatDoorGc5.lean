/-
  The statements of layer 13: made.
-/
import Derived.Test.YtgbgneiciabidaaGreatDoorGc4
namespace Go.Proofs.YtgbgneiciabidaaGreatDoor
open Go Go.RowKit
set_option linter.all false
set_option maxHeartbeats 8000000
def world13 (r : Nat) (a b c d : Value) : Say := pts r (.cells #[a, b, c, d] 100 (0, 0))
theorem world13_set {V : World} {l : List Say} {r : Nat} {a b c d : Value} (h : Has V (world13 r a b c d :: l)) (a' b' c' d' : Value) :
  Has ((((V.setCell ⟨r, 0, none⟩ a').setCell ⟨r, 1, none⟩ b').setCell ⟨r, 2, none⟩ c').setCell ⟨r, 3, none⟩ d') (world13 r a' b' c' d' :: l) :=
 (((Has.setCell h 0 a').setCell 1 b').setCell 2 c').setCell 3 d'
def MadeC (l : List Say) (w : World) (r : Ending) (w' : World) : Prop :=
 ∃ bank sp p c, r = .returned (.tuple #[.agg #[ptrV bank, ptrV sp, ptrV p, ptrV c], .bool true]) /\ Kept w w' /\ Has w' (catS c p [] 0 :: btS p bank sp 0 (eSizes [500]) [] :: l)
set_option maxRecDepth 100000 in
theorem made13 {w : World} {l : List Say} (h : Has w l) : Calls Tryz.prog 54 #[] w (MadeC l w) := by
 have hok : sizesT [500] = true := by decide
 have h0 : Has (w.alloc (.cells #[.pointer none, .pointer none, .pointer none, .pointer none] 100)) (world13 w.heap.size (.pointer none) (.pointer none) (.pointer none) (.pointer none) :: l) := h.alloc _
 have k0 := (Kept.refl w).alloc (.cells #[.pointer none, .pointer none, .pointer none, .pointer none] 100)
 have HBN := Lib.hid (bank_New h0)
 have HK0 := Lib.hid k0
 clear h h0 k0
 go_enter Tryz.func54, Tryz.ntmps54
 go_wp2_with fail
 refine HBN.out.mono ?_
 rintro r w2 ⟨bank, rfl, hK2, h2⟩
 have hlt := hK2.size
 simp only [World.size_alloc] at hlt
 generalize w.heap.size = r0 at *
 have h3 := h2.alloc (.cells #[.pointer (some ⟨bank, 0, none⟩), .pointer none, .pointer none, .pointer none] 100)
 have hk3 := (HK0.out.trans hK2).alloc (.cells #[.pointer (some ⟨bank, 0, none⟩), .pointer none, .pointer none, .pointer none] 100)
 have HBA : Hid (Calls Tryz.prog 72 #[.pointer (some ⟨bank, 0, none⟩), .int .i64 500] _ (AddPost _ 0 bank 500 [] _)) := Lib.hid (bank_Add (h3.pull 1) 500 (by omega) (by omega) (by simp))
 have HK3 := Lib.hid hk3
 have hr2 := h3.got
 have c0 := cell_of hr2 0 rfl
 clear h2 h3 hK2 hk3 HBN HK0 hr2
 simp only [ptrV]
 go_wp2_with fail
 generalize w2.heap.size = r2 at *
 refine HBA.out.mono ?_
 rintro r w3 ⟨rfl, hK3, h3⟩
 have h4 := h3.alloc (.cells #[.int .i64 1, .int .i64 500] 139)
 have h5 : Has (w3.alloc (.cells #[.int .i64 1, .int .i64 500] 139)) (entS (.slice (some ⟨w3.heap.size, 0, none⟩) 1 1) (eSizes [500]) :: bankS 0 bank (dSizes [500]) :: world13 r2 (.pointer (some ⟨bank, 0, none⟩)) (.pointer none) (.pointer none) (.pointer none) :: world13 r0 (.pointer none) (.pointer none) (.pointer none) (.pointer none) :: l) :=
  h4.row_of_pts (size := 2) (n := 1) (cap := 1) (xs := [.int .i64 1, .int .i64 500]) rfl (Nat.le_refl _) (by simp [maxLen]) rfl rfl
 have h6 := h5.alloc (.cells #[.slice (some ⟨w3.heap.size, 0, none⟩) 1 1] 58)
 have HK6 := Lib.hid (((HK3.out.trans hK3).alloc (.cells #[.int .i64 1, .int .i64 500] 139)).alloc (.cells #[.slice (some ⟨w3.heap.size, 0, none⟩) 1 1] 58))
 have HSN := Lib.hid (sp_New h6 (v := .slice (some ⟨w3.heap.size, 0, none⟩) 1 1) (es := eSizes [500]) (by simp) (sizesT_ok hok) (sizesT_ne hok))
 clear h3 h4 h5 h6 hK3 HK3 HBA c0
 go_wp2_with fail
 refine HSN.out.mono ?_
 rintro r w4 ⟨sp, rfl, hK4, h4⟩
 generalize w3.heap.size = b5 at *
 generalize (w3.alloc (.cells #[.int .i64 1, .int .i64 500] 139)).heap.size = b6 at *
 have HST := Lib.hid (st_New h4 bank sp)
 have hr2 := h4.at (b := r2) (o := .cells #[.pointer (some ⟨bank, 0, none⟩), .pointer none, .pointer none, .pointer none] 100 (0, 0)) (by simp [world13])
 have c0 : w4.cell? ⟨r2, 0, none⟩ = some (.pointer (some ⟨bank, 0, none⟩)) := cell_of hr2 0 rfl
 have l2 := World.block_lt_of_cell? _ _ c0
 have HK4 := Lib.hid (HK6.out.trans hK4)
 clear h4 hK4 HSN HK6 hr2
 go_wp2_with fail
 refine HST.out.mono ?_
 rintro r w5 ⟨p, rfl, hK5, h5⟩
 have h5r : Has w5 (world13 r2 (.pointer (some ⟨bank, 0, none⟩)) (.pointer none) (.pointer none) (.pointer none) :: storeS p bank sp 0 [] :: spaceS sp (freshSpc (eSizes [500])) :: bankS 0 bank (dSizes [500]) :: world13 r0 (.pointer none) (.pointer none) (.pointer none) (.pointer none) :: l) := Has.skip (A := [_, _, _]) (M := [_, _]) (show Has w5 (world13 r2 (.pointer (some ⟨bank, 0, none⟩)) (.pointer none) (.pointer none) (.pointer none) :: storeS p bank sp 0 [] :: spaceS sp (freshSpc (eSizes [500])) :: pts b6 (.cells #[.slice (some ⟨b5, 0, none⟩) 1 1] 58 (0, 0)) :: entS (.slice (some ⟨b5, 0, none⟩) 1 1) (eSizes [500]) :: bankS 0 bank (dSizes [500]) :: world13 r0 (.pointer none) (.pointer none) (.pointer none) (.pointer none) :: l) from h5.pull 5)
 have h6 := ((Has.setCell h5r 1 (.pointer (some ⟨sp, 0, none⟩))).setCell 2 (.pointer (some ⟨p, 0, none⟩)))
 have h6r : Has ((w5.setCell ⟨r2, 1, none⟩ (.pointer (some ⟨sp, 0, none⟩))).setCell ⟨r2, 2, none⟩ (.pointer (some ⟨p, 0, none⟩))) (world13 r2 (.pointer (some ⟨bank, 0, none⟩)) (.pointer (some ⟨sp, 0, none⟩)) (.pointer (some ⟨p, 0, none⟩)) (.pointer none) :: storeS p bank sp 0 [] :: spaceS sp (freshSpc (eSizes [500])) :: bankS 0 bank (dSizes [500]) :: world13 r0 (.pointer none) (.pointer none) (.pointer none) (.pointer none) :: l) := h6
 have hr2 := h5r.got
 have c1 : w5.cell? ⟨r2, 1, none⟩ = some (.pointer none) := cell_of hr2 1 rfl
 have c2 : w5.cell? ⟨r2, 2, none⟩ = some (.pointer none) := cell_of hr2 2 rfl
 have f1 := thaw_of hr2 1
 have f2 := thaw_of hr2 2
 have l5 := World.block_lt_of_cell? _ _ c1
 have HK6 := Lib.hid (((HK4.out.trans hK5).setCell ⟨r2, 1, none⟩ (.pointer (some ⟨sp, 0, none⟩))).setCell ⟨r2, 2, none⟩ (.pointer (some ⟨p, 0, none⟩)))
 have H6 := Lib.hid h6r
 clear h5 h5r h6 h6r hK5 HK4 hr2 HST c0 l2
 go_upto_region 10 with fail
 generalize (w5.setCell ⟨r2, 1, none⟩ (.pointer (some ⟨sp, 0, none⟩))).setCell ⟨r2, 2, none⟩ (.pointer (some ⟨p, 0, none⟩)) = W6 at *
 have HCN := Lib.hid (cat_New H6.out p)
 have hr2 := H6.out.got
 have c2 : W6.cell? ⟨r2, 2, none⟩ = some (.pointer (some ⟨p, 0, none⟩)) := cell_of hr2 2 rfl
 have l2 := World.block_lt_of_cell? _ _ c2
 clear hr2
 go_wp2_with fail
 refine HCN.out.mono ?_
 rintro r w7 ⟨c, rfl, hK7, h7⟩
 have h8 : Has (w7.setCell ⟨r2, 3, none⟩ (.pointer (some ⟨c, 0, none⟩))) (world13 r2 (.pointer (some ⟨bank, 0, none⟩)) (.pointer (some ⟨sp, 0, none⟩)) (.pointer (some ⟨p, 0, none⟩)) (.pointer (some ⟨c, 0, none⟩)) :: catS c p [] 0 :: storeS p bank sp 0 [] :: spaceS sp (freshSpc (eSizes [500])) :: bankS 0 bank (dSizes [500]) :: world13 r0 (.pointer none) (.pointer none) (.pointer none) (.pointer none) :: l) := Has.setCell (h7.pull 1) 3 (.pointer (some ⟨c, 0, none⟩))
 have hr2 := (h7.pull 1).got
 have c3 : w7.cell? ⟨r2, 3, none⟩ = some (.pointer none) := cell_of hr2 3 rfl
 have f3 := thaw_of hr2 3
 have l7 := World.block_lt_of_cell? _ _ c3
 have HK8 := Lib.hid ((HK6.out.trans hK7).setCell ⟨r2, 3, none⟩ (.pointer (some ⟨c, 0, none⟩)))
 have H8 := Lib.hid h8
 clear h7 h8 hK7 HK6 H6 hr2 HCN c2 l2
 go_upto_region 13 with fail
 generalize w7.setCell ⟨r2, 3, none⟩ (.pointer (some ⟨c, 0, none⟩)) = W5 at *
 have hr4 := H8.out.got
 have c0 : W5.cell? ⟨r2, 0, none⟩ = some (.pointer (some ⟨bank, 0, none⟩)) := cell_of hr4 0 rfl
 have c1 : W5.cell? ⟨r2, 1, none⟩ = some (.pointer (some ⟨sp, 0, none⟩)) := cell_of hr4 1 rfl
 have c2 : W5.cell? ⟨r2, 2, none⟩ = some (.pointer (some ⟨p, 0, none⟩)) := cell_of hr4 2 rfl
 have c3 : W5.cell? ⟨r2, 3, none⟩ = some (.pointer (some ⟨c, 0, none⟩)) := cell_of hr4 3 rfl
 have l4 := World.block_lt_of_cell? _ _ c0
 have hr0 := H8.out.at (b := r0) (o := .cells #[.pointer none, .pointer none, .pointer none, .pointer none] 100 (0, 0)) (by simp [world13])
 have e0 : W5.cell? ⟨r0, 0, none⟩ = some (.pointer none) := cell_of hr0 0 rfl
 have e1 : W5.cell? ⟨r0, 1, none⟩ = some (.pointer none) := cell_of hr0 1 rfl
 have e2 : W5.cell? ⟨r0, 2, none⟩ = some (.pointer none) := cell_of hr0 2 rfl
 have e3 : W5.cell? ⟨r0, 3, none⟩ = some (.pointer none) := cell_of hr0 3 rfl
 have g0 := thaw_of hr0 0
 have g1 := thaw_of hr0 1
 have g2 := thaw_of hr0 2
 have g3 := thaw_of hr0 3
 have l2 := World.block_lt_of_cell? _ _ e0
 have HX := Lib.hid (world13_set (H8.out.pull 5) (.pointer (some ⟨bank, 0, none⟩)) (.pointer (some ⟨sp, 0, none⟩)) (.pointer (some ⟨p, 0, none⟩)) (.pointer (some ⟨c, 0, none⟩)))
 have HKX := Lib.hid ((((HK8.out.setCell ⟨r0, 0, none⟩ (.pointer (some ⟨bank, 0, none⟩))).setCell ⟨r0, 1, none⟩ (.pointer (some ⟨sp, 0, none⟩))).setCell ⟨r0, 2, none⟩ (.pointer (some ⟨p, 0, none⟩))).setCell ⟨r0, 3, none⟩ (.pointer (some ⟨c, 0, none⟩)))
 clear hr4 hr0 H8 HK8
 have hne : ¬ r2 = r0 := by omega
 have hne' : ¬ r0 = r2 := by omega
 have hb1 : (r2 == r0) = false := by simp [hne]
 have hb2 : (r0 == r2) = false := by simp [hne']
 go_region
 go_wp2
 generalize hW9 : (((W5.setCell ⟨r0, 0, none⟩ (.pointer (some ⟨bank, 0, none⟩))).setCell ⟨r0, 1, none⟩ (.pointer (some ⟨sp, 0, none⟩))).setCell ⟨r0, 2, none⟩ (.pointer (some ⟨p, 0, none⟩))).setCell ⟨r0, 3, none⟩ (.pointer (some ⟨c, 0, none⟩)) = W9 at *
 have z0 : W9.drew.cell? ⟨r0, 0, none⟩ = some (.pointer (some ⟨bank, 0, none⟩)) := cell_of HX.out.drew.got 0 rfl
 have z1 : W9.drew.cell? ⟨r0, 1, none⟩ = some (.pointer (some ⟨sp, 0, none⟩)) := cell_of HX.out.drew.got 1 rfl
 have z2 : W9.drew.cell? ⟨r0, 2, none⟩ = some (.pointer (some ⟨p, 0, none⟩)) := cell_of HX.out.drew.got 2 rfl
 have z3 : W9.drew.cell? ⟨r0, 3, none⟩ = some (.pointer (some ⟨c, 0, none⟩)) := cell_of HX.out.drew.got 3 rfl
 generalize hWd : W9.drew = Wd at *
 refine bodyPost_ret (v := .tuple #[.agg #[.pointer (some ⟨bank, 0, none⟩), .pointer (some ⟨sp, 0, none⟩), .pointer (some ⟨p, 0, none⟩), .pointer (some ⟨c, 0, none⟩)], .bool true]) (by simp [results, Tryz.results54, go_sem, z0, z1, z2, z3]) rfl ⟨bank, sp, p, c, rfl, ?_, ?_⟩
 ·rw [<- hWd]; exact HKX.out.drew
 ·rw [<- hWd]
  have h1 := HX.out.drew.tail.tail
  have h6 : Has _ (world3 p bank sp 0 0 [] (dSizes [500]) (freshSpc (eSizes [500])) (catS c p [] 0 :: l)) := h1.reord [1, 2, 1]
  exact (Has.bt_shut (N := 0) (FInv.empty (eSizes [500])) (fresh_roomT hok) (fun a g hg => by cases hg) h6.trio_of).swap
/-
  The statements of layer 13: is, awake.
-/
theorem first_at {m : Nat} {ta : Int} (hm : 3 <= m) (h : Next [⟨1, m⟩] [] ta) : ta = 2 := by
 obtain ⟨d, k, e, rfl, he, _, h2, _, hj⟩ := h.act
 have hd : d = 0 := by
  have := (List.getElem?_eq_some_iff.1 he).1
  simp at this
  exact this
 subst hd
 by_cases hk : k = 2
 ·subst hk
  rfl
 ·have := hj 2 (by omega) (by omega)
  cases this
set_option maxRecDepth 100000 in
theorem law_is13 (e : Option Int) (want : Int) (w : World) (b0 : -9223372036854775808 <= want) (b1 : want <= 9223372036854775807) : Calls Tryz.prog 60 #[errE e, .int .i64 want] w fun r w' => r = .returned (.bool (isE e want)) /\ w = w' := by
 cases hw : (want == 0) with
 | true =>
  cases e with
  | none =>
   simp only [errE, isE, hw]
   go_enter Tryz.func60, Tryz.ntmps60
   go_wp2
   go_ret
   exact ⟨rfl, rfl⟩
  | some c =>
   simp only [errE, isE, hw, errV]
   go_enter Tryz.func60, Tryz.ntmps60
   go_wp2
   go_ret
   exact ⟨rfl, rfl⟩
 | false =>
  cases e with
  | none =>
   simp only [errE, isE, hw]
   go_enter Tryz.func60, Tryz.ntmps60
   go_wp2
   go_ret
   exact ⟨rfl, rfl⟩
  | some c =>
   have HI := Lib.hid (errors_Is c want w)
   simp only [errE, isE, hw, errV] at HI ⊢
   go_enter Tryz.func60, Tryz.ntmps60
   go_wp2_with fail
   refine HI.out.mono ?_
   rintro r w1 ⟨rfl, rfl⟩
   go_wp2
   go_ret
   exact ⟨rfl, rfl⟩
set_option maxRecDepth 100000 in
theorem awake13 {w : World} {l : List Say} (h : Has w l) (ht : Tab l) :
  Calls Tryz.prog 55 #[] w (fun r w' => r = .returned (.bool true) /\ Kept w w' /\ Has w' l) := by
 have HM := Lib.hid (made13 h)
 have Ht := Lib.hid ht
 clear h ht
 go_enter Tryz.func55, Tryz.ntmps55
 go_wp2_with fail
 refine HM.out.mono ?_
 rintro r w1 ⟨bank, sp, p, c, rfl, hK1, h1⟩
 have h2 := h1.alloc (.cells #[.pointer (some ⟨bank, 0, none⟩), .pointer (some ⟨sp, 0, none⟩), .pointer (some ⟨p, 0, none⟩), .pointer (some ⟨c, 0, none⟩)] 100)
 have HK2 := Lib.hid (hK1.alloc (.cells #[.pointer (some ⟨bank, 0, none⟩), .pointer (some ⟨sp, 0, none⟩), .pointer (some ⟨p, 0, none⟩), .pointer (some ⟨c, 0, none⟩)] 100))
 have HP := Lib.hid (cat_Put ⟨1, 100, 0, 0⟩ (h2.pull 1) (by simp) (by simp))
 clear h1 h2 hK1 HM
 simp only [ptrV, Vl.val] at HP ⊢
 go_wp2_with fail
 generalize w1.heap.size = t at *
 refine HP.out.mono ?_
 rintro r w3 ⟨rfl, hK3, h3⟩
 rw [show putErr [] ⟨1, 100, 0, 0⟩ = .nilIface from by simp [putErr, Vl.right]]
 rw [show putTo [] ⟨1, 100, 0, 0⟩ = [(1, ⟨1, 100, 0, 0⟩)] from by simp [putTo, Vl.right, VMap.put, VMap.ins, VMap.del]] at h3
 have HSv := Lib.hid (cat_Save (m := 500) (s := 0) (ts := []) (L := []) (h3.reord [0, 1]) Ht.out.cons (by omega) rfl Grove.nil.more (by simp [weighs]) (by simp) (by simp))
 have hc := h3.tail.got
 have c3 : w3.cell? ⟨t, 3, none⟩ = some (.pointer (some ⟨c, 0, none⟩)) := cell_of hc 3 rfl
 have l3 := World.block_lt_of_cell? _ _ c3
 have HK3 := Lib.hid (HK2.out.trans hK3)
 clear h3 hK3 HK2 HP hc
 go_wp2_with fail
 refine HSv.out.mono ?_
 rintro r w4 ⟨rfl, hK4, Q', a', s', hG, hs, _, hnx, h4⟩
 have ha := first_at (m := 500) (by omega) (hnx rfl rfl rfl)
 subst ha
 have hc : w4.heap[t]? = some (.cells #[.pointer (some ⟨bank, 0, none⟩), .pointer (some ⟨sp, 0, none⟩), .pointer (some ⟨p, 0, none⟩), .pointer (some ⟨c, 0, none⟩)] 100 (0, 0)) := h4.tail.tail.got
 have c3 : w4.cell? ⟨t, 3, none⟩ = some (.pointer (some ⟨c, 0, none⟩)) := cell_of hc 3 rfl
 have l3 := World.block_lt_of_cell? _ _ c3
 have HR := Lib.hid (cat_Root h4 (.head _))
 have HL := Lib.hid (cat_List h4)
 have HK4 := Lib.hid (HK3.out.trans hK4)
 clear h4 hK4 HK3 hc HSv hG hs hnx
 go_wp2_with fail
 refine HR.out.mono ?_
 rintro r w5 ⟨rfl, rfl⟩
 go_wp2_with fail
 refine HL.out.mono ?_
 rintro r w6 ⟨v, rfl, hK6, h6⟩
 obtain ⟨va, vc, rfl, _⟩ := h6.vols_read (.head _)
 have HF : Hid (Kept w w6 /\ Has w6 l) := ⟨HK4.out.trans hK6, h6.tail.tail.tail.tail⟩
 clear h6 hK6 HK4 HR HL c3 l3
 rw [show (([(1, ⟨1, 100, 0, 0⟩)] : List (Int × Vl)).map (·.2)).length = 1 from rfl]
 go_wp2
 go_ret
 exact ⟨rfl, HF.out⟩
/-
  BtreeFinds: the walk.
-/
theorem bt_Pages {w : World} {l : List Say} {p bank sp N : Nat} {es : List Ent} {Q : Pgs} (h : Has w (btS p bank sp N es Q :: l)) (hn : Q.length <= 100000) :
  Calls Tryz.prog 25 #[.pointer (some ⟨p, 0, none⟩)] w (PagesPost Q (btS p bank sp N es Q :: l) w) := by
 obtain ⟨disks, X, hI, hR, hH, hh⟩ := h.bt_open
 refine (st_Pages hh hn).mono ?_
 rintro r w' ⟨v, rfl, hK, h1⟩
 have h2 : Has w' (trio p bank sp N Q disks X (intsS v (Q.map (·.1)) :: l)) := h1.reord [1, 1, 1]
 exact ⟨v, rfl, hK, (Has.bt_shut hI hR hH h2).swap⟩
/-
  Trees (layer 12): the pages below a page, in plain Lean.
-/
inductive Reach (Q : Pgs) : Int -> Int -> Prop
 | here {a : Int} : (VMap.get a Q).isSome = true -> Reach Q a a
 | kid {a c b : Int} {g : Pg} : VMap.get a Q = some g -> c ∈ g.n.kids -> Reach Q c b -> Reach Q a b
theorem Reach.some {Q : Pgs} {a b : Int} (h : Reach Q a b) : (VMap.get b Q).isSome = true := by
 induction h with
 | here h => exact h
 | kid _ _ _ ih => exact ih
theorem Reach.lv {es : List Ent} {Q : Pgs} {D : Int -> Nat} (hI : FInv es Q D) {a b : Int} (h : Reach Q a b) : ∀ {g gb : Pg}, VMap.get a Q = .some g -> VMap.get b Q = .some gb -> gb.n.level <= g.n.level := by
 induction h with
 | here h =>
  intro g gb h1 h2
  rw [h1] at h2
  obtain rfl := Option.some.inj h2
  exact Int.le_refl _
 | kid hg hc _ ih =>
  intro g' gb h1 h2
  rw [hg] at h1
  obtain rfl := Option.some.inj h1
  obtain ⟨gc, hgc, hlc⟩ := hI.kid _ _ hg _ hc
  have := ih hgc h2
  omega
/-
  The statements of layer 12: how many pages of a level a tree has; a root is none just if it has no pairs.
-/
theorem Reach.self_or {es : List Ent} {Q : Pgs} {D : Int -> Nat} (hI : FInv es Q D) {a b : Int} {g gb : Pg} (h : Reach Q a b) (hg : VMap.get a Q = .some g) (hb : VMap.get b Q = .some gb) : b = a \/ gb.n.level < g.n.level := by
 cases h with
 | here _ => exact .inl rfl
 | kid hg' hc h2 =>
  rw [hg] at hg'
  obtain rfl := Option.some.inj hg'
  obtain ⟨gc, hgc, hlc⟩ := hI.kid _ _ hg _ hc
  have := h2.lv hI hgc hb
  exact .inr (by omega)
def LvZ (Q : Pgs) (a : Int) (k : Int) (n : Nat) : Prop := ∃ Z : List Int, Z.length <= n /\ ∀ b g, Reach Q a b -> VMap.get b Q = some g -> g.n.level = k -> b ∈ Z
theorem TrG.levels {Q : Pgs} {T : Int -> List KV -> Nat -> Prop} {k : Int} (hT : ∀ a L s, T a L s -> LvZ Q a k L.length) {ps L : List KV} {s : Nat} (h : TrG T ps L s) :
  ∃ Z : List Int, Z.length <= L.length /\ ∀ p ∈ ps, ∀ b g, Reach Q p.2 b -> VMap.get b Q = some g -> g.n.level = k -> b ∈ Z := by
 induction h with
 | nil => exact ⟨[], Nat.le_refl _, fun p hp => by cases hp⟩
 | cons h1 _ _ ih =>
  obtain ⟨Z, z1, z2⟩ := ih
  obtain ⟨Y, y1, y2⟩ := hT _ _ _ h1
  refine ⟨Y ++ Z, by rw [List.length_append, List.length_append]; omega, fun p hp b g hr hg hk => ?_⟩
  rcases List.mem_cons.1 hp with rfl | hp
  ·exact List.mem_append_left _ (y2 b g hr hg hk)
  ·exact List.mem_append_right _ (z2 p hp b g hr hg hk)
theorem Tr.levels {es : List Ent} {Q : Pgs} {D : Int -> Nat} (hI : FInv es Q D) (k : Int) : ∀ {lv : Nat} {a : Int} {L : List KV} {s : Nat}, Tr Q lv a L s -> LvZ Q a k L.length
 | 0, a, L, s, ⟨g, h1, h2, h3, h4⟩ => by
  have hL : 1 <= L.length := by
   obtain ⟨ok, _, _⟩ := hI.pg a g h1
   have o := ok_lens ok
   rw [h3]
   unfold Nd.pairs
   rw [List.length_zip]
   omega
  refine ⟨[a], hL, fun b gb hr hb hk => ?_⟩
  rcases hr.self_or hI h1 hb with rfl | h5
  ·exact .head _
  ·have := (hI.lv hb).1
   omega
 | lv + 1, a, L, s, ⟨g, s', h1, h2, h3, h4⟩ => by
  have ok := (hI.pg a g h1).1
  have o := ok_lens ok
  by_cases hk0 : k = ((lv + 1 : Nat) : Int)
  ·have hL : 1 <= L.length := by
    have hps : 1 <= g.n.pairs.length := by
     unfold Nd.pairs
     rw [List.length_zip]
     omega
    have := h3.len
    omega
   refine ⟨[a], hL, fun b gb hr hb hk => ?_⟩
   rcases hr.self_or hI h1 hb with rfl | h5
   ·exact .head _
   ·omega
  ·obtain ⟨Z, z1, z2⟩ := TrG.levels (Q := Q) (k := k) (fun a L s h => Tr.levels hI k h) h3
   refine ⟨Z, z1, fun b gb hr hb hk => ?_⟩
   cases hr with
   | here _ =>
    rw [h1] at hb
    obtain rfl := Option.some.inj hb
    exact absurd (hk.symm.trans h2) hk0
   | kid hg' hc h5 =>
    rw [h1] at hg'
    obtain rfl := Option.some.inj hg'
    obtain ⟨p, hp, rfl⟩ := kid_pair ok hc
    exact z2 p hp b gb h5 hb hk
theorem Tr.some_pair {es : List Ent} {Q : Pgs} {D : Int -> Nat} (hI : FInv es Q D) {lv : Nat} {a : Int} {L : List KV} {s : Nat} (h : Tr Q lv a L s) : L ≠ [] := fun e => by
 obtain ⟨g, hg, hlv⟩ := h.get
 obtain ⟨Z, z1, z2⟩ := h.levels hI g.n.level
 have := z2 a g (.here (by rw [hg]; rfl)) hg rfl
 rw [e] at z1
 rw [List.eq_nil_of_length_eq_zero (Nat.le_zero.1 z1)] at this
 cases this
end Go.Proofs.YtgbgneiciabidaaGreatDoor
