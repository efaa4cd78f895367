/-
  Law 11: nodes that name what is no page of the level below are refused (PagesLevels), the walk.
-/
import Derived.Test.YtgbgneiciabidaaGreatDoorGl16
import Derived.Test.YtgbgneiciabidaaGreatDoorGl17
namespace Go.Proofs.YtgbgneiciabidaaGreatDoor
open Go Go.RowKit
set_option linter.all false

/-- What the loop over the kids leaves as it was. -/
def LevMid (w : World) (level : Int) (p bank sp r5 q : Nat) (x : Value) (l : List Say) (j : Nat) (wr : World) : Prop :=
  (1 ≤ j → 2 ≤ level) ∧ (2 ≤ j → 3 ≤ level) ∧ ∃ disks, Fits (spc1 20 lvY2) disks lvQ2 ∧ Kept w wr ∧ Has wr (trio p bank sp 2 lvQ2 disks (spc1 20 lvY2) (intsS (.slice (some ⟨q, 0, none⟩) 3 3) [2, 3, 9] :: world4 r5 (ptrV bank) (ptrV sp) (ptrV p) x :: l))
theorem HoldsTo.mono {Q : Pgs} {A B : Int} (h : HoldsTo Q A) (hAB : A ≤ B) : HoldsTo Q B := fun k g hg => ⟨(h k g hg).1, Int.le_trans (h k g hg).2 hAB⟩
theorem holds_q2 : HoldsTo lvQ2 1000000 := by
  intro k g h
  unfold lvQ2 at h
  simp only [VMap.get, List.find?_cons] at h
  split at h
  · cases h; decide
  · split at h
    · cases h; decide
    · cases h

set_option maxHeartbeats 4000000 in
set_option maxRecDepth 100000 in
theorem law_levels {w : World} {l : List Say} (n : Nd) (level : Int) {kv vv : Value} (h : Has w l) (ht : Tab l) (hk : Srcs l kv n.keys) (hv : Srcs l vv n.vals) : Calls Tryz.prog 4 #[n.val kv vv, .int .i64 level] w (YesPost l w) := by
  have h0 := h.alloc (.cells #[.int .i64 n.level, kv, vv] 24)
  have h1 := h0.ints_new [20] (by simp)
  simp only [World.size_alloc, List.map_cons, List.map_nil, intVal, List.length_cons, List.length_nil, Nat.zero_add] at h1
  have HM := Lib.hid (law_made [20] h1 (Srcs.of_ints (.head _)))
  have HK0 : Hid (Kept w ((w.alloc (.cells #[.int .i64 n.level, kv, vv] 24)).alloc (.cells #[.int .i64 20] 3))) := ((Kept.refl w).alloc _).alloc _
  have Ht := Lib.hid ht
  have Hk := Lib.hid hk
  have Hv := Lib.hid hv
  clear h h0 h1 ht hk hv
  obtain ⟨lv, ks, vs⟩ := n
  simp only [Nd.val] at *
  go_enter Tryz.func4, Tryz.ntmps4
  go_wp2_with fail
  refine HM.out.mono ?_
  rintro r w1 ⟨hK1, (⟨hno, _⟩ | ⟨_, bank, sp, p, x, rfl, h1⟩)⟩
  · exact absurd hno (by decide)
  have h2 := h1.alloc (.cells #[ptrV bank, ptrV sp, ptrV p, ptrV x] 30)
  have hby := h1.at (b := w.heap.size) (o := .cells #[.int .i64 lv, kv, vv] 24 (0, 0)) (by simp [world3])
  have b0 := cell_of hby 0 (v := .int .i64 lv) rfl
  have b1 := cell_of hby 1 (v := kv) rfl
  have b2 := cell_of hby 2 (v := vv) rfl
  have lb := World.block_lt_of_cell? _ _ b0
  have hkr := (Hk.out _ h2.tail.tail.tail.tail.tail.tail).rd
  have hvr := (Hv.out _ h2.tail.tail.tail.tail.tail.tail).rd
  have HR := Lib.hid (ref_Right ⟨lv, ks, vs⟩ (kv := kv) (vv := vv) hkr hvr)
  have H2 := Lib.hid h2
  have HK2 := Lib.hid ((HK0.out.trans hK1).alloc (.cells #[ptrV bank, ptrV sp, ptrV p, ptrV x] 30))
  clear h1 h2 hK1 HM HK0 hby hkr hvr
  simp only [Nd.val, ptrV] at HR H2 HK2 ⊢
  go_wp2_with fail
  refine HR.out.mono ?_
  rintro r w3 ⟨rfl, hb3⟩
  have H3 := Lib.hid (H2.out.below hb3)
  have HK3 := Lib.hid (HK2.out.trans (Kept.below hb3))
  clear hb3 HR H2 HK2 b0 b1 b2 lb
  generalize hq1 : w1.heap.size = r5 at *
  generalize hqx : w.heap.size = bx at *
  have HA := Lib.hid (law_awake H3.out (Ht.out.app (m := [_, _, _, _, _, _])))
  by_cases hgo : Nd.ok ⟨lv, ks, vs⟩ = true ∧ 0 ≤ level ∧ level ≤ 20
  · obtain ⟨hok, l0, l20⟩ := hgo
    rw [hok]
    have d0 : decide (level < 0) = false := by simp; omega
    have d20 : decide (20 < level) = false := by simp; omega
    have hw3 := (H3.out).got
    have c2 : w3.cell? ⟨r5, 2, none⟩ = some (.pointer (some ⟨p, 0, none⟩)) := cell_of hw3 2 rfl
    have l5 := World.block_lt_of_cell? _ _ c2
    have h4 := (H3.out.ints_new [1] (by simp)).ints_new [1] (by simp)
    simp only [World.size_alloc, List.map_cons, List.map_nil, intVal, List.length_cons, List.length_nil, Nat.zero_add] at h4
    have h5 : Has ((w3.alloc (.cells #[.int .i64 1] 3)).alloc (.cells #[.int .i64 1] 3)) (trio p bank sp 0 [] [List.replicate 20 zeros] (spc1 20 (emptyShelf 20)) (intsS (.slice (some ⟨w3.heap.size + 1, 0, none⟩) 1 1) [1] :: intsS (.slice (some ⟨w3.heap.size, 0, none⟩) 1 1) [1] :: world4 r5 (ptrV bank) (ptrV sp) (ptrV p) (ptrV x) :: intsS (.slice (some ⟨bx + 1, 0, none⟩) 1 1) [20] :: pts bx (.cells #[.int .i64 lv, kv, vv] 24 (0, 0)) :: l)) := Has.trio_of (m := 0) (h4.reord [3, 3, 3])
    have HP := Lib.hid (trio_Put lvLeaf (kv := .slice (some ⟨w3.heap.size, 0, none⟩) 1 1) (vv := .slice (some ⟨w3.heap.size + 1, 0, none⟩) 1 1) h5 Ht.out.cons.cons.cons.cons.cons (.tail _ (.head _)) (.head _) (fits_fresh [20] (by simp)) (holds_none _) (by omega))
    have HK4 := Lib.hid ((HK3.out.alloc (.cells #[.int .i64 1] 3)).alloc (.cells #[.int .i64 1] 3))
    clear h4 h5 hw3 H3 HK3 HA hok
    simp only [Nd.val, lvLeaf] at HP
    go_wp2_with fail
    refine HP.out.mono ?_
    rintro r w5 hpost
    obtain ⟨rfl, hK5, disks1, hf1, h6⟩ := put_ok (m := 2) (y0 := emptyShelf 20) hpost (fits_fresh [20] (by simp)) (by decide) rfl (room1 lv_room0) (fun d k y h => lv_takes0 h)
    rw [show lenV 0 2 = 2 from rfl] at h6 hf1 ⊢
    have h6 : Has w5 (trio p bank sp 1 lvQ1 disks1 (spc1 20 lvY1) (intsS (.slice (some ⟨w3.heap.size + 1, 0, none⟩) 1 1) [1] :: intsS (.slice (some ⟨w3.heap.size, 0, none⟩) 1 1) [1] :: world4 r5 (ptrV bank) (ptrV sp) (ptrV p) (ptrV x) :: intsS (.slice (some ⟨bx + 1, 0, none⟩) 1 1) [20] :: pts bx (.cells #[.int .i64 lv, kv, vv] 24 (0, 0)) :: l)) := h6
    have hf1 : Fits (spc1 20 lvY1) disks1 lvQ1 := hf1
    have hw5 := h6.at (b := r5) (o := .cells #[ptrV bank, ptrV sp, ptrV p, ptrV x] 30 (0, 0)) (by simp [trio, world4])
    have c2 : w5.cell? ⟨r5, 2, none⟩ = some (.pointer (some ⟨p, 0, none⟩)) := cell_of hw5 2 rfl
    have l5 := World.block_lt_of_cell? _ _ c2
    have h7 := (h6.ints_new [1] (by simp)).ints_new [2] (by simp)
    simp only [World.size_alloc, List.map_cons, List.map_nil, intVal, List.length_cons, List.length_nil, Nat.zero_add] at h7
    have h8 : Has ((w5.alloc (.cells #[.int .i64 1] 3)).alloc (.cells #[.int .i64 2] 3)) (trio p bank sp 1 lvQ1 disks1 (spc1 20 lvY1) (intsS (.slice (some ⟨w5.heap.size + 1, 0, none⟩) 1 1) [2] :: intsS (.slice (some ⟨w5.heap.size, 0, none⟩) 1 1) [1] :: intsS (.slice (some ⟨w3.heap.size + 1, 0, none⟩) 1 1) [1] :: intsS (.slice (some ⟨w3.heap.size, 0, none⟩) 1 1) [1] :: world4 r5 (ptrV bank) (ptrV sp) (ptrV p) (ptrV x) :: intsS (.slice (some ⟨bx + 1, 0, none⟩) 1 1) [20] :: pts bx (.cells #[.int .i64 lv, kv, vv] 24 (0, 0)) :: l)) := h7.reord [2, 2, 2]
    have HP2 := Lib.hid (trio_Put lvTop (kv := .slice (some ⟨w5.heap.size, 0, none⟩) 1 1) (vv := .slice (some ⟨w5.heap.size + 1, 0, none⟩) 1 1) h8 (Ht.out.app [_, _, _, _, _, _, _]) (.tail _ (.head _)) (.head _) hf1 (put1_holds (holds_none 10) (by omega) 2 lvLeaf |>.mono (by decide)) (by omega))
    have HK6 := Lib.hid ((((HK4.out.trans hK5).alloc (.cells #[.int .i64 1] 3)).alloc (.cells #[.int .i64 2] 3)))
    have Hf1 := Lib.hid hf1
    clear h6 h7 h8 hw5 hf1 hK5 HK4 HP hpost
    simp only [Nd.val, lvTop] at HP2
    go_wp2_with fail
    refine HP2.out.mono ?_
    rintro r w6 hpost
    obtain ⟨rfl, hK7, disks2, hf2, h9⟩ := put_ok (m := 3) (y0 := lvY1) hpost Hf1.out (by decide) rfl (room1 lv_room1) (fun d k y h => lv_takes1 h)
    rw [show lenV 0 3 = 3 from rfl] at h9 hf2 ⊢
    have h9 : Has w6 (trio p bank sp 2 lvQ2 disks2 (spc1 20 lvY2) (intsS (.slice (some ⟨w5.heap.size + 1, 0, none⟩) 1 1) [2] :: intsS (.slice (some ⟨w5.heap.size, 0, none⟩) 1 1) [1] :: intsS (.slice (some ⟨w3.heap.size + 1, 0, none⟩) 1 1) [1] :: intsS (.slice (some ⟨w3.heap.size, 0, none⟩) 1 1) [1] :: world4 r5 (ptrV bank) (ptrV sp) (ptrV p) (ptrV x) :: intsS (.slice (some ⟨bx + 1, 0, none⟩) 1 1) [20] :: pts bx (.cells #[.int .i64 lv, kv, vv] 24 (0, 0)) :: l)) := h9
    have hf2 : Fits (spc1 20 lvY2) disks2 lvQ2 := hf2
    have hw6 := h9.at (b := r5) (o := .cells #[ptrV bank, ptrV sp, ptrV p, ptrV x] 30 (0, 0)) (by simp [trio, world4])
    have c1 : w6.cell? ⟨r5, 1, none⟩ = some (.pointer (some ⟨sp, 0, none⟩)) := cell_of hw6 1 rfl
    have l5 := World.block_lt_of_cell? _ _ c1
    have HFr := Lib.hid (sp_FreeAll (h9.pull 2))
    have Hf2 := Lib.hid hf2
    have HK8 := Lib.hid (HK6.out.trans hK7)
    clear h9 hw6 hf2 hK7 HK6 HP2 hpost Hf1 c2
    go_wp2_with fail
    refine HFr.out.mono ?_
    rintro r w7 ⟨rfl, hK9, h10⟩
    have h11 : Has w7 (trio p bank sp 2 lvQ2 disks2 (spc1 20 lvY2) (world4 r5 (ptrV bank) (ptrV sp) (ptrV p) (ptrV x) :: l)) :=
      (h10.reord [3, 3, 3, 3, 4, 4, 1, 1, 0]).tail.tail.tail.tail.tail.tail
    have h12 := h11.ints_new [2, 3, 9] (by simp)
    simp only [List.map_cons, List.map_nil, intVal, List.length_cons, List.length_nil, Nat.zero_add] at h12
    have HM : Hid (LevMid w level p bank sp r5 w7.heap.size (ptrV x) l 0 (w7.alloc (.cells #[.int .i64 2, .int .i64 3, .int .i64 9] 3))) :=
      ⟨fun h => absurd h (by omega), fun h => absurd h (by omega), disks2, Hf2.out, (HK8.out.trans hK9).alloc _, h12.reord [1, 1, 1, 0]⟩
    clear h10 h11 h12 hK9 HFr Hf2 HK8 c1 l5
    generalize hfr : (spc1 20 lvY2).freeAll = fr at *
    have Hfr := Lib.hid hfr
    clear hfr hq1 hqx
    go_wp2
    generalize hq : w7.heap.size = q at *
    clear hq
    go_loopg [74] 3 (fun gk i wr => ∃ j : Nat, j ≤ 3 ∧ gk = 3 - j ∧ i = .int .i64 j ∧ Hid (LevMid w level p bank sp r5 q (ptrV x) l j wr))
    case atStart => exact ⟨0, by omega, rfl, rfl, HM⟩
    case round =>
      clear HM
      obtain ⟨j, hj, rfl, rfl, HM⟩ := hrel
      by_cases j0 : j = 0
      · subst j0
        by_cases e0 : level = 0
        · subst e0
          obtain ⟨_, _, disks, hf, hK, hh⟩ := HM.out
          have hw5 := hh.at (b := r5) (o := .cells #[ptrV bank, ptrV sp, ptrV p, ptrV x] 30 (0, 0)) (by simp [trio, world4])
          have c2 : wr.cell? ⟨r5, 2, none⟩ = some (.pointer (some ⟨p, 0, none⟩)) := cell_of hw5 2 rfl
          have l5 : r5 < wr.heap.size := World.block_lt_of_cell? _ _ c2
          have l5a : r5 < wr.heap.size + 1 := by omega
          have l5b : r5 < wr.heap.size + 1 + 1 := by omega
          obtain ⟨_, _, eq0, _, hq0⟩ := hh.ints_read (v := .slice (some ⟨q, 0, none⟩) 3 3) (xs := [2, 3, 9]) (by simp [trio])
          injection eq0 with eq1
          subst eq1
          obtain ⟨gq, eq2, cq, _⟩ := hq0 0 (by decide)
          injection eq2 with eq3
          injection eq3 with eq4
          subst eq4
          have cq : wr.cell? ⟨q, 0, none⟩ = some (.int .i64 2) := cq
          have lq := World.block_lt_of_cell? _ _ cq
          rw [show ((0 : Nat) : Int) = 0 from rfl]
          have h13 := ((hh.ints_new [5] (by simp)).ints_new [2] (by simp)).alloc (.cells #[.int .i64 0, .slice (some ⟨wr.heap.size, 0, none⟩) 1 1, .slice (some ⟨wr.heap.size + 1, 0, none⟩) 1 1] 35)
          simp only [World.size_alloc, List.map_cons, List.map_nil, intVal, List.length_cons, List.length_nil, Nat.zero_add] at h13
          have h14 : Has (((wr.alloc (.cells #[.int .i64 5] 3)).alloc (.cells #[.int .i64 2] 3)).alloc (.cells #[.int .i64 0, .slice (some ⟨wr.heap.size, 0, none⟩) 1 1, .slice (some ⟨wr.heap.size + 1, 0, none⟩) 1 1] 35)) (trio p bank sp 2 lvQ2 disks (spc1 20 lvY2) (intsS (.slice (some ⟨wr.heap.size, 0, none⟩) 1 1) [5] :: intsS (.slice (some ⟨wr.heap.size + 1, 0, none⟩) 1 1) [2] :: intsS (.slice (some ⟨q, 0, none⟩) 3 3) [2, 3, 9] :: world4 r5 (ptrV bank) (ptrV sp) (ptrV p) (ptrV x) :: l)) := (h13.reord [0, 2, 2, 2, 1]).tail
          have HP := Lib.hid (trio_Put (lvX 0 2) (kv := .slice (some ⟨wr.heap.size, 0, none⟩) 1 1) (vv := .slice (some ⟨wr.heap.size + 1, 0, none⟩) 1 1) h14 (Ht.out.app [_, _, _, _]) (.head _) (.tail _ (.head _)) hf holds_q2 (by omega))
          have HK := Lib.hid (((hK.alloc (.cells #[.int .i64 5] 3)).alloc (.cells #[.int .i64 2] 3)).alloc (.cells #[.int .i64 0, .slice (some ⟨wr.heap.size, 0, none⟩) 1 1, .slice (some ⟨wr.heap.size + 1, 0, none⟩) 1 1] 35))
          have Hf := Lib.hid hf
          clear h13 h14 hw5 hf hK hh HM hq0
          simp only [Nd.val, lvX] at HP
          go_wp2_with fail
          refine HP.out.mono ?_
          rintro r wa hpost
          obtain ⟨rfl, hKa, disks3, hf3, h15⟩ := put_ok (m := 4) (y0 := lvY2) hpost Hf.out (lv_okx 0 2 (by decide) (by decide) (by decide) (by decide)) (lv_n0 2) (room1 lv_room2) (fun d k y h => lv_takes2 h)
          rw [show lenV 0 4 = 4 from rfl] at h15 ⊢
          have h16 : Has wa (trio p bank sp 3 (put1 lvQ2 4 (lvX 0 2)) disks3 (spc1 20 lvY3) (intsS (.slice (some ⟨wr.heap.size, 0, none⟩) 1 1) [5] :: intsS (.slice (some ⟨wr.heap.size + 1, 0, none⟩) 1 1) [2] :: intsS (.slice (some ⟨q, 0, none⟩) 3 3) [2, 3, 9] :: world4 r5 (ptrV bank) (ptrV sp) (ptrV p) (ptrV x) :: l)) := h15
          obtain ⟨Q9, X9, hgone⟩ := lv_gone0 2
          have HSc := Lib.hid (st_Scrap (d := 3) (Q' := Q9) (X' := X9) (show Has wa (stS p bank sp (put1 lvQ2 4 (lvX 0 2)) :: spaceS sp (spc1 20 lvY3) :: bankS 3 bank disks3 :: intsS (.slice (some ⟨wr.heap.size, 0, none⟩) 1 1) [5] :: intsS (.slice (some ⟨wr.heap.size + 1, 0, none⟩) 1 1) [2] :: intsS (.slice (some ⟨q, 0, none⟩) 3 3) [2, 3, 9] :: world4 r5 (ptrV bank) (ptrV sp) (ptrV p) (ptrV x) :: l) from h16.reord [0, 1]) 4 (by decide) (by decide) (fun _ => hgone))
          have hho : holdsOf (put1 lvQ2 4 (lvX 0 2)) 4 = 0 := rfl
          have hge : (VMap.get 4 (put1 lvQ2 4 (lvX 0 2))).isSome = true := rfl
          have HHo := Lib.hid hho
          have HGe := Lib.hid hge
          have hw5 := h16.at (b := r5) (o := .cells #[ptrV bank, ptrV sp, ptrV p, ptrV x] 30 (0, 0)) (by simp [trio, world4])
          have c2 : wa.cell? ⟨r5, 2, none⟩ = some (.pointer (some ⟨p, 0, none⟩)) := cell_of hw5 2 rfl
          have l5 := World.block_lt_of_cell? _ _ c2
          have HIs := Lib.hid (law_is none 0 wa (by decide) (by decide))
          have HKa := Lib.hid (HK.out.trans hKa)
          clear h15 h16 hpost hKa hf3 hho hge hgone hw5 HP HK cq lq
          simp only [errE, isE] at HIs
          go_wp2_with fail
          refine HIs.out.mono ?_
          rintro r wb ⟨rfl, rfl⟩
          go_wp2_with fail
          refine HSc.out.mono ?_
          rintro r wb ⟨hKb, (⟨hn, _⟩ | ⟨hn, _⟩ | ⟨_, _, rfl, h17⟩)⟩
          · have := HGe.out; rw [hn] at this; cases this
          · have := HHo.out; omega
          have HA := Lib.hid (law_awake h17 (Ht.out.app [_, _, _, _, _, _, _]))
          have HKb := Lib.hid (HKa.out.trans hKb)
          clear h17 hKb HSc HIs HKa c2 l5
          go_wp2_with fail
          refine HA.out.mono ?_
          rintro r wc ⟨rfl, hKc, h18⟩
          have HF : Hid (Kept w wc ∧ Has wc l) := ⟨HKb.out.trans hKc, h18.tail.tail.tail.tail.tail.tail.tail⟩
          clear hKc h18 HA HKb
          go_wp2
          go_ret
          exact ⟨rfl, HF.out.1, HF.out.2⟩
        · by_cases e1 : level = 1
          · subst e1
            obtain ⟨_, _, disks, hf, hK, hh⟩ := HM.out
            have hw5 := hh.at (b := r5) (o := .cells #[ptrV bank, ptrV sp, ptrV p, ptrV x] 30 (0, 0)) (by simp [trio, world4])
            have c2 : wr.cell? ⟨r5, 2, none⟩ = some (.pointer (some ⟨p, 0, none⟩)) := cell_of hw5 2 rfl
            have l5 : r5 < wr.heap.size := World.block_lt_of_cell? _ _ c2
            have l5a : r5 < wr.heap.size + 1 := by omega
            have l5b : r5 < wr.heap.size + 1 + 1 := by omega
            obtain ⟨_, _, eq0, _, hq0⟩ := hh.ints_read (v := .slice (some ⟨q, 0, none⟩) 3 3) (xs := [2, 3, 9]) (by simp [trio])
            injection eq0 with eq1
            subst eq1
            obtain ⟨gq, eq2, cq, _⟩ := hq0 0 (by decide)
            injection eq2 with eq3
            injection eq3 with eq4
            subst eq4
            have cq : wr.cell? ⟨q, 0, none⟩ = some (.int .i64 2) := cq
            have lq := World.block_lt_of_cell? _ _ cq
            rw [show ((0 : Nat) : Int) = 0 from rfl]
            have h13 := ((hh.ints_new [5] (by simp)).ints_new [2] (by simp)).alloc (.cells #[.int .i64 1, .slice (some ⟨wr.heap.size, 0, none⟩) 1 1, .slice (some ⟨wr.heap.size + 1, 0, none⟩) 1 1] 35)
            simp only [World.size_alloc, List.map_cons, List.map_nil, intVal, List.length_cons, List.length_nil, Nat.zero_add] at h13
            have h14 : Has (((wr.alloc (.cells #[.int .i64 5] 3)).alloc (.cells #[.int .i64 2] 3)).alloc (.cells #[.int .i64 1, .slice (some ⟨wr.heap.size, 0, none⟩) 1 1, .slice (some ⟨wr.heap.size + 1, 0, none⟩) 1 1] 35)) (trio p bank sp 2 lvQ2 disks (spc1 20 lvY2) (intsS (.slice (some ⟨wr.heap.size, 0, none⟩) 1 1) [5] :: intsS (.slice (some ⟨wr.heap.size + 1, 0, none⟩) 1 1) [2] :: intsS (.slice (some ⟨q, 0, none⟩) 3 3) [2, 3, 9] :: world4 r5 (ptrV bank) (ptrV sp) (ptrV p) (ptrV x) :: l)) := (h13.reord [0, 2, 2, 2, 1]).tail
            have HP := Lib.hid (trio_Put (lvX 1 2) (kv := .slice (some ⟨wr.heap.size, 0, none⟩) 1 1) (vv := .slice (some ⟨wr.heap.size + 1, 0, none⟩) 1 1) h14 (Ht.out.app [_, _, _, _]) (.head _) (.tail _ (.head _)) hf holds_q2 (by omega))
            have HK := Lib.hid (((hK.alloc (.cells #[.int .i64 5] 3)).alloc (.cells #[.int .i64 2] 3)).alloc (.cells #[.int .i64 1, .slice (some ⟨wr.heap.size, 0, none⟩) 1 1, .slice (some ⟨wr.heap.size + 1, 0, none⟩) 1 1] 35))
            have Hf := Lib.hid hf
            clear h13 h14 hw5 hf hK hh HM hq0
            simp only [Nd.val, lvX] at HP
            go_wp2_with fail
            refine HP.out.mono ?_
            rintro r wa hpost
            obtain ⟨rfl, hKa, disks3, hf3, h15⟩ := put_ok (m := 4) (y0 := lvY2) hpost Hf.out (lv_okx 1 2 (by decide) (by decide) (by decide) (by decide)) rfl (room1 lv_room2) (fun d k y h => lv_takes2 h)
            rw [show lenV 0 4 = 4 from rfl] at h15 ⊢
            have h16 : Has wa (trio p bank sp 3 (put1 lvQ2 4 (lvX 1 2)) disks3 (spc1 20 lvY3) (intsS (.slice (some ⟨wr.heap.size, 0, none⟩) 1 1) [5] :: intsS (.slice (some ⟨wr.heap.size + 1, 0, none⟩) 1 1) [2] :: intsS (.slice (some ⟨q, 0, none⟩) 3 3) [2, 3, 9] :: world4 r5 (ptrV bank) (ptrV sp) (ptrV p) (ptrV x) :: l)) := h15
            obtain ⟨Q9, X9, hgone⟩ := lv_gone1
            have HSc := Lib.hid (st_Scrap (d := 3) (Q' := Q9) (X' := X9) (show Has wa (stS p bank sp (put1 lvQ2 4 (lvX 1 2)) :: spaceS sp (spc1 20 lvY3) :: bankS 3 bank disks3 :: intsS (.slice (some ⟨wr.heap.size, 0, none⟩) 1 1) [5] :: intsS (.slice (some ⟨wr.heap.size + 1, 0, none⟩) 1 1) [2] :: intsS (.slice (some ⟨q, 0, none⟩) 3 3) [2, 3, 9] :: world4 r5 (ptrV bank) (ptrV sp) (ptrV p) (ptrV x) :: l) from h16.reord [0, 1]) 4 (by decide) (by decide) (fun _ => hgone))
            have hho : holdsOf (put1 lvQ2 4 (lvX 1 2)) 4 = 0 := rfl
            have hge : (VMap.get 4 (put1 lvQ2 4 (lvX 1 2))).isSome = true := rfl
            have HHo := Lib.hid hho
            have HGe := Lib.hid hge
            have hw5 := h16.at (b := r5) (o := .cells #[ptrV bank, ptrV sp, ptrV p, ptrV x] 30 (0, 0)) (by simp [trio, world4])
            have c2 : wa.cell? ⟨r5, 2, none⟩ = some (.pointer (some ⟨p, 0, none⟩)) := cell_of hw5 2 rfl
            have l5 := World.block_lt_of_cell? _ _ c2
            have HIs := Lib.hid (law_is none 0 wa (by decide) (by decide))
            have HKa := Lib.hid (HK.out.trans hKa)
            clear h15 h16 hpost hKa hf3 hho hge hgone hw5 HP HK cq lq
            simp only [errE, isE] at HIs
            go_wp2_with fail
            refine HIs.out.mono ?_
            rintro r wb ⟨rfl, rfl⟩
            go_wp2_with fail
            refine HSc.out.mono ?_
            rintro r wb ⟨hKb, (⟨hn, _⟩ | ⟨hn, _⟩ | ⟨_, _, rfl, h17⟩)⟩
            · have := HGe.out; rw [hn] at this; cases this
            · have := HHo.out; omega
            have HA := Lib.hid (law_awake h17 (Ht.out.app [_, _, _, _, _, _, _]))
            have HKb := Lib.hid (HKa.out.trans hKb)
            clear h17 hKb HSc HIs HKa c2 l5
            go_wp2_with fail
            refine HA.out.mono ?_
            rintro r wc ⟨rfl, hKc, h18⟩
            have HF : Hid (Kept w wc ∧ Has wc l) := ⟨HKb.out.trans hKc, h18.tail.tail.tail.tail.tail.tail.tail⟩
            clear hKc h18 HA HKb
            go_wp2
            go_ret
            exact ⟨rfl, HF.out.1, HF.out.2⟩
          · have hl2 : 2 ≤ level := by omega
            have f0 : (level == 0) = false := by simpa using e0
            have f1 : (level == 1) = false := by simpa using e1
            have g1 : (level != 1) = true := by simp [bne, f1]
            have He0 := Lib.hid e0
            have He1 := Lib.hid e1
            clear e0 e1
            obtain ⟨_, _, disks, hf, hK, hh⟩ := HM.out
            have hw5 := hh.at (b := r5) (o := .cells #[ptrV bank, ptrV sp, ptrV p, ptrV x] 30 (0, 0)) (by simp [trio, world4])
            have c2 : wr.cell? ⟨r5, 2, none⟩ = some (.pointer (some ⟨p, 0, none⟩)) := cell_of hw5 2 rfl
            have l5 : r5 < wr.heap.size := World.block_lt_of_cell? _ _ c2
            have l5a : r5 < wr.heap.size + 1 := by omega
            have l5b : r5 < wr.heap.size + 1 + 1 := by omega
            obtain ⟨_, _, eq0, _, hq0⟩ := hh.ints_read (v := .slice (some ⟨q, 0, none⟩) 3 3) (xs := [2, 3, 9]) (by simp [trio])
            injection eq0 with eq1
            subst eq1
            obtain ⟨gq, eq2, cq, _⟩ := hq0 0 (by decide)
            injection eq2 with eq3
            injection eq3 with eq4
            subst eq4
            have cq : wr.cell? ⟨q, 0, none⟩ = some (.int .i64 2) := cq
            have lq := World.block_lt_of_cell? _ _ cq
            rw [show ((0 : Nat) : Int) = 0 from rfl]
            have h13 := ((hh.ints_new [5] (by simp)).ints_new [2] (by simp)).alloc (.cells #[.int .i64 level, .slice (some ⟨wr.heap.size, 0, none⟩) 1 1, .slice (some ⟨wr.heap.size + 1, 0, none⟩) 1 1] 35)
            simp only [World.size_alloc, List.map_cons, List.map_nil, intVal, List.length_cons, List.length_nil, Nat.zero_add] at h13
            have h14 : Has (((wr.alloc (.cells #[.int .i64 5] 3)).alloc (.cells #[.int .i64 2] 3)).alloc (.cells #[.int .i64 level, .slice (some ⟨wr.heap.size, 0, none⟩) 1 1, .slice (some ⟨wr.heap.size + 1, 0, none⟩) 1 1] 35)) (trio p bank sp 2 lvQ2 disks (spc1 20 lvY2) (intsS (.slice (some ⟨wr.heap.size, 0, none⟩) 1 1) [5] :: intsS (.slice (some ⟨wr.heap.size + 1, 0, none⟩) 1 1) [2] :: intsS (.slice (some ⟨q, 0, none⟩) 3 3) [2, 3, 9] :: world4 r5 (ptrV bank) (ptrV sp) (ptrV p) (ptrV x) :: l)) := (h13.reord [0, 2, 2, 2, 1]).tail
            have HP := Lib.hid (trio_Put (lvX level 2) (kv := .slice (some ⟨wr.heap.size, 0, none⟩) 1 1) (vv := .slice (some ⟨wr.heap.size + 1, 0, none⟩) 1 1) h14 (Ht.out.app [_, _, _, _]) (.head _) (.tail _ (.head _)) hf holds_q2 (by omega))
            have HK := Lib.hid (((hK.alloc (.cells #[.int .i64 5] 3)).alloc (.cells #[.int .i64 2] 3)).alloc (.cells #[.int .i64 level, .slice (some ⟨wr.heap.size, 0, none⟩) 1 1, .slice (some ⟨wr.heap.size + 1, 0, none⟩) 1 1] 35))
            have Hf := Lib.hid hf
            clear h13 h14 hw5 hf hK hh HM hq0
            simp only [Nd.val, lvX] at HP
            go_wp2_with fail
            refine HP.out.mono ?_
            rintro r wa hpost
            obtain ⟨rfl, hKa, h15⟩ := put_err (c := 70) hpost (lv_okx level 2 l0 l20 (by decide) (by decide)) ((lv_n2 level He0.out).trans (if_neg He1.out))
            have h16 : Has wa (spaceS sp (spc1 20 lvY2) :: stS p bank sp lvQ2 :: bankS 2 bank disks :: intsS (.slice (some ⟨wr.heap.size, 0, none⟩) 1 1) [5] :: intsS (.slice (some ⟨wr.heap.size + 1, 0, none⟩) 1 1) [2] :: intsS (.slice (some ⟨q, 0, none⟩) 3 3) [2, 3, 9] :: world4 r5 (ptrV bank) (ptrV sp) (ptrV p) (ptrV x) :: l) := h15.reord [2]
            have HFr := Lib.hid (sp_FreeAll h16)
            rw [Hfr.out] at HFr
            have hw5 := h16.at (b := r5) (o := .cells #[ptrV bank, ptrV sp, ptrV p, ptrV x] 30 (0, 0)) (by simp [world4])
            have c1 : wa.cell? ⟨r5, 1, none⟩ = some (.pointer (some ⟨sp, 0, none⟩)) := cell_of hw5 1 rfl
            have l5 := World.block_lt_of_cell? _ _ c1
            have HIs := Lib.hid (law_is (some 70) 70 wa (by decide) (by decide))
            have HKa := Lib.hid (HK.out.trans hKa)
            clear h15 h16 hpost hKa hw5 HP HK cq lq c2
            simp only [errE, isE, errV] at HIs
            simp only [errV]
            go_wp2_with fail
            refine HIs.out.mono ?_
            rintro r wb ⟨rfl, rfl⟩
            go_wp2_with fail
            refine HFr.out.mono ?_
            rintro r wb ⟨rfl, hKb, h17⟩
            have HM2 : Hid (LevMid w level p bank sp r5 q (ptrV x) l (0 + 1) wb) := ⟨fun _ => by omega, fun _ => by omega, disks, Hf.out, HKa.out.trans hKb, (h17.reord [3, 3, 1, 1]).tail.tail.reord [0, 0, 0]⟩
            clear h17 hKb HFr HIs HKa c1 l5
            go_wp2
            go_roundg (3 - (0 + 1))
            case measure => omega
            case rel => exact ⟨0 + 1, by omega, rfl, by simp, HM2.out⟩
      · by_cases j1 : j = 1
        · subst j1
          have hl2 := HM.out.1 (by omega)
          by_cases e2 : level = 2
          · subst e2
            obtain ⟨_, _, disks, hf, hK, hh⟩ := HM.out
            have hw5 := hh.at (b := r5) (o := .cells #[ptrV bank, ptrV sp, ptrV p, ptrV x] 30 (0, 0)) (by simp [trio, world4])
            have c2 : wr.cell? ⟨r5, 2, none⟩ = some (.pointer (some ⟨p, 0, none⟩)) := cell_of hw5 2 rfl
            have l5 : r5 < wr.heap.size := World.block_lt_of_cell? _ _ c2
            have l5a : r5 < wr.heap.size + 1 := by omega
            have l5b : r5 < wr.heap.size + 1 + 1 := by omega
            obtain ⟨_, _, eq0, _, hq0⟩ := hh.ints_read (v := .slice (some ⟨q, 0, none⟩) 3 3) (xs := [2, 3, 9]) (by simp [trio])
            injection eq0 with eq1
            subst eq1
            obtain ⟨gq, eq2, cq, _⟩ := hq0 1 (by decide)
            injection eq2 with eq3
            injection eq3 with eq4
            subst eq4
            have cq : wr.cell? ⟨q, 1, none⟩ = some (.int .i64 3) := cq
            have lq := World.block_lt_of_cell? _ _ cq
            rw [show ((1 : Nat) : Int) = 1 from rfl]
            have h13 := ((hh.ints_new [5] (by simp)).ints_new [3] (by simp)).alloc (.cells #[.int .i64 2, .slice (some ⟨wr.heap.size, 0, none⟩) 1 1, .slice (some ⟨wr.heap.size + 1, 0, none⟩) 1 1] 35)
            simp only [World.size_alloc, List.map_cons, List.map_nil, intVal, List.length_cons, List.length_nil, Nat.zero_add] at h13
            have h14 : Has (((wr.alloc (.cells #[.int .i64 5] 3)).alloc (.cells #[.int .i64 3] 3)).alloc (.cells #[.int .i64 2, .slice (some ⟨wr.heap.size, 0, none⟩) 1 1, .slice (some ⟨wr.heap.size + 1, 0, none⟩) 1 1] 35)) (trio p bank sp 2 lvQ2 disks (spc1 20 lvY2) (intsS (.slice (some ⟨wr.heap.size, 0, none⟩) 1 1) [5] :: intsS (.slice (some ⟨wr.heap.size + 1, 0, none⟩) 1 1) [3] :: intsS (.slice (some ⟨q, 0, none⟩) 3 3) [2, 3, 9] :: world4 r5 (ptrV bank) (ptrV sp) (ptrV p) (ptrV x) :: l)) := (h13.reord [0, 2, 2, 2, 1]).tail
            have HP := Lib.hid (trio_Put (lvX 2 3) (kv := .slice (some ⟨wr.heap.size, 0, none⟩) 1 1) (vv := .slice (some ⟨wr.heap.size + 1, 0, none⟩) 1 1) h14 (Ht.out.app [_, _, _, _]) (.head _) (.tail _ (.head _)) hf holds_q2 (by omega))
            have HK := Lib.hid (((hK.alloc (.cells #[.int .i64 5] 3)).alloc (.cells #[.int .i64 3] 3)).alloc (.cells #[.int .i64 2, .slice (some ⟨wr.heap.size, 0, none⟩) 1 1, .slice (some ⟨wr.heap.size + 1, 0, none⟩) 1 1] 35))
            have Hf := Lib.hid hf
            clear h13 h14 hw5 hf hK hh HM hq0
            simp only [Nd.val, lvX] at HP
            go_wp2_with fail
            refine HP.out.mono ?_
            rintro r wa hpost
            obtain ⟨rfl, hKa, disks3, hf3, h15⟩ := put_ok (m := 4) (y0 := lvY2) hpost Hf.out (lv_okx 2 3 (by decide) (by decide) (by decide) (by decide)) rfl (room1 lv_room2) (fun d k y h => lv_takes2 h)
            rw [show lenV 0 4 = 4 from rfl] at h15 ⊢
            have h16 : Has wa (trio p bank sp 3 (put1 lvQ2 4 (lvX 2 3)) disks3 (spc1 20 lvY3) (intsS (.slice (some ⟨wr.heap.size, 0, none⟩) 1 1) [5] :: intsS (.slice (some ⟨wr.heap.size + 1, 0, none⟩) 1 1) [3] :: intsS (.slice (some ⟨q, 0, none⟩) 3 3) [2, 3, 9] :: world4 r5 (ptrV bank) (ptrV sp) (ptrV p) (ptrV x) :: l)) := h15
            obtain ⟨Q9, X9, hgone⟩ := lv_gone2
            have HSc := Lib.hid (st_Scrap (d := 3) (Q' := Q9) (X' := X9) (show Has wa (stS p bank sp (put1 lvQ2 4 (lvX 2 3)) :: spaceS sp (spc1 20 lvY3) :: bankS 3 bank disks3 :: intsS (.slice (some ⟨wr.heap.size, 0, none⟩) 1 1) [5] :: intsS (.slice (some ⟨wr.heap.size + 1, 0, none⟩) 1 1) [3] :: intsS (.slice (some ⟨q, 0, none⟩) 3 3) [2, 3, 9] :: world4 r5 (ptrV bank) (ptrV sp) (ptrV p) (ptrV x) :: l) from h16.reord [0, 1]) 4 (by decide) (by decide) (fun _ => hgone))
            have hho : holdsOf (put1 lvQ2 4 (lvX 2 3)) 4 = 0 := rfl
            have hge : (VMap.get 4 (put1 lvQ2 4 (lvX 2 3))).isSome = true := rfl
            have HHo := Lib.hid hho
            have HGe := Lib.hid hge
            have hw5 := h16.at (b := r5) (o := .cells #[ptrV bank, ptrV sp, ptrV p, ptrV x] 30 (0, 0)) (by simp [trio, world4])
            have c2 : wa.cell? ⟨r5, 2, none⟩ = some (.pointer (some ⟨p, 0, none⟩)) := cell_of hw5 2 rfl
            have l5 := World.block_lt_of_cell? _ _ c2
            have HIs := Lib.hid (law_is none 0 wa (by decide) (by decide))
            have HKa := Lib.hid (HK.out.trans hKa)
            clear h15 h16 hpost hKa hf3 hho hge hgone hw5 HP HK cq lq
            simp only [errE, isE] at HIs
            go_wp2_with fail
            refine HIs.out.mono ?_
            rintro r wb ⟨rfl, rfl⟩
            go_wp2_with fail
            refine HSc.out.mono ?_
            rintro r wb ⟨hKb, (⟨hn, _⟩ | ⟨hn, _⟩ | ⟨_, _, rfl, h17⟩)⟩
            · have := HGe.out; rw [hn] at this; cases this
            · have := HHo.out; omega
            have HA := Lib.hid (law_awake h17 (Ht.out.app [_, _, _, _, _, _, _]))
            have HKb := Lib.hid (HKa.out.trans hKb)
            clear h17 hKb HSc HIs HKa c2 l5
            go_wp2_with fail
            refine HA.out.mono ?_
            rintro r wc ⟨rfl, hKc, h18⟩
            have HF : Hid (Kept w wc ∧ Has wc l) := ⟨HKb.out.trans hKc, h18.tail.tail.tail.tail.tail.tail.tail⟩
            clear hKc h18 HA HKb
            go_wp2
            go_ret
            exact ⟨rfl, HF.out.1, HF.out.2⟩
          · have hl3 : 3 ≤ level := by omega
            have f0 : (level == 0) = false := by simp; omega
            have f1 : (level == 1) = false := by simp; omega
            have f2 : (level == 2) = false := by simpa using e2
            have g1 : (level != 2) = true := by simp [bne, f2]
            have He2 := Lib.hid e2
            clear e2
            obtain ⟨_, _, disks, hf, hK, hh⟩ := HM.out
            have hw5 := hh.at (b := r5) (o := .cells #[ptrV bank, ptrV sp, ptrV p, ptrV x] 30 (0, 0)) (by simp [trio, world4])
            have c2 : wr.cell? ⟨r5, 2, none⟩ = some (.pointer (some ⟨p, 0, none⟩)) := cell_of hw5 2 rfl
            have l5 : r5 < wr.heap.size := World.block_lt_of_cell? _ _ c2
            have l5a : r5 < wr.heap.size + 1 := by omega
            have l5b : r5 < wr.heap.size + 1 + 1 := by omega
            obtain ⟨_, _, eq0, _, hq0⟩ := hh.ints_read (v := .slice (some ⟨q, 0, none⟩) 3 3) (xs := [2, 3, 9]) (by simp [trio])
            injection eq0 with eq1
            subst eq1
            obtain ⟨gq, eq2, cq, _⟩ := hq0 1 (by decide)
            injection eq2 with eq3
            injection eq3 with eq4
            subst eq4
            have cq : wr.cell? ⟨q, 1, none⟩ = some (.int .i64 3) := cq
            have lq := World.block_lt_of_cell? _ _ cq
            rw [show ((1 : Nat) : Int) = 1 from rfl]
            have h13 := ((hh.ints_new [5] (by simp)).ints_new [3] (by simp)).alloc (.cells #[.int .i64 level, .slice (some ⟨wr.heap.size, 0, none⟩) 1 1, .slice (some ⟨wr.heap.size + 1, 0, none⟩) 1 1] 35)
            simp only [World.size_alloc, List.map_cons, List.map_nil, intVal, List.length_cons, List.length_nil, Nat.zero_add] at h13
            have h14 : Has (((wr.alloc (.cells #[.int .i64 5] 3)).alloc (.cells #[.int .i64 3] 3)).alloc (.cells #[.int .i64 level, .slice (some ⟨wr.heap.size, 0, none⟩) 1 1, .slice (some ⟨wr.heap.size + 1, 0, none⟩) 1 1] 35)) (trio p bank sp 2 lvQ2 disks (spc1 20 lvY2) (intsS (.slice (some ⟨wr.heap.size, 0, none⟩) 1 1) [5] :: intsS (.slice (some ⟨wr.heap.size + 1, 0, none⟩) 1 1) [3] :: intsS (.slice (some ⟨q, 0, none⟩) 3 3) [2, 3, 9] :: world4 r5 (ptrV bank) (ptrV sp) (ptrV p) (ptrV x) :: l)) := (h13.reord [0, 2, 2, 2, 1]).tail
            have HP := Lib.hid (trio_Put (lvX level 3) (kv := .slice (some ⟨wr.heap.size, 0, none⟩) 1 1) (vv := .slice (some ⟨wr.heap.size + 1, 0, none⟩) 1 1) h14 (Ht.out.app [_, _, _, _]) (.head _) (.tail _ (.head _)) hf holds_q2 (by omega))
            have HK := Lib.hid (((hK.alloc (.cells #[.int .i64 5] 3)).alloc (.cells #[.int .i64 3] 3)).alloc (.cells #[.int .i64 level, .slice (some ⟨wr.heap.size, 0, none⟩) 1 1, .slice (some ⟨wr.heap.size + 1, 0, none⟩) 1 1] 35))
            have Hf := Lib.hid hf
            clear h13 h14 hw5 hf hK hh HM hq0
            simp only [Nd.val, lvX] at HP
            go_wp2_with fail
            refine HP.out.mono ?_
            rintro r wa hpost
            obtain ⟨rfl, hKa, h15⟩ := put_err (c := 70) hpost (lv_okx level 3 l0 l20 (by decide) (by decide)) ((lv_n3 level (by omega)).trans (if_neg He2.out))
            have h16 : Has wa (spaceS sp (spc1 20 lvY2) :: stS p bank sp lvQ2 :: bankS 2 bank disks :: intsS (.slice (some ⟨wr.heap.size, 0, none⟩) 1 1) [5] :: intsS (.slice (some ⟨wr.heap.size + 1, 0, none⟩) 1 1) [3] :: intsS (.slice (some ⟨q, 0, none⟩) 3 3) [2, 3, 9] :: world4 r5 (ptrV bank) (ptrV sp) (ptrV p) (ptrV x) :: l) := h15.reord [2]
            have HFr := Lib.hid (sp_FreeAll h16)
            rw [Hfr.out] at HFr
            have hw5 := h16.at (b := r5) (o := .cells #[ptrV bank, ptrV sp, ptrV p, ptrV x] 30 (0, 0)) (by simp [world4])
            have c1 : wa.cell? ⟨r5, 1, none⟩ = some (.pointer (some ⟨sp, 0, none⟩)) := cell_of hw5 1 rfl
            have l5 := World.block_lt_of_cell? _ _ c1
            have HIs := Lib.hid (law_is (some 70) 70 wa (by decide) (by decide))
            have HKa := Lib.hid (HK.out.trans hKa)
            clear h15 h16 hpost hKa hw5 HP HK cq lq c2
            simp only [errE, isE, errV] at HIs
            simp only [errV]
            go_wp2_with fail
            refine HIs.out.mono ?_
            rintro r wb ⟨rfl, rfl⟩
            go_wp2_with fail
            refine HFr.out.mono ?_
            rintro r wb ⟨rfl, hKb, h17⟩
            have HM2 : Hid (LevMid w level p bank sp r5 q (ptrV x) l (1 + 1) wb) := ⟨fun _ => by omega, fun _ => by omega, disks, Hf.out, HKa.out.trans hKb, (h17.reord [3, 3, 1, 1]).tail.tail.reord [0, 0, 0]⟩
            clear h17 hKb HFr HIs HKa c1 l5
            go_wp2
            go_roundg (3 - (1 + 1))
            case measure => omega
            case rel => exact ⟨1 + 1, by omega, rfl, by simp, HM2.out⟩
        · by_cases j2 : j = 2
          · subst j2
            have hl3 := HM.out.2.1 (by omega)
            have f0 : (level == 0) = false := by simp; omega
            have f1 : (level == 1) = false := by simp; omega
            have f2 : (level == 2) = false := by simp; omega
            obtain ⟨_, _, disks, hf, hK, hh⟩ := HM.out
            have hw5 := hh.at (b := r5) (o := .cells #[ptrV bank, ptrV sp, ptrV p, ptrV x] 30 (0, 0)) (by simp [trio, world4])
            have c2 : wr.cell? ⟨r5, 2, none⟩ = some (.pointer (some ⟨p, 0, none⟩)) := cell_of hw5 2 rfl
            have l5 : r5 < wr.heap.size := World.block_lt_of_cell? _ _ c2
            have l5a : r5 < wr.heap.size + 1 := by omega
            have l5b : r5 < wr.heap.size + 1 + 1 := by omega
            obtain ⟨_, _, eq0, _, hq0⟩ := hh.ints_read (v := .slice (some ⟨q, 0, none⟩) 3 3) (xs := [2, 3, 9]) (by simp [trio])
            injection eq0 with eq1
            subst eq1
            obtain ⟨gq, eq2, cq, _⟩ := hq0 2 (by decide)
            injection eq2 with eq3
            injection eq3 with eq4
            subst eq4
            have cq : wr.cell? ⟨q, 2, none⟩ = some (.int .i64 9) := cq
            have lq := World.block_lt_of_cell? _ _ cq
            rw [show ((2 : Nat) : Int) = 2 from rfl]
            have h13 := ((hh.ints_new [5] (by simp)).ints_new [9] (by simp)).alloc (.cells #[.int .i64 level, .slice (some ⟨wr.heap.size, 0, none⟩) 1 1, .slice (some ⟨wr.heap.size + 1, 0, none⟩) 1 1] 35)
            simp only [World.size_alloc, List.map_cons, List.map_nil, intVal, List.length_cons, List.length_nil, Nat.zero_add] at h13
            have h14 : Has (((wr.alloc (.cells #[.int .i64 5] 3)).alloc (.cells #[.int .i64 9] 3)).alloc (.cells #[.int .i64 level, .slice (some ⟨wr.heap.size, 0, none⟩) 1 1, .slice (some ⟨wr.heap.size + 1, 0, none⟩) 1 1] 35)) (trio p bank sp 2 lvQ2 disks (spc1 20 lvY2) (intsS (.slice (some ⟨wr.heap.size, 0, none⟩) 1 1) [5] :: intsS (.slice (some ⟨wr.heap.size + 1, 0, none⟩) 1 1) [9] :: intsS (.slice (some ⟨q, 0, none⟩) 3 3) [2, 3, 9] :: world4 r5 (ptrV bank) (ptrV sp) (ptrV p) (ptrV x) :: l)) := (h13.reord [0, 2, 2, 2, 1]).tail
            have HP := Lib.hid (trio_Put (lvX level 9) (kv := .slice (some ⟨wr.heap.size, 0, none⟩) 1 1) (vv := .slice (some ⟨wr.heap.size + 1, 0, none⟩) 1 1) h14 (Ht.out.app [_, _, _, _]) (.head _) (.tail _ (.head _)) hf holds_q2 (by omega))
            have HK := Lib.hid (((hK.alloc (.cells #[.int .i64 5] 3)).alloc (.cells #[.int .i64 9] 3)).alloc (.cells #[.int .i64 level, .slice (some ⟨wr.heap.size, 0, none⟩) 1 1, .slice (some ⟨wr.heap.size + 1, 0, none⟩) 1 1] 35))
            have Hf := Lib.hid hf
            clear h13 h14 hw5 hf hK hh HM hq0
            simp only [Nd.val, lvX] at HP
            go_wp2_with fail
            refine HP.out.mono ?_
            rintro r wa hpost
            obtain ⟨rfl, hKa, h15⟩ := put_err (c := 81) hpost (lv_okx level 9 l0 l20 (by decide) (by decide)) (lv_n9 level (by omega))
            have h16 : Has wa (spaceS sp (spc1 20 lvY2) :: stS p bank sp lvQ2 :: bankS 2 bank disks :: intsS (.slice (some ⟨wr.heap.size, 0, none⟩) 1 1) [5] :: intsS (.slice (some ⟨wr.heap.size + 1, 0, none⟩) 1 1) [9] :: intsS (.slice (some ⟨q, 0, none⟩) 3 3) [2, 3, 9] :: world4 r5 (ptrV bank) (ptrV sp) (ptrV p) (ptrV x) :: l) := h15.reord [2]
            have HFr := Lib.hid (sp_FreeAll h16)
            rw [Hfr.out] at HFr
            have hw5 := h16.at (b := r5) (o := .cells #[ptrV bank, ptrV sp, ptrV p, ptrV x] 30 (0, 0)) (by simp [world4])
            have c1 : wa.cell? ⟨r5, 1, none⟩ = some (.pointer (some ⟨sp, 0, none⟩)) := cell_of hw5 1 rfl
            have l5 := World.block_lt_of_cell? _ _ c1
            have HIs := Lib.hid (law_is (some 81) 81 wa (by decide) (by decide))
            have HKa := Lib.hid (HK.out.trans hKa)
            clear h15 h16 hpost hKa hw5 HP HK cq lq c2
            simp only [errE, isE, errV] at HIs
            simp only [errV]
            go_wp2_with fail
            refine HIs.out.mono ?_
            rintro r wb ⟨rfl, rfl⟩
            go_wp2_with fail
            refine HFr.out.mono ?_
            rintro r wb ⟨rfl, hKb, h17⟩
            have HM2 : Hid (LevMid w level p bank sp r5 q (ptrV x) l (2 + 1) wb) := ⟨fun _ => by omega, fun _ => by omega, disks, Hf.out, HKa.out.trans hKb, (h17.reord [3, 3, 1, 1]).tail.tail.reord [0, 0, 0]⟩
            clear h17 hKb HFr HIs HKa c1 l5
            go_wp2
            go_roundg (3 - (2 + 1))
            case measure => omega
            case rel => exact ⟨2 + 1, by omega, rfl, by simp, HM2.out⟩
          · obtain rfl : j = 3 := by omega
            obtain ⟨_, _, disks, hf, hK, hh⟩ := HM.out
            have HPg := Lib.hid (st_Pages hh (by decide))
            have hw5 := hh.at (b := r5) (o := .cells #[ptrV bank, ptrV sp, ptrV p, ptrV x] 30 (0, 0)) (by simp [trio, world4])
            have c2 : wr.cell? ⟨r5, 2, none⟩ = some (.pointer (some ⟨p, 0, none⟩)) := cell_of hw5 2 rfl
            have l5 := World.block_lt_of_cell? _ _ c2
            have HK := Lib.hid hK
            clear hh hK hf HM hw5
            go_wp2_with fail
            refine HPg.out.mono ?_
            rintro r wa ⟨v, rfl, hKa, h15⟩
            obtain ⟨av, cv, rfl, _, _⟩ := h15.ints_read (v := v) (xs := [2, 3]) (.head _)
            have HA := Lib.hid (law_awake h15 (Ht.out.app [_, _, _, _, _, _]))
            have HKa := Lib.hid (HK.out.trans hKa)
            clear h15 hKa HPg HK c2 l5
            go_wp2_with fail
            refine HA.out.mono ?_
            rintro r wc ⟨rfl, hKc, h18⟩
            have HF : Hid (Kept w wc ∧ Has wc l) := ⟨HKa.out.trans hKc, h18.tail.tail.tail.tail.tail.tail⟩
            clear hKc h18 HA HKa
            go_wp2
            go_ret
            exact ⟨rfl, HF.out.1, HF.out.2⟩
  · have hcs : (Nd.ok ⟨lv, ks, vs⟩ = false) ∨ (Nd.ok ⟨lv, ks, vs⟩ = true ∧ level < 0) ∨ (Nd.ok ⟨lv, ks, vs⟩ = true ∧ 0 ≤ level ∧ 20 < level) := by
      cases hb : Nd.ok ⟨lv, ks, vs⟩ with
      | false => exact .inl rfl
      | true =>
        have hgo2 : ¬ (0 ≤ level ∧ level ≤ 20) := fun h => hgo ⟨hb, h.1, h.2⟩
        by_cases hn : level < 0
        · exact .inr (.inl ⟨rfl, hn⟩)
        · exact .inr (.inr ⟨rfl, by omega, by omega⟩)
    clear hgo
    rcases hcs with hok | ⟨hok, hlo⟩ | ⟨hok, hlo, hhi⟩
    all_goals
      rw [hok]
      clear hok
      go_wp2_with fail
      refine HA.out.mono ?_
      rintro r w4 ⟨rfl, hK4, h4⟩
      have HF : Hid (Kept w w4 ∧ Has w4 l) := ⟨HK3.out.trans hK4, h4.tail.tail.tail.tail.tail.tail⟩
      clear hK4 h4 HA HK3 H3
      go_wp2
      go_ret
      exact ⟨rfl, HF.out.1, HF.out.2⟩
end Go.Proofs.YtgbgneiciabidaaGreatDoor
