/-
  Law 11: nodes that are told are new memory (PagesOwn), the walk.
-/
import Derived.Test.YtgbgneiciabidaaGreatDoorAwake
namespace Go.Proofs.YtgbgneiciabidaaGreatDoor
open Go Go.RowKit
set_option linter.all false

theorem Has.row_ne {w : World} {l : List Say} {e : TypeId} {size g n c m b : Nat} {xs : List Value} {o : Obj} (h : Has w (rowS e size (.slice (some ⟨g, 0, none⟩) n c) m xs :: l)) (hm : pts b o ∈ l) : g ≠ b := by
  obtain ⟨h1, h2, ⟨_, hc⟩, hl, d1, d2⟩ := h
  rcases hc with ⟨hv, _⟩ | ⟨g', cap, cur, hv, hg, _⟩
  · cases hv
  · cases hv
    obtain ⟨p, hp, hk⟩ := Sep.mem hm hl
    rintro rfl
    have hp' : p g = some o := hp
    have e1 := (d1 g (by rw [hg]; simp)).2
    have e2 := hk g (by rw [hp']; simp)
    rw [e1, hp'] at e2
    cases e2
theorem Has.row_apart {w : World} {l : List Say} {e e' : TypeId} {size size' g n c m g' n' c' m' : Nat} {xs xs' : List Value} (h : Has w (rowS e size (.slice (some ⟨g, 0, none⟩) n c) m xs :: l))
    (hm : rowS e' size' (.slice (some ⟨g', 0, none⟩) n' c') m' xs' ∈ l) : g ≠ g' := by
  obtain ⟨h1, h2, ⟨_, hc⟩, hl, d1, d2⟩ := h
  rcases hc with ⟨hv, _⟩ | ⟨g1, cap, cur, hv, hg, _⟩
  · cases hv
  · cases hv
    obtain ⟨p, ⟨_, hp⟩, hk⟩ := Sep.mem hm hl
    rcases hp with ⟨hv, _⟩ | ⟨g2, cap2, cur2, hv, hg2, _⟩
    · cases hv
    · cases hv
      rintro rfl
      have e1 := (d1 g (by rw [hg]; simp)).2
      have e2 := hk g (by rw [hg2]; simp)
      rw [e1, hg2] at e2
      cases e2
/-- A store into a row of numbers. -/
theorem Has.ints_set {w : World} {l : List Say} {g n c : Nat} {xs : List Int} (h : Has w (intsS (.slice (some ⟨g, 0, none⟩) n c) xs :: l)) (hn : n = xs.length) (j : Nat) (u : Int) :
    Has (w.setCell ⟨g, j, none⟩ (.int .i64 u)) (intsS (.slice (some ⟨g, 0, none⟩) n c) (xs.set j u) :: l) := by
  subst hn
  have := Has.row_set h j (.int .i64 u)
  rw [intsS, List.length_set, List.map_set]
  exact this

/-- The rows of a node that is written over. -/
def OwnMid (w : World) (r : Nat) (lv : Int) (ga ca gb cb n m : Nat) (rest : List Say) (wr : World) : Prop := ∃ ks vs : List Int, ks.length = n ∧ vs.length = m ∧ Kept w wr ∧
  Has wr (intsS (.slice (some ⟨ga, 0, none⟩) n ca) ks :: intsS (.slice (some ⟨gb, 0, none⟩) m cb) vs :: pts r (.cells #[.int .i64 lv, .slice (some ⟨ga, 0, none⟩) n ca, .slice (some ⟨gb, 0, none⟩) m cb] 35 (0, 0)) :: rest)
structure OwnRead (r : Nat) (lv : Int) (ga ca gb cb n m k : Nat) (wr : World) : Prop where
  x1 : wr.cell? ⟨r, 1, none⟩ = some (.slice (some ⟨ga, 0, none⟩) n ca)
  x2 : wr.cell? ⟨r, 2, none⟩ = some (.slice (some ⟨gb, 0, none⟩) m cb)
  y1 : ∃ u, wr.cell? ⟨ga, k, none⟩ = some u
  y2 : ∃ u, wr.cell? ⟨gb, k, none⟩ = some u
  f1 : wr.frozen? ⟨ga, k, none⟩ = false
  f2 : wr.frozen? ⟨gb, k, none⟩ = false
  n1 : ga ≠ r
  n2 : gb ≠ r
  n3 : ga ≠ gb
theorem OwnMid.read {w : World} {r : Nat} {lv : Int} {ga ca gb cb n m : Nat} {rest : List Say} {wr : World} (h : OwnMid w r lv ga ca gb cb n m rest wr) (k : Nat) (hk : k < n) (hm : k < m) : OwnRead r lv ga ca gb cb n m k wr := by
  obtain ⟨ks, vs, e1, e2, hK, hh⟩ := h
  have hp := (hh.pull 2).got
  obtain ⟨a, c, ea, _, ra⟩ := hh.ints_read (v := .slice (some ⟨ga, 0, none⟩) n ca) (xs := ks) (.head _)
  obtain ⟨b, d, eb, _, rb⟩ := hh.ints_read (v := .slice (some ⟨gb, 0, none⟩) m cb) (xs := vs) (.tail _ (.head _))
  obtain ⟨g1, ea1, ca1, fa1⟩ := ra k (by omega)
  obtain ⟨g2, eb1, cb1, fb1⟩ := rb k (by omega)
  injection ea with ea2 ea3 ea4
  injection eb with eb2 eb3 eb4
  subst ea2 eb2
  cases ea1
  cases eb1
  exact ⟨cell_of hp 1 rfl, cell_of hp 2 rfl, ⟨_, ca1⟩, ⟨_, cb1⟩, fa1 _, fb1 _, hh.row_ne (.tail _ (.head _)), hh.tail.row_ne (.head _), hh.row_apart (.head _)⟩
theorem OwnMid.write {w : World} {r : Nat} {lv : Int} {ga ca gb cb n m : Nat} {rest : List Say} {wr : World} (h : OwnMid w r lv ga ca gb cb n m rest wr) (k : Nat) (u v : Int) : OwnMid w r lv ga ca gb cb n m rest ((wr.setCell ⟨ga, k, none⟩ (.int .i64 u)).setCell ⟨gb, k, none⟩ (.int .i64 v)) := by
  obtain ⟨ks, vs, e1, e2, hK, hh⟩ := h
  exact ⟨ks.set k u, vs.set k v, by simpa using e1, by simpa using e2, (hK.setCell _ _).setCell _ _, ((hh.ints_set e1.symm k u).swap.ints_set e2.symm k v).swap⟩
theorem OwnMid.drew {w : World} {r : Nat} {lv : Int} {ga ca gb cb n m : Nat} {rest : List Say} {wr : World} (h : OwnMid w r lv ga ca gb cb n m rest wr) : OwnMid w r lv ga ca gb cb n m rest wr.drew := by
  obtain ⟨ks, vs, e1, e2, hK, hh⟩ := h
  exact ⟨ks, vs, e1, e2, hK.drew, hh.drew⟩

set_option maxHeartbeats 2000000 in
set_option maxRecDepth 100000 in
theorem law_own {w : World} {l : List Say} (n : Nd) {kv vv : Value} (h : Has w l) (ht : Tab l) (hk : Srcs l kv n.keys) (hv : Srcs l vv n.vals) : Calls Tryz.prog 3 #[n.val kv vv] w (YesPost l w) := by
  have h0 := h.alloc (.cells #[.int .i64 n.level, kv, vv] 24)
  have h1 := h0.ints_new [20] (by simp)
  simp only [World.size_alloc, List.map_cons, List.map_nil, intVal, List.length_cons, List.length_nil, Nat.zero_add] at h1
  have HM := Lib.hid (law_made [20] h1 (Srcs.of_ints (.head _)))
  have HK0 : Hid (Kept w ((w.alloc (.cells #[.int .i64 n.level, kv, vv] 24)).alloc (.cells #[.int .i64 20] 3))) := ((Kept.refl w).alloc _).alloc _
  have Ht := Lib.hid ht
  have Hk := Lib.hid hk
  have Hv := Lib.hid hv
  clear h h0 h1 ht hk hv
  obtain ⟨lv, ks, vs⟩ := n
  simp only [Nd.val] at *
  go_enter Tryz.func3, Tryz.ntmps3
  go_wp2_with fail
  refine HM.out.mono ?_
  rintro r w1 ⟨hK1, (⟨hno, _⟩ | ⟨_, bank, sp, p, x, rfl, h1⟩)⟩
  · exact absurd hno (by decide)
  have h2 := h1.alloc (.cells #[ptrV bank, ptrV sp, ptrV p, ptrV x] 30)
  have hbx := h2.at (b := w.heap.size) (o := .cells #[.int .i64 lv, kv, vv] 24 (0, 0)) (by simp [world3])
  have B0 := Lib.hid (cell_of hbx 0 (v := .int .i64 lv) rfl)
  have hby := h1.at (b := w.heap.size) (o := .cells #[.int .i64 lv, kv, vv] 24 (0, 0)) (by simp [world3])
  have b0 := cell_of hby 0 (v := .int .i64 lv) rfl
  have b1 := cell_of hby 1 (v := kv) rfl
  have b2 := cell_of hby 2 (v := vv) rfl
  have lb := World.block_lt_of_cell? _ _ b0
  have hkr := (Hk.out _ h2.tail.tail.tail.tail.tail.tail).rd
  have hvr := (Hv.out _ h2.tail.tail.tail.tail.tail.tail).rd
  have HR := Lib.hid (ref_Right ⟨lv, ks, vs⟩ (kv := kv) (vv := vv) hkr hvr)
  have H2 := Lib.hid h2
  have HK2 := Lib.hid ((HK0.out.trans hK1).alloc (.cells #[ptrV bank, ptrV sp, ptrV p, ptrV x] 30))
  clear h1 h2 hK1 HM HK0 hbx hby hkr hvr
  simp only [Nd.val, ptrV] at HR H2 HK2 ⊢
  go_wp2_with fail
  refine HR.out.mono ?_
  rintro r w3 ⟨rfl, hb3⟩
  have H3 := Lib.hid (H2.out.below hb3)
  have HK3 := Lib.hid (HK2.out.trans (Kept.below hb3))
  have c0 := bcell1 hb3 B0.out
  clear hb3 HR H2 HK2 B0 b0 b1 b2 lb
  have lb := World.block_lt_of_cell? _ _ c0
  generalize hq1 : w1.heap.size = r3 at *
  generalize hqx : w.heap.size = bx at *
  have HA := Lib.hid (law_awake H3.out (Ht.out.app (m := [_, _, _, _, _, _])))
  cases hok : Nd.ok ⟨lv, ks, vs⟩ with
  | false =>
    clear hok c0 lb
    go_wp2_with fail
    refine HA.out.mono ?_
    rintro r w4 ⟨rfl, hK4, h4⟩
    have HF : Hid (Kept w w4 ∧ Has w4 l) := ⟨HK3.out.trans hK4, h4.tail.tail.tail.tail.tail.tail⟩
    clear hK4 h4 HA HK3 H3
    go_wp2
    go_ret
    exact ⟨rfl, HF.out.1, HF.out.2⟩
  | true =>
    by_cases h0 : 0 < lv
    · clear hok
      go_wp2_with fail
      refine HA.out.mono ?_
      rintro r w4 ⟨rfl, hK4, h4⟩
      have HF : Hid (Kept w w4 ∧ Has w4 l) := ⟨HK3.out.trans hK4, h4.tail.tail.tail.tail.tail.tail⟩
      clear hK4 h4 HA HK3 H3
      go_wp2
      go_ret
      exact ⟨rfl, HF.out.1, HF.out.2⟩
    · obtain ⟨q0, q1, q2, q3, q4⟩ := ok_lens hok
      simp only at q0 q1 q2 q3 q4
      obtain rfl : lv = 0 := by
        simp only [Nd.ok, Bool.and_eq_true, decide_eq_true_eq] at hok
        omega
      have Hok := Lib.hid hok
      have Hq2 := Lib.hid q2
      have hOf := law_of ⟨0, ks, vs⟩ (kv := kv) (vv := vv) H3.out (((((((Hk.out.cons).cons).cons).cons).cons).cons)) (((((((Hv.out.cons).cons).cons).cons).cons).cons)) (by simp only; omega) (by simp only; omega)
      simp only [Nd.val] at hOf
      have HOf := Lib.hid hOf
      have hbx := H3.out.at (b := bx) (o := .cells #[.int .i64 0, kv, vv] 24 (0, 0)) (by simp [world3])
      have c1 := cell_of hbx 1 (v := kv) rfl
      have c2 := cell_of hbx 2 (v := vv) rfl
      have v1 : 1 ≤ vs.length := by omega
      clear hok HA hOf hbx q2
      go_wp2_with fail
      refine HOf.out.mono ?_
      rintro r w4 ⟨k2, v2, rfl, hK4, h4⟩
      obtain ⟨aa, ca, rfl, _, ra⟩ := h4.ints_read (v := k2) (xs := ks) (.head _)
      obtain ⟨ga, rfl, _, _⟩ := ra 0 (by omega)
      obtain ⟨ab, cb, rfl, _, rb⟩ := h4.ints_read (v := v2) (xs := vs) (.tail _ (.head _))
      obtain ⟨gb, rfl, _, _⟩ := rb 0 (by omega)
      have h5 := h4.alloc (.cells #[.int .i64 0, .slice (some ⟨ga, 0, none⟩) ks.length ca, .slice (some ⟨gb, 0, none⟩) vs.length cb] 35)
      have h6 : Has (w4.alloc (.cells #[.int .i64 0, .slice (some ⟨ga, 0, none⟩) ks.length ca, .slice (some ⟨gb, 0, none⟩) vs.length cb] 35)) (world3 p bank sp 0 0 [] [List.replicate 20 zeros] (freshSpc [⟨1, 20⟩]) (pts w4.heap.size (.cells #[.int .i64 0, .slice (some ⟨ga, 0, none⟩) ks.length ca, .slice (some ⟨gb, 0, none⟩) vs.length cb] 35 (0, 0)) ::
        intsS (.slice (some ⟨ga, 0, none⟩) ks.length ca) ks :: intsS (.slice (some ⟨gb, 0, none⟩) vs.length cb) vs :: world4 r3 (ptrV bank) (ptrV sp) (ptrV p) (ptrV x) :: intsS (.slice (some ⟨bx + 1, 0, none⟩) 1 1) [20] :: pts bx (.cells #[.int .i64 0, kv, vv] 24 (0, 0)) :: l)) := h5.reord [4, 4, 4]
      have HP := Lib.hid (st_Put (p := p) (bank := bank) (sp := sp) (m := 0) (N := 0) (Q := []) (disks := [List.replicate 20 zeros]) (X := freshSpc [⟨1, 20⟩]) ⟨0, ks, vs⟩ (kv := .slice (some ⟨ga, 0, none⟩) ks.length ca) (vv := .slice (some ⟨gb, 0, none⟩) vs.length cb) h6 Ht.out.cons.cons.cons.cons.cons.cons (.tail _ (.head _)) (.tail _ (.tail _ (.head _))) (fits_fresh [20]) (holds_none _) (by omega) (by omega))
      have HK5 := Lib.hid ((HK3.out.trans hK4).alloc (.cells #[.int .i64 0, .slice (some ⟨ga, 0, none⟩) ks.length ca, .slice (some ⟨gb, 0, none⟩) vs.length cb] 35))
      have hw3 := (h4.pull 2).got
      have d2 : w4.cell? ⟨r3, 2, none⟩ = some (.pointer (some ⟨p, 0, none⟩)) := cell_of hw3 2 rfl
      have l3 := World.block_lt_of_cell? _ _ d2
      clear h4 h5 h6 hK4 HOf ra rb c0 c1 c2 lb H3 HK3 hw3
      simp only [Nd.val] at HP ⊢
      go_wp2_with fail
      refine HP.out.mono ?_
      rintro r w5 hpost
      obtain ⟨rfl, hK5, secs, h7⟩ := fresh_put (by omega) Hok.out rfl hpost
      have h8 : Has w5 (intsS (.slice (some ⟨ga, 0, none⟩) ks.length ca) ks :: intsS (.slice (some ⟨gb, 0, none⟩) vs.length cb) vs :: pts w4.heap.size (.cells #[.int .i64 0, .slice (some ⟨ga, 0, none⟩) ks.length ca, .slice (some ⟨gb, 0, none⟩) vs.length cb] 35 (0, 0)) ::
        storeS p bank sp 1 [(2, ⟨⟨0, ks, vs⟩, 0, 0⟩)] :: bankS 1 bank secs :: spaceS sp ((freshSpc [⟨1, 20⟩]).put 0 ((emptyShelf 20).took 2)) :: world4 r3 (ptrV bank) (ptrV sp) (ptrV p) (ptrV x) :: intsS (.slice (some ⟨bx + 1, 0, none⟩) 1 1) [20] :: pts bx (.cells #[.int .i64 0, kv, vv] 24 (0, 0)) :: l) := h7.reord [4, 4, 3]
      have HM : Hid (OwnMid w w4.heap.size 0 ga ca gb cb ks.length vs.length (storeS p bank sp 1 [(2, ⟨⟨0, ks, vs⟩, 0, 0⟩)] :: bankS 1 bank secs :: spaceS sp ((freshSpc [⟨1, 20⟩]).put 0 ((emptyShelf 20).took 2)) :: world4 r3 (ptrV bank) (ptrV sp) (ptrV p) (ptrV x) :: intsS (.slice (some ⟨bx + 1, 0, none⟩) 1 1) [20] :: pts bx (.cells #[.int .i64 0, kv, vv] 24 (0, 0)) :: l) w5) := ⟨ks, vs, rfl, rfl, HK5.out.trans hK5, h8⟩
      clear hpost hK5 h7 h8 HP HK5 d2 l3
      have R0 := HM.out.read 0 (by omega) (by have := Hq2.out; omega)
      have x1 := R0.x1
      have l5 := World.block_lt_of_cell? _ _ x1
      clear R0
      generalize w4.heap.size = r5 at *
      go_wp2
      clear x1 l5
      go_loopg [49] ks.length (fun gk i wr => ∃ k : Nat, k ≤ ks.length ∧ gk = ks.length - k ∧ i = .int .i64 k ∧ Hid (OwnMid w r5 0 ga ca gb cb ks.length vs.length (storeS p bank sp 1 [(2, ⟨⟨0, ks, vs⟩, 0, 0⟩)] :: bankS 1 bank secs :: spaceS sp ((freshSpc [⟨1, 20⟩]).put 0 ((emptyShelf 20).took 2)) :: world4 r3 (ptrV bank) (ptrV sp) (ptrV p) (ptrV x) :: intsS (.slice (some ⟨bx + 1, 0, none⟩) 1 1) [20] :: pts bx (.cells #[.int .i64 0, kv, vv] 24 (0, 0)) :: l) wr))
      case atStart => exact ⟨0, Nat.zero_le _, rfl, rfl, HM⟩
      case round =>
        clear HM
        obtain ⟨k, hk, rfl, rfl, HM⟩ := hrel
        by_cases hlt : k < ks.length
        · obtain ⟨x1, x2, ⟨u1, y1⟩, ⟨u2, y2⟩, f1, f2, n1, n2, n3⟩ := HM.out.read k hlt (by have := Hq2.out; omega)
          have k1 : (k : Int) < (ks.length : Int) := by omega
          have k2 : (k : Int) < (vs.length : Int) := by have := Hq2.out; omega
          have k0 : (0 : Int) ≤ k := by omega
          have lr := World.block_lt_of_cell? _ _ x1
          have la := World.block_lt_of_cell? _ _ y1
          have lb := World.block_lt_of_cell? _ _ y2
          have HM2 := Lib.hid ((HM.out.write k (-1) (-1)).drew)
          clear HM
          go_wp2
          go_region_held3 (fun w' => w'.cell? ⟨r5, 1, none⟩ = some (.slice (some ⟨ga, 0, none⟩) ks.length ca) ∧ w'.cell? ⟨r5, 2, none⟩ = some (.slice (some ⟨gb, 0, none⟩) vs.length cb)) (first | with_reducible exact ⟨x1, x2⟩ | exact ⟨(World.cell?_setCell_far _ _ _ _ n1).trans x1, (World.cell?_setCell_far _ _ _ _ n1).trans x2⟩ | exact ⟨(World.cell?_setCell_far _ _ _ _ n2).trans ((World.cell?_setCell_far _ _ _ _ n1).trans x1), (World.cell?_setCell_far _ _ _ _ n2).trans ((World.cell?_setCell_far _ _ _ _ n1).trans x2)⟩ | go_keep) (fail)
          all_goals
            go_wp2
            go_roundg (ks.length - (k + 1))
            case measure => omega
            case rel => exact ⟨k + 1, by omega, rfl, by simp, HM2.out⟩
        · obtain rfl : k = ks.length := by omega
          obtain ⟨ks1, vs1, _, _, hK, hh⟩ := HM.out
          have HG := Lib.hid (st_Get (hh.pull 3) 2 (by omega) (by omega))
          have hw3 := (hh.pull 6).got
          have d2 : wr.cell? ⟨r3, 2, none⟩ = some (.pointer (some ⟨p, 0, none⟩)) := cell_of hw3 2 rfl
          have l3 := World.block_lt_of_cell? _ _ d2
          have HK := Lib.hid hK
          clear hh hK HM hw3
          go_wp2_with fail
          refine HG.out.mono ?_
          rintro r w6 (⟨hno, _⟩ | ⟨g, k2, v2, hg, rfl, hK6, h6⟩)
          · simp [VMap.get] at hno
          · obtain rfl : g = ⟨⟨0, ks, vs⟩, 0, 0⟩ := by simpa [VMap.get] using hg.symm
            simp only at h6 ⊢
            obtain ⟨ac, cc, rfl, _, rc⟩ := h6.ints_read (v := k2) (xs := ks) (.head _)
            obtain ⟨gc, rfl, _, _⟩ := rc 0 (by omega)
            obtain ⟨ad, cd, rfl, _, rd⟩ := h6.ints_read (v := v2) (xs := vs) (.tail _ (.head _))
            obtain ⟨gd, rfl, _, _⟩ := rd 0 (by omega)
            have h7 : Has (w6.alloc (.cells #[.int .i64 0, .slice (some ⟨gc, 0, none⟩) ks.length cc, .slice (some ⟨gd, 0, none⟩) vs.length cd] 35)) (intsS (.slice (some ⟨gc, 0, none⟩) ks.length cc) ks :: intsS (.slice (some ⟨gd, 0, none⟩) vs.length cd) vs :: pts w6.heap.size (.cells #[.int .i64 0, .slice (some ⟨gc, 0, none⟩) ks.length cc, .slice (some ⟨gd, 0, none⟩) vs.length cd] 35 (0, 0)) :: (storeS p bank sp 1 [(2, ⟨⟨0, ks, vs⟩, 0, 0⟩)] :: intsS (.slice (some ⟨ga, 0, none⟩) ks.length ca) ks1 :: intsS (.slice (some ⟨gb, 0, none⟩) vs.length cb) vs1 :: pts r5 (.cells #[.int .i64 0, .slice (some ⟨ga, 0, none⟩) ks.length ca, .slice (some ⟨gb, 0, none⟩) vs.length cb] 35 (0, 0)) :: bankS 1 bank secs :: spaceS sp ((freshSpc [⟨1, 20⟩]).put 0 ((emptyShelf 20).took 2)) :: world4 r3 (ptrV bank) (ptrV sp) (ptrV p) (ptrV x) :: intsS (.slice (some ⟨bx + 1, 0, none⟩) 1 1) [20] :: pts bx (.cells #[.int .i64 0, kv, vv] 24 (0, 0)) :: l)) := (h6.alloc (.cells #[.int .i64 0, .slice (some ⟨gc, 0, none⟩) ks.length cc, .slice (some ⟨gd, 0, none⟩) vs.length cd] 35)).push 2
            have hl7 : Has (w6.alloc (.cells #[.int .i64 0, .slice (some ⟨gc, 0, none⟩) ks.length cc, .slice (some ⟨gd, 0, none⟩) vs.length cd] 35)) l := h7.tail.tail.tail.tail.tail.tail.tail.tail.tail.tail.tail.tail
            have HS := Lib.hid (ref_Same ⟨0, ks, vs⟩ (kv := .slice (some ⟨gc, 0, none⟩) ks.length cc) (vv := .slice (some ⟨gd, 0, none⟩) vs.length cd) (kv2 := kv) (vv2 := vv) (h7.rd (.head _)) (h7.rd (.tail _ (.head _))) (Hk.out _ hl7).rd (Hv.out _ hl7).rd (by simp only; omega) (by simp only; have := Hq2.out; omega))
            have hbx := h6.at (b := bx) (o := .cells #[.int .i64 0, kv, vv] 24 (0, 0)) (by simp)
            have e0 := cell_of hbx 0 (v := .int .i64 0) rfl
            have e1 := cell_of hbx 1 (v := kv) rfl
            have e2 := cell_of hbx 2 (v := vv) rfl
            have lbx := World.block_lt_of_cell? _ _ e0
            have H7 := Lib.hid h7
            have HK7 := Lib.hid ((HK.out.trans hK6).alloc (.cells #[.int .i64 0, .slice (some ⟨gc, 0, none⟩) ks.length cc, .slice (some ⟨gd, 0, none⟩) vs.length cd] 35))
            clear h6 h7 hl7 hK6 HK HG hg rc rd hbx d2 l3
            simp only [Nd.val] at HS ⊢
            go_wp2_with fail
            refine HS.out.mono ?_
            rintro r w8 ⟨rfl, hb8⟩
            have h8 := H7.out.below hb8
            have HM : Hid (OwnMid w w6.heap.size 0 gc cc gd cd ks.length vs.length (storeS p bank sp 1 [(2, ⟨⟨0, ks, vs⟩, 0, 0⟩)] :: intsS (.slice (some ⟨ga, 0, none⟩) ks.length ca) ks1 :: intsS (.slice (some ⟨gb, 0, none⟩) vs.length cb) vs1 :: pts r5 (.cells #[.int .i64 0, .slice (some ⟨ga, 0, none⟩) ks.length ca, .slice (some ⟨gb, 0, none⟩) vs.length cb] 35 (0, 0)) :: bankS 1 bank secs :: spaceS sp ((freshSpc [⟨1, 20⟩]).put 0 ((emptyShelf 20).took 2)) :: world4 r3 (ptrV bank) (ptrV sp) (ptrV p) (ptrV x) :: intsS (.slice (some ⟨bx + 1, 0, none⟩) 1 1) [20] :: pts bx (.cells #[.int .i64 0, kv, vv] 24 (0, 0)) :: l) w8) := ⟨ks, vs, rfl, rfl, HK7.out.trans (Kept.below hb8), h8⟩
            clear h8 hb8 HS H7 HK7 e0 e1 e2 lbx
            have R0 := HM.out.read 0 (by omega) (by have := Hq2.out; omega)
            have x1 := R0.x1
            have l5 := World.block_lt_of_cell? _ _ x1
            clear R0
            generalize w6.heap.size = r9 at *
            go_wp2
            clear x1 l5
            go_loopg [79] ks.length (fun gk i wr => ∃ k : Nat, k ≤ ks.length ∧ gk = ks.length - k ∧ i = .int .i64 k ∧ Hid (OwnMid w r9 0 gc cc gd cd ks.length vs.length (storeS p bank sp 1 [(2, ⟨⟨0, ks, vs⟩, 0, 0⟩)] :: intsS (.slice (some ⟨ga, 0, none⟩) ks.length ca) ks1 :: intsS (.slice (some ⟨gb, 0, none⟩) vs.length cb) vs1 :: pts r5 (.cells #[.int .i64 0, .slice (some ⟨ga, 0, none⟩) ks.length ca, .slice (some ⟨gb, 0, none⟩) vs.length cb] 35 (0, 0)) :: bankS 1 bank secs :: spaceS sp ((freshSpc [⟨1, 20⟩]).put 0 ((emptyShelf 20).took 2)) :: world4 r3 (ptrV bank) (ptrV sp) (ptrV p) (ptrV x) :: intsS (.slice (some ⟨bx + 1, 0, none⟩) 1 1) [20] :: pts bx (.cells #[.int .i64 0, kv, vv] 24 (0, 0)) :: l) wr))
            case atStart => exact ⟨0, Nat.zero_le _, rfl, rfl, HM⟩
            case round =>
              clear HM
              obtain ⟨k, hk, rfl, rfl, HM⟩ := hrel
              by_cases hlt : k < ks.length
              · obtain ⟨x1, x2, ⟨u1, y1⟩, ⟨u2, y2⟩, f1, f2, n1, n2, n3⟩ := HM.out.read k hlt (by have := Hq2.out; omega)
                have k1 : (k : Int) < (ks.length : Int) := by omega
                have k2 : (k : Int) < (vs.length : Int) := by have := Hq2.out; omega
                have k0 : (0 : Int) ≤ k := by omega
                have lr := World.block_lt_of_cell? _ _ x1
                have la := World.block_lt_of_cell? _ _ y1
                have lb := World.block_lt_of_cell? _ _ y2
                have HM2 := Lib.hid ((HM.out.write k (-2) (-2)).drew)
                clear HM
                go_wp2
                go_region_held3 (fun w' => w'.cell? ⟨r9, 1, none⟩ = some (.slice (some ⟨gc, 0, none⟩) ks.length cc) ∧ w'.cell? ⟨r9, 2, none⟩ = some (.slice (some ⟨gd, 0, none⟩) vs.length cd)) (first | with_reducible exact ⟨x1, x2⟩ | exact ⟨(World.cell?_setCell_far _ _ _ _ n1).trans x1, (World.cell?_setCell_far _ _ _ _ n1).trans x2⟩ | exact ⟨(World.cell?_setCell_far _ _ _ _ n2).trans ((World.cell?_setCell_far _ _ _ _ n1).trans x1), (World.cell?_setCell_far _ _ _ _ n2).trans ((World.cell?_setCell_far _ _ _ _ n1).trans x2)⟩ | go_keep) (fail)
                all_goals
                  go_wp2
                  go_roundg (ks.length - (k + 1))
                  case measure => omega
                  case rel => exact ⟨k + 1, by omega, rfl, by simp, HM2.out⟩
              · obtain rfl : k = ks.length := by omega
                obtain ⟨ks3, vs3, _, _, hK, hh⟩ := HM.out
                have HG := Lib.hid (st_Get (hh.pull 3) 2 (by omega) (by omega))
                have hw3 := (hh.pull 9).got
                have d2 : wr.cell? ⟨r3, 2, none⟩ = some (.pointer (some ⟨p, 0, none⟩)) := cell_of hw3 2 rfl
                have l3 := World.block_lt_of_cell? _ _ d2
                have HK := Lib.hid hK
                clear hh hK HM hw3
                go_wp2_with fail
                refine HG.out.mono ?_
                rintro r wa (⟨hno, _⟩ | ⟨g, k2, v2, hg, rfl, hK6, h6⟩)
                · simp [VMap.get] at hno
                · obtain rfl : g = ⟨⟨0, ks, vs⟩, 0, 0⟩ := by simpa [VMap.get] using hg.symm
                  simp only at h6 ⊢
                  obtain ⟨ac2, cc2, rfl, _, _⟩ := h6.ints_read (v := k2) (xs := ks) (.head _)
                  obtain ⟨ad2, cd2, rfl, _, _⟩ := h6.ints_read (v := v2) (xs := vs) (.tail _ (.head _))
                  have h7 := h6.alloc (.cells #[.int .i64 0, (.slice ac2 ks.length cc2), (.slice ad2 vs.length cd2)] 35)
                  have hl7 : Has (wa.alloc (.cells #[.int .i64 0, (.slice ac2 ks.length cc2), (.slice ad2 vs.length cd2)] 35)) l := h7.tail.tail.tail.tail.tail.tail.tail.tail.tail.tail.tail.tail.tail.tail.tail
                  have HS := Lib.hid (ref_Same ⟨0, ks, vs⟩ (kv := .slice ac2 ks.length cc2) (vv := .slice ad2 vs.length cd2) (kv2 := kv) (vv2 := vv) (h7.rd (.tail _ (.head _))) (h7.rd (.tail _ (.tail _ (.head _)))) (Hk.out _ hl7).rd (Hv.out _ hl7).rd (by simp only; omega) (by simp only; have := Hq2.out; omega))
                  have hbx := h6.at (b := bx) (o := .cells #[.int .i64 0, kv, vv] 24 (0, 0)) (by simp)
                  have e0 := cell_of hbx 0 (v := .int .i64 0) rfl
                  have e1 := cell_of hbx 1 (v := kv) rfl
                  have e2 := cell_of hbx 2 (v := vv) rfl
                  have lbx := World.block_lt_of_cell? _ _ e0
                  have H7 := Lib.hid hl7
                  have HK7 := Lib.hid ((HK.out.trans hK6).alloc (.cells #[.int .i64 0, (.slice ac2 ks.length cc2), (.slice ad2 vs.length cd2)] 35))
                  clear h6 h7 hl7 hK6 HK HG hg hbx d2 l3
                  simp only [Nd.val] at HS ⊢
                  go_wp2_with fail
                  refine HS.out.mono ?_
                  rintro r wb ⟨rfl, hb8⟩
                  have HA := Lib.hid (law_awake (H7.out.below hb8) Ht.out)
                  have HKb := Lib.hid (HK7.out.trans (Kept.below hb8))
                  clear hb8 HS H7 HK7 e0 e1 e2 lbx
                  go_wp2_with fail
                  refine HA.out.mono ?_
                  rintro r wc ⟨rfl, hKc, hc⟩
                  have HF : Hid (Kept w wc ∧ Has wc l) := ⟨HKb.out.trans hKc, hc⟩
                  clear hKc hc HA HKb
                  go_wp2
                  go_ret
                  exact ⟨rfl, HF.out.1, HF.out.2⟩
end Go.Proofs.YtgbgneiciabidaaGreatDoor
