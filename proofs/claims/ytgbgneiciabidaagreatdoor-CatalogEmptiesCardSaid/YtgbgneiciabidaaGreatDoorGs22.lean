/-
  Trees (layer 12): the page that is named alone (only).
-/
import Derived.Test.YtgbgneiciabidaaGreatDoorGs21
import Derived.Test.YtgbgneiciabidaaGreatDoorGs17
namespace Go.Proofs.YtgbgneiciabidaaGreatDoor
open Go Go.RowKit
set_option linter.all false
set_option maxHeartbeats 8000000
def OnlyMid (w : World) (c p bank sp N r5 : Nat) (es : List Ent) (Q : Pgs) (pv : Value) (l : List Say) (L : List KV) (s : Nat) (lv : Nat) (wr : World) : Prop :=
 ∃ (k v : Int) (s' : Nat), Tr Q lv v L s' /\ (L.map (·.1)).head? = some k /\ s' <= s /\ Kept w wr /\
  Has wr (pts r5 (.cells #[.int .i64 k, .int .i64 v] 87 (0, 0)) :: btS p bank sp N es Q :: changeS c p pv :: l)
def OnlyPost (c p bank sp N : Nat) (es : List Ent) (Q : Pgs) (pv : Value) (l : List Say) (L : List KV) (lv s : Nat) (w : World) (r : Ending) (w' : World) : Prop :=
 Kept w w' /\ ∃ (rv : Value) (k v : Int) (lv' s' : Nat), lv' <= lv /\ s' <= s /\ Tr Q lv' v L s' /\ (L.map (·.1)).head? = some k /\ r = .returned rv /\ Has w' (pairsS rv [(k, v)] :: btS p bank sp N es Q :: changeS c p pv :: l)
theorem Tr.down1 {Q : Pgs} {lv : Nat} {a : Int} {L : List KV} {s : Nat} (h : Tr Q (lv + 1) a L s) {g : Pg} (hg : VMap.get a Q = some g) {k v : Int} (hp : g.n.pairs = [(k, v)]) : ∃ s', s' <= s /\ Tr Q lv v L s' /\ (L.map (·.1)).head? = some k := by
 obtain ⟨g', s', h1, h2, h3, rfl⟩ := h
 rw [hg] at h1
 obtain rfl := Option.some.inj h1
 rw [hp] at h3
 obtain ⟨LM, LB, sM, sB, q1, q2, q3, rfl, rfl⟩ := h3.one
 cases q3
 refine ⟨sM, by omega, by simpa using q1, by simpa using q2⟩
set_option maxRecDepth 100000 in
theorem ch_only {w : World} {l : List Say} {c p bank sp N : Nat} {es : List Ent} {Q : Pgs} {pv kv vv : Value} (lv0 k v : Int) {L : List KV} {lv s : Nat} (h : Has w (btS p bank sp N es Q :: changeS c p pv :: l)) (hk : intsS kv [k] ∈ l) (hv : intsS vv [v] ∈ l) (hT : Tr Q lv v L s) (hd : (L.map (·.1)).head? = some k) :
  Calls Tryz.prog 208 #[.pointer (some ⟨c, 0, none⟩), .agg #[.int .i64 lv0, kv, vv]] w (OnlyPost c p bank sp N es Q pv l L lv s w) := by
 obtain ⟨hI, hH⟩ := h.bt_inv
 obtain ⟨ak, ck, rfl, _, hrk⟩ := h.ints_read (v := kv) (xs := [k]) (by simp [hk])
 obtain ⟨av, cv, rfl, _, hrv⟩ := h.ints_read (v := vv) (xs := [v]) (by simp [hv])
 obtain ⟨gk, rfl, kc, _⟩ := hrk 0 (by simp)
 obtain ⟨gv, rfl, vc, _⟩ := hrv 0 (by simp)
 have lgk := World.block_lt_of_cell? _ _ kc
 have lgv := World.block_lt_of_cell? _ _ vc
 have hA := h.alloc (.cells #[.int .i64 lv0, .slice (some ⟨gk, 0, none⟩) 1 ck, .slice (some ⟨gv, 0, none⟩) 1 cv] 35)
 have HA : Hid (Has (w.alloc (.cells #[.int .i64 lv0, .slice (some ⟨gk, 0, none⟩) 1 ck, .slice (some ⟨gv, 0, none⟩) 1 cv] 35)) (pts w.heap.size (.cells #[.int .i64 lv0, .slice (some ⟨gk, 0, none⟩) 1 ck, .slice (some ⟨gv, 0, none⟩) 1 cv] 35 (0, 0)) :: btS p bank sp N es Q :: changeS c p pv :: l)) := hA
 have HK := Lib.hid ((Kept.refl w).alloc (.cells #[.int .i64 lv0, .slice (some ⟨gk, 0, none⟩) 1 ck, .slice (some ⟨gv, 0, none⟩) 1 cv] 35))
 have kc' : (w.alloc (.cells #[.int .i64 lv0, .slice (some ⟨gk, 0, none⟩) 1 ck, .slice (some ⟨gv, 0, none⟩) 1 cv] 35)).cell? ⟨gk, 0, none⟩ = some (.int .i64 k) := by rw [World.cell?_alloc_lt _ _ _ lgk]; exact kc
 have vc' : (w.alloc (.cells #[.int .i64 lv0, .slice (some ⟨gk, 0, none⟩) 1 ck, .slice (some ⟨gv, 0, none⟩) 1 cv] 35)).cell? ⟨gv, 0, none⟩ = some (.int .i64 v) := by rw [World.cell?_alloc_lt _ _ _ lgv]; exact vc
 have HT := Lib.hid (And.intro hT hd)
 have HI := Lib.hid hI
 clear h hk hv hT hd hI hH hrk hrv hA kc vc lgk lgv
 go_enter Tryz.func208, Tryz.ntmps208
 go_upto_region 1 with fail
 have hh := HA.out
 generalize w.alloc (.cells #[.int .i64 lv0, .slice (some ⟨gk, 0, none⟩) 1 ck, .slice (some ⟨gv, 0, none⟩) 1 cv] 35) = W at *
 clear HA
 generalize w.heap.size = r3 at *
 have hg3 := hh.got
 have m1 : W.cell? ⟨r3, 1, none⟩ = some (.slice (some ⟨gk, 0, none⟩) 1 ck) := cell_of hg3 1 rfl
 have m2 : W.cell? ⟨r3, 2, none⟩ = some (.slice (some ⟨gv, 0, none⟩) 1 cv) := cell_of hg3 2 rfl
 have kc := kc'
 have vc := vc'
 clear hg3 kc' vc'
 obtain ⟨FA, HFA⟩ : ∃ FA : List (Nat × Addr × Value), Hid (FA = [(1, ⟨r3, 1, none⟩, .slice (some ⟨gk, 0, none⟩) 1 ck), (3, ⟨gk, 0, none⟩, .int .i64 k), (5, ⟨r3, 2, none⟩, .slice (some ⟨gv, 0, none⟩) 1 cv), (7, ⟨gv, 0, none⟩, .int .i64 v)]) := ⟨_, rfl⟩
 have fa1 : ∀ n : In (factsOf FA 1), n.w.cell? ⟨r3, 1, none⟩ = some (.slice (some ⟨gk, 0, none⟩) 1 ck) := fun n => factsOf.cell (by rw [HFA.out]; simp) n
 have fa3 : ∀ n : In (factsOf FA 3), n.w.cell? ⟨gk, 0, none⟩ = some (.int .i64 k) := fun n => factsOf.cell (by rw [HFA.out]; simp) n
 have fa5 : ∀ n : In (factsOf FA 5), n.w.cell? ⟨r3, 2, none⟩ = some (.slice (some ⟨gv, 0, none⟩) 1 cv) := fun n => factsOf.cell (by rw [HFA.out]; simp) n
 have fa7 : ∀ n : In (factsOf FA 7), n.w.cell? ⟨gv, 0, none⟩ = some (.int .i64 v) := fun n => factsOf.cell (by rw [HFA.out]; simp) n
 have hFA : ∀ p ∈ FA, W.cell? p.2.1 = some p.2.2 := by rw [HFA.out]; exact (fcons m1 (fcons kc (fcons m2 (fcons vc fnil))))
 haveI neFA : ∀ k, Nonempty (In (factsOf FA k)) := fun k => ⟨⟨_, factsOf.drew hFA k⟩⟩
 refine ws_begin [0, 1, 2, 3, 4, 5, 6, 7, 8, 9, 10] (factsOf FA) (pts r3 (.cells #[.int .i64 lv0, .slice (some ⟨gk, 0, none⟩) 1 ck, .slice (some ⟨gv, 0, none⟩) 1 cv] 35 (0, 0)) :: btS p bank sp N es Q :: changeS c p pv :: l) #[0, 1, 3, 7, 0, 16, 48, 112, 255, 0, 1023] (by kernel_rfl) (by kernel_rfl) (by kernel_rfl) factsOf.alloc (factsOf.drew hFA) hh ?_
 clear hFA
 iterate 9 (refine ws_q (at_lit rfl) rfl rfl rfl ?_; go_big_quiet_op; show WS _ _ _ _ _ _ _ _ _ _)
 refine ws_ptr (at_lit rfl) rfl rfl (.cells #[.int .i64 0, .int .i64 0] 87 (0, 0)) (fun w => by go_simp) ?_
 intro r5
 simp only [Act.put, List.setIfInBounds_toArray, List.set_cons_zero, List.set_cons_succ]
 show WS _ _ _ _ _ _ _ _ _ _
 refine ws_store (at_lit rfl) rfl rfl 87 (.tmp 5) (.tmp 16) rfl rfl (v := .agg #[.int .i64 k, .int .i64 v]) rfl (by simp [Value.cells]) (by simp [Value.cells, Value.oneCell']) (by kernel_rfl) (by simp only [Value.cells, putCells, List.setIfInBounds_toArray, List.set_cons_zero, List.set_cons_succ]; rfl) (fun w' F hh => lives (l' := []) (by rw [HFA.out]; simp [liveFacts, Nat.testBit]) (fnil)) ?_
 simp only [Act.put, List.setIfInBounds_toArray, List.set_cons_zero, List.set_cons_succ]
 show WS _ _ _ _ _ _ _ _ _ _
 refine ws_end ?_
 intro w9 hK9 h9
 clear HFA neFA fa1 fa3 fa5 fa7 hh m1 m2 kc vc
 clear FA
 have HM : Hid (OnlyMid w c p bank sp N r5 es Q pv l L s lv w9) := ⟨k, v, s, HT.out.1, HT.out.2, Nat.le_refl _, HK.out.trans hK9, Has.tail (Has.swap h9)⟩
 have HLv : Hid (lv <= lv) := Nat.le_refl lv
 clear h9 hK9 HK HT
 go_wp2
 go_loopg [] (lv + 1) (fun gk wr => ∃ j : Nat, j <= lv /\ gk = j + 1 /\ Hid (OnlyMid w c p bank sp N r5 es Q pv l L s j wr))
 case atStart => exact ⟨lv, Nat.le_refl _, rfl, HM⟩
 case round =>
  clear HM HLv
  obtain ⟨j, hj, hgk, HM⟩ := hrel
  obtain rfl := hgk.symm
  obtain ⟨k, v, s', hT, hd, hs, hK, hh⟩ := HM.out
  clear HM
  obtain ⟨g, hg, hlv⟩ := hT.get
  obtain ⟨ok, _, _⟩ := HI.out.pg v g hg
  have hbd := (HI.out.adr v (by rw [hg]; rfl)).bd
  obtain ⟨o0, o1, o2, o3, o4⟩ := ok_lens ok
  have HG : Hid (∀ w' F, Has w' (pts r5 (.cells #[.int .i64 k, .int .i64 v] 87 (0, 0)) :: btS p bank sp N es Q :: changeS c p pv :: l ++ F) -> Calls Tryz.prog 20 #[.pointer (some ⟨p, 0, none⟩), .int .i64 v] w' (fun r w'' => ∃ ak ck av cv, r = .returned (.tuple #[.agg #[.int .i64 g.n.level, .slice ak g.n.keys.length ck, .slice av g.n.vals.length cv], .nilIface]) /\ Kept w' w'' /\ Has w'' (intsS (.slice ak g.n.keys.length ck) g.n.keys :: intsS (.slice av g.n.vals.length cv) g.n.vals :: btS p bank sp N es Q :: pts r5 (.cells #[.int .i64 k, .int .i64 v] 87 (0, 0)) :: changeS c p pv :: l ++ F))) := fun w' F hw => by
   have h2 : Has w' (btS p bank sp N es Q :: (pts r5 (.cells #[.int .i64 k, .int .i64 v] 87 (0, 0)) :: changeS c p pv :: l ++ F)) := Has.swap hw
   refine (bt_Get h2 v (by omega) (by omega)).mono ?_
   rintro r w'' ⟨hK, (⟨h1, _⟩ | ⟨g', ak, ck, av, cv, h1, rfl, h3⟩)⟩
   ·rw [hg] at h1; cases h1
   ·rw [hg] at h1
    obtain rfl := Option.some.inj h1
    exact ⟨ak, ck, av, cv, rfl, hK, h3⟩
  have HTj := Lib.hid (And.intro hT (And.intro hd hs))
  have HHh := Lib.hid hg
  have hpr : g.n.keys.length = 1 -> ∃ k2 v2, g.n.keys = [k2] /\ g.n.vals = [v2] /\ g.n.pairs = [(k2, v2)] := fun h1 => by
   obtain ⟨k2, hk2⟩ := List.length_eq_one_iff.1 h1
   obtain ⟨v2, hv2⟩ := List.length_eq_one_iff.1 (o2 ▸ h1)
   exact ⟨k2, v2, hk2, hv2, by unfold Nd.pairs; rw [hk2, hv2]; rfl⟩
  have Hpr := Lib.hid hpr
  have Hlv := Lib.hid hlv
  have Hb := Lib.hid (And.intro o3 o4)
  clear hT hd hs hg hlv ok hpr o0 o1 o2 o3 o4 hbd
  have hg5 := hh.got
  have x1 : wr.cell? ⟨r5, 1, none⟩ = some (.int .i64 v) := cell_of hg5 1 rfl
  have hgc := hh.at (b := c) (o := .cells #[.pointer (some ⟨p, 0, none⟩), pv] 212 (0, 0)) (by simp [changeS])
  have c0 : wr.cell? ⟨c, 0, none⟩ = some (.pointer (some ⟨p, 0, none⟩)) := cell_of hgc 0 rfl
  have HK := Lib.hid hK
  clear hg5 hgc hK
  obtain ⟨⟨lvI, keys, vals⟩, ho, he⟩ := g
  simp only at HG Hpr Hlv Hb
  generalize hnk : keys.length = nk at *
  have Hnk := Lib.hid hnk
  clear hnk
  generalize hnv : vals.length = nv at *
  have Hnv := Lib.hid hnv
  clear hnv
  go_upto_region 2 with fail
  obtain ⟨FA, HFA⟩ : ∃ FA : List (Nat × Addr × Value), Hid (FA = [(3, ⟨c, 0, none⟩, .pointer (some ⟨p, 0, none⟩)), (5, ⟨r5, 1, none⟩, .int .i64 v)]) := ⟨_, rfl⟩
  have fa3 : ∀ n : In (factsOf FA 3), n.w.cell? ⟨c, 0, none⟩ = some (.pointer (some ⟨p, 0, none⟩)) := fun n => factsOf.cell (by rw [HFA.out]; simp) n
  have fa5 : ∀ n : In (factsOf FA 5), n.w.cell? ⟨r5, 1, none⟩ = some (.int .i64 v) := fun n => factsOf.cell (by rw [HFA.out]; simp) n
  have hFA : ∀ p ∈ FA, wr.cell? p.2.1 = some p.2.2 := by rw [HFA.out]; exact (fcons c0 (fcons x1 fnil))
  haveI neFA : ∀ k, Nonempty (In (factsOf FA k)) := fun k => ⟨⟨_, factsOf.drew hFA k⟩⟩
  refine ws_begin [0, 1, 2, 3, 4, 5, 6, 7, 8, 9, 10, 11, 12] (factsOf FA) (pts r5 (.cells #[.int .i64 k, .int .i64 v] 87 (0, 0)) :: btS p bank sp N es Q :: changeS c p pv :: l) #[0, 1, 3, 7, 0, 16, 63, 127, 255, 255, 0, 1535, 4095] (by kernel_rfl) (by kernel_rfl) (by kernel_rfl) factsOf.alloc (factsOf.drew hFA) hh ?_
  clear hFA
  iterate 6 (refine ws_q (at_lit rfl) rfl rfl rfl ?_; go_big_quiet_op; show WS _ _ _ _ _ _ _ _ _ _)
  refine ws_call (at_lit rfl) rfl rfl 20 #[.pointer (some ⟨p, 0, none⟩), .int .i64 v] (fun w => by go_simp) (fun y L' => ∃ ak ck av cv, y = .tuple #[.agg #[.int .i64 lvI, .slice ak nk ck, .slice av nv cv], .nilIface] /\ L' = intsS (.slice ak nk ck) keys :: intsS (.slice av nv cv) vals :: btS p bank sp N es Q :: pts r5 (.cells #[.int .i64 k, .int .i64 v] 87 (0, 0)) :: changeS c p pv :: l) (fun w' F hS hh => ?_) ?_
  ·refine (HG.out w' F hh).mono ?_
   rintro r w2' ⟨ak, ck, av, cv, rfl, hK, h5⟩
   exact ⟨_, _, rfl, hK, ⟨_, _, _, _, rfl, rfl⟩, h5⟩
  rintro _ _ ⟨ak, ck, av, cv, rfl, rfl⟩
  refine ⟨fun w F hh => lives (l' := []) (by rw [HFA.out]; simp [liveFacts, Nat.testBit]) (fnil), ?_⟩
  simp only [Act.put, List.setIfInBounds_toArray, List.set_cons_zero, List.set_cons_succ]
  show WS _ _ _ _ _ _ _ _ _ _
  iterate 3 (refine ws_q (at_lit rfl) rfl rfl rfl ?_; go_big_quiet_op; show WS _ _ _ _ _ _ _ _ _ _)
  refine ws_ptr (at_lit rfl) rfl rfl (.cells #[.int .i64 0, .slice none 0 0, .slice none 0 0] 35 (0, 0)) (fun w => by go_simp) ?_
  intro r6
  simp only [Act.put, List.setIfInBounds_toArray, List.set_cons_zero, List.set_cons_succ]
  show WS _ _ _ _ _ _ _ _ _ _
  refine ws_store (at_lit rfl) rfl rfl 35 (.tmp 6) (.tmp 25) rfl rfl (v := .agg #[.int .i64 lvI, .slice ak nk ck, .slice av nv cv]) rfl (by simp [Value.cells]) (by simp [Value.cells, Value.oneCell']) (by kernel_rfl) (by simp only [Value.cells, putCells, List.setIfInBounds_toArray, List.set_cons_zero, List.set_cons_succ]; rfl) (fun w' F hh => lives (l' := []) (by rw [HFA.out]; simp [liveFacts, Nat.testBit]) (fnil)) ?_
  simp only [Act.put, List.setIfInBounds_toArray, List.set_cons_zero, List.set_cons_succ]
  show WS _ _ _ _ _ _ _ _ _ _
  refine ws_q (at_lit rfl) rfl rfl rfl ?_
  go_big_quiet_op
  show WS _ _ _ _ _ _ _ _ _ _
  refine ws_end ?_
  intro w9 hK9 h9
  clear HFA neFA fa3 fa5 hh x1 c0 HG
  clear FA
  have hg6 := h9.at (b := r6) (o := .cells #[.int .i64 lvI, .slice ak nk ck, .slice av nv cv] 35 (0, 0)) (by simp)
  have m0 : w9.cell? ⟨r6, 0, none⟩ = some (.int .i64 lvI) := cell_of hg6 0 rfl
  have m1 : w9.cell? ⟨r6, 1, none⟩ = some (.slice ak nk ck) := cell_of hg6 1 rfl
  have l6 := World.block_lt_of_cell? _ _ m0
  have H9 := Lib.hid h9
  have HK9 := Lib.hid (HK.out.trans hK9)
  have hlvI : lvI = (j : Int) := Hlv.out
  have nkI : (1 : Int) <= (nk : Int) := by have := Hb.out.1; omega
  clear hg6 h9 hK9 HK Hlv
  by_cases hret : j = 0 \/ 1 < nk
  ·-- here
   have hg5 := H9.out.at (b := r5) (o := .cells #[.int .i64 k, .int .i64 v] 87 (0, 0)) (by simp)
   have x0 : w9.cell? ⟨r5, 0, none⟩ = some (.int .i64 k) := cell_of hg5 0 rfl
   have x1 : w9.cell? ⟨r5, 1, none⟩ = some (.int .i64 v) := cell_of hg5 1 rfl
   have l5 := World.block_lt_of_cell? _ _ x0
   have h10 := H9.out.alloc (.cells #[.int .i64 k, .int .i64 v] 87)
   have HF : Hid (OnlyPost c p bank sp N es Q pv l L lv s w (.returned (.slice (some ⟨w9.heap.size, 0, none⟩) 1 1)) (w9.alloc (.cells #[.int .i64 k, .int .i64 v] 87))) := by
    refine ⟨HK9.out.alloc _, _, k, v, j, s', hj, HTj.out.2.2, HTj.out.1, HTj.out.2.1, rfl, ?_⟩
    have h11 := Has.row_of_pts (n := 1) (size := 2) (xs := [.int .i64 k, .int .i64 v]) h10 (by simp) (Nat.le_refl _) (by simp [maxLen]) (by simp) (by simp)
    exact (h11.reord [1, 1, 1, 2]).tail.tail.tail.tail
   clear hg5 h10 H9 HK9 HTj HHh Hpr Hb Hnk Hnv
   by_cases hj0 : j = 0
   ·subst hj0
    subst hlvI
    go_wp2
    go_ret
    exact HF.out
   ·have hl0 : (lvI == 0) = false := by rw [hlvI]; simpa using hj0
    have hnk : (1 : Int) < (nk : Int) := by omega
    have hnk2 : 1 < nk := by omega
    clear hlvI hret
    go_wp2
    go_ret
    exact HF.out
  ·-- one page down
   obtain ⟨j2, rfl⟩ : ∃ j2, j = j2 + 1 := ⟨j - 1, by omega⟩
   obtain rfl : nk = 1 := by have := Hb.out.1; omega
   obtain ⟨k2, v2, e1, e2, e3⟩ := Hpr.out rfl
   obtain ⟨s2, hs2, hT2, hd2⟩ := HTj.out.1.down1 HHh.out e3
   have h10 := H9.out
   subst e1 e2
   simp only [List.length_cons, List.length_nil] at Hnk
   obtain ⟨ak', ck', ek, _, hrk⟩ := h10.ints_read (v := .slice ak 1 ck) (xs := [k2]) (by simp)
   injection ek with ek1 ek2 ek3
   subst ek1
   clear ek2 ek3
   obtain ⟨gk, rfl, kc, _⟩ := hrk 0 (by simp)
   have h1v : nv = 1 := Hnv.out.symm
   clear Hnv
   subst h1v
   obtain ⟨av', cv', ev, _, hrv⟩ := h10.ints_read (v := .slice av 1 cv) (xs := [v2]) (by simp)
   injection ev with ev1 ev2 ev3
   subst ev1
   clear ev2 ev3
   obtain ⟨gv, rfl, vc, _⟩ := hrv 0 (by simp)
   have kc : w9.cell? ⟨gk, 0, none⟩ = some (.int .i64 k2) := kc
   have vc : w9.cell? ⟨gv, 0, none⟩ = some (.int .i64 v2) := vc
   have hg6 := h10.got
   have m2 : w9.cell? ⟨r6, 2, none⟩ = some (.slice (some ⟨gv, 0, none⟩) 1 cv) := cell_of hg6 2 rfl
   have hl0 : (lvI == 0) = false := by rw [hlvI]; simp; omega
   have HT2 := Lib.hid (And.intro hT2 (And.intro hd2 hs2))
   have hs' := HTj.out.2.2
   have Hs := Lib.hid (Nat.le_trans hs2 hs')
   clear hlvI hret hT2 hd2 hs2 hrk hrv h10 hg6 e3 Hpr HTj HHh Hnk Hb hs'
   go_upto_region 5 with fail
   have hh := H9.out
   clear H9
   generalize w9 = W at *
   obtain ⟨FA, HFA⟩ : ∃ FA : List (Nat × Addr × Value), Hid (FA = [(1, ⟨r6, 1, none⟩, .slice (some ⟨gk, 0, none⟩) 1 ck), (3, ⟨gk, 0, none⟩, .int .i64 k2), (5, ⟨r6, 2, none⟩, .slice (some ⟨gv, 0, none⟩) 1 cv), (7, ⟨gv, 0, none⟩, .int .i64 v2)]) := ⟨_, rfl⟩
   have fa1 : ∀ n : In (factsOf FA 1), n.w.cell? ⟨r6, 1, none⟩ = some (.slice (some ⟨gk, 0, none⟩) 1 ck) := fun n => factsOf.cell (by rw [HFA.out]; simp) n
   have fa3 : ∀ n : In (factsOf FA 3), n.w.cell? ⟨gk, 0, none⟩ = some (.int .i64 k2) := fun n => factsOf.cell (by rw [HFA.out]; simp) n
   have fa5 : ∀ n : In (factsOf FA 5), n.w.cell? ⟨r6, 2, none⟩ = some (.slice (some ⟨gv, 0, none⟩) 1 cv) := fun n => factsOf.cell (by rw [HFA.out]; simp) n
   have fa7 : ∀ n : In (factsOf FA 7), n.w.cell? ⟨gv, 0, none⟩ = some (.int .i64 v2) := fun n => factsOf.cell (by rw [HFA.out]; simp) n
   have hFA : ∀ p ∈ FA, W.cell? p.2.1 = some p.2.2 := by rw [HFA.out]; exact (fcons m1 (fcons kc (fcons m2 (fcons vc fnil))))
   haveI neFA : ∀ k, Nonempty (In (factsOf FA k)) := fun k => ⟨⟨_, factsOf.drew hFA k⟩⟩
   refine ws_begin [0, 1, 2, 3, 4, 5, 6, 7, 8, 9] (factsOf FA) (pts r6 (.cells #[.int .i64 lvI, .slice (some ⟨gk, 0, none⟩) 1 ck, .slice (some ⟨gv, 0, none⟩) 1 cv] 35 (0, 0)) :: intsS (.slice (some ⟨gk, 0, none⟩) 1 ck) [k2] :: intsS (.slice (some ⟨gv, 0, none⟩) 1 cv) [v2] :: btS p bank sp N es Q :: pts r5 (.cells #[.int .i64 k, .int .i64 v] 87 (0, 0)) :: changeS c p pv :: l) #[0, 1, 3, 7, 0, 16, 48, 112, 255, 511] (by kernel_rfl) (by kernel_rfl) (by kernel_rfl) factsOf.alloc (factsOf.drew hFA) hh ?_
   clear hFA
   iterate 9 (refine ws_q (at_lit rfl) rfl rfl rfl ?_; go_big_quiet_op; show WS _ _ _ _ _ _ _ _ _ _)
   refine ws_reord [4] ?_
   simp only [reord, pull]
   refine ws_store (at_lit rfl) rfl rfl 87 (.tmp 5) (.tmp 46) rfl rfl (v := .agg #[.int .i64 k2, .int .i64 v2]) rfl (by simp [Value.cells]) (by simp [Value.cells, Value.oneCell']) (by kernel_rfl) (by simp only [Value.cells, putCells, List.setIfInBounds_toArray, List.set_cons_zero, List.set_cons_succ]; rfl) (fun w' F hh => lives (l' := []) (by rw [HFA.out]; simp [liveFacts, Nat.testBit]) (fnil)) ?_
   simp only [Act.put, List.setIfInBounds_toArray, List.set_cons_zero, List.set_cons_succ]
   show WS _ _ _ _ _ _ _ _ _ _
   refine ws_end ?_
   intro w10 hK10 h10
   clear HFA neFA fa1 fa3 fa5 fa7 hh m1 m2 kc vc m0
   clear FA
   have HM2 : Hid (OnlyMid w c p bank sp N r5 es Q pv l L s j2 w10) := ⟨k2, v2, s2, HT2.out.1, HT2.out.2.1, Hs.out, HK9.out.trans hK10, (Has.reord [1, 1, 1] h10).tail.tail.tail⟩
   clear h10 hK10 HK9 HT2 Hs
   go_wp2
   go_roundg (j2 + 1)
   case measure => omega
   case rel => exact ⟨j2, by omega, rfl, HM2⟩
/-
  Plain: what a change of a leaf makes of the pages on the way.
-/
structure ChgOk (op : List KV -> List KV) (key : Int) (e : Nat) : Prop where
 e1 : e <= 1
 srt : ∀ {L}, Srt L -> Srt (op L)
 mid : ∀ {A M B : List KV}, (∀ p ∈ A, p.1 < key) -> (∀ p ∈ B, key < p.1) -> op (A ++ M ++ B) = A ++ op M ++ B
 mem : ∀ {L : List KV} {p : KV}, p ∈ op L -> p ∈ L \/ pairOk p.1 p.2 = true
 len : ∀ {L : List KV}, Srt L -> (op L).length <= L.length + e
theorem putL_len {L : List KV} (h : Srt L) (k v : Int) : (putL L k v).length <= L.length + 1 := by
 unfold putL
 rw [List.length_append, List.length_cons]
 have : (L.filter fun p => decide (p.1 < k)).length + (L.filter fun p => decide (k < p.1)).length <= L.length := by
  clear h
  induction L with
  | nil => simp
  | cons p L ih =>
   rw [List.filter_cons, List.filter_cons]
   by_cases h1 : p.1 < k
   ·have h2 : ¬ k < p.1 := by omega
    simp only [h1, h2, decide_true, decide_false, if_true, List.length_cons]
    simp only [Bool.false_eq_true, if_false]
    omega
   ·simp only [h1, decide_false, Bool.false_eq_true, if_false]
    split <;> simp only [List.length_cons] <;> omega
 exact Nat.succ_le_succ this
theorem ChgOk.put (k v : Int) (hp : pairOk k v = true) : ChgOk (fun L => putL L k v) k 1 :=
 ⟨Nat.le_refl _, fun h => putL_srt h k v, fun h1 h2 => putL_mid h1 h2, fun h => (mem_putL h).elim (fun e => .inr (by rw [e]; exact hp)) .inl, fun h => putL_len h k v⟩
theorem ChgOk.del (k : Int) : ChgOk (fun L => delL L k) k 0 :=
 ⟨Nat.zero_le _, fun h => delL_srt h k, fun h1 h2 => delL_mid h1 h2, fun h => .inl (List.mem_filter.1 h).1, fun _ => List.length_filter_le _ _⟩
theorem ndOf_pairs (lv : Int) (ps : List KV) : (ndOf lv ps).pairs = ps := by
 unfold Nd.pairs ndOf
 simp only
 induction ps with
 | nil => rfl
 | cons p ps ih => simp only [List.map_cons, List.zip_cons_cons, ih]
theorem ord_of {ps : List KV} (hs : Srt ps) (hr : ∀ p ∈ ps, pairOk p.1 p.2 = true) : ∀ n, n <= ps.length -> ordTo ps n = true
 | 0, _ => rfl
 | n + 1, hn => by
  simp only [ordTo, Bool.and_eq_true]
  refine ⟨ord_of hs hr n (by omega), ?_⟩
  unfold ordAt
  rw [List.getElem?_eq_getElem (by omega)]
  simp only [Bool.and_eq_true, Bool.or_eq_true, beq_iff_eq]
  refine ⟨hr _ (List.getElem_mem _), ?_⟩
  by_cases h0 : n = 0
  ·exact .inl h0
  ·right
   rw [List.getElem?_eq_getElem (by omega)]
   simp only [decide_eq_true_eq]
   exact List.pairwise_iff_getElem.1 hs (n - 1) n (by omega) (by omega) (by omega)
theorem nd_ok {lv : Int} {ps : List KV} (h0 : 0 <= lv) (h1 : lv <= 20) (p0 : 1 <= ps.length) (p1 : ps.length <= 7) (hs : Srt ps) (hr : ∀ p ∈ ps, pairOk p.1 p.2 = true) : (ndOf lv ps).ok = true := by
 have e1 : (ndOf lv ps).keys.length = ps.length := by simp [ndOf]
 have e2 : (ndOf lv ps).vals.length = ps.length := by simp [ndOf]
 unfold Nd.ok
 rw [ndOf_pairs, e1, e2, ord_of hs hr _ (Nat.le_refl _)]
 simp [ndOf, h0, h1]
 omega
theorem ok_pairs {n : Nd} (h : n.ok = true) : Srt n.pairs /\ (∀ p ∈ n.pairs, pairOk p.1 p.2 = true) /\ n.pairs.length = n.keys.length := by
 obtain ⟨_, _, o2, _, _⟩ := ok_lens h
 have ho : ordTo n.pairs n.pairs.length = true := by
  simp only [Nd.ok, Bool.and_eq_true] at h
  exact h.2
 refine ⟨?_, fun p hp => ?_, by unfold Nd.pairs; rw [List.length_zip, o2, Nat.min_self]⟩
 ·refine List.pairwise_iff_getElem.2 fun i j hi hj hij => ?_
  exact ordTo_lt n.pairs ho (j - i - 1) i _ _ (List.getElem?_eq_getElem hi) (by rw [show i + (j - i - 1) + 1 = j by omega]; exact List.getElem?_eq_getElem hj)
 ·obtain ⟨i, hi, rfl⟩ := List.getElem_of_mem hp
  have h1 := ordTo_at n.pairs _ ho i hi
  unfold ordAt at h1
  rw [List.getElem?_eq_getElem hi] at h1
  simp only [Bool.and_eq_true] at h1
  exact h1.1
def TrR (Q : Pgs) : Nat -> List KV -> List KV -> Nat -> Prop
 | 0, R, L, s => L = R /\ s = 0
 | lv + 1, R, L, s => TrL Q lv R L s
theorem TrR.split {Q : Pgs} {lv : Nat} {A B L : List KV} {s : Nat} (h : TrR Q lv (A ++ B) L s) : ∃ LA LB sA sB, TrR Q lv A LA sA /\ TrR Q lv B LB sB /\ L = LA ++ LB /\ s = sA + sB := by
 cases lv with
 | zero => obtain ⟨rfl, rfl⟩ := h; exact ⟨A, B, 0, 0, ⟨rfl, rfl⟩, ⟨rfl, rfl⟩, rfl, rfl⟩
 | succ lv => exact TrG.split h
theorem TrR.mono {Q Q' : Pgs} (hm : Same Q Q') {lv : Nat} {R L : List KV} {s : Nat} (h : TrR Q lv R L s) : TrR Q' lv R L s := by
 cases lv with
 | zero => exact h
 | succ lv => exact TrG.mono h fun _ _ _ _ h => h.mono hm
theorem TrR.head {Q : Pgs} {lv : Nat} {p : KV} {B L : List KV} {s : Nat} (h : TrR Q lv (p :: B) L s) : (L.map (·.1)).head? = some p.1 := by
 cases lv with
 | zero => obtain ⟨rfl, _⟩ := h; rfl
 | succ lv => exact TrG.head h
theorem TrR.srt {Q : Pgs} {lv : Nat} {R L : List KV} {s : Nat} (h : TrR Q lv R L s) (hs : Srt L) : Srt R := by
 cases lv with
 | zero => obtain ⟨rfl, _⟩ := h; exact hs
 | succ lv => exact TrG.srt h hs
theorem TrR.nil {Q : Pgs} {lv : Nat} {L : List KV} {s : Nat} (h : TrR Q lv [] L s) : L = [] /\ s = 0 := by
 cases lv with
 | zero => exact h
 | succ lv => cases h; exact ⟨rfl, rfl⟩
theorem Tr.of_rows {Q : Pgs} {lv : Nat} {a : Int} {L : List KV} {S : Nat} {g : Pg} (h1 : VMap.get a Q = some g) (h2 : g.n.level = (lv : Int)) (h3 : TrR Q lv g.n.pairs L S) : Tr Q lv a L (wt lv g.n.keys.length + S) := by
 cases lv with
 | zero => obtain ⟨rfl, rfl⟩ := h3; exact ⟨g, h1, h2, rfl, by omega⟩
 | succ lv => exact ⟨g, S, h1, h2, h3, rfl⟩
theorem Tr.right {es : List Ent} {Q : Pgs} {D : Int -> Nat} (hI : FInv es Q D) : ∀ {lv : Nat} {a : Int} {L : List KV} {s : Nat}, Tr Q lv a L s -> ∀ p ∈ L, pairOk p.1 p.2 = true
 | 0, a, L, s, ⟨g, h1, h2, h3, h4⟩ => by rw [h3]; exact (ok_pairs (hI.pg a g h1).1).2.1
 | lv + 1, a, L, s, ⟨g, s', h1, h2, h3, h4⟩ => by
  clear h1 h2 h4
  generalize g.n.pairs = ps at h3
  induction h3 with
  | nil => intro p hp; cases hp
  | cons x _ _ ih =>
   intro p hp
   rcases List.mem_append.1 hp with hp | hp
   ·exact Tr.right hI x p hp
   ·exact ih p hp
theorem TrL.rightP {es : List Ent} {Q : Pgs} {D : Int -> Nat} (hI : FInv es Q D) {lv : Nat} {ps L : List KV} {s : Nat} (h : TrL Q lv ps L s) (hr : ∀ p ∈ L, pairOk p.1 p.2 = true) : ∀ p ∈ ps, pairOk p.1 p.2 = true := by
 induction h with
 | nil => intro p hp; cases hp
 | cons x hd _ ih =>
  intro p hp
  rcases List.mem_cons.1 hp with rfl | hp
  ·obtain ⟨y, hy, e⟩ := head_mem hd
   have h1 := hr y (List.mem_append_left _ hy)
   obtain ⟨g, hg, _⟩ := x.get
   have h2 := (hI.adr _ (by rw [hg]; rfl)).bd
   simp only [pairOk, Bool.and_eq_true, decide_eq_true_eq] at h1 ⊢
   omega
  ·exact ih (fun p hp => hr p (List.mem_append_right _ hp)) p hp
theorem TrL.kids {Q : Pgs} {lv : Nat} {ps L : List KV} {s : Nat} (h : TrL Q lv ps L s) : ∀ p ∈ ps, ∃ g, VMap.get p.2 Q = some g /\ g.n.level = (lv : Int) := by
 induction h with
 | nil => intro p hp; cases hp
 | cons x _ _ ih =>
  intro p hp
  rcases List.mem_cons.1 hp with rfl | hp
  ·exact x.get
  ·exact ih p hp
theorem TrR.named {Q : Pgs} {lv : Nat} {R L : List KV} {s : Nat} (h : TrR Q lv R L s) : namedErr Q (ndOf (lv : Int) R) = .nilIface := by
 refine named_of fun c hc => ?_
 cases lv with
 | zero => simp [Nd.kids, ndOf] at hc
 | succ lv =>
  have hv := kids_sub _ c hc
  obtain ⟨p, hp, rfl⟩ := List.mem_map.1 (show c ∈ R.map (·.2) from hv)
  obtain ⟨g, hg, hl⟩ := TrL.kids (show TrL Q lv R L s from h) p hp
  exact ⟨g, hg, by rw [hl]; simp [ndOf]⟩
theorem cut_ok {Q : Pgs} {lv : Nat} {R L : List KV} {s : Nat} (h : TrR Q lv R L s) (hs : Srt R) (hr : ∀ p ∈ R, pairOk p.1 p.2 = true) (h20 : lv <= 20) (h8 : R.length <= 8) : ∀ n ∈ cutN (lv : Int) R, n.ok = true /\ namedErr Q n = .nilIface := by
 intro n hn
 unfold cutN at hn
 split at hn
 ·cases hn
 ·rename_i h0
  split at hn
  ·rename_i h7
   rw [List.mem_singleton] at hn
   subst hn
   exact ⟨nd_ok (by omega) (by omega) (by omega) h7 hs hr, h.named⟩
  ·rename_i h7
   have hR : R = R.take 4 ++ R.drop 4 := (List.take_append_drop 4 R).symm
   rw [hR] at h hs
   obtain ⟨LA, LB, sA, sB, hA, hB, _, _⟩ := h.split
   have h2 : n = ndOf lv (R.take 4) \/ n = ndOf lv (R.drop 4) := by simpa using hn
   rcases h2 with rfl | rfl
   ·exact ⟨nd_ok (by omega) (by omega) (by rw [List.length_take]; omega) (by rw [List.length_take]; omega) hs.left fun p hp => hr p (List.mem_of_mem_take hp), hA.named⟩
   ·exact ⟨nd_ok (by omega) (by omega) (by rw [List.length_drop]; omega) (by rw [List.length_drop]; omega) hs.right fun p hp => hr p (List.mem_of_mem_drop hp), hB.named⟩
theorem put_out {es : List Ent} {Q Q' : Pgs} {news : List (Int × Nd)} (hps : Puts es Q news Q') {lv : Nat} {R L : List KV} {S : Nat} (h : TrR Q lv R L S) (h0 : 0 < R.length) {a : Int} (hm : (a, ndOf (lv : Int) R) ∈ news) :
  Tr Q' lv a L (wt lv R.length + S) /\ (L.map (·.1)).head? = some (outP (a, ndOf (lv : Int) R)).1 := by
 obtain ⟨_, _, _, g, hg, hn⟩ := hps.fresh _ hm
 have hn : g.n = ndOf lv R := hn
 have e1 : g.n.keys.length = R.length := by rw [hn]; simp [ndOf]
 refine ⟨?_, ?_⟩
 ·rw [<- e1]
  exact Tr.of_rows hg (by rw [hn]; rfl) (by rw [hn, ndOf_pairs]; exact h.mono hps.same)
 ·cases R with
  | nil => simp at h0
  | cons p B => rw [h.head]; simp [outP, ndOf]
theorem cut_out {es : List Ent} {Q Q' : Pgs} {news : List (Int × Nd)} (hps : Puts es Q news Q') {lv : Nat} {R L : List KV} {S : Nat} (h : TrR Q lv R L S) (hn : news.map (·.2) = cutN (lv : Int) R) (m e : Nat) (he : e <= 1) (hm : m <= 7) (hR : R.length <= m + e) :
  ∃ s', TrL Q' lv (news.map outP) L s' /\ news.length <= 2 /\ s' + (if news.length = 2 then 2 ^ (lv + 1) else 0) <= wt lv m + S + e * 2 ^ lv := by
 unfold cutN at hn
 split at hn
 ·rename_i h0
  obtain rfl : news = [] := by simpa using hn
  obtain rfl : R = [] := List.eq_nil_of_length_eq_zero h0
  obtain ⟨rfl, rfl⟩ := h.nil
  exact ⟨0, .nil, by simp, by simp⟩
 ·rename_i h0
  have hw : wt lv R.length <= wt lv m + e * 2 ^ lv := by
   rcases Nat.lt_or_ge m R.length with hlt | hge
   ·have e1 : e = 1 := by omega
    have e2 : R.length = m + 1 := by omega
    rw [e1, e2]
    have := wt_ins lv m
    omega
   ·exact Nat.le_trans (wt_mono lv hge) (Nat.le_add_right _ _)
  split at hn
  ·rename_i h7
   obtain ⟨x, rfl⟩ : ∃ x, news = [x] := List.length_eq_one_iff.1 (by have := congrArg List.length hn; simpa using this)
   have hx : x.2 = ndOf lv R := by simpa using hn
   obtain ⟨a, n⟩ := x
   simp only at hx
   subst hx
   obtain ⟨h1, h2⟩ := put_out hps h (by omega) (List.mem_singleton.2 rfl)
   refine ⟨_, TrG.single h1 h2, by simp, ?_⟩
   simp only [List.length_singleton]
   rw [if_neg (by decide)]
   omega
  ·rename_i h7
   have e1 : e = 1 := by omega
   have e2 : m = 7 := by omega
   have e8 : R.length = 8 := by omega
   subst e1 e2
   obtain ⟨x, y, rfl⟩ : ∃ x y, news = [x, y] := by
    have hl := congrArg List.length hn
    simp only [List.length_map, List.length_cons, List.length_nil] at hl
    match news, hl with
    | [x, y], _ => exact ⟨x, y, rfl⟩
   obtain ⟨a, n⟩ := x
   obtain ⟨b, n'⟩ := y
   simp only [List.map_cons, List.map_nil, List.cons.injEq, and_true] at hn
   obtain ⟨rfl, rfl⟩ := hn
   have hR : R = R.take 4 ++ R.drop 4 := (List.take_append_drop 4 R).symm
   have h' := h
   rw [hR] at h'
   obtain ⟨LA, LB, sA, sB, hA, hB, rfl, rfl⟩ := h'.split
   have l4 : (R.take 4).length = 4 := by rw [List.length_take]; omega
   have l5 : (R.drop 4).length = 4 := by rw [List.length_drop]; omega
   obtain ⟨h1, h2⟩ := put_out hps hA (by omega) (.head _)
   obtain ⟨h3, h4⟩ := put_out hps hB (by omega) (.tail _ (.head _))
   rw [l4] at h1
   rw [l5] at h3
   refine ⟨_, .cons h1 h2 (TrG.single h3 h4), by simp, ?_⟩
   simp only [List.length_cons, List.length_nil]
   rw [if_pos trivial]
   have := wt_split lv
   omega
/-
  Plain: slices.Replace at pairs, one of them by none, one or two: the last one.
-/
def repP (ps : List (Int × Int)) (i : Nat) (qs : List (Int × Int)) : List (Int × Int) := ps.take i ++ qs ++ ps.drop (i + 1)
theorem repP_len (ps : List (Int × Int)) (i : Nat) (qs : List (Int × Int)) (hi : i < ps.length) : (repP ps i qs).length = ps.length - 1 + qs.length := by
 unfold repP; rw [List.length_append, List.length_append, List.length_take, List.length_drop]; omega
theorem repP_flat (ps : List (Int × Int)) (i : Nat) (qs : List (Int × Int)) : (repP ps i qs).flatMap pairCells = (ps.flatMap pairCells).take (i * 2) ++ qs.flatMap pairCells ++ (ps.flatMap pairCells).drop ((i + 1) * 2) := by
 unfold repP; rw [List.flatMap_append, List.flatMap_append, flat_take, flat_drop]
theorem run_copy_no {P : Program} (w : World) (dT sT ty elem : TypeId) (size : Nat) (d a : Option Addr) (dLen dCap sCap : Nat)
  (hu : P.underlying dT = some (.slice elem)) (hs : (P.info? elem).map (·.size) = some size) :
  (Builtin.copy_ #[dT, sT] ty #[.slice d dLen dCap, .slice a 0 sCap]).run P w = .ok (goInt 0) w := by
 cases hq : P.info? elem with
 | none => simp [hq] at hs
 | some i => cases d <;> cases a <;> simp [Builtin.copy_, run_underlying hu, Builtin.lenOf, Builtin.firstCells, sizeOf, typeInfo, hq, loadCells, loadCellsFrom, storeCells, Nat.min_def]
theorem run_append_no {P : Program} (w : World) (t ty e : TypeId) (i : TypeInfo) (ht : P.underlying t = some (.slice e)) (hi : P.info? e = some i) (base : Option Addr) (sLen sCap : Nat) (hle : sLen <= sCap) (a : Option Addr) (c : Nat) :
  (Builtin.append_ #[t, t] ty #[.slice base sLen sCap, .slice a 0 c]).run P w = .ok (.slice base sLen sCap) w := by
 cases base <;> cases a <;> simp [Builtin.append_, run_underlying ht, sizeOf, typeInfo, hi, Builtin.lenOf, Builtin.firstCells, hle, loadCells, loadCellsFrom, storeCells]
theorem run_clear_no {P : Program} (w : World) (t e ty : TypeId) (ht : P.underlying t = some (.slice e)) (a : Option Addr) (c : Nat) : (Builtin.clear_ #[t] ty #[.slice a 0 c]).run P w = .ok (.tuple #[]) w := by
 cases a <;> simp [Builtin.clear_, run_underlying ht]
def ovr (C : List Value) (o : Nat) (D : List Value) : List Value := C.take o ++ D ++ C.drop (o + D.length)
theorem get_ovr (C : List Value) (o : Nat) (D : List Value) (h : o + D.length <= C.length) (k : Nat) : (ovr C o D)[k]? = if k < o then C[k]? else if k < o + D.length then D[k - o]? else C[k]? := by
 unfold ovr
 have hl : (C.take o).length = o := by rw [List.length_take]; omega
 by_cases h1 : k < o
 ·rw [if_pos h1, List.append_assoc, List.getElem?_append_left (by omega), List.getElem?_take, if_pos h1]
 ·rw [if_neg h1]
  by_cases h2 : k < o + D.length
  ·rw [if_pos h2, List.append_assoc, List.getElem?_append_right (by omega), hl, List.getElem?_append_left (by omega)]
  ·rw [if_neg h2, List.getElem?_append_right (by rw [List.length_append]; omega), List.length_append, hl, List.getElem?_drop]
   congr 1; omega
theorem len_ovr (C : List Value) (o : Nat) (D : List Value) (h : o + D.length <= C.length) : (ovr C o D).length = C.length := by
 unfold ovr; simp only [List.length_append, List.length_take, List.length_drop]; omega
theorem take_of_get {A B : List Value} {N : Nat} (hB : B.length = N) (h : ∀ k, k < N -> A[k]? = B[k]?) : A.take N = B := by
 apply List.ext_getElem?
 intro k
 rw [List.getElem?_take]
 by_cases hk : k < N
 ·rw [if_pos hk, h k hk]
 ·rw [if_neg hk, List.getElem?_eq_none (by omega)]
theorem get_rep (F G : List Value) (i d m : Nat) (hF : F.length = (i + 1 + (d + 1)) * 2) (hG : G.length = m * 2) (k : Nat) : (F.take (i * 2) ++ G ++ F.drop ((i + 1) * 2))[k]? = if k < i * 2 then F[k]? else if k < i * 2 + m * 2 then G[k - i * 2]? else F[k + 2 - m * 2]? := by
 have hl : (F.take (i * 2)).length = i * 2 := by rw [List.length_take]; omega
 by_cases h1 : k < i * 2
 ·rw [if_pos h1, List.append_assoc, List.getElem?_append_left (by omega), List.getElem?_take, if_pos h1]
 ·rw [if_neg h1]
  by_cases h2 : k < i * 2 + m * 2
  ·rw [if_pos h2, List.append_assoc, List.getElem?_append_right (by omega), hl, List.getElem?_append_left (by omega)]
  ·rw [if_neg h2, List.getElem?_append_right (by rw [List.length_append]; omega), List.length_append, hl, List.getElem?_drop, hG]
   congr 1; omega
theorem len_rep (F G : List Value) (i d m : Nat) (hF : F.length = (i + 1 + (d + 1)) * 2) (hG : G.length = m * 2) : (F.take (i * 2) ++ G ++ F.drop ((i + 1) * 2)).length = (i + (d + 1) + m) * 2 := by
 simp only [List.length_append, List.length_take, List.length_drop, hF, hG]; omega
set_option maxRecDepth 100000 in
theorem sl_Rep_last {w : World} {l : List Say} (ps qs : List (Int × Int)) {g cap bx cx : Nat} {cur cv : Array Value} (i : Nat) (hi : ps.length = i + 1) (hl : ps.length <= 100) (hq0 : 0 < qs.length) (hq2 : qs.length <= 2) (hcap : ps.length <= cap) (hcm : cap <= maxLen) (hcs : cur.size = cap * 2) (htk : cur.toList.take (ps.length * 2) = ps.flatMap pairCells) (hcx : qs.length <= cx) (hvt : cv.toList.take (qs.length * 2) = qs.flatMap pairCells)
  (hh : Has w (pts g (.cells cur 87 (0, 0)) :: pts bx (.cells cv 87 (0, 0)) :: l)) :
  Calls Tryz.prog 238 #[.slice (some ⟨g, 0, none⟩) ps.length cap, .int .i64 i, .int .i64 ((i : Int) + 1), .slice (some ⟨bx, 0, none⟩) qs.length cx] w (PairsPost (repP ps i qs) l w) := by
 obtain ⟨i0, I1, I2, I3, I4⟩ := info_parts info_pair
 have iI : (i : Int) < 100 := by omega
 have cI : (i : Int) + 1 <= (cap : Int) := by omega
 have cM : (cap : Int) <= 9223372036854775807 := by simp [maxLen] at hcm; omega
 have HR : Hid (Has w (rowS 87 2 (.slice (some ⟨g, 0, none⟩) i cap) i ((ps.flatMap pairCells).take (i * 2)) :: pts bx (.cells cv 87 (0, 0)) :: l)) := by
  refine hh.row_of_pts ?_ (by omega) hcm hcs ?_
  ·rw [List.length_take, flat_len2]; omega
  ·rw [<- htk, List.take_take, Nat.min_eq_left (by omega)]
 have Hone : Hid (∀ u ∈ qs.flatMap pairCells, u.oneCell' = true) := flat_one qs
 have Hsrc : Hid (∀ j u, (qs.flatMap pairCells)[j]? = some u -> w.cell? ((⟨bx, 0, none⟩ : Addr).add j) = some u) := fun j u hu => by
  rw [Addr.add_lit, Nat.zero_add]
  refine cell_of hh.tail.got j ?_
  rw [<- hvt, List.getElem?_take] at hu
  split at hu
  ·simpa using hu
  ·cases hu
 have Hln : Hid ((qs.flatMap pairCells).length = qs.length * 2) := flat_len2 qs
 have HF : Hid (repP ps i qs = ps.take i ++ qs /\ (repP ps i qs).length = i + qs.length) := by
  refine ⟨?_, by rw [repP_len _ _ _ (by omega)]; omega⟩
  unfold repP; rw [List.drop_of_length_le (by omega), List.append_nil]
 have HD : Hid (((ps.flatMap pairCells).take (i * 2) ++ qs.flatMap pairCells) = (repP ps i qs).flatMap pairCells) := by
  show _ = _
  rw [HF.out.1, List.flatMap_append, flat_take]
 generalize repP ps i qs = R at *
 generalize hD : (ps.flatMap pairCells).take (i * 2) = E at *
 generalize hm : qs.length = m at *
 rw [hi] at hcap ⊢
 have hm0 : (0 : Int) < (m : Int) := by omega
 have hm2 : (m : Int) <= 2 := by omega
 have hmn : m <= 2 := hq2
 have hiN : i < 100 := by omega
 have hx1 : ¬ ((i : Int) + (m : Int) < (i : Int) + 1) := by omega
 have hx2 : ¬ (i + m < i + 1) := by omega
 clear hh htk hcs hvt hD hm hi hl hq0 hq2 hcx
 go_enter Tryz.func238, Tryz.ntmps238
 go_upto_region 6 with (at_builtin; refine wpList_append_row rfl (.tmp 32) (.tmp 33) 75 rfl 87 i0 (.agg #[.int .i64 0, .int .i64 0]) 2 16 Tryz.underlying75 I1 I2 I3 I4 rfl (by decide) _ _ E rfl HR.out ⟨bx, 0, none⟩ m cx (qs.flatMap pairCells) rfl Hln.out Hsrc.out Hone.out (by simp [maxLen]; omega) (by omega) ?_; intro v' w' hK hh)
 obtain ⟨a', c', rfl, _⟩ := hh.row_val (v := v') (.head _)
 have HF2 : Hid (PairsPost R l w (.returned (.slice a' (i + m) c')) w') := by
  refine ⟨_, rfl, hK, ?_⟩
  unfold pairsS
  rw [HF.out.2, <- HD.out]
  exact hh.swap.tail
 clear hh hK HD HF HR Hln Hone Hsrc
 go_wp2
 go_ret
 exact HF2.out
end Go.Proofs.YtgbgneiciabidaaGreatDoor
