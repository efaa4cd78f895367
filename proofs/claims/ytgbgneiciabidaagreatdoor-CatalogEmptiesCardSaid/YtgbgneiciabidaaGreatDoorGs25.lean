/-
  Trees (layer 12): the tree over pages, in the place of another one (done).
-/
import Derived.Test.YtgbgneiciabidaaGreatDoorGs24
import Derived.RangeFuncNested
import Derived.RangeFuncBound
import Derived.RangeFuncCalls
import Derived.RangeFuncLeaves
import Derived.Shelf.Abstract
import Derived.Shelf.RegionOpen
import Derived.OwnWalkIn
import Derived.TacticsInMore
import Derived.LoopNIn
import Derived.LoopIn
namespace Go.Proofs.YtgbgneiciabidaaGreatDoor
open Go Go.RowKit
set_option linter.all false
set_option maxHeartbeats 8000000
def DoneTo (Q1 Q2 : Pgs) (L : List KV) (lv B : Nat) (ta : Int) : Prop :=
 (L = [] /\ ta = 0 /\ Q2 = Q1) \/ ∃ lv' s' g, lv' <= lv /\ s' <= B /\ Tr Q1 lv' ta L s' /\ VMap.get ta Q1 = some g /\ Q2 = VMap.put ta (g.more 1) Q1
def DonePost (c p bank sp N : Nat) (es : List Ent) (Q : Pgs) (put : List Int) (root : Int) (L : List KV) (lv B : Nat) (l : List Say) (w : World) (r : Ending) (w' : World) : Prop :=
  Kept w w' /\ (∃ x y, r = .returned (.tuple #[x, y])) /\ ∃ (news : List (Int × Nd)) (Q1 : Pgs) (pv : Value), Puts es Q news Q1 /\ news.length <= 1 /\
    ((FullQ es Q1 /\ r = .returned (.tuple #[.int .i64 0, errV 50]) /\ Has w' (btS p bank sp (N + 2) es Q1 :: chL c p pv (put ++ news.map (·.1)) l)) \/
     ∃ (ta : Int) (Q2 Q3 : Pgs), r = .returned (.tuple #[.int .i64 ta, .nilIface]) /\ DoneTo Q1 Q2 L (lv + 1) B ta /\ Dropd root Q2 Q3 /\ Has w' (btS p bank sp (N + 2) es Q3 :: chL c p pv (put ++ news.map (·.1)) l))
set_option maxRecDepth 100000 in
theorem ch_done0 {w : World} {l : List Say} {c p bank sp N : Nat} {es : List Ent} {Q : Pgs} {put : List Int} {pv rv : Value} (root : Int) {lv B : Nat} (h : Has w (pairsS rv [] :: btS p bank sp N es Q :: chL c p pv put l)) (hr : 0 < heldOf Q root) (hN : N <= 400000) :
  Calls Tryz.prog 163 #[.pointer (some ⟨c, 0, none⟩), .int .i64 root, rv] w (DonePost c p bank sp N es Q put root [] lv B l w) := by
 have h2 : Has w (btS p bank sp N es Q :: chL c p pv put l) := h.tail
 obtain ⟨hI, hH⟩ := h2.bt_inv
 obtain ⟨gr, hgr, hheld⟩ := heldOf_some hr
 have hbr := (hI.adr root (by rw [hgr]; rfl)).bd
 have hrn : (root == 0) = false := by simp; omega
 have hgc := h.at (b := c) (o := .cells #[.pointer (some ⟨p, 0, none⟩), pv] 212 (0, 0)) (by simp [chL, changeS])
 have c0 : w.cell? ⟨c, 0, none⟩ = some (.pointer (some ⟨p, 0, none⟩)) := cell_of hgc 0 rfl
 have lc := World.block_lt_of_cell? _ _ c0
 obtain ⟨va, vc, rfl, hx⟩ := h.row_val (v := rv) (.head _)
 clear hx
 have HD := Lib.hid (bt_Drop h2 hgr (by omega) (by omega))
 clear h h2 hI hH hr hgr hheld hbr hgc
 go_enter Tryz.func163, Tryz.ntmps163
 go_wp2
 refine wp_loop_rounds 1 ?_
 rw [rounds_succ]
 go_wp2_with fail
 refine HD.out.mono ?_
 rintro r w1 ⟨hK, rfl, Q', hd, h3⟩
 have HF : Hid (DonePost c p bank sp N es Q put root [] lv B l w (.returned (.tuple #[.int .i64 0, .nilIface])) w1) :=
  ⟨hK, ⟨_, _, rfl⟩, [], Q, pv, .nil Q, by simp, .inr ⟨0, Q, Q', rfl, .inl ⟨rfl, rfl, rfl⟩, hd, by simpa using h3.bt_more (by omega)⟩⟩
 clear hK hd h3 HD
 go_wp2
 go_ret2
 exact HF.out
theorem held_more {Q : Pgs} {a : Int} {g : Pg} (hg : VMap.get a Q = some g) {b : Int} (hb : 0 < heldOf Q b) : 0 < heldOf (VMap.put a (g.more 1) Q) b := by
 rw [heldOf_put]
 split
 ·rename_i e
  subst e
  unfold heldOf at hb
  rw [hg] at hb
  have : 0 < g.held := hb
  show 0 < g.held + 1
  omega
 ·exact hb
set_option maxRecDepth 100000 in
theorem ch_done1 {w : World} {l : List Say} {c p bank sp N : Nat} {es : List Ent} {Q : Pgs} {put : List Int} {pv rv : Value} (root k a : Int) {L : List KV} {lv s : Nat} (h : Has w (pairsS rv [(k, a)] :: btS p bank sp N es Q :: chL c p pv put l)) (hT : Tr Q lv a L s) (hr : 0 < heldOf Q root) (hN : N <= 400000) :
  Calls Tryz.prog 163 #[.pointer (some ⟨c, 0, none⟩), .int .i64 root, rv] w (DonePost c p bank sp N es Q put root L lv s l w) := by
 have h2 : Has w (btS p bank sp N es Q :: chL c p pv put l) := h.tail
 obtain ⟨hI, hH⟩ := h2.bt_inv
 obtain ⟨ga, hga, _⟩ := hT.get
 obtain ⟨gr, hgr, hheld⟩ := heldOf_some hr
 have hbr := (hI.adr root (by rw [hgr]; rfl)).bd
 have hrn : (root == 0) = false := by simp; omega
 have hgc := h.at (b := c) (o := .cells #[.pointer (some ⟨p, 0, none⟩), pv] 212 (0, 0)) (by simp [chL, changeS])
 have c0 : w.cell? ⟨c, 0, none⟩ = some (.pointer (some ⟨p, 0, none⟩)) := cell_of hgc 0 rfl
 have lc := World.block_lt_of_cell? _ _ c0
 obtain ⟨va, vc, hv, hx, hrd⟩ := h.pairs_read (v := rv) (ps := [(k, a)]) (.head _)
 obtain ⟨gv, rfl, d0, d1⟩ := hrd 0 _ rfl
 have hv' : rv = .slice (some ⟨gv, 0, none⟩) 1 vc := hv
 clear hv
 subst hv'
 simp only [Nat.zero_mul, Nat.zero_add] at d0 d1
 have lg := World.block_lt_of_cell? _ _ d1
 have HH := Lib.hid (bt_Hold h2 hga (by omega))
 have HG := Lib.hid (And.intro hga (held_more hga hr))
 have HT := Lib.hid hT
 clear h h2 hI hH hr hgr hheld hbr hgc hx hrd hga hT
 go_enter Tryz.func163, Tryz.ntmps163
 go_wp2
 refine wp_loop_rounds 1 ?_
 rw [rounds_succ]
 go_wp2_with fail
 refine HH.out.mono ?_
 rintro r w1 ⟨hK1, rfl, h3⟩
 obtain ⟨gr2, hgr2, hh2⟩ := heldOf_some HG.out.2
 have hgc := h3.at (b := c) (o := .cells #[.pointer (some ⟨p, 0, none⟩), pv] 212 (0, 0)) (by simp [chL, changeS])
 have c0 : w1.cell? ⟨c, 0, none⟩ = some (.pointer (some ⟨p, 0, none⟩)) := cell_of hgc 0 rfl
 have lc := World.block_lt_of_cell? _ _ c0
 have HD := Lib.hid (bt_Drop h3 hgr2 (by have := HG.out.2; omega) (by omega))
 have HK1 := Lib.hid hK1
 clear h3 hK1 hgc hgr2 hh2 d0 d1 lg HH
 go_wp2_with fail
 refine HD.out.mono ?_
 rintro r w2 ⟨hK, rfl, Q', hd, h3⟩
 have HF : Hid (DonePost c p bank sp N es Q put root L lv s l w (.returned (.tuple #[.int .i64 a, .nilIface])) w2) :=
  ⟨HK1.out.trans hK, ⟨_, _, rfl⟩, [], Q, pv, .nil Q, by simp, .inr ⟨a, _, Q', rfl, .inr ⟨lv, s, ga, by omega, Nat.le_refl _, HT.out, HG.out.1, rfl⟩, hd, by simpa using h3.bt_more (by omega)⟩⟩
 clear hK hd h3 HD HK1 HG HT
 go_wp2
 go_ret2
 exact HF.out
/-
  Trees (layer 12): the tree over two pages (done).
-/
def DnMid (w : World) (r11 : Nat) (lvT : Int) (ps : List KV) (l : List Say) (k : Nat) (wr : World) : Prop :=
 ∃ (ak : Option Addr) (ck : Nat) (av : Option Addr) (cv : Nat), Kept w wr /\
  Has wr (pts r11 (.cells #[.int .i64 lvT, .slice ak k ck, .slice av k cv] 35 (0, 0)) :: intsS (.slice ak k ck) ((ps.take k).map (·.1)) :: intsS (.slice av k cv) ((ps.take k).map (·.2)) :: l)
set_option maxRecDepth 100000 in
theorem ch_done2 {w : World} {l : List Say} {c p bank sp N : Nat} {es : List Ent} {Q : Pgs} {put : List Int} {pv rv : Value} (root k1 a1 k2 a2 : Int) {L : List KV} {lv s : Nat} (h : Has w (pairsS rv [(k1, a1), (k2, a2)] :: btS p bank sp N es Q :: chL c p pv put l)) (ht : Tab l) (hT : TrL Q lv [(k1, a1), (k2, a2)] L s) (hs : Srt L) (hrt : ∀ q ∈ L, pairOk q.1 q.2 = true) (h20 : lv + 1 <= 20) (hr : 0 < heldOf Q root) (hN : N <= 300000) (hput : put.length <= 900) :
  Calls Tryz.prog 163 #[.pointer (some ⟨c, 0, none⟩), .int .i64 root, rv] w (DonePost c p bank sp N es Q put root L lv (s + 2 ^ (lv + 1)) l w) := by
 have hh : Has w (btS p bank sp N es Q :: pairsS rv [(k1, a1), (k2, a2)] :: chL c p pv put l) := h.swap
 obtain ⟨hI, hH⟩ := hh.bt_inv
 obtain ⟨g, hga, hlv⟩ := hT.kids (k1, a1) (.head _)
 have hba := (hI.adr a1 (by rw [hga]; rfl)).bd
 obtain ⟨gr, hgr, hheld⟩ := heldOf_some hr
 have hbr := (hI.adr root (by rw [hgr]; rfl)).bd
 have hrn : (root == 0) = false := by simp; omega
 have hgc := h.at (b := c) (o := .cells #[.pointer (some ⟨p, 0, none⟩), pv] 212 (0, 0)) (by simp [chL, changeS])
 have c0 : w.cell? ⟨c, 0, none⟩ = some (.pointer (some ⟨p, 0, none⟩)) := cell_of hgc 0 rfl
 obtain ⟨va, vc, hv, hx, hrd⟩ := h.pairs_read (v := rv) (ps := [(k1, a1), (k2, a2)]) (.head _)
 obtain ⟨gv, rfl, d0, d1⟩ := hrd 0 _ rfl
 have hv' : rv = .slice (some ⟨gv, 0, none⟩) 2 vc := hv
 clear hv
 subst hv'
 have d1 : w.cell? ⟨gv, 1, none⟩ = some (.int .i64 a1) := d1
 have HG : Hid (∀ w' F, Has w' (btS p bank sp N es Q :: pairsS (.slice (some ⟨gv, 0, none⟩) 2 vc) [(k1, a1), (k2, a2)] :: chL c p pv put l ++ F) -> Calls Tryz.prog 20 #[.pointer (some ⟨p, 0, none⟩), .int .i64 a1] w' (fun r w'' => ∃ ak ck av cv, r = .returned (.tuple #[.agg #[.int .i64 g.n.level, .slice ak g.n.keys.length ck, .slice av g.n.vals.length cv], .nilIface]) /\ Kept w' w'' /\ Has w'' (intsS (.slice ak g.n.keys.length ck) g.n.keys :: intsS (.slice av g.n.vals.length cv) g.n.vals :: btS p bank sp N es Q :: pairsS (.slice (some ⟨gv, 0, none⟩) 2 vc) [(k1, a1), (k2, a2)] :: chL c p pv put l ++ F))) := fun w' F hw => by
  refine (bt_Get hw a1 (by omega) (by omega)).mono ?_
  rintro r w'' ⟨hK, (⟨h1, _⟩ | ⟨g', ak, ck, av, cv, h1, rfl, h3⟩)⟩
  ·rw [hga] at h1; cases h1
  ·rw [hga] at h1
   obtain rfl := Option.some.inj h1
   exact ⟨ak, ck, av, cv, rfl, hK, h3⟩
 have HX := Lib.hid (And.intro hT (And.intro hs (And.intro hrt (And.intro hr hI))))
 have HB := Lib.hid (And.intro h20 (And.intro hN hput))
 have Ht := Lib.hid ht
 have Hlv := Lib.hid hlv
 clear h hI hH hga hba hgr hheld hbr hgc hx hrd d0 hT hs hrt h20 hN hput ht hr hlv
 obtain ⟨⟨lvI, keys, vals⟩, ho, he⟩ := g
 simp only at HG Hlv
 generalize keys.length = nk at *
 generalize vals.length = nv at *
 go_enter Tryz.func163, Tryz.ntmps163
 go_upto_region 3 with fail
 obtain ⟨FA, HFA⟩ : ∃ FA : List (Nat × Addr × Value), Hid (FA = [(3, ⟨c, 0, none⟩, .pointer (some ⟨p, 0, none⟩)), (7, ⟨gv, 1, none⟩, .int .i64 a1)]) := ⟨_, rfl⟩
 have fa3 : ∀ n : In (factsOf FA 3), n.w.cell? ⟨c, 0, none⟩ = some (.pointer (some ⟨p, 0, none⟩)) := fun n => factsOf.cell (by rw [HFA.out]; simp) n
 have fa7 : ∀ n : In (factsOf FA 7), n.w.cell? ⟨gv, 1, none⟩ = some (.int .i64 a1) := fun n => factsOf.cell (by rw [HFA.out]; simp) n
 have hFA : ∀ p ∈ FA, w.cell? p.2.1 = some p.2.2 := by rw [HFA.out]; exact (fcons c0 (fcons d1 fnil))
 haveI neFA : ∀ k, Nonempty (In (factsOf FA k)) := fun k => ⟨⟨_, factsOf.drew hFA k⟩⟩
 refine ws_begin [0, 1, 2, 3, 4, 5, 6, 7, 8, 9, 10, 11, 12, 13, 14] (factsOf FA) (btS p bank sp N es Q :: pairsS (.slice (some ⟨gv, 0, none⟩) 2 vc) [(k1, a1), (k2, a2)] :: chL c p pv put l) #[0, 1, 3, 7, 0, 16, 48, 112, 255, 511, 1023, 1023, 0, 6143, 16383] (by kernel_rfl) (by kernel_rfl) (by kernel_rfl) factsOf.alloc (factsOf.drew hFA) hh ?_
 clear hFA
 iterate 8 (refine ws_q (at_lit rfl) rfl rfl rfl ?_; go_big_quiet_op; show WS _ _ _ _ _ _ _ _ _ _)
 refine ws_call (at_lit rfl) rfl rfl 20 #[.pointer (some ⟨p, 0, none⟩), .int .i64 a1] (fun w => by go_simp) (fun y L' => ∃ ak ck av cv, y = .tuple #[.agg #[.int .i64 lvI, .slice ak nk ck, .slice av nv cv], .nilIface] /\ L' = intsS (.slice ak nk ck) keys :: intsS (.slice av nv cv) vals :: btS p bank sp N es Q :: pairsS (.slice (some ⟨gv, 0, none⟩) 2 vc) [(k1, a1), (k2, a2)] :: chL c p pv put l) (fun w' F hS hh => ?_) ?_
 ·refine (HG.out w' F hh).mono ?_
  rintro r w2' ⟨ak, ck, av, cv, rfl, hK, h5⟩
  exact ⟨_, _, rfl, hK, ⟨_, _, _, _, rfl, rfl⟩, h5⟩
 rintro _ _ ⟨ak, ck, av, cv, rfl, rfl⟩
 refine ⟨fun w F hh => lives (l' := []) (by rw [HFA.out]; simp [liveFacts, Nat.testBit]) (fnil), ?_⟩
 simp only [Act.put, List.setIfInBounds_toArray, List.set_cons_zero, List.set_cons_succ]
 show WS _ _ _ _ _ _ _ _ _ _
 iterate 3 (refine ws_q (at_lit rfl) rfl rfl rfl ?_; go_big_quiet_op; show WS _ _ _ _ _ _ _ _ _ _)
 refine ws_ptr (at_lit rfl) rfl rfl (.cells #[.int .i64 0, .slice none 0 0, .slice none 0 0] 35 (0, 0)) (fun w => by go_simp) ?_
 intro r9
 simp only [Act.put, List.setIfInBounds_toArray, List.set_cons_zero, List.set_cons_succ]
 show WS _ _ _ _ _ _ _ _ _ _
 refine ws_store (at_lit rfl) rfl rfl 35 (.tmp 9) (.tmp 29) rfl rfl (v := .agg #[.int .i64 lvI, .slice ak nk ck, .slice av nv cv]) rfl (by simp [Value.cells]) (by simp [Value.cells, Value.oneCell']) (by kernel_rfl) (by simp only [Value.cells, putCells, List.setIfInBounds_toArray, List.set_cons_zero, List.set_cons_succ]; rfl) (fun w' F hh => lives (l' := []) (by rw [HFA.out]; simp [liveFacts, Nat.testBit]) (fnil)) ?_
 simp only [Act.put, List.setIfInBounds_toArray, List.set_cons_zero, List.set_cons_succ]
 show WS _ _ _ _ _ _ _ _ _ _
 refine ws_q (at_lit rfl) rfl rfl rfl ?_
 go_big_quiet_op
 show WS _ _ _ _ _ _ _ _ _ _
 refine ws_end ?_
 intro w9 hK9 h9
 clear HFA neFA fa3 fa7 hh c0 d1 HG
 clear FA
 have hlvI : lvI = (lv : Int) := Hlv.out
 have h20 := HB.out.1
 have hwr : IntKind.i64.wrap (lvI + 1) = lvI + 1 := by rw [IntKind.wrap_i64]; omega
 have hg9 := h9.at (b := r9) (o := .cells #[.int .i64 lvI, .slice ak nk ck, .slice av nv cv] 35 (0, 0)) (by simp)
 have m0 : w9.cell? ⟨r9, 0, none⟩ = some (.int .i64 lvI) := cell_of hg9 0 rfl
 have l9 := World.block_lt_of_cell? _ _ m0
 have h10 : Has w9 (btS p bank sp N es Q :: pairsS (.slice (some ⟨gv, 0, none⟩) 2 vc) [(k1, a1), (k2, a2)] :: chL c p pv put l) := h9.tail.tail.tail
 have h11 := h10.alloc (.cells #[.int .i64 (lvI + 1), .slice none 0 0, .slice none 0 0] 35)
 have HM0 : Hid (DnMid w w9.heap.size (lvI + 1) [(k1, a1), (k2, a2)] (btS p bank sp N es Q :: pairsS (.slice (some ⟨gv, 0, none⟩) 2 vc) [(k1, a1), (k2, a2)] :: chL c p pv put l) 0 (w9.alloc (.cells #[.int .i64 (lvI + 1), .slice none 0 0, .slice none 0 0] 35))) :=
  ⟨none, 0, none, 0, hK9.alloc _, ((h11.row_nil 3 1).row_nil 3 1).pull 2⟩
 clear h9 hK9 hg9 h10 h11 hlvI h20
 go_wp2
 refine wp_loop_rounds 2 ?_
 rw [rounds_succ]
 go_wp2
 generalize w9.heap.size = r11 at *
 have hlvT : lvI + 1 = ((lv + 1 : Nat) : Int) := by have := Hlv.out; omega
 have HlvT := Lib.hid hlvT
 clear hlvT Hlv
 generalize lvI + 1 = lvT at *
 clear m0 l9 hwr
 obtain ⟨ps, hps⟩ : ∃ ps : List KV, ps = [(k1, a1), (k2, a2)] := ⟨_, rfl⟩
 rw [<- hps] at HM0 HX
 have Hps := Lib.hid hps
 clear hps
 go_loopg [41] 2 (fun gk i wr => ∃ k : Nat, k <= 2 /\ gk = 2 - k /\ i = .int .i64 k /\ Hid (DnMid w r11 lvT ps (btS p bank sp N es Q :: pairsS (.slice (some ⟨gv, 0, none⟩) 2 vc) ps :: chL c p pv put l) k wr))
 case atStart => exact ⟨0, Nat.zero_le _, rfl, rfl, HM0⟩
 case round =>
  clear HM0
  obtain ⟨k, hk, rfl, rfl, HM⟩ := hrel
  obtain ⟨ak, ck, av, cv, hK, hh⟩ := HM.out
  clear HM
  by_cases hlt : k < 2
  ·have hkl : k < ps.length := by rw [Hps.out]; simpa using hlt
   obtain ⟨a', c', e1, hx1, hr⟩ := hh.pairs_read (v := .slice (some ⟨gv, 0, none⟩) 2 vc) (ps := ps) (by simp)
   clear hx1
   injection e1 with e1 e2 e3
   subst e1
   clear e2 e3
   obtain ⟨g', eg, c1, c2⟩ := hr k ps[k] (List.getElem?_eq_getElem hkl)
   injection eg with eg
   injection eg with eg _ _
   subst eg
   have HT : Hid (ps.take (k + 1) = ps.take k ++ [ps[k]]) := List.take_succ_eq_append_getElem hkl
   have htl : ((ps.take k).map (·.1)).length = k := by simp; omega
   have htl2 : ((ps.take k).map (·.2)).length = k := by simp; omega
   generalize ps[k] = pr at *
   obtain ⟨pk, pvl⟩ := pr
   simp only at c1 c2
   have lg := World.block_lt_of_cell? _ _ c1
   have h5 := hh.got
   have k1' : wr.cell? ⟨r11, 1, none⟩ = some (.slice ak k ck) := cell_of h5 1 rfl
   have l5 := World.block_lt_of_cell? _ _ k1'
   have hkI : (k : Int) < 2 := by omega
   have hk0 : (0 : Int) <= k := by omega
   have hx := ((hh.alloc (.cells #[.int .i64 pk, .int .i64 pvl] 87)).alloc (.cells #[.int .i64 pk] 3))
   simp only [World.size_alloc] at hx
   have HXx := Lib.hid (hx.pull 3)
   clear hx
   have HK := Lib.hid ((hK.alloc (.cells #[.int .i64 pk, .int .i64 pvl] 87)).alloc (.cells #[.int .i64 pk] 3))
   have Htl := Lib.hid htl
   have Htl2 := Lib.hid htl2
   clear hr h5 hh hK hkl htl htl2
   go_upto_region 11 with (at_builtin; refine wpList_append_int rfl (.tmp 46) (.tmp 49) rfl rfl rfl HXx.out (.head _) Htl.out (by have := Htl.out; omega) ?_; intro p1 q1 w1 hK1 hz; have hr5 := hz.at (b := r11) (o := .cells #[.int .i64 lvT, .slice ak k ck, .slice av k cv] 35 (0, 0)) (by simp); have m1 : w1.cell? ⟨r11, 1, none⟩ = some (.slice ak k ck) := cell_of hr5 1 rfl; have f1 := thaw_of hr5 1; have l1 := World.block_lt_of_cell? _ _ m1; have HK1 := Lib.hid hK1; have Hz := Lib.hid hz; clear hK1 hz hr5 c1 c2 k1')
   have h6 := (Hz.out.pull 3).setCell 1 (.slice p1 (k + 1) q1)
   have hk6 := (HK.out.trans HK1.out).setCell ⟨r11, 1, none⟩ (.slice p1 (k + 1) q1)
   generalize w1.setCell ⟨r11, 1, none⟩ (.slice p1 (k + 1) q1) = V at *
   have h6 : Has V (pts r11 (.cells #[.int .i64 lvT, .slice p1 (k + 1) q1, .slice av k cv] 35 (0, 0)) :: intsS (.slice p1 (k + 1) q1) ((ps.take k).map (·.1) ++ [pk]) :: pts (wr.heap.size + 1) (.cells #[.int .i64 pk] 3 (0, 0)) :: pts wr.heap.size (.cells #[.int .i64 pk, .int .i64 pvl] 87 (0, 0)) :: intsS (.slice av k cv) ((ps.take k).map (·.2)) :: btS p bank sp N es Q :: pairsS (.slice (some ⟨gv, 0, none⟩) 2 vc) ps :: chL c p pv put l) := h6
   clear Hz HK HK1 HXx m1 f1 l1
   have h5 := h6.got
   have k2' : V.cell? ⟨r11, 2, none⟩ = some (.slice av k cv) := cell_of h5 2 rfl
   have l5' := World.block_lt_of_cell? _ _ k2'
   have hpr := h6.at (b := wr.heap.size) (o := .cells #[.int .i64 pk, .int .i64 pvl] 87 (0, 0)) (by simp)
   have c2 : V.cell? ⟨wr.heap.size, 1, none⟩ = some (.int .i64 pvl) := cell_of hpr 1 rfl
   have lpr := World.block_lt_of_cell? _ _ c2
   have hx := (h6.alloc (.cells #[.int .i64 pvl] 3)).pull 5
   have HXx := Lib.hid hx
   have HK := Lib.hid (hk6.alloc (.cells #[.int .i64 pvl] 3))
   clear h6 hk6 h5 hpr hx
   generalize hpb : wr.heap.size = b7 at *
   clear hpb
   go_upto_region 12 with (at_builtin; refine wpList_append_int rfl (.tmp 53) (.tmp 56) rfl rfl rfl HXx.out (.head _) Htl2.out (by have := Htl2.out; omega) ?_; intro p2 q2 w3 hK1 hz; have hr5 := hz.at (b := r11) (o := .cells #[.int .i64 lvT, .slice p1 (k + 1) q1, .slice av k cv] 35 (0, 0)) (by simp); have m2 : w3.cell? ⟨r11, 2, none⟩ = some (.slice av k cv) := cell_of hr5 2 rfl; have f2 := thaw_of hr5 2; have l2 := World.block_lt_of_cell? _ _ m2; have HK1 := Lib.hid hK1; have Hz := Lib.hid hz; clear hK1 hz hr5 c2 k2')
   have HM2 : Hid (DnMid w r11 lvT ps (btS p bank sp N es Q :: pairsS (.slice (some ⟨gv, 0, none⟩) 2 vc) ps :: chL c p pv put l) (k + 1) (w3.setCell ⟨r11, 2, none⟩ (.slice p2 (k + 1) q2))) := by
    refine ⟨p1, q1, p2, q2, (HK.out.trans HK1.out).setCell _ _, ?_⟩
    rw [HT.out, List.map_append, List.map_append]
    exact (((((Hz.out.pull 2).setCell 2 (.slice p2 (k + 1) q2)).pull 2).tail.pull 3).tail.pull 3).tail.reord [0, 1]
   clear HXx HK HK1 Hz m2 f2 l2
   go_wp2
   go_roundg (2 - (k + 1))
   case measure => omega
   case rel => exact ⟨k + 1, by omega, rfl, by go_num, HM2⟩
  ·have hke : k = 2 := by omega
   subst hke
   have hp2 : ps.take 2 = ps := List.take_of_length_le (by rw [Hps.out]; simp)
   rw [hp2] at hh
   have hg11 := hh.got
   have m0 : wr.cell? ⟨r11, 0, none⟩ = some (.int .i64 lvT) := cell_of hg11 0 rfl
   have m1 : wr.cell? ⟨r11, 1, none⟩ = some (.slice ak 2 ck) := cell_of hg11 1 rfl
   have m2 : wr.cell? ⟨r11, 2, none⟩ = some (.slice av 2 cv) := cell_of hg11 2 rfl
   have l11 := World.block_lt_of_cell? _ _ m0
   have hA := hh.alloc (.cells #[.int .i64 lvT, .slice ak 2 ck, .slice av 2 cv] 35)
   have hpl : ps.length = 2 := by rw [Hps.out]; rfl
   have hB : Has (wr.alloc (.cells #[.int .i64 lvT, .slice ak 2 ck, .slice av 2 cv] 35)) (btS p bank sp N es Q :: chL c p pv put (nodesL (.slice (some ⟨wr.heap.size, 0, none⟩) 1 1) [⟨ndOf lvT ps, .slice ak 2 ck, .slice av 2 cv⟩] ++ l)) := by
    have h3 := Has.row_of_pts (n := 1) (size := 3) (xs := [.int .i64 lvT, .slice ak 2 ck, .slice av 2 cv]) hA (by simp) (Nat.le_refl _) (by simp [maxLen]) (by simp) (by simp)
    exact ((h3.reord [1, 4]).tail.tail.reord [3, 3, 3, 0, 0, 0])
   have hTr := HX.out.1
   have hsP := hTr.srt HX.out.2.1
   have hrP := hTr.rightP HX.out.2.2.2.2 HX.out.2.2.1
   have hR : TrR Q (lv + 1) ps L s := hTr
   have hlvT : lvT = ((lv + 1 : Nat) : Int) := HlvT.out
   have hnd : (ndOf lvT ps).ok = true /\ namedErr Q (ndOf lvT ps) = .nilIface := by
    rw [hlvT]
    exact ⟨nd_ok (by omega) (by have := HB.out.1; omega) (by omega) (by omega) hsP hrP, hR.named⟩
   have HW := Lib.hid (ch_write [⟨ndOf lvT ps, .slice ak 2 ck, .slice av 2 cv⟩] hB Ht.out (by simp) (fun t ht => by rw [List.mem_singleton] at ht; subst ht; exact hnd) (by have := HB.out.2.1; omega) (by have := HB.out.2.2; omega))
   have HK := Lib.hid (hK.alloc (.cells #[.int .i64 lvT, .slice ak 2 ck, .slice av 2 cv] 35))
   have HR := Lib.hid (And.intro hR (And.intro hpl hlvT))
   clear hh hK hp2 hg11 hA hB hTr hsP hrP hR hnd hlvT hpl
   go_wp2_with fail
   refine HW.out.mono ?_
   rintro r w5 ⟨hK5, news, Q1, pv1, hps1, hnl, (⟨hfull, rfl, h7⟩ | ⟨hns, v5, rfl, h7⟩)⟩
   ·have HF : Hid (DonePost c p bank sp N es Q put root L lv (s + 2 ^ (lv + 1)) l w (.returned (.tuple #[.int .i64 0, errV 50])) w5) :=
     ⟨HK.out.trans hK5, ⟨_, _, rfl⟩, news, Q1, pv1, hps1, hnl, .inl ⟨hfull, rfl, h7.bt_more (by simp)⟩⟩
    clear hK5 hps1 hnl hfull h7 HW HK HR HX
    simp only [errV] at HF ⊢
    go_wp2
    go_ret2
    exact HF.out
   ·obtain ⟨⟨a, n1⟩, rfl⟩ : ∃ x, news = [x] := List.length_eq_one_iff.1 (by have := congrArg List.length hns; simpa using this)
    have hn1 : n1 = ndOf lvT ps := by simpa using hns
    subst hn1
    rw [HR.out.2.2] at hps1
    obtain ⟨q1, q2⟩ := put_out hps1 HR.out.1 (by rw [HR.out.2.1]; decide) (.head _)
    rw [HR.out.2.1] at q1
    have h8 : Has w5 (btS p bank sp (N + 1) es Q1 :: chL c p pv1 (put ++ [a]) l) := h7.tail
    obtain ⟨ga, hga, _⟩ := q1.get
    have hr1 : 0 < heldOf Q1 root := by rw [hps1.held]; exact HX.out.2.2.2.1
    obtain ⟨vb, vd, hvv, hx1, hrd⟩ := h7.pairs_read (v := v5) (.head _)
    obtain ⟨gv5, rfl, d0, d1⟩ := hrd 0 _ rfl
    have hv' : v5 = .slice (some ⟨gv5, 0, none⟩) 1 vd := hvv
    clear hvv
    subst hv'
    have d1 : w5.cell? ⟨gv5, 1, none⟩ = some (.int .i64 a) := d1
    have lg5 := World.block_lt_of_cell? _ _ d1
    have hgc := h8.at (b := c) (o := .cells #[.pointer (some ⟨p, 0, none⟩), pv1] 212 (0, 0)) (by simp [chL, changeS])
    have c0 : w5.cell? ⟨c, 0, none⟩ = some (.pointer (some ⟨p, 0, none⟩)) := cell_of hgc 0 rfl
    have lc := World.block_lt_of_cell? _ _ c0
    have HHo := Lib.hid (bt_Hold h8 hga (by have := HB.out.2.1; omega))
    have HG := Lib.hid (And.intro hga (held_more hga hr1))
    have HT := Lib.hid (And.intro q1 hps1)
    have HK5 := Lib.hid (HK.out.trans hK5)
    clear h7 h8 hga hr1 hgc hx1 hrd d0 q1 q2 hps1 hnl hns hK5 HW HK HR
    go_wp2
    rw [rounds_succ]
    go_wp2_with fail
    refine HHo.out.mono ?_
    rintro r w6 ⟨hK1, rfl, h3⟩
    obtain ⟨gr2, hgr2, hh2⟩ := heldOf_some HG.out.2
    have hgc := h3.at (b := c) (o := .cells #[.pointer (some ⟨p, 0, none⟩), pv1] 212 (0, 0)) (by simp [chL, changeS])
    have c0 : w6.cell? ⟨c, 0, none⟩ = some (.pointer (some ⟨p, 0, none⟩)) := cell_of hgc 0 rfl
    have lc := World.block_lt_of_cell? _ _ c0
    have HD := Lib.hid (bt_Drop h3 hgr2 (by have := HG.out.2; omega) (by have := HB.out.2.1; omega))
    have HK6 := Lib.hid (HK5.out.trans hK1)
    clear h3 hK1 hgc hgr2 hh2 d1 lg5 HHo HK5
    go_wp2_with fail
    refine HD.out.mono ?_
    rintro r w7 ⟨hK, rfl, Q', hd, h3⟩
    have HF : Hid (DonePost c p bank sp N es Q put root L lv (s + 2 ^ (lv + 1)) l w (.returned (.tuple #[.int .i64 a, .nilIface])) w7) := by
     refine ⟨HK6.out.trans hK, ⟨_, _, rfl⟩, [(a, _)], Q1, pv1, HT.out.2, by simp, .inr ⟨a, _, Q', rfl, .inr ⟨lv + 1, _, ga, Nat.le_refl _, ?_, HT.out.1, HG.out.1, rfl⟩, hd, h3⟩⟩
     have := wt_root lv
     omega
    clear hK hd h3 HD HK6 HG HT
    go_wp2
    go_ret2
    exact HF.out
end Go.Proofs.YtgbgneiciabidaaGreatDoor
/-
  Plain: a range over a function, by what its body owns.
-/
namespace Go.Proofs.YtgbgneiciabidaaGreatDoor
open Go Go.RowKit Go.Shelf
set_option linter.all false
set_option maxHeartbeats 8000000
theorem Has.putObj {w : World} {l : List Say} {b : Nat} {o : Obj} (h : Has w (pts b o :: l)) (o' : Obj) : Has (w.putObj b o') (pts b o' :: l) := h.setObj o'
theorem Kept.putObj {a w : World} (h : Kept a w) (b : Nat) (o : Obj) : Kept a (w.putObj b o) := h.setObj b o
theorem wpIn_rangeFunc_sep {F : Fence} {n : Nat} {P : Program} {g : Operand} {ps : Array Tmp} {assign body : Code} {Q : Exit -> Act -> World -> Prop} {a : Act} {w : World} {α : Type}
  (hro : F.round = none) (h1 : 1 <= n) {gf : Nat} {lb : Array Value} (hg : a.eval g = .func (.func gf) #[] lb) (hFg : F.fn gf) (eg : ∀ args w, (callFunc gf args).run P w = .ok (.enter gf args) w)
  (encs : α -> Array Value) (hps : ∀ x, (encs x).size = ps.size) (xs : List α) (M : List α -> List Say -> Prop) {L0 : List Say} (h0 : M [] L0) (hw : Has w L0)
  (hseq : ∀ (l : Nat) (J : List α -> World -> Prop) (W : World), (∀ pre W1, J pre W1 -> ∃ L F, M pre L /\ Has W1 (F ++ L)) ->
   (∀ pre x W1, J pre W1 -> pre ++ [x] <+: xs -> YieldAt F (n - 1 - 1) P l (encs x) W1 fun e W' => e = .returned (.bool true) /\ J (pre ++ [x]) W') -> J [] W ->
   CallsIn F (n - 1) P gf (#[.func (.yield l) #[] #[]] ++ lb) W fun e W' => (∃ v, e = .returned v) /\ J xs W')
  (a₁ : α -> Act)
  (hassign : ∀ (l : Nat) (x : α) (W : World) (K : Act -> World -> Prop), K (a₁ x) W ->
   assign.wpIn (F.inRound l) (n - 1 - 1) P (Exit.then K (fun _ _ _ => False)) { tmps := (ps.zip (encs x)).foldl (fun t (p, v) => t.setIfInBounds p v) a.tmps, defers := [] } W)
  (hbody : ∀ (l : Nat) (pre : List α) (x : α) (W : World) (L F' : List Say), pre ++ [x] <+: xs -> M pre L -> Has W (F' ++ L) -> body.wpIn (F.inRound l) (n - 1 - 1) P (fun e _ W' => e = .normal /\ Kept W W' /\ ∃ L', M (pre ++ [x]) L' /\ Has W' (F' ++ L')) (a₁ x) W)
  (hdone : ∀ (D : Nat) (W : World) (L : List Say), M xs L -> Kept w W -> Has W (pts D (.deferred (some [])) :: L) -> Q .normal { a with defers := { target := .collected D, args := #[] } :: a.defers } W) :
  (Code.rangeFunc g ps assign body).wpIn F n P Q a w := by
 refine wpIn_rangeFunc ?_
 intro fn hfn
 rw [hro]
 obtain ⟨rec, hrec⟩ : ∃ rec : LoopState -> Option Code -> Loop, rec = fun st pe => { state := st, pending := pe, fn, tmps := a.tmps, params := ps, assign, body, defers := w.heap.size } := ⟨_, rfl⟩
 obtain ⟨W1, hW1⟩ : ∃ W1, (w.alloc (.deferred (some []))).alloc (.loop (rec .ready none)) = W1 := ⟨_, rfl⟩
 have hh1 : Has W1 (pts (w.heap.size + 1) (.loop (rec .ready none)) :: pts w.heap.size (.deferred (some [])) :: L0) := by
  have := (hw.alloc (.deferred (some []))).alloc (.loop (rec .ready none))
  simp only [World.size_alloc] at this
  rw [<- hW1]; exact this
 have hk1 : Kept w W1 := by rw [<- hW1]; exact ((Kept.refl w).alloc _).alloc _
 refine ⟨w.heap.size + 1, [{ target := .collected w.heap.size, args := #[] }], W1, { target := .fn (.func gf) lb, args := #[.func (.yield (w.heap.size + 1)) #[] #[]] }, W1, gf,
  #[.func (.yield (w.heap.size + 1)) #[] #[]] ++ lb, W1, ?_, ?_, ?_, ?_, fun _ => h1, ?_⟩
 ·rw [<- hW1, hrec]; exact run_enterLoop_outer _ _ _ _ _
 ·simp only [resolve, hg]
  simp [go_sem]
 ·intro f' hf'; simp [Target.leads] at hf'; subst hf'; exact hFg
 ·simp [invoke, go_sem, eg]
 ·refine (hseq (w.heap.size + 1)
   (fun pre W => Kept w W /\ ∃ L, M pre L /\ Has W (pts (w.heap.size + 1) (.loop (rec .ready none)) :: pts w.heap.size (.deferred (some [])) :: L)) W1
   (fun pre W hJ => by obtain ⟨_, L, hM, hh⟩ := hJ; exact ⟨L, [_, _], hM, hh⟩) ?_ ⟨hk1, L0, h0, hh1⟩).mono ?_
  ·rintro pre x W ⟨hkW, L, hM, hh⟩ hpre
   have hl : W.heap[w.heap.size + 1]? = some (.loop (rec .ready none)) := hh.got
   have hy := run_yield (P := P) (args := encs x) hl (by rw [hrec]; exact hps x)
   rw [hrec] at hy
   refine ⟨fn, _, assign, body, hy, roundIn_of_wpIn hfn (hassign _ x W _ ⟨_, run_beginRound hl (by rw [hrec]), ?_⟩)⟩
   have h2 := hh.putObj (.loop { rec .ready none with state := .busy })
   refine wpIn_mono (hbody _ pre x _ L [pts (w.heap.size + 1) (.loop { rec .ready none with state := .busy }), pts w.heap.size (.deferred (some []))] hpre hM h2) ?_
   rintro e a3 W3 ⟨rfl, hk3, L', hM', hh3⟩
   have hh3 : Has W3 (pts (w.heap.size + 1) (.loop { rec .ready none with state := .busy }) :: pts w.heap.size (.deferred (some [])) :: L') := hh3
   have hr := run_endRound (P := P) none hh3.got
   refine ⟨_, _, hr, rfl, ((hkW.putObj _ _).trans hk3).putObj _ _, L', hM', ?_⟩
   have h4 := hh3.putObj (.loop { rec .ready none with state := .ready, pending := none })
   rw [hrec] at h4 ⊢
   exact h4
  ·rintro e W2 ⟨⟨v, rfl⟩, hkW, L, hM, hh⟩
   have hl : W2.heap[w.heap.size + 1]? = some (.loop (rec .ready none)) := hh.got
   refine ⟨none, _, by have := run_endLoop (P := P) hl (by rw [hrec]; simp); rw [hrec] at this; exact this, hdone w.heap.size _ L hM (hkW.putObj _ _) ?_⟩
   exact (hh.putObj _).tail
/-
  Plain: slices.Backward at numbers.
-/
attribute [local go_sem] Oper.semAt_some
def bkAt (zs : List Int) (k : Nat) : Int × Int := (((zs.length - 1 - k : Nat) : Int), zs[zs.length - 1 - k]?.getD 0)
def backs (zs : List Int) (k : Nat) : List (Int × Int) := (List.range k).map (bkAt zs)
theorem backs_succ (zs : List Int) (k : Nat) : backs zs (k + 1) = backs zs k ++ [bkAt zs k] := by simp [backs, List.range_succ]
theorem backs_pre (zs : List Int) {k n : Nat} (h : k <= n) : backs zs k <+: backs zs n := by
 obtain ⟨d, rfl⟩ : ∃ d, n = k + d := ⟨n - k, by omega⟩
 unfold backs
 rw [List.range_add, List.map_append]
 exact List.prefix_append _ _
def encB (x : Int × Int) : Array Value := #[.int .i64 x.1, .int .i64 x.2]
set_option maxRecDepth 100000 in
theorem back1_in (F : Fence) (n : Nat) (hf : F.fn 214) (hro : F.round = none) (hn : 1 <= n) (l Bs : Nat) (a : Option Addr) (cap : Nat) (zs : List Int) (hz : zs.length <= 1000000) (J : List (Int × Int) -> World -> Prop)
  (hR : ∀ pre W, J pre W -> W.cell? ⟨Bs, 0, none⟩ = some (.slice a zs.length cap) /\ ∀ j, j < zs.length -> ∃ g, a = some ⟨g, 0, none⟩ /\ W.cell? ⟨g, j, none⟩ = some (.int .i64 (zs[j]?.getD 0)))
  (hY : ∀ pre x W, J pre W -> pre ++ [x] <+: backs zs zs.length -> YieldAt F (n - 1) Tryz.prog l (encB x) W fun e W' => e = .returned (.bool true) /\ J (pre ++ [x]) W')
  (W : World) (h0 : J [] W) :
  CallsIn F n Tryz.prog 214 #[.func (.yield l) #[] #[], .pointer (some ⟨Bs, 0, none⟩)] W fun e W' => (∃ v, e = .returned v) /\ J (backs zs zs.length) W' := by
 refine callsIn_of_wp Tryz.func214 rfl hf ?_ hro
 simp only [Tryz.ntmps214, List.size_toArray, List.length_cons, List.length_nil, Nat.reduceAdd, Nat.reduceSub, Array.replicate_succ, Array.replicate_zero, List.push_toArray, List.append_toArray, List.nil_append, List.cons_append]
 obtain ⟨c0, _⟩ := hR _ _ h0
 have hzI : (zs.length : Int) <= 1000000 := by omega
 have HR := Lib.hid hR
 have HY := Lib.hid hY
 clear hR hY
 have hw1 : IntKind.i64.wrap ((zs.length : Int) - 1) = (zs.length : Int) - 1 := by rw [IntKind.wrap_i64]; omega
 have HJ := Lib.hid h0
 clear h0
 gi_wp2
 gi_loopw [3] (fun i wr => ∃ k : Nat, k <= zs.length /\ i = .int .i64 ((zs.length : Int) - 1 - k) /\ Hid (J (backs zs k) wr))
  (fun i _ => (intOf i + 1).toNat)
 case atStart => exact ⟨0, Nat.zero_le _, by simp, HJ⟩
 case round =>
  clear HJ c0
  obtain ⟨k, hk, rfl, HJ⟩ := hrel
  obtain ⟨c0, hrd⟩ := HR.out _ _ HJ.out
  by_cases hlt : k < zs.length
  ·obtain ⟨g, rfl, c1⟩ := hrd (zs.length - 1 - k) (by omega)
   obtain ⟨fn, tmps, assign, body, hy, hRd⟩ := HY.out _ (bkAt zs k) wr HJ.out (by rw [<- backs_succ]; exact backs_pre zs (by omega))
   obtain ⟨j, hj⟩ : ∃ j, zs.length - 1 - k = j := ⟨_, rfl⟩
   have hjI : (zs.length : Int) - 1 - (k : Int) = (j : Int) := by omega
   have hb : bkAt zs k = ((j : Int), zs[j]?.getD 0) := by unfold bkAt; rw [hj]
   rw [hj] at c1
   rw [hb] at hy hRd
   simp only [encB] at hy
   rw [hjI]
   have HB : Hid (backs zs k ++ [((j : Int), zs[j]?.getD 0)] = backs zs (k + 1)) := by show _ = _; rw [backs_succ, hb]
   have HRd := Lib.hid hRd
   have hjlt : (j : Int) < (zs.length : Int) := by omega
   have hj0 : (0 : Int) <= j := by omega
   have hw2 : IntKind.i64.wrap ((j : Int) - 1) = (j : Int) - 1 := by rw [IntKind.wrap_i64]; omega
   have Hjk : Hid ((zs.length : Int) - 1 - ((k + 1 : Nat) : Int) = (j : Int) - 1) := by show _ = _; omega
   generalize zs[j]?.getD 0 = z at *
   clear hrd hb hj hjI hRd HY HR
   gi_wp2
   refine HRd.out.mono ?_
   rintro e W3 ⟨rfl, hJ3⟩
   rw [HB.out] at hJ3
   have HJ3 := Lib.hid hJ3
   clear hJ3 hy HRd HB c0 c1
   gi_wp2
   go_roundw
   case rel => exact ⟨k + 1, by omega, by rw [Hjk.out], HJ3⟩
   case measure => simp [intOf] <;> omega
  ·obtain rfl : k = zs.length := by omega
   have hneg : (zs.length : Int) - 1 - (zs.length : Int) = -1 := by omega
   rw [hneg]
   clear hneg
   gi_wp2
   go_end0
   exact ⟨⟨_, rfl⟩, HJ.out⟩
end Go.Proofs.YtgbgneiciabidaaGreatDoor
