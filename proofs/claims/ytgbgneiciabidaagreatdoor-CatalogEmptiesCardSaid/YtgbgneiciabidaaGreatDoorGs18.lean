/-
  Nodes (layer 10): Drop, of a key that is there.
-/
import Derived.Test.YtgbgneiciabidaaGreatDoorGs17
import Derived.Test.YtgbgneiciabidaaGreatDoorGs9
import Derived.Test.YtgbgneiciabidaaGreatDoorGs4
import Derived.Test.YtgbgneiciabidaaGreatDoorGs14
import Derived.Laws.BytesArg
import Derived.Test.YtgbgneiciabidaaGreatDoorGs15
import Derived.Test.YtgbgneiciabidaaGreatDoorGs16
import Derived.Test.YtgbgneiciabidaaGreatDoorGs11
import Derived.Shelf.SlMaps.Clone
import Derived.Deep.DeepCutAuto
namespace Go.Proofs.YtgbgneiciabidaaGreatDoor
open Go Go.RowKit
set_option linter.all false
set_option maxHeartbeats 8000000
def NDropPost (n : Nd) (l : List Say) (w : World) (r : Ending) (w' : World) : Prop :=
 ∃ (ak : Option Addr) (ck : Nat) (av : Option Addr) (cv : Nat), r = .returned (.tuple #[.agg #[.int .i64 n.level, .slice ak n.keys.length ck, .slice av n.vals.length cv], .nilIface]) /\ Kept w w' /\
  Has w' (intsS (.slice ak n.keys.length ck) n.keys :: intsS (.slice av n.vals.length cv) n.vals :: l)
set_option maxRecDepth 100000 in
theorem node_Drop {w : World} {l : List Say} (nd : Nd) {kv vv : Value} (key : Int) (h : Has w l) (hk : intsS kv nd.keys ∈ l) (hv : intsS vv nd.vals ∈ l) (ok : nd.ok = true) (hx : nd.keys[lowB nd.keys key]? = some key) :
  Calls Tryz.prog 105 #[nd.val kv vv, .int .i64 key] w (NDropPost (ndOf nd.level (nd.pairs.eraseIdx (lowB nd.keys key))) l w) := by
 obtain ⟨o0, o1, o2, o3, o4⟩ := ok_lens ok
 have hA := (h.alloc (.cells #[.int .i64 nd.level, kv, vv] 35)).alloc (.cells #[.int .i64 0, .slice none 0 0, .slice none 0 0] 35)
 have hKA := ((Kept.refl w).alloc (.cells #[.int .i64 nd.level, kv, vv] 35)).alloc (.cells #[.int .i64 0, .slice none 0 0, .slice none 0 0] 35)
 simp only [World.size_alloc] at hA
 have HCk := Lib.hid (node_Check nd hA (kv := kv) (vv := vv) (by simp [hk]) (by simp [hv]))
 have Hok := Lib.hid ok
 have Hrs := Lib.hid (ok_rising ok)
 have HK := Lib.hid hKA
 have Hk := Lib.hid hk
 have hlt : lowB nd.keys key < nd.keys.length := (List.getElem?_eq_some_iff.1 hx).1
 have hpl : nd.pairs.length = nd.keys.length := by unfold Nd.pairs; rw [List.length_zip, o2, Nat.min_self]
 have HP : Hid (∀ w' l', Has w' ((pts (w.heap.size + 1) (.cells #[.int .i64 0, .slice none 0 0, .slice none 0 0] 35 (0, 0)) :: pts w.heap.size (.cells #[.int .i64 nd.level, kv, vv] 35 (0, 0)) :: l) ++ l') -> Calls Tryz.prog 135 #[.agg #[.int .i64 nd.level, kv, vv]] w' (PairsPost nd.pairs ((pts (w.heap.size + 1) (.cells #[.int .i64 0, .slice none 0 0, .slice none 0 0] 35 (0, 0)) :: pts w.heap.size (.cells #[.int .i64 nd.level, kv, vv] 35 (0, 0)) :: l) ++ l') w')) := fun w' l' hw => node_pairs nd hw (kv := kv) (vv := vv) (by simp [hk]) (by simp [hv]) o2 (by omega)
 obtain ⟨ps, hps⟩ : ∃ ps, ps = nd.pairs := ⟨_, rfl⟩
 have Hx := Lib.hid hx
 obtain ⟨m, hm⟩ : ∃ m, m = (ps.eraseIdx (lowB nd.keys key)).length := ⟨_, rfl⟩
 have hm6 : m <= 6 := by rw [hm, List.length_eraseIdx_of_lt (by rw [hps, hpl]; exact hlt), hps, hpl]; omega
 rw [<- hps] at HP hpl
 have Hat : Hid (lowB nd.keys key < ps.length /\ ps.length <= 100 /\ (ps.eraseIdx (lowB nd.keys key)).length = m) := ⟨by omega, by omega, hm.symm⟩
 have Hm : Hid (m <= 100) := by show m <= 100; omega
 have HE : Hid (ndOf nd.level (nd.pairs.eraseIdx (lowB nd.keys key)) = ndOf nd.level (ps.eraseIdx (lowB nd.keys key))) := by show _ = _; rw [hps]
 have hatI : ((lowB nd.keys key : Nat) : Int) <= 7 := by omega
 have hlk : nd.keys.length <= 1000000 := by omega
 have Hlk := Lib.hid hlk
 clear h hA hKA hk hv ok hx o2 o3 o4 hlt hpl hps hm hm6 hlk
 simp only [Nd.val] at HCk ⊢
 go_enter Tryz.func105, Tryz.ntmps105
 go_wp2_with fail
 refine HCk.out.mono ?_
 rintro r w1 ⟨hr, hK1, h1⟩
 rw [if_pos Hok.out] at hr
 subst hr
 have hr2 := h1.at (b := w.heap.size) (o := (.cells #[.int .i64 nd.level, kv, vv] 35 (0, 0))) (by simp)
 have n0 : w1.cell? ⟨w.heap.size, 0, none⟩ = some (.int .i64 nd.level) := cell_of hr2 0 rfl
 have n1 : w1.cell? ⟨w.heap.size, 1, none⟩ = some kv := cell_of hr2 1 rfl
 have n2 : w1.cell? ⟨w.heap.size, 2, none⟩ = some vv := cell_of hr2 2 rfl
 have ln := World.block_lt_of_cell? _ _ n0
 have HFd := Lib.hid (node_Find nd (w := w1) (kv := kv) (vv := vv) (h1.rd (by simp [Hk.out])) Hrs.out Hlk.out key)
 rw [if_pos Hx.out] at HFd
 have H1 := Lib.hid h1
 have HK1 := Lib.hid (HK.out.trans hK1)
 simp only [Nd.val] at HFd
 clear h1 hK1 HCk HK hr2
 generalize lowB nd.keys key = at_ at *
 go_wp2_with fail
 refine HFd.out.mono ?_
 rintro r W ⟨rfl, hb⟩
 have hh := H1.out.below hb
 have HK2 := Lib.hid (HK1.out.trans (Kept.below hb))
 clear hb H1 HK1 HFd n0 n1 n2 ln
 go_wp2
 generalize hr4 : w.heap.size + 1 = r4 at *
 generalize hr2 : w.heap.size = r2 at *
 clear hr4 hr2
 have hg := hh.at (b := r2) (o := (.cells #[.int .i64 nd.level, kv, vv] 35 (0, 0))) (by simp)
 have b0 : W.cell? ⟨r2, 0, none⟩ = some (.int .i64 nd.level) := cell_of hg 0 rfl
 have b1 : W.cell? ⟨r2, 1, none⟩ = some kv := cell_of hg 1 rfl
 have b2 : W.cell? ⟨r2, 2, none⟩ = some vv := cell_of hg 2 rfl
 have hwa : IntKind.i64.wrap ((at_ : Int) + 1) = (at_ : Int) + 1 := by rw [IntKind.wrap_i64]; omega
 clear hg
 obtain ⟨FA, HFA⟩ : ∃ FA : List (Nat × Addr × Value), Hid (FA = [(0, ⟨r2, 0, none⟩, .int .i64 nd.level), (0, ⟨r2, 1, none⟩, kv), (0, ⟨r2, 2, none⟩, vv), (1, ⟨r2, 0, none⟩, .int .i64 nd.level), (1, ⟨r2, 1, none⟩, kv), (1, ⟨r2, 2, none⟩, vv)]) := ⟨_, rfl⟩
 have fa0_0 : ∀ n : In (factsOf FA 0), n.w.cell? ⟨r2, 0, none⟩ = some (.int .i64 nd.level) := fun n => factsOf.cell (by rw [HFA.out]; simp) n
 have fa0_1 : ∀ n : In (factsOf FA 0), n.w.cell? ⟨r2, 1, none⟩ = some (kv) := fun n => factsOf.cell (by rw [HFA.out]; simp) n
 have fa0_2 : ∀ n : In (factsOf FA 0), n.w.cell? ⟨r2, 2, none⟩ = some (vv) := fun n => factsOf.cell (by rw [HFA.out]; simp) n
 have fa1_0 : ∀ n : In (factsOf FA 1), n.w.cell? ⟨r2, 0, none⟩ = some (.int .i64 nd.level) := fun n => factsOf.cell (by rw [HFA.out]; simp) n
 have fa1_1 : ∀ n : In (factsOf FA 1), n.w.cell? ⟨r2, 1, none⟩ = some (kv) := fun n => factsOf.cell (by rw [HFA.out]; simp) n
 have fa1_2 : ∀ n : In (factsOf FA 1), n.w.cell? ⟨r2, 2, none⟩ = some (vv) := fun n => factsOf.cell (by rw [HFA.out]; simp) n
 have hFA : ∀ p ∈ FA, W.cell? p.2.1 = some p.2.2 := by rw [HFA.out]; exact (fcons b0 (fcons b1 (fcons b2 (fcons b0 (fcons b1 (fcons b2 fnil))))))
 haveI neFA : ∀ k, Nonempty (In (factsOf FA k)) := fun k => ⟨⟨_, factsOf.drew hFA k⟩⟩
 refine ws_begin [0, 1, 2, 3, 4, 5, 6, 7, 8, 9] (factsOf FA) (pts r4 (.cells #[.int .i64 0, .slice none 0 0, .slice none 0 0] 35 (0, 0)) :: pts r2 (.cells #[.int .i64 nd.level, kv, vv] 35 (0, 0)) :: l) #[0, 0, 2, 0, 0, 16, 62, 127, 255, 511] (by kernel_rfl) (by kernel_rfl) (by kernel_rfl) factsOf.alloc (factsOf.drew hFA) hh ?_
 clear hFA
 iterate 2 (refine ws_q (at_lit rfl) rfl rfl rfl ?_; go_big_quiet_op; show WS _ _ _ _ _ _ _ _ _ _)
 refine ws_call (at_lit rfl) rfl rfl 135 #[.agg #[.int .i64 nd.level, kv, vv]] (fun w => by go_simp) (fun v L' => L' = pairsS v ps :: pts r4 (.cells #[.int .i64 0, .slice none 0 0, .slice none 0 0] 35 (0, 0)) :: pts r2 (.cells #[.int .i64 nd.level, kv, vv] 35 (0, 0)) :: l) (fun w' F hS hh => ?_) ?_
 ·refine (HP.out w' _ hh).mono ?_
  rintro r w2' ⟨vp, rfl, hK, h5⟩
  exact ⟨_, _, rfl, hK, rfl, h5⟩
 rintro vp _ rfl
 refine ⟨fun w F hh => lives (l' := [(0, ⟨r2, 0, none⟩, .int .i64 nd.level), (0, ⟨r2, 1, none⟩, kv), (0, ⟨r2, 2, none⟩, vv)]) (by rw [HFA.out]; simp [liveFacts, Nat.testBit]) (fcons (cell_of (hh.at (b := r2) (o := (.cells #[.int .i64 nd.level, kv, vv] 35 (0, 0))) (by simp)) 0 (v := .int .i64 nd.level) rfl) <| fcons (cell_of (hh.at (b := r2) (o := (.cells #[.int .i64 nd.level, kv, vv] 35 (0, 0))) (by simp)) 1 (v := kv) rfl) <| fcons (cell_of (hh.at (b := r2) (o := (.cells #[.int .i64 nd.level, kv, vv] 35 (0, 0))) (by simp)) 2 (v := vv) rfl) <| fnil), ?_⟩
 simp only [Act.put, List.setIfInBounds_toArray, List.set_cons_zero, List.set_cons_succ]
 show WS _ _ _ _ _ _ _ _ _ _
 iterate 3 (refine ws_q (at_lit rfl) rfl rfl rfl ?_; go_big_quiet_op; show WS _ _ _ _ _ _ _ _ _ _)
 refine ws_call (at_lit rfl) rfl rfl 168 #[vp, .int .i64 at_, .int .i64 ((at_ : Int) + 1)] (fun w => by go_simp) (fun v L' => L' = pairsS v (ps.eraseIdx at_) :: pts r4 (.cells #[.int .i64 0, .slice none 0 0, .slice none 0 0] 35 (0, 0)) :: pts r2 (.cells #[.int .i64 nd.level, kv, vv] 35 (0, 0)) :: l) (fun w' F hS hh => ?_) ?_
 ·have hd : Has w' (pairsS vp ps :: ((pts r4 (.cells #[.int .i64 0, .slice none 0 0, .slice none 0 0] 35 (0, 0)) :: pts r2 (.cells #[.int .i64 nd.level, kv, vv] 35 (0, 0)) :: l) ++ F)) := hh
  refine (sl_Delete ps hd at_ Hat.out.1 Hat.out.2.1).mono ?_
  rintro r w2' ⟨vq, rfl, hK, h5⟩
  exact ⟨_, _, rfl, hK, rfl, h5⟩
 rintro vq _ rfl
 refine ⟨fun w F hh => lives (l' := [(0, ⟨r2, 0, none⟩, .int .i64 nd.level), (0, ⟨r2, 1, none⟩, kv), (0, ⟨r2, 2, none⟩, vv)]) (by rw [HFA.out]; simp [liveFacts, Nat.testBit]) (fcons (cell_of (hh.at (b := r2) (o := (.cells #[.int .i64 nd.level, kv, vv] 35 (0, 0))) (by simp)) 0 (v := .int .i64 nd.level) rfl) <| fcons (cell_of (hh.at (b := r2) (o := (.cells #[.int .i64 nd.level, kv, vv] 35 (0, 0))) (by simp)) 1 (v := kv) rfl) <| fcons (cell_of (hh.at (b := r2) (o := (.cells #[.int .i64 nd.level, kv, vv] 35 (0, 0))) (by simp)) 2 (v := vv) rfl) <| fnil), ?_⟩
 simp only [Act.put, List.setIfInBounds_toArray, List.set_cons_zero, List.set_cons_succ]
 show WS _ _ _ _ _ _ _ _ _ _
 refine ws_call (at_lit rfl) rfl rfl 167 #[.agg #[.int .i64 nd.level, kv, vv], vq] (fun w => by go_simp) (fun v L' => ∃ ak ck av cv, v = .agg #[.int .i64 nd.level, .slice ak m ck, .slice av m cv] /\ L' = intsS (.slice ak m ck) ((ps.eraseIdx at_).map (·.1)) :: intsS (.slice av m cv) ((ps.eraseIdx at_).map (·.2)) :: pairsS vq (ps.eraseIdx at_) :: pts r4 (.cells #[.int .i64 0, .slice none 0 0, .slice none 0 0] 35 (0, 0)) :: pts r2 (.cells #[.int .i64 nd.level, kv, vv] 35 (0, 0)) :: l) (fun w' F hS hh => ?_) ?_
 ·refine (node_of nd.level kv vv (ps.eraseIdx at_) hh (PSrcs.of_pairs (.head _)) (by rw [Hat.out.2.2]; exact Hm.out)).mono ?_
  rintro r w2' ⟨ak, ck, av, cv, rfl, hK, h5⟩
  rw [Hat.out.2.2] at h5 ⊢
  exact ⟨_, _, rfl, hK, ⟨_, _, _, _, rfl, rfl⟩, h5⟩
 rintro _ _ ⟨ak, ck, av, cv, rfl, rfl⟩
 refine ⟨fun w F hh => lives (l' := []) (by rw [HFA.out]; simp [liveFacts, Nat.testBit]) (fnil), ?_⟩
 simp only [Act.put, List.setIfInBounds_toArray, List.set_cons_zero, List.set_cons_succ]
 show WS _ _ _ _ _ _ _ _ _ _
 refine ws_reord [3] ?_
 simp only [reord, pull]
 refine ws_store (at_lit rfl) rfl rfl 35 (.tmp 4) (.tmp 30) rfl rfl (v := .agg #[.int .i64 nd.level, .slice ak m ck, .slice av m cv]) rfl (by simp [Value.cells]) (by simp [Value.cells, Value.oneCell']) (by kernel_rfl) (by simp only [Value.cells, putCells, List.setIfInBounds_toArray, List.set_cons_zero, List.set_cons_succ]; rfl) (fun w F hh => lives (l' := []) (by rw [HFA.out]; simp [liveFacts, Nat.testBit]) (fnil)) ?_
 simp only [Act.put, List.setIfInBounds_toArray, List.set_cons_zero, List.set_cons_succ]
 show WS _ _ _ _ _ _ _ _ _ _
 refine ws_q (at_lit rfl) rfl rfl rfl ?_
 go_big_quiet_op
 show WS _ _ _ _ _ _ _ _ _ _
 refine ws_end ?_
 intro w9 hK9 h9
 have hg := h9.got
 have z0 := Lib.hid (cell_of hg 0 (v := .int .i64 nd.level) rfl)
 have z1 := Lib.hid (cell_of hg 1 (v := .slice ak m ck) rfl)
 have z2 := Lib.hid (cell_of hg 2 (v := .slice av m cv) rfl)
 have HF : Hid (NDropPost (ndOf nd.level (nd.pairs.eraseIdx at_)) l w (.returned (.tuple #[.agg #[.int .i64 nd.level, .slice ak m ck, .slice av m cv], .nilIface])) w9) := by
  show NDropPost _ _ _ _ _
  rw [HE.out]
  have e1 : (ndOf nd.level (ps.eraseIdx at_)).keys.length = m := by simp only [ndOf, List.length_map]; exact Hat.out.2.2
  have e2 : (ndOf nd.level (ps.eraseIdx at_)).vals.length = m := by simp only [ndOf, List.length_map]; exact Hat.out.2.2
  refine ⟨ak, ck, av, cv, by rw [e1, e2]; rfl, HK2.out.trans hK9, ?_⟩
  rw [e1, e2]
  exact (((h9.tail.pull 2).tail.pull 2).tail)
 clear h9 hK9 hg hh HFA neFA FA fa0_0 fa0_1 fa0_2 fa1_0 fa1_1 fa1_2 b0 b1 b2 HK2
 go_wp2
 exact bodyPost_ret (v := .tuple #[.agg #[.int .i64 nd.level, .slice ak m ck, .slice av m cv], .nilIface]) (by have y0 := z0.out; have y1 := z1.out; have y2 := z2.out; simp [results, Tryz.results105, go_sem, y0, y1, y2]) rfl HF.out
/-
  Frames (layer 2): the unpacker.
-/
def acc (xs : List Int) : Int := xs.foldl (fun a b => a * 256 + b) 0
/-
  Law 11, plain: pages that are held once each, and given back from the last to the first (PagesHolds).
-/
theorem get_cons {α : Type} (k : Int) (p : Int × α) (M : List (Int × α)) : VMap.get k (p :: M) = if p.1 = k then some p.2 else VMap.get k M := by
 unfold VMap.get
 rw [List.find?_cons]
 by_cases h : p.1 = k
 ·have : (p.1 == k) = true := by simpa using h
  rw [this, if_pos h]; rfl
 ·have : (p.1 == k) = false := by simpa using h
  rw [this, if_neg h]
theorem get_low {α : Type} {k : Int} : ∀ {M : List (Int × α)}, (∀ p ∈ M, k < p.1) -> VMap.get k M = none
 | [], _ => rfl
 | p :: M, h => by
  rw [get_cons, if_neg (by have := h p (.head _); omega)]
  exact get_low fun q hq => h q (.tail _ hq)
theorem VMap.ext {α : Type} : ∀ {Q R : List (Int × α)}, VMap.Up Q -> VMap.Up R -> (∀ k, VMap.get k Q = VMap.get k R) -> Q = R
 | [], [], _, _, _ => rfl
 | [], q :: R, _, _, h => by have := h q.1; rw [get_cons, if_pos rfl] at this; cases this
 | p :: Q, [], _, _, h => by have := h p.1; rw [get_cons, if_pos rfl] at this; cases this
 | p :: Q, q :: R, hQ, hR, h => by
  obtain ⟨p1, p2⟩ := List.pairwise_cons.1 hQ
  obtain ⟨q1, q2⟩ := List.pairwise_cons.1 hR
  have e : p.1 = q.1 := by
   rcases Int.lt_trichotomy p.1 q.1 with hlt | he | hgt
   ·have h1 := h p.1
    rw [get_cons, if_pos rfl, get_low (M := q :: R) (by intro x hx; rcases List.mem_cons.1 hx with rfl | hx; exact hlt; have := q1 x hx; omega)] at h1
    cases h1
   ·exact he
   ·have h1 := h q.1
    rw [get_low (M := p :: Q) (by intro x hx; rcases List.mem_cons.1 hx with rfl | hx; exact hgt; have := p1 x hx; omega), get_cons, if_pos rfl] at h1
    cases h1
  have e2 : p.2 = q.2 := by
   have h1 := h p.1
   rw [get_cons, if_pos rfl, get_cons, if_pos e.symm] at h1
   exact Option.some.inj h1
  have e3 : Q = R := VMap.ext p2 q2 fun k => by
   by_cases hk : p.1 = k
   ·subst hk
    rw [get_low (M := Q) (fun x hx => p1 x hx), get_low (M := R) (fun x hx => by rw [e]; exact q1 x hx)]
   ·have h1 := h k
    rwa [get_cons, if_neg hk, get_cons, if_neg (by rw [<- e]; exact hk)] at h1
  obtain ⟨a, b⟩ := p
  obtain ⟨c, d⟩ := q
  simp only at e e2
  subst e e2 e3
  rfl
theorem bump_up {Q : Pgs} (h : VMap.Up Q) (k : Int) : VMap.Up (bump Q k) := by
 unfold bump
 split
 ·exact h.put _ _
 ·exact h
theorem bumpAll_up : ∀ (ks : List Int) {Q : Pgs}, VMap.Up Q -> VMap.Up (bumpAll Q ks)
 | [], _, h => h
 | k :: ks, _, h => bumpAll_up ks (bump_up h k)
theorem get_bump (Q : Pgs) (k j : Int) : VMap.get j (bump Q k) = (VMap.get j Q).map fun g => { g with holds := g.holds + if j = k then 1 else 0 } := by
 unfold bump
 cases hk : VMap.get k Q with
 | none =>
  by_cases h : j = k
  ·subst h; rw [hk]; rfl
  ·cases hj : VMap.get j Q with
   | none => rfl
   | some g => simp [h]
 | some g =>
  simp only
  rw [get_put]
  by_cases h : j = k
  ·subst h; rw [hk]; simp
  ·rw [if_neg h]
   cases hj : VMap.get j Q with
   | none => rfl
   | some g => simp [h]
theorem get_bumpAll : ∀ (ks : List Int) (Q : Pgs) (j : Int), VMap.get j (bumpAll Q ks) = (VMap.get j Q).map fun g => { g with holds := g.holds + (ks.count j : Nat) }
 | [], Q, j => by
  show VMap.get j Q = _
  cases VMap.get j Q with
  | none => rfl
  | some g => simp
 | k :: ks, Q, j => by
  show VMap.get j (bumpAll (bump Q k) ks) = _
  rw [get_bumpAll ks, get_bump]
  cases hj : VMap.get j Q with
  | none => rfl
  | some g =>
   simp only [Option.map_some, List.count_cons, Option.some.injEq, Pg.mk.injEq, true_and, and_true]
   by_cases h : j = k
   ·subst h; simp; omega
   ·have : (k == j) = false := by simp; omega
    simp [h, this]
theorem named_some {Q : Pgs} {n : Nd} (h : namedErr Q n = .nilIface) : ∀ c ∈ n.kids, (VMap.get c Q).isSome = true := by
 intro c hc
 unfold namedErr at h
 by_cases hm : n.kids.any (missing Q) = true
 ·rw [if_pos hm] at h; simp [errV] at h
 ·have : missing Q c = false := by
   cases hx : missing Q c with
   | false => rfl
   | true => exact absurd (List.any_eq_true.2 ⟨c, hc, hx⟩) hm
  unfold missing at this
  cases hg : VMap.get c Q with
  | none => rw [hg] at this; simp at this
  | some g => rfl
/-
  Law 11, plain: what is adopted comes back as it was (PagesBack).
-/
def refs : Pgs -> Int -> Nat
 | [], _ => 0
 | p :: R, a => p.2.n.kids.count a + refs R a
def refsN : List (Int × Nd) -> Int -> Nat
 | [], _ => 0
 | p :: R, a => p.2.kids.count a + refsN R a
theorem refs_over (a : Int) : ∀ R : Pgs, refs R a = refsN (VMap.over Pg.n R) a
 | [] => rfl
 | p :: R => by
  show _ + refs R a = _ + refsN (VMap.over Pg.n R) a
  rw [refs_over a R]
theorem refs_perm {R S : Pgs} (a : Int) (h : R.Perm S) : refs R a = refs S a := by
 induction h with
 | nil => rfl
 | cons x _ ih => simp only [refs, ih]
 | swap x y l => simp only [refs]; omega
 | trans _ _ i1 i2 => exact i1.trans i2
theorem refs_put_new {R : Pgs} {k : Int} {g : Pg} (h : VMap.get k R = none) (a : Int) : refs (VMap.put k g R) a = g.n.kids.count a + refs R a := by
 have := refs_perm a (VMap.ins_perm (k, g) (VMap.del k R))
 rw [del_none h] at this
 unfold VMap.put
 rw [del_none h, this]; rfl
theorem refs_put_same {R : Pgs} (hu : VMap.Up R) {k : Int} {g g' : Pg} (h : VMap.get k R = some g) (hn : g'.n = g.n) (a : Int) : refs (VMap.put k g' R) a = refs R a := by
 rw [refs_perm a (VMap.get_split hu h)]
 unfold VMap.put
 rw [refs_perm a (VMap.ins_perm (k, g') (VMap.del k R))]
 simp only [refs, hn]
theorem refs_ext {R S : Pgs} (h1 : VMap.Up R) (h2 : VMap.Up S) (h : ∀ k, (VMap.get k R).map Pg.n = (VMap.get k S).map Pg.n) (a : Int) : refs R a = refs S a := by
 rw [refs_over, refs_over]
 have e : VMap.over Pg.n R = VMap.over Pg.n S := VMap.ext (List.pairwise_map.2 h1) (List.pairwise_map.2 h2) fun k => by rw [VMap.get_over, VMap.get_over, h]
 rw [e]
theorem refs_le (a : Int) : ∀ {R : Pgs}, (∀ p ∈ R, p.2.n.ok = true) -> refs R a <= 7 * R.length
 | [], _ => Nat.le_refl _
 | p :: R, h => by
  have h1 := refs_le a (R := R) fun q hq => h q (.tail _ hq)
  have h2 := kids_len (h p (.head _))
  have h3 : p.2.n.kids.count a <= p.2.n.kids.length := List.count_le_length
  simp only [refs, List.length_cons]
  omega
theorem heldOf_put (k : Int) (g : Pg) (R : Pgs) (a : Int) : heldOf (VMap.put k g R) a = if a = k then g.held else heldOf R a := by
 unfold heldOf; rw [get_put]; split <;> rfl
theorem named_lv {Q : Pgs} {n : Nd} (h : namedErr Q n = .nilIface) : ∀ c ∈ n.kids, lvOf Q c = n.level - 1 := by
 unfold namedErr at h
 split at h
 ·cases h
 ·split at h
  ·cases h
  ·rename_i h2
   intro c hc
   simp only [List.any_eq_true, not_exists, not_and] at h2
   have := h2 c hc
   unfold offLevel at this
   simpa using this
structure XIs (es : List Ent) (Q : Pgs) (X : Spc) : Prop where
 ent : X.es = es
 len : X.sh.length = es.length
 sh : ∀ (d : Nat) (y : Shelf), X.sh[d]? = some y -> (∃ e, es[d]? = some e /\ y.n = e.size) /\ ∀ k, y.given k = false /\ y.taken k = (decide (k < 4096) && (VMap.get (lenV d k) Q).isSome)
theorem XIs.fresh (es : List Ent) : XIs es [] (freshSpc es) := by
 refine ⟨rfl, by simp [freshSpc], fun d y hy => ?_⟩
 simp only [freshSpc, List.getElem?_map] at hy
 cases he : es[d]? with
 | none => rw [he] at hy; cases hy
 | some e =>
  rw [he] at hy
  obtain rfl := (Option.some.inj hy).symm
  exact ⟨⟨e, rfl, rfl⟩, fun k => ⟨rfl, by simp [VMap.get, emptyShelf]⟩⟩
theorem XIs.more {es : List Ent} {Q Q' : Pgs} {X : Spc} (h : XIs es Q X) {d k : Nat} {y y' : Shelf} (hy : X.sh[d]? = some y) (hk : k < 4096) (hn : y'.n = y.n) (hg : ∀ j, y'.given j = y.given j) (ht : ∀ j, y'.taken j = (j == k || y.taken j))
  (hQ : ∀ b, (VMap.get b Q').isSome = (decide (b = lenV d k) || (VMap.get b Q).isSome)) : XIs es Q' (X.put d y') := by
 have hd := (List.getElem?_eq_some_iff.1 hy).1
 refine ⟨h.ent, by simp [Spc.put, h.len], fun d' z hz => ?_⟩
 by_cases e1 : d' = d
 ·subst e1
  simp only [Spc.put, List.getElem?_set_self hd, Option.some.injEq] at hz
  subst hz
  obtain ⟨⟨e, he, hne⟩, hb⟩ := h.sh d' y hy
  refine ⟨⟨e, he, hn.trans hne⟩, fun j => ⟨by rw [hg]; exact (hb j).1, ?_⟩⟩
  rw [ht, (hb j).2, hQ]
  by_cases hj : j = k
  ·subst hj; simp [hk]
  ·have h1 : (j == k) = false := by simpa using hj
   rw [h1]
   by_cases hj4 : j < 4096
   ·have : ¬ lenV d' j = lenV d' k := fun e => hj (lenV_inj hj4 hk e).2
    simp [this]
   ·simp [hj4]
 ·simp only [Spc.put, List.getElem?_set_ne (Ne.symm e1)] at hz
  obtain ⟨q1, q2⟩ := h.sh d' z hz
  refine ⟨q1, fun j => ⟨(q2 j).1, ?_⟩⟩
  rw [(q2 j).2, hQ]
  by_cases hj4 : j < 4096
  ·have : ¬ lenV d' j = lenV d k := fun e => e1 (lenV_inj hj4 hk e).1
   simp [this]
  ·simp [hj4]
theorem XIs.same {es : List Ent} {Q Q' : Pgs} {X : Spc} (h : XIs es Q X) (hQ : ∀ b, (VMap.get b Q').isSome = (VMap.get b Q).isSome) : XIs es Q' X :=
 ⟨h.ent, h.len, fun d y hy => ⟨(h.sh d y hy).1, fun k => ⟨((h.sh d y hy).2 k).1, by rw [((h.sh d y hy).2 k).2, hQ]⟩⟩⟩
theorem count_none {ks : List Int} {a : Int} {Q : Pgs} (h : ∀ c ∈ ks, (VMap.get c Q).isSome = true) (ha : VMap.get a Q = none) : ks.count a = 0 := by
 rw [List.count_eq_zero]
 intro hm
 have := h a hm
 rw [ha] at this; cases this
end Go.Proofs.YtgbgneiciabidaaGreatDoor
