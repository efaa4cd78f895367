/-
  The statements of layer 12: a call on a tree (step), of kind 3.
-/
import Derived.Test.YtgbgneiciabidaaGreatDoorGs34
import Derived.Test.YtgbgneiciabidaaGreatDoorGs33
namespace Go.Proofs.YtgbgneiciabidaaGreatDoor
open Go Go.RowKit
set_option linter.all false
set_option maxHeartbeats 8000000
set_option maxRecDepth 100000 in
theorem step_three {w : World} {l : List Say} {t sp p bank N : Nat} {es : List Ent} {Q : Pgs} {ts : List Tre} {vs : List Value} {rs : List (Value × List KV)} (tr key val : Int) (h : Has w (treesT t sp p (ts.map (·.a)) vs :: btS p bank sp N es Q :: (rs.map kvR ++ l))) (ht : Tab l) (hT : Grove Q ts) (h4 : Rows4 ts vs rs) (hN : N <= 150000) (hs : ∀ u ∈ ts, u.s <= 800000 /\ u.L.length <= 90000) :
  Calls Tryz.prog 46 #[.pointer (some ⟨t, 0, none⟩), .agg #[.int .i64 3, .int .i64 tr, .int .i64 key, .int .i64 val]] w (StepOk es t sp p bank N ts l 3 tr key val w) := by
 obtain ⟨u, v, hu, hv, hr⟩ := h4.at (mod4_lt tr)
 have hua : (ts.map (·.a))[mod4 tr]? = some u.a := by rw [List.getElem?_map, hu]; rfl
 have hml : (ts.map (·.a)).length = 4 := by rw [List.length_map]; exact h4.four
 have hA := (h.alloc (.cells #[.int .i64 3, .int .i64 tr, .int .i64 key, .int .i64 val] 83)).swap
 have HK : Hid (Kept w (w.alloc (.cells #[.int .i64 3, .int .i64 tr, .int .i64 key, .int .i64 val] 83))) := (Kept.refl w).alloc _
 have HMod : Hid (∀ w' : World, Calls Tryz.prog 52 #[.int .i64 tr] w' fun r w'' => r = .returned (.int .i64 (mod4 tr : Int)) /\ w' = w'') := fun w' => law_mod tr w'
 have HMod2 : Hid (∀ w' : World, Calls Tryz.prog 52 #[.int .i64 key] w' fun r w'' => r = .returned (.int .i64 (mod4 key : Int)) /\ w' = w'') := fun w' => law_mod key w'
 obtain ⟨x, xv, hxu, hxv, hxr⟩ := h4.at (mod4_lt key)
 generalize hi : mod4 tr = i at *
 generalize hj : mod4 key = j at *
 have hj4 : j < 4 := by rw [<- hj]; exact mod4_lt key
 have hxa : (ts.map (·.a))[j]? = some x.a := by rw [List.getElem?_map, hxu]; rfl
 have HXx := Lib.hid (And.intro hj (And.intro hxu (And.intro hxv (And.intro hxr hxa))))
 clear hj hxu hxv hxr hxa
 have hi4 : i < 4 := by rw [<- hi]; exact mod4_lt tr
 have Hi := Lib.hid hi
 have HX := Lib.hid (And.intro ht (And.intro hT (And.intro h4 (And.intro hN (And.intro hs (And.intro hu (And.intro hv (And.intro hr (And.intro hua hml)))))))))
 have HH := Lib.hid hA
 have iI : (i : Int) < 4 := by omega
 have i0 : (0 : Int) <= i := by omega
 clear h ht hT h4 hN hs hu hv hr hua hml hA hi
 go_enter Tryz.func46, Tryz.ntmps46
 go_upto_region 1 with fail
 generalize w.alloc (.cells #[.int .i64 3, .int .i64 tr, .int .i64 key, .int .i64 val] 83) = W at *
 generalize w.heap.size = b3 at *
 have hh := HH.out
 have hb := hh.tail.got
 have o0 : W.cell? ⟨b3, 0, none⟩ = some (.int .i64 3) := cell_of hb 0 rfl
 have o1 : W.cell? ⟨b3, 1, none⟩ = some (.int .i64 tr) := cell_of hb 1 rfl
 have o2 : W.cell? ⟨b3, 2, none⟩ = some (.int .i64 key) := cell_of hb 2 rfl
 have o3 : W.cell? ⟨b3, 3, none⟩ = some (.int .i64 val) := cell_of hb 3 rfl
 have lb := World.block_lt_of_cell? _ _ o0
 have t1 : W.cell? ⟨t, 1, none⟩ = some (.pointer (some ⟨p, 0, none⟩)) := cell_of hh.got 1 rfl
 have tr1 : W.cell? ⟨t, 2 + i, none⟩ = some (.int .i64 u.a) := cell_of hh.got _ (treesC_root HX.out.2.2.2.2.2.2.2.2.1)
 have lt := World.block_lt_of_cell? _ _ t1
 obtain ⟨a, ha⟩ : ∃ a, u.a = a := ⟨_, rfl⟩
 have Ha := Lib.hid ha
 rw [ha] at tr1
 clear hh hb ha
 have jI : (j : Int) < 4 := by omega
 have j0 : (0 : Int) <= j := by omega
 go_wp2_with ((first | refine (HMod.out _).mono ?_ | refine (HMod2.out _).mono ?_); rintro r w1 ⟨rfl, rfl⟩)
 obtain ⟨xq, xc, ev0, _⟩ := HH.out.kv_read (v := xv) (L := x.L) (by simp [kvR_mem HXx.out.2.2.2.1])
 obtain ⟨xn, hxn⟩ : ∃ n, x.L.length = n := ⟨_, rfl⟩
 rw [hxn] at ev0
 clear hxn
 subst ev0
 obtain ⟨c, hc⟩ : ∃ c, x.a = c := ⟨_, rfl⟩
 have Hc := Lib.hid hc
 have hh := HH.out
 have tj : W.cell? ⟨t, 2 + j, none⟩ = some (.int .i64 c) := by rw [<- hc]; exact cell_of hh.got _ (treesC_root HXx.out.2.2.2.2)
 have lj : W.cell? ⟨t, 6 + j, none⟩ = some (.slice xq xn xc) := cell_of hh.got _ (treesC_list HX.out.2.2.2.2.2.2.2.2.2 HXx.out.2.2.1)
 clear HH hc
 obtain ⟨FA, HFA⟩ : ∃ FA : List (Nat × Addr × Value), Hid (FA = [(5, ⟨t, 2 + j, none⟩, .int .i64 c), (11, ⟨t, 6 + j, none⟩, .slice xq xn xc)]) := ⟨_, rfl⟩
 have fa5 : ∀ n : In (factsOf FA 5), n.w.cell? ⟨t, 2 + j, none⟩ = some (.int .i64 c) := fun n => factsOf.cell (by rw [HFA.out]; simp) n
 have fa11 : ∀ n : In (factsOf FA 11), n.w.cell? ⟨t, 6 + j, none⟩ = some (.slice xq xn xc) := fun n => factsOf.cell (by rw [HFA.out]; simp) n
 have hFA : ∀ p ∈ FA, W.cell? p.2.1 = some p.2.2 := by rw [HFA.out]; exact (fcons tj (fcons lj fnil))
 haveI neFA : ∀ k, Nonempty (In (factsOf FA k)) := fun k => ⟨⟨_, factsOf.drew hFA k⟩⟩
 refine ws_begin [0, 1, 2, 3, 4, 5, 6, 7, 8, 9, 10, 11, 12, 13] (factsOf FA) (treesT t sp p (ts.map (·.a)) vs :: pts b3 (.cells #[.int .i64 3, .int .i64 tr, .int .i64 key, .int .i64 val] 83 (0, 0)) :: btS p bank sp N es Q :: (rs.map kvR ++ l)) #[0, 0, 1, 5, 15, 31, 0, 0, 64, 320, 960, 1984, 63, 8191] (by kernel_rfl) (by kernel_rfl) (by kernel_rfl) factsOf.alloc (factsOf.drew hFA) hh ?_
 clear hFA
 iterate 14 (refine ws_q (at_lit rfl) rfl rfl rfl ?_; go_big_quiet_op; show WS _ _ _ _ _ _ _ _ _ _)
 refine ws_end ?_
 intro w4 hK4 h4
 have htt := h4.at (b := t) (o := .cells (treesC sp p (ts.map (·.a)) vs) 70 (0, 0)) (by simp [treesT])
 have q1 : w4.cell? ⟨t, 1, none⟩ = some (.pointer (some ⟨p, 0, none⟩)) := cell_of htt 1 rfl
 have lq := World.block_lt_of_cell? _ _ q1
 have HK4 := Lib.hid (HK.out.trans hK4)
 obtain ⟨r0, hr0⟩ : ∃ r0, r0 = rs := ⟨_, rfl⟩
 have H4 : Hid (Has w4 (btS p bank sp N es Q :: treesT t sp p (ts.map (·.a)) vs :: (r0.map kvR ++ l)) /\ (∀ r ∈ rs, r ∈ r0) /\ (Value.slice xq xn xc, x.L) ∈ r0) := by
  subst hr0
  exact ⟨(h4.reord [2, 0]) |> fun h => Has.skip (A := [_, _]) (M := [_]) h, fun r h => h, HXx.out.2.2.2.1⟩
 clear hK4 h4 hh HFA neFA FA fa5 fa11 o0 o1 o2 o3 t1 tr1 tj lj lb lt htt HMod HMod2 HK hr0
 obtain ⟨H5, hsub, hrow⟩ := H4.out
 have HRw := Lib.hid (And.intro hsub hrow)
 have H5 := Lib.hid H5
 clear H4 hsub hrow
 by_cases hc0 : c = 0
 ·skip
  have hgx := Grove.more HX.out.2.1
  have hg1 : Grove Q (x :: ts) := ⟨hgx.live, fun y hy => (List.mem_cons.1 hy).elim (fun e => by rw [e]; exact HX.out.2.1.root x (List.mem_of_getElem? HXx.out.2.1)) fun e => HX.out.2.1.root y e, fun y => by rw [HX.out.2.1.held]; show _ = oneAt x.a y + _; rw [Hc.out, hc0, oneAt_none, Int.zero_add]⟩
  have Hg1 := Lib.hid (hg1.perm (move_perm HX.out.2.2.2.2.2.1 x))
  subst hc0
  clear hgx hg1
  by_cases ha0 : a = 0
  ·skip
   have hg := Grove.less Hg1.out (by rw [Ha.out]; exact ha0)
   subst ha0
   have hh1 := H5.out
   have hh := Has.bt_more (show N <= N + 100 by omega) hh1
   have HG := Lib.hid hg
   have hKz := HK4.out
   have HKz := Lib.hid hKz
   clear hh1 hKz
   have hh := hh.swap
   have HH2 : Hid (Has w4 (treesT t sp p (ts.map (·.a)) vs :: btS p bank sp (N + 100) es Q :: (r0.map kvR ++ l))) := hh
   clear hh
   go_upto_region 27 with fail
   have hh := HH2.out
   clear HH2
   obtain ⟨FA, HFA⟩ : ∃ FA : List (Nat × Addr × Value), Hid (FA = []) := ⟨_, rfl⟩
   have hFA : ∀ p ∈ FA, w4.cell? p.2.1 = some p.2.2 := by rw [HFA.out]; exact fnil
   haveI neFA : ∀ k, Nonempty (In (factsOf FA k)) := fun k => ⟨⟨_, factsOf.drew hFA k⟩⟩
   refine ws_begin [0, 1, 2, 3, 4, 5, 6, 7, 8, 9, 10, 11, 12, 13] (factsOf FA) (treesT t sp p (ts.map (·.a)) vs :: btS p bank sp (N + 100) es Q :: (r0.map kvR ++ l)) #[0, 0, 0, 0, 0, 0, 1, 65, 211, 467, 4, 1028, 4095, 8191] (by kernel_rfl) (by kernel_rfl) (by kernel_rfl) factsOf.alloc (factsOf.drew hFA) hh ?_
   clear hFA
   iterate 9 (refine ws_q (at_lit rfl) rfl rfl rfl ?_; go_big_quiet_op; show WS _ _ _ _ _ _ _ _ _ _)
   refine ws_store_root (at_lit rfl) rfl rfl (.tmp 211) (.tmp 207) rfl rfl rfl HX.out.2.2.2.2.2.2.2.2.2 HX.out.2.2.1.vals hi4 (fun w' F hh => lives (l' := []) (by rw [HFA.out]; simp [liveFacts, Nat.testBit]) (fnil)) ?_
   simp only [Act.put, List.setIfInBounds_toArray, List.set_cons_zero, List.set_cons_succ]
   show WS _ _ _ _ _ _ _ _ _ _
   iterate 3 (refine ws_q (at_lit rfl) rfl rfl rfl ?_; go_big_quiet_op; show WS _ _ _ _ _ _ _ _ _ _)
   refine ws_store_list (at_lit rfl) rfl rfl (.tmp 214) (.tmp 208) rfl rfl rfl (by rw [List.length_set]; exact HX.out.2.2.2.2.2.2.2.2.2) HX.out.2.2.1.vals hi4 (fun w' F hh => lives (l' := []) (by rw [HFA.out]; simp [liveFacts, Nat.testBit]) (fnil)) ?_
   simp only [Act.put, List.setIfInBounds_toArray, List.set_cons_zero, List.set_cons_succ]
   show WS _ _ _ _ _ _ _ _ _ _
   refine ws_end ?_
   intro w9 hK9 h9
   have HF : Hid (StepOk es t sp p bank N ts l 3 tr key val w (.returned (.tuple #[.bool true, .bool false])) w9) := by
    obtain ⟨htab, hT, h4, hN, hs, hu, hv, hr, hua, hml⟩ := HX.out
    refine ⟨rfl, HKz.out.trans hK9, Q, ts.set i x, vs.set i (.slice xq xn xc), r0, ⟨u, by rw [Hi.out]; exact hu, by rw [Hi.out]; exact .inr (.inr (.inl ⟨rfl, x, by rw [HXx.out.1]; exact HXx.out.2.1, rfl⟩))⟩, HG.out, h4.set i HRw.out.1 HRw.out.2, ?_⟩
    rw [roots_set, Hc.out]
    exact h9
   clear hK9 h9 hh HFA neFA FA HX HG HKz Hi Ha HRw Hc
   go_wp2
   go_ret2
   exact HF.out
  ·skip
   have hab : (a == 0) = false := by simpa using ha0
   have hab2 : decide (a = 0) = false := decide_eq_false ha0
   have HD : Hid (∀ w' l', Has w' (btS p bank sp (N) es Q :: l') -> Calls Tryz.prog 28 #[.pointer (some ⟨p, 0, none⟩), .int .i64 a] w' (HeldPost p bank sp (N) es (ts.set i x) l' w')) := fun w' l' h => by
    rw [<- Ha.out]
    exact tree_drop h Hg1.out (by rw [Ha.out]; exact ha0) (by have := HX.out.2.2.2.1; omega)
   go_wp2_with fail
   refine (HD.out _ _ H5.out).mono ?_
   rintro r w8 ⟨rfl, hK8, Q8, hg, h8⟩
   have HK8 := Lib.hid (HK4.out.trans hK8)
   have H8 := Lib.hid h8
   clear hK8 h8 HD
   have hh1 := H8.out
   have hh := Has.bt_more (show N <= N + 100 by omega) hh1
   have HG := Lib.hid hg
   have hKz := HK8.out
   have HKz := Lib.hid hKz
   clear hh1 hKz
   have hh := hh.swap
   have HH2 : Hid (Has w8 (treesT t sp p (ts.map (·.a)) vs :: btS p bank sp (N + 100) es Q8 :: (r0.map kvR ++ l))) := hh
   clear hh
   go_upto_region 27 with fail
   have hh := HH2.out
   clear HH2
   obtain ⟨FA, HFA⟩ : ∃ FA : List (Nat × Addr × Value), Hid (FA = []) := ⟨_, rfl⟩
   have hFA : ∀ p ∈ FA, w8.cell? p.2.1 = some p.2.2 := by rw [HFA.out]; exact fnil
   haveI neFA : ∀ k, Nonempty (In (factsOf FA k)) := fun k => ⟨⟨_, factsOf.drew hFA k⟩⟩
   refine ws_begin [0, 1, 2, 3, 4, 5, 6, 7, 8, 9, 10, 11, 12, 13] (factsOf FA) (treesT t sp p (ts.map (·.a)) vs :: btS p bank sp (N + 100) es Q8 :: (r0.map kvR ++ l)) #[0, 0, 0, 0, 0, 0, 1, 65, 211, 467, 4, 1028, 4095, 8191] (by kernel_rfl) (by kernel_rfl) (by kernel_rfl) factsOf.alloc (factsOf.drew hFA) hh ?_
   clear hFA
   iterate 9 (refine ws_q (at_lit rfl) rfl rfl rfl ?_; go_big_quiet_op; show WS _ _ _ _ _ _ _ _ _ _)
   refine ws_store_root (at_lit rfl) rfl rfl (.tmp 211) (.tmp 207) rfl rfl rfl HX.out.2.2.2.2.2.2.2.2.2 HX.out.2.2.1.vals hi4 (fun w' F hh => lives (l' := []) (by rw [HFA.out]; simp [liveFacts, Nat.testBit]) (fnil)) ?_
   simp only [Act.put, List.setIfInBounds_toArray, List.set_cons_zero, List.set_cons_succ]
   show WS _ _ _ _ _ _ _ _ _ _
   iterate 3 (refine ws_q (at_lit rfl) rfl rfl rfl ?_; go_big_quiet_op; show WS _ _ _ _ _ _ _ _ _ _)
   refine ws_store_list (at_lit rfl) rfl rfl (.tmp 214) (.tmp 208) rfl rfl rfl (by rw [List.length_set]; exact HX.out.2.2.2.2.2.2.2.2.2) HX.out.2.2.1.vals hi4 (fun w' F hh => lives (l' := []) (by rw [HFA.out]; simp [liveFacts, Nat.testBit]) (fnil)) ?_
   simp only [Act.put, List.setIfInBounds_toArray, List.set_cons_zero, List.set_cons_succ]
   show WS _ _ _ _ _ _ _ _ _ _
   refine ws_end ?_
   intro w9 hK9 h9
   have HF : Hid (StepOk es t sp p bank N ts l 3 tr key val w (.returned (.tuple #[.bool true, .bool false])) w9) := by
    obtain ⟨htab, hT, h4, hN, hs, hu, hv, hr, hua, hml⟩ := HX.out
    refine ⟨rfl, HKz.out.trans hK9, Q8, ts.set i x, vs.set i (.slice xq xn xc), r0, ⟨u, by rw [Hi.out]; exact hu, by rw [Hi.out]; exact .inr (.inr (.inl ⟨rfl, x, by rw [HXx.out.1]; exact HXx.out.2.1, rfl⟩))⟩, HG.out, h4.set i HRw.out.1 HRw.out.2, ?_⟩
    rw [roots_set, Hc.out]
    exact h9
   clear hK9 h9 hh HFA neFA FA HX HG HKz Hi Ha HRw Hc
   go_wp2
   go_ret2
   exact HF.out
 ·skip
  have hcb : (c == 0) = false := by simpa using hc0
  have hcb2 : decide (c = 0) = false := decide_eq_false hc0
  have HHo : Hid (∀ w' l', Has w' (btS p bank sp N es Q :: l') -> Calls Tryz.prog 27 #[.pointer (some ⟨p, 0, none⟩), .int .i64 c] w' (HeldPost p bank sp (N + 1) es (x :: ts) l' w')) := fun w' l' h => by
   rw [<- Hc.out]
   exact tree_hold h HX.out.2.1 (List.mem_of_getElem? HXx.out.2.1) (by rw [Hc.out]; exact hc0) (by have := HX.out.2.2.2.1; omega)
  go_wp2_with fail
  refine (HHo.out _ _ H5.out).mono ?_
  rintro r w7 ⟨rfl, hK7, Q7, hg, h7⟩
  have Hg1 := Lib.hid (hg.perm (move_perm HX.out.2.2.2.2.2.1 x))
  have htt := h7.at (b := t) (o := .cells (treesC sp p (ts.map (·.a)) vs) 70 (0, 0)) (by simp [treesT])
  have q7 : w7.cell? ⟨t, 1, none⟩ = some (.pointer (some ⟨p, 0, none⟩)) := cell_of htt 1 rfl
  have lq7 := World.block_lt_of_cell? _ _ q7
  have HK7 := Lib.hid (HK4.out.trans hK7)
  have H7 := Lib.hid h7
  clear hK7 h7 HHo htt hg H5 q1 lq
  by_cases ha0 : a = 0
  ·skip
   have hg := Grove.less Hg1.out (by rw [Ha.out]; exact ha0)
   subst ha0
   have hh1 := H7.out
   have hh := Has.bt_more (show N + 1 <= N + 100 by omega) hh1
   have HG := Lib.hid hg
   have hKz := HK7.out
   have HKz := Lib.hid hKz
   clear hh1 hKz
   have hh := hh.swap
   have HH2 : Hid (Has w7 (treesT t sp p (ts.map (·.a)) vs :: btS p bank sp (N + 100) es Q7 :: (r0.map kvR ++ l))) := hh
   clear hh
   go_upto_region 27 with fail
   have hh := HH2.out
   clear HH2
   obtain ⟨FA, HFA⟩ : ∃ FA : List (Nat × Addr × Value), Hid (FA = []) := ⟨_, rfl⟩
   have hFA : ∀ p ∈ FA, w7.cell? p.2.1 = some p.2.2 := by rw [HFA.out]; exact fnil
   haveI neFA : ∀ k, Nonempty (In (factsOf FA k)) := fun k => ⟨⟨_, factsOf.drew hFA k⟩⟩
   refine ws_begin [0, 1, 2, 3, 4, 5, 6, 7, 8, 9, 10, 11, 12, 13] (factsOf FA) (treesT t sp p (ts.map (·.a)) vs :: btS p bank sp (N + 100) es Q7 :: (r0.map kvR ++ l)) #[0, 0, 0, 0, 0, 0, 1, 65, 211, 467, 4, 1028, 4095, 8191] (by kernel_rfl) (by kernel_rfl) (by kernel_rfl) factsOf.alloc (factsOf.drew hFA) hh ?_
   clear hFA
   iterate 9 (refine ws_q (at_lit rfl) rfl rfl rfl ?_; go_big_quiet_op; show WS _ _ _ _ _ _ _ _ _ _)
   refine ws_store_root (at_lit rfl) rfl rfl (.tmp 211) (.tmp 207) rfl rfl rfl HX.out.2.2.2.2.2.2.2.2.2 HX.out.2.2.1.vals hi4 (fun w' F hh => lives (l' := []) (by rw [HFA.out]; simp [liveFacts, Nat.testBit]) (fnil)) ?_
   simp only [Act.put, List.setIfInBounds_toArray, List.set_cons_zero, List.set_cons_succ]
   show WS _ _ _ _ _ _ _ _ _ _
   iterate 3 (refine ws_q (at_lit rfl) rfl rfl rfl ?_; go_big_quiet_op; show WS _ _ _ _ _ _ _ _ _ _)
   refine ws_store_list (at_lit rfl) rfl rfl (.tmp 214) (.tmp 208) rfl rfl rfl (by rw [List.length_set]; exact HX.out.2.2.2.2.2.2.2.2.2) HX.out.2.2.1.vals hi4 (fun w' F hh => lives (l' := []) (by rw [HFA.out]; simp [liveFacts, Nat.testBit]) (fnil)) ?_
   simp only [Act.put, List.setIfInBounds_toArray, List.set_cons_zero, List.set_cons_succ]
   show WS _ _ _ _ _ _ _ _ _ _
   refine ws_end ?_
   intro w9 hK9 h9
   have HF : Hid (StepOk es t sp p bank N ts l 3 tr key val w (.returned (.tuple #[.bool true, .bool false])) w9) := by
    obtain ⟨htab, hT, h4, hN, hs, hu, hv, hr, hua, hml⟩ := HX.out
    refine ⟨rfl, HKz.out.trans hK9, Q7, ts.set i x, vs.set i (.slice xq xn xc), r0, ⟨u, by rw [Hi.out]; exact hu, by rw [Hi.out]; exact .inr (.inr (.inl ⟨rfl, x, by rw [HXx.out.1]; exact HXx.out.2.1, rfl⟩))⟩, HG.out, h4.set i HRw.out.1 HRw.out.2, ?_⟩
    rw [roots_set, Hc.out]
    exact h9
   clear hK9 h9 hh HFA neFA FA HX HG HKz Hi Ha HRw Hc
   go_wp2
   go_ret2
   exact HF.out
  ·skip
   have hab : (a == 0) = false := by simpa using ha0
   have hab2 : decide (a = 0) = false := decide_eq_false ha0
   have HD : Hid (∀ w' l', Has w' (btS p bank sp (N + 1) es Q7 :: l') -> Calls Tryz.prog 28 #[.pointer (some ⟨p, 0, none⟩), .int .i64 a] w' (HeldPost p bank sp (N + 1) es (ts.set i x) l' w')) := fun w' l' h => by
    rw [<- Ha.out]
    exact tree_drop h Hg1.out (by rw [Ha.out]; exact ha0) (by have := HX.out.2.2.2.1; omega)
   go_wp2_with fail
   refine (HD.out _ _ H7.out).mono ?_
   rintro r w8 ⟨rfl, hK8, Q8, hg, h8⟩
   have HK8 := Lib.hid (HK7.out.trans hK8)
   have H8 := Lib.hid h8
   clear hK8 h8 HD
   have hh1 := H8.out
   have hh := Has.bt_more (show N + 1 <= N + 100 by omega) hh1
   have HG := Lib.hid hg
   have hKz := HK8.out
   have HKz := Lib.hid hKz
   clear hh1 hKz
   have hh := hh.swap
   have HH2 : Hid (Has w8 (treesT t sp p (ts.map (·.a)) vs :: btS p bank sp (N + 100) es Q8 :: (r0.map kvR ++ l))) := hh
   clear hh
   go_upto_region 27 with fail
   have hh := HH2.out
   clear HH2
   obtain ⟨FA, HFA⟩ : ∃ FA : List (Nat × Addr × Value), Hid (FA = []) := ⟨_, rfl⟩
   have hFA : ∀ p ∈ FA, w8.cell? p.2.1 = some p.2.2 := by rw [HFA.out]; exact fnil
   haveI neFA : ∀ k, Nonempty (In (factsOf FA k)) := fun k => ⟨⟨_, factsOf.drew hFA k⟩⟩
   refine ws_begin [0, 1, 2, 3, 4, 5, 6, 7, 8, 9, 10, 11, 12, 13] (factsOf FA) (treesT t sp p (ts.map (·.a)) vs :: btS p bank sp (N + 100) es Q8 :: (r0.map kvR ++ l)) #[0, 0, 0, 0, 0, 0, 1, 65, 211, 467, 4, 1028, 4095, 8191] (by kernel_rfl) (by kernel_rfl) (by kernel_rfl) factsOf.alloc (factsOf.drew hFA) hh ?_
   clear hFA
   iterate 9 (refine ws_q (at_lit rfl) rfl rfl rfl ?_; go_big_quiet_op; show WS _ _ _ _ _ _ _ _ _ _)
   refine ws_store_root (at_lit rfl) rfl rfl (.tmp 211) (.tmp 207) rfl rfl rfl HX.out.2.2.2.2.2.2.2.2.2 HX.out.2.2.1.vals hi4 (fun w' F hh => lives (l' := []) (by rw [HFA.out]; simp [liveFacts, Nat.testBit]) (fnil)) ?_
   simp only [Act.put, List.setIfInBounds_toArray, List.set_cons_zero, List.set_cons_succ]
   show WS _ _ _ _ _ _ _ _ _ _
   iterate 3 (refine ws_q (at_lit rfl) rfl rfl rfl ?_; go_big_quiet_op; show WS _ _ _ _ _ _ _ _ _ _)
   refine ws_store_list (at_lit rfl) rfl rfl (.tmp 214) (.tmp 208) rfl rfl rfl (by rw [List.length_set]; exact HX.out.2.2.2.2.2.2.2.2.2) HX.out.2.2.1.vals hi4 (fun w' F hh => lives (l' := []) (by rw [HFA.out]; simp [liveFacts, Nat.testBit]) (fnil)) ?_
   simp only [Act.put, List.setIfInBounds_toArray, List.set_cons_zero, List.set_cons_succ]
   show WS _ _ _ _ _ _ _ _ _ _
   refine ws_end ?_
   intro w9 hK9 h9
   have HF : Hid (StepOk es t sp p bank N ts l 3 tr key val w (.returned (.tuple #[.bool true, .bool false])) w9) := by
    obtain ⟨htab, hT, h4, hN, hs, hu, hv, hr, hua, hml⟩ := HX.out
    refine ⟨rfl, HKz.out.trans hK9, Q8, ts.set i x, vs.set i (.slice xq xn xc), r0, ⟨u, by rw [Hi.out]; exact hu, by rw [Hi.out]; exact .inr (.inr (.inl ⟨rfl, x, by rw [HXx.out.1]; exact HXx.out.2.1, rfl⟩))⟩, HG.out, h4.set i HRw.out.1 HRw.out.2, ?_⟩
    rw [roots_set, Hc.out]
    exact h9
   clear hK9 h9 hh HFA neFA FA HX HG HKz Hi Ha HRw Hc
   go_wp2
   go_ret2
   exact HF.out
/-
  The statements of layer 12: a call on a tree (step), of kind 4.
-/
set_option maxRecDepth 100000 in
theorem step_four {w : World} {l : List Say} {t sp p bank N : Nat} {es : List Ent} {Q : Pgs} {ts : List Tre} {vs : List Value} {rs : List (Value × List KV)} (tr key val : Int) (h : Has w (treesT t sp p (ts.map (·.a)) vs :: btS p bank sp N es Q :: (rs.map kvR ++ l))) (ht : Tab l) (hT : Grove Q ts) (h4 : Rows4 ts vs rs) (hN : N <= 150000) (hs : ∀ u ∈ ts, u.s <= 800000 /\ u.L.length <= 90000) :
  Calls Tryz.prog 46 #[.pointer (some ⟨t, 0, none⟩), .agg #[.int .i64 4, .int .i64 tr, .int .i64 key, .int .i64 val]] w (StepOk es t sp p bank N ts l 4 tr key val w) := by
 obtain ⟨u, v, hu, hv, hr⟩ := h4.at (mod4_lt tr)
 have hua : (ts.map (·.a))[mod4 tr]? = some u.a := by rw [List.getElem?_map, hu]; rfl
 have hml : (ts.map (·.a)).length = 4 := by rw [List.length_map]; exact h4.four
 have hA := (h.alloc (.cells #[.int .i64 4, .int .i64 tr, .int .i64 key, .int .i64 val] 83)).swap
 have HK : Hid (Kept w (w.alloc (.cells #[.int .i64 4, .int .i64 tr, .int .i64 key, .int .i64 val] 83))) := (Kept.refl w).alloc _
 have HMod : Hid (∀ w' : World, Calls Tryz.prog 52 #[.int .i64 tr] w' fun r w'' => r = .returned (.int .i64 (mod4 tr : Int)) /\ w' = w'') := fun w' => law_mod tr w'
 have HMod2 : Hid (∀ w' : World, Calls Tryz.prog 52 #[.int .i64 key] w' fun r w'' => r = .returned (.int .i64 (mod4 key : Int)) /\ w' = w'') := fun w' => law_mod key w'
 generalize hi : mod4 tr = i at *
 generalize hj : mod4 key = j at *
 have hj4 : j < 4 := by rw [<- hj]; exact mod4_lt key
 clear hj
 have hi4 : i < 4 := by rw [<- hi]; exact mod4_lt tr
 have Hi := Lib.hid hi
 have HX := Lib.hid (And.intro ht (And.intro hT (And.intro h4 (And.intro hN (And.intro hs (And.intro hu (And.intro hv (And.intro hr (And.intro hua hml)))))))))
 have HH := Lib.hid hA
 have iI : (i : Int) < 4 := by omega
 have i0 : (0 : Int) <= i := by omega
 clear h ht hT h4 hN hs hu hv hr hua hml hA hi
 go_enter Tryz.func46, Tryz.ntmps46
 go_upto_region 1 with fail
 generalize w.alloc (.cells #[.int .i64 4, .int .i64 tr, .int .i64 key, .int .i64 val] 83) = W at *
 generalize w.heap.size = b3 at *
 have hh := HH.out
 have hb := hh.tail.got
 have o0 : W.cell? ⟨b3, 0, none⟩ = some (.int .i64 4) := cell_of hb 0 rfl
 have o1 : W.cell? ⟨b3, 1, none⟩ = some (.int .i64 tr) := cell_of hb 1 rfl
 have o2 : W.cell? ⟨b3, 2, none⟩ = some (.int .i64 key) := cell_of hb 2 rfl
 have o3 : W.cell? ⟨b3, 3, none⟩ = some (.int .i64 val) := cell_of hb 3 rfl
 have lb := World.block_lt_of_cell? _ _ o0
 have t1 : W.cell? ⟨t, 1, none⟩ = some (.pointer (some ⟨p, 0, none⟩)) := cell_of hh.got 1 rfl
 have tr1 : W.cell? ⟨t, 2 + i, none⟩ = some (.int .i64 u.a) := cell_of hh.got _ (treesC_root HX.out.2.2.2.2.2.2.2.2.1)
 have lt := World.block_lt_of_cell? _ _ t1
 obtain ⟨a, ha⟩ : ∃ a, u.a = a := ⟨_, rfl⟩
 have Ha := Lib.hid ha
 rw [ha] at tr1
 clear hh hb ha
 have jI : (j : Int) < 4 := by omega
 have j0 : (0 : Int) <= j := by omega
 go_upto_region 23 with ((first | refine (HMod.out _).mono ?_ | refine (HMod2.out _).mono ?_); rintro r w1 ⟨rfl, rfl⟩)
 obtain ⟨x, hx⟩ : ∃ x, x = noTre := ⟨_, rfl⟩
 obtain ⟨c, hc⟩ : ∃ c : Int, c = 0 := ⟨_, rfl⟩
 have Hc : Hid (x.a = c) := by show _ = _; rw [hx, hc]; rfl
 have hh := HH.out
 obtain ⟨r0, hr0⟩ : ∃ r0, r0 = (Value.slice none 0 0, ([] : List KV)) :: rs := ⟨_, rfl⟩
 have H4 : Hid (Has W (btS p bank sp N es Q :: treesT t sp p (ts.map (·.a)) vs :: (r0.map kvR ++ l)) /\ (∀ r ∈ rs, r ∈ r0) /\ (Value.slice none 0 0, x.L) ∈ r0) := by
  subst hr0 hx
  have h5 : Has W (treesT t sp p (ts.map (·.a)) vs :: btS p bank sp N es Q :: (rs.map kvR ++ l)) := Has.skip (A := [_]) (M := [_]) hh
  have h6 : Has W (kvS (.slice none 0 0) [] :: treesT t sp p (ts.map (·.a)) vs :: btS p bank sp N es Q :: (rs.map kvR ++ l)) := h5.row_nil _ _
  exact ⟨h6.reord [2, 1], fun r h => .tail _ h, .head _⟩
 have Hx0 := Lib.hid hx
 subst hc
 have HK4 := HK
 have q1 := t1
 have lq := lt
 clear hh HH o1 o2 o3 t1 tr1 lb lt HMod HMod2 HK hr0 hx
 obtain ⟨H5, hsub, hrow⟩ := H4.out
 have HRw := Lib.hid (And.intro hsub hrow)
 have H5 := Lib.hid H5
 clear H4 hsub hrow
 have Hg1 : Hid (Grove Q (u :: ts.set i x)) := by
  have h1 := (Grove.more HX.out.2.1).perm (move_perm HX.out.2.2.2.2.2.1 noTre)
  rw [Hx0.out]
  exact h1
 by_cases ha0 : a = 0
 ·skip
  have hg := Grove.less Hg1.out (by rw [Ha.out]; exact ha0)
  subst ha0
  have hh1 := H5.out
  have hh := Has.bt_more (show N <= N + 100 by omega) hh1
  have HG := Lib.hid hg
  have hKz := HK4.out
  have HKz := Lib.hid hKz
  clear hh1 hKz
  have hh := hh.swap
  have HH2 : Hid (Has W (treesT t sp p (ts.map (·.a)) vs :: btS p bank sp (N + 100) es Q :: (r0.map kvR ++ l))) := hh
  clear hh
  go_upto_region 27 with fail
  have hh := HH2.out
  clear HH2
  obtain ⟨FA, HFA⟩ : ∃ FA : List (Nat × Addr × Value), Hid (FA = []) := ⟨_, rfl⟩
  have hFA : ∀ p ∈ FA, W.cell? p.2.1 = some p.2.2 := by rw [HFA.out]; exact fnil
  haveI neFA : ∀ k, Nonempty (In (factsOf FA k)) := fun k => ⟨⟨_, factsOf.drew hFA k⟩⟩
  refine ws_begin [0, 1, 2, 3, 4, 5, 6, 7, 8, 9, 10, 11, 12, 13] (factsOf FA) (treesT t sp p (ts.map (·.a)) vs :: btS p bank sp (N + 100) es Q :: (r0.map kvR ++ l)) #[0, 0, 0, 0, 0, 0, 1, 65, 211, 467, 4, 1028, 4095, 8191] (by kernel_rfl) (by kernel_rfl) (by kernel_rfl) factsOf.alloc (factsOf.drew hFA) hh ?_
  clear hFA
  iterate 9 (refine ws_q (at_lit rfl) rfl rfl rfl ?_; go_big_quiet_op; show WS _ _ _ _ _ _ _ _ _ _)
  refine ws_store_root (at_lit rfl) rfl rfl (.tmp 211) (.tmp 207) rfl rfl rfl HX.out.2.2.2.2.2.2.2.2.2 HX.out.2.2.1.vals hi4 (fun w' F hh => lives (l' := []) (by rw [HFA.out]; simp [liveFacts, Nat.testBit]) (fnil)) ?_
  simp only [Act.put, List.setIfInBounds_toArray, List.set_cons_zero, List.set_cons_succ]
  show WS _ _ _ _ _ _ _ _ _ _
  iterate 3 (refine ws_q (at_lit rfl) rfl rfl rfl ?_; go_big_quiet_op; show WS _ _ _ _ _ _ _ _ _ _)
  refine ws_store_list (at_lit rfl) rfl rfl (.tmp 214) (.tmp 208) rfl rfl rfl (by rw [List.length_set]; exact HX.out.2.2.2.2.2.2.2.2.2) HX.out.2.2.1.vals hi4 (fun w' F hh => lives (l' := []) (by rw [HFA.out]; simp [liveFacts, Nat.testBit]) (fnil)) ?_
  simp only [Act.put, List.setIfInBounds_toArray, List.set_cons_zero, List.set_cons_succ]
  show WS _ _ _ _ _ _ _ _ _ _
  refine ws_end ?_
  intro w9 hK9 h9
  have HF : Hid (StepOk es t sp p bank N ts l 4 tr key val w (.returned (.tuple #[.bool true, .bool false])) w9) := by
   obtain ⟨htab, hT, h4, hN, hs, hu, hv, hr, hua, hml⟩ := HX.out
   refine ⟨rfl, HKz.out.trans hK9, Q, ts.set i x, vs.set i (.slice none 0 0), r0, ⟨u, by rw [Hi.out]; exact hu, by rw [Hi.out]; exact .inr (.inr (.inr (.inl ⟨rfl, by rw [Hx0.out]⟩)))⟩, HG.out, h4.set i HRw.out.1 HRw.out.2, ?_⟩
   rw [roots_set, Hc.out]
   exact h9
  clear hK9 h9 hh HFA neFA FA HX HG HKz Hi Ha HRw Hc
  go_wp2
  go_ret2
  exact HF.out
 ·skip
  have hab : (a == 0) = false := by simpa using ha0
  have hab2 : decide (a = 0) = false := decide_eq_false ha0
  have HD : Hid (∀ w' l', Has w' (btS p bank sp (N) es Q :: l') -> Calls Tryz.prog 28 #[.pointer (some ⟨p, 0, none⟩), .int .i64 a] w' (HeldPost p bank sp (N) es (ts.set i x) l' w')) := fun w' l' h => by
   rw [<- Ha.out]
   exact tree_drop h Hg1.out (by rw [Ha.out]; exact ha0) (by have := HX.out.2.2.2.1; omega)
  go_wp2_with fail
  refine (HD.out _ _ H5.out).mono ?_
  rintro r w8 ⟨rfl, hK8, Q8, hg, h8⟩
  have HK8 := Lib.hid (HK4.out.trans hK8)
  have H8 := Lib.hid h8
  clear hK8 h8 HD
  have hh1 := H8.out
  have hh := Has.bt_more (show N <= N + 100 by omega) hh1
  have HG := Lib.hid hg
  have hKz := HK8.out
  have HKz := Lib.hid hKz
  clear hh1 hKz
  have hh := hh.swap
  have HH2 : Hid (Has w8 (treesT t sp p (ts.map (·.a)) vs :: btS p bank sp (N + 100) es Q8 :: (r0.map kvR ++ l))) := hh
  clear hh
  go_upto_region 27 with fail
  have hh := HH2.out
  clear HH2
  obtain ⟨FA, HFA⟩ : ∃ FA : List (Nat × Addr × Value), Hid (FA = []) := ⟨_, rfl⟩
  have hFA : ∀ p ∈ FA, w8.cell? p.2.1 = some p.2.2 := by rw [HFA.out]; exact fnil
  haveI neFA : ∀ k, Nonempty (In (factsOf FA k)) := fun k => ⟨⟨_, factsOf.drew hFA k⟩⟩
  refine ws_begin [0, 1, 2, 3, 4, 5, 6, 7, 8, 9, 10, 11, 12, 13] (factsOf FA) (treesT t sp p (ts.map (·.a)) vs :: btS p bank sp (N + 100) es Q8 :: (r0.map kvR ++ l)) #[0, 0, 0, 0, 0, 0, 1, 65, 211, 467, 4, 1028, 4095, 8191] (by kernel_rfl) (by kernel_rfl) (by kernel_rfl) factsOf.alloc (factsOf.drew hFA) hh ?_
  clear hFA
  iterate 9 (refine ws_q (at_lit rfl) rfl rfl rfl ?_; go_big_quiet_op; show WS _ _ _ _ _ _ _ _ _ _)
  refine ws_store_root (at_lit rfl) rfl rfl (.tmp 211) (.tmp 207) rfl rfl rfl HX.out.2.2.2.2.2.2.2.2.2 HX.out.2.2.1.vals hi4 (fun w' F hh => lives (l' := []) (by rw [HFA.out]; simp [liveFacts, Nat.testBit]) (fnil)) ?_
  simp only [Act.put, List.setIfInBounds_toArray, List.set_cons_zero, List.set_cons_succ]
  show WS _ _ _ _ _ _ _ _ _ _
  iterate 3 (refine ws_q (at_lit rfl) rfl rfl rfl ?_; go_big_quiet_op; show WS _ _ _ _ _ _ _ _ _ _)
  refine ws_store_list (at_lit rfl) rfl rfl (.tmp 214) (.tmp 208) rfl rfl rfl (by rw [List.length_set]; exact HX.out.2.2.2.2.2.2.2.2.2) HX.out.2.2.1.vals hi4 (fun w' F hh => lives (l' := []) (by rw [HFA.out]; simp [liveFacts, Nat.testBit]) (fnil)) ?_
  simp only [Act.put, List.setIfInBounds_toArray, List.set_cons_zero, List.set_cons_succ]
  show WS _ _ _ _ _ _ _ _ _ _
  refine ws_end ?_
  intro w9 hK9 h9
  have HF : Hid (StepOk es t sp p bank N ts l 4 tr key val w (.returned (.tuple #[.bool true, .bool false])) w9) := by
   obtain ⟨htab, hT, h4, hN, hs, hu, hv, hr, hua, hml⟩ := HX.out
   refine ⟨rfl, HKz.out.trans hK9, Q8, ts.set i x, vs.set i (.slice none 0 0), r0, ⟨u, by rw [Hi.out]; exact hu, by rw [Hi.out]; exact .inr (.inr (.inr (.inl ⟨rfl, by rw [Hx0.out]⟩)))⟩, HG.out, h4.set i HRw.out.1 HRw.out.2, ?_⟩
   rw [roots_set, Hc.out]
   exact h9
  clear hK9 h9 hh HFA neFA FA HX HG HKz Hi Ha HRw Hc
  go_wp2
  go_ret2
  exact HF.out
/-
  The statements of layer 12: a call on a tree (step), of no kind.
-/
set_option maxRecDepth 100000 in
theorem step_other {w : World} {l : List Say} {t sp p bank N : Nat} {es : List Ent} {Q : Pgs} {ts : List Tre} {vs : List Value} {rs : List (Value × List KV)} (kd tr key val : Int) (h : Has w (treesT t sp p (ts.map (·.a)) vs :: btS p bank sp N es Q :: (rs.map kvR ++ l))) (ht : Tab l) (hT : Grove Q ts) (h4 : Rows4 ts vs rs) (hN : N <= 150000) (hs : ∀ u ∈ ts, u.s <= 800000 /\ u.L.length <= 90000) (hp : kd ≠ 1 /\ kd ≠ 2 /\ kd ≠ 3 /\ kd ≠ 4) :
  Calls Tryz.prog 46 #[.pointer (some ⟨t, 0, none⟩), .agg #[.int .i64 kd, .int .i64 tr, .int .i64 key, .int .i64 val]] w (StepOk es t sp p bank N ts l kd tr key val w) := by
 obtain ⟨u, v, hu, hv, hr⟩ := h4.at (mod4_lt tr)
 have hua : (ts.map (·.a))[mod4 tr]? = some u.a := by rw [List.getElem?_map, hu]; rfl
 have hml : (ts.map (·.a)).length = 4 := by rw [List.length_map]; exact h4.four
 have hA := (h.alloc (.cells #[.int .i64 kd, .int .i64 tr, .int .i64 key, .int .i64 val] 83)).swap
 have HK : Hid (Kept w (w.alloc (.cells #[.int .i64 kd, .int .i64 tr, .int .i64 key, .int .i64 val] 83))) := (Kept.refl w).alloc _
 have HMod : Hid (∀ w' : World, Calls Tryz.prog 52 #[.int .i64 tr] w' fun r w'' => r = .returned (.int .i64 (mod4 tr : Int)) /\ w' = w'') := fun w' => law_mod tr w'
 generalize hi : mod4 tr = i at *
 have hi4 : i < 4 := by rw [<- hi]; exact mod4_lt tr
 have Hi := Lib.hid hi
 have HX := Lib.hid (And.intro ht (And.intro hT (And.intro h4 (And.intro hN (And.intro hs (And.intro hu (And.intro hv (And.intro hr (And.intro hua hml)))))))))
 have HH := Lib.hid hA
 have iI : (i : Int) < 4 := by omega
 have i0 : (0 : Int) <= i := by omega
 clear h ht hT h4 hN hs hu hv hr hua hml hA hi
 go_enter Tryz.func46, Tryz.ntmps46
 go_upto_region 1 with fail
 generalize w.alloc (.cells #[.int .i64 kd, .int .i64 tr, .int .i64 key, .int .i64 val] 83) = W at *
 generalize w.heap.size = b3 at *
 have hh := HH.out
 have hb := hh.tail.got
 have o0 : W.cell? ⟨b3, 0, none⟩ = some (.int .i64 kd) := cell_of hb 0 rfl
 have o1 : W.cell? ⟨b3, 1, none⟩ = some (.int .i64 tr) := cell_of hb 1 rfl
 have o2 : W.cell? ⟨b3, 2, none⟩ = some (.int .i64 key) := cell_of hb 2 rfl
 have o3 : W.cell? ⟨b3, 3, none⟩ = some (.int .i64 val) := cell_of hb 3 rfl
 have lb := World.block_lt_of_cell? _ _ o0
 have t1 : W.cell? ⟨t, 1, none⟩ = some (.pointer (some ⟨p, 0, none⟩)) := cell_of hh.got 1 rfl
 have tr1 : W.cell? ⟨t, 2 + i, none⟩ = some (.int .i64 u.a) := cell_of hh.got _ (treesC_root HX.out.2.2.2.2.2.2.2.2.1)
 have lt := World.block_lt_of_cell? _ _ t1
 obtain ⟨a, ha⟩ : ∃ a, u.a = a := ⟨_, rfl⟩
 have Ha := Lib.hid ha
 rw [ha] at tr1
 clear hh hb ha
 have hb1 : (kd == 1) = false := by simpa using hp.1
 have hb2 : (kd == 2) = false := by simpa using hp.2.1
 have hb3 : (kd == 3) = false := by simpa using hp.2.2.1
 have hb4 : (kd == 4) = false := by simpa using hp.2.2.2
 have HF : Hid (StepOk es t sp p bank N ts l kd tr key val w (.returned (.tuple #[.bool true, .bool false])) W) := by
  obtain ⟨htab, hT, h4, hN, hs, hu, hv, hr, hua, hml⟩ := HX.out
  refine ⟨rfl, HK.out, Q, ts, vs, rs, ⟨u, by rw [Hi.out]; exact hu, .inr (.inr (.inr (.inr ⟨.inr (.inr hp), rfl⟩)))⟩, hT, h4, ?_⟩
  exact (Has.bt_more (Nat.le_add_right N 100) ((HH.out.reord [2, 0]) |> fun h => Has.skip (A := [_, _]) (M := [_]) h)).swap
 clear HX HH HK Hi Ha hp
 go_wp2_with (refine (HMod.out _).mono ?_; rintro r w1 ⟨rfl, rfl⟩)
 go_ret2
 exact HF.out
/-
  The statements of layer 12: a call on a tree (step).
-/
theorem law_step {w : World} {l : List Say} {t sp p bank N : Nat} {es : List Ent} {Q : Pgs} {ts : List Tre} {vs : List Value} {rs : List (Value × List KV)} (kd tr key val : Int) (h : Has w (treesT t sp p (ts.map (·.a)) vs :: btS p bank sp N es Q :: (rs.map kvR ++ l))) (ht : Tab l) (hT : Grove Q ts) (h4 : Rows4 ts vs rs) (hN : N <= 150000) (hs : ∀ u ∈ ts, u.s <= 800000 /\ u.L.length <= 90000) :
  Calls Tryz.prog 46 #[.pointer (some ⟨t, 0, none⟩), .agg #[.int .i64 kd, .int .i64 tr, .int .i64 key, .int .i64 val]] w (fun r w' => StepOk es t sp p bank N ts l kd tr key val w r w' \/ StepFull es Q t sp p bank N ts vs rs l w r w') := by
 by_cases h1 : kd = 1
 ·subst h1
  cases hp : pairOk key val with
  | false => exact (step_bad tr key val h ht hT h4 hN hs hp).mono fun _ _ => .inl
  | true => exact step_set tr key val h ht hT h4 hN hs hp
 by_cases h2 : kd = 2
 ·subst h2
  obtain ⟨u, v, hu, _, _⟩ := h4.at (mod4_lt tr)
  cases hp : getK u.L key with
  | none => exact (step_none tr key val h ht hT h4 hN hs fun u' hu' => by rw [hu] at hu'; obtain rfl := Option.some.inj hu'; exact hp).mono fun _ _ => .inl
  | some x => exact step_del tr key val h ht hT h4 hN hs fun u' hu' => by rw [hu] at hu'; obtain rfl := Option.some.inj hu'; exact ⟨x, hp⟩
 by_cases h3 : kd = 3
 ·subst h3
  exact (step_three tr key val h ht hT h4 hN hs).mono fun _ _ => .inl
 by_cases h4' : kd = 4
 ·subst h4'
  exact (step_four tr key val h ht hT h4 hN hs).mono fun _ _ => .inl
 exact (step_other kd tr key val h ht hT h4 hN hs ⟨h1, h2, h3, h4'⟩).mono fun _ _ => .inl
theorem weighs_le {B : Nat} : ∀ {ts : List Tre}, (∀ u ∈ ts, u.s <= B) -> weighs ts <= ts.length * B
 | [], _ => Nat.zero_le _
 | t :: ts, h => by
  have h1 := h t (.head _)
  have h2 := weighs_le (ts := ts) fun u hu => h u (.tail _ hu)
  show t.s + weighs ts <= (ts.length + 1) * B
  rw [Nat.add_mul]
  omega
end Go.Proofs.YtgbgneiciabidaaGreatDoor
