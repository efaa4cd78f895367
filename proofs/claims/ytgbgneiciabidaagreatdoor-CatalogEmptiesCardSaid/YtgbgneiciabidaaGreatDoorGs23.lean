/-
  Plain: slices.Replace at pairs, in the midst, by none or one.
-/
import Derived.Test.YtgbgneiciabidaaGreatDoorGs22
import Derived.Lib.Overlaps
namespace Go.Proofs.YtgbgneiciabidaaGreatDoor
open Go Go.RowKit
set_option linter.all false
set_option maxHeartbeats 8000000
set_option maxRecDepth 100000 in
theorem sl_Rep_one {w : World} {l : List Say} (ps qs : List (Int × Int)) {g cap bx cx : Nat} {cur cv : Array Value} (i : Nat) (hi : i + 1 < ps.length) (hl : ps.length <= 100) (hqs : qs.length = 1) (hcap : ps.length <= cap) (hcm : cap <= maxLen) (hcs : cur.size = cap * 2) (htk : cur.toList.take (ps.length * 2) = ps.flatMap pairCells) (hcx : 1 <= cx) (hvt : cv.toList.take (qs.length * 2) = qs.flatMap pairCells)
  (hh : Has w (pts g (.cells cur 87 (0, 0)) :: pts bx (.cells cv 87 (0, 0)) :: l)) :
  Calls Tryz.prog 238 #[.slice (some ⟨g, 0, none⟩) ps.length cap, .int .i64 i, .int .i64 ((i : Int) + 1), .slice (some ⟨bx, 0, none⟩) 1 cx] w (PairsPost (repP ps i qs) l w) := by
 obtain ⟨i0, I1, I2, I3, I4⟩ := info_parts info_pair
 obtain ⟨d, hd⟩ : ∃ d, ps.length = i + 1 + (d + 1) := ⟨ps.length - (i + 2), by omega⟩
 obtain ⟨F, hF⟩ : ∃ F, F = ps.flatMap pairCells := ⟨_, rfl⟩
 obtain ⟨G, hG⟩ : ∃ G, G = qs.flatMap pairCells := ⟨_, rfl⟩
 have hFl : F.length = (i + 1 + (d + 1)) * 2 := by rw [hF, flat_len2, hd]
 have hGl : G.length = 1 * 2 := by rw [hG, flat_len2, hqs]
 have hF1 : ∀ u ∈ F, u.oneCell' = true := by rw [hF]; exact flat_one ps
 have hG1 : ∀ u ∈ G, u.oneCell' = true := by rw [hG]; exact flat_one qs
 have hCl : cur.toList.length = cap * 2 := by rw [Array.length_toList]; exact hcs
 have hC : ∀ k, k < (i + 1 + (d + 1)) * 2 -> cur.toList[k]? = F[k]? := fun k hk => by
  rw [hF, <- htk, List.getElem?_take, if_pos (by rw [hd]; omega)]
 have HF : Hid ((repP ps i qs).flatMap pairCells = F.take (i * 2) ++ G ++ F.drop ((i + 1) * 2) /\ (repP ps i qs).length = i + (d + 1) + 1) := by
  refine ⟨by rw [repP_flat, hF, hG], ?_⟩
  rw [repP_len _ _ _ (by omega), hqs, hd]; omega
 rw [hd] at hcap ⊢
 have HV : Hid (∀ j u, G[j]? = some u -> cv[j]? = some u) := fun j u hu => by
  rw [hG, <- hvt, List.getElem?_take] at hu
  split at hu
  ·simpa using hu
  ·cases hu
 clear hvt
 clear hF hG htk hi hqs
 generalize repP ps i qs = R at *
 have hiN : i + d + 2 <= 100 := by omega
 clear hd hl
 have HC := Lib.hid hC
 have HFl := Lib.hid hFl
 have HGl := Lib.hid hGl
 have HCl := Lib.hid hCl
 have HF1 := Lib.hid hF1
 have HG1 := Lib.hid hG1
 have HH := Lib.hid hh
 have HD : Hid ((F.drop ((i + 1) * 2)).length = (d + 1) * 2) := by show _ = _; rw [List.length_drop, hFl]; omega
 have HD1 : Hid (∀ u ∈ F.drop ((i + 1) * 2), u.oneCell' = true) := fun u hu => hF1 u (List.mem_of_mem_drop hu)
 have HCs := Lib.hid hcs
 have HCm := Lib.hid hcm
 have iI : (i : Int) + d + 2 <= 100 := by omega
 have i0I : (0 : Int) <= i := by omega
 have d0I : (0 : Int) <= d := by omega
 have cI : (i : Int) + d + 2 <= (cap : Int) := by omega
 have cM : (cap : Int) <= 9223372036854775807 := by simp [maxLen] at hcm; omega
 clear hh hC hFl hGl hCl hF1 hG1 hcs hcm
 go_enter Tryz.func238, Tryz.ntmps238
 go_upto_region 17 with (go_quiet (fail))
 have hh := HH.out.drewN nq
 have hk := (Kept.refl w).drewN nq
 generalize w.drewN nq = V at *
 have hgl := HGl.out
 have hsz := HCs.out
 have hrun := run_copy_rowN (P := Tryz.prog) V 75 75 3 87 2 g (i * 2) (i + 1 + (d + 1) - i) (cap - i) ⟨bx, 0, none⟩ 1 cx cur 87 G Tryz.underlying75 (by rw [I1]; simp [I3]) hh.got (by rw [hgl]; show _ = Nat.min _ _ * 2; simp only [Nat.min_def]; split <;> omega)
  (fun j u hu => by rw [Addr.add_lit, Nat.zero_add]; exact cell_of hh.tail.got j (HV.out j u hu)) (by rw [hgl, hsz]; omega) HG1.out
 obtain ⟨cur1, hc1⟩ : ∃ cur1 : Array Value, cur1 = (ovr cur.toList (i * 2) G).toArray := ⟨_, rfl⟩
 have hc1' : (cur.toList.take (i * 2) ++ G ++ cur.toList.drop (i * 2 + G.length)).toArray = cur1 := hc1.symm
 rw [hc1'] at hrun
 have h2 := Has.setRow hh cur1
 have hk2 := hk.setRow g cur1
 have H1 : Hid (cur1.toList = ovr cur.toList (i * 2) G /\ cur1.size = cap * 2) := by
  refine ⟨by rw [hc1], ?_⟩
  rw [<- Array.length_toList, hc1]
  show (ovr _ _ _).length = _
  rw [len_ovr _ _ _ (by rw [hgl, HCl.out]; omega), HCl.out]
 have H2 := Lib.hid h2
 have HK2 := Lib.hid hk2
 clear hh hk h2 hk2 hc1 hc1' hgl hsz HH
 go_upto_region 18 with (at_builtin; refine wpList_copy_run rfl (.tmp 95) (.tmp 96) 75 75 rfl _ _ rfl rfl hrun ?_)
 clear hrun
 have h2 := H2.out
 clear H2
 generalize V.setRow g cur1 = V2 at *
 have Hs : Hid (∀ w' : World, w'.heap[g]? = some (.cells cur1 87 (0, 0)) -> ∀ j u, (F.drop ((i + 1) * 2))[j]? = some u -> w'.cell? ((⟨g, (i + 1) * 2, none⟩ : Addr).add j) = some u) := fun w' hg j u hu => by
  rw [Addr.add_lit]
  refine cell_of hg _ ?_
  have hfl := HFl.out
  have hgl := HGl.out
  have hcl := HCl.out
  have hlt := (List.getElem?_eq_some_iff.1 hu).1
  rw [HD.out] at hlt
  rw [<- Array.getElem?_toList, H1.out.1, get_ovr _ _ _ (by rw [hgl, hcl]; omega), if_neg (by omega), if_neg (by rw [hgl]; omega), HC.out _ (by omega)]
  rwa [List.getElem?_drop] at hu
 obtain ⟨FA, HFA⟩ : ∃ FA : List (Nat × Addr × Value), Hid (FA = []) := ⟨_, rfl⟩
 have hFA : ∀ p ∈ FA, V2.cell? p.2.1 = some p.2.2 := by rw [HFA.out]; exact fnil
 haveI neFA : ∀ k, Nonempty (In (factsOf FA k)) := fun k => ⟨⟨_, factsOf.drew hFA k⟩⟩
 refine ws_begin [0, 1, 2, 3, 4, 5, 6, 7, 8, 9] (factsOf FA) (pts g (.cells cur1 87 (0, 0)) :: pts bx (.cells cv 87 (0, 0)) :: l) #[0, 0, 0, 4, 14, 31, 0, 0, 192, 511] (by kernel_rfl) (by kernel_rfl) (by kernel_rfl) factsOf.alloc (factsOf.drew hFA) h2 ?_
 clear hFA
 iterate 3 (refine ws_q (at_lit rfl) rfl rfl rfl ?_; go_big_quiet_op; show WS _ _ _ _ _ _ _ _ _ _)
 refine ws_len (at_lit rfl) rfl rfl (.tmp 100) 75 rfl Tryz.underlying75 _ _ _ rfl ?_
 simp only [Act.put, List.setIfInBounds_toArray, List.set_cons_zero, List.set_cons_succ]
 show WS _ _ _ _ _ _ _ _ _ _
 iterate 5 (refine ws_q (at_lit rfl) rfl rfl rfl ?_; go_big_quiet_op; show WS _ _ _ _ _ _ _ _ _ _)
 refine ws_copy_in (at_lit rfl) rfl rfl (.tmp 103) (.tmp 106) 75 rfl 87 2 Tryz.underlying75 (by rw [I1]; simp [I3]) rfl ⟨g, (i + 1) * 2, none⟩ _ _ (F.drop ((i + 1) * 2)) rfl (by rw [HD.out]; show _ = Nat.min _ _ * 2; simp only [Nat.min_def]; split <;> omega) (fun w' F' hh => ?_) HD1.out (by rw [HD.out, H1.out.2]; omega) (fun w' F' hh => lives (l' := []) (by rw [HFA.out]; simp [liveFacts, Nat.testBit]) fnil) ?_
 ·exact Hs.out w' hh.got
 simp only [Act.put, List.setIfInBounds_toArray, List.set_cons_zero, List.set_cons_succ]
 show WS _ _ _ _ _ _ _ _ _ _
 refine ws_end ?_
 intro w9 hK9 h9
 clear HFA neFA FA h2
 obtain ⟨cur2, hc2⟩ : ∃ cur2 : Array Value, cur2 = (ovr cur1.toList ((i + 1) * 2) (F.drop ((i + 1) * 2))).toArray := ⟨_, rfl⟩
 have h9' : Has w9 (pts g (.cells cur2 87 (0, 0)) :: pts bx (.cells cv 87 (0, 0)) :: l) := by rw [hc2]; exact h9
 have hrun := run_clear_no (P := Tryz.prog) w9 75 87 0 Tryz.underlying75 (some ⟨g, (i + 1 + (d + 1)) * 2, none⟩) (cap - (i + 1 + (d + 1)))
 have HF2 : Hid (PairsPost R l w (.returned (.slice (some ⟨g, 0, none⟩) (i + 1 + (d + 1)) cap)) w9) := by
  have hfl := HFl.out
  have hgl := HGl.out
  have hcl := HCl.out
  have hdl := HD.out
  obtain ⟨h1l, h1s⟩ := H1.out
  have h1n : cur1.toList.length = cap * 2 := by rw [Array.length_toList]; exact h1s
  have hc2l : cur2.toList = ovr cur1.toList ((i + 1) * 2) (F.drop ((i + 1) * 2)) := by rw [hc2]
  have hc2s : cur2.size = cap * 2 := by rw [<- Array.length_toList, hc2l, len_ovr _ _ _ (by omega), h1n]
  refine ⟨_, rfl, HK2.out.trans hK9, ?_⟩
  unfold pairsS
  rw [HF.out.2, show i + (d + 1) + 1 = i + 1 + (d + 1) by omega]
  refine Has.tail (A := pts bx (.cells cv 87 (0, 0))) (Has.swap (h9'.row_of_pts ?_ hcap HCm.out hc2s ?_))
  ·rw [HF.out.1, len_rep F G i d 1 hfl hgl]; omega
  ·rw [HF.out.1]
   refine take_of_get (by rw [len_rep F G i d 1 hfl hgl]; omega) fun k hk => ?_
   rw [get_rep F G i d 1 hfl hgl, hc2l, get_ovr _ _ _ (by omega), h1l, get_ovr _ _ _ (by omega)]
   by_cases k1 : k < i * 2
   ·rw [if_pos (by omega), if_pos k1, if_pos k1, HC.out k (by omega)]
   ·by_cases k2 : k < i * 2 + 1 * 2
    ·rw [if_pos (by omega), if_neg k1, if_pos (by omega), if_neg k1, if_pos k2]
    ·rw [if_neg (by omega), if_pos (by omega), if_neg k1, if_neg k2, List.getElem?_drop]
     congr 1; omega
 clear h9 h9' hc2 HF HC HFl HGl HCl HF1 HG1 HD HD1 HCs HCm H1 HK2 Hs HV hK9
 have hrun0 := run_clear_no (P := Tryz.prog) w9 75 87 0 Tryz.underlying75 (some ⟨g, 0, none⟩) 0
 go_wp2
 all_goals go_ret
 all_goals first | exact HF2.out | (have hq := HF2.out; rw [‹cap = i + 1 + (d + 1)›] at hq; exact hq)
set_option maxRecDepth 100000 in
theorem sl_Rep_none {w : World} {l : List Say} (ps qs : List (Int × Int)) {g cap cx : Nat} {cur : Array Value} (i : Nat) (hi : i + 1 < ps.length) (hl : ps.length <= 100) (hqs : qs.length = 0) (hcap : ps.length <= cap) (hcm : cap <= maxLen) (hcs : cur.size = cap * 2) (htk : cur.toList.take (ps.length * 2) = ps.flatMap pairCells)
  (hh : Has w (pts g (.cells cur 87 (0, 0)) :: l)) (va : Option Addr) :
  Calls Tryz.prog 238 #[.slice (some ⟨g, 0, none⟩) ps.length cap, .int .i64 i, .int .i64 ((i : Int) + 1), .slice va 0 cx] w (PairsPost (repP ps i qs) l w) := by
 obtain ⟨i0, I1, I2, I3, I4⟩ := info_parts info_pair
 obtain ⟨d, hd⟩ : ∃ d, ps.length = i + 1 + (d + 1) := ⟨ps.length - (i + 2), by omega⟩
 obtain ⟨F, hF⟩ : ∃ F, F = ps.flatMap pairCells := ⟨_, rfl⟩
 obtain ⟨G, hG⟩ : ∃ G, G = qs.flatMap pairCells := ⟨_, rfl⟩
 have hFl : F.length = (i + 1 + (d + 1)) * 2 := by rw [hF, flat_len2, hd]
 have hGl : G.length = 0 * 2 := by rw [hG, flat_len2, hqs]
 have hF1 : ∀ u ∈ F, u.oneCell' = true := by rw [hF]; exact flat_one ps
 have hG1 : ∀ u ∈ G, u.oneCell' = true := by rw [hG]; exact flat_one qs
 have hCl : cur.toList.length = cap * 2 := by rw [Array.length_toList]; exact hcs
 have hC : ∀ k, k < (i + 1 + (d + 1)) * 2 -> cur.toList[k]? = F[k]? := fun k hk => by
  rw [hF, <- htk, List.getElem?_take, if_pos (by rw [hd]; omega)]
 have HF : Hid ((repP ps i qs).flatMap pairCells = F.take (i * 2) ++ G ++ F.drop ((i + 1) * 2) /\ (repP ps i qs).length = i + (d + 1) + 0) := by
  refine ⟨by rw [repP_flat, hF, hG], ?_⟩
  rw [repP_len _ _ _ (by omega), hqs, hd]; omega
 rw [hd] at hcap ⊢
 clear hF hG htk hi hqs
 generalize repP ps i qs = R at *
 have hiN : i + d + 2 <= 100 := by omega
 clear hd hl
 have HC := Lib.hid hC
 have HFl := Lib.hid hFl
 have HGl := Lib.hid hGl
 have HCl := Lib.hid hCl
 have HF1 := Lib.hid hF1
 have HG1 := Lib.hid hG1
 have HH := Lib.hid hh
 have HD : Hid ((F.drop ((i + 1) * 2)).length = (d + 1) * 2) := by show _ = _; rw [List.length_drop, hFl]; omega
 have HD1 : Hid (∀ u ∈ F.drop ((i + 1) * 2), u.oneCell' = true) := fun u hu => hF1 u (List.mem_of_mem_drop hu)
 have HCs := Lib.hid hcs
 have HCm := Lib.hid hcm
 have iI : (i : Int) + d + 2 <= 100 := by omega
 have i0I : (0 : Int) <= i := by omega
 have d0I : (0 : Int) <= d := by omega
 have cI : (i : Int) + d + 2 <= (cap : Int) := by omega
 have cM : (cap : Int) <= 9223372036854775807 := by simp [maxLen] at hcm; omega
 clear hh hC hFl hGl hCl hF1 hG1 hcs hcm
 go_enter Tryz.func238, Tryz.ntmps238
 go_upto_region 17 with (go_quiet (fail))
 have h2 := HH.out.drewN nq
 have HK2 := Lib.hid ((Kept.refl w).drewN nq)
 generalize w.drewN nq = V at *
 have hrun := fun (L C D : Nat) => run_copy_no (P := Tryz.prog) V 75 75 3 87 2 (some ⟨g, i * 2, none⟩) va L C D Tryz.underlying75 (by rw [I1]; simp [I3])
 clear HH
 have H2 := Lib.hid h2
 clear h2
 go_upto_region 18 with (at_builtin; refine wpList_copy_run rfl (.tmp 95) (.tmp 96) 75 75 rfl _ _ rfl rfl (hrun _ _ _) ?_)
 clear hrun
 have h2 := H2.out
 clear H2
 have Hs : Hid (∀ w' : World, w'.heap[g]? = some (.cells cur 87 (0, 0)) -> ∀ j u, (F.drop ((i + 1) * 2))[j]? = some u -> w'.cell? ((⟨g, (i + 1) * 2, none⟩ : Addr).add j) = some u) := fun w' hg j u hu => by
  rw [Addr.add_lit]
  refine cell_of hg _ ?_
  have hlt := (List.getElem?_eq_some_iff.1 hu).1
  rw [HD.out] at hlt
  rw [<- Array.getElem?_toList, HC.out _ (by omega)]
  rwa [List.getElem?_drop] at hu
 obtain ⟨FA, HFA⟩ : ∃ FA : List (Nat × Addr × Value), Hid (FA = []) := ⟨_, rfl⟩
 have hFA : ∀ p ∈ FA, V.cell? p.2.1 = some p.2.2 := by rw [HFA.out]; exact fnil
 haveI neFA : ∀ k, Nonempty (In (factsOf FA k)) := fun k => ⟨⟨_, factsOf.drew hFA k⟩⟩
 refine ws_begin [0, 1, 2, 3, 4, 5, 6, 7, 8, 9] (factsOf FA) (pts g (.cells cur 87 (0, 0)) :: l) #[0, 0, 0, 4, 14, 31, 0, 0, 192, 511] (by kernel_rfl) (by kernel_rfl) (by kernel_rfl) factsOf.alloc (factsOf.drew hFA) h2 ?_
 clear hFA
 iterate 3 (refine ws_q (at_lit rfl) rfl rfl rfl ?_; go_big_quiet_op; show WS _ _ _ _ _ _ _ _ _ _)
 refine ws_len (at_lit rfl) rfl rfl (.tmp 100) 75 rfl Tryz.underlying75 _ _ _ rfl ?_
 simp only [Act.put, List.setIfInBounds_toArray, List.set_cons_zero, List.set_cons_succ]
 show WS _ _ _ _ _ _ _ _ _ _
 iterate 5 (refine ws_q (at_lit rfl) rfl rfl rfl ?_; go_big_quiet_op; show WS _ _ _ _ _ _ _ _ _ _)
 refine ws_copy_in (at_lit rfl) rfl rfl (.tmp 103) (.tmp 106) 75 rfl 87 2 Tryz.underlying75 (by rw [I1]; simp [I3]) rfl ⟨g, (i + 1) * 2, none⟩ _ _ (F.drop ((i + 1) * 2)) rfl (by rw [HD.out]; show _ = Nat.min _ _ * 2; simp only [Nat.min_def]; split <;> omega) (fun w' F' hh => ?_) HD1.out (by rw [HD.out, HCs.out]; omega) (fun w' F' hh => lives (l' := []) (by rw [HFA.out]; simp [liveFacts, Nat.testBit]) fnil) ?_
 ·exact Hs.out w' hh.got
 simp only [Act.put, List.setIfInBounds_toArray, List.set_cons_zero, List.set_cons_succ]
 show WS _ _ _ _ _ _ _ _ _ _
 refine ws_end ?_
 intro w9 hK9 h9
 clear HFA neFA FA h2
 obtain ⟨cur1, hc1⟩ : ∃ cur1 : Array Value, cur1 = (ovr cur.toList (i * 2) (F.drop ((i + 1) * 2))).toArray := ⟨_, rfl⟩
 have h9' : Has w9 (pts g (.cells cur1 87 (0, 0)) :: l) := by rw [hc1]; exact h9
 have hdl := HD.out
 have hcl := HCl.out
 have h1l : cur1.toList = ovr cur.toList (i * 2) (F.drop ((i + 1) * 2)) := by rw [hc1]
 have h1n : cur1.toList.length = cap * 2 := by rw [h1l, len_ovr _ _ _ (by omega), hcl]
 have h1s : cur1.size = cap * 2 := by rw [<- Array.length_toList, h1n]
 have hrun := run_clear_rowN (P := Tryz.prog) w9 75 87 0 i0 (.agg #[.int .i64 0, .int .i64 0]) Tryz.underlying75 I1 I2 g ((i + (d + 1)) * 2) 1 (cap - (i + (d + 1))) (by omega) cur1 87 h9'.got (by rw [h1s]; show (i + (d + 1)) * 2 + 1 * 2 <= _; omega) (by rw [zero1]; intro v hv; simp at hv; subst hv; rfl)
 have hone : i + 1 + (d + 1) - (i + (d + 1)) = 1 := by omega
 obtain ⟨cur2, hc2⟩ : ∃ cur2 : Array Value, cur2 = (ovr cur1.toList ((i + (d + 1)) * 2) (Builtin.zeroCells (Value.agg #[.int .i64 0, .int .i64 0]).cells 1).toList).toArray := ⟨_, rfl⟩
 have hz2 : (Builtin.zeroCells (Value.agg #[.int .i64 0, .int .i64 0]).cells 1).toList.length = 2 := by rw [zero1]; rfl
 have hc2' : (cur1.toList.take ((i + (d + 1)) * 2) ++ (Builtin.zeroCells (Value.agg #[.int .i64 0, .int .i64 0]).cells 1).toList ++ cur1.toList.drop ((i + (d + 1)) * 2 + 1 * (Value.agg #[.int .i64 0, .int .i64 0]).cells.size)).toArray = cur2 := by
  rw [hc2]; unfold ovr; rw [hz2]; rfl
 rw [hc2'] at hrun
 have hrun2 := hrun
 rw [show (Builtin.clear_ #[75] 0 #[.slice (some ⟨g, (i + (d + 1)) * 2, none⟩) 1 (cap - (i + (d + 1)))]) = (Builtin.clear_ #[75] 0 #[.slice (some ⟨g, (i + (d + 1)) * 2, none⟩) (i + 1 + (d + 1) - (i + (d + 1))) (cap - (i + (d + 1)))]) by rw [hone]] at hrun2
 have h10 := Has.setRow h9' cur2
 have HF2 : Hid (PairsPost R l w (.returned (.slice (some ⟨g, 0, none⟩) (i + (d + 1)) cap)) (w9.setRow g cur2)) := by
  have hfl := HFl.out
  have hgl := HGl.out
  have hc2l : cur2.toList = ovr cur1.toList ((i + (d + 1)) * 2) (Builtin.zeroCells (Value.agg #[.int .i64 0, .int .i64 0]).cells 1).toList := by rw [hc2]
  have hc2s : cur2.size = cap * 2 := by rw [<- Array.length_toList, hc2l, len_ovr _ _ _ (by omega), h1n]
  refine ⟨_, rfl, (HK2.out.trans hK9).setRow g cur2, ?_⟩
  unfold pairsS
  rw [HF.out.2, Nat.add_zero]
  refine h10.row_of_pts ?_ (by omega) HCm.out hc2s ?_
  ·rw [HF.out.1, len_rep F G i d 0 hfl hgl]; omega
  ·rw [HF.out.1]
   refine take_of_get (by rw [len_rep F G i d 0 hfl hgl]; omega) fun k hk => ?_
   rw [get_rep F G i d 0 hfl hgl, hc2l, get_ovr _ _ _ (by omega), h1l, get_ovr _ _ _ (by omega)]
   by_cases k1 : k < i * 2
   ·rw [if_pos (by omega), if_pos k1, if_pos k1, HC.out k (by omega)]
   ·rw [if_pos (by omega), if_neg k1, if_pos (by omega), if_neg k1, if_neg (by omega), List.getElem?_drop]
    congr 1; omega
 clear h9 h9' h10 hc1 hc2 hc2' HF HC HFl HGl HCl HF1 HG1 HD HD1 HCs HCm HK2 Hs hK9 hone h1l h1n h1s hz2 hdl hcl
 go_wp2
 all_goals go_ret
 all_goals first | exact HF2.out | (have hq := HF2.out; rw [‹cap = i + (d + 1)›] at hq; exact hq)
/-
  Plain: slices.Replace at pairs, in the midst, by two.
-/
set_option maxRecDepth 100000 in
theorem sl_Rep_two {w : World} {l : List Say} (ps qs : List (Int × Int)) {g cap bx cx : Nat} {cur cv : Array Value} (i : Nat) (hi : i + 1 < ps.length) (hl : ps.length <= 100) (hqs : qs.length = 2) (hroom : ps.length < cap) (hcap : ps.length <= cap) (hcm : cap <= maxLen) (hcs : cur.size = cap * 2) (htk : cur.toList.take (ps.length * 2) = ps.flatMap pairCells) (hcx : 2 <= cx) (hvt : cv.toList.take (qs.length * 2) = qs.flatMap pairCells) (hvs : cv.size = cx * 2)
  (hh : Has w (pts g (.cells cur 87 (0, 0)) :: pts bx (.cells cv 87 (0, 0)) :: l)) :
  Calls Tryz.prog 238 #[.slice (some ⟨g, 0, none⟩) ps.length cap, .int .i64 i, .int .i64 ((i : Int) + 1), .slice (some ⟨bx, 0, none⟩) 2 cx] w (PairsPost (repP ps i qs) l w) := by
 obtain ⟨i0, I1, I2, I3, I4⟩ := info_parts info_pair
 obtain ⟨d, hd⟩ : ∃ d, ps.length = i + 1 + (d + 1) := ⟨ps.length - (i + 2), by omega⟩
 obtain ⟨F, hF⟩ : ∃ F, F = ps.flatMap pairCells := ⟨_, rfl⟩
 obtain ⟨G, hG⟩ : ∃ G, G = qs.flatMap pairCells := ⟨_, rfl⟩
 have hFl : F.length = (i + 1 + (d + 1)) * 2 := by rw [hF, flat_len2, hd]
 have hGl : G.length = 2 * 2 := by rw [hG, flat_len2, hqs]
 have hF1 : ∀ u ∈ F, u.oneCell' = true := by rw [hF]; exact flat_one ps
 have hG1 : ∀ u ∈ G, u.oneCell' = true := by rw [hG]; exact flat_one qs
 have hCl : cur.toList.length = cap * 2 := by rw [Array.length_toList]; exact hcs
 have hC : ∀ k, k < (i + 1 + (d + 1)) * 2 -> cur.toList[k]? = F[k]? := fun k hk => by
  rw [hF, <- htk, List.getElem?_take, if_pos (by rw [hd]; omega)]
 have HF : Hid ((repP ps i qs).flatMap pairCells = F.take (i * 2) ++ G ++ F.drop ((i + 1) * 2) /\ (repP ps i qs).length = i + (d + 1) + 2) := by
  refine ⟨by rw [repP_flat, hF, hG], ?_⟩
  rw [repP_len _ _ _ (by omega), hqs, hd]; omega
 rw [hd] at hcap ⊢
 have HV : Hid (∀ j u, G[j]? = some u -> cv[j]? = some u) := fun j u hu => by
  rw [hG, <- hvt, List.getElem?_take] at hu
  split at hu
  ·simpa using hu
  ·cases hu
 clear hvt
 rw [hd] at hroom
 clear hF hG htk hi hqs
 generalize repP ps i qs = R at *
 have hiN : i + d + 2 <= 100 := by omega
 clear hd hl
 have HC := Lib.hid hC
 have HFl := Lib.hid hFl
 have HGl := Lib.hid hGl
 have HCl := Lib.hid hCl
 have HF1 := Lib.hid hF1
 have HG1 := Lib.hid hG1
 have HH := Lib.hid hh
 have HD : Hid ((F.drop ((i + 1) * 2)).length = (d + 1) * 2) := by show _ = _; rw [List.length_drop, hFl]; omega
 have HD1 : Hid (∀ u ∈ F.drop ((i + 1) * 2), u.oneCell' = true) := fun u hu => hF1 u (List.mem_of_mem_drop hu)
 have HCs := Lib.hid hcs
 have HCm := Lib.hid hcm
 have iI : (i : Int) + d + 2 <= 100 := by omega
 have i0I : (0 : Int) <= i := by omega
 have d0I : (0 : Int) <= d := by omega
 have cI : (i : Int) + d + 2 <= (cap : Int) := by omega
 have cM : (cap : Int) <= 9223372036854775807 := by simp [maxLen] at hcm; omega
 have cR : (i : Int) + d + 3 <= (cap : Int) := by omega
 have hne : g ≠ bx := fun e => by subst e; exact hh.pts_ne (.head _) rfl
 have HOV : Hid (∀ V, Has V (pts g (.cells cur 87 (0, 0)) :: pts bx (.cells cv 87 (0, 0)) :: l) -> ∀ lb cb, (callFunc 209 #[.slice (some ⟨g, (i + 2) * 2, none⟩) lb cb, .slice (some ⟨bx, 0, none⟩) 2 cx]).run Tryz.prog V = .ok (.value (.bool false)) V) := fun V hV lb cb => by
  have hb := hV.tail.got
  have hg := hV.got
  rw [run_callFunc_extern Tryz.func209 (by kernel_rfl) (by kernel_rfl) (by kernel_rfl) (e := Extern.SlicesOverlaps.overlaps #[75, 75] #[4]) (by kernel_rfl),
   Lib.run_overlaps_apart V 75 4 87 Tryz.underlying75 2 (fun w => by simp [sizeOf, typeInfo, I1, I3]) ⟨g, (i + 2) * 2, none⟩ ⟨bx, 0, none⟩ lb cb 2 cx hne 87 87 (cap * 2) (cx * 2) (by simp [World.shape?, hg, hcs]) (by simp [World.shape?, hb, hvs]) (by omega) (thaw_of hg _) (thaw_of hg _)]
  rfl
 clear hh hC hFl hGl hCl hF1 hG1 hcs hcm hne hvs
 go_enter Tryz.func238, Tryz.ntmps238
 go_upto_region 21 with (go_quiet (fail))
 have h2 := HH.out.drewN nq
 have HK2 := Lib.hid ((Kept.refl w).drewN nq)
 generalize w.drewN nq = V at *
 have hov := HOV.out V h2
 clear HH
 have H2 := Lib.hid h2
 clear h2
 go_upto_region 22 with (simp only [hov])
 clear hov
 have h2 := H2.out
 clear H2
 have Hs : Hid (∀ w' : World, w'.heap[g]? = some (.cells cur 87 (0, 0)) -> ∀ j u, (F.drop ((i + 1) * 2))[j]? = some u -> w'.cell? ((⟨g, (i + 1) * 2, none⟩ : Addr).add j) = some u) := fun w' hg j u hu => by
  rw [Addr.add_lit]
  refine cell_of hg _ ?_
  have hlt := (List.getElem?_eq_some_iff.1 hu).1
  rw [HD.out] at hlt
  rw [<- Array.getElem?_toList, HC.out _ (by omega)]
  rwa [List.getElem?_drop] at hu
 obtain ⟨FA, HFA⟩ : ∃ FA : List (Nat × Addr × Value), Hid (FA = []) := ⟨_, rfl⟩
 have hFA : ∀ p ∈ FA, V.cell? p.2.1 = some p.2.2 := by rw [HFA.out]; exact fnil
 haveI neFA : ∀ k, Nonempty (In (factsOf FA k)) := fun k => ⟨⟨_, factsOf.drew hFA k⟩⟩
 refine ws_begin [0, 1, 2, 3, 4, 5, 6, 7, 8, 9] (factsOf FA) (pts g (.cells cur 87 (0, 0)) :: pts bx (.cells cv 87 (0, 0)) :: l) #[0, 0, 0, 4, 14, 31, 0, 0, 192, 511] (by kernel_rfl) (by kernel_rfl) (by kernel_rfl) factsOf.alloc (factsOf.drew hFA) h2 ?_
 clear hFA
 iterate 3 (refine ws_q (at_lit rfl) rfl rfl rfl ?_; go_big_quiet_op; show WS _ _ _ _ _ _ _ _ _ _)
 refine ws_len (at_lit rfl) rfl rfl (.tmp 123) 75 rfl Tryz.underlying75 _ _ _ rfl ?_
 simp only [Act.put, List.setIfInBounds_toArray, List.set_cons_zero, List.set_cons_succ]
 show WS _ _ _ _ _ _ _ _ _ _
 iterate 5 (refine ws_q (at_lit rfl) rfl rfl rfl ?_; go_big_quiet_op; show WS _ _ _ _ _ _ _ _ _ _)
 refine ws_copy_in (at_lit rfl) rfl rfl (.tmp 126) (.tmp 129) 75 rfl 87 2 Tryz.underlying75 (by rw [I1]; simp [I3]) rfl ⟨g, (i + 1) * 2, none⟩ _ _ (F.drop ((i + 1) * 2)) rfl (by rw [HD.out]; show _ = Nat.min _ _ * 2; simp only [Nat.min_def]; split <;> omega) (fun w' F' hh => ?_) HD1.out (by rw [HD.out, HCs.out]; omega) (fun w' F' hh => lives (l' := []) (by rw [HFA.out]; simp [liveFacts, Nat.testBit]) fnil) ?_
 ·exact Hs.out w' hh.got
 simp only [Act.put, List.setIfInBounds_toArray, List.set_cons_zero, List.set_cons_succ]
 show WS _ _ _ _ _ _ _ _ _ _
 refine ws_end ?_
 intro w9 hK9 h9
 clear HFA neFA FA h2
 obtain ⟨cur1, hc1⟩ : ∃ cur1 : Array Value, cur1 = (ovr cur.toList ((i + 2) * 2) (F.drop ((i + 1) * 2))).toArray := ⟨_, rfl⟩
 have h9' : Has w9 (pts g (.cells cur1 87 (0, 0)) :: pts bx (.cells cv 87 (0, 0)) :: l) := by rw [hc1]; exact h9
 have hdl := HD.out
 have hcl := HCl.out
 have hgl := HGl.out
 have h1l : cur1.toList = ovr cur.toList ((i + 2) * 2) (F.drop ((i + 1) * 2)) := by rw [hc1]
 have h1n : cur1.toList.length = cap * 2 := by rw [h1l, len_ovr _ _ _ (by omega), hcl]
 have h1s : cur1.size = cap * 2 := by rw [<- Array.length_toList, h1n]
 have hrun := fun L C => fun (hL : 2 <= L) => run_copy_rowN (P := Tryz.prog) w9 75 75 3 87 2 g (i * 2) L C ⟨bx, 0, none⟩ 2 cx cur1 87 G Tryz.underlying75 (by rw [I1]; simp [I3]) h9'.got (by rw [hgl]; show _ = Nat.min _ _ * 2; simp only [Nat.min_def]; split <;> omega)
  (fun j u hu => by rw [Addr.add_lit, Nat.zero_add]; exact cell_of h9'.tail.got j (HV.out j u hu)) (by rw [hgl, h1s]; omega) HG1.out
 obtain ⟨cur2, hc2⟩ : ∃ cur2 : Array Value, cur2 = (ovr cur1.toList (i * 2) G).toArray := ⟨_, rfl⟩
 have hc2' : (cur1.toList.take (i * 2) ++ G ++ cur1.toList.drop (i * 2 + G.length)).toArray = cur2 := hc2.symm
 rw [hc2'] at hrun
 have h10 := Has.setRow h9' cur2
 have HF2 : Hid (PairsPost R l w (.returned (.slice (some ⟨g, 0, none⟩) (i + 2 + (d + 1)) cap)) (w9.setRow g cur2)) := by
  have hfl := HFl.out
  have hc2l : cur2.toList = ovr cur1.toList (i * 2) G := by rw [hc2]
  have hc2s : cur2.size = cap * 2 := by rw [<- Array.length_toList, hc2l, len_ovr _ _ _ (by omega), h1n]
  refine ⟨_, rfl, (HK2.out.trans hK9).setRow g cur2, ?_⟩
  unfold pairsS
  rw [HF.out.2, show i + (d + 1) + 2 = i + 2 + (d + 1) by omega]
  refine Has.tail (A := pts bx (.cells cv 87 (0, 0))) (Has.swap (h10.row_of_pts ?_ (by omega) HCm.out hc2s ?_))
  ·rw [HF.out.1, len_rep F G i d 2 hfl hgl]; omega
  ·rw [HF.out.1]
   refine take_of_get (by rw [len_rep F G i d 2 hfl hgl]; omega) fun k hk => ?_
   rw [get_rep F G i d 2 hfl hgl, hc2l, get_ovr _ _ _ (by omega), h1l, get_ovr _ _ _ (by omega)]
   by_cases k1 : k < i * 2
   ·rw [if_pos k1, if_pos (by omega), if_pos k1, HC.out k (by omega)]
   ·by_cases k2 : k < i * 2 + 2 * 2
    ·rw [if_neg k1, if_pos (by omega), if_neg k1, if_pos k2]
    ·rw [if_neg k1, if_neg (by omega), if_neg (by omega), if_pos (by omega), if_neg k1, if_neg k2, List.getElem?_drop]
     congr 1; omega
 have hrunA := hrun (i + 2 + (d + 1) - i) (cap - i) (by omega)
 clear h9 h9' h10 hc1 hc2 hc2' HF HC HFl HGl HCl HF1 HG1 HD HD1 HCs HCm HK2 Hs HV HOV hK9 h1l h1n h1s hdl hcl hgl hrun
 go_upto_region 24 with fail
 clear hrunA
 generalize w9.setRow g cur2 = w10 at *
 go_wp2
 go_ret
 exact HF2.out
set_option maxRecDepth 100000 in
theorem sl_Rep_grow {w : World} {l : List Say} (ps qs : List (Int × Int)) {g cap bx cx : Nat} {cur cv : Array Value} (i : Nat) (hi : i + 1 < ps.length) (hl : ps.length <= 100) (hqs : qs.length = 2) (hroom : ps.length = cap) (hcap : ps.length <= cap) (hcm : cap <= maxLen) (hcs : cur.size = cap * 2) (htk : cur.toList.take (ps.length * 2) = ps.flatMap pairCells) (hcx : 2 <= cx) (hvt : cv.toList.take (qs.length * 2) = qs.flatMap pairCells) (hvs : cv.size = cx * 2)
  (hh : Has w (pts g (.cells cur 87 (0, 0)) :: pts bx (.cells cv 87 (0, 0)) :: l)) :
  Calls Tryz.prog 238 #[.slice (some ⟨g, 0, none⟩) ps.length cap, .int .i64 i, .int .i64 ((i : Int) + 1), .slice (some ⟨bx, 0, none⟩) 2 cx] w (PairsPost (repP ps i qs) l w) := by
 obtain ⟨i0, I1, I2, I3, I4⟩ := info_parts info_pair
 obtain ⟨d, hd⟩ : ∃ d, ps.length = i + 1 + (d + 1) := ⟨ps.length - (i + 2), by omega⟩
 obtain ⟨F, hF⟩ : ∃ F, F = ps.flatMap pairCells := ⟨_, rfl⟩
 obtain ⟨G, hG⟩ : ∃ G, G = qs.flatMap pairCells := ⟨_, rfl⟩
 have hFl : F.length = (i + 1 + (d + 1)) * 2 := by rw [hF, flat_len2, hd]
 have hGl : G.length = 2 * 2 := by rw [hG, flat_len2, hqs]
 have hF1 : ∀ u ∈ F, u.oneCell' = true := by rw [hF]; exact flat_one ps
 have hG1 : ∀ u ∈ G, u.oneCell' = true := by rw [hG]; exact flat_one qs
 have hCl : cur.toList.length = cap * 2 := by rw [Array.length_toList]; exact hcs
 have hC : ∀ k, k < (i + 1 + (d + 1)) * 2 -> cur.toList[k]? = F[k]? := fun k hk => by
  rw [hF, <- htk, List.getElem?_take, if_pos (by rw [hd]; omega)]
 have HF : Hid ((repP ps i qs).flatMap pairCells = F.take (i * 2) ++ G ++ F.drop ((i + 1) * 2) /\ (repP ps i qs).length = i + (d + 1) + 2) := by
  refine ⟨by rw [repP_flat, hF, hG], ?_⟩
  rw [repP_len _ _ _ (by omega), hqs, hd]; omega
 rw [hd] at hcap ⊢
 have HV : Hid (∀ j u, G[j]? = some u -> cv[j]? = some u) := fun j u hu => by
  rw [hG, <- hvt, List.getElem?_take] at hu
  split at hu
  ·simpa using hu
  ·cases hu
 clear hvt
 rw [hd] at hroom
 clear hF hG htk hi hqs
 generalize repP ps i qs = R at *
 have hiN : i + d + 2 <= 100 := by omega
 clear hd hl
 have HC := Lib.hid hC
 have HFl := Lib.hid hFl
 have HGl := Lib.hid hGl
 have HCl := Lib.hid hCl
 have HF1 := Lib.hid hF1
 have HG1 := Lib.hid hG1
 have HH := Lib.hid hh
 have HD : Hid ((F.drop ((i + 1) * 2)).length = (d + 1) * 2) := by show _ = _; rw [List.length_drop, hFl]; omega
 have HD1 : Hid (∀ u ∈ F.drop ((i + 1) * 2), u.oneCell' = true) := fun u hu => hF1 u (List.mem_of_mem_drop hu)
 have HCs := Lib.hid hcs
 have HCm := Lib.hid hcm
 have iI : (i : Int) + d + 2 <= 100 := by omega
 have i0I : (0 : Int) <= i := by omega
 have d0I : (0 : Int) <= d := by omega
 have cI : (i : Int) + d + 2 <= (cap : Int) := by omega
 have cM : (cap : Int) <= 9223372036854775807 := by simp [maxLen] at hcm; omega
 have HRoom := Lib.hid hroom
 have cE : (cap : Int) < (i : Int) + d + 3 := by omega
 clear hh hC hFl hGl hCl hF1 hG1 hcs hcm hroom hcap
 go_enter Tryz.func238, Tryz.ntmps238
 go_upto_region 11 with (go_quiet (fail))
 have hh := HH.out.drewN nq
 have hk := (Kept.refl w).drewN nq
 generalize w.drewN nq = V at *
 have hfl := HFl.out
 have hgl := HGl.out
 have hcl := HCl.out
 have hsz := HCs.out
 have hrm := HRoom.out
 have hcm := HCm.out
 obtain ⟨K, hK⟩ : ∃ K, K = grownCap V (i + (d + 3)) cap 87 := ⟨_, rfl⟩
 have hKn : i + d + 3 <= K := by have := grownCap_ge V (i + (d + 3)) cap 87; omega
 have hKm : K <= maxLen := by rw [hK]; exact grownCap_le_maxLen V _ _ _ (by simp [maxLen]; omega)
 have hrun := Lib.run_append_grow_zeros (P := Tryz.prog) V 75 3 75 87 i0 (.agg #[.int .i64 0, .int .i64 0]) .i64 .i64 Tryz.underlying75 Tryz.underlying3 I1 I2 (some ⟨g, 0, none⟩) i cap (cur.toList.take (i * 2))
  (by
   rw [I3]
   exact run_firstCells_some V.drew 2 i ⟨g, 0, none⟩ i cap (cur.toList.take (i * 2)) (by rw [List.length_take]; omega) (fun j v hj => by
    rw [Addr.add_lit, Nat.zero_add]
    rw [List.getElem?_take] at hj
    split at hj
    ·exact cell_of (w := V.drew) hh.got j (by simpa using hj)
    ·cases hj)) (d + 3) (by omega) (by omega) (by omega) (by omega) (by rw [I4]; omega) (by rw [I4]; exact growslice_fits (by omega) (by omega))
 rw [show ((d + 3 : Nat) : Int) = (i : Int) + 2 + ((d : Int) + 1) - (i : Int) by omega, <- hK] at hrun
 obtain ⟨C0, hC0⟩ : ∃ C0, C0 = (cur.toList.take (i * 2)).toArray ++ Builtin.zeroCells (Value.agg #[.int .i64 0, .int .i64 0]).cells (d + 3) ++ Builtin.zeroCells (Value.agg #[.int .i64 0, .int .i64 0]).cells (K - (i + (d + 3))) := ⟨_, rfl⟩
 rw [<- hC0] at hrun
 have hz0 : ∀ q, (Builtin.zeroCells (Value.agg #[.int .i64 0, .int .i64 0]).cells q).size = q * 2 := fun q => by have := zerosN q; rwa [Array.length_toList] at this
 have hC0s : C0.toList.length = K * 2 := by
  rw [Array.length_toList, hC0]; simp only [Array.size_append, List.size_toArray, List.length_take, hz0, hcl]; omega
 have hC0t : ∀ k, k < i * 2 -> C0.toList[k]? = F[k]? := fun k hk => by
  rw [hC0]
  simp only [Array.toList_append, List.append_assoc]
  rw [List.getElem?_append_left (by rw [List.length_take]; omega), List.getElem?_take, if_pos hk, HC.out k (by omega)]
 have h2 := hh.drew.alloc (.cells C0 87)
 have hk2 := hk.drew.alloc (.cells C0 87)
 have hsz2 : V.drew.heap.size = V.heap.size := rfl
 rw [hsz2] at h2
 have H2 := Lib.hid h2
 have HK2 := Lib.hid hk2
 have HC0 := Lib.hid (And.intro hC0s hC0t)
 have HKK := Lib.hid (And.intro hKn hKm)
 have kI : (i : Int) + d + 3 <= (K : Int) := by omega
 have kM : (K : Int) <= 9223372036854775807 := by simp [maxLen] at hKm; omega
 clear hh hk h2 hk2 hsz2 hC0 hC0s hC0t hK hKn hKm hfl hgl hcl hsz hrm hcm hz0 HH
 go_upto_region 12 with (at_builtin; refine wpList_append_run rfl (.tmp 63) (.tmp 66) 75 3 rfl _ _ rfl rfl hrun ?_)
 clear hrun
 have h2 := H2.out
 clear H2
 generalize V.heap.size = gz at *
 have h2 : Has (V.alloc (.cells C0 87)).drew (pts gz (.cells C0 87 (0, 0)) :: pts g (.cells cur 87 (0, 0)) :: pts bx (.cells cv 87 (0, 0)) :: l) := h2
 have hk2 : Kept w (V.alloc (.cells C0 87)).drew := HK2.out
 clear HK2
 have HK2 := Lib.hid hk2
 clear hk2
 generalize (V.alloc (.cells C0 87)).drew = V2 at *
 have hgl := HGl.out
 have hC0s := HC0.out.1
 have hkk := HKK.out.1
 have hrun := fun L C => fun (hL : 2 <= L) => run_copy_rowN (P := Tryz.prog) V2 75 75 3 87 2 gz (i * 2) L C ⟨bx, 0, none⟩ 2 cx C0 87 G Tryz.underlying75 (by rw [I1]; simp [I3]) h2.got (by rw [hgl]; show _ = Nat.min _ _ * 2; simp only [Nat.min_def]; split <;> omega)
  (fun j u hu => by rw [Addr.add_lit, Nat.zero_add]; exact cell_of h2.tail.tail.got j (HV.out j u hu)) (by rw [hgl, <- Array.length_toList, hC0s]; omega) HG1.out
 obtain ⟨cur1, hc1⟩ : ∃ cur1 : Array Value, cur1 = (ovr C0.toList (i * 2) G).toArray := ⟨_, rfl⟩
 have hc1' : (C0.toList.take (i * 2) ++ G ++ C0.toList.drop (i * 2 + G.length)).toArray = cur1 := hc1.symm
 rw [hc1'] at hrun
 have h3 := Has.setRow h2 cur1
 have HK3 := Lib.hid (HK2.out.setRow gz cur1)
 have H1 : Hid (cur1.toList = ovr C0.toList (i * 2) G /\ cur1.toList.length = K * 2) := by
  have e : cur1.toList = ovr C0.toList (i * 2) G := by rw [hc1]
  exact ⟨e, by rw [e, len_ovr _ _ _ (by omega), hC0s]⟩
 have hrunA := hrun (d + 3) (K - i) (by omega)
 have H3 := Lib.hid h3
 clear h2 h3 hrun hc1 hc1' hgl hC0s hkk HK2
 go_upto_region 13 with fail
 clear hrunA
 have h2 := H3.out
 clear H3
 generalize V2.setRow gz cur1 = V3 at *
 have Hs : Hid (∀ w' : World, w'.heap[g]? = some (.cells cur 87 (0, 0)) -> ∀ j u, (F.drop ((i + 1) * 2))[j]? = some u -> w'.cell? ((⟨g, (i + 1) * 2, none⟩ : Addr).add j) = some u) := fun w' hg j u hu => by
  rw [Addr.add_lit]
  refine cell_of hg _ ?_
  have hlt := (List.getElem?_eq_some_iff.1 hu).1
  rw [HD.out] at hlt
  rw [<- Array.getElem?_toList, HC.out _ (by omega)]
  rwa [List.getElem?_drop] at hu
 obtain ⟨FA, HFA⟩ : ∃ FA : List (Nat × Addr × Value), Hid (FA = []) := ⟨_, rfl⟩
 have hFA : ∀ p ∈ FA, V3.cell? p.2.1 = some p.2.2 := by rw [HFA.out]; exact fnil
 haveI neFA : ∀ k, Nonempty (In (factsOf FA k)) := fun k => ⟨⟨_, factsOf.drew hFA k⟩⟩
 refine ws_begin [0, 1, 2, 3, 4, 5, 6, 7, 8, 9] (factsOf FA) (pts gz (.cells cur1 87 (0, 0)) :: pts g (.cells cur 87 (0, 0)) :: pts bx (.cells cv 87 (0, 0)) :: l) #[0, 0, 0, 4, 14, 31, 0, 0, 192, 511] (by kernel_rfl) (by kernel_rfl) (by kernel_rfl) factsOf.alloc (factsOf.drew hFA) h2 ?_
 clear hFA
 iterate 3 (refine ws_q (at_lit rfl) rfl rfl rfl ?_; go_big_quiet_op; show WS _ _ _ _ _ _ _ _ _ _)
 refine ws_len (at_lit rfl) rfl rfl (.tmp 75) 75 rfl Tryz.underlying75 _ _ _ rfl ?_
 simp only [Act.put, List.setIfInBounds_toArray, List.set_cons_zero, List.set_cons_succ]
 show WS _ _ _ _ _ _ _ _ _ _
 iterate 5 (refine ws_q (at_lit rfl) rfl rfl rfl ?_; go_big_quiet_op; show WS _ _ _ _ _ _ _ _ _ _)
 refine ws_copy_in (at_lit rfl) rfl rfl (.tmp 78) (.tmp 81) 75 rfl 87 2 Tryz.underlying75 (by rw [I1]; simp [I3]) rfl ⟨g, (i + 1) * 2, none⟩ _ _ (F.drop ((i + 1) * 2)) rfl (by rw [HD.out]; show _ = Nat.min _ _ * 2; simp only [Nat.min_def]; split <;> omega) (fun w' F' hh => ?_) HD1.out (by have := H1.out.2; have := HKK.out.1; rw [Array.length_toList] at *; rw [HD.out]; omega) (fun w' F' hh => lives (l' := []) (by rw [HFA.out]; simp [liveFacts, Nat.testBit]) fnil) ?_
 ·exact Hs.out w' (hh.at (b := g) (o := .cells cur 87 (0, 0)) (by simp))
 simp only [Act.put, List.setIfInBounds_toArray, List.set_cons_zero, List.set_cons_succ]
 show WS _ _ _ _ _ _ _ _ _ _
 refine ws_end ?_
 intro w9 hK9 h9
 clear HFA neFA FA h2
 obtain ⟨cur2, hc2⟩ : ∃ cur2 : Array Value, cur2 = (ovr cur1.toList ((i + 2) * 2) (F.drop ((i + 1) * 2))).toArray := ⟨_, rfl⟩
 have h9' : Has w9 (pts gz (.cells cur2 87 (0, 0)) :: pts g (.cells cur 87 (0, 0)) :: pts bx (.cells cv 87 (0, 0)) :: l) := by rw [hc2]; exact h9
 have HF2 : Hid (PairsPost R l w (.returned (.slice (some ⟨gz, 0, none⟩) (i + (d + 3)) K)) w9) := by
  have hfl := HFl.out
  have hgl := HGl.out
  have hdl := HD.out
  obtain ⟨h0s, h0t⟩ := HC0.out
  obtain ⟨hk1, hk2⟩ := HKK.out
  obtain ⟨h1l, h1n⟩ := H1.out
  have hc2l : cur2.toList = ovr cur1.toList ((i + 2) * 2) (F.drop ((i + 1) * 2)) := by rw [hc2]
  have hc2s : cur2.size = K * 2 := by rw [<- Array.length_toList, hc2l, len_ovr _ _ _ (by omega), h1n]
  refine ⟨_, rfl, HK3.out.trans hK9, ?_⟩
  unfold pairsS
  rw [HF.out.2, show i + (d + 1) + 2 = i + (d + 3) by omega]
  refine Has.tail (A := pts bx (.cells cv 87 (0, 0))) (Has.tail (A := pts g (.cells cur 87 (0, 0))) (Has.reord [1, 1, 0] (h9'.row_of_pts ?_ (by omega) hk2 hc2s ?_)))
  ·rw [HF.out.1, len_rep F G i d 2 hfl hgl]; omega
  ·rw [HF.out.1]
   refine take_of_get (by rw [len_rep F G i d 2 hfl hgl]; omega) fun k hk => ?_
   rw [get_rep F G i d 2 hfl hgl, hc2l, get_ovr _ _ _ (by omega), h1l, get_ovr _ _ _ (by omega)]
   by_cases k1 : k < i * 2
   ·rw [if_pos (by omega), if_pos k1, if_pos k1, h0t k k1]
   ·by_cases k2 : k < i * 2 + 2 * 2
    ·rw [if_pos (by omega), if_neg k1, if_pos (by omega), if_neg k1, if_pos k2]
    ·rw [if_neg (by omega), if_pos (by omega), if_neg k1, if_neg k2, List.getElem?_drop]
     congr 1; omega
 clear h9 h9' hc2 HF HC HFl HGl HCl HF1 HG1 HD HD1 HCs HCm HK3 Hs HV hK9 H1 HC0 HKK HRoom
 go_wp2
 go_ret
 exact HF2.out
end Go.Proofs.YtgbgneiciabidaaGreatDoor
