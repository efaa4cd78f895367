/-
  Plain: slices.Replace at pairs, in the midst, by two.
-/
import Derived.Test.YtgbgneiciabidaaGreatDoorGz26
import Derived.Lib.Overlaps
import Derived.Test.YtgbgneiciabidaaGreatDoorGz20
namespace Go.Proofs.YtgbgneiciabidaaGreatDoor
open Go Go.RowKit
set_option linter.all false

set_option maxHeartbeats 4000000 in
set_option maxRecDepth 100000 in
theorem sl_Rep_two {w : World} {l : List Say} (ps qs : List (Int × Int)) {g cap bx cx : Nat} {cur cv : Array Value} (i : Nat) (hi : i + 1 < ps.length) (hl : ps.length ≤ 100) (hqs : qs.length = 2) (hroom : ps.length < cap) (hcap : ps.length ≤ cap) (hcm : cap ≤ maxLen) (hcs : cur.size = cap * 2) (htk : cur.toList.take (ps.length * 2) = ps.flatMap pairCells) (hcx : 2 ≤ cx) (hvt : cv.toList.take (qs.length * 2) = qs.flatMap pairCells) (hvs : cv.size = cx * 2)
    (hh : Has w (pts g (.cells cur 87 (0, 0)) :: pts bx (.cells cv 87 (0, 0)) :: l)) :
    Calls Tryz.prog 238 #[.slice (some ⟨g, 0, none⟩) ps.length cap, .int .i64 i, .int .i64 ((i : Int) + 1), .slice (some ⟨bx, 0, none⟩) 2 cx] w (PairsPost (repP ps i qs) l w) := by
  obtain ⟨i0, I1, I2, I3, I4⟩ := info_parts info_pair
  obtain ⟨d, hd⟩ : ∃ d, ps.length = i + 1 + (d + 1) := ⟨ps.length - (i + 2), by omega⟩
  obtain ⟨F, hF⟩ : ∃ F, F = ps.flatMap pairCells := ⟨_, rfl⟩
  obtain ⟨G, hG⟩ : ∃ G, G = qs.flatMap pairCells := ⟨_, rfl⟩
  have hFl : F.length = (i + 1 + (d + 1)) * 2 := by rw [hF, flat_len2, hd]
  have hGl : G.length = 2 * 2 := by rw [hG, flat_len2, hqs]
  have hF1 : ∀ u ∈ F, u.oneCell' = true := by rw [hF]; exact flat_one ps
  have hG1 : ∀ u ∈ G, u.oneCell' = true := by rw [hG]; exact flat_one qs
  have hCl : cur.toList.length = cap * 2 := by rw [Array.length_toList]; exact hcs
  have hC : ∀ k, k < (i + 1 + (d + 1)) * 2 → cur.toList[k]? = F[k]? := fun k hk => by
    rw [hF, ← htk, List.getElem?_take, if_pos (by rw [hd]; omega)]
  have HF : Hid ((repP ps i qs).flatMap pairCells = F.take (i * 2) ++ G ++ F.drop ((i + 1) * 2) ∧ (repP ps i qs).length = i + (d + 1) + 2) := by
    refine ⟨by rw [repP_flat, hF, hG], ?_⟩
    rw [repP_len _ _ _ (by omega), hqs, hd]; omega
  rw [hd] at hcap ⊢
  have HV : Hid (∀ j u, G[j]? = some u → cv[j]? = some u) := fun j u hu => by
    rw [hG, ← hvt, List.getElem?_take] at hu
    split at hu
    · simpa using hu
    · cases hu
  clear hvt
  rw [hd] at hroom
  clear hF hG htk hi hqs
  generalize repP ps i qs = R at *
  have hiN : i + d + 2 ≤ 100 := by omega
  clear hd hl
  have HC := Lib.hid hC
  have HFl := Lib.hid hFl
  have HGl := Lib.hid hGl
  have HCl := Lib.hid hCl
  have HF1 := Lib.hid hF1
  have HG1 := Lib.hid hG1
  have HH := Lib.hid hh
  have HD : Hid ((F.drop ((i + 1) * 2)).length = (d + 1) * 2) := by show _ = _; rw [List.length_drop, hFl]; omega
  have HD1 : Hid (∀ u ∈ F.drop ((i + 1) * 2), u.oneCell' = true) := fun u hu => hF1 u (List.mem_of_mem_drop hu)
  have HCs := Lib.hid hcs
  have HCm := Lib.hid hcm
  have iI : (i : Int) + d + 2 ≤ 100 := by omega
  have i0I : (0 : Int) ≤ i := by omega
  have d0I : (0 : Int) ≤ d := by omega
  have cI : (i : Int) + d + 2 ≤ (cap : Int) := by omega
  have cM : (cap : Int) ≤ 9223372036854775807 := by simp [maxLen] at hcm; omega
  have cR : (i : Int) + d + 3 ≤ (cap : Int) := by omega
  have hne : g ≠ bx := fun e => by subst e; exact hh.pts_ne (.head _) rfl
  have HOV : Hid (∀ V, Has V (pts g (.cells cur 87 (0, 0)) :: pts bx (.cells cv 87 (0, 0)) :: l) → ∀ lb cb, (callFunc 209 #[.slice (some ⟨g, (i + 2) * 2, none⟩) lb cb, .slice (some ⟨bx, 0, none⟩) 2 cx]).run Tryz.prog V = .ok (.value (.bool false)) V) := fun V hV lb cb => by
    have hb := hV.tail.got
    have hg := hV.got
    rw [run_callFunc_extern Tryz.func209 (by kernel_rfl) (by kernel_rfl) (by kernel_rfl) (e := Extern.SlicesOverlaps.overlaps #[75, 75] #[4]) (by kernel_rfl),
      Lib.run_overlaps_apart V 75 4 87 Tryz.underlying75 2 (fun w => by simp [sizeOf, typeInfo, I1, I3]) ⟨g, (i + 2) * 2, none⟩ ⟨bx, 0, none⟩ lb cb 2 cx hne 87 87 (cap * 2) (cx * 2) (by simp [World.shape?, hg, hcs]) (by simp [World.shape?, hb, hvs]) (by omega) (thaw_of hg _) (thaw_of hg _)]
    rfl
  clear hh hC hFl hGl hCl hF1 hG1 hcs hcm hne hvs
  go_enter Tryz.func238, Tryz.ntmps238
  go_upto_region 21 with (go_quiet (fail))
  have h2 := HH.out.drewN nq
  have HK2 := Lib.hid ((Kept.refl w).drewN nq)
  generalize w.drewN nq = V at *
  have hov := HOV.out V h2
  clear HH
  have H2 := Lib.hid h2
  clear h2
  go_upto_region 22 with (simp only [hov])
  clear hov
  have h2 := H2.out
  clear H2
  have Hs : Hid (∀ w' : World, w'.heap[g]? = some (.cells cur 87 (0, 0)) → ∀ j u, (F.drop ((i + 1) * 2))[j]? = some u → w'.cell? ((⟨g, (i + 1) * 2, none⟩ : Addr).add j) = some u) := fun w' hg j u hu => by
    rw [Addr.add_lit]
    refine cell_of hg _ ?_
    have hlt := (List.getElem?_eq_some_iff.1 hu).1
    rw [HD.out] at hlt
    rw [← Array.getElem?_toList, HC.out _ (by omega)]
    rwa [List.getElem?_drop] at hu
  obtain ⟨FA, HFA⟩ : ∃ FA : List (Nat × Addr × Value), Hid (FA = []) := ⟨_, rfl⟩
  have hFA : ∀ p ∈ FA, V.cell? p.2.1 = some p.2.2 := by rw [HFA.out]; exact fnil
  haveI neFA : ∀ k, Nonempty (In (factsOf FA k)) := fun k => ⟨⟨_, factsOf.drew hFA k⟩⟩
  refine ws_begin [0, 1, 2, 3, 4, 5, 6, 7, 8, 9] (factsOf FA) (pts g (.cells cur 87 (0, 0)) :: pts bx (.cells cv 87 (0, 0)) :: l) #[0, 0, 0, 4, 14, 31, 0, 0, 192, 511] (by kernel_rfl) (by kernel_rfl) (by kernel_rfl) factsOf.alloc (factsOf.drew hFA) h2 ?_
  clear hFA
  iterate 3 (refine ws_q (at_lit rfl) rfl rfl rfl ?_; go_big_quiet_op; show WS _ _ _ _ _ _ _ _ _ _)
  refine ws_len (at_lit rfl) rfl rfl (.tmp 123) 75 rfl Tryz.underlying75 _ _ _ rfl ?_
  simp only [Act.put, List.setIfInBounds_toArray, List.set_cons_zero, List.set_cons_succ]
  show WS _ _ _ _ _ _ _ _ _ _
  iterate 5 (refine ws_q (at_lit rfl) rfl rfl rfl ?_; go_big_quiet_op; show WS _ _ _ _ _ _ _ _ _ _)
  refine ws_copy_in (at_lit rfl) rfl rfl (.tmp 126) (.tmp 129) 75 rfl 87 2 Tryz.underlying75 (by rw [I1]; simp [I3]) rfl ⟨g, (i + 1) * 2, none⟩ _ _ (F.drop ((i + 1) * 2)) rfl (by rw [HD.out]; show _ = Nat.min _ _ * 2; simp only [Nat.min_def]; split <;> omega) (fun w' F' hh => ?_) HD1.out (by rw [HD.out, HCs.out]; omega) (fun w' F' hh => lives (l' := []) (by rw [HFA.out]; simp [liveFacts, Nat.testBit]) fnil) ?_
  · exact Hs.out w' hh.got
  simp only [Act.put, List.setIfInBounds_toArray, List.set_cons_zero, List.set_cons_succ]
  show WS _ _ _ _ _ _ _ _ _ _
  refine ws_end ?_
  intro w9 hK9 h9
  clear HFA neFA FA h2
  obtain ⟨cur1, hc1⟩ : ∃ cur1 : Array Value, cur1 = (ovr cur.toList ((i + 2) * 2) (F.drop ((i + 1) * 2))).toArray := ⟨_, rfl⟩
  have h9' : Has w9 (pts g (.cells cur1 87 (0, 0)) :: pts bx (.cells cv 87 (0, 0)) :: l) := by rw [hc1]; exact h9
  have hdl := HD.out
  have hcl := HCl.out
  have hgl := HGl.out
  have h1l : cur1.toList = ovr cur.toList ((i + 2) * 2) (F.drop ((i + 1) * 2)) := by rw [hc1]
  have h1n : cur1.toList.length = cap * 2 := by rw [h1l, len_ovr _ _ _ (by omega), hcl]
  have h1s : cur1.size = cap * 2 := by rw [← Array.length_toList, h1n]
  have hrun := fun L C => fun (hL : 2 ≤ L) => run_copy_rowN (P := Tryz.prog) w9 75 75 3 87 2 g (i * 2) L C ⟨bx, 0, none⟩ 2 cx cur1 87 G Tryz.underlying75 (by rw [I1]; simp [I3]) h9'.got (by rw [hgl]; show _ = Nat.min _ _ * 2; simp only [Nat.min_def]; split <;> omega)
    (fun j u hu => by rw [Addr.add_lit, Nat.zero_add]; exact cell_of h9'.tail.got j (HV.out j u hu)) (by rw [hgl, h1s]; omega) HG1.out
  obtain ⟨cur2, hc2⟩ : ∃ cur2 : Array Value, cur2 = (ovr cur1.toList (i * 2) G).toArray := ⟨_, rfl⟩
  have hc2' : (cur1.toList.take (i * 2) ++ G ++ cur1.toList.drop (i * 2 + G.length)).toArray = cur2 := hc2.symm
  rw [hc2'] at hrun
  have h10 := Has.setRow h9' cur2
  have HF2 : Hid (PairsPost R l w (.returned (.slice (some ⟨g, 0, none⟩) (i + 2 + (d + 1)) cap)) (w9.setRow g cur2)) := by
    have hfl := HFl.out
    have hc2l : cur2.toList = ovr cur1.toList (i * 2) G := by rw [hc2]
    have hc2s : cur2.size = cap * 2 := by rw [← Array.length_toList, hc2l, len_ovr _ _ _ (by omega), h1n]
    refine ⟨_, rfl, (HK2.out.trans hK9).setRow g cur2, ?_⟩
    unfold pairsS
    rw [HF.out.2, show i + (d + 1) + 2 = i + 2 + (d + 1) by omega]
    refine Has.tail (A := pts bx (.cells cv 87 (0, 0))) (Has.swap (h10.row_of_pts ?_ (by omega) HCm.out hc2s ?_))
    · rw [HF.out.1, len_rep F G i d 2 hfl hgl]; omega
    · rw [HF.out.1]
      refine take_of_get (by rw [len_rep F G i d 2 hfl hgl]; omega) fun k hk => ?_
      rw [get_rep F G i d 2 hfl hgl, hc2l, get_ovr _ _ _ (by omega), h1l, get_ovr _ _ _ (by omega)]
      by_cases k1 : k < i * 2
      · rw [if_pos k1, if_pos (by omega), if_pos k1, HC.out k (by omega)]
      · by_cases k2 : k < i * 2 + 2 * 2
        · rw [if_neg k1, if_pos (by omega), if_neg k1, if_pos k2]
        · rw [if_neg k1, if_neg (by omega), if_neg (by omega), if_pos (by omega), if_neg k1, if_neg k2, List.getElem?_drop]
          congr 1; omega
  have hrunA := hrun (i + 2 + (d + 1) - i) (cap - i) (by omega)
  clear h9 h9' h10 hc1 hc2 hc2' HF HC HFl HGl HCl HF1 HG1 HD HD1 HCs HCm HK2 Hs HV HOV hK9 h1l h1n h1s hdl hcl hgl hrun
  go_upto_region 24 with fail
  clear hrunA
  generalize w9.setRow g cur2 = w10 at *
  go_wp2
  go_ret
  exact HF2.out
set_option maxHeartbeats 4000000 in
set_option maxRecDepth 100000 in
theorem sl_Rep_grow {w : World} {l : List Say} (ps qs : List (Int × Int)) {g cap bx cx : Nat} {cur cv : Array Value} (i : Nat) (hi : i + 1 < ps.length) (hl : ps.length ≤ 100) (hqs : qs.length = 2) (hroom : ps.length = cap) (hcap : ps.length ≤ cap) (hcm : cap ≤ maxLen) (hcs : cur.size = cap * 2) (htk : cur.toList.take (ps.length * 2) = ps.flatMap pairCells) (hcx : 2 ≤ cx) (hvt : cv.toList.take (qs.length * 2) = qs.flatMap pairCells) (hvs : cv.size = cx * 2)
    (hh : Has w (pts g (.cells cur 87 (0, 0)) :: pts bx (.cells cv 87 (0, 0)) :: l)) :
    Calls Tryz.prog 238 #[.slice (some ⟨g, 0, none⟩) ps.length cap, .int .i64 i, .int .i64 ((i : Int) + 1), .slice (some ⟨bx, 0, none⟩) 2 cx] w (PairsPost (repP ps i qs) l w) := by
  obtain ⟨i0, I1, I2, I3, I4⟩ := info_parts info_pair
  obtain ⟨d, hd⟩ : ∃ d, ps.length = i + 1 + (d + 1) := ⟨ps.length - (i + 2), by omega⟩
  obtain ⟨F, hF⟩ : ∃ F, F = ps.flatMap pairCells := ⟨_, rfl⟩
  obtain ⟨G, hG⟩ : ∃ G, G = qs.flatMap pairCells := ⟨_, rfl⟩
  have hFl : F.length = (i + 1 + (d + 1)) * 2 := by rw [hF, flat_len2, hd]
  have hGl : G.length = 2 * 2 := by rw [hG, flat_len2, hqs]
  have hF1 : ∀ u ∈ F, u.oneCell' = true := by rw [hF]; exact flat_one ps
  have hG1 : ∀ u ∈ G, u.oneCell' = true := by rw [hG]; exact flat_one qs
  have hCl : cur.toList.length = cap * 2 := by rw [Array.length_toList]; exact hcs
  have hC : ∀ k, k < (i + 1 + (d + 1)) * 2 → cur.toList[k]? = F[k]? := fun k hk => by
    rw [hF, ← htk, List.getElem?_take, if_pos (by rw [hd]; omega)]
  have HF : Hid ((repP ps i qs).flatMap pairCells = F.take (i * 2) ++ G ++ F.drop ((i + 1) * 2) ∧ (repP ps i qs).length = i + (d + 1) + 2) := by
    refine ⟨by rw [repP_flat, hF, hG], ?_⟩
    rw [repP_len _ _ _ (by omega), hqs, hd]; omega
  rw [hd] at hcap ⊢
  have HV : Hid (∀ j u, G[j]? = some u → cv[j]? = some u) := fun j u hu => by
    rw [hG, ← hvt, List.getElem?_take] at hu
    split at hu
    · simpa using hu
    · cases hu
  clear hvt
  rw [hd] at hroom
  clear hF hG htk hi hqs
  generalize repP ps i qs = R at *
  have hiN : i + d + 2 ≤ 100 := by omega
  clear hd hl
  have HC := Lib.hid hC
  have HFl := Lib.hid hFl
  have HGl := Lib.hid hGl
  have HCl := Lib.hid hCl
  have HF1 := Lib.hid hF1
  have HG1 := Lib.hid hG1
  have HH := Lib.hid hh
  have HD : Hid ((F.drop ((i + 1) * 2)).length = (d + 1) * 2) := by show _ = _; rw [List.length_drop, hFl]; omega
  have HD1 : Hid (∀ u ∈ F.drop ((i + 1) * 2), u.oneCell' = true) := fun u hu => hF1 u (List.mem_of_mem_drop hu)
  have HCs := Lib.hid hcs
  have HCm := Lib.hid hcm
  have iI : (i : Int) + d + 2 ≤ 100 := by omega
  have i0I : (0 : Int) ≤ i := by omega
  have d0I : (0 : Int) ≤ d := by omega
  have cI : (i : Int) + d + 2 ≤ (cap : Int) := by omega
  have cM : (cap : Int) ≤ 9223372036854775807 := by simp [maxLen] at hcm; omega
  have HRoom := Lib.hid hroom
  have cE : (cap : Int) < (i : Int) + d + 3 := by omega
  clear hh hC hFl hGl hCl hF1 hG1 hcs hcm hroom hcap
  go_enter Tryz.func238, Tryz.ntmps238
  go_upto_region 11 with (go_quiet (fail))
  have hh := HH.out.drewN nq
  have hk := (Kept.refl w).drewN nq
  generalize w.drewN nq = V at *
  have hfl := HFl.out
  have hgl := HGl.out
  have hcl := HCl.out
  have hsz := HCs.out
  have hrm := HRoom.out
  have hcm := HCm.out
  obtain ⟨K, hK⟩ : ∃ K, K = grownCap V (i + (d + 3)) cap 87 := ⟨_, rfl⟩
  have hKn : i + d + 3 ≤ K := by have := grownCap_ge V (i + (d + 3)) cap 87; omega
  have hKm : K ≤ maxLen := by rw [hK]; exact grownCap_le_maxLen V _ _ _ (by simp [maxLen]; omega)
  have hrun := Lib.run_append_grow_zeros (P := Tryz.prog) V 75 3 75 87 i0 (.agg #[.int .i64 0, .int .i64 0]) .i64 .i64 Tryz.underlying75 Tryz.underlying3 I1 I2 (some ⟨g, 0, none⟩) i cap (cur.toList.take (i * 2))
    (by
      rw [I3]
      exact run_firstCells_some V.drew 2 i ⟨g, 0, none⟩ i cap (cur.toList.take (i * 2)) (by rw [List.length_take]; omega) (fun j v hj => by
        rw [Addr.add_lit, Nat.zero_add]
        rw [List.getElem?_take] at hj
        split at hj
        · exact cell_of (w := V.drew) hh.got j (by simpa using hj)
        · cases hj)) (d + 3) (by omega) (by omega) (by omega) (by omega) (by rw [I4]; omega) (by rw [I4]; exact growslice_fits (by omega) (by omega))
  rw [show ((d + 3 : Nat) : Int) = (i : Int) + 2 + ((d : Int) + 1) - (i : Int) by omega, ← hK] at hrun
  obtain ⟨C0, hC0⟩ : ∃ C0, C0 = (cur.toList.take (i * 2)).toArray ++ Builtin.zeroCells (Value.agg #[.int .i64 0, .int .i64 0]).cells (d + 3) ++ Builtin.zeroCells (Value.agg #[.int .i64 0, .int .i64 0]).cells (K - (i + (d + 3))) := ⟨_, rfl⟩
  rw [← hC0] at hrun
  have hz0 : ∀ q, (Builtin.zeroCells (Value.agg #[.int .i64 0, .int .i64 0]).cells q).size = q * 2 := fun q => by have := zerosN q; rwa [Array.length_toList] at this
  have hC0s : C0.toList.length = K * 2 := by
    rw [Array.length_toList, hC0]; simp only [Array.size_append, List.size_toArray, List.length_take, hz0, hcl]; omega
  have hC0t : ∀ k, k < i * 2 → C0.toList[k]? = F[k]? := fun k hk => by
    rw [hC0]
    simp only [Array.toList_append, List.append_assoc]
    rw [List.getElem?_append_left (by rw [List.length_take]; omega), List.getElem?_take, if_pos hk, HC.out k (by omega)]
  have h2 := hh.drew.alloc (.cells C0 87)
  have hk2 := hk.drew.alloc (.cells C0 87)
  have hsz2 : V.drew.heap.size = V.heap.size := rfl
  rw [hsz2] at h2
  have H2 := Lib.hid h2
  have HK2 := Lib.hid hk2
  have HC0 := Lib.hid (And.intro hC0s hC0t)
  have HKK := Lib.hid (And.intro hKn hKm)
  have kI : (i : Int) + d + 3 ≤ (K : Int) := by omega
  have kM : (K : Int) ≤ 9223372036854775807 := by simp [maxLen] at hKm; omega
  clear hh hk h2 hk2 hsz2 hC0 hC0s hC0t hK hKn hKm hfl hgl hcl hsz hrm hcm hz0 HH
  go_upto_region 12 with (at_builtin; refine wpList_append_run rfl (.tmp 63) (.tmp 66) 75 3 rfl _ _ rfl rfl hrun ?_)
  clear hrun
  have h2 := H2.out
  clear H2
  generalize V.heap.size = gz at *
  have h2 : Has (V.alloc (.cells C0 87)).drew (pts gz (.cells C0 87 (0, 0)) :: pts g (.cells cur 87 (0, 0)) :: pts bx (.cells cv 87 (0, 0)) :: l) := h2
  have hk2 : Kept w (V.alloc (.cells C0 87)).drew := HK2.out
  clear HK2
  have HK2 := Lib.hid hk2
  clear hk2
  generalize (V.alloc (.cells C0 87)).drew = V2 at *
  have hgl := HGl.out
  have hC0s := HC0.out.1
  have hkk := HKK.out.1
  have hrun := fun L C => fun (hL : 2 ≤ L) => run_copy_rowN (P := Tryz.prog) V2 75 75 3 87 2 gz (i * 2) L C ⟨bx, 0, none⟩ 2 cx C0 87 G Tryz.underlying75 (by rw [I1]; simp [I3]) h2.got (by rw [hgl]; show _ = Nat.min _ _ * 2; simp only [Nat.min_def]; split <;> omega)
    (fun j u hu => by rw [Addr.add_lit, Nat.zero_add]; exact cell_of h2.tail.tail.got j (HV.out j u hu)) (by rw [hgl, ← Array.length_toList, hC0s]; omega) HG1.out
  obtain ⟨cur1, hc1⟩ : ∃ cur1 : Array Value, cur1 = (ovr C0.toList (i * 2) G).toArray := ⟨_, rfl⟩
  have hc1' : (C0.toList.take (i * 2) ++ G ++ C0.toList.drop (i * 2 + G.length)).toArray = cur1 := hc1.symm
  rw [hc1'] at hrun
  have h3 := Has.setRow h2 cur1
  have HK3 := Lib.hid (HK2.out.setRow gz cur1)
  have H1 : Hid (cur1.toList = ovr C0.toList (i * 2) G ∧ cur1.toList.length = K * 2) := by
    have e : cur1.toList = ovr C0.toList (i * 2) G := by rw [hc1]
    exact ⟨e, by rw [e, len_ovr _ _ _ (by omega), hC0s]⟩
  have hrunA := hrun (d + 3) (K - i) (by omega)
  have H3 := Lib.hid h3
  clear h2 h3 hrun hc1 hc1' hgl hC0s hkk HK2
  go_upto_region 13 with fail
  clear hrunA
  have h2 := H3.out
  clear H3
  generalize V2.setRow gz cur1 = V3 at *
  have Hs : Hid (∀ w' : World, w'.heap[g]? = some (.cells cur 87 (0, 0)) → ∀ j u, (F.drop ((i + 1) * 2))[j]? = some u → w'.cell? ((⟨g, (i + 1) * 2, none⟩ : Addr).add j) = some u) := fun w' hg j u hu => by
    rw [Addr.add_lit]
    refine cell_of hg _ ?_
    have hlt := (List.getElem?_eq_some_iff.1 hu).1
    rw [HD.out] at hlt
    rw [← Array.getElem?_toList, HC.out _ (by omega)]
    rwa [List.getElem?_drop] at hu
  obtain ⟨FA, HFA⟩ : ∃ FA : List (Nat × Addr × Value), Hid (FA = []) := ⟨_, rfl⟩
  have hFA : ∀ p ∈ FA, V3.cell? p.2.1 = some p.2.2 := by rw [HFA.out]; exact fnil
  haveI neFA : ∀ k, Nonempty (In (factsOf FA k)) := fun k => ⟨⟨_, factsOf.drew hFA k⟩⟩
  refine ws_begin [0, 1, 2, 3, 4, 5, 6, 7, 8, 9] (factsOf FA) (pts gz (.cells cur1 87 (0, 0)) :: pts g (.cells cur 87 (0, 0)) :: pts bx (.cells cv 87 (0, 0)) :: l) #[0, 0, 0, 4, 14, 31, 0, 0, 192, 511] (by kernel_rfl) (by kernel_rfl) (by kernel_rfl) factsOf.alloc (factsOf.drew hFA) h2 ?_
  clear hFA
  iterate 3 (refine ws_q (at_lit rfl) rfl rfl rfl ?_; go_big_quiet_op; show WS _ _ _ _ _ _ _ _ _ _)
  refine ws_len (at_lit rfl) rfl rfl (.tmp 75) 75 rfl Tryz.underlying75 _ _ _ rfl ?_
  simp only [Act.put, List.setIfInBounds_toArray, List.set_cons_zero, List.set_cons_succ]
  show WS _ _ _ _ _ _ _ _ _ _
  iterate 5 (refine ws_q (at_lit rfl) rfl rfl rfl ?_; go_big_quiet_op; show WS _ _ _ _ _ _ _ _ _ _)
  refine ws_copy_in (at_lit rfl) rfl rfl (.tmp 78) (.tmp 81) 75 rfl 87 2 Tryz.underlying75 (by rw [I1]; simp [I3]) rfl ⟨g, (i + 1) * 2, none⟩ _ _ (F.drop ((i + 1) * 2)) rfl (by rw [HD.out]; show _ = Nat.min _ _ * 2; simp only [Nat.min_def]; split <;> omega) (fun w' F' hh => ?_) HD1.out (by have := H1.out.2; have := HKK.out.1; rw [Array.length_toList] at *; rw [HD.out]; omega) (fun w' F' hh => lives (l' := []) (by rw [HFA.out]; simp [liveFacts, Nat.testBit]) fnil) ?_
  · exact Hs.out w' (hh.at (b := g) (o := .cells cur 87 (0, 0)) (by simp))
  simp only [Act.put, List.setIfInBounds_toArray, List.set_cons_zero, List.set_cons_succ]
  show WS _ _ _ _ _ _ _ _ _ _
  refine ws_end ?_
  intro w9 hK9 h9
  clear HFA neFA FA h2
  obtain ⟨cur2, hc2⟩ : ∃ cur2 : Array Value, cur2 = (ovr cur1.toList ((i + 2) * 2) (F.drop ((i + 1) * 2))).toArray := ⟨_, rfl⟩
  have h9' : Has w9 (pts gz (.cells cur2 87 (0, 0)) :: pts g (.cells cur 87 (0, 0)) :: pts bx (.cells cv 87 (0, 0)) :: l) := by rw [hc2]; exact h9
  have HF2 : Hid (PairsPost R l w (.returned (.slice (some ⟨gz, 0, none⟩) (i + (d + 3)) K)) w9) := by
    have hfl := HFl.out
    have hgl := HGl.out
    have hdl := HD.out
    obtain ⟨h0s, h0t⟩ := HC0.out
    obtain ⟨hk1, hk2⟩ := HKK.out
    obtain ⟨h1l, h1n⟩ := H1.out
    have hc2l : cur2.toList = ovr cur1.toList ((i + 2) * 2) (F.drop ((i + 1) * 2)) := by rw [hc2]
    have hc2s : cur2.size = K * 2 := by rw [← Array.length_toList, hc2l, len_ovr _ _ _ (by omega), h1n]
    refine ⟨_, rfl, HK3.out.trans hK9, ?_⟩
    unfold pairsS
    rw [HF.out.2, show i + (d + 1) + 2 = i + (d + 3) by omega]
    refine Has.tail (A := pts bx (.cells cv 87 (0, 0))) (Has.tail (A := pts g (.cells cur 87 (0, 0))) (Has.reord [1, 1, 0] (h9'.row_of_pts ?_ (by omega) hk2 hc2s ?_)))
    · rw [HF.out.1, len_rep F G i d 2 hfl hgl]; omega
    · rw [HF.out.1]
      refine take_of_get (by rw [len_rep F G i d 2 hfl hgl]; omega) fun k hk => ?_
      rw [get_rep F G i d 2 hfl hgl, hc2l, get_ovr _ _ _ (by omega), h1l, get_ovr _ _ _ (by omega)]
      by_cases k1 : k < i * 2
      · rw [if_pos (by omega), if_pos k1, if_pos k1, h0t k k1]
      · by_cases k2 : k < i * 2 + 2 * 2
        · rw [if_pos (by omega), if_neg k1, if_pos (by omega), if_neg k1, if_pos k2]
        · rw [if_neg (by omega), if_pos (by omega), if_neg k1, if_neg k2, List.getElem?_drop]
          congr 1; omega
  clear h9 h9' hc2 HF HC HFl HGl HCl HF1 HG1 HD HD1 HCs HCm HK3 Hs HV hK9 H1 HC0 HKK HRoom
  go_wp2
  go_ret
  exact HF2.out
end Go.Proofs.YtgbgneiciabidaaGreatDoor
/-
  Plain: slices.Replace at pairs, all roads.
-/
namespace Go.Proofs.YtgbgneiciabidaaGreatDoor
open Go Go.RowKit
set_option linter.all false

set_option maxHeartbeats 4000000 in
set_option maxRecDepth 100000 in
theorem sl_Rep_cut {w : World} {l : List Say} (ps : List (Int × Int)) {g cap cx : Nat} {cur : Array Value} (i : Nat) (hi : ps.length = i + 1) (hl : ps.length ≤ 100) (hcap : ps.length ≤ cap) (hcm : cap ≤ maxLen) (hcs : cur.size = cap * 2) (htk : cur.toList.take (ps.length * 2) = ps.flatMap pairCells)
    (hh : Has w (pts g (.cells cur 87 (0, 0)) :: l)) (va : Option Addr) :
    Calls Tryz.prog 238 #[.slice (some ⟨g, 0, none⟩) ps.length cap, .int .i64 i, .int .i64 ((i : Int) + 1), .slice va 0 cx] w (PairsPost (repP ps i []) l w) := by
  obtain ⟨i0, I1, I2, I3, I4⟩ := info_parts info_pair
  have iI : (i : Int) < 100 := by omega
  have i0I : (0 : Int) ≤ i := by omega
  have cI : (i : Int) + 1 ≤ (cap : Int) := by omega
  have cM : (cap : Int) ≤ 9223372036854775807 := by simp [maxLen] at hcm; omega
  have hap := run_append_no (P := Tryz.prog) w 75 75 87 i0 Tryz.underlying75 I1 (some ⟨g, 0, none⟩) i cap (by omega) va cx
  have hcl : cur.toList.length = cap * 2 := by rw [Array.length_toList]; exact hcs
  have hrun := run_clear_rowN (P := Tryz.prog) w 75 87 0 i0 (.agg #[.int .i64 0, .int .i64 0]) Tryz.underlying75 I1 I2 g (i * 2) 1 (cap - i) (by omega) cur 87 hh.got (by rw [hcs]; show i * 2 + 1 * 2 ≤ _; omega) (by rw [zero1]; intro v hv; simp at hv; subst hv; rfl)
  obtain ⟨cur2, hc2⟩ : ∃ cur2 : Array Value, cur2 = (ovr cur.toList (i * 2) (Builtin.zeroCells (Value.agg #[.int .i64 0, .int .i64 0]).cells 1).toList).toArray := ⟨_, rfl⟩
  have hz2 : (Builtin.zeroCells (Value.agg #[.int .i64 0, .int .i64 0]).cells 1).toList.length = 2 := by rw [zero1]; rfl
  have hc2' : (cur.toList.take (i * 2) ++ (Builtin.zeroCells (Value.agg #[.int .i64 0, .int .i64 0]).cells 1).toList ++ cur.toList.drop (i * 2 + 1 * (Value.agg #[.int .i64 0, .int .i64 0]).cells.size)).toArray = cur2 := by
    rw [hc2]; unfold ovr; rw [hz2]; rfl
  rw [hc2'] at hrun
  have hone : i + 1 - i = 1 := by omega
  have hrun2 := hrun
  rw [show (Builtin.clear_ #[75] 0 #[.slice (some ⟨g, i * 2, none⟩) 1 (cap - i)]) = (Builtin.clear_ #[75] 0 #[.slice (some ⟨g, i * 2, none⟩) (i + 1 - i) (cap - i)]) by rw [hone]] at hrun2
  have h10 := Has.setRow hh cur2
  have HF2 : Hid (PairsPost (repP ps i []) l w (.returned (.slice (some ⟨g, 0, none⟩) i cap)) (w.setRow g cur2)) := by
    have hc2l : cur2.toList = ovr cur.toList (i * 2) (Builtin.zeroCells (Value.agg #[.int .i64 0, .int .i64 0]).cells 1).toList := by rw [hc2]
    have hc2s : cur2.size = cap * 2 := by rw [← Array.length_toList, hc2l, len_ovr _ _ _ (by omega), hcl]
    have hrl : (repP ps i []).length = i := by rw [repP_len _ _ _ (by omega)]; simp; omega
    have hrf : (repP ps i []).flatMap pairCells = (ps.flatMap pairCells).take (i * 2) := by
      rw [repP_flat, List.drop_of_length_le (by rw [flat_len2]; omega)]; simp
    refine ⟨_, rfl, (Kept.refl w).setRow g cur2, ?_⟩
    unfold pairsS
    rw [hrl]
    refine h10.row_of_pts ?_ (by omega) hcm hc2s ?_
    · rw [flat_len2, hrl]
    · rw [hrf]
      refine take_of_get (by rw [List.length_take, flat_len2]; omega) fun k hk => ?_
      rw [hc2l, get_ovr _ _ _ (by omega), if_pos hk, ← htk, List.getElem?_take, if_pos hk, List.getElem?_take, if_pos (by omega)]
  rw [hi] at hcap ⊢
  clear hh htk hcs hi hl hcl hc2 hc2' hz2 h10 hone hcap
  go_enter Tryz.func238, Tryz.ntmps238
  have HAp := Lib.hid hap
  clear hap
  go_upto_region 6 with (at_builtin; refine wpList_append_run rfl (.tmp 32) (.tmp 33) 75 75 rfl _ _ rfl rfl HAp.out ?_)
  clear HAp
  go_wp2
  all_goals go_ret
  all_goals exact HF2.out
theorem sl_Replace {w : World} {l : List Say} {v vv : Value} (ps qs : List (Int × Int)) (h : Has w (pairsS v ps :: pairsS vv qs :: l)) (i : Nat) (hi : i < ps.length) (hl : ps.length ≤ 100) (hq : qs.length ≤ 2) :
    Calls Tryz.prog 238 #[v, .int .i64 i, .int .i64 ((i : Int) + 1), vv] w (PairsPost (repP ps i qs) l w) := by
  obtain ⟨g, cap, cur, rfl, hnc, hcm, hcs, htk, hxl, hh⟩ := h.row_out (by omega)
  by_cases h0 : qs.length = 0
  · obtain rfl : qs = [] := List.eq_nil_of_length_eq_zero h0
    obtain ⟨va, cx, rfl, _⟩ := hh.row_val (v := vv) (e := 87) (size := 2) (n := 0) (xs := []) (.tail _ (.head _))
    have h2 := (Has.swap hh).tail
    by_cases hlast : ps.length = i + 1
    · exact sl_Rep_cut ps i hlast hl hnc hcm hcs htk h2 va
    · exact sl_Rep_none ps [] i (by omega) hl rfl hnc hcm hcs htk h2 va
  · obtain ⟨bx, cx, cv, rfl, hnx, hxm, hvs, hvt, _, h3⟩ := (Has.swap hh).row_out (by omega)
    have h2 := Has.swap h3
    by_cases hlast : ps.length = i + 1
    · exact sl_Rep_last ps qs i hlast hl (by omega) hq hnc hcm hcs htk hnx hvt h2
    · by_cases h1 : qs.length = 1
      · rw [h1] at hnx ⊢
        exact sl_Rep_one ps qs i (by omega) hl h1 hnc hcm hcs htk hnx (by rw [h1]; rw [h1] at hvt; exact hvt) h2
      · have h22 : qs.length = 2 := by omega
        rw [h22] at hnx ⊢
        by_cases hr : ps.length < cap
        · exact sl_Rep_two ps qs i (by omega) hl h22 hr hnc hcm hcs htk hnx (by rw [h22]; rw [h22] at hvt; exact hvt) hvs h2
        · exact sl_Rep_grow ps qs i (by omega) hl h22 (by omega) hnc hcm hcs htk hnx (by rw [h22]; rw [h22] at hvt; exact hvt) hvs h2
end Go.Proofs.YtgbgneiciabidaaGreatDoor
/-
  Nodes (layer 10): Change.
-/
namespace Go.Proofs.YtgbgneiciabidaaGreatDoor
open Go Go.RowKit
set_option linter.all false

set_option maxHeartbeats 4000000 in
set_option maxRecDepth 100000 in
theorem node_Change {w : World} {l : List Say} (nd : Nd) {kv vv bv : Value} (at_ : Nat) (qs : List (Int × Int)) (h : Has w (pairsS bv qs :: l)) (hk : intsS kv nd.keys ∈ l) (hv : intsS vv nd.vals ∈ l) (ok : nd.ok = true) (hat : at_ < nd.keys.length) (hq : qs.length ≤ 2)
    (ho : ordTo (repP nd.pairs at_ qs) (repP nd.pairs at_ qs).length = true) :
    Calls Tryz.prog 206 #[nd.val kv vv, .int .i64 at_, bv] w (NPutPost (cutN nd.level (repP nd.pairs at_ qs)) l w) := by
  obtain ⟨o0, o1, o2, o3, o4⟩ := ok_lens ok
  obtain ⟨ba, bc, rfl, hx3⟩ := h.row_val (v := bv) (.head _)
  clear hx3
  have hA := h.alloc (.cells #[.int .i64 nd.level, kv, vv] 35)
  have HK := Lib.hid ((Kept.refl w).alloc (.cells #[.int .i64 nd.level, kv, vv] 35))
  have HCk := Lib.hid (node_Check nd hA (kv := kv) (vv := vv) (by simp [hk]) (by simp [hv]))
  obtain ⟨ka, kc, rfl, hx1, hx2⟩ := h.ints_read (.tail _ hk)
  clear hx1 hx2
  have Hok := Lib.hid ok
  have hpl : nd.pairs.length = nd.keys.length := by unfold Nd.pairs; rw [List.length_zip, o2, Nat.min_self]
  have Hk := Lib.hid hk
  have Hv := Lib.hid hv
  have HO := Lib.hid (And.intro o2 (And.intro o3 o4))
  have HP : Hid (∀ w' l', Has w' l' → intsS (.slice ka nd.keys.length kc) nd.keys ∈ l' → intsS vv nd.vals ∈ l' → Calls Tryz.prog 135 #[.agg #[.int .i64 nd.level, .slice ka nd.keys.length kc, vv]] w' (PairsPost nd.pairs l' w')) := fun w' l' hw h1 h2 => node_pairs nd hw h1 h2 o2 (by omega)
  obtain ⟨ps, hps⟩ : ∃ ps, ps = nd.pairs := ⟨_, rfl⟩
  rw [← hps] at HP hpl ho ⊢
  have Hat : Hid (at_ < ps.length ∧ ps.length ≤ 100 ∧ qs.length ≤ 2) := ⟨by omega, by omega, hq⟩
  have Hrl : Hid ((repP ps at_ qs).length ≤ 100) := by show _ ≤ _; rw [repP_len _ _ _ (by omega)]; omega
  have Ho := Lib.hid ho
  have a0 : (0 : Int) ≤ at_ := by omega
  have a1 : (at_ : Int) < (nd.keys.length : Int) := by omega
  have a2 : ((nd.keys.length : Nat) : Int) ≤ 7 := by omega
  have q2 : ((qs.length : Nat) : Int) ≤ 2 := by omega
  have hwa : IntKind.i64.wrap ((at_ : Int) + 1) = (at_ : Int) + 1 := by rw [IntKind.wrap_i64]; omega
  have HH := Lib.hid h
  clear h hA hk hv ok o2 o3 o4 hpl hps ho hat hq
  simp only [Nd.val] at HCk ⊢
  go_enter Tryz.func206, Tryz.ntmps206
  go_wp2_with fail
  refine HCk.out.mono ?_
  rintro r w1 ⟨hr, hK1, h1⟩
  rw [if_pos Hok.out] at hr
  subst hr
  have hr2 := h1.at (b := w.heap.size) (o := (.cells #[.int .i64 nd.level, .slice ka nd.keys.length kc, vv] 35 (0, 0))) (by simp)
  have n0 : w1.cell? ⟨w.heap.size, 0, none⟩ = some (.int .i64 nd.level) := cell_of hr2 0 rfl
  have n1 : w1.cell? ⟨w.heap.size, 1, none⟩ = some (.slice ka nd.keys.length kc) := cell_of hr2 1 rfl
  have n2 : w1.cell? ⟨w.heap.size, 2, none⟩ = some vv := cell_of hr2 2 rfl
  have ln := World.block_lt_of_cell? _ _ n0
  have HPs := Lib.hid (HP.out w1 _ h1 (by simp [Hk.out]) (by simp [Hv.out]))
  have HK1 := Lib.hid (HK.out.trans hK1)
  clear h1 hK1 HCk HK hr2 HH
  generalize hnk : nd.keys.length = nk at *
  clear hnk
  generalize hql : qs.length = nq at *
  have Hql := Lib.hid hql
  clear hql
  go_wp2_with fail
  refine HPs.out.mono ?_
  rintro r w2 ⟨v, rfl, hK2, h2⟩
  have h3 : Has w2 (pairsS v ps :: pairsS (.slice ba nq bc) qs :: pts w.heap.size (.cells #[.int .i64 nd.level, .slice ka nk kc, vv] 35 (0, 0)) :: l) := h2.reord [0, 1]
  have HRp := Lib.hid (sl_Replace ps qs h3 at_ Hat.out.1 Hat.out.2.1 (by rw [Hql.out]; exact Hat.out.2.2))
  have HK2 := Lib.hid (HK1.out.trans hK2)
  clear h2 h3 hK2 HK1 HPs n0 n1 n2 ln
  go_wp2_with fail
  refine HRp.out.mono ?_
  rintro r w3 ⟨v3, rfl, hK3, h3⟩
  have HOr := Lib.hid (node_ordered h3 (.head _) Hrl.out)
  rw [Ho.out] at HOr
  have H3 := Lib.hid h3
  have HK3 := Lib.hid (HK2.out.trans hK3)
  clear h3 hK3 HK2 HRp
  go_wp2_with fail
  refine HOr.out.mono ?_
  rintro r w4 ⟨rfl, hb4⟩
  have h4 := H3.out.below hb4
  have HK4 := Lib.hid (HK3.out.trans (Kept.below hb4))
  have hr2 := h4.at (b := w.heap.size) (o := (.cells #[.int .i64 nd.level, .slice ka nk kc, vv] 35 (0, 0))) (by simp)
  have n0 : w4.cell? ⟨w.heap.size, 0, none⟩ = some (.int .i64 nd.level) := cell_of hr2 0 rfl
  have n1 : w4.cell? ⟨w.heap.size, 1, none⟩ = some (.slice ka nk kc) := cell_of hr2 1 rfl
  have n2 : w4.cell? ⟨w.heap.size, 2, none⟩ = some vv := cell_of hr2 2 rfl
  have ln := World.block_lt_of_cell? _ _ n0
  have HC := Lib.hid (node_cut nd.level (.slice ka nk kc) vv (repP ps at_ qs) h4 (PSrcs.of_pairs (.head _)) Hrl.out)
  clear h4 hb4 H3 HK3 HOr hr2
  go_wp2_with fail
  refine HC.out.mono ?_
  rintro r w9 ⟨v9, T, rfl, hT, hK9, h9⟩
  have HF : Hid (NPutPost (cutN nd.level (repP ps at_ qs)) l w (.returned (.tuple #[v9, .nilIface])) w9) := ⟨v9, T, rfl, hT, HK4.out.trans hK9, h9.drop_mid.drop_mid⟩
  clear hT hK9 h9 HC HK4 n0 n1 n2 ln
  go_wp2
  go_ret2
  exact HF.out
end Go.Proofs.YtgbgneiciabidaaGreatDoor
