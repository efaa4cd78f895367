/-
  Plain: slices.Replace at pairs, one of them by none, one or two: the last one.
-/
import Derived.Test.YtgbgneiciabidaaGreatDoorGz19
namespace Go.Proofs.YtgbgneiciabidaaGreatDoor
open Go Go.RowKit
set_option linter.all false

def repP (ps : List (Int × Int)) (i : Nat) (qs : List (Int × Int)) : List (Int × Int) := ps.take i ++ qs ++ ps.drop (i + 1)
theorem repP_len (ps : List (Int × Int)) (i : Nat) (qs : List (Int × Int)) (hi : i < ps.length) : (repP ps i qs).length = ps.length - 1 + qs.length := by
  unfold repP; rw [List.length_append, List.length_append, List.length_take, List.length_drop]; omega
theorem repP_flat (ps : List (Int × Int)) (i : Nat) (qs : List (Int × Int)) : (repP ps i qs).flatMap pairCells = (ps.flatMap pairCells).take (i * 2) ++ qs.flatMap pairCells ++ (ps.flatMap pairCells).drop ((i + 1) * 2) := by
  unfold repP; rw [List.flatMap_append, List.flatMap_append, flat_take, flat_drop]
theorem run_copy_no {P : Program} (w : World) (dT sT ty elem : TypeId) (size : Nat) (d a : Option Addr) (dLen dCap sCap : Nat)
    (hu : P.underlying dT = some (.slice elem)) (hs : (P.info? elem).map (·.size) = some size) :
    (Builtin.copy_ #[dT, sT] ty #[.slice d dLen dCap, .slice a 0 sCap]).run P w = .ok (goInt 0) w := by
  cases hq : P.info? elem with
  | none => simp [hq] at hs
  | some i => cases d <;> cases a <;> simp [Builtin.copy_, run_underlying hu, Builtin.lenOf, Builtin.firstCells, sizeOf, typeInfo, hq, loadCells, loadCellsFrom, storeCells, Nat.min_def]
theorem run_append_no {P : Program} (w : World) (t ty e : TypeId) (i : TypeInfo) (ht : P.underlying t = some (.slice e)) (hi : P.info? e = some i) (base : Option Addr) (sLen sCap : Nat) (hle : sLen ≤ sCap) (a : Option Addr) (c : Nat) :
    (Builtin.append_ #[t, t] ty #[.slice base sLen sCap, .slice a 0 c]).run P w = .ok (.slice base sLen sCap) w := by
  cases base <;> cases a <;> simp [Builtin.append_, run_underlying ht, sizeOf, typeInfo, hi, Builtin.lenOf, Builtin.firstCells, hle, loadCells, loadCellsFrom, storeCells]
theorem run_clear_no {P : Program} (w : World) (t e ty : TypeId) (ht : P.underlying t = some (.slice e)) (a : Option Addr) (c : Nat) : (Builtin.clear_ #[t] ty #[.slice a 0 c]).run P w = .ok (.tuple #[]) w := by
  cases a <;> simp [Builtin.clear_, run_underlying ht]
def ovr (C : List Value) (o : Nat) (D : List Value) : List Value := C.take o ++ D ++ C.drop (o + D.length)
theorem get_ovr (C : List Value) (o : Nat) (D : List Value) (h : o + D.length ≤ C.length) (k : Nat) : (ovr C o D)[k]? = if k < o then C[k]? else if k < o + D.length then D[k - o]? else C[k]? := by
  unfold ovr
  have hl : (C.take o).length = o := by rw [List.length_take]; omega
  by_cases h1 : k < o
  · rw [if_pos h1, List.append_assoc, List.getElem?_append_left (by omega), List.getElem?_take, if_pos h1]
  · rw [if_neg h1]
    by_cases h2 : k < o + D.length
    · rw [if_pos h2, List.append_assoc, List.getElem?_append_right (by omega), hl, List.getElem?_append_left (by omega)]
    · rw [if_neg h2, List.getElem?_append_right (by rw [List.length_append]; omega), List.length_append, hl, List.getElem?_drop]
      congr 1; omega
theorem len_ovr (C : List Value) (o : Nat) (D : List Value) (h : o + D.length ≤ C.length) : (ovr C o D).length = C.length := by
  unfold ovr; simp only [List.length_append, List.length_take, List.length_drop]; omega
theorem take_of_get {A B : List Value} {N : Nat} (hB : B.length = N) (h : ∀ k, k < N → A[k]? = B[k]?) : A.take N = B := by
  apply List.ext_getElem?
  intro k
  rw [List.getElem?_take]
  by_cases hk : k < N
  · rw [if_pos hk, h k hk]
  · rw [if_neg hk, List.getElem?_eq_none (by omega)]
theorem get_rep (F G : List Value) (i d m : Nat) (hF : F.length = (i + 1 + (d + 1)) * 2) (hG : G.length = m * 2) (k : Nat) : (F.take (i * 2) ++ G ++ F.drop ((i + 1) * 2))[k]? = if k < i * 2 then F[k]? else if k < i * 2 + m * 2 then G[k - i * 2]? else F[k + 2 - m * 2]? := by
  have hl : (F.take (i * 2)).length = i * 2 := by rw [List.length_take]; omega
  by_cases h1 : k < i * 2
  · rw [if_pos h1, List.append_assoc, List.getElem?_append_left (by omega), List.getElem?_take, if_pos h1]
  · rw [if_neg h1]
    by_cases h2 : k < i * 2 + m * 2
    · rw [if_pos h2, List.append_assoc, List.getElem?_append_right (by omega), hl, List.getElem?_append_left (by omega)]
    · rw [if_neg h2, List.getElem?_append_right (by rw [List.length_append]; omega), List.length_append, hl, List.getElem?_drop, hG]
      congr 1; omega
theorem len_rep (F G : List Value) (i d m : Nat) (hF : F.length = (i + 1 + (d + 1)) * 2) (hG : G.length = m * 2) : (F.take (i * 2) ++ G ++ F.drop ((i + 1) * 2)).length = (i + (d + 1) + m) * 2 := by
  simp only [List.length_append, List.length_take, List.length_drop, hF, hG]; omega
set_option maxHeartbeats 4000000 in
set_option maxRecDepth 100000 in
theorem sl_Rep_last {w : World} {l : List Say} (ps qs : List (Int × Int)) {g cap bx cx : Nat} {cur cv : Array Value} (i : Nat) (hi : ps.length = i + 1) (hl : ps.length ≤ 100) (hq0 : 0 < qs.length) (hq2 : qs.length ≤ 2) (hcap : ps.length ≤ cap) (hcm : cap ≤ maxLen) (hcs : cur.size = cap * 2) (htk : cur.toList.take (ps.length * 2) = ps.flatMap pairCells) (hcx : qs.length ≤ cx) (hvt : cv.toList.take (qs.length * 2) = qs.flatMap pairCells)
    (hh : Has w (pts g (.cells cur 87 (0, 0)) :: pts bx (.cells cv 87 (0, 0)) :: l)) :
    Calls Tryz.prog 238 #[.slice (some ⟨g, 0, none⟩) ps.length cap, .int .i64 i, .int .i64 ((i : Int) + 1), .slice (some ⟨bx, 0, none⟩) qs.length cx] w (PairsPost (repP ps i qs) l w) := by
  obtain ⟨i0, I1, I2, I3, I4⟩ := info_parts info_pair
  have iI : (i : Int) < 100 := by omega
  have cI : (i : Int) + 1 ≤ (cap : Int) := by omega
  have cM : (cap : Int) ≤ 9223372036854775807 := by simp [maxLen] at hcm; omega
  have HR : Hid (Has w (rowS 87 2 (.slice (some ⟨g, 0, none⟩) i cap) i ((ps.flatMap pairCells).take (i * 2)) :: pts bx (.cells cv 87 (0, 0)) :: l)) := by
    refine hh.row_of_pts ?_ (by omega) hcm hcs ?_
    · rw [List.length_take, flat_len2]; omega
    · rw [← htk, List.take_take, Nat.min_eq_left (by omega)]
  have Hone : Hid (∀ u ∈ qs.flatMap pairCells, u.oneCell' = true) := flat_one qs
  have Hsrc : Hid (∀ j u, (qs.flatMap pairCells)[j]? = some u → w.cell? ((⟨bx, 0, none⟩ : Addr).add j) = some u) := fun j u hu => by
    rw [Addr.add_lit, Nat.zero_add]
    refine cell_of hh.tail.got j ?_
    rw [← hvt, List.getElem?_take] at hu
    split at hu
    · simpa using hu
    · cases hu
  have Hln : Hid ((qs.flatMap pairCells).length = qs.length * 2) := flat_len2 qs
  have HF : Hid (repP ps i qs = ps.take i ++ qs ∧ (repP ps i qs).length = i + qs.length) := by
    refine ⟨?_, by rw [repP_len _ _ _ (by omega)]; omega⟩
    unfold repP; rw [List.drop_of_length_le (by omega), List.append_nil]
  have HD : Hid (((ps.flatMap pairCells).take (i * 2) ++ qs.flatMap pairCells) = (repP ps i qs).flatMap pairCells) := by
    show _ = _
    rw [HF.out.1, List.flatMap_append, flat_take]
  generalize repP ps i qs = R at *
  generalize hD : (ps.flatMap pairCells).take (i * 2) = E at *
  generalize hm : qs.length = m at *
  rw [hi] at hcap ⊢
  have hm0 : (0 : Int) < (m : Int) := by omega
  have hm2 : (m : Int) ≤ 2 := by omega
  have hmn : m ≤ 2 := hq2
  have hiN : i < 100 := by omega
  have hx1 : ¬ ((i : Int) + (m : Int) < (i : Int) + 1) := by omega
  have hx2 : ¬ (i + m < i + 1) := by omega
  clear hh htk hcs hvt hD hm hi hl hq0 hq2 hcx
  go_enter Tryz.func238, Tryz.ntmps238
  go_upto_region 6 with (at_builtin; refine wpList_append_row rfl (.tmp 32) (.tmp 33) 75 rfl 87 i0 (.agg #[.int .i64 0, .int .i64 0]) 2 16 Tryz.underlying75 I1 I2 I3 I4 rfl (by decide) _ _ E rfl HR.out ⟨bx, 0, none⟩ m cx (qs.flatMap pairCells) rfl Hln.out Hsrc.out Hone.out (by simp [maxLen]; omega) (by omega) ?_; intro v' w' hK hh)
  obtain ⟨a', c', rfl, _⟩ := hh.row_val (v := v') (.head _)
  have HF2 : Hid (PairsPost R l w (.returned (.slice a' (i + m) c')) w') := by
    refine ⟨_, rfl, hK, ?_⟩
    unfold pairsS
    rw [HF.out.2, ← HD.out]
    exact hh.swap.tail
  clear hh hK HD HF HR Hln Hone Hsrc
  go_wp2
  go_ret
  exact HF2.out
end Go.Proofs.YtgbgneiciabidaaGreatDoor
/-
  Plain: slices.Replace at pairs, in the midst, by none or one.
-/
namespace Go.Proofs.YtgbgneiciabidaaGreatDoor
open Go Go.RowKit
set_option linter.all false

set_option maxHeartbeats 4000000 in
set_option maxRecDepth 100000 in
theorem sl_Rep_one {w : World} {l : List Say} (ps qs : List (Int × Int)) {g cap bx cx : Nat} {cur cv : Array Value} (i : Nat) (hi : i + 1 < ps.length) (hl : ps.length ≤ 100) (hqs : qs.length = 1) (hcap : ps.length ≤ cap) (hcm : cap ≤ maxLen) (hcs : cur.size = cap * 2) (htk : cur.toList.take (ps.length * 2) = ps.flatMap pairCells) (hcx : 1 ≤ cx) (hvt : cv.toList.take (qs.length * 2) = qs.flatMap pairCells)
    (hh : Has w (pts g (.cells cur 87 (0, 0)) :: pts bx (.cells cv 87 (0, 0)) :: l)) :
    Calls Tryz.prog 238 #[.slice (some ⟨g, 0, none⟩) ps.length cap, .int .i64 i, .int .i64 ((i : Int) + 1), .slice (some ⟨bx, 0, none⟩) 1 cx] w (PairsPost (repP ps i qs) l w) := by
  obtain ⟨i0, I1, I2, I3, I4⟩ := info_parts info_pair
  obtain ⟨d, hd⟩ : ∃ d, ps.length = i + 1 + (d + 1) := ⟨ps.length - (i + 2), by omega⟩
  obtain ⟨F, hF⟩ : ∃ F, F = ps.flatMap pairCells := ⟨_, rfl⟩
  obtain ⟨G, hG⟩ : ∃ G, G = qs.flatMap pairCells := ⟨_, rfl⟩
  have hFl : F.length = (i + 1 + (d + 1)) * 2 := by rw [hF, flat_len2, hd]
  have hGl : G.length = 1 * 2 := by rw [hG, flat_len2, hqs]
  have hF1 : ∀ u ∈ F, u.oneCell' = true := by rw [hF]; exact flat_one ps
  have hG1 : ∀ u ∈ G, u.oneCell' = true := by rw [hG]; exact flat_one qs
  have hCl : cur.toList.length = cap * 2 := by rw [Array.length_toList]; exact hcs
  have hC : ∀ k, k < (i + 1 + (d + 1)) * 2 → cur.toList[k]? = F[k]? := fun k hk => by
    rw [hF, ← htk, List.getElem?_take, if_pos (by rw [hd]; omega)]
  have HF : Hid ((repP ps i qs).flatMap pairCells = F.take (i * 2) ++ G ++ F.drop ((i + 1) * 2) ∧ (repP ps i qs).length = i + (d + 1) + 1) := by
    refine ⟨by rw [repP_flat, hF, hG], ?_⟩
    rw [repP_len _ _ _ (by omega), hqs, hd]; omega
  rw [hd] at hcap ⊢
  have HV : Hid (∀ j u, G[j]? = some u → cv[j]? = some u) := fun j u hu => by
    rw [hG, ← hvt, List.getElem?_take] at hu
    split at hu
    · simpa using hu
    · cases hu
  clear hvt
  clear hF hG htk hi hqs
  generalize repP ps i qs = R at *
  have hiN : i + d + 2 ≤ 100 := by omega
  clear hd hl
  have HC := Lib.hid hC
  have HFl := Lib.hid hFl
  have HGl := Lib.hid hGl
  have HCl := Lib.hid hCl
  have HF1 := Lib.hid hF1
  have HG1 := Lib.hid hG1
  have HH := Lib.hid hh
  have HD : Hid ((F.drop ((i + 1) * 2)).length = (d + 1) * 2) := by show _ = _; rw [List.length_drop, hFl]; omega
  have HD1 : Hid (∀ u ∈ F.drop ((i + 1) * 2), u.oneCell' = true) := fun u hu => hF1 u (List.mem_of_mem_drop hu)
  have HCs := Lib.hid hcs
  have HCm := Lib.hid hcm
  have iI : (i : Int) + d + 2 ≤ 100 := by omega
  have i0I : (0 : Int) ≤ i := by omega
  have d0I : (0 : Int) ≤ d := by omega
  have cI : (i : Int) + d + 2 ≤ (cap : Int) := by omega
  have cM : (cap : Int) ≤ 9223372036854775807 := by simp [maxLen] at hcm; omega
  clear hh hC hFl hGl hCl hF1 hG1 hcs hcm
  go_enter Tryz.func238, Tryz.ntmps238
  go_upto_region 17 with (go_quiet (fail))
  have hh := HH.out.drewN nq
  have hk := (Kept.refl w).drewN nq
  generalize w.drewN nq = V at *
  have hgl := HGl.out
  have hsz := HCs.out
  have hrun := run_copy_rowN (P := Tryz.prog) V 75 75 3 87 2 g (i * 2) (i + 1 + (d + 1) - i) (cap - i) ⟨bx, 0, none⟩ 1 cx cur 87 G Tryz.underlying75 (by rw [I1]; simp [I3]) hh.got (by rw [hgl]; show _ = Nat.min _ _ * 2; simp only [Nat.min_def]; split <;> omega)
    (fun j u hu => by rw [Addr.add_lit, Nat.zero_add]; exact cell_of hh.tail.got j (HV.out j u hu)) (by rw [hgl, hsz]; omega) HG1.out
  obtain ⟨cur1, hc1⟩ : ∃ cur1 : Array Value, cur1 = (ovr cur.toList (i * 2) G).toArray := ⟨_, rfl⟩
  have hc1' : (cur.toList.take (i * 2) ++ G ++ cur.toList.drop (i * 2 + G.length)).toArray = cur1 := hc1.symm
  rw [hc1'] at hrun
  have h2 := Has.setRow hh cur1
  have hk2 := hk.setRow g cur1
  have H1 : Hid (cur1.toList = ovr cur.toList (i * 2) G ∧ cur1.size = cap * 2) := by
    refine ⟨by rw [hc1], ?_⟩
    rw [← Array.length_toList, hc1]
    show (ovr _ _ _).length = _
    rw [len_ovr _ _ _ (by rw [hgl, HCl.out]; omega), HCl.out]
  have H2 := Lib.hid h2
  have HK2 := Lib.hid hk2
  clear hh hk h2 hk2 hc1 hc1' hgl hsz HH
  go_upto_region 18 with (at_builtin; refine wpList_copy_run rfl (.tmp 95) (.tmp 96) 75 75 rfl _ _ rfl rfl hrun ?_)
  clear hrun
  have h2 := H2.out
  clear H2
  generalize V.setRow g cur1 = V2 at *

  have Hs : Hid (∀ w' : World, w'.heap[g]? = some (.cells cur1 87 (0, 0)) → ∀ j u, (F.drop ((i + 1) * 2))[j]? = some u → w'.cell? ((⟨g, (i + 1) * 2, none⟩ : Addr).add j) = some u) := fun w' hg j u hu => by
    rw [Addr.add_lit]
    refine cell_of hg _ ?_
    have hfl := HFl.out
    have hgl := HGl.out
    have hcl := HCl.out
    have hlt := (List.getElem?_eq_some_iff.1 hu).1
    rw [HD.out] at hlt
    rw [← Array.getElem?_toList, H1.out.1, get_ovr _ _ _ (by rw [hgl, hcl]; omega), if_neg (by omega), if_neg (by rw [hgl]; omega), HC.out _ (by omega)]
    rwa [List.getElem?_drop] at hu
  obtain ⟨FA, HFA⟩ : ∃ FA : List (Nat × Addr × Value), Hid (FA = []) := ⟨_, rfl⟩
  have hFA : ∀ p ∈ FA, V2.cell? p.2.1 = some p.2.2 := by rw [HFA.out]; exact fnil
  haveI neFA : ∀ k, Nonempty (In (factsOf FA k)) := fun k => ⟨⟨_, factsOf.drew hFA k⟩⟩
  refine ws_begin [0, 1, 2, 3, 4, 5, 6, 7, 8, 9] (factsOf FA) (pts g (.cells cur1 87 (0, 0)) :: pts bx (.cells cv 87 (0, 0)) :: l) #[0, 0, 0, 4, 14, 31, 0, 0, 192, 511] (by kernel_rfl) (by kernel_rfl) (by kernel_rfl) factsOf.alloc (factsOf.drew hFA) h2 ?_
  clear hFA
  iterate 3 (refine ws_q (at_lit rfl) rfl rfl rfl ?_; go_big_quiet_op; show WS _ _ _ _ _ _ _ _ _ _)
  refine ws_len (at_lit rfl) rfl rfl (.tmp 100) 75 rfl Tryz.underlying75 _ _ _ rfl ?_
  simp only [Act.put, List.setIfInBounds_toArray, List.set_cons_zero, List.set_cons_succ]
  show WS _ _ _ _ _ _ _ _ _ _
  iterate 5 (refine ws_q (at_lit rfl) rfl rfl rfl ?_; go_big_quiet_op; show WS _ _ _ _ _ _ _ _ _ _)
  refine ws_copy_in (at_lit rfl) rfl rfl (.tmp 103) (.tmp 106) 75 rfl 87 2 Tryz.underlying75 (by rw [I1]; simp [I3]) rfl ⟨g, (i + 1) * 2, none⟩ _ _ (F.drop ((i + 1) * 2)) rfl (by rw [HD.out]; show _ = Nat.min _ _ * 2; simp only [Nat.min_def]; split <;> omega) (fun w' F' hh => ?_) HD1.out (by rw [HD.out, H1.out.2]; omega) (fun w' F' hh => lives (l' := []) (by rw [HFA.out]; simp [liveFacts, Nat.testBit]) fnil) ?_
  · exact Hs.out w' hh.got
  simp only [Act.put, List.setIfInBounds_toArray, List.set_cons_zero, List.set_cons_succ]
  show WS _ _ _ _ _ _ _ _ _ _
  refine ws_end ?_
  intro w9 hK9 h9
  clear HFA neFA FA h2
  obtain ⟨cur2, hc2⟩ : ∃ cur2 : Array Value, cur2 = (ovr cur1.toList ((i + 1) * 2) (F.drop ((i + 1) * 2))).toArray := ⟨_, rfl⟩
  have h9' : Has w9 (pts g (.cells cur2 87 (0, 0)) :: pts bx (.cells cv 87 (0, 0)) :: l) := by rw [hc2]; exact h9
  have hrun := run_clear_no (P := Tryz.prog) w9 75 87 0 Tryz.underlying75 (some ⟨g, (i + 1 + (d + 1)) * 2, none⟩) (cap - (i + 1 + (d + 1)))
  have HF2 : Hid (PairsPost R l w (.returned (.slice (some ⟨g, 0, none⟩) (i + 1 + (d + 1)) cap)) w9) := by
    have hfl := HFl.out
    have hgl := HGl.out
    have hcl := HCl.out
    have hdl := HD.out
    obtain ⟨h1l, h1s⟩ := H1.out
    have h1n : cur1.toList.length = cap * 2 := by rw [Array.length_toList]; exact h1s
    have hc2l : cur2.toList = ovr cur1.toList ((i + 1) * 2) (F.drop ((i + 1) * 2)) := by rw [hc2]
    have hc2s : cur2.size = cap * 2 := by rw [← Array.length_toList, hc2l, len_ovr _ _ _ (by omega), h1n]
    refine ⟨_, rfl, HK2.out.trans hK9, ?_⟩
    unfold pairsS
    rw [HF.out.2, show i + (d + 1) + 1 = i + 1 + (d + 1) by omega]
    refine Has.tail (A := pts bx (.cells cv 87 (0, 0))) (Has.swap (h9'.row_of_pts ?_ hcap HCm.out hc2s ?_))
    · rw [HF.out.1, len_rep F G i d 1 hfl hgl]; omega
    · rw [HF.out.1]
      refine take_of_get (by rw [len_rep F G i d 1 hfl hgl]; omega) fun k hk => ?_
      rw [get_rep F G i d 1 hfl hgl, hc2l, get_ovr _ _ _ (by omega), h1l, get_ovr _ _ _ (by omega)]
      by_cases k1 : k < i * 2
      · rw [if_pos (by omega), if_pos k1, if_pos k1, HC.out k (by omega)]
      · by_cases k2 : k < i * 2 + 1 * 2
        · rw [if_pos (by omega), if_neg k1, if_pos (by omega), if_neg k1, if_pos k2]
        · rw [if_neg (by omega), if_pos (by omega), if_neg k1, if_neg k2, List.getElem?_drop]
          congr 1; omega
  clear h9 h9' hc2 HF HC HFl HGl HCl HF1 HG1 HD HD1 HCs HCm H1 HK2 Hs HV hK9
  have hrun0 := run_clear_no (P := Tryz.prog) w9 75 87 0 Tryz.underlying75 (some ⟨g, 0, none⟩) 0
  go_wp2
  all_goals go_ret
  all_goals first | exact HF2.out | (have hq := HF2.out; rw [‹cap = i + 1 + (d + 1)›] at hq; exact hq)
set_option maxHeartbeats 4000000 in
set_option maxRecDepth 100000 in
theorem sl_Rep_none {w : World} {l : List Say} (ps qs : List (Int × Int)) {g cap cx : Nat} {cur : Array Value} (i : Nat) (hi : i + 1 < ps.length) (hl : ps.length ≤ 100) (hqs : qs.length = 0) (hcap : ps.length ≤ cap) (hcm : cap ≤ maxLen) (hcs : cur.size = cap * 2) (htk : cur.toList.take (ps.length * 2) = ps.flatMap pairCells)
    (hh : Has w (pts g (.cells cur 87 (0, 0)) :: l)) (va : Option Addr) :
    Calls Tryz.prog 238 #[.slice (some ⟨g, 0, none⟩) ps.length cap, .int .i64 i, .int .i64 ((i : Int) + 1), .slice va 0 cx] w (PairsPost (repP ps i qs) l w) := by
  obtain ⟨i0, I1, I2, I3, I4⟩ := info_parts info_pair
  obtain ⟨d, hd⟩ : ∃ d, ps.length = i + 1 + (d + 1) := ⟨ps.length - (i + 2), by omega⟩
  obtain ⟨F, hF⟩ : ∃ F, F = ps.flatMap pairCells := ⟨_, rfl⟩
  obtain ⟨G, hG⟩ : ∃ G, G = qs.flatMap pairCells := ⟨_, rfl⟩
  have hFl : F.length = (i + 1 + (d + 1)) * 2 := by rw [hF, flat_len2, hd]
  have hGl : G.length = 0 * 2 := by rw [hG, flat_len2, hqs]
  have hF1 : ∀ u ∈ F, u.oneCell' = true := by rw [hF]; exact flat_one ps
  have hG1 : ∀ u ∈ G, u.oneCell' = true := by rw [hG]; exact flat_one qs
  have hCl : cur.toList.length = cap * 2 := by rw [Array.length_toList]; exact hcs
  have hC : ∀ k, k < (i + 1 + (d + 1)) * 2 → cur.toList[k]? = F[k]? := fun k hk => by
    rw [hF, ← htk, List.getElem?_take, if_pos (by rw [hd]; omega)]
  have HF : Hid ((repP ps i qs).flatMap pairCells = F.take (i * 2) ++ G ++ F.drop ((i + 1) * 2) ∧ (repP ps i qs).length = i + (d + 1) + 0) := by
    refine ⟨by rw [repP_flat, hF, hG], ?_⟩
    rw [repP_len _ _ _ (by omega), hqs, hd]; omega
  rw [hd] at hcap ⊢
  clear hF hG htk hi hqs
  generalize repP ps i qs = R at *
  have hiN : i + d + 2 ≤ 100 := by omega
  clear hd hl
  have HC := Lib.hid hC
  have HFl := Lib.hid hFl
  have HGl := Lib.hid hGl
  have HCl := Lib.hid hCl
  have HF1 := Lib.hid hF1
  have HG1 := Lib.hid hG1
  have HH := Lib.hid hh
  have HD : Hid ((F.drop ((i + 1) * 2)).length = (d + 1) * 2) := by show _ = _; rw [List.length_drop, hFl]; omega
  have HD1 : Hid (∀ u ∈ F.drop ((i + 1) * 2), u.oneCell' = true) := fun u hu => hF1 u (List.mem_of_mem_drop hu)
  have HCs := Lib.hid hcs
  have HCm := Lib.hid hcm
  have iI : (i : Int) + d + 2 ≤ 100 := by omega
  have i0I : (0 : Int) ≤ i := by omega
  have d0I : (0 : Int) ≤ d := by omega
  have cI : (i : Int) + d + 2 ≤ (cap : Int) := by omega
  have cM : (cap : Int) ≤ 9223372036854775807 := by simp [maxLen] at hcm; omega
  clear hh hC hFl hGl hCl hF1 hG1 hcs hcm
  go_enter Tryz.func238, Tryz.ntmps238
  go_upto_region 17 with (go_quiet (fail))
  have h2 := HH.out.drewN nq
  have HK2 := Lib.hid ((Kept.refl w).drewN nq)
  generalize w.drewN nq = V at *
  have hrun := fun (L C D : Nat) => run_copy_no (P := Tryz.prog) V 75 75 3 87 2 (some ⟨g, i * 2, none⟩) va L C D Tryz.underlying75 (by rw [I1]; simp [I3])
  clear HH
  have H2 := Lib.hid h2
  clear h2
  go_upto_region 18 with (at_builtin; refine wpList_copy_run rfl (.tmp 95) (.tmp 96) 75 75 rfl _ _ rfl rfl (hrun _ _ _) ?_)
  clear hrun
  have h2 := H2.out
  clear H2
  have Hs : Hid (∀ w' : World, w'.heap[g]? = some (.cells cur 87 (0, 0)) → ∀ j u, (F.drop ((i + 1) * 2))[j]? = some u → w'.cell? ((⟨g, (i + 1) * 2, none⟩ : Addr).add j) = some u) := fun w' hg j u hu => by
    rw [Addr.add_lit]
    refine cell_of hg _ ?_
    have hlt := (List.getElem?_eq_some_iff.1 hu).1
    rw [HD.out] at hlt
    rw [← Array.getElem?_toList, HC.out _ (by omega)]
    rwa [List.getElem?_drop] at hu

  obtain ⟨FA, HFA⟩ : ∃ FA : List (Nat × Addr × Value), Hid (FA = []) := ⟨_, rfl⟩
  have hFA : ∀ p ∈ FA, V.cell? p.2.1 = some p.2.2 := by rw [HFA.out]; exact fnil
  haveI neFA : ∀ k, Nonempty (In (factsOf FA k)) := fun k => ⟨⟨_, factsOf.drew hFA k⟩⟩
  refine ws_begin [0, 1, 2, 3, 4, 5, 6, 7, 8, 9] (factsOf FA) (pts g (.cells cur 87 (0, 0)) :: l) #[0, 0, 0, 4, 14, 31, 0, 0, 192, 511] (by kernel_rfl) (by kernel_rfl) (by kernel_rfl) factsOf.alloc (factsOf.drew hFA) h2 ?_
  clear hFA
  iterate 3 (refine ws_q (at_lit rfl) rfl rfl rfl ?_; go_big_quiet_op; show WS _ _ _ _ _ _ _ _ _ _)
  refine ws_len (at_lit rfl) rfl rfl (.tmp 100) 75 rfl Tryz.underlying75 _ _ _ rfl ?_
  simp only [Act.put, List.setIfInBounds_toArray, List.set_cons_zero, List.set_cons_succ]
  show WS _ _ _ _ _ _ _ _ _ _
  iterate 5 (refine ws_q (at_lit rfl) rfl rfl rfl ?_; go_big_quiet_op; show WS _ _ _ _ _ _ _ _ _ _)
  refine ws_copy_in (at_lit rfl) rfl rfl (.tmp 103) (.tmp 106) 75 rfl 87 2 Tryz.underlying75 (by rw [I1]; simp [I3]) rfl ⟨g, (i + 1) * 2, none⟩ _ _ (F.drop ((i + 1) * 2)) rfl (by rw [HD.out]; show _ = Nat.min _ _ * 2; simp only [Nat.min_def]; split <;> omega) (fun w' F' hh => ?_) HD1.out (by rw [HD.out, HCs.out]; omega) (fun w' F' hh => lives (l' := []) (by rw [HFA.out]; simp [liveFacts, Nat.testBit]) fnil) ?_
  · exact Hs.out w' hh.got
  simp only [Act.put, List.setIfInBounds_toArray, List.set_cons_zero, List.set_cons_succ]
  show WS _ _ _ _ _ _ _ _ _ _
  refine ws_end ?_
  intro w9 hK9 h9
  clear HFA neFA FA h2
  obtain ⟨cur1, hc1⟩ : ∃ cur1 : Array Value, cur1 = (ovr cur.toList (i * 2) (F.drop ((i + 1) * 2))).toArray := ⟨_, rfl⟩
  have h9' : Has w9 (pts g (.cells cur1 87 (0, 0)) :: l) := by rw [hc1]; exact h9
  have hdl := HD.out
  have hcl := HCl.out
  have h1l : cur1.toList = ovr cur.toList (i * 2) (F.drop ((i + 1) * 2)) := by rw [hc1]
  have h1n : cur1.toList.length = cap * 2 := by rw [h1l, len_ovr _ _ _ (by omega), hcl]
  have h1s : cur1.size = cap * 2 := by rw [← Array.length_toList, h1n]
  have hrun := run_clear_rowN (P := Tryz.prog) w9 75 87 0 i0 (.agg #[.int .i64 0, .int .i64 0]) Tryz.underlying75 I1 I2 g ((i + (d + 1)) * 2) 1 (cap - (i + (d + 1))) (by omega) cur1 87 h9'.got (by rw [h1s]; show (i + (d + 1)) * 2 + 1 * 2 ≤ _; omega) (by rw [zero1]; intro v hv; simp at hv; subst hv; rfl)
  have hone : i + 1 + (d + 1) - (i + (d + 1)) = 1 := by omega
  obtain ⟨cur2, hc2⟩ : ∃ cur2 : Array Value, cur2 = (ovr cur1.toList ((i + (d + 1)) * 2) (Builtin.zeroCells (Value.agg #[.int .i64 0, .int .i64 0]).cells 1).toList).toArray := ⟨_, rfl⟩
  have hz2 : (Builtin.zeroCells (Value.agg #[.int .i64 0, .int .i64 0]).cells 1).toList.length = 2 := by rw [zero1]; rfl
  have hc2' : (cur1.toList.take ((i + (d + 1)) * 2) ++ (Builtin.zeroCells (Value.agg #[.int .i64 0, .int .i64 0]).cells 1).toList ++ cur1.toList.drop ((i + (d + 1)) * 2 + 1 * (Value.agg #[.int .i64 0, .int .i64 0]).cells.size)).toArray = cur2 := by
    rw [hc2]; unfold ovr; rw [hz2]; rfl
  rw [hc2'] at hrun
  have hrun2 := hrun
  rw [show (Builtin.clear_ #[75] 0 #[.slice (some ⟨g, (i + (d + 1)) * 2, none⟩) 1 (cap - (i + (d + 1)))]) = (Builtin.clear_ #[75] 0 #[.slice (some ⟨g, (i + (d + 1)) * 2, none⟩) (i + 1 + (d + 1) - (i + (d + 1))) (cap - (i + (d + 1)))]) by rw [hone]] at hrun2
  have h10 := Has.setRow h9' cur2
  have HF2 : Hid (PairsPost R l w (.returned (.slice (some ⟨g, 0, none⟩) (i + (d + 1)) cap)) (w9.setRow g cur2)) := by
    have hfl := HFl.out
    have hgl := HGl.out
    have hc2l : cur2.toList = ovr cur1.toList ((i + (d + 1)) * 2) (Builtin.zeroCells (Value.agg #[.int .i64 0, .int .i64 0]).cells 1).toList := by rw [hc2]
    have hc2s : cur2.size = cap * 2 := by rw [← Array.length_toList, hc2l, len_ovr _ _ _ (by omega), h1n]
    refine ⟨_, rfl, (HK2.out.trans hK9).setRow g cur2, ?_⟩
    unfold pairsS
    rw [HF.out.2, Nat.add_zero]
    refine h10.row_of_pts ?_ (by omega) HCm.out hc2s ?_
    · rw [HF.out.1, len_rep F G i d 0 hfl hgl]; omega
    · rw [HF.out.1]
      refine take_of_get (by rw [len_rep F G i d 0 hfl hgl]; omega) fun k hk => ?_
      rw [get_rep F G i d 0 hfl hgl, hc2l, get_ovr _ _ _ (by omega), h1l, get_ovr _ _ _ (by omega)]
      by_cases k1 : k < i * 2
      · rw [if_pos (by omega), if_pos k1, if_pos k1, HC.out k (by omega)]
      · rw [if_pos (by omega), if_neg k1, if_pos (by omega), if_neg k1, if_neg (by omega), List.getElem?_drop]
        congr 1; omega
  clear h9 h9' h10 hc1 hc2 hc2' HF HC HFl HGl HCl HF1 HG1 HD HD1 HCs HCm HK2 Hs hK9 hone h1l h1n h1s hz2 hdl hcl
  go_wp2

  all_goals go_ret
  all_goals first | exact HF2.out | (have hq := HF2.out; rw [‹cap = i + (d + 1)›] at hq; exact hq)
end Go.Proofs.YtgbgneiciabidaaGreatDoor
