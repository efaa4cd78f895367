/-
  Plain: slices.Insert at pairs, one of them.
-/
import Derived.Test.YtgbgneiciabidaaGreatDoorGs15
import Derived.Test.YtgbgneiciabidaaGreatDoorGs16
import Derived.Lib.Overlaps
import Derived.Test.YtgbgneiciabidaaGreatDoorGs9
namespace Go.Proofs.YtgbgneiciabidaaGreatDoor
open Go Go.RowKit
set_option linter.all false
set_option maxHeartbeats 8000000
def insP (ps : List (Int × Int)) (i : Nat) (p : Int × Int) : List (Int × Int) := ps.take i ++ p :: ps.drop i
theorem insP_len (ps : List (Int × Int)) (i : Nat) (p : Int × Int) (hi : i <= ps.length) : (insP ps i p).length = ps.length + 1 := by
 unfold insP; rw [List.length_append, List.length_cons, List.length_take, List.length_drop]; omega
theorem insP_flat (ps : List (Int × Int)) (i : Nat) (p : Int × Int) : (insP ps i p).flatMap pairCells = (ps.flatMap pairCells).take (i * 2) ++ ([.int .i64 p.1, .int .i64 p.2] ++ (ps.flatMap pairCells).drop (i * 2)) := by
 unfold insP; rw [List.flatMap_append, List.flatMap_cons, flat_take, flat_drop]; rfl
set_option maxRecDepth 100000 in
theorem sl_Insert_end {w : World} {l : List Say} {v : Value} (ps : List (Int × Int)) (p : Int × Int) {bx : Nat} (h : Has w (pairsS v ps :: l)) (hm : pts bx (.cells #[.int .i64 p.1, .int .i64 p.2] 87 (0, 0)) ∈ l) (hl : ps.length <= 100) (h0 : 0 < ps.length) :
  Calls Tryz.prog 165 #[v, .int .i64 ps.length, .slice (some ⟨bx, 0, none⟩) 1 1] w (PairsPost (insP ps ps.length p) l w) := by
 obtain ⟨i0, I1, I2, I3, I4⟩ := info_parts info_pair
 obtain ⟨g, cap, cur, rfl, hnc, hcm, hcs, htk, hxl, hh⟩ := h.row_out (by omega)
 have hb := h.at (b := bx) (o := .cells #[.int .i64 p.1, .int .i64 p.2] 87 (0, 0)) (List.mem_cons_of_mem _ hm)
 have HC : Hid (∀ j u, [Value.int .i64 p.1, .int .i64 p.2][j]? = some u -> w.cell? ((⟨bx, 0, none⟩ : Addr).add j) = some u) := fun j u hu => by
  rw [Addr.add_lit, Nat.zero_add]
  exact cell_of hb j (by simpa using hu)
 have HI : Hid (insP ps ps.length p = ps ++ [p] /\ (insP ps ps.length p).length = ps.length + 1) := ⟨by unfold insP; simp, insP_len _ _ _ (Nat.le_refl _)⟩
 have H := Lib.hid h
 have cI : (ps.length : Int) <= (cap : Int) := by omega
 have cM : (cap : Int) <= 9223372036854775807 := by simp [maxLen] at hcm; omega
 have lI : (ps.length : Int) <= 100 := by omega
 clear h hh htk hcs hxl hb hm
 go_enter Tryz.func165, Tryz.ntmps165
 go_wp2_with (at_builtin; go_loud (refine wpList_append_row (l := l) rfl (.tmp 23) (.tmp 24) 75 rfl 87 i0 (.agg #[.int .i64 0, .int .i64 0]) 2 16 Tryz.underlying75 I1 I2 I3 I4 rfl (by decide) (.slice (some ⟨g, 0, none⟩) ps.length cap) ps.length (ps.flatMap pairCells) rfl H.out ⟨bx, 0, none⟩ 1 1 [.int .i64 p.1, .int .i64 p.2] rfl rfl HC.out (by intro u hu; simp at hu; rcases hu with rfl | rfl <;> rfl) (by simp [maxLen]; omega) (by omega) ?_); intro v' w' hK hh; have HK := Lib.hid hK; have HH := Lib.hid hh; clear hK hh)
 all_goals
  go_ret
  obtain ⟨e1, e2⟩ := HI.out
  refine ⟨_, rfl, HK.out, ?_⟩
  unfold pairsS
  rw [e2, e1, List.flatMap_append]
  exact HH.out
set_option maxRecDepth 100000 in
theorem sl_Insert_room {w : World} {l : List Say} (ps : List (Int × Int)) (p : Int × Int) {bx g cap : Nat} {cur : Array Value} (i : Nat) (hi : i < ps.length) (hl : ps.length <= 100) (hroom : ps.length + 1 <= cap) (hcm : cap <= maxLen) (hcs : cur.size = cap * 2) (htk : cur.toList.take (ps.length * 2) = ps.flatMap pairCells)
  (hh : Has w (pts g (.cells cur 87 (0, 0)) :: l)) (hm : pts bx (.cells #[.int .i64 p.1, .int .i64 p.2] 87 (0, 0)) ∈ l) :
  Calls Tryz.prog 165 #[.slice (some ⟨g, 0, none⟩) ps.length cap, .int .i64 i, .slice (some ⟨bx, 0, none⟩) 1 1] w (PairsPost (insP ps i p) l w) := by
 obtain ⟨i0, I1, I2, I3, I4⟩ := info_parts info_pair
 have hb := hh.at (b := bx) (o := .cells #[.int .i64 p.1, .int .i64 p.2] 87 (0, 0)) (List.mem_cons_of_mem _ hm)
 have hg := hh.got
 have hne : bx ≠ g := fun e => hh.pts_ne hm e.symm
 have hov : ∀ lb cb, (callFunc 209 #[.slice (some ⟨bx, 0, none⟩) 1 1, .slice (some ⟨g, (i + 1) * 2, none⟩) lb cb]).run Tryz.prog w = .ok (.value (.bool false)) w := fun lb cb => by
  rw [run_callFunc_extern Tryz.func209 (by kernel_rfl) (by kernel_rfl) (by kernel_rfl) (e := Extern.SlicesOverlaps.overlaps #[75, 75] #[4]) (by kernel_rfl),
   Lib.run_overlaps_apart w 75 4 87 Tryz.underlying75 2 (fun w => by simp [sizeOf, typeInfo, I1, I3]) ⟨bx, 0, none⟩ ⟨g, (i + 1) * 2, none⟩ 1 1 lb cb hne 87 87 2 (cap * 2) (by simp [World.shape?, hb]) (by simp [World.shape?, hg, hcs]) (by omega) (thaw_of hb 0) (thaw_of hb 2)]
  rfl
 have HH := Lib.hid hh
 have Hxs := Lib.hid htk
 have Hcs := Lib.hid hcs
 have Hm := Lib.hid hm
 have iI : (i : Int) < (ps.length : Int) := by omega
 have lI : (ps.length : Int) <= 100 := by omega
 have cI : (ps.length : Int) + 1 <= (cap : Int) := by omega
 have cM : (cap : Int) <= 9223372036854775807 := by simp [maxLen] at hcm; omega
 generalize hn : ps.length = n at *
 have Hn := Lib.hid hn
 have hw1 : IntKind.i64.wrap ((n : Int) + 1) = (n : Int) + 1 := by rw [IntKind.wrap_i64]; omega
 have hw2 : IntKind.i64.wrap ((i : Int) + 1) = (i : Int) + 1 := by rw [IntKind.wrap_i64]; omega
 have hb2 : ¬ (cap = i + 1) := by omega
 have hb4 : ¬ (cap = i) := by omega
 clear hn hh hb hg hm htk hcs
 go_enter Tryz.func165, Tryz.ntmps165
 go_wp2_with (simp only [hov])
 clear hov
 obtain ⟨D, hD⟩ : ∃ D, D = (ps.drop i).flatMap pairCells := ⟨_, rfl⟩
 have HDl : Hid (D.length = (n - i) * 2) := by
  show _ = _
  rw [hD, flat_len2, List.length_drop, Hn.out]
 have HD1 : Hid (∀ u ∈ D, u.oneCell' = true) := by rw [hD]; exact flat_one _
 have Hsrc : Hid (∀ w' F, Has w' (pts g (.cells cur 87 (0, 0)) :: l ++ F) -> ∀ j u, D[j]? = some u -> w'.cell? ((⟨g, i * 2, none⟩ : Addr).add j) = some u) := fun w' F hq j u hu => by
  rw [Addr.add_lit]
  refine cell_of hq.got _ ?_
  rw [hD, flat_drop, <- Hxs.out, List.getElem?_drop, List.getElem?_take] at hu
  split at hu
  ·simpa using hu
  ·cases hu
 have HD := Lib.hid hD
 have HSZ := Lib.hid Hcs.out
 clear hD
 have hh := HH.out
 clear HH
 obtain ⟨FA, HFA⟩ : ∃ FA : List (Nat × Addr × Value), Hid (FA = []) := ⟨_, rfl⟩
 have hFA : ∀ p ∈ FA, w.cell? p.2.1 = some p.2.2 := by rw [HFA.out]; exact fnil
 haveI neFA : ∀ k, Nonempty (In (factsOf FA k)) := fun k => ⟨⟨_, factsOf.drew hFA k⟩⟩
 refine ws_begin [0, 1, 2, 3, 4, 5, 6, 7, 8] (factsOf FA) (pts g (.cells cur 87 (0, 0)) :: l) #[0, 0, 0, 6, 15, 0, 0, 96, 255] (by kernel_rfl) (by kernel_rfl) (by kernel_rfl) factsOf.alloc (factsOf.drew hFA) hh ?_
 clear hFA
 iterate 8 (refine ws_q (at_lit rfl) rfl rfl rfl ?_; go_big_quiet_op; show WS _ _ _ _ _ _ _ _ _ _)
 refine ws_copy_in (at_lit rfl) rfl rfl (.tmp 73) (.tmp 76) 75 rfl 87 2 Tryz.underlying75 (by rw [I1]; simp [I3]) rfl ⟨g, i * 2, none⟩ (n + 1 - i) (cap - i) D rfl (by rw [HDl.out]; show _ = Nat.min _ _ * 2; simp only [Nat.min_def]; split <;> omega) (fun w' F hh => ?_) HD1.out (by rw [HDl.out, HSZ.out]; omega) (fun w' F hh => lives (l' := []) (by rw [HFA.out]; simp [liveFacts, Nat.testBit]) fnil) ?_
 ·exact Hsrc.out w' F hh
 simp only [Act.put, List.setIfInBounds_toArray, List.set_cons_zero, List.set_cons_succ]
 show WS _ _ _ _ _ _ _ _ _ _
 refine ws_end ?_
 intro w9 hK9 h9
 clear HFA neFA FA hh
 rw [HDl.out] at h9
 obtain ⟨cur1, hc1⟩ : ∃ cur1, cur1 = (cur.toList.take ((i + 1) * 2) ++ D ++ cur.toList.drop ((i + 1) * 2 + (n - i) * 2)).toArray := ⟨_, rfl⟩
 rw [<- hc1] at h9
 have hs1 : cur1.size = cap * 2 := by
  have := Hcs.out
  have := HDl.out
  rw [hc1]; simp only [List.size_toArray, List.length_append, List.length_take, List.length_drop, Array.length_toList]; omega
 have hb9 := h9.at (b := bx) (o := .cells #[.int .i64 p.1, .int .i64 p.2] 87 (0, 0)) (List.mem_cons_of_mem _ Hm.out)
 have hrun := run_copy_rowN (P := Tryz.prog) w9 75 75 3 87 2 g (i * 2) (n + 1 - i) (cap - i) ⟨bx, 0, none⟩ 1 1 cur1 87 [.int .i64 p.1, .int .i64 p.2] Tryz.underlying75 (by rw [I1]; simp [I3]) h9.got (by rw [show Nat.min 1 (n + 1 - i) = 1 by simp only [Nat.min_def]; split <;> omega]; rfl)
  (fun j u hu => by rw [Addr.add_lit, Nat.zero_add]; exact cell_of hb9 j (by simpa using hu)) (by rw [hs1]; show i * 2 + 2 <= _; omega) (by intro u hu; simp at hu; rcases hu with rfl | rfl <;> rfl)
 obtain ⟨cur2, hc2⟩ : ∃ cur2, cur2 = (cur1.toList.take (i * 2) ++ [Value.int .i64 p.1, Value.int .i64 p.2] ++ cur1.toList.drop (i * 2 + [Value.int .i64 p.1, Value.int .i64 p.2].length)).toArray := ⟨_, rfl⟩
 rw [<- hc2] at hrun
 have h10 := Has.setRow h9 cur2
 have hk10 := hK9.setRow g cur2
 have HF : Hid (PairsPost (insP ps i p) l w (.returned (.slice (some ⟨g, 0, none⟩) (n + 1) cap)) (w9.setRow g cur2)) := by
  have hil : (insP ps i p).length = n + 1 := by rw [insP_len _ _ _ (by have := Hn.out; omega), Hn.out]
  refine ⟨_, rfl, hk10, ?_⟩
  unfold pairsS
  rw [hil]
  have hcu := Hcs.out
  have hdl := HDl.out
  have hc1l : cur1.toList = cur.toList.take ((i + 1) * 2) ++ (D ++ cur.toList.drop ((i + 1) * 2 + (n - i) * 2)) := by rw [hc1, List.append_assoc]
  have hcl : cur.toList.length = cap * 2 := by rw [Array.length_toList]; exact hcu
  have ht1 : cur1.toList.take (i * 2) = cur.toList.take (i * 2) := by
   rw [hc1l, List.take_append_of_le_length (by rw [List.length_take]; omega), List.take_take, Nat.min_eq_left (by omega)]
  have hd1 : cur1.toList.drop (i * 2 + 2) = D ++ cur.toList.drop ((i + 1) * 2 + (n - i) * 2) := by
   rw [hc1l, List.drop_append, List.drop_of_length_le (by rw [List.length_take]; omega), List.nil_append, show i * 2 + 2 - (cur.toList.take ((i + 1) * 2)).length = 0 by rw [List.length_take]; omega, List.drop_zero]
  have hx : (insP ps i p).flatMap pairCells = cur1.toList.take (i * 2) ++ ([Value.int .i64 p.1, Value.int .i64 p.2] ++ D) := by
   rw [insP_flat, ht1, HD.out, flat_drop, <- Hxs.out, List.take_take, Nat.min_eq_left (by omega)]
  refine h10.row_of_pts ?_ (by omega) hcm ?_ ?_
  ·rw [flat_len2, hil]
  ·rw [hc2]; simp only [List.size_toArray, List.length_append, List.length_take, List.length_drop, Array.length_toList, hs1, List.length_cons, List.length_nil]; omega
  ·rw [hc2, hx]
   show ((cur1.toList.take (i * 2) ++ [Value.int .i64 p.1, Value.int .i64 p.2] ++ cur1.toList.drop (i * 2 + 2)).take ((n + 1) * 2)) = _
   rw [hd1, List.append_assoc, <- List.append_assoc [Value.int .i64 p.1, Value.int .i64 p.2], <- List.append_assoc, <- List.append_assoc, List.append_assoc (cur1.toList.take (i * 2)) _ D]
   rw [List.take_append_of_le_length (by simp only [List.length_append, List.length_take, Array.length_toList, hs1, List.length_cons, List.length_nil, hdl]; omega), List.take_of_length_le (by simp only [List.length_append, List.length_take, Array.length_toList, hs1, List.length_cons, List.length_nil, hdl]; omega)]
 clear h9 h10 hk10 hK9 hs1 HDl HD1 HD Hsrc HSZ Hxs Hcs Hn hb9 Hm hc1 hc2
 generalize w9.setRow g cur2 = w10 at *
 go_wp2
 go_ret
 exact HF.out
/-
  Plain: slices.Insert at pairs, where a new row is made; all roads.
-/
theorem zerosN (n : Nat) : (Builtin.zeroCells (Value.agg #[.int .i64 0, .int .i64 0]).cells n).toList.length = n * 2 := zeros_list _ _
theorem wpList_append_run {P : Program} {w : World} {ops : Array Oper} {rest : List Oper} {o : Oper} {a : Act} {Q : Exit -> Act -> World -> Prop} (hgd : o.guard = none) (d s : Operand) (t t' : TypeId)
  (ho : o.op = .call { callee := .builtin .append, args := #[d, s], argTypes := #[t, t'] }) (v u : Value) (hd : a.eval d = v) (hs : a.eval s = u) {v' : Value} {w' : World}
  (hr : (Builtin.append_ #[t, t'] o.type #[v, u]).run P w = .ok v' w') (h : wpList P ops Q rest (a.put o.dst v') w') : wpList P ops Q (o :: rest) a w :=
 wpList_plain hgd fun _ hK => by
  unfold Oper.wp execOp
  simp only [ho, resolve, invoke, builtin, Sem.run_bind, Sem.run_pure, Result.andThen_ok, List.map_toArray, List.map_cons, List.map_nil, hd, hs, hr]
  exact hK _ _ h
theorem wpList_copy_run {P : Program} {w : World} {ops : Array Oper} {rest : List Oper} {o : Oper} {a : Act} {Q : Exit -> Act -> World -> Prop} (hgd : o.guard = none) (d s : Operand) (t t' : TypeId)
  (ho : o.op = .call { callee := .builtin .copy, args := #[d, s], argTypes := #[t, t'] }) (v u : Value) (hd : a.eval d = v) (hs : a.eval s = u) {v' : Value} {w' : World}
  (hr : (Builtin.copy_ #[t, t'] o.type #[v, u]).run P w = .ok v' w') (h : wpList P ops Q rest (a.put o.dst v') w') : wpList P ops Q (o :: rest) a w :=
 wpList_plain hgd fun _ hK => by
  unfold Oper.wp execOp
  simp only [ho, resolve, invoke, builtin, Sem.run_bind, Sem.run_pure, Result.andThen_ok, List.map_toArray, List.map_cons, List.map_nil, hd, hs, hr]
  exact hK _ _ h
set_option maxRecDepth 100000 in
theorem sl_Insert_grow {w : World} {l : List Say} (ps : List (Int × Int)) (p : Int × Int) {bx g cap : Nat} {cur : Array Value} (i : Nat) (hi : i < ps.length) (hl : ps.length <= 100) (hroom : cap = ps.length) (hcs : cur.size = cap * 2) (htk : cur.toList.take (ps.length * 2) = ps.flatMap pairCells)
  (hh : Has w (pts g (.cells cur 87 (0, 0)) :: l)) (hm : pts bx (.cells #[.int .i64 p.1, .int .i64 p.2] 87 (0, 0)) ∈ l) :
  Calls Tryz.prog 165 #[.slice (some ⟨g, 0, none⟩) ps.length cap, .int .i64 i, .slice (some ⟨bx, 0, none⟩) 1 1] w (PairsPost (insP ps i p) l w) := by
 obtain ⟨i0, I1, I2, I3, I4⟩ := info_parts info_pair
 subst hroom
 have hg := hh.got
 have hcl : cur.toList.length = ps.length * 2 := by rw [Array.length_toList]; exact hcs
 have hcur : cur.toList = ps.flatMap pairCells := by rw [<- htk, List.take_of_length_le (by omega)]
 -- the new row
 obtain ⟨G, hG⟩ : ∃ G, G = grownCap w (i + (ps.length + 1 - i)) ps.length 87 := ⟨_, rfl⟩
 have hGn : ps.length + 1 <= G := by have := grownCap_ge w (i + (ps.length + 1 - i)) ps.length 87; omega
 have hGm : G <= maxLen := by rw [hG]; exact grownCap_le_maxLen w _ _ _ (by simp [maxLen]; omega)
 have hrun := Lib.run_append_grow_zeros (P := Tryz.prog) w 75 3 75 87 i0 (.agg #[.int .i64 0, .int .i64 0]) .i64 .i64 Tryz.underlying75 Tryz.underlying3 I1 I2 (some ⟨g, 0, none⟩) i ps.length (cur.toList.take (i * 2))
  (by
   rw [I3]
   exact run_firstCells_some w.drew 2 i ⟨g, 0, none⟩ i ps.length (cur.toList.take (i * 2)) (by rw [List.length_take]; omega) (fun j v hj => by
    rw [Addr.add_lit, Nat.zero_add]
    rw [List.getElem?_take] at hj
    split at hj
    ·exact cell_of (w := w.drew) hg j (by simpa using hj)
    ·cases hj)) (ps.length + 1 - i) (by omega) (by omega) (by omega) (by omega) (by rw [I4]; omega) (by rw [I4]; exact growslice_fits (by omega) (by omega))
 rw [show ((ps.length + 1 - i : Nat) : Int) = (ps.length : Int) + 1 - (i : Int) by omega, <- hG, show i + (ps.length + 1 - i) = ps.length + 1 by omega] at hrun
 obtain ⟨C0, hC0⟩ : ∃ C0, C0 = (cur.toList.take (i * 2)).toArray ++ Builtin.zeroCells (Value.agg #[.int .i64 0, .int .i64 0]).cells (ps.length + 1 - i) ++ Builtin.zeroCells (Value.agg #[.int .i64 0, .int .i64 0]).cells (G - (ps.length + 1)) := ⟨_, rfl⟩
 rw [<- hC0] at hrun
 have hz0 : ∀ q, (Builtin.zeroCells (Value.agg #[.int .i64 0, .int .i64 0]).cells q).size = q * 2 := fun q => by have := zerosN q; rwa [Array.length_toList] at this
 have hC0s : C0.size = G * 2 := by
  rw [hC0]; simp only [Array.size_append, List.size_toArray, List.length_take, hz0, hcl]; omega
 have hC0t : C0.toList.take (i * 2) = cur.toList.take (i * 2) := by
  rw [hC0]
  simp only [Array.toList_append, List.append_assoc]
  rw [List.take_append_of_le_length (by rw [List.length_take]; omega), List.take_of_length_le (by rw [List.length_take]; omega)]
 clear hC0
 have h2 := hh.drew.alloc (.cells C0 87)
 have hk2 := (Kept.refl w).drew.alloc (.cells C0 87)
 have hsz : w.drew.heap.size = w.heap.size := rfl
 rw [hsz] at h2
 generalize hW2 : w.drew.alloc (.cells C0 87) = W2 at *
 clear hW2 hsz
 generalize hgz : w.heap.size = gz at *
 have hb2 := h2.at (b := bx) (o := .cells #[.int .i64 p.1, .int .i64 p.2] 87 (0, 0)) (List.mem_cons_of_mem _ (List.mem_cons_of_mem _ hm))
 have hrun2 := run_copy_rowN (P := Tryz.prog) W2 75 75 3 87 2 gz (i * 2) (ps.length + 1 - i) (G - i) ⟨bx, 0, none⟩ 1 1 C0 87 [.int .i64 p.1, .int .i64 p.2] Tryz.underlying75 (by rw [I1]; simp [I3]) h2.got (by rw [show Nat.min 1 (ps.length + 1 - i) = 1 by simp only [Nat.min_def]; split <;> omega]; rfl)
  (fun j u hu => by rw [Addr.add_lit, Nat.zero_add]; exact cell_of hb2 j (by simpa using hu)) (by rw [hC0s]; show i * 2 + 2 <= _; omega) (by intro u hu; simp at hu; rcases hu with rfl | rfl <;> rfl)
 obtain ⟨C1, hC1⟩ : ∃ C1, C1 = (C0.toList.take (i * 2) ++ [Value.int .i64 p.1, Value.int .i64 p.2] ++ C0.toList.drop (i * 2 + [Value.int .i64 p.1, Value.int .i64 p.2].length)).toArray := ⟨_, rfl⟩
 rw [<- hC1] at hrun2
 have h3 := Has.setRow h2 C1
 have hk3 := hk2.setRow gz C1
 have hC1s : C1.size = G * 2 := by
  rw [hC1]; simp only [List.size_toArray, List.length_append, List.length_take, List.length_drop, Array.length_toList, hC0s, List.length_cons, List.length_nil]; omega
 have hC1t : C1.toList.take ((i + 1) * 2) = cur.toList.take (i * 2) ++ [Value.int .i64 p.1, Value.int .i64 p.2] := by
  rw [hC1, <- hC0t]
  rw [List.take_append_of_le_length (by simp only [List.length_append, List.length_take, Array.length_toList, hC0s, List.length_cons, List.length_nil]; omega), List.take_of_length_le (by simp only [List.length_append, List.length_take, Array.length_toList, hC0s, List.length_cons, List.length_nil]; omega)]
 clear hC1 hb2 h2 hk2 hC0s hC0t hz0
 generalize hW3 : W2.setRow gz C1 = W3 at *
 clear hW3
 have iI : (i : Int) < (ps.length : Int) := by omega
 have lI : (ps.length : Int) <= 100 := by omega
 have gI : (ps.length : Int) + 1 <= (G : Int) := by omega
 have gM : (G : Int) <= 9223372036854775807 := by simp [maxLen] at hGm; omega
 have HH := Lib.hid h3
 have HK := Lib.hid hk3
 have Hcur := Lib.hid hcur
 have HC1s := Lib.hid hC1s
 have HC1t := Lib.hid hC1t
 have HGm := Lib.hid hGm
 clear hh hg hm htk hcs hcl h3 hk3 hcur hC1s hC1t hG hGm
 generalize hn : ps.length = n at *
 have Hn := Lib.hid hn
 have hw1 : IntKind.i64.wrap ((n : Int) + 1) = (n : Int) + 1 := by rw [IntKind.wrap_i64]; omega
 have hw2 : IntKind.i64.wrap ((i : Int) + 1) = (i : Int) + 1 := by rw [IntKind.wrap_i64]; omega
 have hw3 : IntKind.i64.wrap ((n : Int) + 1 - (i : Int)) = (n : Int) + 1 - (i : Int) := by rw [IntKind.wrap_i64]; omega
 have hq2 : ¬ (G = i + 1) := by omega
 have hq4 : ¬ (G = i) := by omega
 have hq5 : ¬ (n = i) := by omega
 clear hn
 go_enter Tryz.func165, Tryz.ntmps165
 go_upto_region 11 with (at_builtin; first | (go_loud (refine wpList_append_run rfl (.tmp 34) (.tmp 39) 75 3 rfl _ _ rfl rfl hrun ?_)) | (go_loud (refine wpList_copy_run rfl (.tmp 43) (.tmp 44) 75 75 rfl _ _ rfl rfl hrun2 ?_)))
 obtain ⟨D, hD⟩ : ∃ D, D = (ps.drop i).flatMap pairCells := ⟨_, rfl⟩
 have HDl : Hid (D.length = (n - i) * 2) := by
  show _ = _
  rw [hD, flat_len2, List.length_drop, Hn.out]
 have HD1 : Hid (∀ u ∈ D, u.oneCell' = true) := by rw [hD]; exact flat_one _
 have Hsrc : Hid (∀ w' F, Has w' (pts gz (.cells C1 87 (0, 0)) :: (pts g (.cells cur 87 (0, 0)) :: l) ++ F) -> ∀ j u, D[j]? = some u -> w'.cell? ((⟨g, i * 2, none⟩ : Addr).add j) = some u) := fun w' F hq j u hu => by
  rw [Addr.add_lit]
  refine cell_of (hq.at (b := g) (o := .cells cur 87 (0, 0)) (by simp)) _ ?_
  rw [hD, flat_drop, <- Hcur.out, List.getElem?_drop] at hu
  simpa using hu
 have HD := Lib.hid hD
 clear hD
 have hh := HH.out
 clear HH
 obtain ⟨FA, HFA⟩ : ∃ FA : List (Nat × Addr × Value), Hid (FA = []) := ⟨_, rfl⟩
 have hFA : ∀ p ∈ FA, W3.cell? p.2.1 = some p.2.2 := by rw [HFA.out]; exact fnil
 haveI neFA : ∀ k, Nonempty (In (factsOf FA k)) := fun k => ⟨⟨_, factsOf.drew hFA k⟩⟩
 refine ws_begin [0, 1, 2, 3, 4, 5, 6, 7, 8] (factsOf FA) (pts gz (.cells C1 87 (0, 0)) :: pts g (.cells cur 87 (0, 0)) :: l) #[0, 0, 0, 6, 15, 0, 0, 96, 255] (by kernel_rfl) (by kernel_rfl) (by kernel_rfl) factsOf.alloc (factsOf.drew hFA) hh ?_
 clear hFA
 iterate 8 (refine ws_q (at_lit rfl) rfl rfl rfl ?_; go_big_quiet_op; show WS _ _ _ _ _ _ _ _ _ _)
 refine ws_copy_in (at_lit rfl) rfl rfl (.tmp 50) (.tmp 53) 75 rfl 87 2 Tryz.underlying75 (by rw [I1]; simp [I3]) rfl ⟨g, i * 2, none⟩ (n - i) (n - i) D rfl (by rw [HDl.out]; show _ = Nat.min _ _ * 2; simp only [Nat.min_def]; split <;> omega) (fun w' F hh => ?_) HD1.out (by rw [HDl.out, HC1s.out]; omega) (fun w' F hh => lives (l' := []) (by rw [HFA.out]; simp [liveFacts, Nat.testBit]) fnil) ?_
 ·exact Hsrc.out w' F hh
 simp only [Act.put, List.setIfInBounds_toArray, List.set_cons_zero, List.set_cons_succ]
 show WS _ _ _ _ _ _ _ _ _ _
 refine ws_end ?_
 intro w9 hK9 h9
 clear HFA neFA FA hh
 have HF : Hid (PairsPost (insP ps i p) l w (.returned (.slice (some ⟨gz, 0, none⟩) (n + 1) G)) w9) := by
  have hil : (insP ps i p).length = n + 1 := by rw [insP_len _ _ _ (by have := Hn.out; omega), Hn.out]
  refine ⟨_, rfl, HK.out.trans hK9, ?_⟩
  unfold pairsS
  rw [hil]
  have hdl := HDl.out
  have h1s := HC1s.out
  have hx : (insP ps i p).flatMap pairCells = C1.toList.take ((i + 1) * 2) ++ D := by
   rw [insP_flat, HC1t.out, HD.out, flat_drop, <- Hcur.out, List.append_assoc]
  refine Has.tail (A := pts g (.cells cur 87 (0, 0))) (Has.swap (Has.row_of_pts h9 ?_ (by omega) HGm.out ?_ ?_))
  ·rw [flat_len2, hil]
  ·simp only [List.size_toArray, List.length_append, List.length_take, List.length_drop, Array.length_toList, h1s, hdl]; omega
  ·rw [hx]
   simp only
   rw [List.take_append_of_le_length (by simp only [List.length_append, List.length_take, Array.length_toList, h1s, hdl]; omega), List.take_of_length_le (by simp only [List.length_append, List.length_take, Array.length_toList, h1s, hdl]; omega)]
 clear h9 hK9 HDl HD1 HD Hsrc Hcur HC1s HC1t HGm Hn HK
 go_wp2
 go_ret
 exact HF.out
theorem sl_Insert {w : World} {l : List Say} {v : Value} (ps : List (Int × Int)) (p : Int × Int) {bx : Nat} (h : Has w (pairsS v ps :: l)) (hm : pts bx (.cells #[.int .i64 p.1, .int .i64 p.2] 87 (0, 0)) ∈ l) (i : Nat) (hi : i <= ps.length) (hl : ps.length <= 100) (h0 : 0 < ps.length) :
  Calls Tryz.prog 165 #[v, .int .i64 i, .slice (some ⟨bx, 0, none⟩) 1 1] w (PairsPost (insP ps i p) l w) := by
 rcases Nat.lt_or_ge i ps.length with hlt | hge
 ·obtain ⟨g, cap, cur, rfl, hnc, hcm, hcs, htk, hxl, hh⟩ := h.row_out h0
  rcases Nat.lt_or_ge ps.length cap with hr | hr
  ·exact sl_Insert_room ps p i hlt hl hr hcm hcs htk hh hm
  ·exact sl_Insert_grow ps p i hlt hl (by omega) hcs htk hh hm
 ·obtain rfl : i = ps.length := by omega
  exact sl_Insert_end ps p h hm hl h0
/-
  Nodes (layer 10): Put, Drop.
-/
def putP (ps : List (Int × Int)) (k v : Int) : List (Int × Int) :=
 if (ps.map (·.1))[lowB (ps.map (·.1)) k]? = some k then ps.set (lowB (ps.map (·.1)) k) (k, v) else insP ps (lowB (ps.map (·.1)) k) (k, v)
def NPutPost (ns : List Nd) (l : List Say) (w : World) (r : Ending) (w' : World) : Prop := ∃ v T, r = .returned (.tuple #[v, .nilIface]) /\ T.map Nv.nd = ns /\ Kept w w' /\ Has w' (nodesL v T ++ l)
theorem ordTo_at (ps : List (Int × Int)) : ∀ n, ordTo ps n = true -> ∀ k, k < n -> ordAt ps k = true
 | 0, _, _, h => by omega
 | n + 1, ho, k, hk => by
  simp only [ordTo, Bool.and_eq_true] at ho
  by_cases e : k = n
  ·subst e; exact ho.2
  ·exact ordTo_at ps n ho.1 k (by omega)
theorem ordTo_lt (ps : List (Int × Int)) (h : ordTo ps ps.length = true) : ∀ (d i : Nat) (p q : Int × Int), ps[i]? = some p -> ps[i + d + 1]? = some q -> p.1 < q.1
 | 0, i, p, q, hp, hq => by
  have hk := (List.getElem?_eq_some_iff.1 hq).1
  have h1 := ordTo_at ps _ h (i + 0 + 1) hk
  unfold ordAt at h1
  rw [hq] at h1
  simp only [Nat.add_zero, Nat.add_sub_cancel, hp, Bool.and_eq_true, Bool.or_eq_true, beq_iff_eq, decide_eq_true_eq] at h1
  rcases h1.2 with h2 | h2
  ·omega
  ·exact h2
 | d + 1, i, p, q, hp, hq => by
  have hk := (List.getElem?_eq_some_iff.1 hq).1
  have hm : ps[i + d + 1]? = some (ps[i + d + 1]'(by omega)) := List.getElem?_eq_getElem _
  have h1 := ordTo_lt ps h d i p _ hp hm
  have h2 := ordTo_lt ps h 0 (i + d + 1) _ q hm (by rw [show i + d + 1 + 0 + 1 = i + (d + 1) + 1 by omega]; exact hq)
  omega
theorem ok_less {n : Nd} (h : n.ok = true) : n.keys.Pairwise (· < ·) := by
 have hl := ok_lens h
 have ho : ordTo n.pairs n.pairs.length = true := by
  simp only [Nd.ok, Bool.and_eq_true] at h
  exact h.2
 refine List.pairwise_iff_getElem.2 fun i j hi hj hij => ?_
 have hz : ∀ (t : Nat) (ht : t < n.keys.length), n.pairs[t]? = some (n.keys[t], n.vals[t]'(by omega)) := fun t ht => by
  unfold Nd.pairs
  rw [List.getElem?_zip_eq_some]
  exact ⟨List.getElem?_eq_getElem ht, List.getElem?_eq_getElem (by omega)⟩
 exact ordTo_lt n.pairs ho (j - i - 1) i _ _ (hz i hi) (by rw [show i + (j - i - 1) + 1 = j by omega]; exact hz j hj)
theorem ok_rising {n : Nd} (h : n.ok = true) : n.keys.Pairwise (· <= ·) := (ok_less h).imp fun h => Int.le_of_lt h
theorem pairs_keys {n : Nd} (h : n.ok = true) : n.pairs.map (·.1) = n.keys := by
 obtain ⟨_, _, e, _, _⟩ := ok_lens h
 unfold Nd.pairs
 rw [List.map_fst_zip (by omega)]
theorem Has.drop_mid {w : World} {m l : List Say} {A : Say} (h : Has w (m ++ A :: l)) : Has w (m ++ l) := (h.perm List.perm_middle).tail
theorem flat_set (k v : Int) : ∀ (ps : List (Int × Int)) (i : Nat), (ps.set i (k, v)).flatMap pairCells = ((ps.flatMap pairCells).set (i * 2) (.int .i64 k)).set (i * 2 + 1) (.int .i64 v)
 | [], i => by simp
 | p :: ps, 0 => by simp [pairCells]
 | p :: ps, i + 1 => by
  have ih := flat_set k v ps i
  rw [show (i + 1) * 2 = i * 2 + 2 by omega]
  simp only [List.set_cons_succ, List.flatMap_cons, ih, pairCells]
  rfl
set_option maxRecDepth 100000 in
theorem node_Put {w : World} {l : List Say} (nd : Nd) {kv vv : Value} (key val : Int) (h : Has w l) (hk : intsS kv nd.keys ∈ l) (hv : intsS vv nd.vals ∈ l) (ok : nd.ok = true) (hp : pairOk key val = true) :
  Calls Tryz.prog 101 #[nd.val kv vv, .int .i64 key, .int .i64 val] w (NPutPost (cutN nd.level (putP nd.pairs key val)) l w) := by
 obtain ⟨i0, I1, I2, I3, I4⟩ := info_parts info_pair
 obtain ⟨o0, o1, o2, o3, o4⟩ := ok_lens ok
 have hA := (h.alloc (.cells #[.int .i64 nd.level, kv, vv] 35)).alloc (.cells #[.int .i64 key, .int .i64 val] 87)
 have hKA := ((Kept.refl w).alloc (.cells #[.int .i64 nd.level, kv, vv] 35)).alloc (.cells #[.int .i64 key, .int .i64 val] 87)
 simp only [World.size_alloc] at hA
 have HCk := Lib.hid (node_Check nd hA (kv := kv) (vv := vv) (by simp [hk]) (by simp [hv]))
 have hpr := pairs_keys ok
 have Hpr := Lib.hid hpr
 have Hok := Lib.hid ok
 have Hrs := Lib.hid (ok_rising ok)
 have HA := Lib.hid hA
 have HK := Lib.hid hKA
 have Hk := Lib.hid hk
 have Hv := Lib.hid hv
 have Hp := Lib.hid hp
 have HO := Lib.hid (And.intro o2 (And.intro o3 o4))
 clear h hA hKA hk hv ok hp hpr o2 o3 o4
 simp only [Nd.val] at HCk ⊢
 go_enter Tryz.func101, Tryz.ntmps101
 go_wp2_with fail
 refine HCk.out.mono ?_
 rintro r w1 ⟨hr, hK1, h1⟩
 rw [if_pos Hok.out] at hr
 subst hr
 have hr5 := h1.at (b := w.heap.size + 1) (o := .cells #[.int .i64 key, .int .i64 val] 87 (0, 0)) (by simp)
 have p0 : w1.cell? ⟨w.heap.size + 1, 0, none⟩ = some (.int .i64 key) := cell_of hr5 0 rfl
 have p1 : w1.cell? ⟨w.heap.size + 1, 1, none⟩ = some (.int .i64 val) := cell_of hr5 1 rfl
 have lp := World.block_lt_of_cell? _ _ p0
 have HR := Lib.hid (pair_right (w := w1) key val)
 rw [Hp.out] at HR
 have H1 := Lib.hid h1
 have HK1 := Lib.hid (HK.out.trans hK1)
 clear h1 hK1 HCk HK HA hr5
 go_wp2_with fail
 refine HR.out.mono ?_
 rintro r w2 ⟨rfl, hb2⟩
 have h2 := H1.out.below hb2
 have HK2 := Lib.hid (HK1.out.trans (Kept.below hb2))
 have hr2 := h2.at (b := w.heap.size) (o := .cells #[.int .i64 nd.level, kv, vv] 35 (0, 0)) (by simp)
 have n0 : w2.cell? ⟨w.heap.size, 0, none⟩ = some (.int .i64 nd.level) := cell_of hr2 0 rfl
 have n1 : w2.cell? ⟨w.heap.size, 1, none⟩ = some kv := cell_of hr2 1 rfl
 have n2 : w2.cell? ⟨w.heap.size, 2, none⟩ = some vv := cell_of hr2 2 rfl
 have ln := World.block_lt_of_cell? _ _ n0
 have HPs := Lib.hid (node_pairs nd h2 (kv := kv) (vv := vv) (by simp [Hk.out]) (by simp [Hv.out]) HO.out.1 (by have := HO.out.2.2; omega))
 simp only [Nd.val] at HPs
 clear h2 hb2 hr2 HR H1 HK1 p0 p1 lp
 go_wp2_with fail
 refine HPs.out.mono ?_
 rintro r w3 ⟨v, rfl, hK3, h3⟩
 clear n0 n1 n2 ln HPs
 have hr2 := h3.at (b := w.heap.size) (o := .cells #[.int .i64 nd.level, kv, vv] 35 (0, 0)) (by simp)
 have n0 : w3.cell? ⟨w.heap.size, 0, none⟩ = some (.int .i64 nd.level) := cell_of hr2 0 rfl
 have n1 : w3.cell? ⟨w.heap.size, 1, none⟩ = some kv := cell_of hr2 1 rfl
 have n2 : w3.cell? ⟨w.heap.size, 2, none⟩ = some vv := cell_of hr2 2 rfl
 have ln := World.block_lt_of_cell? _ _ n0
 have HFd := Lib.hid (node_Find nd (w := w3) (kv := kv) (vv := vv) (h3.rd (by simp [Hk.out])) Hrs.out (by have := HO.out.2.2; omega) key)
 have H3 := Lib.hid h3
 have HK3 := Lib.hid (HK2.out.trans hK3)
 simp only [Nd.val] at HFd
 clear h3 hK3 HK2 hr2
 go_wp2_with fail
 refine HFd.out.mono ?_
 have hpk := Hpr.out
 have hat : lowB nd.keys key <= nd.keys.length := (List.takeWhile_sublist _).length_le
 have hpl : (nd.keys.zip nd.vals).length = nd.keys.length := by rw [List.length_zip, HO.out.1, Nat.min_self]
 have HW : Hid (putP nd.pairs key val = if nd.keys[lowB nd.keys key]? = some key then nd.pairs.set (lowB nd.keys key) (key, val) else insP nd.pairs (lowB nd.keys key) (key, val)) := by
  show _ = _
  unfold putP; rw [hpk]
 by_cases hex : nd.keys[lowB nd.keys key]? = some key
 ·rw [if_pos hex]
  have hlt : lowB nd.keys key < nd.keys.length := (List.getElem?_eq_some_iff.1 hex).1
  have HW2 : Hid (putP nd.pairs key val = nd.pairs.set (lowB nd.keys key) (key, val)) := by
   show _ = _
   rw [HW.out, if_pos hex]
  clear HW hex hat hpk
  generalize lowB nd.keys key = at_ at *
  rintro r w4 ⟨rfl, hb4⟩
  have h4 := H3.out.below hb4
  have HK4 := Lib.hid (HK3.out.trans (Kept.below hb4))
  clear hb4 HFd n0 n1 n2 ln
  obtain ⟨g, cap, cur, rfl, hnc, hcm, hcs, htk, hxl, hh⟩ := (show Has w4 (rowS 87 2 v (nd.keys.zip nd.vals).length ((nd.keys.zip nd.vals).flatMap pairCells) :: pts (w.heap.size + 1) (.cells #[.int .i64 key, .int .i64 val] 87 (0, 0)) :: pts w.heap.size (.cells #[.int .i64 nd.level, kv, vv] 35 (0, 0)) :: l) from h4).row_out (by have := HO.out.2.1; omega)
  obtain ⟨_, _, ev, _, hr⟩ := h4.pairs_read (.head _)
  injection ev with ev1 ev2 ev3
  obtain ⟨g', eg, c0, c1⟩ := hr at_ _ (List.getElem?_eq_getElem (by omega))
  generalize (nd.keys.zip nd.vals)[at_] = pq at c0 c1
  rw [<- ev1] at eg
  injection eg with eg
  injection eg with eg _ _
  subst eg
  have f0 := thaw_of hh.got (at_ * 2)
  have f1 := thaw_of hh.got (at_ * 2 + 1)
  have lg := World.block_lt_of_cell? _ _ c0
  have hr5 := hh.at (b := w.heap.size + 1) (o := .cells #[.int .i64 key, .int .i64 val] 87 (0, 0)) (by simp)
  have p0 : w4.cell? ⟨w.heap.size + 1, 0, none⟩ = some (.int .i64 key) := cell_of hr5 0 rfl
  have p1 : w4.cell? ⟨w.heap.size + 1, 1, none⟩ = some (.int .i64 val) := cell_of hr5 1 rfl
  have lp := World.block_lt_of_cell? _ _ p0
  have h5 := (hh.setCell (at_ * 2) (.int .i64 key)).setCell (at_ * 2 + 1) (.int .i64 val)
  have hk5 := (HK4.out.setCell ⟨g, at_ * 2, none⟩ (.int .i64 key)).setCell ⟨g, at_ * 2 + 1, none⟩ (.int .i64 val)
  have hsl : (nd.pairs.set at_ (key, val)).length = (nd.keys.zip nd.vals).length := by rw [List.length_set]; rfl
  have h6 : Has ((w4.setCell ⟨g, at_ * 2, none⟩ (.int .i64 key)).setCell ⟨g, at_ * 2 + 1, none⟩ (.int .i64 val)) (pairsS (.slice (some ⟨g, 0, none⟩) (nd.keys.zip nd.vals).length cap) (nd.pairs.set at_ (key, val)) :: pts (w.heap.size + 1) (.cells #[.int .i64 key, .int .i64 val] 87 (0, 0)) :: pts w.heap.size (.cells #[.int .i64 nd.level, kv, vv] 35 (0, 0)) :: l) := by
   unfold pairsS
   rw [hsl]
   refine h5.row_of_pts ?_ hnc hcm ?_ ?_
   ·rw [flat_len2, hsl]
   ·simp [hcs]
   ·rw [flat_set, Array.toList_setIfInBounds, Array.toList_setIfInBounds, List.take_set, List.take_set, htk]; rfl
  have atI : (at_ : Int) < ((nd.keys.zip nd.vals).length : Int) := by omega
  have H6 := Lib.hid h6
  have HK6 := Lib.hid hk5
  have Hsl := Lib.hid hsl
  have hn100 : (nd.keys.zip nd.vals).length <= 100 := by have := HO.out.2.2; omega
  clear h4 hh hcs htk hxl h5 hk5 hr hr5 h6 ev1 ev2 ev3 HK4 hsl H3 HK3 hpl hlt
  generalize (nd.keys.zip nd.vals).length = n at *
  go_upto_region 11 with fail
  have h7 := H6.out
  generalize (w4.setCell ⟨g, at_ * 2, none⟩ (.int .i64 key)).setCell ⟨g, at_ * 2 + 1, none⟩ (.int .i64 val) = V at *
  have hr2 := h7.at (b := w.heap.size) (o := .cells #[.int .i64 nd.level, kv, vv] 35 (0, 0)) (by simp)
  have n0 : V.cell? ⟨w.heap.size, 0, none⟩ = some (.int .i64 nd.level) := cell_of hr2 0 rfl
  have n1 : V.cell? ⟨w.heap.size, 1, none⟩ = some kv := cell_of hr2 1 rfl
  have n2 : V.cell? ⟨w.heap.size, 2, none⟩ = some vv := cell_of hr2 2 rfl
  have ln := World.block_lt_of_cell? _ _ n0
  have HC := Lib.hid (node_cut nd.level kv vv (nd.pairs.set at_ (key, val)) h7 (PSrcs.of_pairs (.head _)) (by rw [Hsl.out]; omega))
  clear h7 hr2 c0 c1 f0 f1 p0 p1 lp lg H6
  go_wp2_with fail
  refine HC.out.mono ?_
  rintro r w9 ⟨v9, T, rfl, hT, hK9, h9⟩
  have HF : Hid (NPutPost (cutN nd.level (putP nd.pairs key val)) l w (.returned (.tuple #[v9, .nilIface])) w9) := ⟨v9, T, rfl, by rw [HW2.out]; exact hT, HK6.out.trans hK9, h9.drop_mid.drop_mid.drop_mid⟩
  clear hT hK9 h9 HC HK6 n0 n1 n2 ln
  go_wp2
  go_ret2
  exact HF.out
 ·rw [if_neg hex]
  have HW2 : Hid (putP nd.pairs key val = insP nd.pairs (lowB nd.keys key) (key, val)) := by
   show _ = _
   rw [HW.out, if_neg hex]
  clear HW hex hpk
  generalize lowB nd.keys key = at_ at *
  rintro r w4 ⟨rfl, hb4⟩
  obtain ⟨ps, hps⟩ : ∃ ps, ps = nd.keys.zip nd.vals := ⟨_, rfl⟩
  have h4 : Has w4 (pairsS v ps :: pts (w.heap.size + 1) (.cells #[.int .i64 key, .int .i64 val] 87 (0, 0)) :: pts w.heap.size (.cells #[.int .i64 nd.level, kv, vv] 35 (0, 0)) :: l) := by rw [hps]; exact H3.out.below hb4
  have HW3 : Hid (putP nd.pairs key val = insP ps at_ (key, val)) := by show _ = _; rw [HW2.out, hps]; rfl
  rw [<- hps] at hpl
  clear hps HW2
  have HK4 := Lib.hid ((HK3.out.trans (Kept.below hb4)).alloc (.cells #[.int .i64 key, .int .i64 val] 87))
  clear hb4 HFd n0 n1 n2 ln
  obtain ⟨_, _, ev, _, _⟩ := h4.pairs_read (.head _)
  subst ev
  have hr5 := h4.at (b := w.heap.size + 1) (o := .cells #[.int .i64 key, .int .i64 val] 87 (0, 0)) (by simp)
  have p0 : w4.cell? ⟨w.heap.size + 1, 0, none⟩ = some (.int .i64 key) := cell_of hr5 0 rfl
  have p1 : w4.cell? ⟨w.heap.size + 1, 1, none⟩ = some (.int .i64 val) := cell_of hr5 1 rfl
  have lp := World.block_lt_of_cell? _ _ p0
  have hw : IntKind.i64.wrap ((at_ : Int) - 1 + 1) = (at_ : Int) := by rw [IntKind.wrap_i64]; have := HO.out.2.2; omega
  have hw2 : IntKind.i64.wrap (at_ : Int) = (at_ : Int) := by rw [IntKind.wrap_i64]; have := HO.out.2.2; omega
  have hat7 : (at_ : Int) <= 7 := by have := HO.out.2.2; omega
  have Hat := Lib.hid hat
  clear hat
  have HI := Lib.hid (sl_Insert ps (key, val) (bx := w4.heap.size) ((h4.alloc (.cells #[.int .i64 key, .int .i64 val] 87)).swap) (.head _) at_ (by have := Hat.out; omega) (by have := HO.out.2.2; omega) (by have := HO.out.2.1; omega))
  have Hpl := Lib.hid hpl
  clear h4 hr5 H3 HK3 hpl
  go_wp2_with fail
  refine HI.out.mono ?_
  rintro r w5 ⟨v5, rfl, hK5, h5⟩
  have hr2 := h5.at (b := w.heap.size) (o := .cells #[.int .i64 nd.level, kv, vv] 35 (0, 0)) (by simp)
  have n0 : w5.cell? ⟨w.heap.size, 0, none⟩ = some (.int .i64 nd.level) := cell_of hr2 0 rfl
  have n1 : w5.cell? ⟨w.heap.size, 1, none⟩ = some kv := cell_of hr2 1 rfl
  have n2 : w5.cell? ⟨w.heap.size, 2, none⟩ = some vv := cell_of hr2 2 rfl
  have ln := World.block_lt_of_cell? _ _ n0
  have HC := Lib.hid (node_cut nd.level kv vv (insP ps at_ (key, val)) h5 (PSrcs.of_pairs (.head _)) (by have hpl := Hpl.out; have hat := Hat.out; rw [insP_len _ _ _ (by omega)]; have := HO.out.2.2; omega))
  have HK5 := Lib.hid (HK4.out.trans hK5)
  clear h5 hK5 HI hr2 p0 p1 lp HK4
  go_wp2_with fail
  refine HC.out.mono ?_
  rintro r w9 ⟨v9, T, rfl, hT, hK9, h9⟩
  have HF : Hid (NPutPost (cutN nd.level (putP nd.pairs key val)) l w (.returned (.tuple #[v9, .nilIface])) w9) := ⟨v9, T, rfl, by rw [HW3.out]; exact hT, HK5.out.trans hK9, h9.drop_mid.drop_mid.drop_mid.drop_mid⟩
  clear hT hK9 h9 HC HK5 n0 n1 n2 ln
  go_wp2
  go_ret2
  exact HF.out
end Go.Proofs.YtgbgneiciabidaaGreatDoor
