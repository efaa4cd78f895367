/-
  Plain: rows that are opened; copies of cells.
-/
import Derived.Test.YtgbgneiciabidaaGreatDoorGs14
import Derived.Laws.CopyRow
import Derived.Lib.AppendZerosOnto
import Derived.Lib.SliceRun
import Derived.Test.YtgbgneiciabidaaGreatDoorGs10
import Derived.Maps.OwnSet
namespace Go.Proofs.YtgbgneiciabidaaGreatDoor
open Go Go.RowKit
set_option linter.all false
set_option maxHeartbeats 8000000
theorem Has.row_out {w : World} {l : List Say} {e : TypeId} {size : Nat} {v : Value} {n : Nat} {xs : List Value} (h : Has w (rowS e size v n xs :: l)) (hn : 0 < n) :
  ∃ g cap cur, v = .slice (some ⟨g, 0, none⟩) n cap /\ n <= cap /\ cap <= maxLen /\ cur.size = cap * size /\ cur.toList.take (n * size) = xs /\ xs.length = n * size /\ Has w (pts g (.cells cur e (0, 0)) :: l) := by
 obtain ⟨h1, h2, ⟨hl, hA⟩, hl2, d1, d2⟩ := h
 rcases hA with ⟨_, h0⟩ | ⟨g, cap, cur, hv, hg, a, b, c, d⟩
 ·omega
 ·exact ⟨g, cap, cur, hv, a, b, c, d, hl, h1, h2, hg, hl2, d1, d2⟩
theorem run_copy_rowN {P : Program} (w : World) (dT sT ty elem : TypeId) (size : Nat) (g o dLen dCap : Nat) (a : Addr) (sLen sCap : Nat) (cur : Array Value) (t : TypeId) (cs : List Value)
  (hu : P.underlying dT = some (.slice elem)) (hs : (P.info? elem).map (·.size) = some size)
  (hg : w.heap[g]? = some (.cells cur t (0, 0))) (hn : cs.length = Nat.min sLen dLen * size)
  (hsrc : ∀ j v, cs[j]? = some v -> w.cell? (a.add j) = some v) (hfit : o + cs.length <= cur.size) (h1 : ∀ v ∈ cs, v.oneCell' = true) :
  (Builtin.copy_ #[dT, sT] ty #[.slice (some ⟨g, o, none⟩) dLen dCap, .slice (some a) sLen sCap]).run P w =
   .ok (goInt (Nat.min sLen dLen)) (w.setRow g (cur.toList.take o ++ cs ++ cur.toList.drop (o + cs.length)).toArray) := by
 have hl := run_loadCells_list (P := P) w a cs hsrc
 have hst := run_storeCells_at P g o t cs 0 cur w hg (by simpa using hfit) h1
 cases hq : P.info? elem with
 | none => simp [hq] at hs
 | some i =>
  have hi : i.size = size := by simpa [hq] using hs
  simp [Builtin.copy_, run_underlying hu, Builtin.lenOf, Builtin.firstCells, sizeOf, typeInfo, hq, hi, <- hn, hl, hst]
section
variable {ops : Array Oper} {S : Nat -> World -> Prop} {live : Nat -> Nat -> Prop} {kd : Nat -> Kd} {k : Nat} {ord : List Nat} {a : Act} {L2 : List Say} {o : Oper} {w0 : World} {Q : Exit -> Act -> World -> Prop}
theorem ws_append_in {P : Program} (ho : ops[k]? = some o) (hw : Region.wanted o (yielded ops a.tmps) = true) (hk : kd k = .mn) (s x : Operand) (t : TypeId) (hop : o.op = .call { callee := .builtin .append, args := #[s, x], argTypes := #[t, t] })
  (e : TypeId) (i : TypeInfo) (size : Nat) (ht : P.underlying t = some (.slice e)) (hi : P.info? e = some i) (hsize : i.size = size)
  {g n cap : Nat} {cur : Array Value} (hs : a.eval s = .slice (some ⟨g, 0, none⟩) n cap) (ad : Addr) (m c : Nat) (news : List Value) (hx : a.eval x = .slice (some ad) m c) (hl : news.length = m * size)
  (hnews : ∀ w F, Has w (pts g (.cells cur e (0, 0)) :: L2 ++ F) -> ∀ j u, news[j]? = some u -> w.cell? (ad.add j) = some u) (h1 : ∀ u ∈ news, u.oneCell' = true)
  (hroom : n + m <= cap) (hfit : n * size + news.length <= cur.size)
  (hS : ∀ w F, Has w (pts g (.cells (cur.toList.take (n * size) ++ news ++ cur.toList.drop (n * size + news.length)).toArray e (0, 0)) :: L2 ++ F) -> ∀ j, live k j -> S j w)
  (h : WS P ops S live kd Q w0 ord (a.put o.dst (.slice (some ⟨g, 0, none⟩) (n + m) cap)) (pts g (.cells (cur.toList.take (n * size) ++ news ++ cur.toList.drop (n * size + news.length)).toArray e (0, 0)) :: L2)) :
  WS P ops S live kd Q w0 (k :: ord) a (pts g (.cells cur e (0, 0)) :: L2) :=
 ws_mn ho hw hk (fun u L' => u = .slice (some ⟨g, 0, none⟩) (n + m) cap /\ L' = pts g (.cells (cur.toList.take (n * size) ++ news ++ cur.toList.drop (n * size + news.length)).toArray e (0, 0)) :: L2) (fun w F hSw hh => by
  subst hsize
  have hr := run_append_room (P := P) w t o.type e i ht hi g n cap cur hh.got ad m c news hl (hnews w F hh) h1 hroom hfit
  have hrun : (execOp a.eval o).run P w = .ok (.value (.slice (some ⟨g, 0, none⟩) (n + m) cap)) (w.setRow g (cur.toList.take (n * i.size) ++ news ++ cur.toList.drop (n * i.size + news.length)).toArray) := by
   unfold execOp
   simp only [hop, resolve, invoke, builtin, Sem.run_bind, Sem.run_pure, Result.andThen_ok, List.map_toArray, List.map_cons, List.map_nil, hs, hx, hr]
  rw [hrun]
  exact ⟨(Kept.refl w).setRow _ _, _, ⟨rfl, rfl⟩, Has.setRow hh _⟩) fun v' L' hp => by
   obtain ⟨rfl, rfl⟩ := hp
   exact ⟨hS, h⟩
theorem ws_copy_in {P : Program} (ho : ops[k]? = some o) (hw : Region.wanted o (yielded ops a.tmps) = true) (hk : kd k = .mn) (s x : Operand) (t : TypeId) (hop : o.op = .call { callee := .builtin .copy, args := #[s, x], argTypes := #[t, t] })
  (e : TypeId) (size : Nat) (ht : P.underlying t = some (.slice e)) (hi : (P.info? e).map (·.size) = some size)
  {g off n cap : Nat} {cur : Array Value} (hs : a.eval s = .slice (some ⟨g, off, none⟩) n cap) (ad : Addr) (m c : Nat) (news : List Value) (hx : a.eval x = .slice (some ad) m c) (hl : news.length = Nat.min m n * size)
  (hnews : ∀ w F, Has w (pts g (.cells cur e (0, 0)) :: L2 ++ F) -> ∀ j u, news[j]? = some u -> w.cell? (ad.add j) = some u) (h1 : ∀ u ∈ news, u.oneCell' = true)
  (hfit : off + news.length <= cur.size)
  (hS : ∀ w F, Has w (pts g (.cells (cur.toList.take off ++ news ++ cur.toList.drop (off + news.length)).toArray e (0, 0)) :: L2 ++ F) -> ∀ j, live k j -> S j w)
  (h : WS P ops S live kd Q w0 ord (a.put o.dst (goInt (Nat.min m n))) (pts g (.cells (cur.toList.take off ++ news ++ cur.toList.drop (off + news.length)).toArray e (0, 0)) :: L2)) :
  WS P ops S live kd Q w0 (k :: ord) a (pts g (.cells cur e (0, 0)) :: L2) :=
 ws_mn ho hw hk (fun u L' => u = goInt (Nat.min m n) /\ L' = pts g (.cells (cur.toList.take off ++ news ++ cur.toList.drop (off + news.length)).toArray e (0, 0)) :: L2) (fun w F hSw hh => by
  have hr := run_copy_rowN (P := P) w t t o.type e size g off n cap ad m c cur e news ht hi hh.got hl (hnews w F hh) hfit h1
  have hrun : (execOp a.eval o).run P w = .ok (.value (goInt (Nat.min m n))) (w.setRow g (cur.toList.take off ++ news ++ cur.toList.drop (off + news.length)).toArray) := by
   unfold execOp
   simp only [hop, resolve, invoke, builtin, Sem.run_bind, Sem.run_pure, Result.andThen_ok, List.map_toArray, List.map_cons, List.map_nil, hs, hx, hr]
  rw [hrun]
  exact ⟨(Kept.refl w).setRow _ _, _, ⟨rfl, rfl⟩, Has.setRow hh _⟩) fun v' L' hp => by
   obtain ⟨rfl, rfl⟩ := hp
   exact ⟨hS, h⟩
end
/-
  Plain: slices.Delete at pairs.
-/
theorem zeros_list (z : Value) (n : Nat) : (Builtin.zeroCells z.cells n).toList.length = n * z.cells.size := by simp [Builtin.zeroCells]
theorem run_clear_rowN {P : Program} (w : World) (t e ty : TypeId) (i : TypeInfo) (z : Value) (ht : P.underlying t = some (.slice e)) (hi : P.info? e = some i) (hz : i.zero = some z) (g o n c : Nat) (hn : 0 < n) (cur : Array Value) (T : TypeId)
  (hg : w.heap[g]? = some (.cells cur T (0, 0))) (hfit : o + n * z.cells.size <= cur.size) (h1 : ∀ v ∈ (Builtin.zeroCells z.cells n).toList, v.oneCell' = true) :
  (Builtin.clear_ #[t] ty #[.slice (some ⟨g, o, none⟩) n c]).run P w = .ok (.tuple #[]) (w.setRow g (cur.toList.take o ++ (Builtin.zeroCells z.cells n).toList ++ cur.toList.drop (o + n * z.cells.size)).toArray) := by
 have hst := run_storeCells_at P g o T (Builtin.zeroCells z.cells n).toList 0 cur w hg (by rw [zeros_list]; simpa using hfit) h1
 rw [zeros_list] at hst
 simp only [Nat.add_zero] at hst
 obtain ⟨m, rfl⟩ : ∃ m, n = m + 1 := ⟨n - 1, by omega⟩
 simp [Builtin.clear_, run_underlying ht, zeroValue, typeInfo, hi, hz, hst]
theorem zero1 : (Builtin.zeroCells (Value.agg #[.int .i64 0, .int .i64 0]).cells 1).toList = [.int .i64 0, .int .i64 0] := by kernel_rfl
theorem flat_len2 (ps : List (Int × Int)) : (ps.flatMap pairCells).length = ps.length * 2 := by
 induction ps with
 | nil => rfl
 | cons p ps ih => simp only [List.flatMap_cons, List.length_append, ih, List.length_cons]; simp [pairCells]; omega
theorem flat_take (ps : List (Int × Int)) (i : Nat) : (ps.take i).flatMap pairCells = (ps.flatMap pairCells).take (i * 2) := by
 induction ps generalizing i with
 | nil => simp
 | cons p ps ih =>
  cases i with
  | zero => simp
  | succ i =>
   simp only [List.take_succ_cons, List.flatMap_cons, ih, pairCells]
   rw [show (i + 1) * 2 = i * 2 + 2 by omega]
   simp
theorem flat_drop (ps : List (Int × Int)) (i : Nat) : (ps.drop i).flatMap pairCells = (ps.flatMap pairCells).drop (i * 2) := by
 induction ps generalizing i with
 | nil => simp
 | cons p ps ih =>
  cases i with
  | zero => simp
  | succ i =>
   simp only [List.drop_succ_cons, List.flatMap_cons, ih, pairCells]
   rw [show (i + 1) * 2 = i * 2 + 2 by omega]
   simp
theorem flat_one (ps : List (Int × Int)) : ∀ u ∈ ps.flatMap pairCells, u.oneCell' = true := by
 intro u hu
 obtain ⟨p, _, hp⟩ := List.mem_flatMap.1 hu
 simp [pairCells] at hp
 rcases hp with rfl | rfl <;> rfl
set_option maxRecDepth 100000 in
theorem sl_Delete {w : World} {l : List Say} {v : Value} (ps : List (Int × Int)) (h : Has w (pairsS v ps :: l)) (i : Nat) (hi : i < ps.length) (hl : ps.length <= 100) :
  Calls Tryz.prog 168 #[v, .int .i64 i, .int .i64 ((i : Int) + 1)] w (PairsPost (ps.eraseIdx i) l w) := by
 obtain ⟨i0, I1, I2, I3, I4⟩ := info_parts info_pair
 obtain ⟨g, cap, cur, rfl, hnc, hcm, hcs, htk, hxl, hh⟩ := h.row_out (by omega)
 have hg := hh.got
 have iI : (i : Int) < (ps.length : Int) := by omega
 have lI : (ps.length : Int) <= 100 := by omega
 have cI : (ps.length : Int) <= (cap : Int) := by omega
 have cM : (cap : Int) <= 9223372036854775807 := by simp [maxLen] at hcm; omega
 have HH := Lib.hid hh
 clear hh h hg
 go_enter Tryz.func168, Tryz.ntmps168
 generalize hn : ps.length = n at *
 have Hn := Lib.hid hn
 have Hxs := Lib.hid htk
 have Hcs := Lib.hid hcs
 clear hn htk hcs hxl
 go_upto_region 5 with fail
 obtain ⟨m5, hm5⟩ : ∃ m5, n = i + 1 + m5 := ⟨n - (i + 1), by omega⟩
 subst hm5
 obtain ⟨news, hnews⟩ : ∃ news, news = (ps.drop (i + 1)).flatMap pairCells := ⟨_, rfl⟩
 have Hnl : Hid (news.length = m5 * 2) := by
  show _ = _
  rw [hnews, flat_len2, List.length_drop, Hn.out]; omega
 have Hone : Hid (∀ u ∈ news, u.oneCell' = true) := by rw [hnews]; exact flat_one _
 have Hnews := Lib.hid hnews
 have hnth : ∀ j u, news[j]? = some u -> cur[(i + 1) * 2 + j]? = some u := fun j u hu => by
  rw [hnews, flat_drop, <- Hxs.out, List.getElem?_drop, List.getElem?_take] at hu
  split at hu
  ·simpa using hu
  ·cases hu
 have Hnth := Lib.hid hnth
 clear hnews hnth
 have mI : (m5 : Int) <= 100 := by omega
 have hh := HH.out
 clear HH
 by_cases hcap : cap = i + 1
 ·have hm0 : m5 = 0 := by omega
  subst hm0
  subst hcap
  have Hsrc : Hid (∀ w' : World, w'.heap[g]? = some (.cells cur 87 (0, 0)) -> ∀ j u, news[j]? = some u -> w'.cell? ((⟨g, 0, none⟩ : Addr).add j) = some u) := by
   intro w' hg' j u hu
   have := (List.getElem?_eq_some_iff.1 hu).1
   rw [Hnl.out] at this
   omega
  obtain ⟨FA, HFA⟩ : ∃ FA : List (Nat × Addr × Value), Hid (FA = []) := ⟨_, rfl⟩
  have hFA : ∀ p ∈ FA, w.cell? p.2.1 = some p.2.2 := by rw [HFA.out]; exact fnil
  haveI neFA : ∀ k, Nonempty (In (factsOf FA k)) := fun k => ⟨⟨_, factsOf.drew hFA k⟩⟩
  refine ws_begin [0, 1, 2, 3, 4, 5, 6, 7] (factsOf FA) (pts g (.cells cur 87 (0, 0)) :: l) #[0, 0, 3, 0, 0, 24, 63, 127] (by kernel_rfl) (by kernel_rfl) (by kernel_rfl) factsOf.alloc (factsOf.drew hFA) hh ?_
  clear hFA
  iterate 6 (refine ws_q (at_lit rfl) rfl rfl rfl ?_; go_big_quiet_op; show WS _ _ _ _ _ _ _ _ _ _)
  refine ws_append_in (at_lit rfl) rfl rfl (.tmp 22) (.tmp 25) 75 rfl 87 i0 2 Tryz.underlying75 I1 I3 rfl ⟨g, 0, none⟩ 0 0 news rfl (by rw [Hnl.out]) (fun w' F hh => ?_) Hone.out (by omega) (by rw [Hnl.out, Hcs.out]; omega) (fun w' F hh => lives (l' := []) (by rw [HFA.out]; simp [liveFacts, Nat.testBit]) fnil) ?_
  ·exact Hsrc.out w' hh.got
  simp only [Act.put, List.setIfInBounds_toArray, List.set_cons_zero, List.set_cons_succ]
  show WS _ _ _ _ _ _ _ _ _ _
  refine ws_q (at_lit rfl) rfl rfl rfl ?_
  go_big_quiet_op
  show WS _ _ _ _ _ _ _ _ _ _
  refine ws_end ?_
  intro w9 hK9 h9
  clear HFA neFA FA hh
  rw [Hnl.out] at h9
  obtain ⟨cur1, hc1⟩ : ∃ cur1, cur1 = (cur.toList.take (i * 2) ++ news ++ cur.toList.drop (i * 2 + 0 * 2)).toArray := ⟨_, rfl⟩
  rw [<- hc1] at h9
  have hs1 : cur1.size = (i + 1) * 2 := by
   have := Hcs.out
   have := Hnl.out
   rw [hc1]; simp only [List.size_toArray, List.length_append, List.length_take, List.length_drop, Array.length_toList]; omega
  have ht1 : cur1.toList.take ((i + 0) * 2) = cur.toList.take (i * 2) ++ news := by
   have h1 := Hcs.out
   have h2 := Hnl.out
   rw [hc1]
   simp only [List.append_assoc]
   rw [<- List.append_assoc]
   have : (cur.toList.take (i * 2) ++ news).length = (i + 0) * 2 := by rw [List.length_append, List.length_take, Array.length_toList]; omega
   rw [<- this]; exact List.take_left
  have hrun := run_clear_rowN (P := Tryz.prog) w9 75 87 0 i0 (.agg #[.int .i64 0, .int .i64 0]) Tryz.underlying75 I1 I2 g ((i + 0) * 2) 1 ((i + 1) - (i + 0)) (by omega) cur1 87 h9.got (by rw [hs1]; show (i + 0) * 2 + 1 * 2 <= _; omega) (by rw [zero1]; intro v hv; simp at hv; subst hv; rfl)
  rw [show (i + 0) * 2 = i * 2 from rfl, show i + 1 - (i + 0) = 1 by omega] at hrun
  have h10 := Has.setRow h9 (cur1.toList.take ((i + 0) * 2) ++ (Builtin.zeroCells (Value.agg #[.int .i64 0, .int .i64 0]).cells 1).toList ++ cur1.toList.drop ((i + 0) * 2 + 1 * (Value.agg #[.int .i64 0, .int .i64 0]).cells.size)).toArray
  have hk10 := hK9.setRow g (cur1.toList.take ((i + 0) * 2) ++ (Builtin.zeroCells (Value.agg #[.int .i64 0, .int .i64 0]).cells 1).toList ++ cur1.toList.drop ((i + 0) * 2 + 1 * (Value.agg #[.int .i64 0, .int .i64 0]).cells.size)).toArray
  have hz2 : (Builtin.zeroCells (Value.agg #[.int .i64 0, .int .i64 0]).cells 1).toList.length = 2 := by rw [zero1]; rfl
  have HF : Hid (PairsPost (ps.eraseIdx i) l w (.returned (.slice (some ⟨g, 0, none⟩) (i + 0) (i + 1))) (w9.setRow g (cur1.toList.take ((i + 0) * 2) ++ (Builtin.zeroCells (Value.agg #[.int .i64 0, .int .i64 0]).cells 1).toList ++ cur1.toList.drop ((i + 0) * 2 + 1 * (Value.agg #[.int .i64 0, .int .i64 0]).cells.size)).toArray)) := by
   have he : ps.eraseIdx i = ps.take i ++ ps.drop (i + 1) := List.eraseIdx_eq_take_drop_succ ps i
   have hel : (ps.eraseIdx i).length = i + 0 := by rw [he, List.length_append, List.length_take, List.length_drop, Hn.out]; omega
   have hef : (ps.eraseIdx i).flatMap pairCells = cur.toList.take (i * 2) ++ news := by
    rw [he, List.flatMap_append, Hnews.out, flat_take, <- Hxs.out, List.take_take, Nat.min_eq_left (by omega)]
   refine ⟨_, rfl, hk10, ?_⟩
   unfold pairsS
   rw [hel, hef]
   refine h10.row_of_pts ?_ (by omega) hcm ?_ ?_
   ·rw [<- hef, flat_len2, hel]
   ·simp only [List.size_toArray, List.length_append, List.length_take, List.length_drop, Array.length_toList, hs1, hz2]
    show _ + (_ - (_ + 1 * 2)) = _
    omega
   ·rw [<- ht1]
    simp only [List.append_assoc]
    have : (cur1.toList.take ((i + 0) * 2)).length = (i + 0) * 2 := by rw [List.length_take, Array.length_toList, hs1]; omega
    rw [List.take_append_of_le_length (by omega), List.take_of_length_le (by omega)]
  clear h9 h10 hk10 hK9 ht1 hs1 Hnl Hone Hnth Hsrc Hnews Hxs Hcs Hn
  generalize (cur1.toList.take ((i + 0) * 2) ++ (Builtin.zeroCells (Value.agg #[.int .i64 0, .int .i64 0]).cells 1).toList ++ cur1.toList.drop ((i + 0) * 2 + 1 * (Value.agg #[.int .i64 0, .int .i64 0]).cells.size)).toArray = cur2 at *
  generalize w9.setRow g cur2 = w10 at *
  go_wp2
  go_ret
  exact HF.out
 ·have hcI : (i : Int) + 1 < (cap : Int) := by omega
  have Hsrc : Hid (∀ w' : World, w'.heap[g]? = some (.cells cur 87 (0, 0)) -> ∀ j u, news[j]? = some u -> w'.cell? ((⟨g, (i + 1) * 2, none⟩ : Addr).add j) = some u) := by
   intro w' hg' j u hu
   rw [Addr.add_lit]
   exact cell_of hg' _ (Hnth.out j u hu)
  obtain ⟨FA, HFA⟩ : ∃ FA : List (Nat × Addr × Value), Hid (FA = []) := ⟨_, rfl⟩
  have hFA : ∀ p ∈ FA, w.cell? p.2.1 = some p.2.2 := by rw [HFA.out]; exact fnil
  haveI neFA : ∀ k, Nonempty (In (factsOf FA k)) := fun k => ⟨⟨_, factsOf.drew hFA k⟩⟩
  refine ws_begin [0, 1, 2, 3, 4, 5, 6, 7] (factsOf FA) (pts g (.cells cur 87 (0, 0)) :: l) #[0, 0, 3, 0, 0, 24, 63, 127] (by kernel_rfl) (by kernel_rfl) (by kernel_rfl) factsOf.alloc (factsOf.drew hFA) hh ?_
  clear hFA
  iterate 6 (refine ws_q (at_lit rfl) rfl rfl rfl ?_; go_big_quiet_op; show WS _ _ _ _ _ _ _ _ _ _)
  refine ws_append_in (at_lit rfl) rfl rfl (.tmp 22) (.tmp 25) 75 rfl 87 i0 2 Tryz.underlying75 I1 I3 rfl ⟨g, (i + 1) * 2, none⟩ m5 (cap - (i + 1)) news rfl (by rw [Hnl.out]) (fun w' F hh => ?_) Hone.out (by omega) (by rw [Hnl.out, Hcs.out]; omega) (fun w' F hh => lives (l' := []) (by rw [HFA.out]; simp [liveFacts, Nat.testBit]) fnil) ?_
  ·exact Hsrc.out w' hh.got
  simp only [Act.put, List.setIfInBounds_toArray, List.set_cons_zero, List.set_cons_succ]
  show WS _ _ _ _ _ _ _ _ _ _
  refine ws_q (at_lit rfl) rfl rfl rfl ?_
  go_big_quiet_op
  show WS _ _ _ _ _ _ _ _ _ _
  refine ws_end ?_
  intro w9 hK9 h9
  clear HFA neFA FA hh
  rw [Hnl.out] at h9
  obtain ⟨cur1, hc1⟩ : ∃ cur1, cur1 = (cur.toList.take (i * 2) ++ news ++ cur.toList.drop (i * 2 + m5 * 2)).toArray := ⟨_, rfl⟩
  rw [<- hc1] at h9
  have hs1 : cur1.size = cap * 2 := by
   have := Hcs.out
   have := Hnl.out
   rw [hc1]; simp only [List.size_toArray, List.length_append, List.length_take, List.length_drop, Array.length_toList]; omega
  have ht1 : cur1.toList.take ((i + m5) * 2) = cur.toList.take (i * 2) ++ news := by
   have h1 := Hcs.out
   have h2 := Hnl.out
   rw [hc1]
   simp only [List.append_assoc]
   rw [<- List.append_assoc]
   have : (cur.toList.take (i * 2) ++ news).length = (i + m5) * 2 := by rw [List.length_append, List.length_take, Array.length_toList]; omega
   rw [<- this]; exact List.take_left
  have hrun := run_clear_rowN (P := Tryz.prog) w9 75 87 0 i0 (.agg #[.int .i64 0, .int .i64 0]) Tryz.underlying75 I1 I2 g ((i + m5) * 2) 1 (cap - (i + m5)) (by omega) cur1 87 h9.got (by rw [hs1]; show (i + m5) * 2 + 1 * 2 <= _; omega) (by rw [zero1]; intro v hv; simp at hv; subst hv; rfl)
  have hone : i + 1 + m5 - (i + m5) = 1 := by omega
  have hrun2 := hrun
  rw [show (Builtin.clear_ #[75] 0 #[.slice (some ⟨g, (i + m5) * 2, none⟩) 1 (cap - (i + m5))]) = (Builtin.clear_ #[75] 0 #[.slice (some ⟨g, (i + m5) * 2, none⟩) (i + 1 + m5 - (i + m5)) (cap - (i + m5))]) by rw [hone]] at hrun2
  clear hrun
  clear hone
  have h10 := Has.setRow h9 (cur1.toList.take ((i + m5) * 2) ++ (Builtin.zeroCells (Value.agg #[.int .i64 0, .int .i64 0]).cells 1).toList ++ cur1.toList.drop ((i + m5) * 2 + 1 * (Value.agg #[.int .i64 0, .int .i64 0]).cells.size)).toArray
  have hk10 := hK9.setRow g (cur1.toList.take ((i + m5) * 2) ++ (Builtin.zeroCells (Value.agg #[.int .i64 0, .int .i64 0]).cells 1).toList ++ cur1.toList.drop ((i + m5) * 2 + 1 * (Value.agg #[.int .i64 0, .int .i64 0]).cells.size)).toArray
  have hz2 : (Builtin.zeroCells (Value.agg #[.int .i64 0, .int .i64 0]).cells 1).toList.length = 2 := by rw [zero1]; rfl
  have HF : Hid (PairsPost (ps.eraseIdx i) l w (.returned (.slice (some ⟨g, 0, none⟩) (i + m5) cap)) (w9.setRow g (cur1.toList.take ((i + m5) * 2) ++ (Builtin.zeroCells (Value.agg #[.int .i64 0, .int .i64 0]).cells 1).toList ++ cur1.toList.drop ((i + m5) * 2 + 1 * (Value.agg #[.int .i64 0, .int .i64 0]).cells.size)).toArray)) := by
   have he : ps.eraseIdx i = ps.take i ++ ps.drop (i + 1) := List.eraseIdx_eq_take_drop_succ ps i
   have hel : (ps.eraseIdx i).length = i + m5 := by rw [he, List.length_append, List.length_take, List.length_drop, Hn.out]; omega
   have hef : (ps.eraseIdx i).flatMap pairCells = cur.toList.take (i * 2) ++ news := by
    rw [he, List.flatMap_append, Hnews.out, flat_take, <- Hxs.out, List.take_take, Nat.min_eq_left (by omega)]
   refine ⟨_, rfl, hk10, ?_⟩
   unfold pairsS
   rw [hel, hef]
   refine h10.row_of_pts ?_ (by omega) hcm ?_ ?_
   ·rw [<- hef, flat_len2, hel]
   ·simp only [List.size_toArray, List.length_append, List.length_take, List.length_drop, Array.length_toList, hs1, hz2]
    show _ + (_ - (_ + 1 * 2)) = _
    omega
   ·rw [<- ht1]
    simp only [List.append_assoc]
    have : (cur1.toList.take ((i + m5) * 2)).length = (i + m5) * 2 := by rw [List.length_take, Array.length_toList, hs1]; omega
    rw [List.take_append_of_le_length (by omega), List.take_of_length_le (by omega)]
  clear h9 h10 hk10 hK9 ht1 hs1 Hnl Hone Hnth Hsrc Hnews Hxs Hcs Hn
  generalize (cur1.toList.take ((i + m5) * 2) ++ (Builtin.zeroCells (Value.agg #[.int .i64 0, .int .i64 0]).cells 1).toList ++ cur1.toList.drop ((i + m5) * 2 + 1 * (Value.agg #[.int .i64 0, .int .i64 0]).cells.size)).toArray = cur2 at *
  generalize w9.setRow g cur2 = w10 at *
  go_wp2
  go_ret
  exact HF.out
end Go.Proofs.YtgbgneiciabidaaGreatDoor
/-
  Pages (layer 11), the ninth part: a store's map has no more entries than there are addresses.
-/
namespace Go.Proofs.YtgbgneiciabidaaGreatDoor
open Go Go.RowKit
open Go.WideElems (Fit rd rg)
set_option linter.all false
set_option maxHeartbeats 8000000
theorem Has.map_tight {w : World} {l : List Say} {b n : Nat} {M : VMap} (h : Has w (mapS b n M :: l)) : Has w (mapS b M.length M :: l) := by
 refine h.head ?_
 rintro g ⟨es, clock, hb, F, hs, hM⟩
 refine ⟨es, clock, hb, F, ?_, hM⟩
 have := congrArg List.length hM
 rw [length_read, List.length_map] at this
 omega
theorem up_len {α : Type} (B : Int) : ∀ (T : List (Int × α)) (lo : Int), VMap.Up T -> (∀ p ∈ T, lo <= p.1 /\ p.1 < B) -> T.length <= (B - lo).toNat
 | [], lo, _, _ => Nat.zero_le _
 | p :: T, lo, hu, hb => by
  obtain ⟨h1, h2⟩ := List.pairwise_cons.1 hu
  have hp := hb p (.head _)
  have := up_len B T (p.1 + 1) h2 fun q hq => ⟨by have := h1 q hq; omega, (hb q (.tail _ hq)).2⟩
  rw [List.length_cons]
  omega
theorem map_more {w : World} {l : List Say} {b n m : Nat} {M : VMap} (hn : n <= m) (h : Has w (mapS b n M :: l)) : Has w (mapS b m M :: l) := by
 refine h.head ?_
 rintro g ⟨es, clock, hb, F, hs, hM⟩
 exact ⟨es, clock, hb, F, Nat.le_trans hs hn, hM⟩
abbrev stS (p bank sp : Nat) (Q : Pgs) : Say := storeS p bank sp 32768 Q
theorem Has.st_tight {w : World} {l : List Say} {p bank sp n : Nat} {Q : Pgs} (h : Has w (storeS p bank sp n Q :: l)) : Has w (stS p bank sp Q :: l) := by
 obtain ⟨x, ok, hh⟩ := h.st_open
 refine Has.st_shut ok ?_
 have h2 : Has w (mapS x.mb n (VMap.over Sl.val x.T) :: storeCell p bank sp x.mb :: (pool x.T ++ l)) := hh.swap
 have hl : (VMap.over Sl.val x.T).length <= 32768 := by
  have e1 : (VMap.over Sl.val x.T).length = x.T.length := by simp [VMap.over]
  have := up_len 32768 x.T 0 ok.up fun q hq => by
   have hm : (q.1, q.2.pg) ∈ Q := by rw [<- ok.eq]; exact List.mem_map.2 ⟨q, hq, rfl⟩
   exact ok.bd _ hm
  omega
 exact (map_more hl h2.map_tight).swap
def trio (p bank sp N : Nat) (Q : Pgs) (disks : List Dsk) (X : Spc) (l : List Say) : List Say := stS p bank sp Q :: bankS N bank disks :: spaceS sp X :: l
theorem Has.trio_of {w : World} {l : List Say} {p bank sp m N : Nat} {Q : Pgs} {disks : List Dsk} {X : Spc} (h : Has w (world3 p bank sp m N Q disks X l)) : Has w (trio p bank sp N Q disks X l) := Has.st_tight h
theorem Has.bank_more {w : World} {l : List Say} {N M b : Nat} {X : List Dsk} (hN : N <= M) (h : Has w (bankS N b X :: l)) : Has w (bankS M b X :: l) := by
 obtain ⟨x, h1, h2, hh⟩ := h.bank_open
 refine Has.bank_shut h1 h2 ?_
 have h3 : Has w (pts b (.cells #[x.v, .bool false, .int .i64 0, .bool false, .int .i64 x.done] 219 (0, 0)) :: rowS 223 1 x.v x.ds.length (x.ds.map ptrOf) :: (zipL (diskS N) x.ds X ++ l)) := hh
 exact Sep.cons_mono (fun _ => Sep.cons_mono fun _ => Sep.zip_mono (fun b x h => disk_mono hN b x h) _ _) h3
def TrioPut (p bank sp N : Nat) (Q : Pgs) (disks : List Dsk) (X : Spc) (n : Nd) (l : List Say) (w : World) (r : Ending) (w' : World) : Prop :=
  Kept w w' /\
  ((n.ok = false /\ r = .returned (.tuple #[.int .i64 0, errV 70]) /\ Has w' (trio p bank sp N Q disks X l)) \/
   (n.ok = true /\ namedErr Q n ≠ .nilIface /\ r = .returned (.tuple #[.int .i64 0, namedErr Q n]) /\ Has w' (trio p bank sp N Q disks X l)) \/
   (n.ok = true /\ namedErr Q n = .nilIface /\ (∀ d ∈ actives X.es, X.free d = 0) /\ r = .returned (.tuple #[.int .i64 0, errV 50]) /\ Has w' (trio p bank sp N Q disks X l)) \/
   ∃ d k y secs, n.ok = true /\ namedErr Q n = .nilIface /\ Takes X d k y /\ disks[d]? = some secs /\ r = .returned (.tuple #[.int .i64 (lenV d k), .nilIface]) /\
     Has w' (trio p bank sp (N + 1) (put1 Q (lenV d k) n) (disks.set d (secs.set k (frameOf 2 (nodeBytes n)))) (X.put d (y.took k)) l))
theorem trio_Put {w : World} {l : List Say} {p bank sp N : Nat} {Q : Pgs} {disks : List Dsk} {X : Spc} (n : Nd) {kv vv : Value} (h : Has w (trio p bank sp N Q disks X l)) (ht : Tab l) (hk : intsS kv n.keys ∈ l) (hv : intsS vv n.vals ∈ l)
  (hf : Fits X disks Q) (hh : HoldsTo Q 1000000) (hN : N <= 500000) :
  Calls Tryz.prog 19 #[.pointer (some ⟨p, 0, none⟩), n.val kv vv] w (TrioPut p bank sp N Q disks X n l w) := by
 refine (st_Put (m := 32768) n h ht hk hv hf hh (by omega) hN).mono ?_
 rintro r w' ⟨hK, (⟨h1, h2, h3⟩ | ⟨h1, h2, h3, h4⟩ | ⟨h1, h2, h3, h4, h5⟩ | ⟨d, k, y, secs, h1, h2, h3, h4, h5, h6⟩)⟩
 ·exact ⟨hK, .inl ⟨h1, h2, h3.trio_of⟩⟩
 ·exact ⟨hK, .inr (.inl ⟨h1, h2, h3, h4.trio_of⟩)⟩
 ·exact ⟨hK, .inr (.inr (.inl ⟨h1, h2, h3, h4, h5.trio_of⟩))⟩
 ·exact ⟨hK, .inr (.inr (.inr ⟨d, k, y, secs, h1, h2, h3, h4, h5, h6.trio_of⟩))⟩
end Go.Proofs.YtgbgneiciabidaaGreatDoor
/-
  Spaces (layer 8), the seventh part: Give.
-/
namespace Go.Proofs.YtgbgneiciabidaaGreatDoor
open Go Go.RowKit
set_option linter.all false
set_option maxHeartbeats 8000000
def Shelf.gave (y : Shelf) (k : Nat) : Shelf :=
 { y with taken := fun j => !(j == k) && y.taken j, fresh := if y.fresh k = true then (fun j => !(j == k) && y.fresh j) else y.fresh, given := if y.fresh k = true then y.given else fun j => j == k || y.given j }
theorem ShelfOk.gave {y : Shelf} (h : ShelfOk y) {k : Nat} (h2 : 2 <= k) : ShelfOk (y.gave k) := by
 refine ⟨fun j hj => ?_, fun j hj => ?_, fun j hj => ?_⟩
 ·simp only [Shelf.gave, Bool.and_eq_true] at hj
  exact h.t2 j hj.2
 ·simp only [Shelf.gave] at hj
  split at hj
  ·exact h.g2 j hj
  ·simp only [Bool.or_eq_true, beq_iff_eq] at hj
   rcases hj with rfl | hj
   ·exact h2
   ·exact h.g2 j hj
 ·simp only [Shelf.gave, Bool.and_eq_true, Bool.not_eq_true'] at hj ⊢
  obtain ⟨h1, h3⟩ := hj
  split
  ·exact h.ne j h3
  ·show (j == k || y.given j) = false
   rw [h1, Bool.false_or]; exact h.ne j h3
theorem sp_elder {w : World} {s st a : Nat} (h0 : w.cell? ⟨s, 1, none⟩ = some (.pointer none)) (ha : a < 32768) : Calls Tryz.prog 145 #[.pointer (some ⟨s, 0, none⟩), .int .i64 (a : Int)] w fun r w' => r = .returned (.bool false) /\ w = w' := by
 have HAt := Lib.hid (space_At (w := w) a ha)
 have lt := World.block_lt_of_cell? _ _ h0
 go_enter Tryz.func145, Tryz.ntmps145
 go_wp2_with fail
 refine HAt.out.mono ?_
 rintro r w1 ⟨rfl, rfl⟩
 go_wp2
 go_ret
 exact ⟨rfl, rfl⟩
def GivePost (s : Nat) (X : Spc) (l : List Say) (w : World) (r : Ending) (w' : World) : Prop := r = .returned .nilIface /\ Kept w w' /\ Has w' (spaceS s X :: l)
set_option maxRecDepth 100000 in
theorem sp_Give {w : World} {l : List Say} {s : Nat} {X : Spc} (h : Has w (spaceS s X :: l)) (d k : Nat) (e : Ent) (y : Shelf) (r : InRoom X d k e y) (hk : y.taken k = true) (hd : d < 8) (hk4 : k < 4096) :
  Calls Tryz.prog 79 #[.pointer (some ⟨s, 0, none⟩), .int .i64 ((d * 4096 + k : Nat) : Int)] w (GivePost s (X.put d (y.gave k)) l w) := by
 obtain ⟨x, ok, hh⟩ := h.sp_open
 have hy := r.shelf
 obtain ⟨a, c, sa, sc, R⟩ := hh.sp_read (fun A hA => List.mem_append_left _ hA) ok
 obtain ⟨q, b, _, _, hmem, hb⟩ := R.shelf d y hy
 have HF := Lib.hid (sp_find hh (fun A hA => List.mem_append_left _ hA) ok d k e y r b hb)
 obtain ⟨rest, hp1, hp2⟩ := shelves_focus x.bs X.sh d b y hb hy
 have hperm : (spFlat s X x ++ l).Perm (shelfS b y :: (spHead s X.es x ++ rest ++ l)) := by
  have h1 : (spFlat s X x).Perm (shelfS b y :: (spHead s X.es x ++ rest)) := (hp1.append_left _).trans List.perm_middle
  exact h1.append_right l
 have h3 := hh.perm hperm
 have hsz := ok.size d y e hy r.ent
 have Hyok := Lib.hid (ok.ok d y hy)
 have Hy := Lib.hid hy
 have Hp2 := Lib.hid hp2
 have Ok := Lib.hid ok
 have gn : k < y.n := by rw [hsz]; exact r.hi
 have g2 := r.lo
 have H3 := Lib.hid h3
 have Hk := Lib.hid hk
 clear R hh h ok hmem hb hy r h3 hperm hp1 hp2 hsz hk
 go_enter Tryz.func79, Tryz.ntmps79
 go_wp2_with fail
 refine HF.out.mono ?_
 rintro r W ⟨rfl, hbW⟩
 obtain ⟨⟨tx, fx, gx⟩, h4⟩ := (H3.out.below hbW).shelf_open
 have HKW := Lib.hid (Kept.below hbW)
 have hgb := h4.got (b := b)
 have b0 : W.cell? ⟨b, 0, none⟩ = some (.pointer (some ⟨tx, 0, none⟩)) := cell_of hgb 0 rfl
 have b1 : W.cell? ⟨b, 1, none⟩ = some (.pointer (some ⟨fx, 0, none⟩)) := cell_of hgb 1 rfl
 have lb := World.block_lt_of_cell? _ _ b0
 have hT := bm_Has h4 (b := tx) (n := y.n) (S := y.taken) (by simp [shelfParts]) k
 rw [Hk.out] at hT
 have HT := Lib.hid hT
 have hset := (h4.pull 1).alloc_off (.cells #[.int .i64 (k : Int)] 3)
 have HC := Lib.hid (bm_Clear1 hset W.heap.size 1 k (by simp) gn)
 clear h4 hbW hgb H3 HF hT hset
 go_wp2_with fail
 refine HT.out.mono ?_
 rintro r W' ⟨rfl, rfl⟩
 go_wp2_with fail
 refine HC.out.mono ?_
 rintro r V1 ⟨rfl, hk1, hv1⟩
 have h5 : Has V1 (shelfParts b { y with taken := fun j => !(j == k) && y.taken j } (tx, fx, gx) ++ (spHead s X.es x ++ rest ++ l)) := hv1.push 1
 have hgb := h5.got (b := b)
 have b1 : V1.cell? ⟨b, 1, none⟩ = some (.pointer (some ⟨fx, 0, none⟩)) := cell_of hgb 1 rfl
 have b2 : V1.cell? ⟨b, 2, none⟩ = some (.pointer (some ⟨gx, 0, none⟩)) := cell_of hgb 2 rfl
 have lb := World.block_lt_of_cell? _ _ b1
 have hs := h5.at (b := s) (o := .cells #[.pointer (some ⟨x.st, 0, none⟩), .pointer none] 160 (0, 0)) (by simp [spHead])
 have s1 : V1.cell? ⟨s, 1, none⟩ = some (.pointer none) := cell_of hs 1 rfl
 have HE := Lib.hid (sp_elder (st := 0) s1 (show d * 4096 + k < 32768 by omega))
 have hFr := bm_Has h5 (b := fx) (n := y.n) (S := y.fresh) (by simp [shelfParts]) k
 have hc2 := (h5.pull 2).alloc_off (.cells #[.int .i64 (k : Int)] 3)
 have HC2 := Lib.hid (bm_Clear1 hc2 V1.heap.size 1 k (by simp) gn)
 have hc3 := (h5.pull 3).alloc_off (.cells #[.int .i64 (k : Int)] 3)
 have HS3 := Lib.hid (bm_Set1 hc3 V1.heap.size 1 k (by simp) gn)
 have HK1 : Hid (Kept w V1) := (HKW.out.alloc _).trans hk1
 clear hv1 h5 hgb hs hc2 hc3 hk1 HC HT HKW b0
 cases hf : y.fresh k with
 | true =>
  rw [hf] at hFr
  have HFr := Lib.hid hFr
  have Hf := Lib.hid hf
  clear hFr hf
  go_wp2_with fail
  refine HFr.out.mono ?_
  rintro r W' ⟨rfl, rfl⟩
  go_wp2_with fail
  refine HE.out.mono ?_
  rintro r W' ⟨rfl, rfl⟩
  go_wp2_with fail
  refine HC2.out.mono ?_
  rintro r V2 ⟨rfl, hk2, hv2⟩
  have HF : Hid (GivePost s (X.put d (y.gave k)) l w (.returned .nilIface) V2) := by
   refine ⟨rfl, (HK1.out.alloc _).trans hk2, Has.sp_shut (x := x) (Ok.out.put (y' := y.gave k) Hy.out rfl (Hyok.out.gave g2)) ?_⟩
   have e1 : y.gave k = { y with taken := fun j => !(j == k) && y.taken j, fresh := fun j => !(j == k) && y.fresh j } := by simp [Shelf.gave, Hf.out]
   have h6 : Has V2 (shelfS b (y.gave k) :: (spHead s X.es x ++ rest ++ l)) := Has.shelf_shut (x := (tx, fx, gx)) (by rw [e1]; exact hv2.push 2)
   refine h6.perm ?_
   have h7 : (spFlat s (X.put d (y.gave k)) x).Perm (shelfS b (y.gave k) :: (spHead s X.es x ++ rest)) := ((Hp2.out (y.gave k)).append_left _).trans List.perm_middle
   exact (h7.append_right l).symm
  clear hk2 hv2 HC2 HS3 HE HFr
  go_wp2
  go_ret
  exact HF.out
 | false =>
  rw [hf] at hFr
  have HFr := Lib.hid hFr
  have Hf := Lib.hid hf
  clear hFr hf
  go_wp2_with fail
  refine HFr.out.mono ?_
  rintro r W' ⟨rfl, rfl⟩
  go_wp2_with fail
  refine HS3.out.mono ?_
  rintro r V2 ⟨rfl, hk2, hv2⟩
  have HF : Hid (GivePost s (X.put d (y.gave k)) l w (.returned .nilIface) V2) := by
   refine ⟨rfl, (HK1.out.alloc _).trans hk2, Has.sp_shut (x := x) (Ok.out.put (y' := y.gave k) Hy.out rfl (Hyok.out.gave g2)) ?_⟩
   have e1 : y.gave k = { y with taken := fun j => !(j == k) && y.taken j, given := fun j => j == k || y.given j } := by simp [Shelf.gave, Hf.out]
   have h6 : Has V2 (shelfS b (y.gave k) :: (spHead s X.es x ++ rest ++ l)) := Has.shelf_shut (x := (tx, fx, gx)) (by rw [e1]; exact hv2.push 3)
   refine h6.perm ?_
   have h7 : (spFlat s (X.put d (y.gave k)) x).Perm (shelfS b (y.gave k) :: (spHead s X.es x ++ rest)) := ((Hp2.out (y.gave k)).append_left _).trans List.perm_middle
   exact (h7.append_right l).symm
  clear hk2 hv2 HC2 HS3 HE HFr
  go_wp2
  go_ret
  exact HF.out
end Go.Proofs.YtgbgneiciabidaaGreatDoor
