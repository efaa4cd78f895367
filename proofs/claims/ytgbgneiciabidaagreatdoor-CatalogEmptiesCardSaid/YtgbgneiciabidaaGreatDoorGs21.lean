/-
  Trees (layer 12): nodes are put (write).
-/
import Derived.Test.YtgbgneiciabidaaGreatDoorGs20
namespace Go.Proofs.YtgbgneiciabidaaGreatDoor
open Go Go.RowKit
set_option linter.all false
set_option maxHeartbeats 8000000
theorem flat3 (T : List Nv) : ∀ (k : Nat) (t : Nv) (j : Nat), T[k]? = some t -> j < 3 -> (T.flatMap Nv.cells)[k * 3 + j]? = t.cells[j]? := by
 induction T with
 | nil => intro k t j h; simp at h
 | cons x T ih =>
  intro k t j h hj
  cases k with
  | zero =>
   have e : x = t := by simpa using h
   subst e
   rw [List.flatMap_cons, List.getElem?_append_left (by simp [Nv.cells]; omega)]
   simp
  | succ k =>
   rw [List.flatMap_cons, List.getElem?_append_right (by simp [Nv.cells]; omega)]
   rw [show (k + 1) * 3 + j - x.cells.length = k * 3 + j by simp [Nv.cells]; omega]
   exact ih k t j (by simpa using h) hj
theorem Has.nodes_read {w : World} {l : List Say} {v : Value} {T : List Nv} (h : Has w l) (hm : nodesS v T ∈ l) :
  ∃ a c, v = .slice a T.length c /\ ∀ k t, T[k]? = some t -> ∃ g, a = some ⟨g, 0, none⟩ /\ w.cell? ⟨g, k * 3, none⟩ = some (.int .i64 t.nd.level) /\ w.cell? ⟨g, k * 3 + 1, none⟩ = some t.kv /\ w.cell? ⟨g, k * 3 + 2, none⟩ = some t.vv := by
 obtain ⟨h1, h2⟩ := h.row_own hm
 rcases h2 with ⟨rfl, h0⟩ | ⟨g, cap, cur, rfl, _, hg, hn, hc, hs, ht⟩
 ·refine ⟨none, 0, by rw [h0], fun k t hk => ?_⟩
  have := (List.getElem?_eq_some_iff.1 hk).1
  omega
 ·refine ⟨_, cap, rfl, fun k t hk => ⟨g, rfl, ?_⟩⟩
  have hlt := (List.getElem?_eq_some_iff.1 hk).1
  have key : ∀ j u, j < 3 -> t.cells[j]? = some u -> w.cell? ⟨g, k * 3 + j, none⟩ = some u := fun j u hj hu => by
   refine cell_of hg _ ?_
   rw [<- flat3 T k t j hk hj, <- ht, List.getElem?_take] at hu
   split at hu
   ·simpa using hu
   ·cases hu
  exact ⟨key 0 _ (by omega) rfl, key 1 _ (by omega) rfl, key 2 _ (by omega) rfl⟩
theorem Has.right {w : World} : ∀ {m l : List Say}, Has w (m ++ l) -> Has w l
 | [], _, h => h
 | _ :: _, _, h => Has.right (Has.tail h)
theorem Has.skip {w : World} {A M l : List Say} (h : Has w (A ++ (M ++ l))) : Has w (A ++ l) := by
 refine Has.right (m := M) (h.perm ?_)
 rw [<- List.append_assoc, <- List.append_assoc]
 exact List.perm_append_comm.append_right l
theorem Has.skip4 {w : World} {A B C D : Say} {M l : List Say} (h : Has w (A :: B :: C :: D :: (M ++ l))) : Has w (A :: B :: C :: D :: l) := Has.skip (A := [A, B, C, D]) h
theorem Has.skip5 {w : World} {A B C D E : Say} {M l : List Say} (h : Has w (A :: B :: C :: D :: E :: (M ++ l))) : Has w (A :: B :: C :: D :: E :: l) := Has.skip (A := [A, B, C, D, E]) h
def outP (x : Int × Nd) : KV := (x.2.keys.headD 0, x.1)
def changeS (c p : Nat) (pv : Value) : Say := pts c (.cells #[.pointer (some ⟨p, 0, none⟩), pv] 212 (0, 0))
def chL (c p : Nat) (pv : Value) (put : List Int) (l : List Say) : List Say := changeS c p pv :: intsS pv put :: l
def WrMid (w : World) (c p bank sp N : Nat) (es : List Ent) (Q : Pgs) (put : List Int) (nv : Value) (T : List Nv) (l : List Say) (k : Nat) (ov : Value) (wr : World) : Prop :=
 ∃ (news : List (Int × Nd)) (Q' : Pgs) (pv : Value) (oa : Option Addr) (oc : Nat), ov = .slice oa k oc /\ news.map (·.2) = (T.take k).map Nv.nd /\ Puts es Q news Q' /\ Kept w wr /\
  Has wr (pairsS (.slice oa k oc) (news.map outP) :: btS p bank sp (N + k) es Q' :: chL c p pv (put ++ news.map (·.1)) (nodesL nv T ++ l))
def WrPost (c p bank sp N : Nat) (es : List Ent) (Q : Pgs) (put : List Int) (ns : List Nd) (l : List Say) (w : World) (r : Ending) (w' : World) : Prop :=
  Kept w w' /\ ∃ (news : List (Int × Nd)) (Q' : Pgs) (pv : Value), Puts es Q news Q' /\ news.length <= ns.length /\
    ((FullQ es Q' /\ r = .returned (.tuple #[.slice none 0 0, errV 50]) /\ Has w' (btS p bank sp (N + ns.length) es Q' :: chL c p pv (put ++ news.map (·.1)) l)) \/
     (news.map (·.2) = ns /\ ∃ v, r = .returned (.tuple #[v, .nilIface]) /\ Has w' (pairsS v (news.map outP) :: btS p bank sp (N + ns.length) es Q' :: chL c p pv (put ++ news.map (·.1)) l)))
def PutRes (p bank sp N : Nat) (es : List Ent) (Q : Pgs) (n : Nd) (rest : List Say) (av : Int) (ev : Value) (L : List Say) : Prop :=
 (FullQ es Q /\ av = 0 /\ ev = errV 50 /\ L = btS p bank sp N es Q :: rest) \/ (Next es Q av /\ ev = .nilIface /\ L = btS p bank sp (N + 1) es (put1 Q av n) :: rest)
set_option maxRecDepth 100000 in
theorem ch_write {w : World} {l : List Say} {c p bank sp N : Nat} {es : List Ent} {Q : Pgs} {put : List Int} {pv nv : Value} (T : List Nv) (h : Has w (btS p bank sp N es Q :: chL c p pv put (nodesL nv T ++ l))) (ht : Tab l) (hT : T.length <= 2) (hok : ∀ t ∈ T, t.nd.ok = true /\ namedErr Q t.nd = .nilIface) (hN : N <= 400000) (hput : put.length <= 1000) :
  Calls Tryz.prog 181 #[.pointer (some ⟨c, 0, none⟩), nv] w (WrPost c p bank sp N es Q put (T.map Nv.nd) l w) := by
 obtain ⟨i0, I1, I2, I3, I4⟩ := info_parts info_pair
 have hnvm : nodesS nv T ∈ btS p bank sp N es Q :: chL c p pv put (nodesL nv T ++ l) := by simp [chL, nodesL]
 obtain ⟨na, nc, rfl, _⟩ := h.nodes_read hnvm
 have HM : Hid (WrMid w c p bank sp N es Q put (.slice na T.length nc) T l 0 (.slice none 0 0) w) := ⟨[], Q, pv, none, 0, rfl, rfl, .nil Q, Kept.refl w, by simp only [List.map_nil, List.append_nil, Nat.add_zero]; exact h.row_nil 87 2⟩
 have Hok := Lib.hid hok
 have Ht := Lib.hid ht
 clear h hok ht hnvm
 generalize hn : T.length = n at *
 have Hn := Lib.hid hn
 clear hn
 have hnI : (n : Int) <= 2 := by omega
 go_enter Tryz.func181, Tryz.ntmps181
 go_wp2
 go_loopg [6, 13] n (fun gk ov i wr => ∃ k : Nat, k <= n /\ gk = n - k /\ i = .int .i64 k /\ Hid (WrMid w c p bank sp N es Q put (.slice na n nc) T l k ov wr))
 case atStart => exact ⟨0, Nat.zero_le _, rfl, rfl, HM⟩
 case round =>
  clear HM
  obtain ⟨k, hk, rfl, rfl, HM⟩ := hrel
  obtain ⟨news, Q', pv, oa, oc, rfl, hnw, hps, hK, hh⟩ := HM.out
  clear HM
  by_cases hlt : k < n
  ·have hkl : k < T.length := by have := Hn.out; omega
   obtain ⟨_, _, e1, hr⟩ := hh.nodes_read (v := .slice na n nc) (T := T) (by simp [chL, nodesL])
   injection e1 with e1 e2 e3
   subst e1
   clear e2 e3
   obtain ⟨g, rfl, c0, c1, c2⟩ := hr k _ (List.getElem?_eq_getElem hkl)
   have htk : T.take (k + 1) = T.take k ++ [T[k]] := List.take_succ_eq_append_getElem hkl
   have htm : T[k] ∈ T := List.getElem_mem hkl
   obtain ⟨ok, nm⟩ := Hok.out _ htm
   have HTk : Hid ((T.take (k + 1)).map Nv.nd = (T.take k).map Nv.nd ++ [T[k].nd]) := by show _ = _; rw [htk, List.map_append]; rfl
   have hrk : intsS T[k].kv T[k].nd.keys ∈ nodesL (.slice (some ⟨g, 0, none⟩) n nc) T := List.mem_cons_of_mem _ (List.mem_flatMap.2 ⟨_, htm, .head _⟩)
   have hrv : intsS T[k].vv T[k].nd.vals ∈ nodesL (.slice (some ⟨g, 0, none⟩) n nc) T := List.mem_cons_of_mem _ (List.mem_flatMap.2 ⟨_, htm, .tail _ (.head _)⟩)
   generalize T[k] = t at c0 c1 c2 ok nm HTk hrk hrv
   obtain ⟨nd, kv, vv⟩ := t
   simp only at c0 c1 c2 ok nm HTk hrk hrv
   obtain ⟨ak, ck, rfl, hy1, hrd⟩ := hh.ints_read (v := kv) (xs := nd.keys) (by simp only [chL]; simp [hrk])
   obtain ⟨av, cv, rfl, hy2, hy3⟩ := hh.ints_read (v := vv) (xs := nd.vals) (by simp only [chL]; simp [hrv])
   obtain ⟨o0, o1, o2, o3, o4⟩ := ok_lens ok
   have hkh : ∃ kh, nd.keys.headD 0 = kh /\ nd.keys[0]? = some kh := by
    cases hq : nd.keys with
    | nil => rw [hq] at o3; simp at o3
    | cons x r => exact ⟨x, rfl, rfl⟩
   obtain ⟨kh, hkh1, hkh2⟩ := hkh
   have nm' := hps.same.named nm
   have hN' : N + k <= 500000 := by omega
   have lg := World.block_lt_of_cell? _ _ c0
   have hkI : (k : Int) < (n : Int) := by omega
   have hk0 : (0 : Int) <= k := by omega
   have hA := hh.alloc (.cells #[.int .i64 nd.level, .slice ak nd.keys.length ck, .slice av nd.vals.length cv] 35)
   have hA2 : Has (wr.alloc (.cells #[.int .i64 nd.level, .slice ak nd.keys.length ck, .slice av nd.vals.length cv] 35)) (btS p bank sp (N + k) es Q' :: pts wr.heap.size (.cells #[.int .i64 nd.level, .slice ak nd.keys.length ck, .slice av nd.vals.length cv] 35 (0, 0)) :: chL c p pv (put ++ news.map (·.1)) (pairsS (.slice oa k oc) (news.map outP) :: (nodesL (.slice (some ⟨g, 0, none⟩) n nc) T ++ l))) := hA.reord [2, 0, 1, 1]
   have hKA := hK.alloc (.cells #[.int .i64 nd.level, .slice ak nd.keys.length ck, .slice av nd.vals.length cv] 35)
   have HA := Lib.hid hA2
   have HKA := Lib.hid hKA
   have HP : Hid (∀ w' F, Has w' (btS p bank sp (N + k) es Q' :: pts wr.heap.size (.cells #[.int .i64 nd.level, .slice ak nd.keys.length ck, .slice av nd.vals.length cv] 35 (0, 0)) :: chL c p pv (put ++ news.map (·.1)) (pairsS (.slice oa k oc) (news.map outP) :: (nodesL (.slice (some ⟨g, 0, none⟩) n nc) T ++ l)) ++ F) -> Calls Tryz.prog 19 #[.pointer (some ⟨p, 0, none⟩), .agg #[.int .i64 nd.level, .slice ak nd.keys.length ck, .slice av nd.vals.length cv]] w' (BtPut p bank sp (N + k) es Q' nd (pts wr.heap.size (.cells #[.int .i64 nd.level, .slice ak nd.keys.length ck, .slice av nd.vals.length cv] 35 (0, 0)) :: chL c p pv (put ++ news.map (·.1)) (pairsS (.slice oa k oc) (news.map outP) :: (nodesL (.slice (some ⟨g, 0, none⟩) n nc) T ++ l)) ++ F) w')) := fun w' F hw =>
    bt_Put nd hw (fun w'' h'' => (Ht.out.app (pts wr.heap.size (.cells #[.int .i64 nd.level, .slice ak nd.keys.length ck, .slice av nd.vals.length cv] 35 (0, 0)) :: chL c p pv (put ++ news.map (·.1)) (pairsS (.slice oa k oc) (news.map outP) :: nodesL (.slice (some ⟨g, 0, none⟩) n nc) T))) w'' (by simpa [chL] using h''.left)) (by simp [chL, hrk]) (by simp [chL, hrv]) ok nm' hN'
   have HX := Lib.hid (And.intro hnw (And.intro hps (And.intro ok nm')))
   have HKh := Lib.hid (And.intro hkh1 hkh2)
   have HRk := Lib.hid hrk
   have Hlk := Lib.hid o3
   clear hy1 hy2 hy3 hh hK hr hrd htk htm ok nm nm' hrk hrv hkh1 hkh2 hnw hps hA hA2 hKA o0 o1 o2 o3 o4 hN' hkl
   obtain ⟨lv, keys, vals⟩ := nd
   simp only at *
   generalize hnk : keys.length = nk at *
   have Hnk := Lib.hid hnk
   clear hnk
   generalize vals.length = nvl at *
   go_upto_region 5 with fail
   have hh := HA.out
   generalize hV : wr.alloc (.cells #[.int .i64 lv, .slice ak nk ck, .slice av nvl cv] 35) = V at *
   clear hV HA
   generalize wr.heap.size = b8 at *
   have hg8 := hh.at (b := b8) (o := .cells #[.int .i64 lv, .slice ak nk ck, .slice av nvl cv] 35 (0, 0)) (by simp)
   have hgc := hh.at (b := c) (o := .cells #[.pointer (some ⟨p, 0, none⟩), pv] 212 (0, 0)) (by simp [chL, changeS])
   have m0 : V.cell? ⟨b8, 0, none⟩ = some (.int .i64 lv) := cell_of hg8 0 rfl
   have m1 : V.cell? ⟨b8, 1, none⟩ = some (.slice ak nk ck) := cell_of hg8 1 rfl
   have m2 : V.cell? ⟨b8, 2, none⟩ = some (.slice av nvl cv) := cell_of hg8 2 rfl
   have k0 : V.cell? ⟨c, 0, none⟩ = some (.pointer (some ⟨p, 0, none⟩)) := cell_of hgc 0 rfl
   clear hg8 hgc c0 c1 c2 lg
   obtain ⟨FA, HFA⟩ : ∃ FA : List (Nat × Addr × Value), Hid (FA = [(3, ⟨c, 0, none⟩, .pointer (some ⟨p, 0, none⟩)), (4, ⟨b8, 0, none⟩, .int .i64 lv), (4, ⟨b8, 1, none⟩, .slice ak nk ck), (4, ⟨b8, 2, none⟩, .slice av nvl cv)]) := ⟨_, rfl⟩
   have fa3 : ∀ n : In (factsOf FA 3), n.w.cell? ⟨c, 0, none⟩ = some (.pointer (some ⟨p, 0, none⟩)) := fun n => factsOf.cell (by rw [HFA.out]; simp) n
   have fa4_0 : ∀ n : In (factsOf FA 4), n.w.cell? ⟨b8, 0, none⟩ = some (.int .i64 lv) := fun n => factsOf.cell (by rw [HFA.out]; simp) n
   have fa4_1 : ∀ n : In (factsOf FA 4), n.w.cell? ⟨b8, 1, none⟩ = some (.slice ak nk ck) := fun n => factsOf.cell (by rw [HFA.out]; simp) n
   have fa4_2 : ∀ n : In (factsOf FA 4), n.w.cell? ⟨b8, 2, none⟩ = some (.slice av nvl cv) := fun n => factsOf.cell (by rw [HFA.out]; simp) n
   have hFA : ∀ p ∈ FA, V.cell? p.2.1 = some p.2.2 := by rw [HFA.out]; exact (fcons k0 (fcons m0 (fcons m1 (fcons m2 fnil))))
   haveI neFA : ∀ k, Nonempty (In (factsOf FA k)) := fun k => ⟨⟨_, factsOf.drew hFA k⟩⟩
   refine ws_begin [0, 1, 2, 3, 4, 5, 6, 7, 8, 9, 10] (factsOf FA) (btS p bank sp (N + k) es Q' :: pts b8 (.cells #[.int .i64 lv, .slice ak nk ck, .slice av nvl cv] 35 (0, 0)) :: pts c (.cells #[.pointer (some ⟨p, 0, none⟩), pv] 212 (0, 0)) :: intsS pv (put ++ news.map (·.1)) :: pairsS (.slice oa k oc) (news.map outP) :: (nodesL (.slice (some ⟨g, 0, none⟩) n nc) T ++ l)) #[0, 1, 3, 7, 0, 31, 63, 127, 127, 255, 1023] (by kernel_rfl) (by kernel_rfl) (by kernel_rfl) factsOf.alloc (factsOf.drew hFA) hh ?_
   clear hFA
   iterate 5 (refine ws_q (at_lit rfl) rfl rfl rfl ?_; go_big_quiet_op; show WS _ _ _ _ _ _ _ _ _ _)
   refine ws_call (at_lit rfl) rfl rfl 19 #[.pointer (some ⟨p, 0, none⟩), .agg #[.int .i64 lv, .slice ak nk ck, .slice av nvl cv]] (fun w => by go_simp) (fun v L' => ∃ ad ev, v = .tuple #[.int .i64 ad, ev] /\ (ev = .nilIface \/ ev = errV 50) /\ PutRes p bank sp (N + k) es Q' ⟨lv, keys, vals⟩ (pts b8 (.cells #[.int .i64 lv, .slice ak nk ck, .slice av nvl cv] 35 (0, 0)) :: pts c (.cells #[.pointer (some ⟨p, 0, none⟩), pv] 212 (0, 0)) :: intsS pv (put ++ news.map (·.1)) :: pairsS (.slice oa k oc) (news.map outP) :: (nodesL (.slice (some ⟨g, 0, none⟩) n nc) T ++ l)) ad ev L') (fun w' F hS hh => ?_) ?_
   ·refine (HP.out w' F hh).mono ?_
    rintro r w2' ⟨hK, (⟨hf, rfl, h5⟩ | ⟨ad, hn, rfl, h5⟩)⟩
    ·exact ⟨_, _, rfl, hK, ⟨_, _, rfl, .inr rfl, .inl ⟨hf, rfl, rfl, rfl⟩⟩, h5⟩
    ·exact ⟨_, _, rfl, hK, ⟨_, _, rfl, .inl rfl, .inr ⟨hn, rfl, rfl⟩⟩, h5⟩
   rintro _ L2 ⟨ad, ev, rfl, hev, hpr⟩
   refine ⟨fun w F hh => lives (l' := []) (by rw [HFA.out]; simp [liveFacts, Nat.testBit]) (fnil), ?_⟩
   simp only [Act.put, List.setIfInBounds_toArray, List.set_cons_zero, List.set_cons_succ]
   show WS _ _ _ _ _ _ _ _ _ _
   iterate 5 (refine ws_q (at_lit rfl) rfl rfl rfl ?_; go_big_quiet_op; show WS _ _ _ _ _ _ _ _ _ _)
   refine ws_end ?_
   intro w9 hK9 h9
   clear HFA neFA fa3 fa4_0 fa4_1 fa4_2 hh m0 m1 m2 k0 hev
   clear FA
   rcases hpr with ⟨hfull, rfl, rfl, rfl⟩ | ⟨hnx, rfl, rfl⟩
   ·-- no room
    have HF : Hid (WrPost c p bank sp N es Q put (T.map Nv.nd) l w (.returned (.tuple #[.slice none 0 0, errV 50])) w9) := by
     refine ⟨HKA.out.trans hK9, news, Q', pv, HX.out.2.1, ?_, .inl ⟨hfull, rfl, ?_⟩⟩
     ·have h1 := congrArg List.length HX.out.1
      simp only [List.length_map, List.length_take] at h1
      rw [List.length_map]; omega
     ·have h2 : Has w9 (btS p bank sp (N + k) es Q' :: chL c p pv (put ++ news.map (·.1)) l) := by
       exact (Has.reord [1, 3] h9.skip5).tail.tail
      rw [List.length_map]
      have hn := Hn.out
      exact h2.bt_more (by omega)
    clear h9 hK9 HX HKh HRk Hlk Hnk HTk HKA HP Hok Ht hfull
    simp only [errV] at HF ⊢
    go_wp2
    go_ret2
    exact HF.out
   ·-- it was put
    have HX2 : Hid (news.map (·.2) ++ [⟨lv, keys, vals⟩] = (T.take (k + 1)).map Nv.nd /\ Puts es Q (news ++ [(ad, ⟨lv, keys, vals⟩)]) (put1 Q' ad ⟨lv, keys, vals⟩) /\ put.length + news.length <= 1100) := by
     obtain ⟨x1, x2, x3, x4⟩ := HX.out
     refine ⟨by rw [HTk.out, x1], x2.snoc hnx x3 x4, ?_⟩
     have h1 := congrArg List.length x1
     simp only [List.length_map, List.length_take] at h1
     omega
    have hlp : (put ++ news.map (·.1)).length <= 1100 := by rw [List.length_append, List.length_map]; exact HX2.out.2.2
    have hgc := h9.at (b := c) (o := .cells #[.pointer (some ⟨p, 0, none⟩), pv] 212 (0, 0)) (by simp)
    obtain ⟨pa, pc, rfl, hpx, hpy⟩ := h9.ints_read (v := pv) (xs := put ++ news.map (·.1)) (by simp)
    obtain ⟨np, hnp⟩ : ∃ np, np = (put ++ news.map (·.1)).length := ⟨_, rfl⟩
    rw [<- hnp] at hgc
    have q1 : w9.cell? ⟨c, 1, none⟩ = some (.slice pa np pc) := cell_of hgc 1 rfl
    have lq := World.block_lt_of_cell? _ _ q1
    have hx := h9.alloc (.cells #[.int .i64 ad] 3)
    rw [<- hnp] at hx hlp
    have hx9 : Has (w9.alloc (.cells #[.int .i64 ad] 3)) (intsS (.slice pa np pc) (put ++ news.map (·.1)) :: pts w9.heap.size (.cells #[.int .i64 ad] 3 (0, 0)) :: pts c (.cells #[.pointer (some ⟨p, 0, none⟩), .slice pa np pc] 212 (0, 0)) :: pts b8 (.cells #[.int .i64 lv, .slice ak nk ck, .slice av nvl cv] 35 (0, 0)) :: btS p bank sp (N + k + 1) es (put1 Q' ad ⟨lv, keys, vals⟩) :: pairsS (.slice oa k oc) (news.map outP) :: (nodesL (.slice (some ⟨g, 0, none⟩) n nc) T ++ l)) := hx.reord [4, 0, 2, 1]
    have HX9 := Lib.hid hx9
    have HKX := Lib.hid ((HKA.out.trans hK9).alloc (.cells #[.int .i64 ad] 3))
    have Hnp := Lib.hid hnp
    clear hpx hpy hnp hx hx9 h9 hK9 hgc HX HP HKA HTk
    go_upto_region 9 with (at_builtin; refine wpList_append_int rfl (.tmp 33) (.tmp 35) rfl rfl rfl HX9.out (.head _) Hnp.out.symm (by have := Hnp.out; omega) ?_; intro p1 q2 w1 hK1 hz; have hrc := hz.at (b := c) (o := .cells #[.pointer (some ⟨p, 0, none⟩), .slice pa np pc] 212 (0, 0)) (by simp); have z1 : w1.cell? ⟨c, 1, none⟩ = some (.slice pa np pc) := cell_of hrc 1 rfl; have f1 := thaw_of hrc 1; have l1 := World.block_lt_of_cell? _ _ z1; have HK1 := Lib.hid hK1; have Hz := Lib.hid hz; clear hK1 hz hrc)
    generalize hb9 : w9.heap.size = b9 at *
    have h3 := (Hz.out.reord [2]).setCell 1 (.slice p1 (np + 1) q2)
    have hk3 := (HKX.out.trans HK1.out).setCell ⟨c, 1, none⟩ (.slice p1 (np + 1) q2)
    generalize w1.setCell ⟨c, 1, none⟩ (.slice p1 (np + 1) q2) = V2 at *
    have h4 : Has V2 (pairsS (.slice oa k oc) (news.map outP) :: btS p bank sp (N + k + 1) es (put1 Q' ad ⟨lv, keys, vals⟩) :: pts b8 (.cells #[.int .i64 lv, .slice ak nk ck, .slice av nvl cv] 35 (0, 0)) :: chL c p (.slice p1 (np + 1) q2) ((put ++ news.map (·.1)) ++ [ad]) (nodesL (.slice (some ⟨g, 0, none⟩) n nc) T ++ l)) := ((h3.reord [2]).tail).reord [4, 3, 2]
    obtain ⟨ak', ck', e1, _, hrd⟩ := h4.ints_read (v := .slice ak nk ck) (xs := keys) (by simp only [chL]; simp [HRk.out])
    injection e1 with e1 e2 e3
    subst e1
    clear e2 e3
    have hk0l : 0 < keys.length := by rw [Hnk.out]; have := Hlk.out; omega
    obtain ⟨gk, rfl, kc0, _⟩ := hrd 0 hk0l
    have hkk : keys[0] = kh := by have := HKh.out.2; rw [List.getElem?_eq_getElem hk0l] at this; exact Option.some.inj this
    rw [hkk] at kc0
    have hg8 := h4.at (b := b8) (o := .cells #[.int .i64 lv, .slice (some ⟨gk, 0, none⟩) nk ck, .slice av nvl cv] 35 (0, 0)) (by simp)
    have m1 : V2.cell? ⟨b8, 1, none⟩ = some (.slice (some ⟨gk, 0, none⟩) nk ck) := cell_of hg8 1 rfl
    have lk := World.block_lt_of_cell? _ _ kc0
    have l8 := World.block_lt_of_cell? _ _ m1
    have nkI : (1 : Int) <= (nk : Int) := by have := Hlk.out; omega
    have h5 := h4.alloc (.cells #[.int .i64 kh, .int .i64 ad] 87)
    have hnl : news.length = k := by
     have h1 := congrArg List.length HX2.out.1
     simp only [List.length_append, List.length_map, List.length_take, List.length_cons, List.length_nil] at h1
     have := Hn.out
     omega
    have h6 : Has (V2.alloc (.cells #[.int .i64 kh, .int .i64 ad] 87)) (rowS 87 2 (.slice oa k oc) k ((news.map outP).flatMap pairCells) :: pts V2.heap.size (.cells #[.int .i64 kh, .int .i64 ad] 87 (0, 0)) :: btS p bank sp (N + k + 1) es (put1 Q' ad ⟨lv, keys, vals⟩) :: pts b8 (.cells #[.int .i64 lv, .slice (some ⟨gk, 0, none⟩) nk ck, .slice av nvl cv] 35 (0, 0)) :: chL c p (.slice p1 (np + 1) q2) ((put ++ news.map (·.1)) ++ [ad]) (nodesL (.slice (some ⟨g, 0, none⟩) n nc) T ++ l)) := by
     have h7 := h5.reord [1, 0]
     unfold pairsS at h7
     rw [List.length_map, hnl] at h7
     exact h7
    have hsrc : ∀ j u, ([Value.int .i64 kh, Value.int .i64 ad])[j]? = some u -> (V2.alloc (.cells #[.int .i64 kh, .int .i64 ad] 87)).cell? ((⟨V2.heap.size, 0, none⟩ : Addr).add j) = some u := fun j u hu => by
     rw [Addr.add_lit, Nat.zero_add]
     exact cell_of h5.got j (by simpa using hu)
    have Hsrc := Lib.hid hsrc
    have H6 := Lib.hid h6
    have HK3 := Lib.hid (hk3.alloc (.cells #[.int .i64 kh, .int .i64 ad] 87))
    have Hnl := Lib.hid hnl
    clear h3 hk3 h4 h5 h6 hsrc hrd hk0l hkk hg8 hnl Hz HK1 HKX z1 f1 l1 q1 lq
    go_upto_region 10 with (at_builtin; refine wpList_append_row rfl (.tmp 39) (.tmp 46) 75 rfl 87 i0 (.agg #[.int .i64 0, .int .i64 0]) 2 16 Tryz.underlying75 I1 I2 I3 I4 rfl (by decide) _ _ ((news.map outP).flatMap pairCells) rfl H6.out ⟨V2.heap.size, 0, none⟩ 1 1 [.int .i64 kh, .int .i64 ad] rfl rfl Hsrc.out (by simp [Value.oneCell']) (by simp [maxLen]; omega) (by omega) ?_; intro v' w' hK hh)
    obtain ⟨oa', oc', rfl, _⟩ := hh.row_val (v := v') (.head _)
    have HM2 : Hid (WrMid w c p bank sp N es Q put (.slice (some ⟨g, 0, none⟩) n nc) T l (k + 1) (.slice oa' (k + 1) oc') w') := by
     refine ⟨news ++ [(ad, ⟨lv, keys, vals⟩)], put1 Q' ad ⟨lv, keys, vals⟩, .slice p1 (np + 1) q2, oa', oc', rfl, by rw [List.map_append]; exact HX2.out.1, HX2.out.2.1, HK3.out.trans hK, ?_⟩
     have e1 : (news.map outP).flatMap pairCells ++ [Value.int .i64 kh, Value.int .i64 ad] = ((news ++ [(ad, (⟨lv, keys, vals⟩ : Nd))]).map outP).flatMap pairCells := by
      rw [List.map_append, List.flatMap_append]
      simp only [List.map_cons, List.map_nil, List.flatMap_cons, List.flatMap_nil, List.append_nil, outP, pairCells, HKh.out.1]
     rw [e1] at hh
     have h7 := ((hh.reord [1]).tail.reord [2]).tail
     unfold pairsS
     have e2 : (news ++ [(ad, (⟨lv, keys, vals⟩ : Nd))]).map (·.1) = news.map (·.1) ++ [ad] := by rw [List.map_append]; rfl
     rw [List.length_map, List.length_append, Hnl.out, e2, <- List.append_assoc]
     exact h7
    clear hh hK HK3 H6 Hsrc HX2 HKh HRk Hlk Hnk Hnp hlp Hnl
    go_wp2
    go_roundg (n - (k + 1))
    case measure => omega
    case rel => exact ⟨k + 1, by omega, rfl, by go_num, HM2⟩
  ·have hke : k = n := by omega
   subst hke
   have htk : T.take k = T := List.take_of_length_le (by have := Hn.out; omega)
   rw [htk] at hnw
   have HF : Hid (WrPost c p bank sp N es Q put (T.map Nv.nd) l w (.returned (.tuple #[.slice oa k oc, .nilIface])) wr) := by
    refine ⟨hK, news, Q', pv, hps, ?_, .inr ⟨hnw, _, rfl, ?_⟩⟩
    ·have := congrArg List.length hnw
     rw [List.length_map] at this
     rw [this]; exact Nat.le_refl _
    ·rw [List.length_map, Hn.out]
     exact Has.skip4 hh
   clear hh hK hps hnw htk Hok Ht
   go_wp2
   go_ret2
   exact HF.out
/-
  Trees (layer 12): is it one node that names one page (single)?
-/
def singleB : List Nd -> Bool
 | [n] => decide (0 < n.level) && n.keys.length == 1
 | _ => false
theorem bt_single {w : World} {l : List Say} {nv : Value} {T : List Nv} (h : Has w l) (hm : ∀ A ∈ nodesL nv T, A ∈ l) (hT : T.length <= 2) :
  Calls Tryz.prog 207 #[nv] w fun r w' => r = .returned (.bool (singleB (T.map Nv.nd))) /\ w = w' := by
 obtain ⟨a, c, rfl, hr⟩ := h.nodes_read (hm _ (.head _))
 match T, hT, hm, hr with
 | [], _, _, _ =>
  go_enter Tryz.func207, Tryz.ntmps207
  go_wp2
  go_ret
  exact ⟨rfl, rfl⟩
 | [t], _, hm, hr =>
  obtain ⟨g, rfl, c0, c1, c2⟩ := hr 0 t rfl
  obtain ⟨ak, ck, ek, hx1, hx2⟩ := h.ints_read (hm (intsS t.kv t.nd.keys) (by simp [nodesL, Nv.rows]))
  rw [ek] at c1
  have lg := World.block_lt_of_cell? _ _ c0
  have HB : Hid (singleB [t.nd] = (decide (0 < t.nd.level) && t.nd.keys.length == 1)) := rfl
  clear hx1 hx2 hr hm h ek
  simp only [Nat.zero_mul, Nat.zero_add] at c0 c1 c2
  generalize t.nd.level = L at *
  generalize t.nd.keys.length = n at *
  have hnI : ((n : Int) == 1) = (n == 1) := by rw [Bool.eq_iff_iff]; simp; omega
  by_cases hL : 0 < L
  ·have HL : Hid (decide (0 < L) = true) := by show _ = _; simpa using hL
   go_enter Tryz.func207, Tryz.ntmps207
   go_wp2
   go_ret
   exact ⟨by rw [HB.out, HL.out]; rfl, rfl⟩
  ·have HL : Hid (decide (0 < L) = false) := by show _ = _; simpa using hL
   go_enter Tryz.func207, Tryz.ntmps207
   go_wp2
   go_ret
   exact ⟨by rw [HB.out, HL.out]; rfl, rfl⟩
 | [t, u], _, _, _ =>
  go_enter Tryz.func207, Tryz.ntmps207
  go_wp2
  go_ret
  exact ⟨rfl, rfl⟩
end Go.Proofs.YtgbgneiciabidaaGreatDoor
