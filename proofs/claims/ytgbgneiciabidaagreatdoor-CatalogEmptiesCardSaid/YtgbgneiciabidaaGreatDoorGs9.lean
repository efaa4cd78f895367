/-
  Pages (layer 11), the sixth part: Get.
-/
import Derived.Test.YtgbgneiciabidaaGreatDoorGs8
import Derived.Test.YtgbgneiciabidaaGreatDoorGs7
import Derived.Test.YtgbgneiciabidaaGreatDoorGs3
namespace Go.Proofs.YtgbgneiciabidaaGreatDoor
open Go Go.RowKit
set_option linter.all false
set_option maxHeartbeats 8000000
def nodeZero : Value := .agg #[.int .i64 0, .slice none 0 0, .slice none 0 0]
def GetPost (a : Int) (p bank sp n : Nat) (Q : Pgs) (l : List Say) (w : World) (r : Ending) (w' : World) : Prop :=
 (VMap.get a Q = none /\ r = .returned (.tuple #[nodeZero, errV 81]) /\ Kept w w' /\ Has w' (storeS p bank sp n Q :: l)) \/
 ∃ g kv vv, VMap.get a Q = some g /\ r = .returned (.tuple #[g.n.val kv vv, .nilIface]) /\ Kept w w' /\ Has w' (intsS kv g.n.keys :: intsS vv g.n.vals :: storeS p bank sp n Q :: l)
theorem Has.st_page {w : World} {l : List Say} {p bank sp n : Nat} {x : StAt} {a : Int} {t : Sl} (hu : VMap.Up x.T) (ht : VMap.get a x.T = some t) (h : Has w (storeFlat p bank sp n x ++ l)) :
  Has w (intsS t.kv t.pg.n.keys :: intsS t.vv t.pg.n.vals :: (storeCell p bank sp x.mb :: mapS x.mb n (VMap.over Sl.val x.T) :: (pool (VMap.del a x.T) ++ l))) := by
 have hp : (storeFlat p bank sp n x ++ l).Perm (all t.rows :: (storeCell p bank sp x.mb :: mapS x.mb n (VMap.over Sl.val x.T) :: (pool (VMap.del a x.T) ++ l))) := by
  unfold storeFlat
  refine List.Perm.trans (List.Perm.cons _ (List.Perm.cons _ (List.Perm.append_right l (pool_split hu ht)))) ?_
  exact (List.Perm.cons _ (List.Perm.swap _ _ _)).trans (List.Perm.swap _ _ _)
 exact (h.perm hp).split
theorem Has.st_page_back {w : World} {l : List Say} {p bank sp n : Nat} {x : StAt} {a : Int} {t : Sl} (hu : VMap.Up x.T) (ht : VMap.get a x.T = some t)
  (h : Has w (intsS t.kv t.pg.n.keys :: intsS t.vv t.pg.n.vals :: (storeCell p bank sp x.mb :: mapS x.mb n (VMap.over Sl.val x.T) :: (pool (VMap.del a x.T) ++ l)))) : Has w (storeFlat p bank sp n x ++ l) := by
 have hp : (storeFlat p bank sp n x ++ l).Perm (all t.rows :: (storeCell p bank sp x.mb :: mapS x.mb n (VMap.over Sl.val x.T) :: (pool (VMap.del a x.T) ++ l))) := by
  unfold storeFlat
  refine List.Perm.trans (List.Perm.cons _ (List.Perm.cons _ (List.Perm.append_right l (pool_split hu ht)))) ?_
  exact (List.Perm.cons _ (List.Perm.swap _ _ _)).trans (List.Perm.swap _ _ _)
 have h1 : Has w (t.rows ++ (storeCell p bank sp x.mb :: mapS x.mb n (VMap.over Sl.val x.T) :: (pool (VMap.del a x.T) ++ l))) := h
 exact h1.unite.perm hp.symm
theorem ok_lens {n : Nd} (h : n.ok = true) : 0 <= n.level /\ n.level <= 20 /\ n.keys.length = n.vals.length /\ 1 <= n.keys.length /\ n.keys.length <= 7 := by
 simp only [Nd.ok, Bool.and_eq_true, decide_eq_true_eq, beq_iff_eq] at h
 obtain ⟨⟨⟨⟨⟨o1, o2⟩, o3⟩, o4⟩, o5⟩, _⟩ := h
 exact ⟨o1, o2, o3, o4, o5⟩
set_option maxRecDepth 100000 in
theorem st_Get {w : World} {l : List Say} {p bank sp n : Nat} {Q : Pgs} (h : Has w (storeS p bank sp n Q :: l)) (a : Int) (b0 : -9223372036854775808 <= a) (b1 : a <= 9223372036854775807) :
  Calls Tryz.prog 20 #[.pointer (some ⟨p, 0, none⟩), .int .i64 a] w (GetPost a p bank sp n Q l w) := by
 obtain ⟨x, ok, hh⟩ := h.st_open
 have hr := hh.alloc (.cells #[.int .i64 0, .slice none 0 0, .slice none 0 0] 35)
 have hK : Kept w (w.alloc (.cells #[.int .i64 0, .slice none 0 0, .slice none 0 0] 35)) := (Kept.refl w).alloc _
 have hlk := map_look_ok hr (b := x.mb) (n := n) (M := VMap.over Sl.val x.T) (by simp [storeFlat]) a b0 b1
 have c2 : (w.alloc (.cells #[.int .i64 0, .slice none 0 0, .slice none 0 0] 35)).cell? ⟨p, 2, none⟩ = some (.map (some x.mb)) := cell_of (hr.at (b := p) (o := .cells #[.pointer (some ⟨bank, 0, none⟩), .pointer (some ⟨sp, 0, none⟩), .map (some x.mb), .map none] 147 (0, 0)) (by simp [storeFlat, storeCell])) 2 rfl
 have d0 : (w.alloc (.cells #[.int .i64 0, .slice none 0 0, .slice none 0 0] 35)).cell? ⟨w.heap.size, 0, none⟩ = some (.int .i64 0) := cell_of hr.got 0 rfl
 have d1 : (w.alloc (.cells #[.int .i64 0, .slice none 0 0, .slice none 0 0] 35)).cell? ⟨w.heap.size, 1, none⟩ = some (.slice none 0 0) := cell_of hr.got 1 rfl
 have d2 : (w.alloc (.cells #[.int .i64 0, .slice none 0 0, .slice none 0 0] 35)).cell? ⟨w.heap.size, 2, none⟩ = some (.slice none 0 0) := cell_of hr.got 2 rfl
 have f0 := thaw_of hr.got 0
 have f1 := thaw_of hr.got 1
 have f2 := thaw_of hr.got 2
 have hsl := hh.pool_sl (T := x.T) (fun A hA => by simp [storeFlat, hA])
 have HR := Lib.hid hr
 have HK := Lib.hid hK
 have Hok := Lib.hid ok
 have hrw : Hid (∀ w', Kept (w.alloc (.cells #[.int .i64 0, .slice none 0 0, .slice none 0 0] 35)) w' -> Kept w w') := fun w' hk => hK.trans hk
 clear h hh hr hK
 go_enter Tryz.func20, Tryz.ntmps20
 go_upto_region 1 with fail
 generalize w.alloc (.cells #[.int .i64 0, .slice none 0 0, .slice none 0 0] 35) = W at *
 generalize w.heap.size = rb at *
 have lp := World.block_lt_of_cell? _ _ c2
 have lr := World.block_lt_of_cell? _ _ d0
 rw [VMap.get_over] at hlk
 have hgQ : VMap.get a Q = (VMap.get a x.T).map Sl.pg := by rw [<- ok.eq, VMap.get_over]
 clear ok
 cases hg : VMap.get a x.T with
 | none =>
  rw [hg] at hlk hgQ
  simp only [Option.map_none, Option.getD_none, Option.isSome_none, pageZero] at hlk hgQ
  have HQ := Lib.hid hgQ
  have HG := Lib.hid hg
  clear hgQ hg hsl
  go_wp2
  have h5 := ((((HR.out.setCell 0 (.int .i64 0)).setCell 1 (.slice none 0 0)).setCell 2 (.slice none 0 0))).alloc_off (.cells #[.int .i64 0, .slice none 0 0, .slice none 0 0, .int .i64 0, .int .i64 0] 153)
  have hkf := (((HK.out.setCell ⟨rb, 0, none⟩ (.int .i64 0)).setCell ⟨rb, 1, none⟩ (.slice none 0 0)).setCell ⟨rb, 2, none⟩ (.slice none 0 0)).alloc (.cells #[.int .i64 0, .slice none 0 0, .slice none 0 0, .int .i64 0, .int .i64 0] 153)
  generalize (((W.setCell ⟨rb, 0, none⟩ (.int .i64 0)).setCell ⟨rb, 1, none⟩ (.slice none 0 0)).setCell ⟨rb, 2, none⟩ (.slice none 0 0)).alloc (.cells #[.int .i64 0, .slice none 0 0, .slice none 0 0, .int .i64 0, .int .i64 0] 153) = W3 at *
  have z0 : W3.cell? ⟨rb, 0, none⟩ = some (.int .i64 0) := cell_of h5.got 0 rfl
  have z1 : W3.cell? ⟨rb, 1, none⟩ = some (.slice none 0 0) := cell_of h5.got 1 rfl
  have z2 : W3.cell? ⟨rb, 2, none⟩ = some (.slice none 0 0) := cell_of h5.got 2 rfl
  refine bodyPost_ret (v := .tuple #[.agg #[.int .i64 0, .slice none 0 0, .slice none 0 0], .iface 157 (.int .i64 81)]) (by simp [results, Tryz.results20, go_sem, z0, z1, z2]) rfl (.inl ⟨HQ.out, rfl, hkf, ?_⟩)
  exact Has.st_shut Hok.out h5.tail
 | some t =>
  have hokp : t.pg.n.ok = true := Hok.out.ok (a, t.pg) (by rw [<- Hok.out.eq]; exact List.mem_map.2 ⟨_, get_mem hg, rfl⟩)
  obtain ⟨q0, q1, q2, q3, q4⟩ := ok_lens hokp
  obtain ⟨⟨ak, nk, ck, ek⟩, av, nv, cv, ev⟩ := hsl _ (get_mem hg)
  have h1 := Has.st_page Hok.out.up hg (HR.out.perm List.perm_middle.symm)
  rw [hg] at hlk hgQ
  obtain ⟨⟨nd, H, E⟩, kv, vv⟩ := t
  simp only at ek ev q0 q1 q2 q3 q4 h1
  subst ek ev
  simp only [Option.map_some, Option.getD_some, Option.isSome_some, Sl.val] at hlk hgQ
  have hnc := node_copied nd (h1.alloc_off (.cells #[.int .i64 nd.level, .slice ak nk ck, .slice av nv cv, .int .i64 H, .int .i64 E] 153)) (.head _) (.tail _ (.head _)) (by omega) (by omega) (by omega) (by omega)
  have HNC := Lib.hid hnc
  have HQ := Lib.hid hgQ
  have HG := Lib.hid hg
  have HKa : Hid (Kept w (W.alloc (.cells #[.int .i64 nd.level, .slice ak nk ck, .slice av nv cv, .int .i64 H, .int .i64 E] 153))) := HK.out.alloc _
  simp only [Nd.val] at HNC
  clear hgQ hg hsl h1 hnc hokp q2
  go_wp2_with fail
  refine HNC.out.mono ?_
  rintro r w2 ⟨k2, v2, rfl, hK2, hh2⟩
  have h3 : Has w2 ((intsS k2 nd.keys :: intsS v2 nd.vals :: intsS (.slice ak nk ck) nd.keys :: intsS (.slice av nv cv) nd.vals :: storeCell p bank sp x.mb :: mapS x.mb n (VMap.over Sl.val x.T) :: pool (VMap.del a x.T)) ++ (pts rb (.cells #[.int .i64 0, .slice none 0 0, .slice none 0 0] 35 (0, 0)) :: l)) := hh2
  have h4 := h3.perm List.perm_middle
  obtain ⟨a5, c5, e5, _, _⟩ := h4.ints_read (v := k2) (xs := nd.keys) (by simp)
  obtain ⟨a6, c6, e6, _, _⟩ := h4.ints_read (v := v2) (xs := nd.vals) (by simp)
  subst e5 e6
  have e0 := cell_of h4.got 0 rfl
  have e1 := cell_of h4.got 1 rfl
  have e2 := cell_of h4.got 2 rfl
  have g0 := thaw_of h4.got 0
  have g1 := thaw_of h4.got 1
  have g2 := thaw_of h4.got 2
  have lw := World.block_lt_of_cell? _ _ e0
  have H4 := Lib.hid h4
  have HK2 := Lib.hid (HKa.out.trans hK2)
  simp only [Nd.val]
  clear hh2 h3 h4 hK2 HNC HKa d0 d1 d2 f0 f1 f2 c2 hlk
  go_wp2
  have h5 := ((H4.out.setCell 0 (.int .i64 nd.level)).setCell 1 (.slice a5 nd.keys.length c5)).setCell 2 (.slice a6 nd.vals.length c6)
  have hkf := ((HK2.out.setCell ⟨rb, 0, none⟩ (.int .i64 nd.level)).setCell ⟨rb, 1, none⟩ (.slice a5 nd.keys.length c5)).setCell ⟨rb, 2, none⟩ (.slice a6 nd.vals.length c6)
  generalize ((w2.setCell ⟨rb, 0, none⟩ (.int .i64 nd.level)).setCell ⟨rb, 1, none⟩ (.slice a5 nd.keys.length c5)).setCell ⟨rb, 2, none⟩ (.slice a6 nd.vals.length c6) = W3 at *
  have z0 : W3.cell? ⟨rb, 0, none⟩ = some (.int .i64 nd.level) := cell_of h5.got 0 rfl
  have z1 : W3.cell? ⟨rb, 1, none⟩ = some (.slice a5 nd.keys.length c5) := cell_of h5.got 1 rfl
  have z2 : W3.cell? ⟨rb, 2, none⟩ = some (.slice a6 nd.vals.length c6) := cell_of h5.got 2 rfl
  refine bodyPost_ret (v := .tuple #[.agg #[.int .i64 nd.level, .slice a5 nd.keys.length c5, .slice a6 nd.vals.length c6], .nilIface]) (by simp [results, Tryz.results20, go_sem, z0, z1, z2]) rfl (.inr ⟨⟨nd, H, E⟩, _, _, HQ.out, rfl, hkf, ?_⟩)
  have h6 : Has W3 ([intsS (.slice a5 nd.keys.length c5) nd.keys, intsS (.slice a6 nd.vals.length c6) nd.vals] ++ (([intsS (.slice ak nk ck) nd.keys, intsS (.slice av nv cv) nd.vals, storeCell p bank sp x.mb, mapS x.mb n (VMap.over Sl.val x.T)] ++ pool (VMap.del a x.T)) ++ l)) := h5.tail
  have h7 := h6.perm (List.perm_append_comm_assoc _ _ _)
  have h8 := Has.st_shut Hok.out (Has.st_page_back (t := ⟨⟨nd, H, E⟩, .slice ak nk ck, .slice av nv cv⟩) Hok.out.up HG.out h7)
  exact h8.push 2
/-
  Nodes (layer 10), the fourth part: Bytes.
-/
def pairBytes (p : Int × Int) : List Int := bytes8 p.1 ++ bytes8 p.2
def nodeBytes (n : Nd) : List Int := [n.level, (n.keys.length : Int)] ++ n.pairs.flatMap pairBytes
def NBPost (n : Nd) (l : List Say) (w : World) (r : Ending) (w' : World) : Prop :=
 (n.ok = false /\ r = .returned (.tuple #[.slice none 0 0, errV 70]) /\ Kept w w' /\ Has w' l) \/ (n.ok = true /\ BytesPost (frameOf 2 (nodeBytes n)) l w r w')
theorem byte_new {w : World} {L : List Say} {p : Nat} {lv : Int} {n : Nat} (h : Has w (packS p [] :: L)) (o1 : 0 <= lv) (o2 : lv <= 20) (o4 : 1 <= n) (o5 : n <= 7) :
  Calls Tryz.prog 134 #[.pointer (some ⟨p, 0, none⟩), .slice (some ⟨w.heap.size, 0, none⟩) 2 2] (w.alloc (.cells #[.int .i64 lv, .int .i64 (n : Int)] 3))
   (PutPost (w.alloc (.cells #[.int .i64 lv, .int .i64 (n : Int)] 3)) p [lv, (n : Int)] (rowS 3 1 (.slice (some ⟨w.heap.size, 0, none⟩) 2 2) 2 [.int .i64 lv, .int .i64 (n : Int)] :: L)) := by
 have h1 := ((h.alloc (.cells #[.int .i64 lv, .int .i64 (n : Int)] 3)).row_of_pts (size := 1) (n := 2) (cap := 2) (xs := [.int .i64 lv, .int .i64 (n : Int)]) rfl (Nat.le_refl _) (by simp [maxLen]) rfl rfl).swap
 exact pack_Byte h1 w.heap.size 2 [lv, (n : Int)] (.head _) (by intro x hx; simp at hx; rcases hx with rfl | rfl <;> omega) (by simp)
theorem byte_old {w : World} {L : List Say} {p b : Nat} {lv : Int} {n : Nat} (h : Has w (packS p [] :: pts b (.cells #[.int .i64 lv, .int .i64 (n : Int)] 3 (0, 0)) :: L)) (o1 : 0 <= lv) (o2 : lv <= 20) (o4 : 1 <= n) (o5 : n <= 7) :
  Calls Tryz.prog 134 #[.pointer (some ⟨p, 0, none⟩), .slice (some ⟨b, 0, none⟩) 2 2] w
   (PutPost w p [lv, (n : Int)] (rowS 3 1 (.slice (some ⟨b, 0, none⟩) 2 2) 2 [.int .i64 lv, .int .i64 (n : Int)] :: L)) := by
 have h1 := (h.swap.row_of_pts (size := 1) (n := 2) (cap := 2) (xs := [.int .i64 lv, .int .i64 (n : Int)]) rfl (Nat.le_refl _) (by simp [maxLen]) rfl rfl).swap
 exact pack_Byte h1 b 2 [lv, (n : Int)] (.head _) (by intro x hx; simp at hx; rcases hx with rfl | rfl <;> omega) (by simp)
theorem ordTo_all (ps : List (Int × Int)) : ∀ n, ordTo ps n = true -> ∀ k q, k < n -> ps[k]? = some q -> pairOk q.1 q.2 = true
 | 0, _, _, _, h, _ => by omega
 | n + 1, ho, k, q, hk, hq => by
  simp only [ordTo, Bool.and_eq_true] at ho
  by_cases e : k = n
  ·subst e
   have := ho.2
   rw [ordAt, hq] at this
   simp only [Bool.and_eq_true] at this
   exact this.1
  ·exact ordTo_all ps n ho.1 k q (by omega) hq
theorem flatP_len (ps : List (Int × Int)) : (ps.flatMap pairBytes).length = 16 * ps.length := by
 induction ps with
 | nil => rfl
 | cons x ns ih => rw [List.flatMap_cons, List.length_append, ih, List.length_cons]; simp [pairBytes, bytes8]; omega
theorem flat_next (ps : List (Int × Int)) (k : Nat) (h : k < ps.length) : (ps.take (k + 1)).flatMap pairBytes = (ps.take k).flatMap pairBytes ++ pairBytes ps[k] := by
 rw [List.take_succ_eq_append_getElem h, List.flatMap_append]; simp
def NBMid (w : World) (p : Nat) (lv : Int) (n : Nat) (v : Value) (ps : List (Int × Int)) (L : List Say) (k : Nat) (wx : World) : Prop :=
 Kept w wx /\ Has wx (packS p ([lv, (n : Int)] ++ (ps.take k).flatMap pairBytes) :: pairsS v ps :: L)
theorem long_new {w : World} {L : List Say} {p : Nat} {cur : List Int} {qa qb : Int} (h : Has w (packS p cur :: L)) (hb : 0 <= qa /\ qa <= 1099511627776 /\ 1 <= qb /\ qb <= 2305843009213693952) (hl : cur.length + 16 <= 1000) :
  Calls Tryz.prog 136 #[.pointer (some ⟨p, 0, none⟩), .slice (some ⟨w.heap.size, 0, none⟩) 2 2] (w.alloc (.cells #[.int .i64 qa, .int .i64 qb] 3))
   (PutPost (w.alloc (.cells #[.int .i64 qa, .int .i64 qb] 3)) p (cur ++ pairBytes (qa, qb)) (rowS 3 1 (.slice (some ⟨w.heap.size, 0, none⟩) 2 2) 2 [.int .i64 qa, .int .i64 qb] :: L)) := by
 have h1 := ((h.alloc (.cells #[.int .i64 qa, .int .i64 qb] 3)).row_of_pts (size := 1) (n := 2) (cap := 2) (xs := [.int .i64 qa, .int .i64 qb]) rfl (Nat.le_refl _) (by simp [maxLen]) rfl rfl).swap
 have h2 := pack_Long h1 w.heap.size 2 [qa, qb] (.head _) (by intro x hx; simp at hx; rcases hx with rfl | rfl <;> omega) (by simp; omega)
 have e : [qa, qb].flatMap bytes8 = pairBytes (qa, qb) := by simp [pairBytes]
 rw [e] at h2
 exact h2
set_option maxRecDepth 100000 in
theorem node_Bytes {w : World} {l : List Say} (n : Nd) {kv vv : Value} (h : Has w l) (hk : intsS kv n.keys ∈ l) (hv : intsS vv n.vals ∈ l) :
  Calls Tryz.prog 75 #[n.val kv vv] w (NBPost n l w) := by
 obtain ⟨ak, ck, rfl, _, _⟩ := h.ints_read hk
 obtain ⟨av, cv, rfl, _, _⟩ := h.ints_read hv
 have hbox := h.alloc (.cells #[.int .i64 n.level, .slice ak n.keys.length ck, .slice av n.vals.length cv] 35)
 have HCk := Lib.hid (node_Check n hbox (.tail _ hk) (.tail _ hv))
 have HK0 : Hid (Kept w (w.alloc (.cells #[.int .i64 n.level, .slice ak n.keys.length ck, .slice av n.vals.length cv] 35))) := (Kept.refl w).alloc _
 have c0 := cell_of hbox.got 0 rfl
 have c1 := cell_of hbox.got 1 rfl
 have c2 := cell_of hbox.got 2 rfl
 have lb := World.block_lt_of_cell? _ _ c0
 have Hk := Lib.hid hk
 have Hv := Lib.hid hv
 obtain ⟨lv, ks, vs⟩ := n
 simp only [Nd.val] at *
 clear h hk hv hbox
 go_enter Tryz.func75, Tryz.ntmps75
 go_upto_region 1 with fail
 generalize w.alloc (.cells #[.int .i64 lv, .slice ak ks.length ck, .slice av vs.length cv] 35) = W at *
 generalize w.heap.size = bx at *
 go_wp2_with fail
 refine HCk.out.mono ?_
 rintro r w1 ⟨rfl, hK1, hh1⟩
 have HK1 := Lib.hid (HK0.out.trans hK1)
 have H1 := Lib.hid hh1
 clear HCk HK0 c0 c1 c2 lb
 cases hok : Nd.ok ⟨lv, ks, vs⟩ with
 | false =>
  have Hok := Lib.hid hok
  clear hok hK1 hh1
  simp only [Bool.false_eq_true, if_false, errV]
  go_wp2
  go_ret2
  exact .inl ⟨Hok.out, rfl, HK1.out, H1.out.tail⟩
 | true =>
  have c0 := cell_of hh1.got 0 rfl
  have c1 := cell_of hh1.got 1 rfl
  have c2 := cell_of hh1.got 2 rfl
  have lb := World.block_lt_of_cell? _ _ c0
  have Hok := Lib.hid hok
  simp only [Nd.ok, Bool.and_eq_true, decide_eq_true_eq, beq_iff_eq] at hok
  obtain ⟨⟨⟨⟨⟨o1, o2⟩, o3⟩, o4⟩, o5⟩, o6⟩ := hok
  have O3 := Lib.hid o3
  have O6 := Lib.hid o6
  have HN1 := Lib.hid (pack_New (hh1.drew))
  have HN2 := Lib.hid (pack_New (hh1.drew.alloc (.cells #[.int .i64 lv, .int .i64 (ks.length : Int)] 3)))
  clear o3 o6 hK1 hh1
  go_upto_region 3 with fail
  go_cut [4] (fun pv wx => ∃ p, pv = .pointer (some ⟨p, 0, none⟩) /\ Hid (PackMid w p [lv, (ks.length : Int)] (pts bx (.cells #[.int .i64 lv, .slice ak ks.length ck, .slice av vs.length cv] 35 (0, 0)) :: l) wx))
  case first =>
   go_region_law (first
    | (go_simp; go_at_call 133; first
      | (refine HN1.out.mono ?_; rintro r V ⟨p, rfl, hK, hh⟩; have hpb := (hh.pull 1).got; have d0 := cell_of hpb 0 rfl; have d1 := cell_of hpb 1 rfl; have ld := World.block_lt_of_cell? _ _ d0; have HBy := Lib.hid (byte_new hh o1 o2 o4 o5); have HKP := Lib.hid hK; clear hK hh hpb)
      | (refine HN2.out.mono ?_; rintro r V ⟨p, rfl, hK, hh⟩; have hpb := (hh.pull 2).got; have d0 := cell_of hpb 0 rfl; have d1 := cell_of hpb 1 rfl; have ld := World.block_lt_of_cell? _ _ d0; have HBy := Lib.hid (byte_old hh o1 o2 o4 o5); have HKP := Lib.hid hK; clear hK hh hpb))
    | (go_simp; go_at_call 134; refine HBy.out.mono ?_; rintro r V2 ⟨rfl, hK2, hh2⟩; have HK2 := Lib.hid hK2; have HH2 := Lib.hid ((hh2.pull 1).tail); clear hK2 hh2))
   all_goals
    go_wp2_with fail
    go_meet
    case rel =>
     exact ⟨p, rfl, by
      first
       | exact ((HK1.out.drew.trans HKP.out).alloc _).trans HK2.out
       | exact (((HK1.out.drew).alloc _).trans HKP.out).trans HK2.out, HH2.out⟩
  case rest =>
   clear HN1 HN2 c0 c1 c2 lb H1 HK1
   obtain ⟨p, rfl, HM⟩ := hcut
   obtain ⟨hK2, hh2⟩ := HM.out
   have hp2 := hh2.tail.got
   have c0 := cell_of hp2 0 rfl
   have c1 := cell_of hp2 1 rfl
   have c2 := cell_of hp2 2 rfl
   have lb := World.block_lt_of_cell? _ _ c0
   have HPr := Lib.hid (node_pairs ⟨lv, ks, vs⟩ hh2 (.tail _ (.tail _ Hk.out)) (.tail _ (.tail _ Hv.out)) O3.out (by show ks.length <= 100; omega))
   have HK2 := Lib.hid hK2
   simp only [Nd.val] at HPr
   clear hK2 hh2 hp2 HM
   go_wp2_with fail
   refine HPr.out.mono ?_
   rintro r w3 ⟨v, rfl, hK3, hh3⟩
   have hpl : (Nd.pairs ⟨lv, ks, vs⟩).length = ks.length := by simp [Nd.pairs, O3.out]
   have hbd : ∀ (k : Nat) (q : Int × Int), (Nd.pairs ⟨lv, ks, vs⟩)[k]? = some q -> 0 <= q.1 /\ q.1 <= 1099511627776 /\ 1 <= q.2 /\ q.2 <= 2305843009213693952 := by
    intro k q hq
    have := ordTo_all _ _ O6.out k q (List.getElem?_eq_some_iff.1 hq).1 hq
    simpa [pairOk, and_assoc] using this
   have hEnd : Hid (nodeBytes ⟨lv, ks, vs⟩ = [lv, (ks.length : Int)] ++ (Nd.pairs ⟨lv, ks, vs⟩).flatMap pairBytes) := rfl
   have hh3' : Has w3 (pairsS v (Nd.pairs ⟨lv, ks, vs⟩) :: packS p [lv, (ks.length : Int)] :: pts bx (.cells #[.int .i64 lv, .slice ak ks.length ck, .slice av vs.length cv] 35 (0, 0)) :: l) := hh3
   generalize Nd.pairs ⟨lv, ks, vs⟩ = ps at *
   obtain ⟨a3, c3, rfl, _, _⟩ := hh3'.pairs_read (.head _)
   have H3 : Hid (NBMid w p lv ks.length (.slice a3 ps.length c3) ps (pts bx (.cells #[.int .i64 lv, .slice ak ks.length ck, .slice av vs.length cv] 35 (0, 0)) :: l) 0 w3) := ⟨HK2.out.trans hK3, by simpa using hh3'.swap⟩
   have HBd := Lib.hid hbd
   have hps : ps.length <= 7 := by omega
   have HPL := Lib.hid hpl
   clear hK3 hh3 hh3' HPr HK2 hbd hpl c0 c1 c2 lb
   go_wp2
   go_loopg [24] ps.length (fun gk i wr => ∃ k : Nat, k <= ps.length /\ gk = ps.length - k /\ i = .int .i64 k /\ Hid (NBMid w p lv ks.length (.slice a3 ps.length c3) ps (pts bx (.cells #[.int .i64 lv, .slice ak ks.length ck, .slice av vs.length cv] 35 (0, 0)) :: l) k wr))
   case atStart => exact ⟨0, Nat.zero_le _, rfl, rfl, H3⟩
   case round =>
    clear H3
    obtain ⟨k, hkk, rfl, rfl, HM⟩ := hrel
    by_cases hlt : k < ps.length
    ·obtain ⟨hK4, hh4⟩ := HM.out
     obtain ⟨a5, c5, e5, _, hr5⟩ := hh4.pairs_read (.tail _ (.head _))
     cases e5
     obtain ⟨g, rfl, x1, x2⟩ := hr5 k ps[k] (List.getElem?_eq_getElem hlt)
     have hbq := HBd.out k ps[k] (List.getElem?_eq_getElem hlt)
     have hk1 : (k : Int) < (ps.length : Int) := by omega
     have hk0 : (0 : Int) <= k := by omega
     have HNx := Lib.hid (flat_next ps k hlt)
     generalize ps[k] = q at *
     obtain ⟨qa, qb⟩ := q
     simp only at x1 x2 hbq
     have l1 := World.block_lt_of_cell? _ _ x1
     have HLg := Lib.hid (long_new (hh4.alloc_off (.cells #[.int .i64 qa, .int .i64 qb] 87)) (qa := qa) (qb := qb) hbq (by rw [List.length_append, flatP_len, List.length_take, Nat.min_eq_left hkk]; simp; omega))
     simp only [World.size_alloc] at HLg
     have HK4 : Hid (Kept w ((wr.alloc (.cells #[.int .i64 qa, .int .i64 qb] 87)).alloc (.cells #[.int .i64 qa, .int .i64 qb] 3))) := (hK4.alloc _).alloc _
     clear hK4 hh4 hr5 hbq HM
     go_wp2_with fail
     refine HLg.out.mono ?_
     rintro r w5 ⟨rfl, hK5, hh5⟩
     have HK5 := Lib.hid (HK4.out.trans hK5)
     have HH5 := Lib.hid ((hh5.pull 1).tail)
     clear hK5 hh5 HLg HK4
     go_wp2
     go_roundg (ps.length - (k + 1))
     case measure => omega
     case rel =>
      refine ⟨k + 1, by omega, rfl, by simp, HK5.out, ?_⟩
      rw [HNx.out, <- List.append_assoc]
      exact HH5.out
    ·obtain rfl : k = ps.length := by omega
     obtain ⟨hK4, hh4⟩ := HM.out
     rw [List.take_length, <- hEnd.out] at hh4
     have hnl : (nodeBytes ⟨lv, ks, vs⟩).length = 2 + 16 * ps.length := by rw [hEnd.out, List.length_append, flatP_len]; simp
     have HPB := Lib.hid (pack_Bytes hh4 (by omega) (by omega))
     have HK4 := Lib.hid hK4
     have HNL := Lib.hid hnl
     clear hK4 hh4 hnl HM
     go_wp2_with fail
     refine HPB.out.mono ?_
     rintro r w5 ⟨v5, rfl, hK5, hh5⟩
     have HPt := Lib.hid (frame_Put hh5 (v := v5) (.head _) (by rw [HNL.out]; omega) (by rw [HNL.out]; omega) 2)
     have HK5 := Lib.hid (HK4.out.trans hK5)
     clear hK5 hh5 HPB HK4
     go_wp2_with fail
     refine HPt.out.mono ?_
     rintro r w6 ⟨v6, rfl, hK6, hh6⟩
     have HF : Hid (Kept w w6 /\ Has w6 (bytesS v6 (frameOf 2 (nodeBytes ⟨lv, ks, vs⟩)) :: l)) := ⟨HK5.out.trans hK6, ((((hh6.pull 1).tail.pull 1).tail.pull 1).tail.pull 1).tail⟩
     clear hK6 hh6 HPt HK5
     go_wp2
     go_ret2
     exact .inr ⟨Hok.out, v6, rfl, HF.out.1, HF.out.2⟩
/-
  Banks (layer 4): devices whose power stays up.
-/
theorem wrap_nil {w : World} (s : ByteArray) (d k : Int) : Calls Tryz.prog 80 #[.string s, .int .i64 d, .int .i64 k, .nilIface] w fun r w' => r = .returned .nilIface /\ w = w' := by
 go_enter Tryz.func80, Tryz.ntmps80
 go_wp2
 go_ret
 exact ⟨rfl, rfl⟩
structure BankAt where
 v : Value
 ds : List Nat
 done : Int
abbrev Dsk := List (List Int)
def bankHead (b : Nat) (x : BankAt) : List Say :=
 [pts b (.cells #[x.v, .bool false, .int .i64 0, .bool false, .int .i64 x.done] 219 (0, 0)), rowS 223 1 x.v x.ds.length (x.ds.map ptrOf)]
def bankFlat (N b : Nat) (X : List Dsk) (x : BankAt) : List Say := bankHead b x ++ zipL (diskS N) x.ds X
def bankS (N b : Nat) (X : List Dsk) : Say := ex fun x : BankAt => fact (x.ds.length = X.length /\ X.length <= 8) (all (bankFlat N b X x))
theorem Has.bank_open {w : World} {l : List Say} {N b : Nat} {X : List Dsk} (h : Has w (bankS N b X :: l)) : ∃ x : BankAt, x.ds.length = X.length /\ X.length <= 8 /\ Has w (bankFlat N b X x ++ l) := by
 obtain ⟨x, h⟩ := h.opened
 obtain ⟨ok, h⟩ := h.unfact
 exact ⟨x, ok.1, ok.2, h.split⟩
theorem Has.bank_shut {w : World} {l : List Say} {N b : Nat} {X : List Dsk} {x : BankAt} (ok : x.ds.length = X.length) (h2 : X.length <= 8) (h : Has w (bankFlat N b X x ++ l)) : Has w (bankS N b X :: l) := Has.chosen x (Has.tofact ⟨ok, h2⟩ h.unite)
theorem disk_mono {N M : Nat} (hN : N <= M) (d : Nat) (secs : Dsk) (h : Part) : diskS N d secs h -> diskS M d secs h := by
 rintro ⟨x, ok, hx⟩
 refine ⟨x, ok, ?_⟩
 have hx' : Sep h (diskFlat N d secs x) := hx
 show Sep h (diskFlat M d secs x)
 unfold diskFlat sectorsL at *
 refine Sep.cons_mono (fun g1 => Sep.cons_mono fun g hg => ?_) hx'
 have h2 := Sep.zip_mono (f := sectorS N) (g := sectorS M) (l := []) (fun b x h => sector_mono hN b x h) x.bs secs (h := g) (by simpa using hg)
 simpa using h2
theorem zip_snoc {β : Type} (f : Nat -> β -> Say) (bs : List Nat) (xs : List β) (b : Nat) (x : β) (h : bs.length = xs.length) : zipL f (bs ++ [b]) (xs ++ [x]) = zipL f bs xs ++ [f b x] := by
 rw [zipL, List.zip_append h, List.map_append]; rfl
def BankPost (l : List Say) (w : World) (r : Ending) (w' : World) : Prop := ∃ b, r = .returned (.pointer (some ⟨b, 0, none⟩)) /\ Kept w w' /\ Has w' (bankS 0 b [] :: l)
theorem bank_New {w : World} {l : List Say} (h : Has w l) : Calls Tryz.prog 71 #[] w (BankPost l w) := by
 have h1 := (h.alloc (.cells #[.slice none 0 0, .bool false, .int .i64 0, .bool false, .int .i64 0] 219)).row_nil 223 1
 have HB : Hid (Has (w.alloc (.cells #[.slice none 0 0, .bool false, .int .i64 0, .bool false, .int .i64 0] 219)) (bankS 0 w.heap.size [] :: l)) :=
  Has.bank_shut (x := ⟨.slice none 0 0, [], 0⟩) rfl (by simp) h1.swap
 clear h h1
 go_enter Tryz.func71, Tryz.ntmps71
 go_wp2
 go_ret
 exact ⟨_, rfl, (Kept.refl w).alloc _, HB.out⟩
theorem info_disk : (Tryz.prog.info? 223).map (fun i => (i.zero, i.size, i.bytes)) = some (some (.pointer none), 1, 8) := by kernel_rfl
def AddPost (l : List Say) (N b n : Nat) (X : List Dsk) (w : World) (r : Ending) (w' : World) : Prop :=
 r = .returned (.tuple #[.int .i64 (X.length : Nat), .nilIface]) /\ Kept w w' /\ Has w' (bankS N b (X ++ [List.replicate n zeros]) :: l)
set_option maxRecDepth 100000 in
theorem bank_Add {w : World} {l : List Say} {N b : Nat} {X : List Dsk} (h : Has w (bankS N b X :: l)) (n : Nat) (h1 : 1 <= n) (h2 : n <= 4096) (hX : X.length < 8) :
  Calls Tryz.prog 72 #[.pointer (some ⟨b, 0, none⟩), .int .i64 (n : Int)] w (AddPost l N b n X w) := by
 obtain ⟨⟨v, ds, done⟩, hb, _, hh⟩ := h.bank_open
 obtain ⟨a, c, hv, _⟩ := hh.row_val (e := 223) (size := 1) (v := v) (n := ds.length) (xs := ds.map ptrOf) (by simp [bankFlat, bankHead])
 subst hv
 simp only [bankFlat, bankHead, List.cons_append, List.nil_append] at hh
 simp only at hb
 have hp := hh.got
 have c0 : w.cell? ⟨b, 0, none⟩ = some (.slice a ds.length c) := cell_of hp 0 rfl
 have c3 : w.cell? ⟨b, 3, none⟩ = some (.bool false) := cell_of hp 3 rfl
 have l0 := World.block_lt_of_cell? _ _ c0
 have d1 : decide ((8 : Int) <= (ds.length : Int)) = false := by simp; omega
 have HN := Lib.hid (disk_New hh N n h1 h2)
 obtain ⟨i0, I1, I2, I3, I4⟩ := info_parts info_disk
 have Hb := Lib.hid hb
 have hds : ds.length < 8 := by omega
 clear h hh hp hb
 go_enter Tryz.func72, Tryz.ntmps72
 go_wp2_with fail
 refine HN.out.mono ?_
 rintro r w1 ⟨d, rfl, hK, h3⟩
 have hp := (h3.pull 1).got
 have c0 : w1.cell? ⟨b, 0, none⟩ = some (.slice a ds.length c) := cell_of hp 0 rfl
 have l0 := World.block_lt_of_cell? _ _ c0
 have H3 : Hid (Has w1 (rowS 223 1 (.slice a ds.length c) ds.length (ds.map ptrOf) :: diskS N d (List.replicate n zeros) :: pts b (.cells #[.slice a ds.length c, .bool false, .int .i64 0, .bool false, .int .i64 done] 219 (0, 0)) :: (zipL (diskS N) ds X ++ l))) := h3.pull 2
 have HK3 := Lib.hid hK
 clear hK h3 hp c3 HN
 go_wp2_with (at_builtin; go_loud (refine wpList_append_row (l := diskS N d (List.replicate n zeros) :: pts b (.cells #[.slice a ds.length c, .bool false, .int .i64 0, .bool false, .int .i64 done] 219 (0, 0)) :: (zipL (diskS N) ds X ++ l)) rfl (.tmp 42) (.tmp 44) 217 rfl 223 i0 (.pointer none) 1 8 Tryz.underlying217 I1 I2 I3 I4 rfl (by decide) _ ds.length (ds.map ptrOf) rfl ?hown ⟨_, 0, none⟩ 1 1 [ptrOf d] rfl rfl ?hnews ?hone ?h63 ?hby ?next))
 case hown => exact H3.out.alloc_off _
 case hnews => exact one_new _ _ _
 case hone => intro u hu; simp at hu; subst hu; rfl
 case h63 => simp [maxLen]; omega
 case hby => omega
 case next =>
  intro v2 w4 hK4 h4
  obtain ⟨a2, c2, rfl, _⟩ := h4.row_val (e := 223) (size := 1) (n := ds.length + 1) (v := v2) (xs := ds.map ptrOf ++ [ptrOf d]) (.head _)
  have hp := (h4.pull 2).got
  have c0 : w4.cell? ⟨b, 0, none⟩ = some (.slice a ds.length c) := cell_of hp 0 rfl
  have f0 := thaw_of hp 0
  have HK4 := Lib.hid hK4
  have H4 := Lib.hid h4
  clear hK4 h4 hp
  go_wp2
  go_ret2
  refine ⟨by rw [Hb.out]; rfl, ((HK3.out.alloc _).trans HK4.out).setCell _ _, ?_⟩
  refine Has.bank_shut (x := ⟨.slice a2 (ds.length + 1) c2, ds ++ [d], done⟩) (by simp [Hb.out]) (by simp; omega) ?_
  have h5 := ((H4.out.pull 2).setCell 0 (.slice a2 (ds.length + 1) c2))
  simp only [bankFlat, bankHead, List.length_append, List.length_cons, List.length_nil, List.map_append, List.map_cons, List.map_nil]
  rw [zip_snoc _ _ _ _ _ Hb.out]
  refine h5.perm ?_
  refine List.Perm.cons _ (List.Perm.cons _ ?_)
  show List.Perm _ ((zipL (diskS N) ds X ++ [diskS N d (List.replicate n zeros)]) ++ l)
  rw [List.append_assoc]
  exact List.perm_middle.symm
structure BankRead (w : World) (b d i n : Nat) (a : Option Addr) (c : Nat) (done : Int) : Prop where
 c0 : w.cell? ⟨b, 0, none⟩ = some (.slice a n c)
 c1 : w.cell? ⟨b, 1, none⟩ = some (.bool false)
 c3 : w.cell? ⟨b, 3, none⟩ = some (.bool false)
 c4 : w.cell? ⟨b, 4, none⟩ = some (.int .i64 done)
 f4 : w.frozen? ⟨b, 4, none⟩ = false
 p0 : ∃ g, a = some ⟨g, 0, none⟩ /\ w.cell? ⟨g, i, none⟩ = some (.pointer (some ⟨d, 0, none⟩))
theorem Has.bank_read {w : World} {l : List Say} {N b : Nat} {X : List Dsk} {x : BankAt} (h : Has w (bankFlat N b X x ++ l)) (hb : x.ds.length = X.length) (i d : Nat) (hi : x.ds[i]? = some d) : ∃ a c, BankRead w b d i X.length a c x.done := by
 obtain ⟨_, a, c, hv, _, _, hr⟩ := h.row_read (e := 223) (v := x.v) (n := x.ds.length) (xs := x.ds.map ptrOf) (by simp [bankFlat, bankHead])
 obtain ⟨g, hg, hcg, _⟩ := hr i (ptrOf d) (by rw [List.getElem?_map, hi]; rfl)
 simp only [bankFlat, bankHead, List.cons_append] at h
 have hp := h.got
 rw [hv, hb] at hp
 exact ⟨a, c, cell_of hp 0 rfl, cell_of hp 1 rfl, cell_of hp 3 rfl, cell_of hp 4 rfl, thaw_of hp 4, g, hg, hcg⟩
theorem bank_device {w : World} {b d i n c : Nat} {a : Option Addr} {done : Int} (R : BankRead w b d i n a c done) (hi : i < n) (hn : n <= 8) :
  Calls Tryz.prog 219 #[.pointer (some ⟨b, 0, none⟩), .int .i64 (i : Int)] w fun r w' => r = .returned (.tuple #[.pointer (some ⟨d, 0, none⟩), .nilIface]) /\ w = w' := by
 obtain ⟨c0, _, _, _, _, g, rfl, p0⟩ := R
 have l0 := World.block_lt_of_cell? _ _ c0
 have l1 := World.block_lt_of_cell? _ _ p0
 have d1 : decide ((n : Int) <= (i : Int)) = false := by simp; omega
 have hi2 : (i : Int) < (n : Int) := by omega
 go_enter Tryz.func219, Tryz.ntmps219
 go_wp2
 go_ret2
 exact ⟨rfl, rfl⟩
theorem bank_live {w : World} {b d i n c : Nat} {a : Option Addr} {done : Int} (R : BankRead w b d i n a c done) (hi : i < n) (hn : n <= 8) :
  Calls Tryz.prog 196 #[.pointer (some ⟨b, 0, none⟩), .int .i64 (i : Int)] w fun r w' => r = .returned (.tuple #[.pointer (some ⟨d, 0, none⟩), .nilIface]) /\ w = w' := by
 have HD := Lib.hid (bank_device R hi hn)
 have c3 := R.c3
 have l0 := World.block_lt_of_cell? _ _ c3
 clear R
 go_enter Tryz.func196, Tryz.ntmps196
 go_wp2_with fail
 refine HD.out.mono ?_
 rintro r w1 ⟨rfl, rfl⟩
 go_wp2
 go_ret2
 exact ⟨rfl, rfl⟩
theorem bank_count {w : World} {b d i n c : Nat} {a : Option Addr} {done : Int} (R : BankRead w b d i n a c done) :
  Calls Tryz.prog 198 #[.pointer (some ⟨b, 0, none⟩)] w fun r w' => r = .returned .nilIface /\ ∃ d' : Int, w' = w.setCell ⟨b, 4, none⟩ (.int .i64 d') := by
 obtain ⟨_, c1, _, c4, f4, _⟩ := R
 have l0 := World.block_lt_of_cell? _ _ c1
 go_enter Tryz.func198, Tryz.ntmps198
 go_wp2
 go_ret
 exact ⟨rfl, _, rfl⟩
def BWPost (w : World) (N b i k : Nat) (X : List Dsk) (secs : Dsk) (data : List Int) (l : List Say) (r : Ending) (w' : World) : Prop :=
 r = .returned .nilIface /\ Kept w w' /\ Has w' (bankS (N + 1) b (X.set i (secs.set k data)) :: l)
set_option maxRecDepth 100000 in
theorem bank_write {w : World} {l : List Say} {N b : Nat} {X : List Dsk} (h : Has w (bankS N b X :: l)) (i k : Nat) (secs : Dsk) (hi : X[i]? = some secs) (hk : k < secs.length) (v : Value) (data : List Int) (hd : bytesS v data ∈ l) (hdl : data.length = 128) (hN : N <= 1000000) :
  Calls Tryz.prog 143 #[.pointer (some ⟨b, 0, none⟩), .int .i64 (i : Int), .int .i64 (k : Int), v] w (BWPost w N b i k X secs data l) := by
 obtain ⟨x, hb, hX, hh⟩ := h.bank_open
 have hlt := (List.getElem?_eq_some_iff.1 hi).1
 obtain ⟨d, hxd⟩ : ∃ d, x.ds[i]? = some d := ⟨x.ds[i]'(by omega), List.getElem?_eq_getElem (by omega)⟩
 obtain ⟨a, c, R⟩ := hh.bank_read hb i d hxd
 have HL := Lib.hid (bank_live R hlt hX)
 have HCt := Lib.hid (bank_count R)
 obtain ⟨gd, cd, rfl, hcd, _, _⟩ := hh.bytes_read (v := v) (cur := data) (by simp [hd]) (by omega)
 obtain ⟨y, b0, _, a0, c0, _, hn, _, _, RD, _⟩ := Has.disk_sec (N := N) (d := d) (secs := secs) (l := []) (by
  have := hh.zip_behind.zip_take hxd hi
  exact this.only (.head _)) k secs[k] (List.getElem?_eq_getElem hk)
 have HS := Lib.hid (disk_Size RD.c0)
 have hk1 : decide ((secs.length : Int) <= (k : Int)) = false := by simp; omega
 have hd0 : ((data.length : Int) == 128) = true := by rw [hdl]; rfl
 have HW : Hid (∀ d' : Int, Calls Tryz.prog 199 #[.pointer (some ⟨d, 0, none⟩), .int .i64 (k : Int), .slice (some ⟨gd, 0, none⟩) data.length cd] (w.setCell ⟨b, 4, none⟩ (.int .i64 d')) (BWPost w N b i k X secs data l)) := by
  intro d'
  have h1 := hh
  simp only [bankFlat, bankHead, List.cons_append, List.nil_append] at h1
  have h2 := h1.setCell 4 (.int .i64 d')
  have h3 := Has.zip_take (Has.zip_behind (A := pts b (.cells #[x.v, .bool false, .int .i64 0, .bool false, .int .i64 d'] 219 (0, 0))) (B := rowS 223 1 x.v x.ds.length (x.ds.map ptrOf)) (f := diskS N) (bs := x.ds) (xs := X) (l := l) h2) hxd hi
  refine (disk_Write h3 k hk (.slice (some ⟨gd, 0, none⟩) data.length cd) data (by simp [hd]) hdl hN).mono ?_
  rintro r w' ⟨rfl, hK, h4⟩
  refine ⟨rfl, ((Kept.refl w).setCell _ _).trans hK, ?_⟩
  have h5 : Has w' (diskS (N + 1) d (secs.set k data) :: (zipL (diskS (N + 1)) (x.ds.eraseIdx i) (X.eraseIdx i) ++ (pts b (.cells #[x.v, .bool false, .int .i64 0, .bool false, .int .i64 d'] 219 (0, 0)) :: rowS 223 1 x.v x.ds.length (x.ds.map ptrOf) :: l))) :=
   Sep.cons_mono (fun _ => Sep.zip_mono (fun b x h => disk_mono (Nat.le_succ N) b x h) _ _) h4
  exact Has.bank_shut (x := ⟨x.v, x.ds, d'⟩) (by simp [hb]) (by simpa using hX) (h5.zip_give hxd hlt).zip_ahead
 clear R RD hh h hd hi hxd hb
 have Hdl := Lib.hid hdl
 clear hdl
 go_enter Tryz.func143, Tryz.ntmps143
 go_wp2_with fail
 refine HL.out.mono ?_
 rintro r w1 ⟨rfl, rfl⟩
 go_wp2_with fail
 refine HS.out.mono ?_
 rintro r w1 ⟨rfl, rfl⟩
 go_wp2_with fail
 refine HCt.out.mono ?_
 rintro r w1 ⟨rfl, d', rfl⟩
 have HW2 := Lib.hid (HW.out d')
 generalize w.setCell ⟨b, 4, none⟩ (.int .i64 d') = W at *
 go_wp2_with fail
 refine HW2.out.mono ?_
 rintro r w1 ⟨rfl, hK, h4⟩
 have HP : Hid (Kept w w1 /\ Has w1 (bankS (N + 1) b (X.set i (secs.set k data)) :: l)) := ⟨hK, h4⟩
 clear hK h4 HW HW2
 go_wp2
 go_ret
 exact ⟨rfl, HP.out⟩
theorem bank_Write {w : World} {l : List Say} {N b : Nat} {X : List Dsk} (h : Has w (bankS N b X :: l)) (i k : Nat) (secs : Dsk) (hi : X[i]? = some secs) (hk : k < secs.length) (v : Value) (data : List Int) (hd : bytesS v data ∈ l) (hdl : data.length = 128) (hN : N <= 1000000) :
  Calls Tryz.prog 78 #[.pointer (some ⟨b, 0, none⟩), .int .i64 (i : Int), .int .i64 (k : Int), v] w (BWPost w N b i k X secs data l) := by
 have HW := Lib.hid (bank_write h i k secs hi hk v data hd hdl hN)
 clear h hd
 go_enter Tryz.func78, Tryz.ntmps78
 go_wp2_with fail
 refine HW.out.mono ?_
 rintro r w1 ⟨rfl, hK, h4⟩
 have HP : Hid (Kept w w1 /\ Has w1 (bankS (N + 1) b (X.set i (secs.set k data)) :: l)) := ⟨hK, h4⟩
 clear hK h4 HW
 go_wp2_with fail
 refine (wrap_nil _ _ _).mono ?_
 rintro r w2 ⟨rfl, rfl⟩
 go_wp2
 go_ret
 exact ⟨rfl, HP.out⟩
end Go.Proofs.YtgbgneiciabidaaGreatDoor
