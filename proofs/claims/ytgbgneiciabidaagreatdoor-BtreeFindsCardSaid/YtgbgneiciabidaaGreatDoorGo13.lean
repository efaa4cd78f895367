/-
  Pages (layer 11), the sixth part: Get.
-/
import Derived.Test.YtgbgneiciabidaaGreatDoorGo12
import Derived.Test.YtgbgneiciabidaaGreatDoorGo11
namespace Go.Proofs.YtgbgneiciabidaaGreatDoor
open Go Go.RowKit
set_option linter.all false

def nodeZero : Value := .agg #[.int .i64 0, .slice none 0 0, .slice none 0 0]
def GetPost (a : Int) (p bank sp n : Nat) (Q : Pgs) (l : List Say) (w : World) (r : Ending) (w' : World) : Prop :=
  (VMap.get a Q = none ∧ r = .returned (.tuple #[nodeZero, errV 81]) ∧ Kept w w' ∧ Has w' (storeS p bank sp n Q :: l)) ∨
  ∃ g kv vv, VMap.get a Q = some g ∧ r = .returned (.tuple #[g.n.val kv vv, .nilIface]) ∧ Kept w w' ∧ Has w' (intsS kv g.n.keys :: intsS vv g.n.vals :: storeS p bank sp n Q :: l)

/-- The rows of one page, taken out. -/
theorem Has.st_page {w : World} {l : List Say} {p bank sp n : Nat} {x : StAt} {a : Int} {t : Sl} (hu : VMap.Up x.T) (ht : VMap.get a x.T = some t) (h : Has w (storeFlat p bank sp n x ++ l)) :
    Has w (intsS t.kv t.pg.n.keys :: intsS t.vv t.pg.n.vals :: (storeCell p bank sp x.mb :: mapS x.mb n (VMap.over Sl.val x.T) :: (pool (VMap.del a x.T) ++ l))) := by
  have hp : (storeFlat p bank sp n x ++ l).Perm (all t.rows :: (storeCell p bank sp x.mb :: mapS x.mb n (VMap.over Sl.val x.T) :: (pool (VMap.del a x.T) ++ l))) := by
    unfold storeFlat
    refine List.Perm.trans (List.Perm.cons _ (List.Perm.cons _ (List.Perm.append_right l (pool_split hu ht)))) ?_
    exact (List.Perm.cons _ (List.Perm.swap _ _ _)).trans (List.Perm.swap _ _ _)
  exact (h.perm hp).split
theorem Has.st_page_back {w : World} {l : List Say} {p bank sp n : Nat} {x : StAt} {a : Int} {t : Sl} (hu : VMap.Up x.T) (ht : VMap.get a x.T = some t)
    (h : Has w (intsS t.kv t.pg.n.keys :: intsS t.vv t.pg.n.vals :: (storeCell p bank sp x.mb :: mapS x.mb n (VMap.over Sl.val x.T) :: (pool (VMap.del a x.T) ++ l)))) : Has w (storeFlat p bank sp n x ++ l) := by
  have hp : (storeFlat p bank sp n x ++ l).Perm (all t.rows :: (storeCell p bank sp x.mb :: mapS x.mb n (VMap.over Sl.val x.T) :: (pool (VMap.del a x.T) ++ l))) := by
    unfold storeFlat
    refine List.Perm.trans (List.Perm.cons _ (List.Perm.cons _ (List.Perm.append_right l (pool_split hu ht)))) ?_
    exact (List.Perm.cons _ (List.Perm.swap _ _ _)).trans (List.Perm.swap _ _ _)
  have h1 : Has w (t.rows ++ (storeCell p bank sp x.mb :: mapS x.mb n (VMap.over Sl.val x.T) :: (pool (VMap.del a x.T) ++ l))) := h
  exact h1.unite.perm hp.symm
theorem ok_lens {n : Nd} (h : n.ok = true) : 0 ≤ n.level ∧ n.level ≤ 20 ∧ n.keys.length = n.vals.length ∧ 1 ≤ n.keys.length ∧ n.keys.length ≤ 7 := by
  simp only [Nd.ok, Bool.and_eq_true, decide_eq_true_eq, beq_iff_eq] at h
  obtain ⟨⟨⟨⟨⟨o1, o2⟩, o3⟩, o4⟩, o5⟩, _⟩ := h
  exact ⟨o1, o2, o3, o4, o5⟩

set_option maxHeartbeats 1000000 in
set_option maxRecDepth 100000 in
theorem st_Get {w : World} {l : List Say} {p bank sp n : Nat} {Q : Pgs} (h : Has w (storeS p bank sp n Q :: l)) (a : Int) (b0 : -9223372036854775808 ≤ a) (b1 : a ≤ 9223372036854775807) :
    Calls Tryz.prog 20 #[.pointer (some ⟨p, 0, none⟩), .int .i64 a] w (GetPost a p bank sp n Q l w) := by
  obtain ⟨x, ok, hh⟩ := h.st_open
  have hr := hh.alloc (.cells #[.int .i64 0, .slice none 0 0, .slice none 0 0] 35)
  have hK : Kept w (w.alloc (.cells #[.int .i64 0, .slice none 0 0, .slice none 0 0] 35)) := (Kept.refl w).alloc _
  have hlk := map_look_ok hr (b := x.mb) (n := n) (M := VMap.over Sl.val x.T) (by simp [storeFlat]) a b0 b1
  have c2 : (w.alloc (.cells #[.int .i64 0, .slice none 0 0, .slice none 0 0] 35)).cell? ⟨p, 2, none⟩ = some (.map (some x.mb)) := cell_of (hr.at (b := p) (o := .cells #[.pointer (some ⟨bank, 0, none⟩), .pointer (some ⟨sp, 0, none⟩), .map (some x.mb), .map none] 147 (0, 0)) (by simp [storeFlat, storeCell])) 2 rfl
  have d0 : (w.alloc (.cells #[.int .i64 0, .slice none 0 0, .slice none 0 0] 35)).cell? ⟨w.heap.size, 0, none⟩ = some (.int .i64 0) := cell_of hr.got 0 rfl
  have d1 : (w.alloc (.cells #[.int .i64 0, .slice none 0 0, .slice none 0 0] 35)).cell? ⟨w.heap.size, 1, none⟩ = some (.slice none 0 0) := cell_of hr.got 1 rfl
  have d2 : (w.alloc (.cells #[.int .i64 0, .slice none 0 0, .slice none 0 0] 35)).cell? ⟨w.heap.size, 2, none⟩ = some (.slice none 0 0) := cell_of hr.got 2 rfl
  have f0 := thaw_of hr.got 0
  have f1 := thaw_of hr.got 1
  have f2 := thaw_of hr.got 2
  have hsl := hh.pool_sl (T := x.T) (fun A hA => by simp [storeFlat, hA])
  have HR := Lib.hid hr
  have HK := Lib.hid hK
  have Hok := Lib.hid ok
  have hrw : Hid (∀ w', Kept (w.alloc (.cells #[.int .i64 0, .slice none 0 0, .slice none 0 0] 35)) w' → Kept w w') := fun w' hk => hK.trans hk
  clear h hh hr hK
  go_enter Tryz.func20, Tryz.ntmps20
  go_upto_region 1 with fail
  generalize w.alloc (.cells #[.int .i64 0, .slice none 0 0, .slice none 0 0] 35) = W at *
  generalize w.heap.size = rb at *
  have lp := World.block_lt_of_cell? _ _ c2
  have lr := World.block_lt_of_cell? _ _ d0
  rw [VMap.get_over] at hlk
  have hgQ : VMap.get a Q = (VMap.get a x.T).map Sl.pg := by rw [← ok.eq, VMap.get_over]
  clear ok
  cases hg : VMap.get a x.T with
  | none =>
    rw [hg] at hlk hgQ
    simp only [Option.map_none, Option.getD_none, Option.isSome_none, pageZero] at hlk hgQ
    have HQ := Lib.hid hgQ
    have HG := Lib.hid hg
    clear hgQ hg hsl
    go_wp2
    have h5 := ((((HR.out.setCell 0 (.int .i64 0)).setCell 1 (.slice none 0 0)).setCell 2 (.slice none 0 0))).alloc_off (.cells #[.int .i64 0, .slice none 0 0, .slice none 0 0, .int .i64 0, .int .i64 0] 153)
    have hkf := (((HK.out.setCell ⟨rb, 0, none⟩ (.int .i64 0)).setCell ⟨rb, 1, none⟩ (.slice none 0 0)).setCell ⟨rb, 2, none⟩ (.slice none 0 0)).alloc (.cells #[.int .i64 0, .slice none 0 0, .slice none 0 0, .int .i64 0, .int .i64 0] 153)
    generalize (((W.setCell ⟨rb, 0, none⟩ (.int .i64 0)).setCell ⟨rb, 1, none⟩ (.slice none 0 0)).setCell ⟨rb, 2, none⟩ (.slice none 0 0)).alloc (.cells #[.int .i64 0, .slice none 0 0, .slice none 0 0, .int .i64 0, .int .i64 0] 153) = W3 at *
    have z0 : W3.cell? ⟨rb, 0, none⟩ = some (.int .i64 0) := cell_of h5.got 0 rfl
    have z1 : W3.cell? ⟨rb, 1, none⟩ = some (.slice none 0 0) := cell_of h5.got 1 rfl
    have z2 : W3.cell? ⟨rb, 2, none⟩ = some (.slice none 0 0) := cell_of h5.got 2 rfl
    refine bodyPost_ret (v := .tuple #[.agg #[.int .i64 0, .slice none 0 0, .slice none 0 0], .iface 157 (.int .i64 81)]) (by simp [results, Tryz.results20, go_sem, z0, z1, z2]) rfl (.inl ⟨HQ.out, rfl, hkf, ?_⟩)
    exact Has.st_shut Hok.out h5.tail
  | some t =>
    have hokp : t.pg.n.ok = true := Hok.out.ok (a, t.pg) (by rw [← Hok.out.eq]; exact List.mem_map.2 ⟨_, get_mem hg, rfl⟩)
    obtain ⟨q0, q1, q2, q3, q4⟩ := ok_lens hokp
    obtain ⟨⟨ak, nk, ck, ek⟩, av, nv, cv, ev⟩ := hsl _ (get_mem hg)
    have h1 := Has.st_page Hok.out.up hg (HR.out.perm List.perm_middle.symm)
    rw [hg] at hlk hgQ
    obtain ⟨⟨nd, H, E⟩, kv, vv⟩ := t
    simp only at ek ev q0 q1 q2 q3 q4 h1
    subst ek ev
    simp only [Option.map_some, Option.getD_some, Option.isSome_some, Sl.val] at hlk hgQ
    have hnc := node_copied nd (h1.alloc_off (.cells #[.int .i64 nd.level, .slice ak nk ck, .slice av nv cv, .int .i64 H, .int .i64 E] 153)) (.head _) (.tail _ (.head _)) (by omega) (by omega) (by omega) (by omega)
    have HNC := Lib.hid hnc
    have HQ := Lib.hid hgQ
    have HG := Lib.hid hg
    have HKa : Hid (Kept w (W.alloc (.cells #[.int .i64 nd.level, .slice ak nk ck, .slice av nv cv, .int .i64 H, .int .i64 E] 153))) := HK.out.alloc _
    simp only [Nd.val] at HNC
    clear hgQ hg hsl h1 hnc hokp q2
    go_wp2_with fail
    refine HNC.out.mono ?_
    rintro r w2 ⟨k2, v2, rfl, hK2, hh2⟩
    have h3 : Has w2 ((intsS k2 nd.keys :: intsS v2 nd.vals :: intsS (.slice ak nk ck) nd.keys :: intsS (.slice av nv cv) nd.vals :: storeCell p bank sp x.mb :: mapS x.mb n (VMap.over Sl.val x.T) :: pool (VMap.del a x.T)) ++ (pts rb (.cells #[.int .i64 0, .slice none 0 0, .slice none 0 0] 35 (0, 0)) :: l)) := hh2
    have h4 := h3.perm List.perm_middle
    obtain ⟨a5, c5, e5, _, _⟩ := h4.ints_read (v := k2) (xs := nd.keys) (by simp)
    obtain ⟨a6, c6, e6, _, _⟩ := h4.ints_read (v := v2) (xs := nd.vals) (by simp)
    subst e5 e6
    have e0 := cell_of h4.got 0 rfl
    have e1 := cell_of h4.got 1 rfl
    have e2 := cell_of h4.got 2 rfl
    have g0 := thaw_of h4.got 0
    have g1 := thaw_of h4.got 1
    have g2 := thaw_of h4.got 2
    have lw := World.block_lt_of_cell? _ _ e0
    have H4 := Lib.hid h4
    have HK2 := Lib.hid (HKa.out.trans hK2)
    simp only [Nd.val]
    clear hh2 h3 h4 hK2 HNC HKa d0 d1 d2 f0 f1 f2 c2 hlk
    go_wp2
    have h5 := ((H4.out.setCell 0 (.int .i64 nd.level)).setCell 1 (.slice a5 nd.keys.length c5)).setCell 2 (.slice a6 nd.vals.length c6)
    have hkf := ((HK2.out.setCell ⟨rb, 0, none⟩ (.int .i64 nd.level)).setCell ⟨rb, 1, none⟩ (.slice a5 nd.keys.length c5)).setCell ⟨rb, 2, none⟩ (.slice a6 nd.vals.length c6)
    generalize ((w2.setCell ⟨rb, 0, none⟩ (.int .i64 nd.level)).setCell ⟨rb, 1, none⟩ (.slice a5 nd.keys.length c5)).setCell ⟨rb, 2, none⟩ (.slice a6 nd.vals.length c6) = W3 at *
    have z0 : W3.cell? ⟨rb, 0, none⟩ = some (.int .i64 nd.level) := cell_of h5.got 0 rfl
    have z1 : W3.cell? ⟨rb, 1, none⟩ = some (.slice a5 nd.keys.length c5) := cell_of h5.got 1 rfl
    have z2 : W3.cell? ⟨rb, 2, none⟩ = some (.slice a6 nd.vals.length c6) := cell_of h5.got 2 rfl
    refine bodyPost_ret (v := .tuple #[.agg #[.int .i64 nd.level, .slice a5 nd.keys.length c5, .slice a6 nd.vals.length c6], .nilIface]) (by simp [results, Tryz.results20, go_sem, z0, z1, z2]) rfl (.inr ⟨⟨nd, H, E⟩, _, _, HQ.out, rfl, hkf, ?_⟩)
    have h6 : Has W3 ([intsS (.slice a5 nd.keys.length c5) nd.keys, intsS (.slice a6 nd.vals.length c6) nd.vals] ++ (([intsS (.slice ak nk ck) nd.keys, intsS (.slice av nv cv) nd.vals, storeCell p bank sp x.mb, mapS x.mb n (VMap.over Sl.val x.T)] ++ pool (VMap.del a x.T)) ++ l)) := h5.tail
    have h7 := h6.perm (List.perm_append_comm_assoc _ _ _)
    have h8 := Has.st_shut Hok.out (Has.st_page_back (t := ⟨⟨nd, H, E⟩, .slice ak nk ck, .slice av nv cv⟩) Hok.out.up HG.out h7)
    exact h8.push 2
end Go.Proofs.YtgbgneiciabidaaGreatDoor
/-
  Nodes (layer 10), the fourth part: Bytes.
-/
namespace Go.Proofs.YtgbgneiciabidaaGreatDoor
open Go Go.RowKit
set_option linter.unusedVariables false
set_option linter.unusedSimpArgs false

def pairBytes (p : Int × Int) : List Int := bytes8 p.1 ++ bytes8 p.2
def nodeBytes (n : Nd) : List Int := [n.level, (n.keys.length : Int)] ++ n.pairs.flatMap pairBytes
def NBPost (n : Nd) (l : List Say) (w : World) (r : Ending) (w' : World) : Prop :=
  (n.ok = false ∧ r = .returned (.tuple #[.slice none 0 0, errV 70]) ∧ Kept w w' ∧ Has w' l) ∨ (n.ok = true ∧ BytesPost (frameOf 2 (nodeBytes n)) l w r w')

theorem byte_new {w : World} {L : List Say} {p : Nat} {lv : Int} {n : Nat} (h : Has w (packS p [] :: L)) (o1 : 0 ≤ lv) (o2 : lv ≤ 20) (o4 : 1 ≤ n) (o5 : n ≤ 7) :
    Calls Tryz.prog 134 #[.pointer (some ⟨p, 0, none⟩), .slice (some ⟨w.heap.size, 0, none⟩) 2 2] (w.alloc (.cells #[.int .i64 lv, .int .i64 (n : Int)] 3))
      (PutPost (w.alloc (.cells #[.int .i64 lv, .int .i64 (n : Int)] 3)) p [lv, (n : Int)] (rowS 3 1 (.slice (some ⟨w.heap.size, 0, none⟩) 2 2) 2 [.int .i64 lv, .int .i64 (n : Int)] :: L)) := by
  have h1 := ((h.alloc (.cells #[.int .i64 lv, .int .i64 (n : Int)] 3)).row_of_pts (size := 1) (n := 2) (cap := 2) (xs := [.int .i64 lv, .int .i64 (n : Int)]) rfl (Nat.le_refl _) (by simp [maxLen]) rfl rfl).swap
  exact pack_Byte h1 w.heap.size 2 [lv, (n : Int)] (.head _) (by intro x hx; simp at hx; rcases hx with rfl | rfl <;> omega) (by simp)
theorem byte_old {w : World} {L : List Say} {p b : Nat} {lv : Int} {n : Nat} (h : Has w (packS p [] :: pts b (.cells #[.int .i64 lv, .int .i64 (n : Int)] 3 (0, 0)) :: L)) (o1 : 0 ≤ lv) (o2 : lv ≤ 20) (o4 : 1 ≤ n) (o5 : n ≤ 7) :
    Calls Tryz.prog 134 #[.pointer (some ⟨p, 0, none⟩), .slice (some ⟨b, 0, none⟩) 2 2] w
      (PutPost w p [lv, (n : Int)] (rowS 3 1 (.slice (some ⟨b, 0, none⟩) 2 2) 2 [.int .i64 lv, .int .i64 (n : Int)] :: L)) := by
  have h1 := (h.swap.row_of_pts (size := 1) (n := 2) (cap := 2) (xs := [.int .i64 lv, .int .i64 (n : Int)]) rfl (Nat.le_refl _) (by simp [maxLen]) rfl rfl).swap
  exact pack_Byte h1 b 2 [lv, (n : Int)] (.head _) (by intro x hx; simp at hx; rcases hx with rfl | rfl <;> omega) (by simp)

theorem ordTo_all (ps : List (Int × Int)) : ∀ n, ordTo ps n = true → ∀ k q, k < n → ps[k]? = some q → pairOk q.1 q.2 = true
  | 0, _, _, _, h, _ => by omega
  | n + 1, ho, k, q, hk, hq => by
    simp only [ordTo, Bool.and_eq_true] at ho
    by_cases e : k = n
    · subst e
      have := ho.2
      rw [ordAt, hq] at this
      simp only [Bool.and_eq_true] at this
      exact this.1
    · exact ordTo_all ps n ho.1 k q (by omega) hq
theorem flatP_len (ps : List (Int × Int)) : (ps.flatMap pairBytes).length = 16 * ps.length := by
  induction ps with
  | nil => rfl
  | cons x ns ih => rw [List.flatMap_cons, List.length_append, ih, List.length_cons]; simp [pairBytes, bytes8]; omega
theorem flat_next (ps : List (Int × Int)) (k : Nat) (h : k < ps.length) : (ps.take (k + 1)).flatMap pairBytes = (ps.take k).flatMap pairBytes ++ pairBytes ps[k] := by
  rw [List.take_succ_eq_append_getElem h, List.flatMap_append]; simp
/-- k of the pairs are packed. -/
def NBMid (w : World) (p : Nat) (lv : Int) (n : Nat) (v : Value) (ps : List (Int × Int)) (L : List Say) (k : Nat) (wx : World) : Prop :=
  Kept w wx ∧ Has wx (packS p ([lv, (n : Int)] ++ (ps.take k).flatMap pairBytes) :: pairsS v ps :: L)
theorem long_new {w : World} {L : List Say} {p : Nat} {cur : List Int} {qa qb : Int} (h : Has w (packS p cur :: L)) (hb : 0 ≤ qa ∧ qa ≤ 1099511627776 ∧ 1 ≤ qb ∧ qb ≤ 2305843009213693952) (hl : cur.length + 16 ≤ 1000) :
    Calls Tryz.prog 136 #[.pointer (some ⟨p, 0, none⟩), .slice (some ⟨w.heap.size, 0, none⟩) 2 2] (w.alloc (.cells #[.int .i64 qa, .int .i64 qb] 3))
      (PutPost (w.alloc (.cells #[.int .i64 qa, .int .i64 qb] 3)) p (cur ++ pairBytes (qa, qb)) (rowS 3 1 (.slice (some ⟨w.heap.size, 0, none⟩) 2 2) 2 [.int .i64 qa, .int .i64 qb] :: L)) := by
  have h1 := ((h.alloc (.cells #[.int .i64 qa, .int .i64 qb] 3)).row_of_pts (size := 1) (n := 2) (cap := 2) (xs := [.int .i64 qa, .int .i64 qb]) rfl (Nat.le_refl _) (by simp [maxLen]) rfl rfl).swap
  have h2 := pack_Long h1 w.heap.size 2 [qa, qb] (.head _) (by intro x hx; simp at hx; rcases hx with rfl | rfl <;> omega) (by simp; omega)
  have e : [qa, qb].flatMap bytes8 = pairBytes (qa, qb) := by simp [pairBytes]
  rw [e] at h2
  exact h2

set_option maxHeartbeats 1000000 in
set_option maxRecDepth 100000 in
theorem node_Bytes {w : World} {l : List Say} (n : Nd) {kv vv : Value} (h : Has w l) (hk : intsS kv n.keys ∈ l) (hv : intsS vv n.vals ∈ l) :
    Calls Tryz.prog 75 #[n.val kv vv] w (NBPost n l w) := by
  obtain ⟨ak, ck, rfl, _, _⟩ := h.ints_read hk
  obtain ⟨av, cv, rfl, _, _⟩ := h.ints_read hv
  have hbox := h.alloc (.cells #[.int .i64 n.level, .slice ak n.keys.length ck, .slice av n.vals.length cv] 35)
  have HCk := Lib.hid (node_Check n hbox (.tail _ hk) (.tail _ hv))
  have HK0 : Hid (Kept w (w.alloc (.cells #[.int .i64 n.level, .slice ak n.keys.length ck, .slice av n.vals.length cv] 35))) := (Kept.refl w).alloc _
  have c0 := cell_of hbox.got 0 rfl
  have c1 := cell_of hbox.got 1 rfl
  have c2 := cell_of hbox.got 2 rfl
  have lb := World.block_lt_of_cell? _ _ c0
  have Hk := Lib.hid hk
  have Hv := Lib.hid hv
  obtain ⟨lv, ks, vs⟩ := n
  simp only [Nd.val] at *
  clear h hk hv hbox
  go_enter Tryz.func75, Tryz.ntmps75
  go_upto_region 1 with fail
  generalize w.alloc (.cells #[.int .i64 lv, .slice ak ks.length ck, .slice av vs.length cv] 35) = W at *
  generalize w.heap.size = bx at *
  go_wp2_with fail
  refine HCk.out.mono ?_
  rintro r w1 ⟨rfl, hK1, hh1⟩
  have HK1 := Lib.hid (HK0.out.trans hK1)
  have H1 := Lib.hid hh1
  clear HCk HK0 c0 c1 c2 lb
  cases hok : Nd.ok ⟨lv, ks, vs⟩ with
  | false =>
    have Hok := Lib.hid hok
    clear hok hK1 hh1
    simp only [Bool.false_eq_true, if_false, errV]
    go_wp2
    go_ret2
    exact .inl ⟨Hok.out, rfl, HK1.out, H1.out.tail⟩
  | true =>
    have c0 := cell_of hh1.got 0 rfl
    have c1 := cell_of hh1.got 1 rfl
    have c2 := cell_of hh1.got 2 rfl
    have lb := World.block_lt_of_cell? _ _ c0
    have Hok := Lib.hid hok
    simp only [Nd.ok, Bool.and_eq_true, decide_eq_true_eq, beq_iff_eq] at hok
    obtain ⟨⟨⟨⟨⟨o1, o2⟩, o3⟩, o4⟩, o5⟩, o6⟩ := hok
    have O3 := Lib.hid o3
    have O6 := Lib.hid o6
    have HN1 := Lib.hid (pack_New (hh1.drew))
    have HN2 := Lib.hid (pack_New (hh1.drew.alloc (.cells #[.int .i64 lv, .int .i64 (ks.length : Int)] 3)))
    clear o3 o6 hK1 hh1
    go_upto_region 3 with fail
    go_cut [4] (fun pv wx => ∃ p, pv = .pointer (some ⟨p, 0, none⟩) ∧ Hid (PackMid w p [lv, (ks.length : Int)] (pts bx (.cells #[.int .i64 lv, .slice ak ks.length ck, .slice av vs.length cv] 35 (0, 0)) :: l) wx))
    case first =>
      go_region_law (first
        | (go_simp; go_at_call 133; first
            | (refine HN1.out.mono ?_; rintro r V ⟨p, rfl, hK, hh⟩; have hpb := (hh.pull 1).got; have d0 := cell_of hpb 0 rfl; have d1 := cell_of hpb 1 rfl; have ld := World.block_lt_of_cell? _ _ d0; have HBy := Lib.hid (byte_new hh o1 o2 o4 o5); have HKP := Lib.hid hK; clear hK hh hpb)
            | (refine HN2.out.mono ?_; rintro r V ⟨p, rfl, hK, hh⟩; have hpb := (hh.pull 2).got; have d0 := cell_of hpb 0 rfl; have d1 := cell_of hpb 1 rfl; have ld := World.block_lt_of_cell? _ _ d0; have HBy := Lib.hid (byte_old hh o1 o2 o4 o5); have HKP := Lib.hid hK; clear hK hh hpb))
        | (go_simp; go_at_call 134; refine HBy.out.mono ?_; rintro r V2 ⟨rfl, hK2, hh2⟩; have HK2 := Lib.hid hK2; have HH2 := Lib.hid ((hh2.pull 1).tail); clear hK2 hh2))
      all_goals
        go_wp2_with fail
        go_meet
        case rel =>
          exact ⟨p, rfl, by
            first
              | exact ((HK1.out.drew.trans HKP.out).alloc _).trans HK2.out
              | exact (((HK1.out.drew).alloc _).trans HKP.out).trans HK2.out, HH2.out⟩
    case rest =>
      clear HN1 HN2 c0 c1 c2 lb H1 HK1
      obtain ⟨p, rfl, HM⟩ := hcut
      obtain ⟨hK2, hh2⟩ := HM.out
      have hp2 := hh2.tail.got
      have c0 := cell_of hp2 0 rfl
      have c1 := cell_of hp2 1 rfl
      have c2 := cell_of hp2 2 rfl
      have lb := World.block_lt_of_cell? _ _ c0
      have HPr := Lib.hid (node_pairs ⟨lv, ks, vs⟩ hh2 (.tail _ (.tail _ Hk.out)) (.tail _ (.tail _ Hv.out)) O3.out (by show ks.length ≤ 100; omega))
      have HK2 := Lib.hid hK2
      simp only [Nd.val] at HPr
      clear hK2 hh2 hp2 HM
      go_wp2_with fail
      refine HPr.out.mono ?_
      rintro r w3 ⟨v, rfl, hK3, hh3⟩
      have hpl : (Nd.pairs ⟨lv, ks, vs⟩).length = ks.length := by simp [Nd.pairs, O3.out]
      have hbd : ∀ (k : Nat) (q : Int × Int), (Nd.pairs ⟨lv, ks, vs⟩)[k]? = some q → 0 ≤ q.1 ∧ q.1 ≤ 1099511627776 ∧ 1 ≤ q.2 ∧ q.2 ≤ 2305843009213693952 := by
        intro k q hq
        have := ordTo_all _ _ O6.out k q (List.getElem?_eq_some_iff.1 hq).1 hq
        simpa [pairOk, and_assoc] using this
      have hEnd : Hid (nodeBytes ⟨lv, ks, vs⟩ = [lv, (ks.length : Int)] ++ (Nd.pairs ⟨lv, ks, vs⟩).flatMap pairBytes) := rfl
      have hh3' : Has w3 (pairsS v (Nd.pairs ⟨lv, ks, vs⟩) :: packS p [lv, (ks.length : Int)] :: pts bx (.cells #[.int .i64 lv, .slice ak ks.length ck, .slice av vs.length cv] 35 (0, 0)) :: l) := hh3
      generalize Nd.pairs ⟨lv, ks, vs⟩ = ps at *
      obtain ⟨a3, c3, rfl, _, _⟩ := hh3'.pairs_read (.head _)
      have H3 : Hid (NBMid w p lv ks.length (.slice a3 ps.length c3) ps (pts bx (.cells #[.int .i64 lv, .slice ak ks.length ck, .slice av vs.length cv] 35 (0, 0)) :: l) 0 w3) := ⟨HK2.out.trans hK3, by simpa using hh3'.swap⟩
      have HBd := Lib.hid hbd
      have hps : ps.length ≤ 7 := by omega
      have HPL := Lib.hid hpl
      clear hK3 hh3 hh3' HPr HK2 hbd hpl c0 c1 c2 lb
      go_wp2
      go_loopg [24] ps.length (fun gk i wr => ∃ k : Nat, k ≤ ps.length ∧ gk = ps.length - k ∧ i = .int .i64 k ∧ Hid (NBMid w p lv ks.length (.slice a3 ps.length c3) ps (pts bx (.cells #[.int .i64 lv, .slice ak ks.length ck, .slice av vs.length cv] 35 (0, 0)) :: l) k wr))
      case atStart => exact ⟨0, Nat.zero_le _, rfl, rfl, H3⟩
      case round =>
        clear H3
        obtain ⟨k, hkk, rfl, rfl, HM⟩ := hrel
        by_cases hlt : k < ps.length
        · obtain ⟨hK4, hh4⟩ := HM.out
          obtain ⟨a5, c5, e5, _, hr5⟩ := hh4.pairs_read (.tail _ (.head _))
          cases e5
          obtain ⟨g, rfl, x1, x2⟩ := hr5 k ps[k] (List.getElem?_eq_getElem hlt)
          have hbq := HBd.out k ps[k] (List.getElem?_eq_getElem hlt)
          have hk1 : (k : Int) < (ps.length : Int) := by omega
          have hk0 : (0 : Int) ≤ k := by omega
          have HNx := Lib.hid (flat_next ps k hlt)
          generalize ps[k] = q at *
          obtain ⟨qa, qb⟩ := q
          simp only at x1 x2 hbq
          have l1 := World.block_lt_of_cell? _ _ x1
          have HLg := Lib.hid (long_new (hh4.alloc_off (.cells #[.int .i64 qa, .int .i64 qb] 87)) (qa := qa) (qb := qb) hbq (by rw [List.length_append, flatP_len, List.length_take, Nat.min_eq_left hkk]; simp; omega))
          simp only [World.size_alloc] at HLg
          have HK4 : Hid (Kept w ((wr.alloc (.cells #[.int .i64 qa, .int .i64 qb] 87)).alloc (.cells #[.int .i64 qa, .int .i64 qb] 3))) := (hK4.alloc _).alloc _
          clear hK4 hh4 hr5 hbq HM
          go_wp2_with fail
          refine HLg.out.mono ?_
          rintro r w5 ⟨rfl, hK5, hh5⟩
          have HK5 := Lib.hid (HK4.out.trans hK5)
          have HH5 := Lib.hid ((hh5.pull 1).tail)
          clear hK5 hh5 HLg HK4
          go_wp2
          go_roundg (ps.length - (k + 1))
          case measure => omega
          case rel =>
            refine ⟨k + 1, by omega, rfl, by simp, HK5.out, ?_⟩
            rw [HNx.out, ← List.append_assoc]
            exact HH5.out
        · obtain rfl : k = ps.length := by omega
          obtain ⟨hK4, hh4⟩ := HM.out
          rw [List.take_length, ← hEnd.out] at hh4
          have hnl : (nodeBytes ⟨lv, ks, vs⟩).length = 2 + 16 * ps.length := by rw [hEnd.out, List.length_append, flatP_len]; simp
          have HPB := Lib.hid (pack_Bytes hh4 (by omega) (by omega))
          have HK4 := Lib.hid hK4
          have HNL := Lib.hid hnl
          clear hK4 hh4 hnl HM
          go_wp2_with fail
          refine HPB.out.mono ?_
          rintro r w5 ⟨v5, rfl, hK5, hh5⟩
          have HPt := Lib.hid (frame_Put hh5 (v := v5) (.head _) (by rw [HNL.out]; omega) (by rw [HNL.out]; omega) 2)
          have HK5 := Lib.hid (HK4.out.trans hK5)
          clear hK5 hh5 HPB HK4
          go_wp2_with fail
          refine HPt.out.mono ?_
          rintro r w6 ⟨v6, rfl, hK6, hh6⟩
          have HF : Hid (Kept w w6 ∧ Has w6 (bytesS v6 (frameOf 2 (nodeBytes ⟨lv, ks, vs⟩)) :: l)) := ⟨HK5.out.trans hK6, ((((hh6.pull 1).tail.pull 1).tail.pull 1).tail.pull 1).tail⟩
          clear hK6 hh6 HPt HK5
          go_wp2
          go_ret2
          exact .inr ⟨Hok.out, v6, rfl, HF.out.1, HF.out.2⟩
end Go.Proofs.YtgbgneiciabidaaGreatDoor
