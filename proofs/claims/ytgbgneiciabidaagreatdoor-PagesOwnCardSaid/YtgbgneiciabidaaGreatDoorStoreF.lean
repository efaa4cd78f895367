/-
  Pages (layer 11), the sixth part: Get.
-/
import Derived.Test.YtgbgneiciabidaaGreatDoorStoreE
namespace Go.Proofs.YtgbgneiciabidaaGreatDoor
open Go Go.RowKit
set_option linter.all false

def nodeZero : Value := .agg #[.int .i64 0, .slice none 0 0, .slice none 0 0]
def GetPost (a : Int) (p bank sp n : Nat) (Q : Pgs) (l : List Say) (w : World) (r : Ending) (w' : World) : Prop :=
  (VMap.get a Q = none ∧ r = .returned (.tuple #[nodeZero, errV 81]) ∧ Kept w w' ∧ Has w' (storeS p bank sp n Q :: l)) ∨
  ∃ g kv vv, VMap.get a Q = some g ∧ r = .returned (.tuple #[g.n.val kv vv, .nilIface]) ∧ Kept w w' ∧ Has w' (intsS kv g.n.keys :: intsS vv g.n.vals :: storeS p bank sp n Q :: l)

/-- The rows of one page, taken out. -/
theorem Has.st_page {w : World} {l : List Say} {p bank sp n : Nat} {x : StAt} {a : Int} {t : Sl} (hu : VMap.Up x.T) (ht : VMap.get a x.T = some t) (h : Has w (storeFlat p bank sp n x ++ l)) :
    Has w (intsS t.kv t.pg.n.keys :: intsS t.vv t.pg.n.vals :: (storeCell p bank sp x.mb :: mapS x.mb n (VMap.over Sl.val x.T) :: (pool (VMap.del a x.T) ++ l))) := by
  have hp : (storeFlat p bank sp n x ++ l).Perm (all t.rows :: (storeCell p bank sp x.mb :: mapS x.mb n (VMap.over Sl.val x.T) :: (pool (VMap.del a x.T) ++ l))) := by
    unfold storeFlat
    refine List.Perm.trans (List.Perm.cons _ (List.Perm.cons _ (List.Perm.append_right l (pool_split hu ht)))) ?_
    exact (List.Perm.cons _ (List.Perm.swap _ _ _)).trans (List.Perm.swap _ _ _)
  exact (h.perm hp).split
theorem Has.st_page_back {w : World} {l : List Say} {p bank sp n : Nat} {x : StAt} {a : Int} {t : Sl} (hu : VMap.Up x.T) (ht : VMap.get a x.T = some t)
    (h : Has w (intsS t.kv t.pg.n.keys :: intsS t.vv t.pg.n.vals :: (storeCell p bank sp x.mb :: mapS x.mb n (VMap.over Sl.val x.T) :: (pool (VMap.del a x.T) ++ l)))) : Has w (storeFlat p bank sp n x ++ l) := by
  have hp : (storeFlat p bank sp n x ++ l).Perm (all t.rows :: (storeCell p bank sp x.mb :: mapS x.mb n (VMap.over Sl.val x.T) :: (pool (VMap.del a x.T) ++ l))) := by
    unfold storeFlat
    refine List.Perm.trans (List.Perm.cons _ (List.Perm.cons _ (List.Perm.append_right l (pool_split hu ht)))) ?_
    exact (List.Perm.cons _ (List.Perm.swap _ _ _)).trans (List.Perm.swap _ _ _)
  have h1 : Has w (t.rows ++ (storeCell p bank sp x.mb :: mapS x.mb n (VMap.over Sl.val x.T) :: (pool (VMap.del a x.T) ++ l))) := h
  exact h1.unite.perm hp.symm
theorem ok_lens {n : Nd} (h : n.ok = true) : 0 ≤ n.level ∧ n.level ≤ 20 ∧ n.keys.length = n.vals.length ∧ 1 ≤ n.keys.length ∧ n.keys.length ≤ 7 := by
  simp only [Nd.ok, Bool.and_eq_true, decide_eq_true_eq, beq_iff_eq] at h
  obtain ⟨⟨⟨⟨⟨o1, o2⟩, o3⟩, o4⟩, o5⟩, _⟩ := h
  exact ⟨o1, o2, o3, o4, o5⟩

set_option maxHeartbeats 1000000 in
set_option maxRecDepth 100000 in
theorem st_Get {w : World} {l : List Say} {p bank sp n : Nat} {Q : Pgs} (h : Has w (storeS p bank sp n Q :: l)) (a : Int) (b0 : -9223372036854775808 ≤ a) (b1 : a ≤ 9223372036854775807) :
    Calls Tryz.prog 20 #[.pointer (some ⟨p, 0, none⟩), .int .i64 a] w (GetPost a p bank sp n Q l w) := by
  obtain ⟨x, ok, hh⟩ := h.st_open
  have hr := hh.alloc (.cells #[.int .i64 0, .slice none 0 0, .slice none 0 0] 35)
  have hK : Kept w (w.alloc (.cells #[.int .i64 0, .slice none 0 0, .slice none 0 0] 35)) := (Kept.refl w).alloc _
  have hlk := map_look_ok hr (b := x.mb) (n := n) (M := VMap.over Sl.val x.T) (by simp [storeFlat]) a b0 b1
  have c2 : (w.alloc (.cells #[.int .i64 0, .slice none 0 0, .slice none 0 0] 35)).cell? ⟨p, 2, none⟩ = some (.map (some x.mb)) := cell_of (hr.at (b := p) (o := .cells #[.pointer (some ⟨bank, 0, none⟩), .pointer (some ⟨sp, 0, none⟩), .map (some x.mb), .map none] 147 (0, 0)) (by simp [storeFlat, storeCell])) 2 rfl
  have d0 : (w.alloc (.cells #[.int .i64 0, .slice none 0 0, .slice none 0 0] 35)).cell? ⟨w.heap.size, 0, none⟩ = some (.int .i64 0) := cell_of hr.got 0 rfl
  have d1 : (w.alloc (.cells #[.int .i64 0, .slice none 0 0, .slice none 0 0] 35)).cell? ⟨w.heap.size, 1, none⟩ = some (.slice none 0 0) := cell_of hr.got 1 rfl
  have d2 : (w.alloc (.cells #[.int .i64 0, .slice none 0 0, .slice none 0 0] 35)).cell? ⟨w.heap.size, 2, none⟩ = some (.slice none 0 0) := cell_of hr.got 2 rfl
  have f0 := thaw_of hr.got 0
  have f1 := thaw_of hr.got 1
  have f2 := thaw_of hr.got 2
  have hsl := hh.pool_sl (T := x.T) (fun A hA => by simp [storeFlat, hA])
  have HR := Lib.hid hr
  have HK := Lib.hid hK
  have Hok := Lib.hid ok
  have hrw : Hid (∀ w', Kept (w.alloc (.cells #[.int .i64 0, .slice none 0 0, .slice none 0 0] 35)) w' → Kept w w') := fun w' hk => hK.trans hk
  clear h hh hr hK
  go_enter Tryz.func20, Tryz.ntmps20
  go_upto_region 1 with fail
  generalize w.alloc (.cells #[.int .i64 0, .slice none 0 0, .slice none 0 0] 35) = W at *
  generalize w.heap.size = rb at *
  have lp := World.block_lt_of_cell? _ _ c2
  have lr := World.block_lt_of_cell? _ _ d0
  rw [VMap.get_over] at hlk
  have hgQ : VMap.get a Q = (VMap.get a x.T).map Sl.pg := by rw [← ok.eq, VMap.get_over]
  clear ok
  cases hg : VMap.get a x.T with
  | none =>
    rw [hg] at hlk hgQ
    simp only [Option.map_none, Option.getD_none, Option.isSome_none, pageZero] at hlk hgQ
    have HQ := Lib.hid hgQ
    have HG := Lib.hid hg
    clear hgQ hg hsl
    go_wp2
    have h5 := ((((HR.out.setCell 0 (.int .i64 0)).setCell 1 (.slice none 0 0)).setCell 2 (.slice none 0 0))).alloc_off (.cells #[.int .i64 0, .slice none 0 0, .slice none 0 0, .int .i64 0, .int .i64 0] 153)
    have hkf := (((HK.out.setCell ⟨rb, 0, none⟩ (.int .i64 0)).setCell ⟨rb, 1, none⟩ (.slice none 0 0)).setCell ⟨rb, 2, none⟩ (.slice none 0 0)).alloc (.cells #[.int .i64 0, .slice none 0 0, .slice none 0 0, .int .i64 0, .int .i64 0] 153)
    generalize (((W.setCell ⟨rb, 0, none⟩ (.int .i64 0)).setCell ⟨rb, 1, none⟩ (.slice none 0 0)).setCell ⟨rb, 2, none⟩ (.slice none 0 0)).alloc (.cells #[.int .i64 0, .slice none 0 0, .slice none 0 0, .int .i64 0, .int .i64 0] 153) = W3 at *
    have z0 : W3.cell? ⟨rb, 0, none⟩ = some (.int .i64 0) := cell_of h5.got 0 rfl
    have z1 : W3.cell? ⟨rb, 1, none⟩ = some (.slice none 0 0) := cell_of h5.got 1 rfl
    have z2 : W3.cell? ⟨rb, 2, none⟩ = some (.slice none 0 0) := cell_of h5.got 2 rfl
    refine bodyPost_ret (v := .tuple #[.agg #[.int .i64 0, .slice none 0 0, .slice none 0 0], .iface 157 (.int .i64 81)]) (by simp [results, Tryz.results20, go_sem, z0, z1, z2]) rfl (.inl ⟨HQ.out, rfl, hkf, ?_⟩)
    exact Has.st_shut Hok.out h5.tail
  | some t =>
    have hokp : t.pg.n.ok = true := Hok.out.ok (a, t.pg) (by rw [← Hok.out.eq]; exact List.mem_map.2 ⟨_, get_mem hg, rfl⟩)
    obtain ⟨q0, q1, q2, q3, q4⟩ := ok_lens hokp
    obtain ⟨⟨ak, nk, ck, ek⟩, av, nv, cv, ev⟩ := hsl _ (get_mem hg)
    have h1 := Has.st_page Hok.out.up hg (HR.out.perm List.perm_middle.symm)
    rw [hg] at hlk hgQ
    obtain ⟨⟨nd, H, E⟩, kv, vv⟩ := t
    simp only at ek ev q0 q1 q2 q3 q4 h1
    subst ek ev
    simp only [Option.map_some, Option.getD_some, Option.isSome_some, Sl.val] at hlk hgQ
    have hnc := node_copied nd (h1.alloc_off (.cells #[.int .i64 nd.level, .slice ak nk ck, .slice av nv cv, .int .i64 H, .int .i64 E] 153)) (.head _) (.tail _ (.head _)) (by omega) (by omega) (by omega) (by omega)
    have HNC := Lib.hid hnc
    have HQ := Lib.hid hgQ
    have HG := Lib.hid hg
    have HKa : Hid (Kept w (W.alloc (.cells #[.int .i64 nd.level, .slice ak nk ck, .slice av nv cv, .int .i64 H, .int .i64 E] 153))) := HK.out.alloc _
    simp only [Nd.val] at HNC
    clear hgQ hg hsl h1 hnc hokp q2
    go_wp2_with fail
    refine HNC.out.mono ?_
    rintro r w2 ⟨k2, v2, rfl, hK2, hh2⟩
    have h3 : Has w2 ((intsS k2 nd.keys :: intsS v2 nd.vals :: intsS (.slice ak nk ck) nd.keys :: intsS (.slice av nv cv) nd.vals :: storeCell p bank sp x.mb :: mapS x.mb n (VMap.over Sl.val x.T) :: pool (VMap.del a x.T)) ++ (pts rb (.cells #[.int .i64 0, .slice none 0 0, .slice none 0 0] 35 (0, 0)) :: l)) := hh2
    have h4 := h3.perm List.perm_middle
    obtain ⟨a5, c5, e5, _, _⟩ := h4.ints_read (v := k2) (xs := nd.keys) (by simp)
    obtain ⟨a6, c6, e6, _, _⟩ := h4.ints_read (v := v2) (xs := nd.vals) (by simp)
    subst e5 e6
    have e0 := cell_of h4.got 0 rfl
    have e1 := cell_of h4.got 1 rfl
    have e2 := cell_of h4.got 2 rfl
    have g0 := thaw_of h4.got 0
    have g1 := thaw_of h4.got 1
    have g2 := thaw_of h4.got 2
    have lw := World.block_lt_of_cell? _ _ e0
    have H4 := Lib.hid h4
    have HK2 := Lib.hid (HKa.out.trans hK2)
    simp only [Nd.val]
    clear hh2 h3 h4 hK2 HNC HKa d0 d1 d2 f0 f1 f2 c2 hlk
    go_wp2
    have h5 := ((H4.out.setCell 0 (.int .i64 nd.level)).setCell 1 (.slice a5 nd.keys.length c5)).setCell 2 (.slice a6 nd.vals.length c6)
    have hkf := ((HK2.out.setCell ⟨rb, 0, none⟩ (.int .i64 nd.level)).setCell ⟨rb, 1, none⟩ (.slice a5 nd.keys.length c5)).setCell ⟨rb, 2, none⟩ (.slice a6 nd.vals.length c6)
    generalize ((w2.setCell ⟨rb, 0, none⟩ (.int .i64 nd.level)).setCell ⟨rb, 1, none⟩ (.slice a5 nd.keys.length c5)).setCell ⟨rb, 2, none⟩ (.slice a6 nd.vals.length c6) = W3 at *
    have z0 : W3.cell? ⟨rb, 0, none⟩ = some (.int .i64 nd.level) := cell_of h5.got 0 rfl
    have z1 : W3.cell? ⟨rb, 1, none⟩ = some (.slice a5 nd.keys.length c5) := cell_of h5.got 1 rfl
    have z2 : W3.cell? ⟨rb, 2, none⟩ = some (.slice a6 nd.vals.length c6) := cell_of h5.got 2 rfl
    refine bodyPost_ret (v := .tuple #[.agg #[.int .i64 nd.level, .slice a5 nd.keys.length c5, .slice a6 nd.vals.length c6], .nilIface]) (by simp [results, Tryz.results20, go_sem, z0, z1, z2]) rfl (.inr ⟨⟨nd, H, E⟩, _, _, HQ.out, rfl, hkf, ?_⟩)
    have h6 : Has W3 ([intsS (.slice a5 nd.keys.length c5) nd.keys, intsS (.slice a6 nd.vals.length c6) nd.vals] ++ (([intsS (.slice ak nk ck) nd.keys, intsS (.slice av nv cv) nd.vals, storeCell p bank sp x.mb, mapS x.mb n (VMap.over Sl.val x.T)] ++ pool (VMap.del a x.T)) ++ l)) := h5.tail
    have h7 := h6.perm (List.perm_append_comm_assoc _ _ _)
    have h8 := Has.st_shut Hok.out (Has.st_page_back (t := ⟨⟨nd, H, E⟩, .slice ak nk ck, .slice av nv cv⟩) Hok.out.up HG.out h7)
    exact h8.push 2
end Go.Proofs.YtgbgneiciabidaaGreatDoor
