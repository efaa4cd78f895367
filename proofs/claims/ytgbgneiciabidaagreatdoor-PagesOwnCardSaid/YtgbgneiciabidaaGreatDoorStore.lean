/-
  Pages (layer 11): what a store holds; copies of nodes.
-/
import Derived.Test.YtgbgneiciabidaaGreatDoorMap
import Derived.Test.YtgbgneiciabidaaGreatDoorNodeC
import Derived.Deep.RegionHeld3
namespace Go.Proofs.YtgbgneiciabidaaGreatDoor
open Go Go.RowKit
set_option linter.all false

theorem ints_one (xs : List Int) : ∀ u ∈ xs.map intVal, u.oneCell' = true := by
  intro u hu
  obtain ⟨n, _, rfl⟩ := List.mem_map.1 hu
  rfl
/-- A copy of a row of numbers that is not empty. -/
theorem Has.ints_clone {w : World} {l : List Say} {v : Value} {xs : List Int} (h : Has w l) (hm : intsS v xs ∈ l) (h0 : 0 < xs.length) (h1 : xs.length ≤ 1000) :
    ∃ g c, v = .slice (some ⟨g, 0, none⟩) xs.length c ∧ Calls Tryz.prog 146 #[v] w (ClonePost w 3 1 xs.length (xs.map intVal) l) := by
  obtain ⟨a, c, hv, hc, hr⟩ := h.ints_read hm
  obtain ⟨g, rfl, _, _⟩ := hr 0 h0
  refine ⟨g, c, hv, ?_⟩
  rw [hv]
  refine clone_int h g 0 xs.length c (xs.map intVal) (by simp) (fun j u hu => ?_) (ints_one xs) (by simp [maxLen]; omega) (by omega)
  have hj : j < xs.length := by have := (List.getElem?_eq_some_iff.1 hu).1; simpa using this
  obtain ⟨g', hg', hc', _⟩ := hr j hj
  cases hg'
  rw [Nat.zero_add, hc']
  rw [List.getElem?_map, List.getElem?_eq_getElem hj] at hu
  exact hu

theorem far3 {w : World} {p a : Nat} (h : p ≠ a) (x y z : Value) (o : Nat) {v : Option Value} (hw : w.cell? ⟨a, o, none⟩ = v) :
    (((w.setCell ⟨p, 0, none⟩ x).setCell ⟨p, 1, none⟩ y).setCell ⟨p, 2, none⟩ z).cell? ⟨a, o, none⟩ = v := by
  rw [World.cell?_setCell_far _ _ _ _ h, World.cell?_setCell_far _ _ _ _ h, World.cell?_setCell_far _ _ _ _ h]; exact hw
def NodePost (n : Nd) (l : List Say) (w : World) (r : Ending) (w' : World) : Prop :=
  ∃ kv vv, r = .returned (n.val kv vv) ∧ Kept w w' ∧ Has w' (intsS kv n.keys :: intsS vv n.vals :: l)

set_option maxHeartbeats 1000000 in
set_option maxRecDepth 100000 in
theorem node_copied {w : World} {l : List Say} (n : Nd) {kv vv : Value} (h : Has w l) (hk : intsS kv n.keys ∈ l) (hv : intsS vv n.vals ∈ l) (k0 : 0 < n.keys.length) (k1 : n.keys.length ≤ 100) (v0 : 0 < n.vals.length) (v1 : n.vals.length ≤ 100) :
    Calls Tryz.prog 81 #[n.val kv vv] w (NodePost n l w) := by
  have hW := (h.alloc (.cells #[.int .i64 n.level, kv, vv] 35)).alloc (.cells #[.int .i64 0, .slice none 0 0, .slice none 0 0] 35)
  have HK0 : Hid (Kept w ((w.alloc (.cells #[.int .i64 n.level, kv, vv] 35)).alloc (.cells #[.int .i64 0, .slice none 0 0, .slice none 0 0] 35))) := ((Kept.refl w).alloc _).alloc _
  simp only [World.size_alloc] at hW
  obtain ⟨gk, ck, ek, HKk⟩ := hW.drew.ints_clone (.tail _ (.tail _ hk)) k0 (by omega)
  obtain ⟨gv, cv, ev, HVv⟩ := hW.drew.ints_clone (.tail _ (.tail _ hv)) v0 (by omega)
  subst ek ev
  have HCK := Lib.hid HKk
  have HCV := Lib.hid HVv
  have hb1 := hW.tail.got
  have d0 := cell_of hb1 0 rfl
  have d1 := cell_of hb1 1 rfl
  have d2 := cell_of hb1 2 rfl
  have ld := World.block_lt_of_cell? _ _ d0
  have Hk := Lib.hid hk
  have Hv := Lib.hid hv
  clear h hk hv hW HKk HVv hb1
  obtain ⟨lv, ks, vs⟩ := n
  simp only [Nd.val] at *
  go_enter Tryz.func81, Tryz.ntmps81
  go_upto_region 1 with fail
  generalize hWW : (w.alloc (.cells #[.int .i64 lv, .slice (some ⟨gk, 0, none⟩) ks.length ck, .slice (some ⟨gv, 0, none⟩) vs.length cv] 35)).alloc (.cells #[.int .i64 0, .slice none 0 0, .slice none 0 0] 35) = W at *
  clear hWW
  have hne : w.heap.size + 1 ≠ w.heap.size := by omega
  generalize hbx1 : w.heap.size + 1 = bz at *
  generalize w.heap.size = bx at *
  go_region_held3 (fun w' => w'.cell? ⟨bx, 0, none⟩ = some (.int .i64 lv) ∧ w'.cell? ⟨bx, 1, none⟩ = some (.slice (some ⟨gk, 0, none⟩) ks.length ck) ∧ w'.cell? ⟨bx, 2, none⟩ = some (.slice (some ⟨gv, 0, none⟩) vs.length cv)) (first | exact ⟨m0, m1, m2⟩ | exact ⟨d0', d1', d2'⟩ | exact ⟨d0, d1, d2⟩ | exact ⟨far3 hne _ _ _ _ m0, far3 hne _ _ _ _ m1, far3 hne _ _ _ _ m2⟩)
    (first | (go_at_call 146; first
        | (refine HCK.out.mono ?_; rintro r V ⟨k1', rfl, hk1, hv1⟩; obtain ⟨ak, kk, rfl, _⟩ := hv1.row_val (e := 3) (size := 1) (v := k1') (n := ks.length) (xs := ks.map intVal) (.head _); have hq1 := (hv1.pull 2).got; have d0' := cell_of hq1 0 rfl; have d1' := cell_of hq1 1 rfl; have d2' := cell_of hq1 2 rfl; obtain ⟨gv2, cv2, ev2, HN0⟩ := hv1.ints_clone (xs := vs) (.tail _ (.tail _ (.tail _ Hv.out))) v0 (by omega); cases ev2; have HN := Lib.hid HN0; have HK1 := Lib.hid hk1; clear hk1 hv1 hq1 HN0)
        | (refine HCV.out.mono ?_; rintro r V ⟨k1', rfl, hk1, hv1⟩; obtain ⟨av, kv, rfl, _⟩ := hv1.row_val (e := 3) (size := 1) (v := k1') (n := vs.length) (xs := vs.map intVal) (.head _); have hq1 := (hv1.pull 2).got; have d0' := cell_of hq1 0 rfl; have d1' := cell_of hq1 1 rfl; have d2' := cell_of hq1 2 rfl; obtain ⟨gv2, cv2, ev2, HN0⟩ := hv1.ints_clone (xs := ks) (.tail _ (.tail _ (.tail _ Hk.out))) k0 (by omega); cases ev2; have HN' := Lib.hid HN0; have HK1 := Lib.hid hk1; clear hk1 hv1 hq1 HN0)
        | (refine HN.out.mono ?_; rintro r V2 ⟨k2', rfl, hk2, hv2⟩; obtain ⟨av, kv, rfl, _⟩ := hv2.row_val (e := 3) (size := 1) (v := k2') (n := vs.length) (xs := vs.map intVal) (.head _); have hq2 := (hv2.pull 2).got; have e0 := cell_of hq2 0 rfl; have e1 := cell_of hq2 1 rfl; have e2 := cell_of hq2 2 rfl; have f0 := thaw_of hq2 0; have f1 := thaw_of hq2 1; have f2 := thaw_of hq2 2; have le := World.block_lt_of_cell? _ _ e0; have hq3 := (hv2.pull 3).got; have m0 := cell_of hq3 0 rfl; have m1 := cell_of hq3 1 rfl; have m2 := cell_of hq3 2 rfl; have HK2 := Lib.hid hk2; have HR := Lib.hid (hv2.pull 1); clear hk2 hv2 hq2 hq3)
        | (refine HN'.out.mono ?_; rintro r V2 ⟨k2', rfl, hk2, hv2⟩; obtain ⟨ak, kk, rfl, _⟩ := hv2.row_val (e := 3) (size := 1) (v := k2') (n := ks.length) (xs := ks.map intVal) (.head _); have hq2 := (hv2.pull 2).got; have e0 := cell_of hq2 0 rfl; have e1 := cell_of hq2 1 rfl; have e2 := cell_of hq2 2 rfl; have f0 := thaw_of hq2 0; have f1 := thaw_of hq2 1; have f2 := thaw_of hq2 2; have le := World.block_lt_of_cell? _ _ e0; have hq3 := (hv2.pull 3).got; have m0 := cell_of hq3 0 rfl; have m1 := cell_of hq3 1 rfl; have m2 := cell_of hq3 2 rfl; have HK2 := Lib.hid hk2; have HR := Lib.hid hv2; clear hk2 hv2 hq2 hq3)))
  all_goals
    go_wp2
    have h5 := ((((HR.out.pull 2).setCell 0 (.int .i64 lv)).setCell 1 (.slice ak ks.length kk)).setCell 2 (.slice av vs.length kv))
    have hkf := (((HK0.out.drew.trans (HK1.out.trans HK2.out)).setCell ⟨bz, 0, none⟩ (.int .i64 lv)).setCell ⟨bz, 1, none⟩ (.slice ak ks.length kk)).setCell ⟨bz, 2, none⟩ (.slice av vs.length kv)
    generalize ((V2.setCell ⟨bz, 0, none⟩ (.int .i64 lv)).setCell ⟨bz, 1, none⟩ (.slice ak ks.length kk)).setCell ⟨bz, 2, none⟩ (.slice av vs.length kv) = W3 at *
    have z0 : W3.cell? ⟨bz, 0, none⟩ = some (.int .i64 lv) := cell_of h5.got 0 rfl
    have z1 : W3.cell? ⟨bz, 1, none⟩ = some (.slice ak ks.length kk) := cell_of h5.got 1 rfl
    have z2 : W3.cell? ⟨bz, 2, none⟩ = some (.slice av vs.length kv) := cell_of h5.got 2 rfl
    have h6 := (h5.tail.pull 2).tail
    refine bodyPost_ret (v := .agg #[.int .i64 lv, .slice ak ks.length kk, .slice av vs.length kv]) (by simp [results, Tryz.results81, go_sem, z0, z1, z2]) rfl ⟨_, _, rfl, ?_, h6⟩
    exact hkf
end Go.Proofs.YtgbgneiciabidaaGreatDoor
