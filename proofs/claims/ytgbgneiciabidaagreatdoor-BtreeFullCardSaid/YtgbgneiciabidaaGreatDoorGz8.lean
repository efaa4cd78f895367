/-
  Nodes (layer 10), the third part: Check, Bytes.
-/
import Derived.Test.YtgbgneiciabidaaGreatDoorGz5
import Derived.Test.YtgbgneiciabidaaGreatDoorGz7
import Derived.Test.YtgbgneiciabidaaGreatDoorGz3
import Derived.Deep.RegionHeld3
import Derived.Shelf.SlIterI.Nil
import Derived.Shelf.SortM.Plain
import Derived.Shelf.SortM.SortNone
import Derived.Ground.GgzProg
import Derived.Ground.SlgmProg
import Derived.Test.YtgbgneiciabidaaGreatDoorProg
import Derived.Test.YtgbgneiciabidaaGreatDoorGz1
namespace Go.Proofs.YtgbgneiciabidaaGreatDoor
open Go Go.RowKit
set_option linter.unusedVariables false
set_option linter.unusedSimpArgs false

def Nd.pairs (n : Nd) : List (Int × Int) := n.keys.zip n.vals
def Nd.ok (n : Nd) : Bool := decide (0 ≤ n.level) && decide (n.level ≤ 20) && (n.keys.length == n.vals.length) && decide (1 ≤ n.keys.length) && decide (n.keys.length ≤ 7) && ordTo n.pairs n.pairs.length

def CheckPost (n : Nd) (l : List Say) (w : World) (r : Ending) (w' : World) : Prop := r = .returned (if n.ok = true then .nilIface else errV 70) ∧ Kept w w' ∧ Has w' l

theorem check_bad {n : Nd} {l : List Say} {w w' : World} {r : Ending} (h1 : Hid (n.ok = false)) (h2 : r = .returned (errV 70)) (h3 : Kept w w' ∧ Has w' l) : CheckPost n l w r w' := ⟨by rw [h1.out]; exact h2, h3⟩

set_option maxRecDepth 100000 in
theorem node_Check {w : World} {l : List Say} (n : Nd) {kv vv : Value} (h : Has w l) (hk : intsS kv n.keys ∈ l) (hv : intsS vv n.vals ∈ l) :
    Calls Tryz.prog 98 #[n.val kv vv] w (CheckPost n l w) := by
  have hbox := h.alloc (.cells #[.int .i64 n.level, kv, vv] 35)
  have HW : Hid (Kept w (w.alloc (.cells #[.int .i64 n.level, kv, vv] 35)) ∧ Has (w.alloc (.cells #[.int .i64 n.level, kv, vv] 35)) l) := ⟨(Kept.refl w).alloc _, hbox.tail⟩
  have HP : Hid (n.keys.length = n.vals.length → n.keys.length ≤ 7 → Calls Tryz.prog 135 #[n.val kv vv] (w.alloc (.cells #[.int .i64 n.level, kv, vv] 35)) (PairsPost n.pairs l (w.alloc (.cells #[.int .i64 n.level, kv, vv] 35)))) := fun h1 h2 => node_pairs n hbox.tail hk hv h1 (by omega)
  have c0 := cell_of hbox.got 0 rfl
  have c1 := cell_of hbox.got 1 rfl
  have c2 := cell_of hbox.got 2 rfl
  obtain ⟨ak, ck, rfl, _, _⟩ := h.ints_read hk
  obtain ⟨av, cv, rfl, _, _⟩ := h.ints_read hv
  clear h hk hv hbox
  have lb := World.block_lt_of_cell? _ _ c0
  obtain ⟨lv, ks, vs⟩ := n
  simp only [Nd.val] at *
  go_enter Tryz.func98, Tryz.ntmps98
  go_upto_region 1 with fail
  generalize w.alloc (.cells #[.int .i64 lv, .slice ak ks.length ck, .slice av vs.length cv] 35) = W at *
  generalize w.heap.size = bx at *
  by_cases g1 : lv < 0
  · have hb : Hid (Nd.ok ⟨lv, ks, vs⟩ = false) := by show _ = _; simp [Nd.ok]; omega
    go_wp2
    go_ret
    exact check_bad hb rfl HW.out
  by_cases g2 : 20 < lv
  · have hb : Hid (Nd.ok ⟨lv, ks, vs⟩ = false) := by show _ = _; simp [Nd.ok]; omega
    have g1' : decide (lv < 0) = false := by simp; omega
    go_wp2
    go_ret
    exact check_bad hb rfl HW.out
  have g1' : decide (lv < 0) = false := by simp; omega
  have g2' : decide (20 < lv) = false := by simp; omega
  by_cases g3 : ks.length = vs.length
  · by_cases g4 : ks.length < 1
    · have hb : Hid (Nd.ok ⟨lv, ks, vs⟩ = false) := by show _ = _; simp [Nd.ok]; omega
      have g3' : ((ks.length : Int) == (vs.length : Int)) = true := by simp; omega
      have g4' : decide ((ks.length : Int) < 1) = true := by simp; omega
      clear g3 g4
      go_wp2
      go_ret
      exact check_bad hb rfl HW.out
    have g4' : decide ((ks.length : Int) < 1) = false := by simp; omega
    by_cases g5 : 7 < ks.length
    · have hb : Hid (Nd.ok ⟨lv, ks, vs⟩ = false) := by show _ = _; simp [Nd.ok]; omega
      have g3' : ((ks.length : Int) == (vs.length : Int)) = true := by simp; omega
      have g5' : decide (7 < (ks.length : Int)) = true := by simp; omega
      clear g3 g4 g5
      go_wp2
      go_ret
      exact check_bad hb rfl HW.out
    have g5' : decide (7 < (ks.length : Int)) = false := by simp; omega
    have g3' : ((ks.length : Int) == (vs.length : Int)) = true := by simp; omega
    have HQ := Lib.hid (HP.out g3 (by omega))
    have hok : Hid (Nd.ok ⟨lv, ks, vs⟩ = ordTo (Nd.pairs ⟨lv, ks, vs⟩) (Nd.pairs ⟨lv, ks, vs⟩).length) := by
      show _ = _
      have e1 : decide (0 ≤ lv) = true := by simp; omega
      have e2 : decide (lv ≤ 20) = true := by simp; omega
      have e3 : (ks.length == vs.length) = true := by simp; omega
      have e4 : decide (1 ≤ ks.length) = true := by simp; omega
      have e5 : decide (ks.length ≤ 7) = true := by simp; omega
      simp only [Nd.ok, e1, e2, e3, e4, e5, Bool.true_and]
    have hlp : (Nd.pairs ⟨lv, ks, vs⟩).length ≤ 100 := by simp [Nd.pairs]; omega
    clear g3 g4 g5 HP
    go_wp2_with fail
    refine HQ.out.mono ?_
    rintro r w1 ⟨v1, rfl, hK, h1⟩
    have HO := Lib.hid (node_ordered h1 (.head _) hlp)
    have HK1 : Hid (Kept w w1 ∧ Has w1 l) := ⟨HW.out.1.trans hK, h1.tail⟩
    clear hK h1 HQ HW
    go_wp2_with fail
    refine HO.out.mono ?_
    rintro r w2 ⟨rfl, hb2⟩
    have HK2 : Hid (Kept w w2 ∧ Has w2 l) := ⟨HK1.out.1.trans (Kept.below hb2), HK1.out.2.below hb2⟩
    clear hb2 HO HK1
    cases ho : ordTo (Nd.pairs ⟨lv, ks, vs⟩) (Nd.pairs ⟨lv, ks, vs⟩).length with
    | false =>
      rw [ho] at hok
      have HX := Lib.hid ho
      clear ho
      go_wp2
      go_ret
      exact check_bad hok rfl HK2.out
    | true =>
      rw [ho] at hok
      have HX := Lib.hid ho
      clear ho
      go_wp2
      go_ret
      exact ⟨by rw [hok.out]; rfl, HK2.out⟩
  · have hb : Hid (Nd.ok ⟨lv, ks, vs⟩ = false) := by show _ = _; simp [Nd.ok]; omega
    have g3' : ((ks.length : Int) == (vs.length : Int)) = false := by simp; omega
    clear g3
    go_wp2
    go_ret
    exact check_bad hb rfl HW.out
end Go.Proofs.YtgbgneiciabidaaGreatDoor
/-
  Pages (layer 11): what a store holds; copies of nodes.
-/
namespace Go.Proofs.YtgbgneiciabidaaGreatDoor
open Go Go.RowKit
set_option linter.all false

theorem ints_one (xs : List Int) : ∀ u ∈ xs.map intVal, u.oneCell' = true := by
  intro u hu
  obtain ⟨n, _, rfl⟩ := List.mem_map.1 hu
  rfl
theorem Has.ints_clone {w : World} {l : List Say} {v : Value} {xs : List Int} (h : Has w l) (hm : intsS v xs ∈ l) (h0 : 0 < xs.length) (h1 : xs.length ≤ 1000) :
    ∃ g c, v = .slice (some ⟨g, 0, none⟩) xs.length c ∧ Calls Tryz.prog 146 #[v] w (ClonePost w 3 1 xs.length (xs.map intVal) l) := by
  obtain ⟨a, c, hv, hc, hr⟩ := h.ints_read hm
  obtain ⟨g, rfl, _, _⟩ := hr 0 h0
  refine ⟨g, c, hv, ?_⟩
  rw [hv]
  refine clone_int h g 0 xs.length c (xs.map intVal) (by simp) (fun j u hu => ?_) (ints_one xs) (by simp [maxLen]; omega) (by omega)
  have hj : j < xs.length := by have := (List.getElem?_eq_some_iff.1 hu).1; simpa using this
  obtain ⟨g', hg', hc', _⟩ := hr j hj
  cases hg'
  rw [Nat.zero_add, hc']
  rw [List.getElem?_map, List.getElem?_eq_getElem hj] at hu
  exact hu

theorem far3 {w : World} {p a : Nat} (h : p ≠ a) (x y z : Value) (o : Nat) {v : Option Value} (hw : w.cell? ⟨a, o, none⟩ = v) :
    (((w.setCell ⟨p, 0, none⟩ x).setCell ⟨p, 1, none⟩ y).setCell ⟨p, 2, none⟩ z).cell? ⟨a, o, none⟩ = v := by
  rw [World.cell?_setCell_far _ _ _ _ h, World.cell?_setCell_far _ _ _ _ h, World.cell?_setCell_far _ _ _ _ h]; exact hw
def NodePost (n : Nd) (l : List Say) (w : World) (r : Ending) (w' : World) : Prop :=
  ∃ kv vv, r = .returned (n.val kv vv) ∧ Kept w w' ∧ Has w' (intsS kv n.keys :: intsS vv n.vals :: l)

set_option maxHeartbeats 1000000 in
set_option maxRecDepth 100000 in
theorem node_copied {w : World} {l : List Say} (n : Nd) {kv vv : Value} (h : Has w l) (hk : intsS kv n.keys ∈ l) (hv : intsS vv n.vals ∈ l) (k0 : 0 < n.keys.length) (k1 : n.keys.length ≤ 100) (v0 : 0 < n.vals.length) (v1 : n.vals.length ≤ 100) :
    Calls Tryz.prog 81 #[n.val kv vv] w (NodePost n l w) := by
  have hW := (h.alloc (.cells #[.int .i64 n.level, kv, vv] 35)).alloc (.cells #[.int .i64 0, .slice none 0 0, .slice none 0 0] 35)
  have HK0 : Hid (Kept w ((w.alloc (.cells #[.int .i64 n.level, kv, vv] 35)).alloc (.cells #[.int .i64 0, .slice none 0 0, .slice none 0 0] 35))) := ((Kept.refl w).alloc _).alloc _
  simp only [World.size_alloc] at hW
  obtain ⟨gk, ck, ek, HKk⟩ := hW.drew.ints_clone (.tail _ (.tail _ hk)) k0 (by omega)
  obtain ⟨gv, cv, ev, HVv⟩ := hW.drew.ints_clone (.tail _ (.tail _ hv)) v0 (by omega)
  subst ek ev
  have HCK := Lib.hid HKk
  have HCV := Lib.hid HVv
  have hb1 := hW.tail.got
  have d0 := cell_of hb1 0 rfl
  have d1 := cell_of hb1 1 rfl
  have d2 := cell_of hb1 2 rfl
  have ld := World.block_lt_of_cell? _ _ d0
  have Hk := Lib.hid hk
  have Hv := Lib.hid hv
  clear h hk hv hW HKk HVv hb1
  obtain ⟨lv, ks, vs⟩ := n
  simp only [Nd.val] at *
  go_enter Tryz.func81, Tryz.ntmps81
  go_upto_region 1 with fail
  generalize hWW : (w.alloc (.cells #[.int .i64 lv, .slice (some ⟨gk, 0, none⟩) ks.length ck, .slice (some ⟨gv, 0, none⟩) vs.length cv] 35)).alloc (.cells #[.int .i64 0, .slice none 0 0, .slice none 0 0] 35) = W at *
  clear hWW
  have hne : w.heap.size + 1 ≠ w.heap.size := by omega
  generalize hbx1 : w.heap.size + 1 = bz at *
  generalize w.heap.size = bx at *
  go_region_held3 (fun w' => w'.cell? ⟨bx, 0, none⟩ = some (.int .i64 lv) ∧ w'.cell? ⟨bx, 1, none⟩ = some (.slice (some ⟨gk, 0, none⟩) ks.length ck) ∧ w'.cell? ⟨bx, 2, none⟩ = some (.slice (some ⟨gv, 0, none⟩) vs.length cv)) (first | exact ⟨m0, m1, m2⟩ | exact ⟨d0', d1', d2'⟩ | exact ⟨d0, d1, d2⟩ | exact ⟨far3 hne _ _ _ _ m0, far3 hne _ _ _ _ m1, far3 hne _ _ _ _ m2⟩)
    (first | (go_at_call 146; first
        | (refine HCK.out.mono ?_; rintro r V ⟨k1', rfl, hk1, hv1⟩; obtain ⟨ak, kk, rfl, _⟩ := hv1.row_val (e := 3) (size := 1) (v := k1') (n := ks.length) (xs := ks.map intVal) (.head _); have hq1 := (hv1.pull 2).got; have d0' := cell_of hq1 0 rfl; have d1' := cell_of hq1 1 rfl; have d2' := cell_of hq1 2 rfl; obtain ⟨gv2, cv2, ev2, HN0⟩ := hv1.ints_clone (xs := vs) (.tail _ (.tail _ (.tail _ Hv.out))) v0 (by omega); cases ev2; have HN := Lib.hid HN0; have HK1 := Lib.hid hk1; clear hk1 hv1 hq1 HN0)
        | (refine HCV.out.mono ?_; rintro r V ⟨k1', rfl, hk1, hv1⟩; obtain ⟨av, kv, rfl, _⟩ := hv1.row_val (e := 3) (size := 1) (v := k1') (n := vs.length) (xs := vs.map intVal) (.head _); have hq1 := (hv1.pull 2).got; have d0' := cell_of hq1 0 rfl; have d1' := cell_of hq1 1 rfl; have d2' := cell_of hq1 2 rfl; obtain ⟨gv2, cv2, ev2, HN0⟩ := hv1.ints_clone (xs := ks) (.tail _ (.tail _ (.tail _ Hk.out))) k0 (by omega); cases ev2; have HN' := Lib.hid HN0; have HK1 := Lib.hid hk1; clear hk1 hv1 hq1 HN0)
        | (refine HN.out.mono ?_; rintro r V2 ⟨k2', rfl, hk2, hv2⟩; obtain ⟨av, kv, rfl, _⟩ := hv2.row_val (e := 3) (size := 1) (v := k2') (n := vs.length) (xs := vs.map intVal) (.head _); have hq2 := (hv2.pull 2).got; have e0 := cell_of hq2 0 rfl; have e1 := cell_of hq2 1 rfl; have e2 := cell_of hq2 2 rfl; have f0 := thaw_of hq2 0; have f1 := thaw_of hq2 1; have f2 := thaw_of hq2 2; have le := World.block_lt_of_cell? _ _ e0; have hq3 := (hv2.pull 3).got; have m0 := cell_of hq3 0 rfl; have m1 := cell_of hq3 1 rfl; have m2 := cell_of hq3 2 rfl; have HK2 := Lib.hid hk2; have HR := Lib.hid (hv2.pull 1); clear hk2 hv2 hq2 hq3)
        | (refine HN'.out.mono ?_; rintro r V2 ⟨k2', rfl, hk2, hv2⟩; obtain ⟨ak, kk, rfl, _⟩ := hv2.row_val (e := 3) (size := 1) (v := k2') (n := ks.length) (xs := ks.map intVal) (.head _); have hq2 := (hv2.pull 2).got; have e0 := cell_of hq2 0 rfl; have e1 := cell_of hq2 1 rfl; have e2 := cell_of hq2 2 rfl; have f0 := thaw_of hq2 0; have f1 := thaw_of hq2 1; have f2 := thaw_of hq2 2; have le := World.block_lt_of_cell? _ _ e0; have hq3 := (hv2.pull 3).got; have m0 := cell_of hq3 0 rfl; have m1 := cell_of hq3 1 rfl; have m2 := cell_of hq3 2 rfl; have HK2 := Lib.hid hk2; have HR := Lib.hid hv2; clear hk2 hv2 hq2 hq3)))
  all_goals
    go_wp2
    have h5 := ((((HR.out.pull 2).setCell 0 (.int .i64 lv)).setCell 1 (.slice ak ks.length kk)).setCell 2 (.slice av vs.length kv))
    have hkf := (((HK0.out.drew.trans (HK1.out.trans HK2.out)).setCell ⟨bz, 0, none⟩ (.int .i64 lv)).setCell ⟨bz, 1, none⟩ (.slice ak ks.length kk)).setCell ⟨bz, 2, none⟩ (.slice av vs.length kv)
    generalize ((V2.setCell ⟨bz, 0, none⟩ (.int .i64 lv)).setCell ⟨bz, 1, none⟩ (.slice ak ks.length kk)).setCell ⟨bz, 2, none⟩ (.slice av vs.length kv) = W3 at *
    have z0 : W3.cell? ⟨bz, 0, none⟩ = some (.int .i64 lv) := cell_of h5.got 0 rfl
    have z1 : W3.cell? ⟨bz, 1, none⟩ = some (.slice ak ks.length kk) := cell_of h5.got 1 rfl
    have z2 : W3.cell? ⟨bz, 2, none⟩ = some (.slice av vs.length kv) := cell_of h5.got 2 rfl
    have h6 := (h5.tail.pull 2).tail
    refine bodyPost_ret (v := .agg #[.int .i64 lv, .slice ak ks.length kk, .slice av vs.length kv]) (by simp [results, Tryz.results81, go_sem, z0, z1, z2]) rfl ⟨_, _, rfl, ?_, h6⟩
    exact hkf
end Go.Proofs.YtgbgneiciabidaaGreatDoor
/-
  DERIVED: THE SHELF's CONTRACTS AT THIS DUMP, IN PLAIN WORDS (tools/lay-plain.mjs out of 'YtgbgneiciabidaaGreatDoorKeysL.lean', which tools/lay-shelf.mjs wrote): THE SAME DECLARATIONS UNDER THE SAME NAMES: 'import', 'namespace', 'open', 'def', 'theorem' AND NOTHING ELSE: no command of the shelf's: FOR A HAND-IN. Each laying: the table of numbers ('.._ren') and one theorem, a field a fact of the dump's own or the kernel's comparison; each contract: ONE APPLICATION.
-/
namespace Go.Proofs
open Go.Shelf
def Tryz.keysA_ren : Go.Shelf.Ren := ⟨fun | 7 => 89 | 10 => 154 | n => n, fun | 23 => 145 | 26 => 3 | 3 => 153 | 28 => 168 | 0 => 0 | 27 => 167 | 33 => 63 | 4 => 4 | n => n, fun | n => n⟩
theorem Tryz.keysA : Go.Proofs.SlLaysZI.n7 Tryz.prog Tryz.keysA_ren := {
  mixed := by kernel_rfl
  f7 := ⟨Tryz.f89.name, by decide, Tryz.func89.trans (congrArg some (by kernel_rfl))⟩
  f10 := ⟨Tryz.f154.name, by decide, Tryz.func154.trans (congrArg some (by kernel_rfl))⟩
  t0 := Tryz.underlying0
  a0 := Tryz.isAgg0
  z0 := Tryz.sizeOf0
  v0 := Tryz.zeroValue0
  t4 := Tryz.underlying4
  a4 := Tryz.isAgg4
  z4 := Tryz.sizeOf4
  v4 := Tryz.zeroValue4
  t23 := Tryz.underlying145
  a23 := Tryz.isAgg145
  z23 := Tryz.sizeOf145
  v23 := Tryz.zeroValue145
  t26 := Tryz.underlying3
  a26 := Tryz.isAgg3
  z26 := Tryz.sizeOf3
  v26 := Tryz.zeroValue3
  t27 := Tryz.underlying167
  a27 := Tryz.isAgg167
  z27 := Tryz.sizeOf167
  v27 := Tryz.zeroValue167
  t28 := Tryz.underlying168
  a28 := Tryz.isAgg168
  z28 := Tryz.sizeOf168
  v28 := Tryz.zeroValue168
  t33 := Tryz.underlying63
  a33 := Tryz.isAgg63
  z33 := Tryz.sizeOf63
  v33 := Tryz.zeroValue63 }
def Tryz.sortedA_ren : Go.Shelf.Ren := ⟨fun | 6 => 88 | 8 => 152 | 9 => 153 | 11 => 201 | 13 => 203 | 12 => 202 | 23 => 230 | 24 => 231 | 14 => 222 | 15 => 223 | 16 => 224 | 17 => 225 | 18 => 226 | 19 => 227 | 20 => 211 | 21 => 228 | 22 => 229 | 25 => 241 | 26 => 242 | 27 => 243 | 28 => 244 | 29 => 245 | 30 => 240 | 31 => 252 | n => n, fun | 26 => 3 | 28 => 168 | 24 => 22 | 0 => 0 | 3 => 3 | 37 => 305 | 48 => 287 | 50 => 247 | 4 => 4 | 40 => 324 | 39 => 323 | 45 => 89 | 5 => 5 | 9 => 9 | 51 => 336 | 55 => 340 | 57 => 348 | 58 => 119 | 33 => 63 | n => n, fun | n => n⟩
theorem Tryz.sortedA : Go.Proofs.SlLaysZI.n6 Tryz.prog Tryz.sortedA_ren := {
  mixed := by kernel_rfl
  f6 := ⟨Tryz.f88.name, by decide, Tryz.func88.trans (congrArg some (by kernel_rfl))⟩
  f8 := ⟨Tryz.f152.name, by decide, Tryz.func152.trans (congrArg some (by kernel_rfl))⟩
  f11 := ⟨Tryz.f201.name, by decide, Tryz.func201.trans (congrArg some (by kernel_rfl))⟩
  t0 := Tryz.underlying0
  a0 := Tryz.isAgg0
  z0 := Tryz.sizeOf0
  v0 := Tryz.zeroValue0
  t24 := Tryz.underlying22
  a24 := Tryz.isAgg22
  z24 := Tryz.sizeOf22
  v24 := Tryz.zeroValue22
  t26 := Tryz.underlying3
  a26 := Tryz.isAgg3
  z26 := Tryz.sizeOf3
  v26 := Tryz.zeroValue3
  t28 := Tryz.underlying168
  a28 := Tryz.isAgg168
  z28 := Tryz.sizeOf168
  v28 := Tryz.zeroValue168
  i26 := by kernel_rfl }
def Tryz.sortA_ren : Go.Shelf.Ren := ⟨fun | 5 => 153 | 8 => 203 | 7 => 202 | 19 => 230 | 20 => 231 | 10 => 222 | 11 => 223 | 12 => 224 | 13 => 225 | 14 => 226 | 15 => 227 | 16 => 211 | 17 => 228 | 18 => 229 | 30 => 241 | 31 => 242 | 32 => 243 | 33 => 244 | 34 => 245 | 35 => 240 | 40 => 252 | n => n, fun | 23 => 22 | 25 => 3 | 3 => 3 | 32 => 305 | 22 => 22 | 0 => 0 | 44 => 287 | 46 => 247 | 4 => 4 | 36 => 324 | 35 => 323 | 41 => 89 | 5 => 5 | 9 => 9 | 53 => 336 | 57 => 340 | 63 => 348 | 64 => 119 | n => n, fun | n => n⟩
theorem Tryz.sortA : Go.Proofs.SlLaysM.n5 Tryz.prog Tryz.sortA_ren := {
  mixed := by kernel_rfl
  f5 := ⟨Tryz.f153.name, by decide, Tryz.func153.trans (congrArg some (by kernel_rfl))⟩
  f7 := ⟨Tryz.f202.name, by decide, Tryz.func202.trans (congrArg some (by kernel_rfl))⟩
  f8 := Tryz.func203.trans (congrArg some (by kernel_rfl))
  f10 := ⟨Tryz.f222.name, by decide, Tryz.func222.trans (congrArg some (by kernel_rfl))⟩
  f11 := ⟨Tryz.f223.name, by decide, Tryz.func223.trans (congrArg some (by kernel_rfl))⟩
  f12 := ⟨Tryz.f224.name, by decide, Tryz.func224.trans (congrArg some (by kernel_rfl))⟩
  f13 := ⟨Tryz.f225.name, by decide, Tryz.func225.trans (congrArg some (by kernel_rfl))⟩
  f14 := ⟨Tryz.f226.name, by decide, Tryz.func226.trans (congrArg some (by kernel_rfl))⟩
  f15 := ⟨Tryz.f227.name, by decide, Tryz.func227.trans (congrArg some (by kernel_rfl))⟩
  f16 := ⟨Tryz.f211.name, by decide, Tryz.func211.trans (congrArg some (by kernel_rfl))⟩
  f17 := ⟨Tryz.f228.name, by decide, Tryz.func228.trans (congrArg some (by kernel_rfl))⟩
  f18 := ⟨Tryz.f229.name, by decide, Tryz.func229.trans (congrArg some (by kernel_rfl))⟩
  f19 := Tryz.func230.trans (congrArg some (by kernel_rfl))
  f20 := Tryz.func231.trans (congrArg some (by kernel_rfl))
  f30 := ⟨Tryz.f241.name, by decide, Tryz.func241.trans (congrArg some (by kernel_rfl))⟩
  f31 := Tryz.func242.trans (congrArg some (by kernel_rfl))
  f32 := Tryz.func243.trans (congrArg some (by kernel_rfl))
  f33 := ⟨Tryz.f244.name, by decide, Tryz.func244.trans (congrArg some (by kernel_rfl))⟩
  f34 := ⟨Tryz.f245.name, by decide, Tryz.func245.trans (congrArg some (by kernel_rfl))⟩
  f35 := ⟨Tryz.f240.name, by decide, Tryz.func240.trans (congrArg some (by kernel_rfl))⟩
  f40 := ⟨Tryz.f252.name, by decide, Tryz.func252.trans (congrArg some (by kernel_rfl))⟩
  t0 := Tryz.underlying0
  a0 := Tryz.isAgg0
  z0 := Tryz.sizeOf0
  v0 := Tryz.zeroValue0
  t3 := Tryz.underlying3
  a3 := Tryz.isAgg3
  z3 := Tryz.sizeOf3
  v3 := Tryz.zeroValue3
  t4 := Tryz.underlying4
  a4 := Tryz.isAgg4
  z4 := Tryz.sizeOf4
  v4 := Tryz.zeroValue4
  t5 := Tryz.underlying5
  a5 := Tryz.isAgg5
  z5 := Tryz.sizeOf5
  v5 := Tryz.zeroValue5
  t9 := Tryz.underlying9
  a9 := Tryz.isAgg9
  z9 := Tryz.sizeOf9
  v9 := Tryz.zeroValue9
  t22 := Tryz.underlying22
  a22 := Tryz.isAgg22
  z22 := Tryz.sizeOf22
  v22 := Tryz.zeroValue22
  t23 := Tryz.underlying22
  a23 := Tryz.isAgg22
  z23 := Tryz.sizeOf22
  v23 := Tryz.zeroValue22
  t25 := Tryz.underlying3
  a25 := Tryz.isAgg3
  z25 := Tryz.sizeOf3
  v25 := Tryz.zeroValue3
  t32 := Tryz.underlying305
  a32 := Tryz.isAgg305
  z32 := Tryz.sizeOf305
  v32 := Tryz.zeroValue305
  t35 := Tryz.underlying323
  a35 := Tryz.isAgg323
  z35 := Tryz.sizeOf323
  v35 := Tryz.zeroValue323
  t36 := Tryz.underlying324
  a36 := Tryz.isAgg324
  z36 := Tryz.sizeOf324
  v36 := Tryz.zeroValue324
  t41 := Tryz.underlying89
  a41 := Tryz.isAgg89
  z41 := Tryz.sizeOf89
  v41 := Tryz.zeroValue89
  t44 := Tryz.underlying287
  a44 := Tryz.isAgg287
  z44 := Tryz.sizeOf287
  v44 := Tryz.zeroValue287
  t46 := Tryz.underlying247
  a46 := Tryz.isAgg247
  z46 := Tryz.sizeOf247
  v46 := Tryz.zeroValue247
  t53 := Tryz.underlying336
  a53 := Tryz.isAgg336
  z53 := Tryz.sizeOf336
  v53 := Tryz.zeroValue336
  t57 := Tryz.underlying340
  a57 := Tryz.isAgg340
  z57 := Tryz.sizeOf340
  v57 := Tryz.zeroValue340
  t63 := Tryz.underlying348
  a63 := Tryz.isAgg348
  z63 := Tryz.sizeOf348
  v63 := Tryz.zeroValue348
  t64 := Tryz.underlying119
  a64 := Tryz.isAgg119
  z64 := Tryz.sizeOf119
  v64 := Tryz.zeroValue119 }
end Go.Proofs
/-
  slices.Sorted(maps.Keys(m)) at the map of pages.
-/
namespace Go.Proofs
open Go.RowKit Go.Maps Go.Sort Go.Shelf
set_option linter.all false

theorem Tryz.sortsA (m : Nat) : AnyZI.SortsIn Tryz.prog Tryz.sortedA_ren Fence.wide m :=
  ⟨fun blk off cap ss W hH hblk hsz => callsIn_wide.2 (AnyM.slices_Sort_int Tryz.sortA blk off cap ss W hH hblk hsz),
   fun p cap W => callsIn_wide.2 (AnyM.slices_Sort_int_none Tryz.sortA p cap W)⟩

theorem Tryz.keys_call (mb : Option Nat) (W : World) : Calls Tryz.prog 89 #[.map mb] W fun e w' => e = .returned (.func (.func 154) #[] #[.pointer (some ⟨W.heap.size, 0, none⟩)]) ∧ w' = W.alloc (.cells #[.map mb] 145) :=
  (callsIn_wide (n := 5)).1 (AnyZI.keys_in Tryz.keysA Fence.wide 5 trivial rfl mb W)

def Tryz.SortedPost {H : Type} (D0 : DataW H) (W : World) (e : Ending) (w' : World) : Prop :=
  ∃ (v : Value) (ss : List Int), e = .returned v ∧ ss.Perm (intKeys D0) ∧ w'.ownsRow W.heap.size 3 1 v ss.length ((ss.mergeSort (fun x y => decide (x ≤ y))).map encZ) ∧ Below W.heap.size W w'

set_option maxHeartbeats 1000000 in
theorem Tryz.sorted_call {H : Type} (b nn : Nat) (D0 : DataW H) (R : Value → Option (DataW H × List MemPlace)) (w : World) (hown : w.ownsMap Tryz.prog 3 R b nn D0) (hmax : Maps.size D0 ≤ maxLen) (hbytes : Maps.size D0 * 8 ≤ 140737488355328) :
    Calls Tryz.prog 88 #[.func (.func 154) #[] #[.pointer (some ⟨w.heap.size, 0, none⟩)]] (w.alloc (.cells #[.map (some b)] 145)) (Tryz.SortedPost D0 (w.alloc (.cells #[.map (some b)] 145))) := by
  have hbl := hown.lt
  have hseq : SeqGives Fence.wide 2 Tryz.prog 154 #[.pointer (some ⟨w.heap.size, 0, none⟩)] encZ (fun ss => ss.Perm (intKeys D0)) (Maps.size D0) (w.alloc (.cells #[.map (some b)] 145)) :=
    AnyZI.keys_gives (ρ := Tryz.keysA_ren) { Tryz.keysA with } Fence.wide _ trivial rfl (by omega) w.heap.size b nn D0 _ (by simp) (by simp) (by
      obtain ⟨es, clock, hb, Ft, hs, hD⟩ := hown
      exact ⟨es, clock, (Below.heap_alloc _ _ b hbl).trans hb, Ft, hs, hD⟩)
  refine (callsIn_wide (n := 5)).1 ?_
  have cS := AnyZI.sorted_in Tryz.sortedA Fence.wide 5 trivial trivial trivial trivial rfl (by omega) (Tryz.sortsA _) (enters_of Tryz.func153 (by kernel_rfl) rfl) 154 #[.pointer (some ⟨w.heap.size, 0, none⟩)] trivial (enters_of Tryz.func154 (by kernel_rfl) rfl) _ _ hmax hbytes _ hseq
  refine cS.mono ?_
  rintro e w' ⟨v, ss, rfl, hS, hrow, hnil, hb⟩
  exact ⟨v, ss, rfl, hS, hrow, hb⟩
end Go.Proofs
/-
  Pages (layer 11), the second part: the store; New, kids, Pages.
-/
namespace Go.Proofs.YtgbgneiciabidaaGreatDoor
open Go Go.RowKit
set_option linter.all false

structure Pg where
  n : Nd
  holds : Int
  held : Int
structure Sl where
  pg : Pg
  kv : Value
  vv : Value
def Sl.val (t : Sl) : Value := .agg #[.int .i64 t.pg.n.level, t.kv, t.vv, .int .i64 t.pg.holds, .int .i64 t.pg.held]
def Sl.rows (t : Sl) : List Say := [intsS t.kv t.pg.n.keys, intsS t.vv t.pg.n.vals]
def pool (T : List (Int × Sl)) : List Say := T.map fun p => all p.2.rows
structure StAt where
  mb : Nat
  T : List (Int × Sl)
abbrev Pgs := List (Int × Pg)
structure StOk (Q : Pgs) (x : StAt) : Prop where
  eq : VMap.over Sl.pg x.T = Q
  up : VMap.Up x.T
  bd : ∀ p ∈ Q, 0 ≤ p.1 ∧ p.1 < 32768
  ok : ∀ p ∈ Q, p.2.n.ok = true
def storeCell (p bank sp mb : Nat) : Say := pts p (.cells #[.pointer (some ⟨bank, 0, none⟩), .pointer (some ⟨sp, 0, none⟩), .map (some mb), .map none] 147 (0, 0))
def storeFlat (p bank sp n : Nat) (x : StAt) : List Say := storeCell p bank sp x.mb :: mapS x.mb n (VMap.over Sl.val x.T) :: pool x.T
def storeS (p bank sp n : Nat) (Q : Pgs) : Say := ex fun x : StAt => fact (StOk Q x) (all (storeFlat p bank sp n x))
theorem Has.st_open {w : World} {l : List Say} {p bank sp n : Nat} {Q : Pgs} (h : Has w (storeS p bank sp n Q :: l)) : ∃ x, StOk Q x ∧ Has w (storeFlat p bank sp n x ++ l) := by
  obtain ⟨x, h⟩ := h.opened
  obtain ⟨ok, h⟩ := h.unfact
  exact ⟨x, ok, h.split⟩
theorem Has.st_shut {w : World} {l : List Say} {p bank sp n : Nat} {Q : Pgs} {x : StAt} (ok : StOk Q x) (h : Has w (storeFlat p bank sp n x ++ l)) : Has w (storeS p bank sp n Q :: l) := Has.chosen x (Has.tofact ok h.unite)

def StNew (bank sp : Nat) (l : List Say) (w : World) (r : Ending) (w' : World) : Prop := ∃ p, r = .returned (.pointer (some ⟨p, 0, none⟩)) ∧ Kept w w' ∧ Has w' (storeS p bank sp 0 [] :: l)
theorem st_New {w : World} {l : List Say} (h : Has w l) (bank sp : Nat) : Calls Tryz.prog 31 #[.pointer (some ⟨bank, 0, none⟩), .pointer (some ⟨sp, 0, none⟩)] w (StNew bank sp l w) := by
  have h1 := map_made h
  have h2 := h1.alloc (.cells #[.pointer (some ⟨bank, 0, none⟩), .pointer (some ⟨sp, 0, none⟩), .map (some w.heap.size), .map none] 147)
  simp only [World.size_alloc] at h2
  have HB := Lib.hid (Has.st_shut (p := w.heap.size + 1) (bank := bank) (sp := sp) (n := 0) (Q := []) (x := ⟨w.heap.size, []⟩) ⟨rfl, List.Pairwise.nil, by simp, by simp⟩ h2)
  have hmm := @run_makeMap Tryz.prog
  clear h h1 h2
  go_enter Tryz.func31, Tryz.ntmps31
  go_wp2
  go_ret
  exact ⟨_, rfl, ((Kept.refl w).alloc _).alloc _, HB.out⟩

theorem Has.fresh_row {w w' : World} {l : List Say} (h : Has w l) (hb : Below w.heap.size w w') {e : TypeId} {size : Nat} {v : Value} {n : Nat} {xs : List Value} (ho : w'.ownsRow w.heap.size e size v n xs) : Has w' (rowS e size v n xs :: l) := by
  have hl3 : Has w' l := h.below hb
  rcases ho.2 with ⟨rfl, hn⟩ | ⟨g, cap, cur, rfl, hbg, hgg, r⟩
  · exact ⟨fun _ => none, fun k => w'.heap[k]?, ⟨ho.1, .inl ⟨rfl, hn⟩⟩, hl3, by simp, by simp⟩
  · have h4 : Sep (fun k => if k < w.heap.size then w.heap[k]? else none) l := Sep.up h fun k hk => by
      rcases Nat.lt_or_ge k w.heap.size with hlt | hge
      · simp [hlt]
      · exact absurd (Array.getElem?_eq_none hge) hk
    refine ⟨fun k => if k = g then w'.heap[g]? else none, _, ⟨ho.1, .inr ⟨g, cap, cur, rfl, by simp [hgg], r⟩⟩, h4, fun k hk => ?_, fun k hk => ?_⟩
    · by_cases e1 : k = g
      · subst e1; exact ⟨by simp, by simp; omega⟩
      · simp [e1] at hk
    · by_cases hlt : k < w.heap.size
      · simp only [hlt, if_true]; exact hb.block k hlt
      · simp [hlt] at hk

theorem sorted_unique : ∀ {a b : List Int}, a.Perm b → a.Pairwise (· ≤ ·) → b.Pairwise (· ≤ ·) → a = b
  | [], b, hp, _, _ => (List.nil_perm.1 hp).symm
  | x :: a, [], hp, _, _ => by simp at hp
  | x :: a, y :: b, hp, ha, hb => by
    obtain ⟨a1, a2⟩ := List.pairwise_cons.1 ha
    obtain ⟨b1, b2⟩ := List.pairwise_cons.1 hb
    have hx : x ∈ y :: b := hp.mem_iff.1 (by simp)
    have hy : y ∈ x :: a := hp.mem_iff.2 (by simp)
    have e : x = y := by
      rcases List.mem_cons.1 hx with h | h
      · exact h
      · rcases List.mem_cons.1 hy with h' | h'
        · exact h'.symm
        · have := b1 x h; have := a1 y h'; omega
    subst e
    rw [sorted_unique (List.Perm.cons_inv hp) a2 b2]
theorem sorted_is {ss ks : List Int} (hp : ss.Perm ks) (hk : ks.Pairwise (· < ·)) : ss.mergeSort (fun x y => decide (x ≤ y)) = ks := by
  refine sorted_unique ((List.mergeSort_perm ss _).trans hp) ?_ (hk.imp fun h => Int.le_of_lt h)
  have := List.pairwise_mergeSort (le := fun x y : Int => decide (x ≤ y)) (by intro a b c; simp; omega) (by intro a b; simp; omega) ss
  exact this.imp fun h => by simpa using h

def PagesPost (Q : Pgs) (l : List Say) (w : World) (r : Ending) (w' : World) : Prop := ∃ v, r = .returned v ∧ Kept w w' ∧ Has w' (intsS v (Q.map (·.1)) :: l)
theorem st_Pages {w : World} {l : List Say} {p bank sp n : Nat} {Q : Pgs} (h : Has w (storeS p bank sp n Q :: l)) (hn : Q.length ≤ 100000) :
    Calls Tryz.prog 25 #[.pointer (some ⟨p, 0, none⟩)] w (PagesPost Q (storeS p bank sp n Q :: l) w) := by
  obtain ⟨x, ok, hh⟩ := h.st_open
  have hp : w.heap[p]? = some (.cells #[.pointer (some ⟨bank, 0, none⟩), .pointer (some ⟨sp, 0, none⟩), .map (some x.mb), .map none] 147 (0, 0)) := hh.got
  have c2 : w.cell? ⟨p, 2, none⟩ = some (.map (some x.mb)) := cell_of hp 2 rfl
  have l0 := World.block_lt_of_cell? _ _ c2
  have hown := hh.map_own (b := x.mb) (n := n) (M := VMap.over Sl.val x.T) (by simp [storeFlat])
  have hkeys : intKeys (DataW.map ((VMap.over Sl.val x.T).map litE)) = Q.map (·.1) := by
    rw [← ok.eq]
    simp [intKeys, VMap.over, litE, List.map_map, Function.comp]
    intros; rfl
  have hsz : Maps.size (DataW.map ((VMap.over Sl.val x.T).map litE)) ≤ 100000 := by
    have e : Maps.size (DataW.map ((VMap.over Sl.val x.T).map litE)) = Q.length := by rw [← ok.eq]; simp [Maps.size, VMap.over]
    rw [e]; exact hn
  have HS := Lib.hid (Tryz.sorted_call x.mb n _ heldR w hown (by simp [maxLen]; omega) (by omega))
  have hup : (Q.map (·.1)).Pairwise (· < ·) := by
    rw [← ok.eq]
    simp only [VMap.over, List.map_map]
    exact List.pairwise_map.2 ok.up
  have HU : Hid ((∀ ss : List Int, ss.Perm (intKeys (DataW.map ((VMap.over Sl.val x.T).map litE))) → ss.mergeSort (fun x y => decide (x ≤ y)) = Q.map (·.1)) ∧ ∀ ss : List Int, ss.Perm (intKeys (DataW.map ((VMap.over Sl.val x.T).map litE))) → ss.length = (Q.map (·.1)).length) :=
    ⟨fun ss hs => sorted_is (hkeys ▸ hs) hup, fun ss hs => by rw [← hkeys]; exact hs.length_eq⟩
  have H0 := Lib.hid h
  clear h hh hp hown hkeys hsz hup hn ok
  go_enter Tryz.func25, Tryz.ntmps25
  go_wp2_with fail
  refine (Tryz.keys_call _ _).mono ?_
  rintro r w1 ⟨rfl, rfl⟩
  go_wp2_with fail
  refine HS.out.mono ?_
  rintro r w2 ⟨v, ss, rfl, hs, hrow, hb⟩
  have HF : Hid (Kept w w2 ∧ Has w2 (intsS v (Q.map (·.1)) :: storeS p bank sp n Q :: l)) := by
    refine ⟨((Kept.refl w).alloc _).trans (Kept.below hb), ?_⟩
    rw [HU.out.1 ss hs, HU.out.2 ss hs] at hrow
    exact (H0.out.alloc_off _).fresh_row hb hrow
  clear hrow hb hs HS H0 HU
  go_wp2
  go_ret
  exact ⟨_, rfl, HF.out.1, HF.out.2⟩
end Go.Proofs.YtgbgneiciabidaaGreatDoor
/-
  Pages (layer 11), the third part: what a node names.
-/
namespace Go.Proofs.YtgbgneiciabidaaGreatDoor
open Go Go.RowKit
set_option linter.all false

def Nd.kids (n : Nd) : List Int := if n.level = 0 then [] else n.vals
def Nd.kidsV (n : Nd) (vv : Value) : Value := if n.level = 0 then .slice none 0 0 else vv
theorem node_kids {w : World} (n : Nd) (kv vv : Value) : Calls Tryz.prog 82 #[n.val kv vv] w fun r w' => r = .returned (n.kidsV vv) ∧ Below w.heap.size w w' := by
  obtain ⟨lv, ks, vs⟩ := n
  have hbox : Below w.heap.size w (w.alloc (.cells #[.int .i64 lv, kv, vv] 35)) := (Below.refl _ _).alloc (Nat.le_refl _) _
  have c0 : (w.alloc (.cells #[.int .i64 lv, kv, vv] 35)).cell? ⟨w.heap.size, 0, none⟩ = some (.int .i64 lv) := World.cell?_alloc_new _ _ _ 0
  have c2 : (w.alloc (.cells #[.int .i64 lv, kv, vv] 35)).cell? ⟨w.heap.size, 2, none⟩ = some vv := World.cell?_alloc_new _ _ _ 2
  have HB := Lib.hid hbox
  clear hbox
  simp only [Nd.val, Nd.kidsV]
  go_enter Tryz.func82, Tryz.ntmps82
  go_upto_region 1 with fail
  generalize w.alloc (.cells #[.int .i64 lv, kv, vv] 35) = W at *
  by_cases h0 : lv = 0
  · subst h0
    go_wp2
    go_ret
    exact ⟨by simp, HB.out⟩
  · have hb : (lv == 0) = false := by simpa using h0
    have H0 := Lib.hid h0
    clear h0
    go_wp2
    go_ret
    exact ⟨rfl, HB.out⟩

theorem may_named1 : May 140 := ⟨Tryz.f140, Tryz.func140, by kernel_rfl, by kernel_rfl⟩
theorem info_node : (Tryz.prog.info? 35).map (fun i => (i.zero, i.size, i.bytes)) = some (some (.agg #[.int .i64 0, .slice none 0 0, .slice none 0 0]), 3, 56) := by kernel_rfl
theorem field_node (L : Int) (a b c d : Value) (W : World) : (Instr.field 153 (.agg #[.int .i64 L, a, b, c, d]) 0).run Tryz.prog W = .ok (.agg #[.int .i64 L, a, b]) W := by
  obtain ⟨i0, I1, I2, I3, I4⟩ := info_parts info_node
  simp [Instr.field, run_underlying Tryz.underlying153, part, typeInfo, sizeOf, I1, I3, asAgg, Result.andThen, go_sem]
theorem field_lv (L : Int) (a b : Value) (W : World) : (Instr.field 35 (.agg #[.int .i64 L, a, b]) 0).run Tryz.prog W = .ok (.int .i64 L) W := by
  simp [Instr.field, run_underlying Tryz.underlying35, part, typeInfo, sizeOf, asAgg, Result.andThen, go_sem]

def lvOf (Q : Pgs) (k : Int) : Int := ((VMap.get k Q).map fun g => g.n.level).getD 0
theorem page_lv (T : List (Int × Sl)) (k : Int) : ∃ a b c d, (VMap.get k (VMap.over Sl.val T)).getD pageZero = .agg #[.int .i64 (lvOf (VMap.over Sl.pg T) k), a, b, c, d] := by
  unfold lvOf
  rw [VMap.get_over, VMap.get_over]
  cases VMap.get k T with
  | none => exact ⟨_, _, _, _, rfl⟩
  | some t => exact ⟨_, _, _, _, rfl⟩

theorem named_at {W : World} {b2 b3 p mb : Nat} {lv : Int} (T : List (Int × Sl)) (k : Int) (h0 : 0 ≤ lv) (h1 : lv ≤ 20)
    (c2 : W.cell? ⟨b2, 0, none⟩ = some (.pointer (some ⟨p, 0, none⟩))) (c3 : W.cell? ⟨b3, 0, none⟩ = some (.int .i64 lv)) (cp : W.cell? ⟨p, 2, none⟩ = some (.map (some mb)))
    (hl : ∀ n, (Instr.lookup 145 (.map (some mb)) (.int .i64 k) false).run Tryz.prog (W.drewN n) = .ok ((VMap.get k (VMap.over Sl.val T)).getD pageZero) (W.drewN n)) (m : Nat) :
    Calls Tryz.prog 140 #[.int .i64 k, .pointer (some ⟨b2, 0, none⟩), .pointer (some ⟨b3, 0, none⟩)] (W.drewN m) fun e w' => e = .returned (.bool (!(lvOf (VMap.over Sl.pg T) k == lv - 1))) ∧ ∃ m', w' = W.drewN m' := by
  obtain ⟨a, b, c, d, he⟩ := page_lv T k
  rw [he] at hl
  have hl' : ∀ n, (Instr.lookup 145 (.map (some mb)) (.int .i64 k) false).run Tryz.prog ((W.drewN m).drewN n) = .ok (.agg #[.int .i64 (lvOf (VMap.over Sl.pg T) k), a, b, c, d]) ((W.drewN m).drewN n) := fun n => by
    rw [World.drewN_drewN]; exact hl _
  have c2' : (W.drewN m).cell? ⟨b2, 0, none⟩ = some (.pointer (some ⟨p, 0, none⟩)) := c2
  have c3' : (W.drewN m).cell? ⟨b3, 0, none⟩ = some (.int .i64 lv) := c3
  have cp' : (W.drewN m).cell? ⟨p, 2, none⟩ = some (.map (some mb)) := cp
  have HW : Hid (∀ n, (W.drewN m).drewN n = W.drewN (m + n)) := fun n => World.drewN_drewN _ _ _
  have hf1 := field_node (lvOf (VMap.over Sl.pg T) k) a b c d
  have hf2 := field_lv (lvOf (VMap.over Sl.pg T) k) a b
  have l0 := World.block_lt_of_cell? _ _ cp'
  have hs : IntKind.i64.wrap (lv - 1) = lv - 1 := by rw [IntKind.wrap_i64]; omega
  generalize lvOf (VMap.over Sl.pg T) k = L at *
  clear hl c2 c3 cp he
  generalize hWm : W.drewN m = V at *
  go_enter Tryz.func140, Tryz.ntmps140
  go_wp2_with (go_quiet (fail))
  go_ret
  exact ⟨rfl, _, HW.out _⟩
end Go.Proofs.YtgbgneiciabidaaGreatDoor
