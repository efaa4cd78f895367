/-
  Nodes (layer 10), the third part: Check, Bytes.
-/
import Derived.Test.YtgbgneiciabidaaGreatDoorNodeB
import Derived.Test.YtgbgneiciabidaaGreatDoorTake
namespace Go.Proofs.YtgbgneiciabidaaGreatDoor
open Go Go.RowKit
set_option linter.unusedVariables false
set_option linter.unusedSimpArgs false

def Nd.pairs (n : Nd) : List (Int × Int) := n.keys.zip n.vals
def Nd.ok (n : Nd) : Bool := decide (0 ≤ n.level) && decide (n.level ≤ 20) && (n.keys.length == n.vals.length) && decide (1 ≤ n.keys.length) && decide (n.keys.length ≤ 7) && ordTo n.pairs n.pairs.length

def CheckPost (n : Nd) (l : List Say) (w : World) (r : Ending) (w' : World) : Prop := r = .returned (if n.ok = true then .nilIface else errV 70) ∧ Kept w w' ∧ Has w' l

theorem check_bad {n : Nd} {l : List Say} {w w' : World} {r : Ending} (h1 : Hid (n.ok = false)) (h2 : r = .returned (errV 70)) (h3 : Kept w w' ∧ Has w' l) : CheckPost n l w r w' := ⟨by rw [h1.out]; exact h2, h3⟩

set_option maxRecDepth 100000 in
theorem node_Check {w : World} {l : List Say} (n : Nd) {kv vv : Value} (h : Has w l) (hk : intsS kv n.keys ∈ l) (hv : intsS vv n.vals ∈ l) :
    Calls Tryz.prog 98 #[n.val kv vv] w (CheckPost n l w) := by
  have hbox := h.alloc (.cells #[.int .i64 n.level, kv, vv] 35)
  have HW : Hid (Kept w (w.alloc (.cells #[.int .i64 n.level, kv, vv] 35)) ∧ Has (w.alloc (.cells #[.int .i64 n.level, kv, vv] 35)) l) := ⟨(Kept.refl w).alloc _, hbox.tail⟩
  have HP : Hid (n.keys.length = n.vals.length → n.keys.length ≤ 7 → Calls Tryz.prog 135 #[n.val kv vv] (w.alloc (.cells #[.int .i64 n.level, kv, vv] 35)) (PairsPost n.pairs l (w.alloc (.cells #[.int .i64 n.level, kv, vv] 35)))) := fun h1 h2 => node_pairs n hbox.tail hk hv h1 (by omega)
  have c0 := cell_of hbox.got 0 rfl
  have c1 := cell_of hbox.got 1 rfl
  have c2 := cell_of hbox.got 2 rfl
  obtain ⟨ak, ck, rfl, _, _⟩ := h.ints_read hk
  obtain ⟨av, cv, rfl, _, _⟩ := h.ints_read hv
  clear h hk hv hbox
  have lb := World.block_lt_of_cell? _ _ c0
  obtain ⟨lv, ks, vs⟩ := n
  simp only [Nd.val] at *
  go_enter Tryz.func98, Tryz.ntmps98
  go_upto_region 1 with fail
  generalize w.alloc (.cells #[.int .i64 lv, .slice ak ks.length ck, .slice av vs.length cv] 35) = W at *
  generalize w.heap.size = bx at *
  by_cases g1 : lv < 0
  · have hb : Hid (Nd.ok ⟨lv, ks, vs⟩ = false) := by show _ = _; simp [Nd.ok]; omega
    go_wp2
    go_ret
    exact check_bad hb rfl HW.out
  by_cases g2 : 20 < lv
  · have hb : Hid (Nd.ok ⟨lv, ks, vs⟩ = false) := by show _ = _; simp [Nd.ok]; omega
    have g1' : decide (lv < 0) = false := by simp; omega
    go_wp2
    go_ret
    exact check_bad hb rfl HW.out
  have g1' : decide (lv < 0) = false := by simp; omega
  have g2' : decide (20 < lv) = false := by simp; omega
  by_cases g3 : ks.length = vs.length
  · by_cases g4 : ks.length < 1
    · have hb : Hid (Nd.ok ⟨lv, ks, vs⟩ = false) := by show _ = _; simp [Nd.ok]; omega
      have g3' : ((ks.length : Int) == (vs.length : Int)) = true := by simp; omega
      have g4' : decide ((ks.length : Int) < 1) = true := by simp; omega
      clear g3 g4
      go_wp2
      go_ret
      exact check_bad hb rfl HW.out
    have g4' : decide ((ks.length : Int) < 1) = false := by simp; omega
    by_cases g5 : 7 < ks.length
    · have hb : Hid (Nd.ok ⟨lv, ks, vs⟩ = false) := by show _ = _; simp [Nd.ok]; omega
      have g3' : ((ks.length : Int) == (vs.length : Int)) = true := by simp; omega
      have g5' : decide (7 < (ks.length : Int)) = true := by simp; omega
      clear g3 g4 g5
      go_wp2
      go_ret
      exact check_bad hb rfl HW.out
    have g5' : decide (7 < (ks.length : Int)) = false := by simp; omega
    have g3' : ((ks.length : Int) == (vs.length : Int)) = true := by simp; omega
    have HQ := Lib.hid (HP.out g3 (by omega))
    have hok : Hid (Nd.ok ⟨lv, ks, vs⟩ = ordTo (Nd.pairs ⟨lv, ks, vs⟩) (Nd.pairs ⟨lv, ks, vs⟩).length) := by
      show _ = _
      have e1 : decide (0 ≤ lv) = true := by simp; omega
      have e2 : decide (lv ≤ 20) = true := by simp; omega
      have e3 : (ks.length == vs.length) = true := by simp; omega
      have e4 : decide (1 ≤ ks.length) = true := by simp; omega
      have e5 : decide (ks.length ≤ 7) = true := by simp; omega
      simp only [Nd.ok, e1, e2, e3, e4, e5, Bool.true_and]
    have hlp : (Nd.pairs ⟨lv, ks, vs⟩).length ≤ 100 := by simp [Nd.pairs]; omega
    clear g3 g4 g5 HP
    go_wp2_with fail
    refine HQ.out.mono ?_
    rintro r w1 ⟨v1, rfl, hK, h1⟩
    have HO := Lib.hid (node_ordered h1 (.head _) hlp)
    have HK1 : Hid (Kept w w1 ∧ Has w1 l) := ⟨HW.out.1.trans hK, h1.tail⟩
    clear hK h1 HQ HW
    go_wp2_with fail
    refine HO.out.mono ?_
    rintro r w2 ⟨rfl, hb2⟩
    have HK2 : Hid (Kept w w2 ∧ Has w2 l) := ⟨HK1.out.1.trans (Kept.below hb2), HK1.out.2.below hb2⟩
    clear hb2 HO HK1
    cases ho : ordTo (Nd.pairs ⟨lv, ks, vs⟩) (Nd.pairs ⟨lv, ks, vs⟩).length with
    | false =>
      rw [ho] at hok
      have HX := Lib.hid ho
      clear ho
      go_wp2
      go_ret
      exact check_bad hok rfl HK2.out
    | true =>
      rw [ho] at hok
      have HX := Lib.hid ho
      clear ho
      go_wp2
      go_ret
      exact ⟨by rw [hok.out]; rfl, HK2.out⟩
  · have hb : Hid (Nd.ok ⟨lv, ks, vs⟩ = false) := by show _ = _; simp [Nd.ok]; omega
    have g3' : ((ks.length : Int) == (vs.length : Int)) = false := by simp; omega
    clear g3
    go_wp2
    go_ret
    exact check_bad hb rfl HW.out
end Go.Proofs.YtgbgneiciabidaaGreatDoor
