/-
  The document's side of nodes, the second part: Same, at equal nodes.
-/
import Derived.Test.YtgbgneiciabidaaGreatDoorRef
namespace Go.Proofs.YtgbgneiciabidaaGreatDoor
open Go Go.RowKit
set_option linter.unusedVariables false
set_option linter.unusedSimpArgs false

set_option maxHeartbeats 1000000 in
set_option maxRecDepth 100000 in
theorem ref_Same {w : World} (n : Nd) {kv vv kv2 vv2 : Value} (hk : Rd w kv n.keys) (hv : Rd w vv n.vals) (hk2 : Rd w kv2 n.keys) (hv2 : Rd w vv2 n.vals) (kl : n.keys.length ≤ 1000) (vl : n.vals.length ≤ 1000) :
    Calls Tryz.prog 21 #[n.val kv vv, n.val kv2 vv2] w fun r w' => r = .returned (.bool true) ∧ Below w.heap.size w w' := by
  have hb : Below w.heap.size w ((w.alloc (.cells #[.int .i64 n.level, kv, vv] 24)).alloc (.cells #[.int .i64 n.level, kv2, vv2] 24)) := ((Below.refl _ _).alloc (Nat.le_refl _) _).alloc (by simp) _
  have HB := Lib.hid hb
  have hn1 := World.cell?_alloc_new w #[.int .i64 n.level, kv, vv] 24
  have hn2 := World.cell?_alloc_new (w.alloc (.cells #[.int .i64 n.level, kv, vv] 24)) #[.int .i64 n.level, kv2, vv2] 24
  simp only [World.size_alloc] at hn2
  have p0 : ((w.alloc (.cells #[.int .i64 n.level, kv, vv] 24)).alloc (.cells #[.int .i64 n.level, kv2, vv2] 24)).cell? ⟨w.heap.size, 0, none⟩ = some (.int .i64 n.level) := by rw [World.cell?_alloc_lt _ _ _ (by simp)]; exact hn1 0
  have p1 : ((w.alloc (.cells #[.int .i64 n.level, kv, vv] 24)).alloc (.cells #[.int .i64 n.level, kv2, vv2] 24)).cell? ⟨w.heap.size, 1, none⟩ = some kv := by rw [World.cell?_alloc_lt _ _ _ (by simp)]; exact hn1 1
  have p2 : ((w.alloc (.cells #[.int .i64 n.level, kv, vv] 24)).alloc (.cells #[.int .i64 n.level, kv2, vv2] 24)).cell? ⟨w.heap.size, 2, none⟩ = some vv := by rw [World.cell?_alloc_lt _ _ _ (by simp)]; exact hn1 2
  have q0 : ((w.alloc (.cells #[.int .i64 n.level, kv, vv] 24)).alloc (.cells #[.int .i64 n.level, kv2, vv2] 24)).cell? ⟨w.heap.size + 1, 0, none⟩ = some (.int .i64 n.level) := hn2 0
  have q1 : ((w.alloc (.cells #[.int .i64 n.level, kv, vv] 24)).alloc (.cells #[.int .i64 n.level, kv2, vv2] 24)).cell? ⟨w.heap.size + 1, 1, none⟩ = some kv2 := hn2 1
  have q2 : ((w.alloc (.cells #[.int .i64 n.level, kv, vv] 24)).alloc (.cells #[.int .i64 n.level, kv2, vv2] 24)).cell? ⟨w.heap.size + 1, 2, none⟩ = some vv2 := hn2 2
  obtain ⟨ak, ck, rfl, hrk⟩ := hk.below hb
  obtain ⟨av, cv, rfl, hrv⟩ := hv.below hb
  obtain ⟨ak2, ck2, rfl, hrk2⟩ := hk2.below hb
  obtain ⟨av2, cv2, rfl, hrv2⟩ := hv2.below hb
  have Hrk := Lib.hid hrk
  have Hrv := Lib.hid hrv
  have Hrk2 := Lib.hid hrk2
  have Hrv2 := Lib.hid hrv2
  clear hk hv hk2 hv2 hb hn1 hn2 hrk hrv hrk2 hrv2
  obtain ⟨lv, ks, vs⟩ := n
  simp only [Nd.val] at *
  go_enter Tryz.func21, Tryz.ntmps21
  go_upto_region 1 with fail
  generalize (w.alloc (.cells #[.int .i64 lv, .slice ak ks.length ck, .slice av vs.length cv] 24)).alloc (.cells #[.int .i64 lv, .slice ak2 ks.length ck2, .slice av2 vs.length cv2] 24) = W at *
  generalize hb2 : w.heap.size + 1 = b2 at *
  have lb := World.block_lt_of_cell? _ _ p1
  have lb2 := World.block_lt_of_cell? _ _ q1
  clear hb2
  go_wp2
  go_loopg [5] ks.length (fun gk i wr => ∃ k : Nat, k ≤ ks.length ∧ gk = ks.length - k ∧ i = .int .i64 k ∧ ∃ m, wr = W.drewN m)
  case atStart => exact ⟨0, Nat.zero_le _, rfl, rfl, 0, rfl⟩
  case round =>
    obtain ⟨k, hk, rfl, rfl, m, rfl⟩ := hrel
    by_cases hlt : k < ks.length
    · obtain ⟨g1, o1, rfl, e1⟩ := Hrk.out k hlt
      obtain ⟨g2, o2, rfl, e2⟩ := Hrk2.out k hlt
      have hk1 : (k : Int) < (ks.length : Int) := by omega
      have hk0 : (0 : Int) ≤ k := by omega
      generalize ks[k] = x at *
      have HV : Hid (∀ q, (W.drewN m).drewN q = W.drewN (m + q)) := fun q => World.drewN_drewN _ _ _
      have P1 : (W.drewN m).cell? ⟨w.heap.size, 1, none⟩ = some (.slice (some ⟨g1, o1, none⟩) ks.length ck) := p1
      have Q1 : (W.drewN m).cell? ⟨b2, 1, none⟩ = some (.slice (some ⟨g2, o2, none⟩) ks.length ck2) := q1
      have E1 : (W.drewN m).cell? ⟨g1, o1 + k, none⟩ = some (.int .i64 x) := e1
      have E2 : (W.drewN m).cell? ⟨g2, o2 + k, none⟩ = some (.int .i64 x) := e2
      clear p0 p1 p2 q0 q1 q2 e1 e2 lb lb2
      generalize W.drewN m = V at *
      have l1 := World.block_lt_of_cell? _ _ P1
      have l2 := World.block_lt_of_cell? _ _ Q1
      have l3 := World.block_lt_of_cell? _ _ E1
      have l4 := World.block_lt_of_cell? _ _ E2
      go_wp2_with (go_quiet (fail))
      go_roundg (ks.length - (k + 1))
      case measure => omega
      case rel => exact ⟨k + 1, by omega, rfl, by simp, _, HV.out _⟩
    · obtain rfl : k = ks.length := by omega
      go_wp2
      go_loopg [6] vs.length (fun gk i wr => ∃ k : Nat, k ≤ vs.length ∧ gk = vs.length - k ∧ i = .int .i64 k ∧ ∃ m, wr = W.drewN m)
      case atStart => exact ⟨0, Nat.zero_le _, rfl, rfl, m, rfl⟩
      case round =>
        obtain ⟨k, hk, rfl, rfl, m, rfl⟩ := hrel
        by_cases hlt : k < vs.length
        · obtain ⟨g1, o1, rfl, e1⟩ := Hrv.out k hlt
          obtain ⟨g2, o2, rfl, e2⟩ := Hrv2.out k hlt
          have hk1 : (k : Int) < (vs.length : Int) := by omega
          have hk0 : (0 : Int) ≤ k := by omega
          generalize vs[k] = x at *
          have HV : Hid (∀ q, (W.drewN m).drewN q = W.drewN (m + q)) := fun q => World.drewN_drewN _ _ _
          have P1 : (W.drewN m).cell? ⟨w.heap.size, 2, none⟩ = some (.slice (some ⟨g1, o1, none⟩) vs.length cv) := p2
          have Q1 : (W.drewN m).cell? ⟨b2, 2, none⟩ = some (.slice (some ⟨g2, o2, none⟩) vs.length cv2) := q2
          have E1 : (W.drewN m).cell? ⟨g1, o1 + k, none⟩ = some (.int .i64 x) := e1
          have E2 : (W.drewN m).cell? ⟨g2, o2 + k, none⟩ = some (.int .i64 x) := e2
          clear p0 p1 p2 q0 q1 q2 e1 e2 lb lb2
          generalize W.drewN m = V at *
          have l1 := World.block_lt_of_cell? _ _ P1
          have l2 := World.block_lt_of_cell? _ _ Q1
          have l3 := World.block_lt_of_cell? _ _ E1
          have l4 := World.block_lt_of_cell? _ _ E2
          go_wp2_with (go_quiet (fail))
          go_roundg (vs.length - (k + 1))
          case measure => omega
          case rel => exact ⟨k + 1, by omega, rfl, by simp, _, HV.out _⟩
        · obtain rfl : k = vs.length := by omega
          have HBd : Hid (Below w.heap.size w (W.drewN m)) := HB.out.trans ⟨rfl, rfl, rfl, Nat.le_refl _, fun _ _ => rfl⟩
          go_wp2
          go_ret
          exact ⟨rfl, HBd.out⟩
end Go.Proofs.YtgbgneiciabidaaGreatDoor
