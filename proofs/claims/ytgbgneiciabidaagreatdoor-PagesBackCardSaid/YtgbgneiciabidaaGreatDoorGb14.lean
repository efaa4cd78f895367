/-
  The document's side of nodes: Fits, Rising, Right.
-/
import Derived.Test.YtgbgneiciabidaaGreatDoorGb9
namespace Go.Proofs.YtgbgneiciabidaaGreatDoor
open Go Go.RowKit
set_option linter.unusedVariables false
set_option linter.unusedSimpArgs false

theorem ref_Fits {w : World} (k v : Int) : Calls Tryz.prog 132 #[.int .i64 k, .int .i64 v] w fun r w' => r = .returned (.bool (pairOk k v)) ∧ w = w' := by
  by_cases h1 : 0 ≤ k
  · by_cases h2 : k ≤ 1099511627776
    · by_cases h3 : 1 ≤ v
      · go_enter Tryz.func132, Tryz.ntmps132
        go_wp2
        go_ret
        exact ⟨by simp [pairOk, h1, h2, h3], rfl⟩
      · go_enter Tryz.func132, Tryz.ntmps132
        go_wp2
        go_ret
        exact ⟨by simp [pairOk]; omega, rfl⟩
    · go_enter Tryz.func132, Tryz.ntmps132
      go_wp2
      go_ret
      exact ⟨by simp [pairOk]; omega, rfl⟩
  · go_enter Tryz.func132, Tryz.ntmps132
    go_wp2
    go_ret
    exact ⟨by simp [pairOk]; omega, rfl⟩

/-- A row of numbers that can be read, wherever it lies. -/
def Rd (w : World) (v : Value) (xs : List Int) : Prop := ∃ a c, v = .slice a xs.length c ∧ ∀ k (hk : k < xs.length), ∃ b off, a = some ⟨b, off, none⟩ ∧ w.cell? ⟨b, off + k, none⟩ = some (.int .i64 xs[k])
theorem Rd.below {w w' : World} {v : Value} {xs : List Int} (h : Rd w v xs) (hb : Below w.heap.size w w') : Rd w' v xs := by
  obtain ⟨a, c, e, hr⟩ := h
  exact ⟨a, c, e, fun k hk => by obtain ⟨b, off, ea, hc⟩ := hr k hk; exact ⟨b, off, ea, bcell1 hb hc⟩⟩
theorem Has.rd {w : World} {l : List Say} {v : Value} {xs : List Int} (h : Has w l) (hm : intsS v xs ∈ l) : Rd w v xs := by
  obtain ⟨a, c, e, _, hr⟩ := h.ints_read hm
  exact ⟨a, c, e, fun k hk => by obtain ⟨g, ea, hc, _⟩ := hr k hk; exact ⟨g, 0, ea, by rw [Nat.zero_add]; exact hc⟩⟩
def Nd.rising (n : Nd) : Bool := (n.keys.length == n.vals.length) && ordTo n.pairs n.pairs.length

set_option maxRecDepth 100000 in
theorem ref_Rising {w : World} (n : Nd) {kv vv : Value} (hk : Rd w kv n.keys) (hv : Rd w vv n.vals) (hl : n.keys.length ≤ 100) :
    Calls Tryz.prog 74 #[n.val kv vv] w fun r w' => r = .returned (.bool n.rising) ∧ Below w.heap.size w w' := by
  have hb : Below w.heap.size w (w.alloc (.cells #[.int .i64 n.level, kv, vv] 24)) := (Below.refl _ _).alloc (Nat.le_refl _) _
  have HB := Lib.hid hb
  have hnew := World.cell?_alloc_new w #[.int .i64 n.level, kv, vv] 24
  have c1 : (w.alloc (.cells #[.int .i64 n.level, kv, vv] 24)).cell? ⟨w.heap.size, 1, none⟩ = some kv := hnew 1
  have c2 : (w.alloc (.cells #[.int .i64 n.level, kv, vv] 24)).cell? ⟨w.heap.size, 2, none⟩ = some vv := hnew 2
  obtain ⟨ak, ck, rfl, hrk⟩ := hk.below hb
  obtain ⟨av, cv, rfl, hrv⟩ := hv.below hb
  have Hrk := Lib.hid hrk
  have Hrv := Lib.hid hrv
  clear hk hv hb hrk hrv hnew
  obtain ⟨lv, ks, vs⟩ := n
  simp only [Nd.val] at *
  go_enter Tryz.func74, Tryz.ntmps74
  go_upto_region 1 with fail
  generalize w.alloc (.cells #[.int .i64 lv, .slice ak ks.length ck, .slice av vs.length cv] 24) = W at *
  have lb := World.block_lt_of_cell? _ _ c1
  by_cases g3 : ks.length = vs.length
  · have g3' : ((ks.length : Int) == (vs.length : Int)) = true := by simp; omega
    have G3 := Lib.hid g3
    have hpl : (Nd.pairs ⟨lv, ks, vs⟩).length = ks.length := by simp [Nd.pairs, g3]
    have HPL := Lib.hid hpl
    have HR : Hid (Nd.rising ⟨lv, ks, vs⟩ = ordTo (Nd.pairs ⟨lv, ks, vs⟩) ks.length) := by
      show _ = _
      unfold Nd.rising
      rw [hpl]
      simp [g3]
    clear g3 hpl
    go_wp2
    go_loopg [3] ks.length (fun gk i wr => ∃ k : Nat, k ≤ ks.length ∧ gk = ks.length - k ∧ i = .int .i64 k ∧ ordTo (Nd.pairs ⟨lv, ks, vs⟩) k = true ∧ ∃ m, wr = W.drewN m)
    case atStart => exact ⟨0, Nat.zero_le _, rfl, rfl, rfl, 0, rfl⟩
    case round =>
      obtain ⟨k, hk, rfl, rfl, ho, m, rfl⟩ := hrel
      by_cases hlt : k < ks.length
      · have hlv : k < vs.length := by rw [← G3.out]; exact hlt
        obtain ⟨gk, ok, rfl, k1⟩ := Hrk.out k hlt
        obtain ⟨gv, ov, rfl, v1⟩ := Hrv.out k hlv
        have hk1 : (k : Int) < (ks.length : Int) := by omega
        have hk2 : (k : Int) < (vs.length : Int) := by omega
        have hk0 : (0 : Int) ≤ k := by omega
        have d1 : (W.drewN m).cell? ⟨w.heap.size, 1, none⟩ = some (.slice (some ⟨gk, ok, none⟩) ks.length ck) := c1
        have d2 : (W.drewN m).cell? ⟨w.heap.size, 2, none⟩ = some (.slice (some ⟨gv, ov, none⟩) vs.length cv) := c2
        have d3 : (W.drewN m).cell? ⟨gk, ok + k, none⟩ = some (.int .i64 ks[k]) := k1
        have d4 : (W.drewN m).cell? ⟨gv, ov + k, none⟩ = some (.int .i64 vs[k]) := v1
        have HBd : Hid (∀ q, Below w.heap.size w (W.drewN q)) := fun q => HB.out.trans ⟨rfl, rfl, rfl, Nat.le_refl _, fun _ _ => rfl⟩
        have HV : Hid (∀ q, (W.drewN m).drewN q = W.drewN (m + q)) := fun q => World.drewN_drewN _ _ _
        have HPk : Hid ((Nd.pairs ⟨lv, ks, vs⟩)[k]? = some (ks[k], vs[k])) := by
          show _ = _
          unfold Nd.pairs
          rw [List.getElem?_zip_eq_some]
          exact ⟨List.getElem?_eq_getElem hlt, List.getElem?_eq_getElem hlv⟩
        have hprev : ∀ mm, mm < k → ∃ qa qb, (Nd.pairs ⟨lv, ks, vs⟩)[mm]? = some (qa, qb) ∧ (W.drewN m).cell? ⟨gk, ok + mm, none⟩ = some (.int .i64 qa) := by
          intro mm hmm
          obtain ⟨g', o', hg', c'⟩ := Hrk.out mm (by omega)
          cases hg'
          refine ⟨ks[mm], vs[mm]'(by omega), ?_, c'⟩
          unfold Nd.pairs
          rw [List.getElem?_zip_eq_some]
          exact ⟨List.getElem?_eq_getElem (show mm < ks.length by omega), List.getElem?_eq_getElem (show mm < vs.length by omega)⟩
        have HPv := Lib.hid hprev
        have HO := Lib.hid ho
        have Hlt := Lib.hid hlt
        generalize ks[k] = pa at *
        generalize vs[k] = pb at *
        generalize Nd.pairs ⟨lv, ks, vs⟩ = ps at *
        have HFt : Hid (∀ q, Calls Tryz.prog 132 #[.int .i64 pa, .int .i64 pb] ((W.drewN m).drewN q) fun e w'' => e = .returned (.bool (pairOk pa pb)) ∧ ∃ q', w'' = (W.drewN m).drewN q') := fun q => quiet_same (ref_Fits (w := (W.drewN m).drewN q) pa pb)
        clear k1 v1 c1 c2 lb hprev ho
        generalize W.drewN m = V at *
        have l1 := World.block_lt_of_cell? _ _ d1
        have l3 := World.block_lt_of_cell? _ _ d3
        have l4 := World.block_lt_of_cell? _ _ d4
        cases hpk : pairOk pa pb with
        | false =>
          rw [hpk] at HFt
          have HPK := Lib.hid hpk
          clear hpk
          go_wp2_with (go_quiet ((go_at_call 132; exact HFt.out _)))
          go_ret
          refine ⟨?_, by rw [HV.out]; exact HBd.out _⟩
          rw [HR.out, ordTo_false ps k _ ks.length Hlt.out]
          · rfl
          · rw [ordAt, HPk.out]; simp [HPK.out]
        | true =>
          rw [hpk] at HFt
          have HPK := Lib.hid hpk
          clear hpk
          by_cases h0 : k = 0
          · subst h0
            rw [Nat.add_zero] at d3 d4
            have hd0 : decide ((0 : Int) < ((0 : Nat) : Int)) = false := rfl
            have HA : Hid (ordTo ps (0 + 1) = true) := by show _ = _; rw [ordTo, HO.out, ordAt, HPk.out]; simp [HPK.out]
            go_wp2_with (go_quiet ((go_at_call 132; exact HFt.out _)))
            go_roundg (ks.length - (0 + 1))
            case measure => omega
            case rel => exact ⟨0 + 1, by omega, rfl, by simp, HA.out, _, HV.out _⟩
          · obtain ⟨mm, hmm⟩ : ∃ mm, k = mm + 1 := ⟨k - 1, by omega⟩
            have hd0 : 0 < k := by omega
            have hsub : (k : Int) - 1 = (mm : Int) := by omega
            have hsub2 : IntKind.i64.wrap ((k : Int) - 1) = (mm : Int) := by rw [IntKind.wrap_i64]; omega
            have hm1 : (mm : Int) < (ks.length : Int) := by omega
            have hm0 : (0 : Int) ≤ (mm : Int) := by omega
            obtain ⟨qa, qb, hq, q1⟩ := HPv.out mm (by omega)
            have HQ := Lib.hid hq
            have Hm := Lib.hid hmm
            clear hmm h0 hq
            have HAt : Hid (ordAt ps k = decide (qa < pa)) := by
              show _ = _
              have e := Hm.out
              rw [ordAt, HPk.out]
              have e2 : k - 1 = mm := by omega
              have e3 : (k == 0) = false := by simp; omega
              simp only [e2, HQ.out, e3, HPK.out, Bool.true_and, Bool.false_or]
            by_cases hc : qa < pa
            · have hcb : decide (pa ≤ qa) = false := by simp; omega
              have HA : Hid (ordTo ps (k + 1) = true) := by show _ = _; rw [ordTo, HO.out, HAt.out]; simp [hc]
              go_wp2_with (go_quiet ((go_at_call 132; exact HFt.out _)))
              go_roundg (ks.length - (k + 1))
              case measure => omega
              case rel => exact ⟨k + 1, by omega, rfl, by simp, HA.out, _, HV.out _⟩
            · have hcb : pa ≤ qa := by omega
              have HA : Hid (ordTo ps ks.length = false) := ordTo_false ps k (by rw [HAt.out]; simp; omega) ks.length Hlt.out
              go_wp2_with (go_quiet ((go_at_call 132; exact HFt.out _)))
              go_ret
              exact ⟨by rw [HR.out, HA.out]; rfl, by rw [HV.out]; exact HBd.out _⟩
      · obtain rfl : k = ks.length := by omega
        have HO := Lib.hid ho
        have HBd : Hid (Below w.heap.size w (W.drewN m)) := HB.out.trans ⟨rfl, rfl, rfl, Nat.le_refl _, fun _ _ => rfl⟩
        clear ho
        go_wp2
        go_ret
        exact ⟨by rw [HR.out, HO.out]; rfl, HBd.out⟩
  · have g3' : ((ks.length : Int) == (vs.length : Int)) = false := by simp; omega
    have HR : Hid (Nd.rising ⟨lv, ks, vs⟩ = false) := by show _ = _; simp [Nd.rising, g3]
    clear g3
    go_wp2
    go_ret
    exact ⟨by rw [HR.out]; rfl, HB.out⟩

set_option maxRecDepth 100000 in
theorem ref_Right {w : World} (n : Nd) {kv vv : Value} (hk : Rd w kv n.keys) (hv : Rd w vv n.vals) :
    Calls Tryz.prog 16 #[n.val kv vv] w fun r w' => r = .returned (.bool n.ok) ∧ Below w.heap.size w w' := by
  have hb : Below w.heap.size w (w.alloc (.cells #[.int .i64 n.level, kv, vv] 24)) := (Below.refl _ _).alloc (Nat.le_refl _) _
  have HB := Lib.hid hb
  have hnew := World.cell?_alloc_new w #[.int .i64 n.level, kv, vv] 24
  have c0 : (w.alloc (.cells #[.int .i64 n.level, kv, vv] 24)).cell? ⟨w.heap.size, 0, none⟩ = some (.int .i64 n.level) := hnew 0
  have c1 : (w.alloc (.cells #[.int .i64 n.level, kv, vv] 24)).cell? ⟨w.heap.size, 1, none⟩ = some kv := hnew 1
  have c2 : (w.alloc (.cells #[.int .i64 n.level, kv, vv] 24)).cell? ⟨w.heap.size, 2, none⟩ = some vv := hnew 2
  have HR : Hid (n.keys.length ≤ 100 → Calls Tryz.prog 74 #[n.val kv vv] (w.alloc (.cells #[.int .i64 n.level, kv, vv] 24)) fun r w' => r = .returned (.bool n.rising) ∧ Below (w.alloc (.cells #[.int .i64 n.level, kv, vv] 24)).heap.size (w.alloc (.cells #[.int .i64 n.level, kv, vv] 24)) w') := fun h100 => ref_Rising n (hk.below hb) (hv.below hb) h100
  obtain ⟨ak, ck, rfl, _⟩ := hk
  clear hv hb hnew
  obtain ⟨lv, ks, vs⟩ := n
  simp only [Nd.val] at *
  go_enter Tryz.func16, Tryz.ntmps16
  go_upto_region 1 with fail
  generalize w.alloc (.cells #[.int .i64 lv, .slice ak ks.length ck, vv] 24) = W at *
  have lb := World.block_lt_of_cell? _ _ c0
  by_cases g1 : lv < 0
  · have hb : Hid (Nd.ok ⟨lv, ks, vs⟩ = false) := by show _ = _; simp [Nd.ok]; omega
    have g1' : decide (0 ≤ lv) = false := by simp; omega
    go_wp2
    go_ret
    exact ⟨by rw [hb.out]; rfl, HB.out⟩
  have g1' : decide (0 ≤ lv) = true := by simp; omega
  by_cases g2 : 20 < lv
  · have hb : Hid (Nd.ok ⟨lv, ks, vs⟩ = false) := by show _ = _; simp [Nd.ok]; omega
    have g2' : decide (lv ≤ 20) = false := by simp; omega
    go_wp2
    go_ret
    exact ⟨by rw [hb.out]; rfl, HB.out⟩
  have g2' : decide (lv ≤ 20) = true := by simp; omega
  by_cases g4 : ks.length < 1
  · have hb : Hid (Nd.ok ⟨lv, ks, vs⟩ = false) := by show _ = _; simp [Nd.ok]; omega
    have g4' : decide (1 ≤ (ks.length : Int)) = false := by simp; omega
    clear g4
    go_wp2
    go_ret
    exact ⟨by rw [hb.out]; rfl, HB.out⟩
  have g4' : decide (1 ≤ (ks.length : Int)) = true := by simp; omega
  by_cases g5 : 7 < ks.length
  · have hb : Hid (Nd.ok ⟨lv, ks, vs⟩ = false) := by show _ = _; simp [Nd.ok]; omega
    have g5' : decide ((ks.length : Int) ≤ 7) = false := by simp; omega
    clear g4 g5
    go_wp2
    go_ret
    exact ⟨by rw [hb.out]; rfl, HB.out⟩
  have g5' : decide ((ks.length : Int) ≤ 7) = true := by simp; omega
  have HQ := Lib.hid (HR.out (by show ks.length ≤ 100; omega))
  have hok : Hid (Nd.ok ⟨lv, ks, vs⟩ = Nd.rising ⟨lv, ks, vs⟩) := by
    show _ = _
    have e1 : decide (0 ≤ lv) = true := by simp; omega
    have e2 : decide (lv ≤ 20) = true := by simp; omega
    have e4 : decide (1 ≤ ks.length) = true := by simp; omega
    have e5 : decide (ks.length ≤ 7) = true := by simp; omega
    simp only [Nd.ok, Nd.rising, e1, e2, e4, e5, Bool.true_and, Bool.and_true]
  clear g4 g5 HR
  go_wp2_with fail
  refine HQ.out.mono ?_
  rintro r w1 ⟨rfl, hb1⟩
  have HF : Hid (Below w.heap.size w w1) := HB.out.trans (hb1.mono HB.out.size)
  clear hb1 HQ
  go_wp2
  go_ret
  exact ⟨by rw [hok.out]; rfl, HF.out⟩
end Go.Proofs.YtgbgneiciabidaaGreatDoor
/-
  The document's side of nodes, the second part: Same, at equal nodes.
-/
namespace Go.Proofs.YtgbgneiciabidaaGreatDoor
open Go Go.RowKit
set_option linter.unusedVariables false
set_option linter.unusedSimpArgs false

set_option maxHeartbeats 1000000 in
set_option maxRecDepth 100000 in
theorem ref_Same {w : World} (n : Nd) {kv vv kv2 vv2 : Value} (hk : Rd w kv n.keys) (hv : Rd w vv n.vals) (hk2 : Rd w kv2 n.keys) (hv2 : Rd w vv2 n.vals) (kl : n.keys.length ≤ 1000) (vl : n.vals.length ≤ 1000) :
    Calls Tryz.prog 21 #[n.val kv vv, n.val kv2 vv2] w fun r w' => r = .returned (.bool true) ∧ Below w.heap.size w w' := by
  have hb : Below w.heap.size w ((w.alloc (.cells #[.int .i64 n.level, kv, vv] 24)).alloc (.cells #[.int .i64 n.level, kv2, vv2] 24)) := ((Below.refl _ _).alloc (Nat.le_refl _) _).alloc (by simp) _
  have HB := Lib.hid hb
  have hn1 := World.cell?_alloc_new w #[.int .i64 n.level, kv, vv] 24
  have hn2 := World.cell?_alloc_new (w.alloc (.cells #[.int .i64 n.level, kv, vv] 24)) #[.int .i64 n.level, kv2, vv2] 24
  simp only [World.size_alloc] at hn2
  have p0 : ((w.alloc (.cells #[.int .i64 n.level, kv, vv] 24)).alloc (.cells #[.int .i64 n.level, kv2, vv2] 24)).cell? ⟨w.heap.size, 0, none⟩ = some (.int .i64 n.level) := by rw [World.cell?_alloc_lt _ _ _ (by simp)]; exact hn1 0
  have p1 : ((w.alloc (.cells #[.int .i64 n.level, kv, vv] 24)).alloc (.cells #[.int .i64 n.level, kv2, vv2] 24)).cell? ⟨w.heap.size, 1, none⟩ = some kv := by rw [World.cell?_alloc_lt _ _ _ (by simp)]; exact hn1 1
  have p2 : ((w.alloc (.cells #[.int .i64 n.level, kv, vv] 24)).alloc (.cells #[.int .i64 n.level, kv2, vv2] 24)).cell? ⟨w.heap.size, 2, none⟩ = some vv := by rw [World.cell?_alloc_lt _ _ _ (by simp)]; exact hn1 2
  have q0 : ((w.alloc (.cells #[.int .i64 n.level, kv, vv] 24)).alloc (.cells #[.int .i64 n.level, kv2, vv2] 24)).cell? ⟨w.heap.size + 1, 0, none⟩ = some (.int .i64 n.level) := hn2 0
  have q1 : ((w.alloc (.cells #[.int .i64 n.level, kv, vv] 24)).alloc (.cells #[.int .i64 n.level, kv2, vv2] 24)).cell? ⟨w.heap.size + 1, 1, none⟩ = some kv2 := hn2 1
  have q2 : ((w.alloc (.cells #[.int .i64 n.level, kv, vv] 24)).alloc (.cells #[.int .i64 n.level, kv2, vv2] 24)).cell? ⟨w.heap.size + 1, 2, none⟩ = some vv2 := hn2 2
  obtain ⟨ak, ck, rfl, hrk⟩ := hk.below hb
  obtain ⟨av, cv, rfl, hrv⟩ := hv.below hb
  obtain ⟨ak2, ck2, rfl, hrk2⟩ := hk2.below hb
  obtain ⟨av2, cv2, rfl, hrv2⟩ := hv2.below hb
  have Hrk := Lib.hid hrk
  have Hrv := Lib.hid hrv
  have Hrk2 := Lib.hid hrk2
  have Hrv2 := Lib.hid hrv2
  clear hk hv hk2 hv2 hb hn1 hn2 hrk hrv hrk2 hrv2
  obtain ⟨lv, ks, vs⟩ := n
  simp only [Nd.val] at *
  go_enter Tryz.func21, Tryz.ntmps21
  go_upto_region 1 with fail
  generalize (w.alloc (.cells #[.int .i64 lv, .slice ak ks.length ck, .slice av vs.length cv] 24)).alloc (.cells #[.int .i64 lv, .slice ak2 ks.length ck2, .slice av2 vs.length cv2] 24) = W at *
  generalize hb2 : w.heap.size + 1 = b2 at *
  have lb := World.block_lt_of_cell? _ _ p1
  have lb2 := World.block_lt_of_cell? _ _ q1
  clear hb2
  go_wp2
  go_loopg [5] ks.length (fun gk i wr => ∃ k : Nat, k ≤ ks.length ∧ gk = ks.length - k ∧ i = .int .i64 k ∧ ∃ m, wr = W.drewN m)
  case atStart => exact ⟨0, Nat.zero_le _, rfl, rfl, 0, rfl⟩
  case round =>
    obtain ⟨k, hk, rfl, rfl, m, rfl⟩ := hrel
    by_cases hlt : k < ks.length
    · obtain ⟨g1, o1, rfl, e1⟩ := Hrk.out k hlt
      obtain ⟨g2, o2, rfl, e2⟩ := Hrk2.out k hlt
      have hk1 : (k : Int) < (ks.length : Int) := by omega
      have hk0 : (0 : Int) ≤ k := by omega
      generalize ks[k] = x at *
      have HV : Hid (∀ q, (W.drewN m).drewN q = W.drewN (m + q)) := fun q => World.drewN_drewN _ _ _
      have P1 : (W.drewN m).cell? ⟨w.heap.size, 1, none⟩ = some (.slice (some ⟨g1, o1, none⟩) ks.length ck) := p1
      have Q1 : (W.drewN m).cell? ⟨b2, 1, none⟩ = some (.slice (some ⟨g2, o2, none⟩) ks.length ck2) := q1
      have E1 : (W.drewN m).cell? ⟨g1, o1 + k, none⟩ = some (.int .i64 x) := e1
      have E2 : (W.drewN m).cell? ⟨g2, o2 + k, none⟩ = some (.int .i64 x) := e2
      clear p0 p1 p2 q0 q1 q2 e1 e2 lb lb2
      generalize W.drewN m = V at *
      have l1 := World.block_lt_of_cell? _ _ P1
      have l2 := World.block_lt_of_cell? _ _ Q1
      have l3 := World.block_lt_of_cell? _ _ E1
      have l4 := World.block_lt_of_cell? _ _ E2
      go_wp2_with (go_quiet (fail))
      go_roundg (ks.length - (k + 1))
      case measure => omega
      case rel => exact ⟨k + 1, by omega, rfl, by simp, _, HV.out _⟩
    · obtain rfl : k = ks.length := by omega
      go_wp2
      go_loopg [6] vs.length (fun gk i wr => ∃ k : Nat, k ≤ vs.length ∧ gk = vs.length - k ∧ i = .int .i64 k ∧ ∃ m, wr = W.drewN m)
      case atStart => exact ⟨0, Nat.zero_le _, rfl, rfl, m, rfl⟩
      case round =>
        obtain ⟨k, hk, rfl, rfl, m, rfl⟩ := hrel
        by_cases hlt : k < vs.length
        · obtain ⟨g1, o1, rfl, e1⟩ := Hrv.out k hlt
          obtain ⟨g2, o2, rfl, e2⟩ := Hrv2.out k hlt
          have hk1 : (k : Int) < (vs.length : Int) := by omega
          have hk0 : (0 : Int) ≤ k := by omega
          generalize vs[k] = x at *
          have HV : Hid (∀ q, (W.drewN m).drewN q = W.drewN (m + q)) := fun q => World.drewN_drewN _ _ _
          have P1 : (W.drewN m).cell? ⟨w.heap.size, 2, none⟩ = some (.slice (some ⟨g1, o1, none⟩) vs.length cv) := p2
          have Q1 : (W.drewN m).cell? ⟨b2, 2, none⟩ = some (.slice (some ⟨g2, o2, none⟩) vs.length cv2) := q2
          have E1 : (W.drewN m).cell? ⟨g1, o1 + k, none⟩ = some (.int .i64 x) := e1
          have E2 : (W.drewN m).cell? ⟨g2, o2 + k, none⟩ = some (.int .i64 x) := e2
          clear p0 p1 p2 q0 q1 q2 e1 e2 lb lb2
          generalize W.drewN m = V at *
          have l1 := World.block_lt_of_cell? _ _ P1
          have l2 := World.block_lt_of_cell? _ _ Q1
          have l3 := World.block_lt_of_cell? _ _ E1
          have l4 := World.block_lt_of_cell? _ _ E2
          go_wp2_with (go_quiet (fail))
          go_roundg (vs.length - (k + 1))
          case measure => omega
          case rel => exact ⟨k + 1, by omega, rfl, by simp, _, HV.out _⟩
        · obtain rfl : k = vs.length := by omega
          have HBd : Hid (Below w.heap.size w (W.drewN m)) := HB.out.trans ⟨rfl, rfl, rfl, Nat.le_refl _, fun _ _ => rfl⟩
          go_wp2
          go_ret
          exact ⟨rfl, HBd.out⟩
end Go.Proofs.YtgbgneiciabidaaGreatDoor
