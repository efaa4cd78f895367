/-
  Trees (layer 12): items from a key on (walk), at a leaf.
-/
import Derived.Test.YtgbgneiciabidaaGreatDoorGo41
namespace Go.Proofs.YtgbgneiciabidaaGreatDoor
open Go Go.RowKit
set_option linter.all false

def items1V (ob lb : Nat) : Value := .func (.func 103) #[] #[.pointer (some ⟨ob, 0, none⟩), .pointer (some ⟨lb, 0, none⟩)]
def WalkPost (ob lb p bank sp N : Nat) (es : List Ent) (Q : Pgs) (lim : Int) (acc T : List KV) (l : List Say) (w : World) (r : Ending) (w' : World) : Prop :=
  Kept w w' ∧ r = .returned (.bool (feed lim acc T).2) ∧ ∃ ov, Has w' (btS p bank sp N es Q :: wkL ob lb ov (feed lim acc T).1 lim l)
def WalkC (lv : Nat) : Prop := ∀ {w : World} {l : List Say} {ob lb p bank sp N : Nat} {es : List Ent} {Q : Pgs} {ov : Value} {acc : List KV} {lim : Int} (addr fr : Int) {L : List KV} {s : Nat},
  Has w (btS p bank sp N es Q :: wkL ob lb ov acc lim l) → Tr Q lv addr L s → Srt L → acc.length + L.length ≤ 100000 →
  Calls Tryz.prog 102 #[.pointer (some ⟨p, 0, none⟩), .int .i64 addr, .int .i64 fr, items1V ob lb] w (WalkPost ob lb p bank sp N es Q lim acc (fromL fr L) l w)
def WkM (w : World) (ob lb p bank sp N : Nat) (es : List Ent) (Q : Pgs) (lim fr : Int) (acc L : List KV) (l : List Say) (wr : World) : Prop :=
  ∃ ov, Kept w wr ∧ (feed lim acc (fromL fr L)).2 = true ∧ Has wr (btS p bank sp N es Q :: wkL ob lb ov (feed lim acc (fromL fr L)).1 lim l)
set_option maxHeartbeats 8000000 in
set_option maxRecDepth 100000 in
theorem walk0 : WalkC 0 := by
  intro w l ob lb p bank sp N es Q ov acc lim addr fr L s h hT hs hlen
  obtain ⟨hI, _⟩ := h.bt_inv
  obtain ⟨g, hg, hlv, rfl, rfl⟩ := hT
  obtain ⟨ok, _, _⟩ := hI.pg addr g hg
  have hbd := (hI.adr addr (by rw [hg]; rfl)).bd
  obtain ⟨o0, o1, o2, o3, o4⟩ := ok_lens ok
  have hpn := ok_pairs ok
  have HG := Lib.hid (bt_Get h addr (by omega) (by omega))
  have Hg := Lib.hid hg
  have HX := Lib.hid (And.intro hlen (And.intro hpn (And.intro o2 (And.intro o3 o4))))
  have hcall : ∀ (vs : Array Value) (w : World), (callFunc 103 vs).run Tryz.prog w = .ok (.enter 103 vs) w := fun vs w => may_items1.run vs w
  clear h hg hI hs hlen ok hbd o0 o1 o2 o3 o4 hpn
  obtain ⟨⟨lvI, keys, vals⟩, ho, he⟩ := g
  have hlv : lvI = 0 := hlv
  subst hlv
  unfold items1V
  go_enter Tryz.func102, Tryz.ntmps102
  go_wp2_with fail
  refine HG.out.mono ?_
  rintro r w1 ⟨hK1, (⟨h1, _⟩ | ⟨g', ak, ck, av, cv, h1, rfl, h3⟩)⟩
  · rw [Hg.out] at h1; cases h1
  rw [Hg.out] at h1
  obtain rfl := Option.some.inj h1
  clear h1 HG
  simp only [Nd.val]
  have hx := HX.out
  obtain ⟨hlen, hpn, o2, o3, o4⟩ := hx
  try simp only at o2 o3 o4
  obtain ⟨ka, kc, e1, _, hrk⟩ := h3.ints_read (v := .slice ak keys.length ck) (xs := keys) (by simp)
  injection e1 with e1 e2 e3
  subst e1
  clear e2 e3
  obtain ⟨gk, rfl, kc0, _⟩ := hrk 0 (by omega)
  obtain ⟨va, vc, e1, _, hrv⟩ := h3.ints_read (v := .slice av vals.length cv) (xs := vals) (by simp)
  injection e1 with e1 e2 e3
  subst e1
  clear e2 e3
  obtain ⟨gv, rfl, vc0, _⟩ := hrv 0 (by omega)
  clear hrk hrv kc0 vc0
  have h4 := h3.alloc (.cells #[.int .i64 0, .slice (some ⟨gk, 0, none⟩) keys.length ck, .slice (some ⟨gv, 0, none⟩) vals.length cv] 35)
  have hk4 := hK1.alloc (.cells #[.int .i64 0, .slice (some ⟨gk, 0, none⟩) keys.length ck, .slice (some ⟨gv, 0, none⟩) vals.length cv] 35)
  have hM : WkM w ob lb p bank sp N es Q lim fr acc ((⟨0, keys, vals⟩ : Nd).pairs.take 0) (pts w1.heap.size (.cells #[.int .i64 0, .slice (some ⟨gk, 0, none⟩) keys.length ck, .slice (some ⟨gv, 0, none⟩) vals.length cv] 35 (0, 0)) :: intsS (.slice (some ⟨gk, 0, none⟩) keys.length ck) keys :: intsS (.slice (some ⟨gv, 0, none⟩) vals.length cv) vals :: l) (w1.alloc (.cells #[.int .i64 0, .slice (some ⟨gk, 0, none⟩) keys.length ck, .slice (some ⟨gv, 0, none⟩) vals.length cv] 35)) :=
    ⟨ov, hk4, rfl, h4.reord [3, 3, 3, 3]⟩
  have HM := Lib.hid hM
  clear h3 h4 hK1 hk4 hM hlen hpn
  obtain ⟨n, hn⟩ : ∃ n, keys.length = n := ⟨_, rfl⟩
  have hvn : vals.length = n := by omega
  have Hn := Lib.hid (And.intro hn hvn)
  have hn7 : n ≤ 7 := by omega
  have n0 : (w1.alloc (.cells #[.int .i64 0, .slice (some ⟨gk, 0, none⟩) n ck, .slice (some ⟨gv, 0, none⟩) n cv] 35)).cell? ⟨w1.heap.size, 1, none⟩ = some (.slice (some ⟨gk, 0, none⟩) n ck) := by simp [World.cell?_alloc_new]
  rw [hn, hvn] at HM ⊢
  clear hn hvn o2 o3 o4
  go_wp2
  generalize w1.alloc (.cells #[.int .i64 0, .slice (some ⟨gk, 0, none⟩) n ck, .slice (some ⟨gv, 0, none⟩) n cv] 35) = W2 at *
  generalize w1.heap.size = r9 at *
  obtain ⟨M, hMl⟩ : ∃ M, (pts r9 (.cells #[.int .i64 0, .slice (some ⟨gk, 0, none⟩) n ck, .slice (some ⟨gv, 0, none⟩) n cv] 35 (0, 0)) :: intsS (.slice (some ⟨gk, 0, none⟩) n ck) keys :: intsS (.slice (some ⟨gv, 0, none⟩) n cv) vals :: l) = M := ⟨_, rfl⟩
  rw [hMl] at HM
  have HMl := Lib.hid hMl
  obtain ⟨ps, hps⟩ : ∃ ps, (⟨0, keys, vals⟩ : Nd).pairs = ps := ⟨_, rfl⟩
  have Hps := Lib.hid hps
  have HPS : Hid (WalkPost ob lb p bank sp N es Q lim acc (fromL fr (⟨0, keys, vals⟩ : Nd).pairs) l w = WalkPost ob lb p bank sp N es Q lim acc (fromL fr ps) l w) := by show _ = _; rw [hps]
  rw [hps] at HM
  simp only [HPS.out] at *
  clear hMl hps n0 HPS
  go_loopg [24] n (fun gk' i wr => ∃ k : Nat, k ≤ n ∧ gk' = n - k ∧ i = .int .i64 k ∧ Hid (WkM w ob lb p bank sp N es Q lim fr acc (ps.take k) M wr))
  case atStart => exact ⟨0, Nat.zero_le _, rfl, rfl, HM⟩
  case round =>
    clear HM
    obtain ⟨k, hk, rfl, rfl, HM⟩ := hrel
    obtain ⟨ov', hK, hf, hh⟩ := HM.out
    clear HM
    by_cases hlt : k < n
    · have hMm : ∀ A, A ∈ M → A ∈ btS p bank sp N es Q :: wkL ob lb ov' (feed lim acc (fromL fr (ps.take k))).1 lim M := fun A hA => by unfold wkL; exact .tail _ (.tail _ (.tail _ (.tail _ hA)))
      have hg9 := hh.at (b := r9) (o := .cells #[.int .i64 0, .slice (some ⟨gk, 0, none⟩) n ck, .slice (some ⟨gv, 0, none⟩) n cv] 35 (0, 0)) (hMm _ (by rw [← HMl.out]; simp))
      have m0 : wr.cell? ⟨r9, 0, none⟩ = some (.int .i64 0) := cell_of hg9 0 rfl
      have m2 : wr.cell? ⟨r9, 2, none⟩ = some (.slice (some ⟨gv, 0, none⟩) n cv) := cell_of hg9 2 rfl
      have l9 := World.block_lt_of_cell? _ _ m0
      obtain ⟨ka, kc', e1, _, hrk⟩ := hh.ints_read (v := .slice (some ⟨gk, 0, none⟩) n ck) (xs := keys) (hMm _ (by rw [← HMl.out]; simp))
      injection e1 with e1 e2 e3
      subst e1
      clear e2 e3
      obtain ⟨g1, eg, kc, _⟩ := hrk k (by have := Hn.out.1; omega)
      injection eg with eg
      injection eg with eg _ _
      subst eg
      obtain ⟨va, vc', e1, _, hrv⟩ := hh.ints_read (v := .slice (some ⟨gv, 0, none⟩) n cv) (xs := vals) (hMm _ (by rw [← HMl.out]; simp))
      injection e1 with e1 e2 e3
      subst e1
      clear e2 e3
      obtain ⟨g2, eg, vc, _⟩ := hrv k (by have := Hn.out.2; omega)
      injection eg with eg
      injection eg with eg _ _
      subst eg
      have lgk := World.block_lt_of_cell? _ _ kc
      have lgv := World.block_lt_of_cell? _ _ vc
      have hpk : ps[k]? = some (keys[k]'(by have := Hn.out.1; omega), vals[k]'(by have := Hn.out.2; omega)) := by
        rw [← Hps.out]
        unfold Nd.pairs
        rw [List.getElem?_zip_eq_some]
        exact ⟨List.getElem?_eq_getElem _, List.getElem?_eq_getElem _⟩
      generalize keys[k]'(by have := Hn.out.1; omega) = kk at *
      generalize vals[k]'(by have := Hn.out.2; omega) = vv at *
      have hln : (feed lim acc (fromL fr (ps.take k))).1.length ≤ 100000 := by
        have q1 := feed_len lim acc (fromL fr (ps.take k))
        have q2 := fromL_len fr (ps.take k)
        have q3 : (ps.take k).length ≤ ps.length := by rw [List.length_take]; omega
        have q4 := HX.out.1
        rw [Hps.out] at q4
        omega
      have h5 : Has wr (wkL ob lb ov' (feed lim acc (fromL fr (ps.take k))).1 lim (btS p bank sp N es Q :: M)) := hh.reord [1, 1, 1]
      obtain ⟨t1, t2⟩ := take_succ hpk
      have hfeed : ∀ T, feed lim acc (fromL fr (ps.take k ++ T)) = feed lim (feed lim acc (fromL fr (ps.take k))).1 (fromL fr T) := fun T => by rw [fromL_app, feed_app, if_pos hf]
      have Hfd := Lib.hid hfeed
      have HT := Lib.hid (And.intro t1 t2)
      have HK := Lib.hid hK
      have Hh := Lib.hid (And.intro hf hh)
      have Hh0 := Lib.hid (And.intro hf hh)
      have HIt := Lib.hid (items1 lim kk vv h5 hln)
      obtain ⟨aI, haI⟩ : ∃ aI, (feed lim acc (fromL fr (ps.take k))).1 = aI := ⟨_, rfl⟩
      rw [haI] at HIt Hfd Hh
      have kI : (k : Int) < (n : Int) := by omega
      have k0 : (0 : Int) ≤ k := by omega
      have n7I : (n : Int) ≤ 7 := by omega
      clear hh h5 hfeed t1 t2 hK hf hln hpk hrk hrv hg9 hMm haI
      by_cases hfr : fr ≤ kk
      · go_wp2_with fail
        refine HIt.out.mono ?_
        rintro r w3 ⟨hK3, rfl, ov3, h6⟩
        have h7 : Has w3 (btS p bank sp N es Q :: wkL ob lb ov3 (aI ++ [(kk, vv)]) lim M) := Has.reord [3] h6
        by_cases hb : (aI.length : Int) + 1 = lim
        · have hbb : (!((aI.length : Int) + 1 == lim)) = false := by simp [hb]
          rw [hbb]
          have HF : Hid (WalkPost ob lb p bank sp N es Q lim acc (fromL fr ps) l w (.returned (.bool false)) w3) := by
            have e1 : feed lim acc (fromL fr ps) = (aI ++ [(kk, vv)], false) := by
              conv => lhs; rw [HT.out.2]
              rw [Hfd.out, fromL_one, if_pos hfr, feed_cons, if_pos hb]
            rw [← HMl.out] at h7
            refine ⟨HK.out.trans hK3, by rw [e1], ov3, ?_⟩
            rw [e1]
            exact Has.skip4 (M := [_, _, _]) h7
          clear HIt Hh Hh0 HT Hfd h6 h7 hbb hK3 HK
          go_wp2
          go_ret
          exact HF.out
        · have hbb : (!((aI.length : Int) + 1 == lim)) = true := by simp [hb]
          rw [hbb]
          have HM2 : Hid (WkM w ob lb p bank sp N es Q lim fr acc (ps.take (k + 1)) M w3) := by
            have e1 : feed lim acc (fromL fr (ps.take (k + 1))) = (aI ++ [(kk, vv)], true) := by
              rw [HT.out.1, Hfd.out, fromL_one, if_pos hfr, feed_cons, if_neg hb]
              rfl
            exact ⟨ov3, HK.out.trans hK3, by rw [e1], by rw [e1]; exact h7⟩
          clear HIt Hh Hh0 HT Hfd h6 h7 hbb hK3 HK hb
          go_wp2
          go_roundg (n - (k + 1))
          case measure => omega
          case rel => exact ⟨k + 1, by omega, rfl, by go_num, HM2⟩
      · have hfr2 : kk < fr := by omega
        have HM2 : Hid (WkM w ob lb p bank sp N es Q lim fr acc (ps.take (k + 1)) M wr) := by
          have e1 : fromL fr (ps.take (k + 1)) = fromL fr (ps.take k) := by
            rw [HT.out.1, fromL_app, fromL_one, if_neg hfr]
            exact List.append_nil _
          exact ⟨ov', HK.out, by rw [e1]; exact Hh0.out.1, by rw [e1]; exact Hh0.out.2⟩
        clear HIt Hh Hh0 HT Hfd HK hfr
        go_wp2
        go_roundg (n - (k + 1))
        case measure => omega
        case rel => exact ⟨k + 1, by omega, rfl, by go_num, HM2⟩
    · have hke : k = n := by omega
      subst hke
      have htk : ps.take k = ps := List.take_of_length_le (by
        have q1 := HX.out.2.1.2.2
        rw [Hps.out] at q1
        have q2 := Hn.out.1
        have q3 : ps.length = keys.length := q1
        omega)
      rw [htk] at hf hh
      have HF : Hid (WalkPost ob lb p bank sp N es Q lim acc (fromL fr ps) l w (.returned (.bool true)) wr) := by
        rw [← HMl.out] at hh
        exact ⟨hK, by rw [hf], ov', Has.skip4 (M := [_, _, _]) hh⟩
      clear hh hK hf htk HX
      go_wp2
      go_ret
      exact HF.out
end Go.Proofs.YtgbgneiciabidaaGreatDoor
/-
  Trees (layer 12): items from a key on (walk), at any height.
-/
namespace Go.Proofs.YtgbgneiciabidaaGreatDoor
open Go Go.RowKit
set_option linter.all false

def WkS (lv : Nat) (ps : List KV) (k : Nat) (w : World) (ob lb p bank sp N : Nat) (es : List Ent) (Q : Pgs) (lim fr : Int) (acc L : List KV) (l : List Say) (wr : World) : Prop :=
  ∃ LA LB sA sB, TrL Q lv (ps.take k) LA sA ∧ TrL Q lv (ps.drop k) LB sB ∧ L = LA ++ LB ∧ WkM w ob lb p bank sp N es Q lim fr acc LA l wr
set_option maxHeartbeats 8000000 in
set_option maxRecDepth 100000 in
theorem walkS (lv : Nat) (ih : WalkC lv) : WalkC (lv + 1) := by
  intro w l ob lb p bank sp N es Q ov acc lim addr fr L s h hT hs hlen
  obtain ⟨hI, _⟩ := h.bt_inv
  obtain ⟨g, S, hg, hlv, hR, hsw⟩ := hT
  clear hsw
  obtain ⟨ok, _, _⟩ := hI.pg addr g hg
  have hbd := (hI.adr addr (by rw [hg]; rfl)).bd
  obtain ⟨o0, o1, o2, o3, o4⟩ := ok_lens ok
  have hpn := ok_pairs ok
  have HG := Lib.hid (bt_Get h addr (by omega) (by omega))
  have Hg := Lib.hid hg
  have HX := Lib.hid (And.intro hlen (And.intro hpn (And.intro o2 (And.intro o3 o4))))
  have HR := Lib.hid (And.intro hR hs)
  have Ih : Hid (WalkC lv) := ih
  clear h hg hI hs hlen ok hbd o0 o1 o2 o3 o4 hpn hR ih
  obtain ⟨⟨lvI, keys, vals⟩, ho, he⟩ := g
  have hlvp : 0 < lvI := by have : lvI = ((lv + 1 : Nat) : Int) := hlv; omega
  clear hlv
  unfold items1V
  go_enter Tryz.func102, Tryz.ntmps102
  go_wp2_with fail
  refine HG.out.mono ?_
  rintro r w1 ⟨hK1, (⟨h1, _⟩ | ⟨g', ak, ck, av, cv, h1, rfl, h3⟩)⟩
  · rw [Hg.out] at h1; cases h1
  rw [Hg.out] at h1
  obtain rfl := Option.some.inj h1
  clear h1 HG
  simp only [Nd.val]
  have hx := HX.out
  obtain ⟨hlen, hpn, o2, o3, o4⟩ := hx
  try simp only at o2 o3 o4
  obtain ⟨ka, kc, e1, _, hrk⟩ := h3.ints_read (v := .slice ak keys.length ck) (xs := keys) (by simp)
  injection e1 with e1 e2 e3
  subst e1
  clear e2 e3
  obtain ⟨gk, rfl, kc0, _⟩ := hrk 0 (by omega)
  obtain ⟨va, vc, e1, _, hrv⟩ := h3.ints_read (v := .slice av vals.length cv) (xs := vals) (by simp)
  injection e1 with e1 e2 e3
  subst e1
  clear e2 e3
  obtain ⟨gv, rfl, vc0, _⟩ := hrv 0 (by omega)
  clear hrk hrv kc0 vc0
  have h4 := h3.alloc (.cells #[.int .i64 lvI, .slice (some ⟨gk, 0, none⟩) keys.length ck, .slice (some ⟨gv, 0, none⟩) vals.length cv] 35)
  have hk4 := hK1.alloc (.cells #[.int .i64 lvI, .slice (some ⟨gk, 0, none⟩) keys.length ck, .slice (some ⟨gv, 0, none⟩) vals.length cv] 35)
  have hM : WkS lv (⟨lvI, keys, vals⟩ : Nd).pairs 0 w ob lb p bank sp N es Q lim fr acc L (pts w1.heap.size (.cells #[.int .i64 lvI, .slice (some ⟨gk, 0, none⟩) keys.length ck, .slice (some ⟨gv, 0, none⟩) vals.length cv] 35 (0, 0)) :: intsS (.slice (some ⟨gk, 0, none⟩) keys.length ck) keys :: intsS (.slice (some ⟨gv, 0, none⟩) vals.length cv) vals :: l) (w1.alloc (.cells #[.int .i64 lvI, .slice (some ⟨gk, 0, none⟩) keys.length ck, .slice (some ⟨gv, 0, none⟩) vals.length cv] 35)) :=
    ⟨[], L, 0, S, .nil, HR.out.1, rfl, ov, hk4, rfl, h4.reord [3, 3, 3, 3]⟩
  have HM := Lib.hid hM
  clear h3 h4 hK1 hk4 hM hlen hpn
  obtain ⟨n, hn⟩ : ∃ n, keys.length = n := ⟨_, rfl⟩
  have hvn : vals.length = n := by omega
  have Hn := Lib.hid (And.intro hn hvn)
  have hn7 : n ≤ 7 := by omega
  have n0 : (w1.alloc (.cells #[.int .i64 lvI, .slice (some ⟨gk, 0, none⟩) n ck, .slice (some ⟨gv, 0, none⟩) n cv] 35)).cell? ⟨w1.heap.size, 1, none⟩ = some (.slice (some ⟨gk, 0, none⟩) n ck) := by simp [World.cell?_alloc_new]
  rw [hn, hvn] at HM ⊢
  clear hn hvn o2 o3 o4
  go_wp2
  generalize w1.alloc (.cells #[.int .i64 lvI, .slice (some ⟨gk, 0, none⟩) n ck, .slice (some ⟨gv, 0, none⟩) n cv] 35) = W2 at *
  generalize w1.heap.size = r9 at *
  obtain ⟨M, hMl⟩ : ∃ M, (pts r9 (.cells #[.int .i64 lvI, .slice (some ⟨gk, 0, none⟩) n ck, .slice (some ⟨gv, 0, none⟩) n cv] 35 (0, 0)) :: intsS (.slice (some ⟨gk, 0, none⟩) n ck) keys :: intsS (.slice (some ⟨gv, 0, none⟩) n cv) vals :: l) = M := ⟨_, rfl⟩
  rw [hMl] at HM
  have HMl := Lib.hid hMl
  obtain ⟨ps, hps⟩ : ∃ ps, (⟨lvI, keys, vals⟩ : Nd).pairs = ps := ⟨_, rfl⟩
  have Hps := Lib.hid hps
  rw [hps] at HM
  have HpsL : Hid (ps.length = n) := by
    have q1 := HX.out.2.1.2.2
    rw [hps] at q1
    have q2 := Hn.out.1
    have q3 : ps.length = keys.length := q1
    show _ = _
    omega
  clear hMl hps n0
  go_loopg [24] n (fun gk' i wr => ∃ k : Nat, k ≤ n ∧ gk' = n - k ∧ i = .int .i64 k ∧ Hid (WkS lv ps k w ob lb p bank sp N es Q lim fr acc L M wr))
  case atStart => exact ⟨0, Nat.zero_le _, rfl, rfl, HM⟩
  case round =>
    clear HM
    obtain ⟨k, hk, rfl, rfl, HM⟩ := hrel
    obtain ⟨LA, LB, sA, sB, hA, hB, hL, ov', hK, hf, hh⟩ := HM.out
    clear HM
    by_cases hlt : k < n
    · have hMm : ∀ A, A ∈ M → A ∈ btS p bank sp N es Q :: wkL ob lb ov' (feed lim acc (fromL fr LA)).1 lim M := fun A hA => by unfold wkL; exact .tail _ (.tail _ (.tail _ (.tail _ hA)))
      have hg9 := hh.at (b := r9) (o := .cells #[.int .i64 lvI, .slice (some ⟨gk, 0, none⟩) n ck, .slice (some ⟨gv, 0, none⟩) n cv] 35 (0, 0)) (hMm _ (by rw [← HMl.out]; simp))
      have m0 : wr.cell? ⟨r9, 0, none⟩ = some (.int .i64 lvI) := cell_of hg9 0 rfl
      have m2 : wr.cell? ⟨r9, 2, none⟩ = some (.slice (some ⟨gv, 0, none⟩) n cv) := cell_of hg9 2 rfl
      have l9 := World.block_lt_of_cell? _ _ m0
      obtain ⟨ka, kc', e1, _, hrk⟩ := hh.ints_read (v := .slice (some ⟨gk, 0, none⟩) n ck) (xs := keys) (hMm _ (by rw [← HMl.out]; simp))
      injection e1 with e1 e2 e3
      subst e1
      clear e2 e3
      obtain ⟨g1, eg, kc, _⟩ := hrk k (by have := Hn.out.1; omega)
      injection eg with eg
      injection eg with eg _ _
      subst eg
      obtain ⟨va, vc', e1, _, hrv⟩ := hh.ints_read (v := .slice (some ⟨gv, 0, none⟩) n cv) (xs := vals) (hMm _ (by rw [← HMl.out]; simp))
      injection e1 with e1 e2 e3
      subst e1
      clear e2 e3
      obtain ⟨g2, eg, vc, _⟩ := hrv k (by have := Hn.out.2; omega)
      injection eg with eg
      injection eg with eg _ _
      subst eg
      have lgk := World.block_lt_of_cell? _ _ kc
      have lgv := World.block_lt_of_cell? _ _ vc
      have hpk : ps[k]? = some (keys[k]'(by have := Hn.out.1; omega), vals[k]'(by have := Hn.out.2; omega)) := by
        rw [← Hps.out]
        unfold Nd.pairs
        rw [List.getElem?_zip_eq_some]
        exact ⟨List.getElem?_eq_getElem _, List.getElem?_eq_getElem _⟩
      obtain ⟨k1, hk1⟩ : ∃ k1, k1 = k + 1 := ⟨_, rfl⟩
      have hpk1 : ∀ kn, keys[k1]? = some kn → ∃ vn, ps[k1]? = some (kn, vn) := fun kn h => by
        obtain ⟨hlt1, e⟩ := List.getElem?_eq_some_iff.1 h
        refine ⟨vals[k1]'(by have := Hn.out.1; have := Hn.out.2; omega), ?_⟩
        rw [← Hps.out]
        unfold Nd.pairs
        rw [List.getElem?_zip_eq_some]
        exact ⟨h, List.getElem?_eq_getElem _⟩
      obtain ⟨LM, sM, LC, sC, q1, q2, q3, q4, q5, q6⟩ := TrG.next hpk hA hB hL HR.out.2
      generalize keys[k]'(by have := Hn.out.1; omega) = kk at *
      generalize vals[k]'(by have := Hn.out.2; omega) = vv at *
      have hLL : L = (LA ++ LM) ++ LC := by rw [hL, q3, List.append_assoc]
      have hln : (feed lim acc (fromL fr LA)).1.length + LM.length ≤ 100000 := by
        have q1 := feed_len lim acc (fromL fr LA)
        have q2 := fromL_len fr LA
        have q4 := HX.out.1
        rw [hLL, List.length_append, List.length_append] at q4
        omega
      have hfeed : ∀ T, feed lim acc (fromL fr (LA ++ T)) = feed lim (feed lim acc (fromL fr LA)).1 (fromL fr T) := fun T => by rw [fromL_app, feed_app, if_pos hf]
      have Hfd := Lib.hid hfeed
      have HT := Lib.hid (And.intro q4 (And.intro q5 hLL))
      have HK := Lib.hid hK
      have Hh := Lib.hid (And.intro hf hh)
      have HIh := Lib.hid (Ih.out vv fr hh q1 q2 hln)
      have Hq6 := Lib.hid q6
      have kI : (k : Int) < (n : Int) := by omega
      have k0 : (0 : Int) ≤ k := by omega
      have n7I : (n : Int) ≤ 7 := by omega
      have m1 : wr.cell? ⟨r9, 1, none⟩ = some (.slice (some ⟨gk, 0, none⟩) n ck) := cell_of hg9 1 rfl
      have hkI : (k : Int) + 1 = (k1 : Int) := by omega
      have Hk1 := Lib.hid hk1
      have kc1 : ∀ kn, keys[k1]? = some kn → wr.cell? ⟨gk, k1, none⟩ = some (.int .i64 kn) := fun kn h => by
        obtain ⟨hlt1, e⟩ := List.getElem?_eq_some_iff.1 h
        obtain ⟨g3, eg, kcc, _⟩ := hrk k1 hlt1
        injection eg with eg
        injection eg with eg _ _
        subst eg
        rw [e] at kcc
        exact kcc
      have Hskip : Hid (∀ kn, keys[k1]? = some kn → kn ≤ fr → WkS lv ps k1 w ob lb p bank sp N es Q lim fr acc L M wr) := fun kn h hle => by
        obtain ⟨vn, hpn1⟩ := hpk1 kn h
        have e1 : fromL fr LM = [] := fromL_none fun x hx => by
          have := q6 _ (by rw [← hk1]; exact hpn1) x hx
          simp only at this
          omega
        have e2 : fromL fr (LA ++ LM) = fromL fr LA := by rw [fromL_app, e1, List.append_nil]
        rw [hk1]
        exact ⟨LA ++ LM, LC, _, _, q4, q5, hLL, ov', hK, by rw [e2]; exact hf, by rw [e2]; exact hh⟩
      have Hgo : Hid (∀ r w3, WalkPost ob lb p bank sp N es Q lim (feed lim acc (fromL fr LA)).1 (fromL fr LM) M wr r w3 → (∃ b, r = .returned (.bool b)) ∧ (r = .returned (.bool true) → WkS lv ps k1 w ob lb p bank sp N es Q lim fr acc L M w3) ∧ (r = .returned (.bool false) → WalkPost ob lb p bank sp N es Q lim acc (fromL fr L) l w (.returned (.bool false)) w3)) := by
        rintro r w3 ⟨hK3, rfl, ov3, h6⟩
        refine ⟨⟨_, rfl⟩, fun he => ?_, fun he => ?_⟩
        · injection he with he
          injection he with he
          rw [hk1]
          exact ⟨LA ++ LM, LC, _, _, q4, q5, hLL, ov3, hK.trans hK3, by rw [hfeed]; exact he, by rw [hfeed]; exact h6⟩
        · injection he with he
          injection he with he
          have e1 : feed lim acc (fromL fr L) = feed lim (feed lim acc (fromL fr LA)).1 (fromL fr LM) := by
            rw [hLL, List.append_assoc, hfeed, fromL_app, feed_app, if_neg (by rw [he]; decide)]
          rw [← HMl.out] at h6
          refine ⟨hK.trans hK3, by rw [e1, he], ov3, ?_⟩
          rw [e1]
          exact Has.skip4 (M := [_, _, _]) h6
      unfold items1V at HIh
      generalize (feed lim acc (fromL fr LA)).1 = aI at *
      clear hh hfeed hK hf hln hpk hrk hrv hg9 hMm hpk1 q1 q2 q3 q4 q5 q6 hLL hA hB hL hk1 Hfd HT Hh Hq6
      by_cases hl1 : k1 < n
      · obtain ⟨kn, hkn⟩ : ∃ kn, keys[k1]? = some kn := ⟨_, List.getElem?_eq_getElem (by have := Hn.out.1; omega)⟩
        have kc1 := kc1 kn hkn
        have Hskip := Hskip.out kn hkn
        have k1I : (k1 : Int) < (n : Int) := by omega
        clear hkn
        by_cases hle : kn ≤ fr
        · have HM2 := Lib.hid (Hskip hle)
          clear HIh Hgo HK Hskip
          go_wp2
          go_roundg (n - k1)
          case measure => have := Hk1.out; omega
          case rel => exact ⟨k1, by omega, rfl, rfl, HM2⟩
        · have hle2 : fr < kn := by omega
          clear Hskip hle
          go_wp2_with fail
          refine HIh.out.mono ?_
          rintro r w3 hpost
          obtain ⟨⟨b, rfl⟩, g1, g2⟩ := Hgo.out r w3 hpost
          cases b with
          | false =>
            have HF := Lib.hid (g2 rfl)
            clear g1 g2 hpost HIh Hgo HK
            go_wp2
            go_ret
            exact HF.out
          | true =>
            have HM2 := Lib.hid (g1 rfl)
            clear g1 g2 hpost HIh Hgo HK
            go_wp2
            go_roundg (n - k1)
            case measure => have := Hk1.out; omega
            case rel => exact ⟨k1, by omega, rfl, rfl, HM2⟩
      · have k1I : ¬ (k1 : Int) < (n : Int) := by omega
        clear kc1 Hskip
        go_wp2_with fail
        refine HIh.out.mono ?_
        rintro r w3 hpost
        obtain ⟨⟨b, rfl⟩, g1, g2⟩ := Hgo.out r w3 hpost
        cases b with
        | false =>
          have HF := Lib.hid (g2 rfl)
          clear g1 g2 hpost HIh Hgo HK
          go_wp2
          go_ret
          exact HF.out
        | true =>
          have HM2 := Lib.hid (g1 rfl)
          clear g1 g2 hpost HIh Hgo HK
          go_wp2
          go_roundg (n - k1)
          case measure => have := Hk1.out; omega
          case rel => exact ⟨k1, by have := Hk1.out; omega, rfl, rfl, HM2⟩
    · have hke : k = n := by omega
      have hdn : ps.drop k = [] := List.drop_eq_nil_of_le (by have := HpsL.out; omega)
      rw [hdn] at hB
      cases hB
      have hLe : L = LA := by rw [hL, List.append_nil]
      have HF : Hid (WalkPost ob lb p bank sp N es Q lim acc (fromL fr L) l w (.returned (.bool true)) wr) := by
        rw [hLe]
        rw [← HMl.out] at hh
        exact ⟨hK, by rw [hf], ov', Has.skip4 (M := [_, _, _]) hh⟩
      clear hh hK hf hA hdn hL hLe HX HR
      subst hke
      go_wp2
      go_ret
      exact HF.out
theorem bt_walk : ∀ lv, WalkC lv
  | 0 => walk0
  | lv + 1 => walkS lv (bt_walk lv)
end Go.Proofs.YtgbgneiciabidaaGreatDoor
