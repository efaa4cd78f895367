/-
  BtreeFinds: the walk.
-/
import Derived.Test.YtgbgneiciabidaaGreatDoorGq1
namespace Go.Proofs.YtgbgneiciabidaaGreatDoor
open Go Go.RowKit
set_option linter.all false

theorem bt_Pages {w : World} {l : List Say} {p bank sp N : Nat} {es : List Ent} {Q : Pgs} (h : Has w (btS p bank sp N es Q :: l)) (hn : Q.length ≤ 100000) :
    Calls Tryz.prog 25 #[.pointer (some ⟨p, 0, none⟩)] w (PagesPost Q (btS p bank sp N es Q :: l) w) := by
  obtain ⟨disks, X, hI, hR, hH, hh⟩ := h.bt_open
  refine (st_Pages hh hn).mono ?_
  rintro r w' ⟨v, rfl, hK, h1⟩
  have h2 : Has w' (trio p bank sp N Q disks X (intsS v (Q.map (·.1)) :: l)) := h1.reord [1, 1, 1]
  exact ⟨v, rfl, hK, (Has.bt_shut hI hR hH h2).swap⟩
/-- The trees stand as they stood. -/
def FiM (w : World) (l : List Say) (t sp p bank N : Nat) (Q : Pgs) (ts : List Tre) (vs : List Value) (rs : List (Value × List KV)) (L : List KV) (lv : Value) (wr : World) : Prop :=
  Kept w wr ∧ Has wr (pairsS lv L :: treesT t sp p (ts.map (·.a)) vs :: btS p bank sp N (eSizes [400, 400]) Q :: (rs.map kvR ++ l))
set_option maxHeartbeats 8000000 in
set_option maxRecDepth 100000 in
theorem law_finds {w : World} {l : List Say} (os : List O4) (ks : List Int) {sv kv : Value} (h : Has w l) (ht : Tab l) (hs : O4Srcs l sv os) (hk : Srcs l kv ks) :
    Calls Tryz.prog 9 #[sv, kv] w (fun r w' => r = .returned (.bool true) ∧ Kept w w' ∧ Has w' l) := by
  obtain ⟨sa, sc, rfl, _⟩ := hs w h
  obtain ⟨ka, kc, rfl, _⟩ := (hk w h).rd
  have h1 := (h.alloc (.cells #[.int .i64 400, .int .i64 400] 3)).row_of_pts (n := 2) (xs := [.int .i64 400, .int .i64 400]) (size := 1) (by simp) (Nat.le_refl _) (by simp [maxLen]) (by simp) (by simp)
  have h2 : Has (w.alloc (.cells #[.int .i64 400, .int .i64 400] 3)) (intsS (.slice (some ⟨w.heap.size, 0, none⟩) 2 2) [400, 400] :: l) := h1
  have HM := Lib.hid (made12 [400, 400] h2 (Srcs.of_ints (.head _)) (by decide))
  have HK := Lib.hid ((Kept.refl w).alloc (.cells #[.int .i64 400, .int .i64 400] 3))
  have Ht := Lib.hid ht
  have Hs := Lib.hid hs
  have Hk := Lib.hid hk
  clear h h1 h2 ht hs hk
  go_enter Tryz.func9, Tryz.ntmps9
  go_wp2_with fail
  refine HM.out.mono ?_
  rintro r w1 ⟨t, sp, p, bank, rfl, hK1, h3⟩
  have h4 : Has w1 (treesS t sp p :: btS p bank sp 0 (eSizes [400, 400]) [] :: l) := Has.skip (A := [_, _]) (M := [_]) h3
  have c1 : w1.cell? ⟨t, 1, none⟩ = some (.pointer (some ⟨p, 0, none⟩)) := cell_of h4.got 1 rfl
  have lt1 := World.block_lt_of_cell? _ _ c1
  have HK1 := Lib.hid (HK.out.trans hK1)
  have H4 := Lib.hid h4
  obtain ⟨n, hn⟩ : ∃ n, os.length = n := ⟨_, rfl⟩
  obtain ⟨nk, hnk⟩ : ∃ nk, ks.length = nk := ⟨_, rfl⟩
  have Hn := Lib.hid (And.intro hn hnk)
  rw [hn, hnk]
  clear h3 h4 hK1 HM HK hn hnk
  generalize w.heap.size = g0 at *
  by_cases hbad : 100 < n ∨ 100 < nk
  · skip
    have HA := Lib.hid (awake12 H4.out Ht.out.cons.cons)
    have hbI : (100 : Int) < n ∨ (¬ (100 : Int) < n ∧ (100 : Int) < nk) := by omega
    have hK1 := HK1.out
    clear H4 hbad
    rcases hbI with hb | ⟨hb, hb2⟩
    all_goals
      go_wp2_with fail
      refine HA.out.mono ?_
      rintro r w2 ⟨rfl, hK2, h5⟩
      have HF : Hid (Kept w w2 ∧ Has w2 l) := ⟨HK1.out.trans hK2, h5.tail.tail⟩
      clear hK2 h5 HA hK1 HK1
      go_wp2
      go_ret
      exact ⟨rfl, HF.out.1, HF.out.2⟩
  have hb1 : decide ((100 : Int) < n) = false := by simp; omega
  have hb2 : decide ((100 : Int) < nk) = false := by simp; omega
  have hb1n : decide (100 < n) = false := by simp; omega
  have hb2n : decide (100 < nk) = false := by simp; omega
  have hb3 : ¬ (100 : Int) < n := by omega
  have hb4 : ¬ (100 : Int) < nk := by omega
  have hn100 : n ≤ 100 := by omega
  have hk100 : nk ≤ 100 := by omega
  have HM0 : Hid (ScrM w l t sp p bank 0 w1) := ScrM.start HK1.out H4.out
  clear HK1 H4 hbad
  go_wp2
  go_loopg [59] n (fun gk iv wr => ∃ k : Nat, k ≤ n ∧ gk = n - k ∧ iv = .int .i64 k ∧ Hid (ScrM w l t sp p bank k wr))
  case atStart => exact ⟨0, Nat.zero_le _, rfl, rfl, HM0⟩
  case round =>
    clear HM0
    obtain ⟨k, hk, rfl, rfl, HM⟩ := hrel
    by_cases hlt : k < n
    · skip
      obtain ⟨_, _, hv', hrd⟩ := Hs.out wr HM.out.hasl
      injection hv' with j1 j2 j3
      subst j1
      clear j2 j3
      obtain ⟨gb, go, rfl, hat⟩ := hrd k (by have := Hn.out; omega)
      generalize os[k]'_ = o at hat
      obtain ⟨kd, tr, key, val⟩ := o
      obtain ⟨c0, c1', c2, c3⟩ := hat
      simp only at c0 c1' c2 c3
      have lz := World.block_lt_of_cell? _ _ c0
      have kI : (k : Int) < (n : Int) := by omega
      have k0 : (0 : Int) ≤ k := by omega
      clear hrd
      by_cases hkd : 2 < kd
      · skip
        have HM2 : Hid (ScrM w l t sp p bank (k + 1) (wr.alloc (.cells #[.int .i64 kd, .int .i64 tr, .int .i64 key, .int .i64 val] 83))) := HM.out.more.kept (fun m hm => hm.alloc_off _) fun hK => hK.alloc _
        clear HM
        go_wp2
        go_roundg (n - (k + 1))
        case measure => omega
        case rel => exact ⟨k + 1, by omega, rfl, by go_num, HM2⟩
      · skip
        have HM2 : Hid (ScrM w l t sp p bank k (wr.alloc (.cells #[.int .i64 kd, .int .i64 0, .int .i64 key, .int .i64 val] 83))) := HM.out.kept (fun m hm => hm.alloc_off _) fun hK => hK.alloc _
        have HC := Lib.hid (HM2.out.step Ht.out (by omega) kd 0 key val)
        clear HM
        go_wp2_with fail
        refine HC.out.mono ?_
        rintro r w5 ⟨rfl, hM5⟩
        have HM5 := Lib.hid hM5
        clear hM5 HC HM2
        go_wp2
        go_roundg (n - (k + 1))
        case measure => omega
        case rel => exact ⟨k + 1, by omega, rfl, by go_num, HM5⟩
    · skip
      have hke : k = n := by omega
      subst hke
      obtain ⟨Q, ts, vs, rs, hT, h4, hb, hK, hh⟩ := HM.out
      obtain ⟨u, v, hu, hv, hr⟩ := h4.at (i := 0) (by omega)
      have hR := hT.root u (List.mem_of_getElem? hu)
      have hI := hh.tail.bt_inv.1
      have hbu := hb u (List.mem_of_getElem? hu)
      have hsr := hR.srt
      have hml : (ts.map (·.a)).length = 4 := by rw [List.length_map]; exact h4.four
      have hua : (ts.map (·.a))[0]? = some u.a := by rw [List.getElem?_map, hu]; rfl
      have hit := hR.pos hI
      have hql := hT.pages hI
      have hwl := weighs_le (ts := ts) (B := 2 * k) fun u hu => (hb u hu).1
      rw [h4.four] at hwl
      have hLv := hT.live
      obtain ⟨vq, vc, ev0, _⟩ := hh.kv_read (v := v) (L := u.L) (by simp [kvR_mem hr])
      obtain ⟨vn, hvn⟩ : ∃ n, u.L.length = n := ⟨_, rfl⟩
      rw [hvn] at ev0
      subst ev0
      obtain ⟨N, hN⟩ : ∃ N, 100 * k = N := ⟨_, rfl⟩
      rw [hN] at hh
      obtain ⟨L, hL⟩ : ∃ L, u.L = L := ⟨_, rfl⟩
      obtain ⟨a, ha⟩ : ∃ a, u.a = a := ⟨_, rfl⟩
      rw [hL] at hR hsr hit hbu hr hvn
      rw [ha] at hR hua
      have HI : Hid (∀ w' l', Has w' (btS p bank sp N (eSizes [400, 400]) Q :: l') → Calls Tryz.prog 42 #[.pointer (some ⟨p, 0, none⟩), .int .i64 a, .int .i64 0, .int .i64 (-1)] w' (ItemsPost p bank sp N (eSizes [400, 400]) Q L l' w')) := fun w' l' h => by
        have := bt_Items a 0 (-1) h hR (by omega)
        rwa [items_all hit] at this
      have HFd : Hid (∀ w' l' (x : Int), Has w' (btS p bank sp N (eSizes [400, 400]) Q :: l') → Calls Tryz.prog 47 #[.pointer (some ⟨p, 0, none⟩), .int .i64 a, .int .i64 x] w' (FoundPost p bank sp N (eSizes [400, 400]) Q L x l' w')) := fun w' l' x h => bt_FindR a x h hR
      have HRf : Hid (∀ w' l' (x : Int), Has w' l' → kvS (.slice vq vn vc) L ∈ l' → Calls Tryz.prog 48 #[.slice vq vn vc, .int .i64 x] w' (fun r w'' => r = .returned (fdV L x) ∧ w' = w'')) := fun w' l' x h hm => ref_Find x h hm hsr (by omega)
      have HDl : Hid (∀ w' l' (x : Int), Has w' (btS p bank sp N (eSizes [400, 400]) Q :: l') → Tab l' → getK L x = none → Calls Tryz.prog 44 #[.pointer (some ⟨p, 0, none⟩), .int .i64 a, .int .i64 x] w' (fun r w'' => r = .returned (.tuple #[.int .i64 0, errV 81]) ∧ Kept w' w'' ∧ Has w'' (btS p bank sp N (eSizes [400, 400]) Q :: l'))) := fun w' l' x h htb hno => by
        refine (bt_Delete a x h htb hR hLv (by omega) (by omega)).mono ?_
        rintro r w' (⟨_, h1, h2, h3⟩ | ⟨⟨y, h1⟩, _⟩)
        · exact ⟨h1, h2, h3⟩
        · rw [hno] at h1; cases h1
      have HPg : Hid (∀ w' l', Has w' (btS p bank sp N (eSizes [400, 400]) Q :: l') → Calls Tryz.prog 25 #[.pointer (some ⟨p, 0, none⟩)] w' (PagesPost Q (btS p bank sp N (eSizes [400, 400]) Q :: l') w')) := fun w' l' h => bt_Pages h (by omega)
      have HIs : Hid (∀ w' : World, Calls Tryz.prog 49 #[errV 81, .int .i64 81] w' fun r w'' => r = .returned (.bool true) ∧ w' = w'') := fun w' => law_is12 (some 81) 81 w' (by decide) (by decide)
      have HL : Hid (Srt L ∧ L.length = vn ∧ vn ≤ 100 ∧ Q.length ≤ 100000) := ⟨hsr, hvn, by omega, by omega⟩
      have HR := Lib.hid (And.intro hua (And.intro hml (And.intro hv hr)))
      have t1 : wr.cell? ⟨t, 1, none⟩ = some (.pointer (some ⟨p, 0, none⟩)) := cell_of hh.got 1 rfl
      have t2 : wr.cell? ⟨t, 2, none⟩ = some (.int .i64 a) := cell_of hh.got (2 + 0) (treesC_root hua)
      have lt2 := World.block_lt_of_cell? _ _ t1
      have HK := Lib.hid hK
      have HH := Lib.hid hh
      clear hT h4 hb hK hh hu hv hr hR hI hbu hsr hua hit HM hN hL ha hql hwl hLv hvn hml
      go_upto_region 13 with fail
      have hh := HH.out
      clear HH
      obtain ⟨FA, HFA⟩ : ∃ FA : List (Nat × Addr × Value), Hid (FA = [(3, ⟨t, 1, none⟩, .pointer (some ⟨p, 0, none⟩)), (8, ⟨t, 2, none⟩, .int .i64 a)]) := ⟨_, rfl⟩
      have fa3 : ∀ n : In (factsOf FA 3), n.w.cell? ⟨t, 1, none⟩ = some (.pointer (some ⟨p, 0, none⟩)) := fun n => factsOf.cell (by rw [HFA.out]; simp) n
      have fa8 : ∀ n : In (factsOf FA 8), n.w.cell? ⟨t, 2, none⟩ = some (.int .i64 a) := fun n => factsOf.cell (by rw [HFA.out]; simp) n
      have hFA : ∀ p ∈ FA, wr.cell? p.2.1 = some p.2.2 := by rw [HFA.out]; exact (fcons t1 (fcons t2 fnil))
      haveI neFA : ∀ k, Nonempty (In (factsOf FA k)) := fun k => ⟨⟨_, factsOf.drew hFA k⟩⟩
      refine ws_begin [0, 1, 2, 3, 4, 5, 6, 7, 8, 9, 10] (factsOf FA) (treesT t sp p (ts.map (·.a)) vs :: btS p bank sp N (eSizes [400, 400]) Q :: (rs.map kvR ++ l)) #[0, 1, 3, 7, 0, 16, 48, 112, 240, 511, 1023] (by kernel_rfl) (by kernel_rfl) (by kernel_rfl) factsOf.alloc (factsOf.drew hFA) hh ?_
      clear hFA
      refine ws_q (at_lit rfl) rfl rfl rfl ?_
      go_big_quiet_op
      show WS _ _ _ _ _ _ _ _ _ _
      refine ws_q (at_lit rfl) rfl rfl rfl ?_
      go_big_quiet_op
      show WS _ _ _ _ _ _ _ _ _ _
      refine ws_q (at_lit rfl) rfl rfl rfl ?_
      go_big_quiet_op
      show WS _ _ _ _ _ _ _ _ _ _
      refine ws_q (at_lit rfl) rfl rfl rfl ?_
      go_big_quiet_op
      show WS _ _ _ _ _ _ _ _ _ _
      refine ws_q (at_lit rfl) rfl rfl rfl ?_
      go_big_quiet_op
      show WS _ _ _ _ _ _ _ _ _ _
      refine ws_q (at_lit rfl) rfl rfl rfl ?_
      go_big_quiet_op
      show WS _ _ _ _ _ _ _ _ _ _
      refine ws_q (at_lit rfl) rfl rfl rfl ?_
      go_big_quiet_op
      show WS _ _ _ _ _ _ _ _ _ _
      refine ws_q (at_lit rfl) rfl rfl rfl ?_
      go_big_quiet_op
      show WS _ _ _ _ _ _ _ _ _ _
      refine ws_q (at_lit rfl) rfl rfl rfl ?_
      go_big_quiet_op
      show WS _ _ _ _ _ _ _ _ _ _
      refine ws_call (at_lit rfl) rfl rfl 42 #[.pointer (some ⟨p, 0, none⟩), .int .i64 a, .int .i64 0, .int .i64 (-1)] (fun w => by go_simp) (fun v L' => L' = pairsS v L :: treesT t sp p (ts.map (·.a)) vs :: btS p bank sp N (eSizes [400, 400]) Q :: (rs.map kvR ++ l)) (fun w' F hS hh => ?_) ?_
      · refine (HI.out w' _ (hh.pull 1)).mono ?_
        rintro r w'' ⟨va, rfl, hK, hh'⟩
        exact ⟨_, _, rfl, hK, rfl, hh'.reord [0, 1]⟩
      rintro va _ rfl
      refine ⟨fun w F hh => lives (l' := []) (by rw [HFA.out]; simp [liveFacts, Nat.testBit]) (fnil), ?_⟩
      simp only [Act.put, List.setIfInBounds_toArray, List.set_cons_zero, List.set_cons_succ]
      show WS _ _ _ _ _ _ _ _ _ _
      refine ws_q (at_lit rfl) rfl rfl rfl ?_
      go_big_quiet_op
      show WS _ _ _ _ _ _ _ _ _ _
      refine ws_end ?_
      intro w5 hK5 h5
      obtain ⟨iq, ic, rfl, _, _⟩ := h5.pairs_read (v := va) (ps := L) (.head _)
      rw [HL.out.2.1] at h5 ⊢
      have HM0 : Hid (FiM w l t sp p bank N Q ts vs rs L (.slice iq vn ic) w5) := ⟨HK.out.trans hK5, h5⟩
      clear hK5 h5 hh HFA neFA FA fa3 fa8 t1 t2 lt2 HK
      have hvI : (vn : Int) ≤ 100 := by have := HL.out.2.2.1; omega
      go_wp2
      go_loopg [91] vn (fun gk iv wr => ∃ k : Nat, k ≤ vn ∧ gk = vn - k ∧ iv = .int .i64 k ∧ Hid (FiM w l t sp p bank N Q ts vs rs L (.slice iq vn ic) wr))
      case atStart => exact ⟨0, Nat.zero_le _, rfl, rfl, HM0⟩
      case round =>
        clear HM0
        obtain ⟨j, hj, rfl, rfl, HM⟩ := hrel
        obtain ⟨hK, hh⟩ := HM.out
        by_cases hlt2 : j < vn
        · skip
          obtain ⟨_, _, e1, _, hrd⟩ := hh.pairs_read (v := .slice iq vn ic) (ps := L) (.head _)
          injection e1 with e1 e2 e3
          subst e1
          clear e2 e3
          obtain ⟨x, hx⟩ : ∃ x, L[j]? = some x := ⟨_, List.getElem?_eq_getElem (by have := HL.out.2.1; omega)⟩
          obtain ⟨gi, rfl, x0, x1⟩ := hrd j x hx
          have hfx : getK L x.1 = some x.2 := getK_at HL.out.1 (List.mem_of_getElem? hx)
          obtain ⟨xk, xv⟩ := x
          simp only at x0 x1 hfx
          have lx := World.block_lt_of_cell? _ _ x0
          have hA := hh.alloc (.cells #[.int .i64 xk, .int .i64 xv] 87)
          have HKA := Lib.hid (hK.alloc (.cells #[.int .i64 xk, .int .i64 xv] 87))
          have jI : (j : Int) < (vn : Int) := by omega
          have j0 : (0 : Int) ≤ j := by omega
          have Hfx : Hid (foundV L xk = .tuple #[.int .i64 xv, .bool true]) := by show _ = _; unfold foundV; rw [hfx]
          have HH := Lib.hid hA
          clear hK hh hA HM hrd hx hfx
          go_upto_region 17 with fail
          have hh := HH.out
          generalize wr.alloc (.cells #[.int .i64 xk, .int .i64 xv] 87) = W at *
          generalize wr.heap.size = b12 at *
          have o0 : W.cell? ⟨b12, 0, none⟩ = some (.int .i64 xk) := cell_of hh.got 0 rfl
          have t1 : W.cell? ⟨t, 1, none⟩ = some (.pointer (some ⟨p, 0, none⟩)) := cell_of (hh.at (b := t) (o := (.cells (treesC sp p (ts.map (·.a)) vs) 70 (0, 0))) (by simp [treesT])) 1 rfl
          have t2 : W.cell? ⟨t, 2, none⟩ = some (.int .i64 a) := cell_of (hh.at (b := t) (o := (.cells (treesC sp p (ts.map (·.a)) vs) 70 (0, 0))) (by simp [treesT])) (2 + 0) (treesC_root HR.out.1)
          clear HH x0 x1 lx
          obtain ⟨FA, HFA⟩ : ∃ FA : List (Nat × Addr × Value), Hid (FA = [(3, ⟨t, 1, none⟩, .pointer (some ⟨p, 0, none⟩)), (8, ⟨t, 2, none⟩, .int .i64 a), (10, ⟨b12, 0, none⟩, .int .i64 xk)]) := ⟨_, rfl⟩
          have fa3 : ∀ n : In (factsOf FA 3), n.w.cell? ⟨t, 1, none⟩ = some (.pointer (some ⟨p, 0, none⟩)) := fun n => factsOf.cell (by rw [HFA.out]; simp) n
          have fa8 : ∀ n : In (factsOf FA 8), n.w.cell? ⟨t, 2, none⟩ = some (.int .i64 a) := fun n => factsOf.cell (by rw [HFA.out]; simp) n
          have fa10 : ∀ n : In (factsOf FA 10), n.w.cell? ⟨b12, 0, none⟩ = some (.int .i64 xk) := fun n => factsOf.cell (by rw [HFA.out]; simp) n
          have hFA : ∀ p ∈ FA, W.cell? p.2.1 = some p.2.2 := by rw [HFA.out]; exact (fcons t1 (fcons t2 (fcons o0 fnil)))
          haveI neFA : ∀ k, Nonempty (In (factsOf FA k)) := fun k => ⟨⟨_, factsOf.drew hFA k⟩⟩
          refine ws_begin [0, 1, 2, 3, 4, 5, 6, 7, 8, 9, 10, 11, 12, 13, 14, 15, 16] (factsOf FA) (pts b12 (.cells #[.int .i64 xk, .int .i64 xv] 87 (0, 0)) :: pairsS (.slice (some ⟨gi, 0, none⟩) vn ic) L :: treesT t sp p (ts.map (·.a)) vs :: btS p bank sp N (eSizes [400, 400]) Q :: (rs.map kvR ++ l)) #[0, 1, 3, 7, 0, 16, 48, 112, 240, 0, 512, 2047, 4095, 8191, 8191, 16383, 65535] (by kernel_rfl) (by kernel_rfl) (by kernel_rfl) factsOf.alloc (factsOf.drew hFA) hh ?_
          clear hFA
          refine ws_q (at_lit rfl) rfl rfl rfl ?_
          go_big_quiet_op
          show WS _ _ _ _ _ _ _ _ _ _
          refine ws_q (at_lit rfl) rfl rfl rfl ?_
          go_big_quiet_op
          show WS _ _ _ _ _ _ _ _ _ _
          refine ws_q (at_lit rfl) rfl rfl rfl ?_
          go_big_quiet_op
          show WS _ _ _ _ _ _ _ _ _ _
          refine ws_q (at_lit rfl) rfl rfl rfl ?_
          go_big_quiet_op
          show WS _ _ _ _ _ _ _ _ _ _
          refine ws_q (at_lit rfl) rfl rfl rfl ?_
          go_big_quiet_op
          show WS _ _ _ _ _ _ _ _ _ _
          refine ws_q (at_lit rfl) rfl rfl rfl ?_
          go_big_quiet_op
          show WS _ _ _ _ _ _ _ _ _ _
          refine ws_q (at_lit rfl) rfl rfl rfl ?_
          go_big_quiet_op
          show WS _ _ _ _ _ _ _ _ _ _
          refine ws_q (at_lit rfl) rfl rfl rfl ?_
          go_big_quiet_op
          show WS _ _ _ _ _ _ _ _ _ _
          refine ws_q (at_lit rfl) rfl rfl rfl ?_
          go_big_quiet_op
          show WS _ _ _ _ _ _ _ _ _ _
          refine ws_q (at_lit rfl) rfl rfl rfl ?_
          go_big_quiet_op
          show WS _ _ _ _ _ _ _ _ _ _
          refine ws_q (at_lit rfl) rfl rfl rfl ?_
          go_big_quiet_op
          show WS _ _ _ _ _ _ _ _ _ _
          refine ws_call (at_lit rfl) rfl rfl 47 #[.pointer (some ⟨p, 0, none⟩), .int .i64 a, .int .i64 xk] (fun w => by go_simp) (fun v L' => v = .tuple #[.int .i64 xv, .bool true] ∧ L' = pts b12 (.cells #[.int .i64 xk, .int .i64 xv] 87 (0, 0)) :: pairsS (.slice (some ⟨gi, 0, none⟩) vn ic) L :: treesT t sp p (ts.map (·.a)) vs :: btS p bank sp N (eSizes [400, 400]) Q :: (rs.map kvR ++ l)) (fun w' F hS hh => ?_) ?_
          · refine (HFd.out w' _ xk (hh.pull 3)).mono ?_
            rintro r w'' ⟨hK, rfl, hh'⟩
            exact ⟨_, _, rfl, hK, ⟨Hfx.out, rfl⟩, hh'.reord [1, 1, 1]⟩
          rintro _ _ ⟨rfl, rfl⟩
          refine ⟨fun w F hh => lives (l' := []) (by rw [HFA.out]; simp [liveFacts, Nat.testBit]) (fnil), ?_⟩
          simp only [Act.put, List.setIfInBounds_toArray, List.set_cons_zero, List.set_cons_succ]
          show WS _ _ _ _ _ _ _ _ _ _
          refine ws_q (at_lit rfl) rfl rfl rfl ?_
          go_big_quiet_op
          show WS _ _ _ _ _ _ _ _ _ _
          refine ws_q (at_lit rfl) rfl rfl rfl ?_
          go_big_quiet_op
          show WS _ _ _ _ _ _ _ _ _ _
          refine ws_q (at_lit rfl) rfl rfl rfl ?_
          go_big_quiet_op
          show WS _ _ _ _ _ _ _ _ _ _
          refine ws_q (at_lit rfl) rfl rfl rfl ?_
          go_big_quiet_op
          show WS _ _ _ _ _ _ _ _ _ _
          refine ws_q (at_lit rfl) rfl rfl rfl ?_
          go_big_quiet_op
          show WS _ _ _ _ _ _ _ _ _ _
          refine ws_end ?_
          intro w6 hK6 h6
          have o1 : w6.cell? ⟨b12, 1, none⟩ = some (.int .i64 xv) := cell_of h6.got 1 rfl
          have lo := World.block_lt_of_cell? _ _ o1
          have HM2 : Hid (FiM w l t sp p bank N Q ts vs rs L (.slice (some ⟨gi, 0, none⟩) vn ic) w6) := ⟨HKA.out.trans hK6, h6.tail⟩
          clear hK6 h6 hh HFA neFA FA fa3 fa8 fa10 o0 t1 t2 HKA Hfx
          go_wp2
          go_roundg (vn - (j + 1))
          case measure => omega
          case rel => exact ⟨j + 1, by omega, rfl, by go_num, HM2⟩
        · skip
          have hje : j = vn := by omega
          have t1 : wr.cell? ⟨t, 1, none⟩ = some (.pointer (some ⟨p, 0, none⟩)) := cell_of (hh.at (b := t) (o := (.cells (treesC sp p (ts.map (·.a)) vs) 70 (0, 0))) (by simp [treesT])) 1 rfl
          have lt1' := World.block_lt_of_cell? _ _ t1
          have HPc := Lib.hid (HPg.out wr _ (hh.pull 2))
          have HK := Lib.hid hK
          clear hh hK HM hlt2
          go_wp2_with fail
          refine HPc.out.mono ?_
          rintro r w6 ⟨pv, rfl, hK6, h6⟩
          obtain ⟨pq, pc, rfl, _, _⟩ := h6.ints_read (v := pv) (xs := Q.map (·.1)) (.head _)
          obtain ⟨qn, hqn⟩ : ∃ qn, (Q.map (·.1)).length = qn := ⟨_, rfl⟩
          have Hqn := Lib.hid hqn
          rw [hqn]
          have HM0 : Hid (FiM w l t sp p bank N Q ts vs rs L (.slice iq vn ic) w6) := ⟨HK.out.trans hK6, h6.tail.reord [1, 1]⟩
          clear hK6 h6 HPc HK t1 lt1' hqn
          go_wp2
          go_loopg [127] nk (fun gk iv wr => ∃ k : Nat, k ≤ nk ∧ gk = nk - k ∧ iv = .int .i64 k ∧ Hid (FiM w l t sp p bank N Q ts vs rs L (.slice iq vn ic) wr))
          case atStart => exact ⟨0, Nat.zero_le _, rfl, rfl, HM0⟩
          case round =>
            clear HM0
            obtain ⟨i, hi, rfl, rfl, HM⟩ := hrel
            obtain ⟨hK, hh⟩ := HM.out
            clear HM
            by_cases hlt3 : i < nk
            · skip
              obtain ⟨_, _, hv', hrd⟩ := (Hk.out wr (Has.right (m := rs.map kvR) hh.tail.tail.tail)).rd
              injection hv' with j1 j2 j3
              subst j1
              clear j2 j3
              obtain ⟨gk1, gk2, rfl, hc⟩ := hrd i (by have := Hn.out.2; omega)
              have lz := World.block_lt_of_cell? _ _ hc
              generalize ks[i]'_ = x at hc
              have iI : (i : Int) < (nk : Int) := by omega
              have i0 : (0 : Int) ≤ i := by omega
              have t1 : wr.cell? ⟨t, 1, none⟩ = some (.pointer (some ⟨p, 0, none⟩)) := cell_of (hh.at (b := t) (o := (.cells (treesC sp p (ts.map (·.a)) vs) 70 (0, 0))) (by simp [treesT])) 1 rfl
              have t2 : wr.cell? ⟨t, 2, none⟩ = some (.int .i64 a) := cell_of (hh.at (b := t) (o := (.cells (treesC sp p (ts.map (·.a)) vs) 70 (0, 0))) (by simp [treesT])) (2 + 0) (treesC_root HR.out.1)
              have lt1' := World.block_lt_of_cell? _ _ t1
              have HK := Lib.hid hK
              have HH := Lib.hid hh
              clear hrd hh hK
              go_upto_region 25 with fail
              have hh := HH.out
              clear HH
              cases hgx : getK L x with
              | some y =>
                have Hf1 : Hid (foundV L x = .tuple #[.int .i64 y, .bool true]) := by show _ = _; unfold foundV; rw [hgx]
                have Hf2 : Hid (fdV L x = .tuple #[.int .i64 y, .bool true]) := by show _ = _; unfold fdV; rw [hgx]
                have Hgx := Lib.hid hgx
                clear hgx
                obtain ⟨FA, HFA⟩ : ∃ FA : List (Nat × Addr × Value), Hid (FA = [(3, ⟨t, 1, none⟩, .pointer (some ⟨p, 0, none⟩)), (8, ⟨t, 2, none⟩, .int .i64 a)]) := ⟨_, rfl⟩
                have fa3 : ∀ n : In (factsOf FA 3), n.w.cell? ⟨t, 1, none⟩ = some (.pointer (some ⟨p, 0, none⟩)) := fun n => factsOf.cell (by rw [HFA.out]; simp) n
                have fa8 : ∀ n : In (factsOf FA 8), n.w.cell? ⟨t, 2, none⟩ = some (.int .i64 a) := fun n => factsOf.cell (by rw [HFA.out]; simp) n
                have hFA : ∀ p ∈ FA, wr.cell? p.2.1 = some p.2.2 := by rw [HFA.out]; exact (fcons t1 (fcons t2 fnil))
                haveI neFA : ∀ k, Nonempty (In (factsOf FA k)) := fun k => ⟨⟨_, factsOf.drew hFA k⟩⟩
                refine ws_begin [0, 1, 2, 3, 4, 5, 6, 7, 8, 9, 10, 11, 12, 13, 14, 15] (factsOf FA) (pairsS (.slice iq vn ic) L :: treesT t sp p (ts.map (·.a)) vs :: btS p bank sp N (eSizes [400, 400]) Q :: (rs.map kvR ++ l)) #[0, 1, 3, 7, 0, 16, 48, 112, 240, 0, 1023, 2047, 4095, 4095, 8191, 32767] (by kernel_rfl) (by kernel_rfl) (by kernel_rfl) factsOf.alloc (factsOf.drew hFA) hh ?_
                clear hFA
                refine ws_q (at_lit rfl) rfl rfl rfl ?_
                go_big_quiet_op
                show WS _ _ _ _ _ _ _ _ _ _
                refine ws_q (at_lit rfl) rfl rfl rfl ?_
                go_big_quiet_op
                show WS _ _ _ _ _ _ _ _ _ _
                refine ws_q (at_lit rfl) rfl rfl rfl ?_
                go_big_quiet_op
                show WS _ _ _ _ _ _ _ _ _ _
                refine ws_q (at_lit rfl) rfl rfl rfl ?_
                go_big_quiet_op
                show WS _ _ _ _ _ _ _ _ _ _
                refine ws_q (at_lit rfl) rfl rfl rfl ?_
                go_big_quiet_op
                show WS _ _ _ _ _ _ _ _ _ _
                refine ws_q (at_lit rfl) rfl rfl rfl ?_
                go_big_quiet_op
                show WS _ _ _ _ _ _ _ _ _ _
                refine ws_q (at_lit rfl) rfl rfl rfl ?_
                go_big_quiet_op
                show WS _ _ _ _ _ _ _ _ _ _
                refine ws_q (at_lit rfl) rfl rfl rfl ?_
                go_big_quiet_op
                show WS _ _ _ _ _ _ _ _ _ _
                refine ws_q (at_lit rfl) rfl rfl rfl ?_
                go_big_quiet_op
                show WS _ _ _ _ _ _ _ _ _ _
                refine ws_q (at_lit rfl) rfl rfl rfl ?_
                go_big_quiet_op
                show WS _ _ _ _ _ _ _ _ _ _
                refine ws_call (at_lit rfl) rfl rfl 47 #[.pointer (some ⟨p, 0, none⟩), .int .i64 a, .int .i64 x] (fun w => by go_simp) (fun v L' => v = .tuple #[.int .i64 y, .bool true] ∧ L' = pairsS (.slice iq vn ic) L :: treesT t sp p (ts.map (·.a)) vs :: btS p bank sp N (eSizes [400, 400]) Q :: (rs.map kvR ++ l)) (fun w' F hS hh => ?_) ?_
                · refine (HFd.out w' _ x (hh.pull 2)).mono ?_
                  rintro r w'' ⟨hK, rfl, hh'⟩
                  exact ⟨_, _, rfl, hK, ⟨Hf1.out, rfl⟩, hh'.reord [1, 1]⟩
                rintro _ _ ⟨rfl, rfl⟩
                refine ⟨fun w F hh => lives (l' := []) (by rw [HFA.out]; simp [liveFacts, Nat.testBit]) (fnil), ?_⟩
                simp only [Act.put, List.setIfInBounds_toArray, List.set_cons_zero, List.set_cons_succ]
                show WS _ _ _ _ _ _ _ _ _ _
                refine ws_q (at_lit rfl) rfl rfl rfl ?_
                go_big_quiet_op
                show WS _ _ _ _ _ _ _ _ _ _
                refine ws_q (at_lit rfl) rfl rfl rfl ?_
                go_big_quiet_op
                show WS _ _ _ _ _ _ _ _ _ _
                refine ws_q (at_lit rfl) rfl rfl rfl ?_
                go_big_quiet_op
                show WS _ _ _ _ _ _ _ _ _ _
                refine ws_q (at_lit rfl) rfl rfl rfl ?_
                go_big_quiet_op
                show WS _ _ _ _ _ _ _ _ _ _
                refine ws_q (at_lit rfl) rfl rfl rfl ?_
                go_big_quiet_op
                show WS _ _ _ _ _ _ _ _ _ _
                refine ws_end ?_
                intro w6 hK6 h6
                have HK6 := Lib.hid (HK.out.trans hK6)
                have t6 : w6.cell? ⟨t, 6, none⟩ = some (.slice vq vn vc) := cell_of (h6.at (b := t) (o := (.cells (treesC sp p (ts.map (·.a)) vs) 70 (0, 0))) (by simp [treesT])) (6 + 0) (treesC_list HR.out.2.1 HR.out.2.2.1)
                have lt6 := World.block_lt_of_cell? _ _ t6
                have HRc : Hid (Calls Tryz.prog 48 #[.slice vq vn vc, .int .i64 x] w6 (fun r w'' => r = .returned (.tuple #[.int .i64 y, .bool true]) ∧ w6 = w'')) := by
                  have h7 := HRf.out w6 _ x h6 (by have := kvR_mem HR.out.2.2.2; simp [this])
                  rwa [Hf2.out] at h7
                have H6 := Lib.hid h6
                clear hK6 h6 hh HFA neFA FA fa3 fa8 t1 t2 lt1' HK Hf1 Hf2 hc lz
                go_wp2_with fail
                refine HRc.out.mono ?_
                rintro r w7 ⟨rfl, rfl⟩
                clear HRc
                have HM2 : Hid (FiM w l t sp p bank N Q ts vs rs L (.slice iq vn ic) w6) := ⟨HK6.out, H6.out⟩
                clear H6 HK6 t6 lt6 Hgx
                go_wp2
                go_roundg (nk - (i + 1))
                case measure => omega
                case rel => exact ⟨i + 1, by omega, rfl, by go_num, HM2⟩
              | none =>
                have Hf1 : Hid (foundV L x = .tuple #[.int .i64 0, .bool false]) := by show _ = _; unfold foundV; rw [hgx]
                have Hf2 : Hid (fdV L x = .tuple #[.int .i64 0, .bool false]) := by show _ = _; unfold fdV; rw [hgx]
                have Hgx := Lib.hid hgx
                clear hgx
                obtain ⟨FA, HFA⟩ : ∃ FA : List (Nat × Addr × Value), Hid (FA = [(3, ⟨t, 1, none⟩, .pointer (some ⟨p, 0, none⟩)), (8, ⟨t, 2, none⟩, .int .i64 a)]) := ⟨_, rfl⟩
                have fa3 : ∀ n : In (factsOf FA 3), n.w.cell? ⟨t, 1, none⟩ = some (.pointer (some ⟨p, 0, none⟩)) := fun n => factsOf.cell (by rw [HFA.out]; simp) n
                have fa8 : ∀ n : In (factsOf FA 8), n.w.cell? ⟨t, 2, none⟩ = some (.int .i64 a) := fun n => factsOf.cell (by rw [HFA.out]; simp) n
                have hFA : ∀ p ∈ FA, wr.cell? p.2.1 = some p.2.2 := by rw [HFA.out]; exact (fcons t1 (fcons t2 fnil))
                haveI neFA : ∀ k, Nonempty (In (factsOf FA k)) := fun k => ⟨⟨_, factsOf.drew hFA k⟩⟩
                refine ws_begin [0, 1, 2, 3, 4, 5, 6, 7, 8, 9, 10, 11, 12, 13, 14, 15] (factsOf FA) (pairsS (.slice iq vn ic) L :: treesT t sp p (ts.map (·.a)) vs :: btS p bank sp N (eSizes [400, 400]) Q :: (rs.map kvR ++ l)) #[0, 1, 3, 7, 0, 16, 48, 112, 240, 0, 1023, 2047, 4095, 4095, 8191, 32767] (by kernel_rfl) (by kernel_rfl) (by kernel_rfl) factsOf.alloc (factsOf.drew hFA) hh ?_
                clear hFA
                refine ws_q (at_lit rfl) rfl rfl rfl ?_
                go_big_quiet_op
                show WS _ _ _ _ _ _ _ _ _ _
                refine ws_q (at_lit rfl) rfl rfl rfl ?_
                go_big_quiet_op
                show WS _ _ _ _ _ _ _ _ _ _
                refine ws_q (at_lit rfl) rfl rfl rfl ?_
                go_big_quiet_op
                show WS _ _ _ _ _ _ _ _ _ _
                refine ws_q (at_lit rfl) rfl rfl rfl ?_
                go_big_quiet_op
                show WS _ _ _ _ _ _ _ _ _ _
                refine ws_q (at_lit rfl) rfl rfl rfl ?_
                go_big_quiet_op
                show WS _ _ _ _ _ _ _ _ _ _
                refine ws_q (at_lit rfl) rfl rfl rfl ?_
                go_big_quiet_op
                show WS _ _ _ _ _ _ _ _ _ _
                refine ws_q (at_lit rfl) rfl rfl rfl ?_
                go_big_quiet_op
                show WS _ _ _ _ _ _ _ _ _ _
                refine ws_q (at_lit rfl) rfl rfl rfl ?_
                go_big_quiet_op
                show WS _ _ _ _ _ _ _ _ _ _
                refine ws_q (at_lit rfl) rfl rfl rfl ?_
                go_big_quiet_op
                show WS _ _ _ _ _ _ _ _ _ _
                refine ws_q (at_lit rfl) rfl rfl rfl ?_
                go_big_quiet_op
                show WS _ _ _ _ _ _ _ _ _ _
                refine ws_call (at_lit rfl) rfl rfl 47 #[.pointer (some ⟨p, 0, none⟩), .int .i64 a, .int .i64 x] (fun w => by go_simp) (fun v L' => v = .tuple #[.int .i64 0, .bool false] ∧ L' = pairsS (.slice iq vn ic) L :: treesT t sp p (ts.map (·.a)) vs :: btS p bank sp N (eSizes [400, 400]) Q :: (rs.map kvR ++ l)) (fun w' F hS hh => ?_) ?_
                · refine (HFd.out w' _ x (hh.pull 2)).mono ?_
                  rintro r w'' ⟨hK, rfl, hh'⟩
                  exact ⟨_, _, rfl, hK, ⟨Hf1.out, rfl⟩, hh'.reord [1, 1]⟩
                rintro _ _ ⟨rfl, rfl⟩
                refine ⟨fun w F hh => lives (l' := []) (by rw [HFA.out]; simp [liveFacts, Nat.testBit]) (fnil), ?_⟩
                simp only [Act.put, List.setIfInBounds_toArray, List.set_cons_zero, List.set_cons_succ]
                show WS _ _ _ _ _ _ _ _ _ _
                refine ws_q (at_lit rfl) rfl rfl rfl ?_
                go_big_quiet_op
                show WS _ _ _ _ _ _ _ _ _ _
                refine ws_q (at_lit rfl) rfl rfl rfl ?_
                go_big_quiet_op
                show WS _ _ _ _ _ _ _ _ _ _
                refine ws_q (at_lit rfl) rfl rfl rfl ?_
                go_big_quiet_op
                show WS _ _ _ _ _ _ _ _ _ _
                refine ws_q (at_lit rfl) rfl rfl rfl ?_
                go_big_quiet_op
                show WS _ _ _ _ _ _ _ _ _ _
                refine ws_q (at_lit rfl) rfl rfl rfl ?_
                go_big_quiet_op
                show WS _ _ _ _ _ _ _ _ _ _
                refine ws_end ?_
                intro w6 hK6 h6
                have HK6 := Lib.hid (HK.out.trans hK6)
                have t6 : w6.cell? ⟨t, 6, none⟩ = some (.slice vq vn vc) := cell_of (h6.at (b := t) (o := (.cells (treesC sp p (ts.map (·.a)) vs) 70 (0, 0))) (by simp [treesT])) (6 + 0) (treesC_list HR.out.2.1 HR.out.2.2.1)
                have lt6 := World.block_lt_of_cell? _ _ t6
                have HRc : Hid (Calls Tryz.prog 48 #[.slice vq vn vc, .int .i64 x] w6 (fun r w'' => r = .returned (.tuple #[.int .i64 0, .bool false]) ∧ w6 = w'')) := by
                  have h7 := HRf.out w6 _ x h6 (by have := kvR_mem HR.out.2.2.2; simp [this])
                  rwa [Hf2.out] at h7
                have H6 := Lib.hid h6
                clear hK6 h6 hh HFA neFA FA fa3 fa8 t1 t2 lt1' HK Hf1 Hf2 hc lz
                go_wp2_with fail
                refine HRc.out.mono ?_
                rintro r w7 ⟨rfl, rfl⟩
                clear HRc
                have t1 : w6.cell? ⟨t, 1, none⟩ = some (.pointer (some ⟨p, 0, none⟩)) := cell_of (H6.out.at (b := t) (o := (.cells (treesC sp p (ts.map (·.a)) vs) 70 (0, 0))) (by simp [treesT])) 1 rfl
                have t2 : w6.cell? ⟨t, 2, none⟩ = some (.int .i64 a) := cell_of (H6.out.at (b := t) (o := (.cells (treesC sp p (ts.map (·.a)) vs) 70 (0, 0))) (by simp [treesT])) (2 + 0) (treesC_root HR.out.1)
                clear t6
                go_upto_region 30 with fail
                have hh := H6.out
                clear H6
                obtain ⟨FA, HFA⟩ : ∃ FA : List (Nat × Addr × Value), Hid (FA = [(3, ⟨t, 1, none⟩, .pointer (some ⟨p, 0, none⟩)), (8, ⟨t, 2, none⟩, .int .i64 a)]) := ⟨_, rfl⟩
                have fa3 : ∀ n : In (factsOf FA 3), n.w.cell? ⟨t, 1, none⟩ = some (.pointer (some ⟨p, 0, none⟩)) := fun n => factsOf.cell (by rw [HFA.out]; simp) n
                have fa8 : ∀ n : In (factsOf FA 8), n.w.cell? ⟨t, 2, none⟩ = some (.int .i64 a) := fun n => factsOf.cell (by rw [HFA.out]; simp) n
                have hFA : ∀ p ∈ FA, w6.cell? p.2.1 = some p.2.2 := by rw [HFA.out]; exact (fcons t1 (fcons t2 fnil))
                haveI neFA : ∀ k, Nonempty (In (factsOf FA k)) := fun k => ⟨⟨_, factsOf.drew hFA k⟩⟩
                refine ws_begin [0, 1, 2, 3, 4, 5, 6, 7, 8, 9, 10, 11, 12, 13, 14, 15] (factsOf FA) (pairsS (.slice iq vn ic) L :: treesT t sp p (ts.map (·.a)) vs :: btS p bank sp N (eSizes [400, 400]) Q :: (rs.map kvR ++ l)) #[0, 1, 3, 7, 0, 16, 48, 112, 240, 0, 1023, 2047, 4095, 4095, 8191, 32767] (by kernel_rfl) (by kernel_rfl) (by kernel_rfl) factsOf.alloc (factsOf.drew hFA) hh ?_
                clear hFA
                refine ws_q (at_lit rfl) rfl rfl rfl ?_
                go_big_quiet_op
                show WS _ _ _ _ _ _ _ _ _ _
                refine ws_q (at_lit rfl) rfl rfl rfl ?_
                go_big_quiet_op
                show WS _ _ _ _ _ _ _ _ _ _
                refine ws_q (at_lit rfl) rfl rfl rfl ?_
                go_big_quiet_op
                show WS _ _ _ _ _ _ _ _ _ _
                refine ws_q (at_lit rfl) rfl rfl rfl ?_
                go_big_quiet_op
                show WS _ _ _ _ _ _ _ _ _ _
                refine ws_q (at_lit rfl) rfl rfl rfl ?_
                go_big_quiet_op
                show WS _ _ _ _ _ _ _ _ _ _
                refine ws_q (at_lit rfl) rfl rfl rfl ?_
                go_big_quiet_op
                show WS _ _ _ _ _ _ _ _ _ _
                refine ws_q (at_lit rfl) rfl rfl rfl ?_
                go_big_quiet_op
                show WS _ _ _ _ _ _ _ _ _ _
                refine ws_q (at_lit rfl) rfl rfl rfl ?_
                go_big_quiet_op
                show WS _ _ _ _ _ _ _ _ _ _
                refine ws_q (at_lit rfl) rfl rfl rfl ?_
                go_big_quiet_op
                show WS _ _ _ _ _ _ _ _ _ _
                refine ws_q (at_lit rfl) rfl rfl rfl ?_
                go_big_quiet_op
                show WS _ _ _ _ _ _ _ _ _ _
                refine ws_call (at_lit rfl) rfl rfl 44 #[.pointer (some ⟨p, 0, none⟩), .int .i64 a, .int .i64 x] (fun w => by go_simp) (fun v L' => v = .tuple #[.int .i64 0, errV 81] ∧ L' = pairsS (.slice iq vn ic) L :: treesT t sp p (ts.map (·.a)) vs :: btS p bank sp N (eSizes [400, 400]) Q :: (rs.map kvR ++ l)) (fun w' F hS hh => ?_) ?_
                · refine (HDl.out w' _ x (hh.pull 2) ((((Ht.out.app _).fr F).cons).cons) Hgx.out).mono ?_
                  rintro r w'' ⟨rfl, hK, hh'⟩
                  exact ⟨_, _, rfl, hK, ⟨rfl, rfl⟩, hh'.reord [1, 1]⟩
                rintro _ _ ⟨rfl, rfl⟩
                refine ⟨fun w F hh => lives (l' := []) (by rw [HFA.out]; simp [liveFacts, Nat.testBit]) (fnil), ?_⟩
                simp only [Act.put, List.setIfInBounds_toArray, List.set_cons_zero, List.set_cons_succ]
                show WS _ _ _ _ _ _ _ _ _ _
                refine ws_q (at_lit rfl) rfl rfl rfl ?_
                go_big_quiet_op
                show WS _ _ _ _ _ _ _ _ _ _
                refine ws_q (at_lit rfl) rfl rfl rfl ?_
                go_big_quiet_op
                show WS _ _ _ _ _ _ _ _ _ _
                refine ws_q (at_lit rfl) rfl rfl rfl ?_
                go_big_quiet_op
                show WS _ _ _ _ _ _ _ _ _ _
                refine ws_q (at_lit rfl) rfl rfl rfl ?_
                go_big_quiet_op
                show WS _ _ _ _ _ _ _ _ _ _
                refine ws_q (at_lit rfl) rfl rfl rfl ?_
                go_big_quiet_op
                show WS _ _ _ _ _ _ _ _ _ _
                refine ws_end ?_
                intro w8 hK8 h8
                have HM2 : Hid (FiM w l t sp p bank N Q ts vs rs L (.slice iq vn ic) w8) := ⟨HK6.out.trans hK8, h8⟩
                clear hK8 h8 hh HFA neFA FA fa3 fa8 t1 t2 lt6 HK6 Hgx
                have HIc := Lib.hid (HIs.out w8)
                simp only [errV] at HIc ⊢
                go_wp2_with fail
                refine HIc.out.mono ?_
                rintro r w9 ⟨rfl, rfl⟩
                clear HIc
                go_wp2
                go_roundg (nk - (i + 1))
                case measure => omega
                case rel => exact ⟨i + 1, by omega, rfl, by go_num, HM2⟩
            · skip
              have t1 : wr.cell? ⟨t, 1, none⟩ = some (.pointer (some ⟨p, 0, none⟩)) := cell_of (hh.at (b := t) (o := (.cells (treesC sp p (ts.map (·.a)) vs) 70 (0, 0))) (by simp [treesT])) 1 rfl
              have t2 : wr.cell? ⟨t, 2, none⟩ = some (.int .i64 a) := cell_of (hh.at (b := t) (o := (.cells (treesC sp p (ts.map (·.a)) vs) 70 (0, 0))) (by simp [treesT])) (2 + 0) (treesC_root HR.out.1)
              have t6 : wr.cell? ⟨t, 6, none⟩ = some (.slice vq vn vc) := cell_of (hh.at (b := t) (o := (.cells (treesC sp p (ts.map (·.a)) vs) 70 (0, 0))) (by simp [treesT])) (6 + 0) (treesC_list HR.out.2.1 HR.out.2.2.1)
              have lt1' := World.block_lt_of_cell? _ _ t1
              have HK := Lib.hid hK
              have HH := Lib.hid hh
              have hie : i = nk := by omega
              subst hie
              clear hh hK hlt3
              go_upto_region 34 with fail
              have hh := HH.out
              clear HH
              obtain ⟨FA, HFA⟩ : ∃ FA : List (Nat × Addr × Value), Hid (FA = [(3, ⟨t, 1, none⟩, .pointer (some ⟨p, 0, none⟩)), (12, ⟨t, 1, none⟩, .pointer (some ⟨p, 0, none⟩)), (17, ⟨t, 2, none⟩, .int .i64 a), (23, ⟨t, 6, none⟩, .slice vq vn vc)]) := ⟨_, rfl⟩
              have fa3 : ∀ n : In (factsOf FA 3), n.w.cell? ⟨t, 1, none⟩ = some (.pointer (some ⟨p, 0, none⟩)) := fun n => factsOf.cell (by rw [HFA.out]; simp) n
              have fa12 : ∀ n : In (factsOf FA 12), n.w.cell? ⟨t, 1, none⟩ = some (.pointer (some ⟨p, 0, none⟩)) := fun n => factsOf.cell (by rw [HFA.out]; simp) n
              have fa17 : ∀ n : In (factsOf FA 17), n.w.cell? ⟨t, 2, none⟩ = some (.int .i64 a) := fun n => factsOf.cell (by rw [HFA.out]; simp) n
              have fa23 : ∀ n : In (factsOf FA 23), n.w.cell? ⟨t, 6, none⟩ = some (.slice vq vn vc) := fun n => factsOf.cell (by rw [HFA.out]; simp) n
              have hFA : ∀ p ∈ FA, wr.cell? p.2.1 = some p.2.2 := by rw [HFA.out]; exact (fcons t1 (fcons t1 (fcons t2 (fcons t6 fnil))))
              haveI neFA : ∀ k, Nonempty (In (factsOf FA k)) := fun k => ⟨⟨_, factsOf.drew hFA k⟩⟩
              refine ws_begin [0, 1, 2, 3, 4, 5, 6, 7, 8, 9, 10, 11, 12, 13, 14, 15, 16, 17, 18, 19, 20, 21, 22, 23, 24, 25, 26, 27, 28, 29] (factsOf FA) (pairsS (.slice iq vn ic) L :: treesT t sp p (ts.map (·.a)) vs :: btS p bank sp N (eSizes [400, 400]) Q :: (rs.map kvR ++ l)) #[0, 1, 3, 7, 15, 31, 0, 127, 255, 511, 1023, 2047, 4095, 511, 8703, 25087, 57855, 123391, 262143, 511, 524799, 1573375, 3670527, 7864831, 16777215, 33554431, 67108863, 134217727, 268435455, 536870911] (by kernel_rfl) (by kernel_rfl) (by kernel_rfl) factsOf.alloc (factsOf.drew hFA) hh ?_
              clear hFA
              refine ws_q (at_lit rfl) rfl rfl rfl ?_
              go_big_quiet_op
              show WS _ _ _ _ _ _ _ _ _ _
              refine ws_q (at_lit rfl) rfl rfl rfl ?_
              go_big_quiet_op
              show WS _ _ _ _ _ _ _ _ _ _
              refine ws_q (at_lit rfl) rfl rfl rfl ?_
              go_big_quiet_op
              show WS _ _ _ _ _ _ _ _ _ _
              refine ws_q (at_lit rfl) rfl rfl rfl ?_
              go_big_quiet_op
              show WS _ _ _ _ _ _ _ _ _ _
              refine ws_call (at_lit rfl) rfl rfl 25 #[.pointer (some ⟨p, 0, none⟩)] (fun w => by go_simp) (fun v L' => ∃ q2 c2, v = .slice q2 qn c2 ∧ L' = intsS (.slice q2 qn c2) (Q.map (·.1)) :: pairsS (.slice iq vn ic) L :: treesT t sp p (ts.map (·.a)) vs :: btS p bank sp N (eSizes [400, 400]) Q :: (rs.map kvR ++ l)) (fun w' F hS hh => ?_) ?_
              · refine (HPg.out w' _ (hh.pull 2)).mono ?_
                rintro r w'' ⟨va, rfl, hK, hh'⟩
                obtain ⟨q2, c2, rfl, _, _⟩ := hh'.ints_read (v := va) (xs := Q.map (·.1)) (.head _)
                rw [Hqn.out] at hh' ⊢
                exact ⟨_, _, rfl, hK, ⟨q2, c2, rfl, rfl⟩, hh'.reord [0, 1, 1]⟩
              rintro _ _ ⟨q2, c2, rfl, rfl⟩
              refine ⟨fun w F hh => lives (l' := [(12, ⟨t, 1, none⟩, .pointer (some ⟨p, 0, none⟩)), (17, ⟨t, 2, none⟩, .int .i64 a), (23, ⟨t, 6, none⟩, .slice vq vn vc)]) (by rw [HFA.out]; simp [liveFacts, Nat.testBit]) (fcons (cell_of (hh.at (b := t) (o := (.cells (treesC sp p (ts.map (·.a)) vs) 70 (0, 0))) (by simp [treesT])) 1 rfl) <| fcons (cell_of (hh.at (b := t) (o := (.cells (treesC sp p (ts.map (·.a)) vs) 70 (0, 0))) (by simp [treesT])) (2 + 0) (treesC_root HR.out.1)) <| fcons (cell_of (hh.at (b := t) (o := (.cells (treesC sp p (ts.map (·.a)) vs) 70 (0, 0))) (by simp [treesT])) (6 + 0) (treesC_list HR.out.2.1 HR.out.2.2.1)) <| fnil), ?_⟩
              simp only [Act.put, List.setIfInBounds_toArray, List.set_cons_zero, List.set_cons_succ]
              show WS _ _ _ _ _ _ _ _ _ _
              refine ws_len (at_lit rfl) rfl rfl (.tmp 187) 22 rfl Tryz.underlying22 _ _ _ rfl ?_
              simp only [Act.put, List.setIfInBounds_toArray, List.set_cons_zero, List.set_cons_succ]
              show WS _ _ _ _ _ _ _ _ _ _
              refine ws_q (at_lit rfl) rfl rfl rfl ?_
              go_big_quiet_op
              show WS _ _ _ _ _ _ _ _ _ _
              refine ws_q (at_lit rfl) rfl rfl rfl ?_
              go_big_quiet_op
              show WS _ _ _ _ _ _ _ _ _ _
              refine ws_q (at_lit rfl) rfl rfl rfl ?_
              go_big_quiet_op
              show WS _ _ _ _ _ _ _ _ _ _
              refine ws_q (at_lit rfl) rfl rfl rfl ?_
              go_big_quiet_op
              show WS _ _ _ _ _ _ _ _ _ _
              refine ws_q (at_lit rfl) rfl rfl rfl ?_
              go_big_quiet_op
              show WS _ _ _ _ _ _ _ _ _ _
              refine ws_q (at_lit rfl) rfl rfl rfl ?_
              go_big_quiet_op
              show WS _ _ _ _ _ _ _ _ _ _
              refine ws_q (at_lit rfl) rfl rfl rfl ?_
              go_big_quiet_op
              show WS _ _ _ _ _ _ _ _ _ _
              refine ws_q (at_lit rfl) rfl rfl rfl ?_
              go_big_quiet_op
              show WS _ _ _ _ _ _ _ _ _ _
              refine ws_q (at_lit rfl) rfl rfl rfl ?_
              go_big_quiet_op
              show WS _ _ _ _ _ _ _ _ _ _
              refine ws_q (at_lit rfl) rfl rfl rfl ?_
              go_big_quiet_op
              show WS _ _ _ _ _ _ _ _ _ _
              refine ws_q (at_lit rfl) rfl rfl rfl ?_
              go_big_quiet_op
              show WS _ _ _ _ _ _ _ _ _ _
              refine ws_q (at_lit rfl) rfl rfl rfl ?_
              go_big_quiet_op
              show WS _ _ _ _ _ _ _ _ _ _
              refine ws_call (at_lit rfl) rfl rfl 42 #[.pointer (some ⟨p, 0, none⟩), .int .i64 a, .int .i64 0, .int .i64 (-1)] (fun w => by go_simp) (fun v L' => L' = pairsS v L :: intsS (.slice q2 qn c2) (Q.map (·.1)) :: pairsS (.slice iq vn ic) L :: treesT t sp p (ts.map (·.a)) vs :: btS p bank sp N (eSizes [400, 400]) Q :: (rs.map kvR ++ l)) (fun w' F hS hh => ?_) ?_
              · refine (HI.out w' _ (hh.pull 3)).mono ?_
                rintro r w'' ⟨va, rfl, hK, hh'⟩
                exact ⟨_, _, rfl, hK, rfl, hh'.reord [0, 1, 1, 1]⟩
              rintro vi _ rfl
              refine ⟨fun w F hh => lives (l' := [(23, ⟨t, 6, none⟩, .slice vq vn vc)]) (by rw [HFA.out]; simp [liveFacts, Nat.testBit]) (fcons (cell_of (hh.at (b := t) (o := (.cells (treesC sp p (ts.map (·.a)) vs) 70 (0, 0))) (by simp [treesT])) (6 + 0) (treesC_list HR.out.2.1 HR.out.2.2.1)) <| fnil), ?_⟩
              simp only [Act.put, List.setIfInBounds_toArray, List.set_cons_zero, List.set_cons_succ]
              show WS _ _ _ _ _ _ _ _ _ _
              refine ws_q (at_lit rfl) rfl rfl rfl ?_
              go_big_quiet_op
              show WS _ _ _ _ _ _ _ _ _ _
              refine ws_q (at_lit rfl) rfl rfl rfl ?_
              go_big_quiet_op
              show WS _ _ _ _ _ _ _ _ _ _
              refine ws_q (at_lit rfl) rfl rfl rfl ?_
              go_big_quiet_op
              show WS _ _ _ _ _ _ _ _ _ _
              refine ws_q (at_lit rfl) rfl rfl rfl ?_
              go_big_quiet_op
              show WS _ _ _ _ _ _ _ _ _ _
              refine ws_q (at_lit rfl) rfl rfl rfl ?_
              go_big_quiet_op
              show WS _ _ _ _ _ _ _ _ _ _
              refine ws_call (at_lit rfl) rfl rfl 50 #[vi, .slice vq vn vc] (fun w => by go_simp) (fun v L' => v = .bool true ∧ L' = pairsS vi L :: intsS (.slice q2 qn c2) (Q.map (·.1)) :: pairsS (.slice iq vn ic) L :: treesT t sp p (ts.map (·.a)) vs :: btS p bank sp N (eSizes [400, 400]) Q :: (rs.map kvR ++ l)) (fun w' F hS hh => ?_) ?_
              · refine (law_pairs (v1 := vi) (v2 := .slice vq vn vc) (ps := L) (qs := L) hh (by simp) (by have := kvR_mem HR.out.2.2.2; simp [this]) (by have := HL.out; omega)).mono ?_
                rintro r w'' ⟨rfl, hK, hh'⟩
                exact ⟨_, _, rfl, hK, ⟨by rw [decide_eq_true rfl], rfl⟩, hh'⟩
              rintro _ _ ⟨rfl, rfl⟩
              refine ⟨fun w F hh => lives (l' := []) (by rw [HFA.out]; simp [liveFacts, Nat.testBit]) (fnil), ?_⟩
              simp only [Act.put, List.setIfInBounds_toArray, List.set_cons_zero, List.set_cons_succ]
              show WS _ _ _ _ _ _ _ _ _ _
              refine ws_q (at_lit rfl) rfl rfl rfl ?_
              go_big_quiet_op
              show WS _ _ _ _ _ _ _ _ _ _
              refine ws_q (at_lit rfl) rfl rfl rfl ?_
              go_big_quiet_op
              show WS _ _ _ _ _ _ _ _ _ _
              refine ws_call (at_lit rfl) rfl rfl 37 #[] (fun w => by go_simp) (fun v L' => v = .bool true ∧ L' = pairsS vi L :: intsS (.slice q2 qn c2) (Q.map (·.1)) :: pairsS (.slice iq vn ic) L :: treesT t sp p (ts.map (·.a)) vs :: btS p bank sp N (eSizes [400, 400]) Q :: (rs.map kvR ++ l)) (fun w' F hS hh => ?_) ?_
              · refine (awake12 hh ((((Ht.out.app _).fr F).cons).cons.cons.cons.cons)).mono ?_
                rintro r w'' ⟨rfl, hK, hh'⟩
                exact ⟨_, _, rfl, hK, ⟨rfl, rfl⟩, hh'⟩
              rintro _ _ ⟨rfl, rfl⟩
              refine ⟨fun w F hh => lives (l' := []) (by rw [HFA.out]; simp [liveFacts, Nat.testBit]) (fnil), ?_⟩
              simp only [Act.put, List.setIfInBounds_toArray, List.set_cons_zero, List.set_cons_succ]
              show WS _ _ _ _ _ _ _ _ _ _
              refine ws_q (at_lit rfl) rfl rfl rfl ?_
              go_big_quiet_op
              show WS _ _ _ _ _ _ _ _ _ _
              refine ws_q (at_lit rfl) rfl rfl rfl ?_
              go_big_quiet_op
              show WS _ _ _ _ _ _ _ _ _ _
              refine ws_end ?_
              intro w7 hK7 h7
              have HF : Hid (Kept w w7 ∧ Has w7 l) := ⟨HK.out.trans hK7, Has.right (m := rs.map kvR) h7.tail.tail.tail.tail.tail⟩
              clear hK7 h7 hh HFA neFA FA fa3 fa12 fa17 fa23 t1 t2 t6 lt1' HK HI HL HPg HRf HFd HDl HIs
              go_wp2
              go_ret
              exact ⟨rfl, HF.out.1, HF.out.2⟩
end Go.Proofs.YtgbgneiciabidaaGreatDoor
