/-
  BtreePages: the walk.
-/
import Derived.Test.YtgbgneiciabidaaGreatDoorGp3
import Derived.Deep.Slices
import Derived.SizedLaws
namespace Go.Proofs.YtgbgneiciabidaaGreatDoor
open Go Go.RowKit
set_option linter.all false

/-- Trees behind so many calls. -/
def ScrM (w : World) (l : List Say) (t sp p bank k : Nat) (wr : World) : Prop :=
  ∃ (Q : Pgs) (ts : List Tre) (vs : List Value) (rs : List (Value × List KV)), Grove Q ts ∧ Rows4 ts vs rs ∧ (∀ u ∈ ts, u.s ≤ 2 * k ∧ u.L.length ≤ k) ∧ Kept w wr ∧ Has wr (treesT t sp p (ts.map (·.a)) vs :: btS p bank sp (100 * k) (eSizes [400, 400]) Q :: (rs.map kvR ++ l))
theorem ScrM.start {w wr : World} {l : List Say} {t sp p bank : Nat} (hK : Kept w wr) (h : Has wr (treesS t sp p :: btS p bank sp 0 (eSizes [400, 400]) [] :: l)) : ScrM w l t sp p bank 0 wr := by
  refine ⟨[], [noTre, noTre, noTre, noTre], [.slice none 0 0, .slice none 0 0, .slice none 0 0, .slice none 0 0], [(.slice none 0 0, [])], Grove.nil.more.more.more.more, ⟨rfl, rfl, fun i t v h1 h2 => ?_⟩, fun u hu => ?_, hK, ?_⟩
  · have e1 : t = noTre := by
      have := List.mem_of_getElem? h1
      simpa using this
    have e2 : v = .slice none 0 0 := by
      have := List.mem_of_getElem? h2
      simpa using this
    rw [e1, e2]
    exact .head _
  · have e1 : u = noTre := by simpa using hu
    rw [e1]
    exact ⟨Nat.zero_le _, Nat.zero_le _⟩
  · have h2 : Has wr (kvS (.slice none 0 0) [] :: treesS t sp p :: btS p bank sp 0 (eSizes [400, 400]) [] :: l) := h.row_nil _ _
    exact h2.reord [1, 1]
theorem ScrM.kept {w wr wx : World} {l : List Say} {t sp p bank k : Nat} (h : ScrM w l t sp p bank k wr) (hx : ∀ m, Has wr m → Has wx m) (hk : Kept w wr → Kept w wx) : ScrM w l t sp p bank k wx := by
  obtain ⟨Q, ts, vs, rs, hT, h4, hb, hK, hh⟩ := h
  exact ⟨Q, ts, vs, rs, hT, h4, hb, hk hK, hx _ hh⟩
theorem ScrM.more {w wr : World} {l : List Say} {t sp p bank k : Nat} (h : ScrM w l t sp p bank k wr) : ScrM w l t sp p bank (k + 1) wr := by
  obtain ⟨Q, ts, vs, rs, hT, h4, hb, hK, hh⟩ := h
  exact ⟨Q, ts, vs, rs, hT, h4, fun u hu => by have := hb u hu; omega, hK, (Has.bt_more (show 100 * k ≤ 100 * (k + 1) by omega) hh.swap).swap⟩
/-- One call more. -/
def StepRes (w : World) (l : List Say) (t sp p bank k : Nat) (r : Ending) (wr : World) : Prop := r = .returned (.tuple #[.bool true, .bool false]) ∧ ScrM w l t sp p bank (k + 1) wr
theorem ScrM.step {w wr : World} {l : List Say} {t sp p bank k : Nat} (h : ScrM w l t sp p bank k wr) (ht : Tab l) (hk : k ≤ 160) (kd tr key val : Int) :
    Calls Tryz.prog 46 #[.pointer (some ⟨t, 0, none⟩), .agg #[.int .i64 kd, .int .i64 tr, .int .i64 key, .int .i64 val]] wr (StepRes w l t sp p bank k) := by
  obtain ⟨Q, ts, vs, rs, hT, h4, hb, hK, hh⟩ := h
  refine (law_step kd tr key val hh ht hT h4 (by omega) (fun u hu => by have := hb u hu; omega)).mono ?_
  rintro r w' (⟨rfl, hK2, Q', ts', vs', rs', hst, hT', h4', hh'⟩ | hf)
  · refine ⟨rfl, Q', ts', vs', rs', hT', h4', hst.grow hb, hK.trans hK2, ?_⟩
    rw [show 100 * (k + 1) = 100 * k + 100 by omega]
    exact hh'
  · refine (hf.never hh.tail.bt_inv.1 hT rfl rfl ?_).elim
    have := weighs_le (ts := ts) (B := 2 * k) fun u hu => (hb u hu).1
    rw [h4.four] at this
    omega
def PgM (w : World) (l : List Say) (t sp p bank N : Nat) (Q : Pgs) (ts : List Tre) (vs : List Value) (rs : List (Value × List KV)) (L : List KV) (lv gv : Value) (n : Nat) (fr : Int) (wr : World) : Prop :=
  ∃ A B, PgAt L A B fr ∧ B.length = n ∧ Kept w wr ∧ Has wr (pairsS gv A :: pairsS lv L :: treesT t sp p (ts.map (·.a)) vs :: btS p bank sp N (eSizes [400, 400]) Q :: (rs.map kvR ++ l))
set_option maxHeartbeats 8000000 in
set_option maxRecDepth 100000 in
theorem law_pages {w : World} {l : List Say} (os : List O4) (lim : Int) {sv : Value} (h : Has w l) (ht : Tab l) (hs : O4Srcs l sv os) :
    Calls Tryz.prog 8 #[sv, .int .i64 lim] w (fun r w' => r = .returned (.bool true) ∧ Kept w w' ∧ Has w' l) := by
  obtain ⟨sa, sc, rfl, _⟩ := hs w h
  have h1 := (h.alloc (.cells #[.int .i64 400, .int .i64 400] 3)).row_of_pts (n := 2) (xs := [.int .i64 400, .int .i64 400]) (size := 1) (by simp) (Nat.le_refl _) (by simp [maxLen]) (by simp) (by simp)
  have h2 : Has (w.alloc (.cells #[.int .i64 400, .int .i64 400] 3)) (intsS (.slice (some ⟨w.heap.size, 0, none⟩) 2 2) [400, 400] :: l) := h1
  have HM := Lib.hid (made12 [400, 400] h2 (Srcs.of_ints (.head _)) (by decide))
  have HK := Lib.hid ((Kept.refl w).alloc (.cells #[.int .i64 400, .int .i64 400] 3))
  have Ht := Lib.hid ht
  have Hs := Lib.hid hs
  clear h h1 h2 ht hs
  go_enter Tryz.func8, Tryz.ntmps8
  go_wp2_with fail
  refine HM.out.mono ?_
  rintro r w1 ⟨t, sp, p, bank, rfl, hK1, h3⟩
  have h4 : Has w1 (treesS t sp p :: btS p bank sp 0 (eSizes [400, 400]) [] :: l) := Has.skip (A := [_, _]) (M := [_]) h3
  have c1 : w1.cell? ⟨t, 1, none⟩ = some (.pointer (some ⟨p, 0, none⟩)) := cell_of h4.got 1 rfl
  have lt1 := World.block_lt_of_cell? _ _ c1
  have HK1 := Lib.hid (HK.out.trans hK1)
  have H4 := Lib.hid h4
  obtain ⟨n, hn⟩ : ∃ n, os.length = n := ⟨_, rfl⟩
  have Hn := Lib.hid hn
  rw [hn]
  clear h3 h4 hK1 HM HK hn
  generalize w.heap.size = g0 at *
  by_cases hbad : 100 < n ∨ lim < 1
  · skip
    have HA := Lib.hid (awake12 H4.out Ht.out.cons.cons)
    have hbI : (100 : Int) < n ∨ (¬ (100 : Int) < n ∧ lim < 1) := by omega
    have hK1 := HK1.out
    clear H4 hbad
    rcases hbI with hb | ⟨hb, hb2⟩
    all_goals
      go_wp2_with fail
      refine HA.out.mono ?_
      rintro r w2 ⟨rfl, hK2, h5⟩
      have HF : Hid (Kept w w2 ∧ Has w2 l) := ⟨HK1.out.trans hK2, h5.tail.tail⟩
      clear hK2 h5 HA hK1 HK1
      go_wp2
      go_ret
      exact ⟨rfl, HF.out.1, HF.out.2⟩
  have hb1 : decide ((100 : Int) < n) = false := by simp; omega
  have hb2 : decide (lim < 1) = false := by simp; omega
  have hb3 : ¬ (100 : Int) < n := by omega
  have hb4 : ¬ lim < 1 := by omega
  have hn100 : n ≤ 100 := by omega
  have HM0 : Hid (ScrM w l t sp p bank 0 w1) := ScrM.start HK1.out H4.out
  clear HK1 H4 hbad
  go_wp2
  go_loopg [48] n (fun gk iv wr => ∃ k : Nat, k ≤ n ∧ gk = n - k ∧ iv = .int .i64 k ∧ Hid (ScrM w l t sp p bank k wr))
  case atStart => exact ⟨0, Nat.zero_le _, rfl, rfl, HM0⟩
  case round =>
    clear HM0
    obtain ⟨k, hk, rfl, rfl, HM⟩ := hrel
    by_cases hlt : k < n
    · skip
      obtain ⟨Q, ts, vs, rs, hT, h4, hb, hK, hh⟩ := HM.out
      have hhl := Has.right (m := rs.map kvR) hh.tail.tail
      obtain ⟨_, _, hv', hrd⟩ := Hs.out wr hhl
      injection hv' with j1 j2 j3
      subst j1
      clear j2 j3
      obtain ⟨gb, go, rfl, hat⟩ := hrd k (by have := Hn.out; omega)
      generalize os[k]'_ = o at hat
      obtain ⟨kd, tr, key, val⟩ := o
      obtain ⟨c0, c1', c2, c3⟩ := hat
      simp only at c0 c1' c2 c3
      have lz := World.block_lt_of_cell? _ _ c0
      have kI : (k : Int) < (n : Int) := by omega
      have k0 : (0 : Int) ≤ k := by omega
      clear hT h4 hb hK hh hhl hrd
      by_cases hkd : 2 < kd
      · skip
        have HM2 : Hid (ScrM w l t sp p bank (k + 1) (wr.alloc (.cells #[.int .i64 kd, .int .i64 tr, .int .i64 key, .int .i64 val] 83))) := HM.out.more.kept (fun m hm => hm.alloc_off _) fun hK => hK.alloc _
        clear HM
        go_wp2
        go_roundg (n - (k + 1))
        case measure => omega
        case rel => exact ⟨k + 1, by omega, rfl, by go_num, HM2⟩
      · skip
        have HM2 : Hid (ScrM w l t sp p bank k (wr.alloc (.cells #[.int .i64 kd, .int .i64 0, .int .i64 key, .int .i64 val] 83))) := HM.out.kept (fun m hm => hm.alloc_off _) fun hK => hK.alloc _
        have HC := Lib.hid (HM2.out.step Ht.out (by omega) kd 0 key val)
        clear HM
        go_wp2_with fail
        refine HC.out.mono ?_
        rintro r w5 ⟨rfl, hM5⟩
        have HM5 := Lib.hid hM5
        clear hM5 HC HM2
        go_wp2
        go_roundg (n - (k + 1))
        case measure => omega
        case rel => exact ⟨k + 1, by omega, rfl, by go_num, HM5⟩
    · skip
      have hke : k = n := by omega
      subst hke
      obtain ⟨Q, ts, vs, rs, hT, h4, hb, hK, hh⟩ := HM.out
      obtain ⟨u, v, hu, hv, hr⟩ := h4.at (i := 0) (by omega)
      have hR := hT.root u (List.mem_of_getElem? hu)
      have hI := hh.tail.bt_inv.1
      have hbu := hb u (List.mem_of_getElem? hu)
      have hbd := hR.bound hI
      have hsr := hR.srt
      have hua : (ts.map (·.a))[0]? = some u.a := by rw [List.getElem?_map, hu]; rfl
      have hit := hR.pos hI
      obtain ⟨N, hN⟩ : ∃ N, 100 * k = N := ⟨_, rfl⟩
      rw [hN] at hh
      obtain ⟨L, hL⟩ : ∃ L, u.L = L := ⟨_, rfl⟩
      obtain ⟨a, ha⟩ : ∃ a, u.a = a := ⟨_, rfl⟩
      rw [hL] at hR hbd hsr hit hbu
      rw [ha] at hR hua
      have HI : Hid (∀ w' l' (fr lm : Int), Has w' (btS p bank sp N (eSizes [400, 400]) Q :: l') → Calls Tryz.prog 42 #[.pointer (some ⟨p, 0, none⟩), .int .i64 a, .int .i64 fr, .int .i64 lm] w' (ItemsPost p bank sp N (eSizes [400, 400]) Q (itemsL fr lm L) l' w')) := fun w' l' fr lm h => bt_Items a fr lm h hR (by omega)
      have HL : Hid (itemsL 0 (-1) L = L ∧ Srt L ∧ (∀ p ∈ L, 0 ≤ p.1 ∧ p.1 ≤ 1099511627776) ∧ L.length ≤ 100) := ⟨items_all hit, hsr, hbd, by omega⟩
      have t1 : wr.cell? ⟨t, 1, none⟩ = some (.pointer (some ⟨p, 0, none⟩)) := cell_of hh.got 1 rfl
      have t2 : wr.cell? ⟨t, 2, none⟩ = some (.int .i64 a) := cell_of hh.got (2 + 0) (treesC_root hua)
      have lt2 := World.block_lt_of_cell? _ _ t1
      have Hua := Lib.hid hua
      have HK := Lib.hid hK
      have HH := Lib.hid hh
      clear hT h4 hb hK hh hu hv hr hR hI hbu hbd hsr hua hit HM hN hL ha
      go_upto_region 13 with fail
      have hh := HH.out
      clear HH
      obtain ⟨FA, HFA⟩ : ∃ FA : List (Nat × Addr × Value), Hid (FA = [(3, ⟨t, 1, none⟩, .pointer (some ⟨p, 0, none⟩)), (8, ⟨t, 2, none⟩, .int .i64 a)]) := ⟨_, rfl⟩
      have fa3 : ∀ n : In (factsOf FA 3), n.w.cell? ⟨t, 1, none⟩ = some (.pointer (some ⟨p, 0, none⟩)) := fun n => factsOf.cell (by rw [HFA.out]; simp) n
      have fa8 : ∀ n : In (factsOf FA 8), n.w.cell? ⟨t, 2, none⟩ = some (.int .i64 a) := fun n => factsOf.cell (by rw [HFA.out]; simp) n
      have hFA : ∀ p ∈ FA, wr.cell? p.2.1 = some p.2.2 := by rw [HFA.out]; exact (fcons t1 (fcons t2 fnil))
      haveI neFA : ∀ k, Nonempty (In (factsOf FA k)) := fun k => ⟨⟨_, factsOf.drew hFA k⟩⟩
      refine ws_begin [0, 1, 2, 3, 4, 5, 6, 7, 8, 9, 10] (factsOf FA) (treesT t sp p (ts.map (·.a)) vs :: btS p bank sp N (eSizes [400, 400]) Q :: (rs.map kvR ++ l)) #[0, 1, 3, 7, 0, 16, 48, 112, 240, 511, 1023] (by kernel_rfl) (by kernel_rfl) (by kernel_rfl) factsOf.alloc (factsOf.drew hFA) hh ?_
      clear hFA
      refine ws_q (at_lit rfl) rfl rfl rfl ?_
      go_big_quiet_op
      show WS _ _ _ _ _ _ _ _ _ _
      refine ws_q (at_lit rfl) rfl rfl rfl ?_
      go_big_quiet_op
      show WS _ _ _ _ _ _ _ _ _ _
      refine ws_q (at_lit rfl) rfl rfl rfl ?_
      go_big_quiet_op
      show WS _ _ _ _ _ _ _ _ _ _
      refine ws_q (at_lit rfl) rfl rfl rfl ?_
      go_big_quiet_op
      show WS _ _ _ _ _ _ _ _ _ _
      refine ws_q (at_lit rfl) rfl rfl rfl ?_
      go_big_quiet_op
      show WS _ _ _ _ _ _ _ _ _ _
      refine ws_q (at_lit rfl) rfl rfl rfl ?_
      go_big_quiet_op
      show WS _ _ _ _ _ _ _ _ _ _
      refine ws_q (at_lit rfl) rfl rfl rfl ?_
      go_big_quiet_op
      show WS _ _ _ _ _ _ _ _ _ _
      refine ws_q (at_lit rfl) rfl rfl rfl ?_
      go_big_quiet_op
      show WS _ _ _ _ _ _ _ _ _ _
      refine ws_q (at_lit rfl) rfl rfl rfl ?_
      go_big_quiet_op
      show WS _ _ _ _ _ _ _ _ _ _
      refine ws_call (at_lit rfl) rfl rfl 42 #[.pointer (some ⟨p, 0, none⟩), .int .i64 a, .int .i64 0, .int .i64 (-1)] (fun w => by go_simp) (fun v L' => L' = pairsS v L :: treesT t sp p (ts.map (·.a)) vs :: btS p bank sp N (eSizes [400, 400]) Q :: (rs.map kvR ++ l)) (fun w' F hS hh => ?_) ?_
      · have hq := HI.out w' _ 0 (-1) (hh.pull 1)
        rw [HL.out.1] at hq
        refine hq.mono ?_
        rintro r w'' ⟨va, rfl, hK, hh'⟩
        exact ⟨_, _, rfl, hK, rfl, hh'.reord [0, 1]⟩
      rintro va _ rfl
      refine ⟨fun w F hh => lives (l' := []) (by rw [HFA.out]; simp [liveFacts, Nat.testBit]) (fnil), ?_⟩
      simp only [Act.put, List.setIfInBounds_toArray, List.set_cons_zero, List.set_cons_succ]
      show WS _ _ _ _ _ _ _ _ _ _
      refine ws_q (at_lit rfl) rfl rfl rfl ?_
      go_big_quiet_op
      show WS _ _ _ _ _ _ _ _ _ _
      refine ws_end ?_
      intro w5 hK5 h5
      obtain ⟨vq, vc, rfl, _, _⟩ := h5.pairs_read (v := va) (ps := L) (.head _)
      have HM0 : Hid (PgM w l t sp p bank N Q ts vs rs L (.slice vq L.length vc) (.slice none 0 0) L.length 0 w5) := ⟨[], L, ⟨rfl, fun p hp => (nomatch hp), fun p hp => (HL.out.2.2.1 p hp).1⟩, rfl, HK.out.trans hK5, h5.row_nil _ _⟩
      clear hK5 h5 hh HFA neFA FA fa3 fa8 t1 t2 lt2 HK
      obtain ⟨m, hm⟩ : ∃ m, L.length = m := ⟨_, rfl⟩
      have Hm := Lib.hid hm
      have hm100 : m ≤ 100 := by have := HL.out.2.2.2; omega
      rw [hm] at HM0 ⊢
      clear hm
      obtain ⟨li, rfl⟩ : ∃ li : Nat, lim = (li : Int) := ⟨lim.toNat, by omega⟩
      go_wp2
      go_loopg [11, 12] m (fun gk gv fv wr => ∃ (fr : Int), gk ≤ m ∧ fv = .int .i64 fr ∧ (0 ≤ fr ∧ fr ≤ 1099511627777) ∧ Hid (PgM w l t sp p bank N Q ts vs rs L (.slice vq m vc) gv gk fr wr))
      case atStart => exact ⟨0, Nat.le_refl _, rfl, ⟨by decide, by decide⟩, HM0⟩
      case round =>
        clear HM0
        obtain ⟨fr, hgk, rfl, hfr, HM⟩ := hrel
        obtain ⟨A, B, hpg, hB, hK, hh⟩ := HM.out
        obtain ⟨gq, gc, rfl, _, _⟩ := hh.pairs_read (ps := A) (.head _)
        have t1 : wr.cell? ⟨t, 1, none⟩ = some (.pointer (some ⟨p, 0, none⟩)) := cell_of (hh.at (b := t) (o := (.cells (treesC sp p (ts.map (·.a)) vs) 70 (0, 0))) (by simp [treesT])) 1 rfl
        have t2 : wr.cell? ⟨t, 2, none⟩ = some (.int .i64 a) := cell_of (hh.at (b := t) (o := (.cells (treesC sp p (ts.map (·.a)) vs) 70 (0, 0))) (by simp [treesT])) (2 + 0) (treesC_root Hua.out)
        have lt2 := World.block_lt_of_cell? _ _ t1
        have hli : 1 ≤ li := by omega
        have hit : Hid (itemsL fr (li : Int) L = B.take li) := by show _ = _; rw [items_take hli, hpg.from]
        have hAl : A.length + B.length = m := by rw [← Hm.out, hpg.all, List.length_append]
        have Hpg := Lib.hid (And.intro hpg hB)
        have HK := Lib.hid hK
        have HH := Lib.hid hh
        obtain ⟨an, han⟩ : ∃ an, A.length = an := ⟨_, rfl⟩
        have Han := Lib.hid han
        rw [han] at HH ⊢
        clear hpg hB hK hh HM han
        rename_i gk _
        go_upto_region 16 with fail
        have hh := HH.out
        clear HH
        obtain ⟨FA, HFA⟩ : ∃ FA : List (Nat × Addr × Value), Hid (FA = [(3, ⟨t, 1, none⟩, .pointer (some ⟨p, 0, none⟩)), (8, ⟨t, 2, none⟩, .int .i64 a)]) := ⟨_, rfl⟩
        have fa3 : ∀ n : In (factsOf FA 3), n.w.cell? ⟨t, 1, none⟩ = some (.pointer (some ⟨p, 0, none⟩)) := fun n => factsOf.cell (by rw [HFA.out]; simp) n
        have fa8 : ∀ n : In (factsOf FA 8), n.w.cell? ⟨t, 2, none⟩ = some (.int .i64 a) := fun n => factsOf.cell (by rw [HFA.out]; simp) n
        have hFA : ∀ p ∈ FA, wr.cell? p.2.1 = some p.2.2 := by rw [HFA.out]; exact (fcons t1 (fcons t2 fnil))
        haveI neFA : ∀ k, Nonempty (In (factsOf FA k)) := fun k => ⟨⟨_, factsOf.drew hFA k⟩⟩
        refine ws_begin [0, 1, 2, 3, 4, 5, 6, 7, 8, 9, 10, 11, 12] (factsOf FA) (pairsS (.slice gq an gc) A :: pairsS (.slice vq m vc) L :: treesT t sp p (ts.map (·.a)) vs :: btS p bank sp N (eSizes [400, 400]) Q :: (rs.map kvR ++ l)) #[0, 1, 3, 7, 0, 16, 48, 112, 240, 0, 0, 2047, 4095] (by kernel_rfl) (by kernel_rfl) (by kernel_rfl) factsOf.alloc (factsOf.drew hFA) hh ?_
        clear hFA
        refine ws_q (at_lit rfl) rfl rfl rfl ?_
        go_big_quiet_op
        show WS _ _ _ _ _ _ _ _ _ _
        refine ws_q (at_lit rfl) rfl rfl rfl ?_
        go_big_quiet_op
        show WS _ _ _ _ _ _ _ _ _ _
        refine ws_q (at_lit rfl) rfl rfl rfl ?_
        go_big_quiet_op
        show WS _ _ _ _ _ _ _ _ _ _
        refine ws_q (at_lit rfl) rfl rfl rfl ?_
        go_big_quiet_op
        show WS _ _ _ _ _ _ _ _ _ _
        refine ws_q (at_lit rfl) rfl rfl rfl ?_
        go_big_quiet_op
        show WS _ _ _ _ _ _ _ _ _ _
        refine ws_q (at_lit rfl) rfl rfl rfl ?_
        go_big_quiet_op
        show WS _ _ _ _ _ _ _ _ _ _
        refine ws_q (at_lit rfl) rfl rfl rfl ?_
        go_big_quiet_op
        show WS _ _ _ _ _ _ _ _ _ _
        refine ws_q (at_lit rfl) rfl rfl rfl ?_
        go_big_quiet_op
        show WS _ _ _ _ _ _ _ _ _ _
        refine ws_q (at_lit rfl) rfl rfl rfl ?_
        go_big_quiet_op
        show WS _ _ _ _ _ _ _ _ _ _
        refine ws_q (at_lit rfl) rfl rfl rfl ?_
        go_big_quiet_op
        show WS _ _ _ _ _ _ _ _ _ _
        refine ws_q (at_lit rfl) rfl rfl rfl ?_
        go_big_quiet_op
        show WS _ _ _ _ _ _ _ _ _ _
        refine ws_call (at_lit rfl) rfl rfl 42 #[.pointer (some ⟨p, 0, none⟩), .int .i64 a, .int .i64 fr, .int .i64 (li : Int)] (fun w => by go_simp) (fun v L' => L' = pairsS v (B.take li) :: pairsS (.slice gq an gc) A :: pairsS (.slice vq m vc) L :: treesT t sp p (ts.map (·.a)) vs :: btS p bank sp N (eSizes [400, 400]) Q :: (rs.map kvR ++ l)) (fun w' F hS hh => ?_) ?_
        · have hq := HI.out w' _ fr (li : Int) (hh.pull 3)
          rw [hit.out] at hq
          refine hq.mono ?_
          rintro r w'' ⟨va, rfl, hK, hh'⟩
          exact ⟨_, _, rfl, hK, rfl, hh'.reord [0, 1, 1, 1]⟩
        rintro va _ rfl
        refine ⟨fun w F hh => lives (l' := []) (by rw [HFA.out]; simp [liveFacts, Nat.testBit]) (fnil), ?_⟩
        simp only [Act.put, List.setIfInBounds_toArray, List.set_cons_zero, List.set_cons_succ]
        show WS _ _ _ _ _ _ _ _ _ _
        refine ws_q (at_lit rfl) rfl rfl rfl ?_
        go_big_quiet_op
        show WS _ _ _ _ _ _ _ _ _ _
        refine ws_end ?_
        intro w5 hK5 h5
        have hp5 := h5.pairs_read (v := va) (ps := B.take li) (.head _)
        obtain ⟨bq, bc, rfl, _, hrd⟩ := hp5
        obtain ⟨bn, hbn⟩ : ∃ bn, (B.take li).length = bn := ⟨_, rfl⟩
        have hbl : bn = min li B.length := by rw [← hbn, List.length_take]
        rw [hbn] at h5 ⊢
        have hsw := h5.swap
        have H5 : Hid (Has w5 (pairsS (.slice gq an gc) A :: pairsS (.slice bq bn bc) (B.take li) :: pairsS (.slice vq m vc) L :: treesT t sp p (ts.map (·.a)) vs :: btS p bank sp N (eSizes [400, 400]) Q :: (rs.map kvR ++ l))) := hsw
        have HK5 := Lib.hid (HK.out.trans hK5)
        have hbm : bn ≤ m := by omega
        have hgb := Hpg.out.2
        clear hK5 h5 hsw hh HFA neFA FA fa3 fa8 t1 t2 lt2 HK hit
        by_cases hlast : B.length < li
        · skip
          have hbB : bn = B.length := by omega
          have hI1 : (bn : Int) ≤ (li : Int) := by omega
          have hI2 : (bn : Int) < (li : Int) := by omega
          have HBt : Hid (B.take li = B ∧ L = A ++ B) := ⟨List.take_of_length_le (by omega), Hpg.out.1.all⟩
          have hab : A.length + B.length ≤ 100 := by omega
          clear hrd hbl hgb hbn hbB hAl
          go_upto_region 20 with (at_builtin; refine wpList_append_pairs rfl (.tmp 94) (.tmp 95) rfl rfl rfl H5.out (.head _) (by rw [HBt.out.1]; omega) ?_; intro v6 w6 hK6 h6)
          have H6 : Hid (Has w6 (pairsS v6 L :: pairsS (.slice vq m vc) L :: treesT t sp p (ts.map (·.a)) vs :: btS p bank sp N (eSizes [400, 400]) Q :: (rs.map kvR ++ l))) := by
            have h7 := h6
            rw [HBt.out.1, ← HBt.out.2] at h7
            exact Has.skip (A := [_]) (M := [_]) h7
          have HK6 := Lib.hid (HK5.out.trans hK6)
          clear hK6 h6 H5 HK5 HBt
          go_upto_region 22 with fail
          have hh := H6.out
          have t1 : w6.cell? ⟨t, 1, none⟩ = some (.pointer (some ⟨p, 0, none⟩)) := cell_of (hh.at (b := t) (o := (.cells (treesC sp p (ts.map (·.a)) vs) 70 (0, 0))) (by simp [treesT])) 1 rfl
          have t2 : w6.cell? ⟨t, 2, none⟩ = some (.int .i64 a) := cell_of (hh.at (b := t) (o := (.cells (treesC sp p (ts.map (·.a)) vs) 70 (0, 0))) (by simp [treesT])) (2 + 0) (treesC_root Hua.out)
          have lt2 := World.block_lt_of_cell? _ _ t1
          clear H6
          obtain ⟨FA, HFA⟩ : ∃ FA : List (Nat × Addr × Value), Hid (FA = [(7, ⟨t, 1, none⟩, .pointer (some ⟨p, 0, none⟩)), (12, ⟨t, 2, none⟩, .int .i64 a)]) := ⟨_, rfl⟩
          have fa7 : ∀ n : In (factsOf FA 7), n.w.cell? ⟨t, 1, none⟩ = some (.pointer (some ⟨p, 0, none⟩)) := fun n => factsOf.cell (by rw [HFA.out]; simp) n
          have fa12 : ∀ n : In (factsOf FA 12), n.w.cell? ⟨t, 2, none⟩ = some (.int .i64 a) := fun n => factsOf.cell (by rw [HFA.out]; simp) n
          have hFA : ∀ p ∈ FA, w6.cell? p.2.1 = some p.2.2 := by rw [HFA.out]; exact (fcons t1 (fcons t2 fnil))
          haveI neFA : ∀ k, Nonempty (In (factsOf FA k)) := fun k => ⟨⟨_, factsOf.drew hFA k⟩⟩
          refine ws_begin [0, 1, 2, 3, 4, 5, 6, 7, 8, 9, 10, 11, 12, 13, 14, 15, 16, 17, 18, 19, 20] (factsOf FA) (pairsS v6 L :: pairsS (.slice vq m vc) L :: treesT t sp p (ts.map (·.a)) vs :: btS p bank sp N (eSizes [400, 400]) Q :: (rs.map kvR ++ l)) #[0, 0, 3, 7, 15, 31, 63, 127, 15, 271, 783, 1807, 3855, 8191, 16383, 32767, 65535, 131071, 262143, 524287, 1048575] (by kernel_rfl) (by kernel_rfl) (by kernel_rfl) factsOf.alloc (factsOf.drew hFA) hh ?_
          clear hFA
          refine ws_q (at_lit rfl) rfl rfl rfl ?_
          go_big_quiet_op
          show WS _ _ _ _ _ _ _ _ _ _
          refine ws_q (at_lit rfl) rfl rfl rfl ?_
          go_big_quiet_op
          show WS _ _ _ _ _ _ _ _ _ _
          refine ws_call (at_lit rfl) rfl rfl 41 #[v6, .slice vq m vc] (fun w => by go_simp) (fun v L' => v = .bool true ∧ L' = pairsS v6 L :: pairsS (.slice vq m vc) L :: treesT t sp p (ts.map (·.a)) vs :: btS p bank sp N (eSizes [400, 400]) Q :: (rs.map kvR ++ l)) (fun w' F hS hh => ?_) ?_
          · refine (law_equal (v1 := v6) (v2 := .slice vq m vc) (ps := L) (qs := L) hh (by simp) (by simp) (by have := Hm.out; omega)).mono ?_
            rintro r w'' ⟨rfl, hK, hh'⟩
            exact ⟨_, _, rfl, hK, ⟨by rw [decide_eq_true rfl], rfl⟩, hh'⟩
          rintro _ _ ⟨rfl, rfl⟩
          refine ⟨fun w F hh => lives (l' := [(7, ⟨t, 1, none⟩, .pointer (some ⟨p, 0, none⟩)), (12, ⟨t, 2, none⟩, .int .i64 a)]) (by rw [HFA.out]; simp [liveFacts, Nat.testBit]) (fcons (cell_of (hh.at (b := t) (o := (.cells (treesC sp p (ts.map (·.a)) vs) 70 (0, 0))) (by simp [treesT])) 1 rfl) <| fcons (cell_of (hh.at (b := t) (o := (.cells (treesC sp p (ts.map (·.a)) vs) 70 (0, 0))) (by simp [treesT])) (2 + 0) (treesC_root Hua.out)) <| fnil), ?_⟩
          simp only [Act.put, List.setIfInBounds_toArray, List.set_cons_zero, List.set_cons_succ]
          show WS _ _ _ _ _ _ _ _ _ _
          refine ws_q (at_lit rfl) rfl rfl rfl ?_
          go_big_quiet_op
          show WS _ _ _ _ _ _ _ _ _ _
          refine ws_q (at_lit rfl) rfl rfl rfl ?_
          go_big_quiet_op
          show WS _ _ _ _ _ _ _ _ _ _
          refine ws_q (at_lit rfl) rfl rfl rfl ?_
          go_big_quiet_op
          show WS _ _ _ _ _ _ _ _ _ _
          refine ws_q (at_lit rfl) rfl rfl rfl ?_
          go_big_quiet_op
          show WS _ _ _ _ _ _ _ _ _ _
          refine ws_q (at_lit rfl) rfl rfl rfl ?_
          go_big_quiet_op
          show WS _ _ _ _ _ _ _ _ _ _
          refine ws_q (at_lit rfl) rfl rfl rfl ?_
          go_big_quiet_op
          show WS _ _ _ _ _ _ _ _ _ _
          refine ws_q (at_lit rfl) rfl rfl rfl ?_
          go_big_quiet_op
          show WS _ _ _ _ _ _ _ _ _ _
          refine ws_q (at_lit rfl) rfl rfl rfl ?_
          go_big_quiet_op
          show WS _ _ _ _ _ _ _ _ _ _
          refine ws_q (at_lit rfl) rfl rfl rfl ?_
          go_big_quiet_op
          show WS _ _ _ _ _ _ _ _ _ _
          refine ws_q (at_lit rfl) rfl rfl rfl ?_
          go_big_quiet_op
          show WS _ _ _ _ _ _ _ _ _ _
          refine ws_call (at_lit rfl) rfl rfl 42 #[.pointer (some ⟨p, 0, none⟩), .int .i64 a, .int .i64 0, .int .i64 0] (fun w => by go_simp) (fun v L' => ∃ q c, v = .slice q 0 c ∧ L' = pairsS (.slice q 0 c) [] :: pairsS v6 L :: pairsS (.slice vq m vc) L :: treesT t sp p (ts.map (·.a)) vs :: btS p bank sp N (eSizes [400, 400]) Q :: (rs.map kvR ++ l)) (fun w' F hS hh => ?_) ?_
          · have hq := HI.out w' _ 0 0 (hh.pull 3)
            rw [show itemsL 0 0 L = [] from if_pos rfl] at hq
            refine hq.mono ?_
            rintro r w'' ⟨va, rfl, hK, hh'⟩
            obtain ⟨q, c, rfl, _, _⟩ := hh'.pairs_read (v := va) (ps := []) (.head _)
            exact ⟨_, _, rfl, hK, ⟨q, c, rfl, rfl⟩, hh'.reord [0, 1, 1, 1]⟩
          rintro _ _ ⟨q, c, rfl, rfl⟩
          refine ⟨fun w F hh => lives (l' := []) (by rw [HFA.out]; simp [liveFacts, Nat.testBit]) (fnil), ?_⟩
          simp only [Act.put, List.setIfInBounds_toArray, List.set_cons_zero, List.set_cons_succ]
          show WS _ _ _ _ _ _ _ _ _ _
          refine ws_len (at_lit rfl) rfl rfl (.tmp 122) 75 rfl Tryz.underlying75 _ _ _ rfl ?_
          simp only [Act.put, List.setIfInBounds_toArray, List.set_cons_zero, List.set_cons_succ]
          show WS _ _ _ _ _ _ _ _ _ _
          refine ws_q (at_lit rfl) rfl rfl rfl ?_
          go_big_quiet_op
          show WS _ _ _ _ _ _ _ _ _ _
          refine ws_q (at_lit rfl) rfl rfl rfl ?_
          go_big_quiet_op
          show WS _ _ _ _ _ _ _ _ _ _
          refine ws_q (at_lit rfl) rfl rfl rfl ?_
          go_big_quiet_op
          show WS _ _ _ _ _ _ _ _ _ _
          refine ws_call (at_lit rfl) rfl rfl 37 #[] (fun w => by go_simp) (fun v L' => v = .bool true ∧ L' = pairsS (.slice q 0 c) [] :: pairsS v6 L :: pairsS (.slice vq m vc) L :: treesT t sp p (ts.map (·.a)) vs :: btS p bank sp N (eSizes [400, 400]) Q :: (rs.map kvR ++ l)) (fun w' F hS hh => ?_) ?_
          · refine (awake12 hh ((((Ht.out.app _).fr F).cons).cons.cons.cons.cons)).mono ?_
            rintro r w'' ⟨rfl, hK, hh'⟩
            exact ⟨_, _, rfl, hK, ⟨rfl, rfl⟩, hh'⟩
          rintro _ _ ⟨rfl, rfl⟩
          refine ⟨fun w F hh => lives (l' := []) (by rw [HFA.out]; simp [liveFacts, Nat.testBit]) (fnil), ?_⟩
          simp only [Act.put, List.setIfInBounds_toArray, List.set_cons_zero, List.set_cons_succ]
          show WS _ _ _ _ _ _ _ _ _ _
          refine ws_q (at_lit rfl) rfl rfl rfl ?_
          go_big_quiet_op
          show WS _ _ _ _ _ _ _ _ _ _
          refine ws_q (at_lit rfl) rfl rfl rfl ?_
          go_big_quiet_op
          show WS _ _ _ _ _ _ _ _ _ _
          refine ws_end ?_
          intro w7 hK7 h7
          have HF : Hid (Kept w w7 ∧ Has w7 l) := ⟨HK6.out.trans hK7, Has.right (m := rs.map kvR) h7.tail.tail.tail.tail.tail⟩
          clear hK7 h7 hh HFA neFA FA fa7 fa12 t1 t2 lt2 HK6 HI HL
          go_wp2
          go_ret
          exact ⟨rfl, HF.out.1, HF.out.2⟩
        · skip
          have hbB : bn = li := by omega
          obtain ⟨x, hx⟩ : ∃ x, B[li - 1]? = some x := ⟨_, List.getElem?_eq_getElem (by omega)⟩
          have hxt : (B.take li)[li - 1]? = some x := by rw [List.getElem?_take_of_lt (by omega)]; exact hx
          have hxb := HL.out.2.2.1 x (by rw [Hpg.out.1.all]; exact List.mem_append_right _ (List.mem_of_getElem? hx))
          have HN : Hid (PgAt L (A ++ B.take li) (B.drop li) (x.1 + 1)) := Hpg.out.1.next HL.out.2.1 hli (by omega) hx
          have Hx := Lib.hid hxt
          have hI1 : ¬ (li : Int) < (bn : Int) := by omega
          have hI2 : ¬ (bn : Int) < (li : Int) := by omega
          have hI3 : (bn : Int) ≤ (li : Int) := by omega
          have hln : (A ++ B.take li).length ≤ 1000000 := by rw [List.length_append, hbn]; omega
          have hln2 : A.length + (B.take li).length ≤ 1000000 := by rw [List.length_append] at hln; exact hln
          have Hln := Lib.hid hln2
          have hBn : li ≤ B.length := by omega
          clear hrd hx hxt hln hln2 hbl hgb hbn hbm
          subst hbB
          go_upto_region 20 with (at_builtin; refine wpList_append_pairs rfl (.tmp 94) (.tmp 95) rfl rfl rfl H5.out (.head _) Hln.out ?_; intro v6 w6 hK6 h6)
          obtain ⟨_, _, e1, _, hrd⟩ := h6.pairs_read (v := .slice bq bn bc) (ps := B.take bn) (.tail _ (.head _))
          injection e1 with e1 e2 e3
          subst e1
          clear e2 e3
          obtain ⟨gb, rfl, x0, _⟩ := hrd (bn - 1) x Hx.out
          have lx := World.block_lt_of_cell? _ _ x0
          have HM2 : Hid (PgM w l t sp p bank N Q ts vs rs L (.slice vq m vc) v6 (B.drop bn).length (x.1 + 1) w6) := ⟨A ++ B.take bn, B.drop bn, HN.out, rfl, HK5.out.trans hK6, Has.skip (A := [_]) (M := [_]) h6⟩
          obtain ⟨jn, hjn⟩ : ∃ jn : Nat, jn = bn - 1 := ⟨_, rfl⟩
          rw [← hjn] at x0
          have jI : (jn : Int) < (bn : Int) := by omega
          have j0 : (0 : Int) ≤ jn := by omega
          have hw1 : IntKind.i64.wrap ((bn : Int) - 1) = (jn : Int) := by rw [IntWalk.i64_in _ (by omega)]; omega
          obtain ⟨xk, xv⟩ := x
          simp only at x0 hxb HM2
          have hw2 : IntKind.i64.wrap (xk + 1) = xk + 1 := IntWalk.i64_in _ (by omega)
          have hms : (B.drop bn).length < B.length ∧ (B.drop bn).length ≤ m := by rw [List.length_drop]; omega
          clear hK6 h6 H5 hrd HN Hx HK5 hjn hAl
          go_wp2
          go_roundg ((B.drop bn).length)
          case measure => have := Hpg.out.2; omega
          case rel => exact ⟨xk + 1, hms.2, rfl, ⟨by omega, by omega⟩, HM2⟩
end Go.Proofs.YtgbgneiciabidaaGreatDoor
/-
  The door of a law: a script of layer 12 that came in.
-/
namespace Go.Proofs.YtgbgneiciabidaaGreatDoor
open Go Go.ChangeShapes Go.WideShapes Go.ChangeAt Go.RowKit
set_option linter.all false

set_option maxRecDepth 100000 in
theorem op12_fields : ∃ f0 f1 f2 f3 : Field, Tryz.prog.underlying 83 = some (.struct #[f0, f1, f2, f3]) ∧
    (f0.type = 3 ∧ f0.offset = 0) ∧ (f1.type = 3 ∧ f1.offset = 1) ∧ (f2.type = 3 ∧ f2.offset = 2) ∧ f3.type = 3 ∧ f3.offset = 3 :=
  by
  refine ⟨_, _, _, _, Tryz.underlying83, ?_⟩
  exact ⟨⟨rfl, rfl⟩, ⟨rfl, rfl⟩, ⟨rfl, rfl⟩, rfl, rfl⟩
theorem cells_op12 : Tryz.prog.cellsOf 83 = 4 := by kernel_rfl
theorem cells_num : Tryz.prog.cellsOf 3 = 1 := by kernel_rfl
set_option maxRecDepth 100000 in
theorem op12_of_trod {H : Type} {enc : TypeId × Value → H} {W : World} {base fuel : Nat} {spare : Nat → Bool} {held : Bool} {cs : List Value} {x : DataW H × List MemPlace} (h : DataW.trod enc Tryz.prog W base spare held fuel 83 cs = some x) :
    ∃ o : O4, cs = [.int .i64 o.kd, .int .i64 o.tr, .int .i64 o.key, .int .i64 o.val] := by
  obtain ⟨f0, f1, f2, f3, hu, ⟨t0, o0⟩, ⟨t1, o1⟩, ⟨t2, o2⟩, t3, o3⟩ := op12_fields
  obtain ⟨xs, n, _, hx, hlen, hxl, hf⟩ := DataW.trod_struct hu h
  rw [cells_op12] at hlen
  match cs, hlen with
  | [c0, c1, c2, c3], _ =>
    have g0 := hf 0 f0 rfl
    have g1 := hf 1 f1 rfl
    have g2 := hf 2 f2 rfl
    have g3 := hf 3 f3 rfl
    rw [t0, o0, cells_num] at g0
    rw [t1, o1, cells_num] at g1
    rw [t2, o2, cells_num] at g2
    rw [t3, o3, cells_num] at g3
    match xs, hxl with
    | [x0, x1, x2, x3], _ =>
      obtain ⟨n0, e0, _, _⟩ := DataW.trod_int Tryz.underlying3 (show DataW.trod enc Tryz.prog W base spare held n 3 [c0] = some x0 from g0)
      obtain ⟨n1, e1, _, _⟩ := DataW.trod_int Tryz.underlying3 (show DataW.trod enc Tryz.prog W base spare held n 3 [c1] = some x1 from g1)
      obtain ⟨n2, e2, _, _⟩ := DataW.trod_int Tryz.underlying3 (show DataW.trod enc Tryz.prog W base spare held n 3 [c2] = some x2 from g2)
      obtain ⟨n3, e3, _, _⟩ := DataW.trod_int Tryz.underlying3 (show DataW.trod enc Tryz.prog W base spare held n 3 [c3] = some x3 from g3)
      obtain rfl : c0 = .int .i64 n0 := by simpa using e0
      obtain rfl : c1 = .int .i64 n1 := by simpa using e1
      obtain rfl : c2 = .int .i64 n2 := by simpa using e2
      obtain rfl : c3 = .int .i64 n3 := by simpa using e3
      exact ⟨⟨n0, n1, n2, n3⟩, rfl⟩
set_option maxRecDepth 100000 in
/-- A script that came in. -/
theorem script_of_trod {H : Type} {enc : TypeId × Value → H} {W : World} {base fuel : Nat} {spare : Nat → Bool} {held : Bool} {v : Value} {x : DataW H × List MemPlace} (h : DataW.trod enc Tryz.prog W base spare held fuel 81 [v] = some x) :
    ∃ os : List O4, O4Srcs [old W] v os := by
  rcases Go.Deep.open_slice Tryz.underlying81 h with ⟨hv, _⟩ | ⟨a, len, cap, m, n, D, Pl, hv, _, hlc, _, hm, hx, hi⟩
  · obtain rfl : v = .slice none 0 0 := by simpa using hv
    exact ⟨[], fun w _ => ⟨none, 0, rfl, fun k hk => absurd hk (Nat.not_lt_zero _)⟩⟩
  · obtain rfl : v = .slice (some a) len cap := by simpa using hv
    have hlm : len ≤ m := by rw [hm]; split <;> omega
    have each : ∀ i, i < len → ∃ o : O4, W.cells? base (a.add (i * 4)) 4 = some [.int .i64 o.kd, .int .i64 o.tr, .int .i64 o.key, .int .i64 o.val] := by
      intro i hil
      obtain ⟨cs', hc, ht⟩ := hi i (by omega)
      rw [cells_op12] at hc
      obtain ⟨o, rfl⟩ := op12_of_trod ht
      exact ⟨o, hc⟩
    let os : List O4 := List.ofFn fun i : Fin len => (each i.1 i.2).choose
    have hol : os.length = len := by simp [os]
    have hos : ∀ k (hk : k < os.length), os[k] = (each k (by omega)).choose := fun k hk => by simp [os]
    refine ⟨os, fun w hh => ⟨some a, cap, by rw [hol], fun k hk => ?_⟩⟩
    have hs := (each k (by omega)).choose_spec
    rw [← hos k hk] at hs
    obtain ⟨_, hl, hat⟩ := World.cells?_some hs
    obtain ⟨b, off, sp⟩ := a
    have hsp : sp = none := by
      obtain ⟨_, _, hat0⟩ := World.cells?_some (each 0 (by omega)).choose_spec
      have := hat0 0 (by omega)
      rw [Go.Deep.add_add, show 0 * 4 + 0 = 0 from rfl] at this
      cases sp with
      | none => rfl
      | some z =>
        exfalso
        unfold World.cell? Addr.add at this
        simp at this
        split at this <;> simp at this
    subst hsp
    refine ⟨b, off, rfl, ?_⟩
    have cell : ∀ j v, j < 4 → [Value.int .i64 os[k].kd, .int .i64 os[k].tr, .int .i64 os[k].key, .int .i64 os[k].val][j]? = some v → w.cell? ⟨b, off + k * 4 + j, none⟩ = some v := by
      intro j v hj hv
      have h1 := hat j hj
      rw [hv, Addr.add_lit, Addr.add_lit] at h1
      exact hh.old_cell (.head _) h1
    exact ⟨cell 0 _ (by omega) rfl, cell 1 _ (by omega) rfl, cell 2 _ (by omega) rfl, cell 3 _ (by omega) rfl⟩
end Go.Proofs.YtgbgneiciabidaaGreatDoor
