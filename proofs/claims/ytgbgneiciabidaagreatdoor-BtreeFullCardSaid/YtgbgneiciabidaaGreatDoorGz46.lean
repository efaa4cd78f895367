/-
  BtreePlays: the walk.
-/
import Derived.Test.YtgbgneiciabidaaGreatDoorGz44
import Derived.Test.YtgbgneiciabidaaGreatDoorGz45
import Derived.Test.YtgbgneiciabidaaGreatDoorGz13
import Derived.Test.YtgbgneiciabidaaGreatDoorGz43
import Derived.Deep.Slices
import Derived.SizedLaws
namespace Go.Proofs.YtgbgneiciabidaaGreatDoor
open Go Go.RowKit
set_option linter.all false

theorem bt_Free {w : World} {l : List Say} {p bank sp N : Nat} {es : List Ent} (h : Has w (btS p bank sp N es [] :: l)) :
    Calls Tryz.prog 22 #[.pointer (some ⟨sp, 0, none⟩)] w fun r w' => r = .returned (.int .i64 ((freshSpc es).freeAll : Nat)) ∧ Kept w w' ∧ Has w' (btS p bank sp N es [] :: l) := by
  obtain ⟨disks, X, hI, hR, hH, hh⟩ := h.bt_open
  have h2 : Has w (spaceS sp X :: stS p bank sp [] :: bankS N bank disks :: l) := Has.pull 2 hh
  refine (sp_FreeAll h2).mono ?_
  rintro r w' ⟨rfl, hK, h3⟩
  rw [hR.xis.free (XIs.fresh es)]
  refine ⟨rfl, hK, ?_⟩
  have h4 : Has w' (trio p bank sp N [] disks X l) := h3.reord [1, 1]
  exact Has.bt_shut hI hR hH h4
theorem free_two : (freshSpc (eSizes [400, 400])).freeAll = 796 := by decide +kernel
theorem holdsM {w wr : World} {l : List Say} {t sp p bank k : Nat} (h : ScrM w l t sp p bank k wr) (ht : Tab l) (hk : k ≤ 160) :
    Calls Tryz.prog 51 #[.pointer (some ⟨t, 0, none⟩)] wr (fun r w' => r = .returned (.bool true) ∧ ScrM w l t sp p bank k w') := by
  obtain ⟨Q, ts, vs, rs, hT, h4, hb, hK, hh⟩ := h
  have hql : Q.length ≤ 50000 := by
    have h1 := hT.pages hh.tail.bt_inv.1
    have h2 := weighs_le (ts := ts) (B := 2 * k) fun u hu => (hb u hu).1
    rw [h4.four] at h2
    omega
  refine (law_holdsT hh ht hT h4 (fun u hu => by have := (hb u hu).2; omega) hql).mono ?_
  rintro r w' ⟨rfl, hK2, hh2⟩
  exact ⟨rfl, Q, ts, vs, rs, hT, h4, hb, hK.trans hK2, hh2⟩
theorem ScrM.boxed {w wr : World} {l : List Say} {t sp p bank k : Nat} (h : ScrM w l t sp p bank k wr) (c : Array Value) (e : TypeId) : ScrM w (pts wr.heap.size (.cells c e (0, 0)) :: l) t sp p bank k (wr.alloc (.cells c e)) := by
  obtain ⟨Q, ts, vs, rs, hT, h4, hb, hK, hh⟩ := h
  refine ⟨Q, ts, vs, rs, hT, h4, hb, hK.alloc _, ?_⟩
  have h1 := hh.alloc (.cells c e)
  have h2 := h1.reord [1, 1]
  refine h2.perm (((List.perm_middle (a := pts wr.heap.size (.cells c e (0, 0))) (l₁ := rs.map kvR) (l₂ := l)).symm.cons _).cons _)
theorem ScrM.unbox {w wr : World} {l : List Say} {A : Say} {t sp p bank k : Nat} (h : ScrM w (A :: l) t sp p bank k wr) : ScrM w l t sp p bank k wr := by
  obtain ⟨Q, ts, vs, rs, hT, h4, hb, hK, hh⟩ := h
  refine ⟨Q, ts, vs, rs, hT, h4, hb, hK, ?_⟩
  have h2 := hh.perm (((List.perm_middle (a := A) (l₁ := rs.map kvR) (l₂ := l)).cons _).cons _)
  exact Has.skip (A := [_, _]) (M := [_]) h2
theorem found_some (L : List KV) (key : Int) : ∃ y b, foundV L key = .tuple #[.int .i64 y, .bool b] ∧ fdV L key = .tuple #[.int .i64 y, .bool b] := by
  unfold foundV fdV
  cases getK L key with
  | some y => exact ⟨y, true, rfl, rfl⟩
  | none => exact ⟨0, false, rfl, rfl⟩
def DrM (w : World) (l : List Say) (t sp p bank k i : Nat) (wr : World) : Prop :=
  ∃ (Q : Pgs) (ts : List Tre) (vs : List Value) (rs : List (Value × List KV)), Grove Q ts ∧ Rows4 ts vs rs ∧ (∀ u ∈ ts, u.s ≤ 2 * (k + i) ∧ u.L.length ≤ k + i) ∧ (∀ j, j < i → ts[j]? = some noTre) ∧ Kept w wr ∧ Has wr (treesT t sp p (ts.map (·.a)) vs :: btS p bank sp (100 * (k + i)) (eSizes [400, 400]) Q :: (rs.map kvR ++ l))
theorem mod4_small {i : Nat} (h : i < 4) : mod4 (i : Int) = i := by
  unfold mod4
  match i, h with
  | 0, _ => rfl
  | 1, _ => rfl
  | 2, _ => rfl
  | 3, _ => rfl
theorem DrM.step {w wr : World} {l : List Say} {t sp p bank k i : Nat} (h : DrM w l t sp p bank k i wr) (ht : Tab l) (hk : k ≤ 150) (hi : i < 4) :
    Calls Tryz.prog 46 #[.pointer (some ⟨t, 0, none⟩), .agg #[.int .i64 4, .int .i64 (i : Int), .int .i64 0, .int .i64 0]] wr (fun r w' => r = .returned (.tuple #[.bool true, .bool false]) ∧ DrM w l t sp p bank k (i + 1) w') := by
  obtain ⟨Q, ts, vs, rs, hT, h4, hb, hno, hK, hh⟩ := h
  refine (step_four (i : Int) 0 0 hh ht hT h4 (by omega) (fun u hu => by have := hb u hu; omega)).mono ?_
  rintro r w' ⟨rfl, hK2, Q', ts', vs', rs', hst, hT', h4', hh'⟩
  have hgr := hst.grow (B := k + i) hb
  refine ⟨rfl, Q', ts', vs', rs', hT', h4', fun u hu => hgr u hu, fun j hj => ?_, hK.trans hK2, ?_⟩
  · obtain ⟨u, hu, hc⟩ := hst
    rw [mod4_small hi] at hu hc
    have hlt := (List.getElem?_eq_some_iff.1 hu).1
    have e : ts' = ts.set i noTre := by
      rcases hc with ⟨h, _⟩ | ⟨h, _⟩ | ⟨h, _⟩ | ⟨_, h⟩ | ⟨h, _⟩
      · exact absurd h (by decide)
      · exact absurd h (by decide)
      · exact absurd h (by decide)
      · exact h
      · rcases h with ⟨h, _⟩ | ⟨h, _⟩ | ⟨_, _, _, h⟩
        · exact absurd h (by decide)
        · exact absurd h (by decide)
        · exact absurd rfl h
    rw [e, List.getElem?_set]
    by_cases ej : i = j
    · rw [if_pos ej, if_pos hlt]
    · rw [if_neg ej]
      exact hno j (by omega)
  · rw [show 100 * (k + (i + 1)) = 100 * (k + i) + 100 by omega]
    exact hh'
set_option maxHeartbeats 8000000 in
set_option maxRecDepth 100000 in
theorem law_plays {w : World} {l : List Say} (os : List O4) (fr lim : Int) {sv : Value} (h : Has w l) (ht : Tab l) (hs : O4Srcs l sv os) :
    Calls Tryz.prog 10 #[sv, .int .i64 fr, .int .i64 lim] w (fun r w' => r = .returned (.bool true) ∧ Kept w w' ∧ Has w' l) := by
  obtain ⟨sa, sc, rfl, _⟩ := hs w h
  have h1 := (h.alloc (.cells #[.int .i64 400, .int .i64 400] 3)).row_of_pts (n := 2) (xs := [.int .i64 400, .int .i64 400]) (size := 1) (by simp) (Nat.le_refl _) (by simp [maxLen]) (by simp) (by simp)
  have h2 : Has (w.alloc (.cells #[.int .i64 400, .int .i64 400] 3)) (intsS (.slice (some ⟨w.heap.size, 0, none⟩) 2 2) [400, 400] :: l) := h1
  have HM := Lib.hid (made12 [400, 400] h2 (Srcs.of_ints (.head _)) (by decide))
  have HK := Lib.hid ((Kept.refl w).alloc (.cells #[.int .i64 400, .int .i64 400] 3))
  have Ht := Lib.hid ht
  have Hs := Lib.hid hs
  clear h h1 h2 ht hs
  go_enter Tryz.func10, Tryz.ntmps10
  go_wp2_with fail
  refine HM.out.mono ?_
  rintro r w1 ⟨t, sp, p, bank, rfl, hK1, h3⟩
  have h4 : Has w1 (treesS t sp p :: btS p bank sp 0 (eSizes [400, 400]) [] :: l) := Has.skip (A := [_, _]) (M := [_]) h3
  have c1 : w1.cell? ⟨t, 1, none⟩ = some (.pointer (some ⟨p, 0, none⟩)) := cell_of h4.got 1 rfl
  have lt1 := World.block_lt_of_cell? _ _ c1
  have HK1 := Lib.hid (HK.out.trans hK1)
  have H4 := Lib.hid h4
  obtain ⟨n, hn⟩ : ∃ n, os.length = n := ⟨_, rfl⟩
  have Hn := Lib.hid hn
  rw [hn]
  clear h3 h4 hK1 HM HK hn
  generalize w.heap.size = g0 at *
  by_cases hbad : 120 < n
  · skip
    have HA := Lib.hid (awake12 H4.out Ht.out.cons.cons)
    have hbI : (120 : Int) < n := by omega
    have hK1 := HK1.out
    clear H4
    go_wp2_with fail
    refine HA.out.mono ?_
    rintro r w2 ⟨rfl, hK2, h5⟩
    have HF : Hid (Kept w w2 ∧ Has w2 l) := ⟨HK1.out.trans hK2, h5.tail.tail⟩
    clear hK2 h5 HA hK1 HK1
    go_wp2
    go_ret
    exact ⟨rfl, HF.out.1, HF.out.2⟩
  have hb1 : decide ((120 : Int) < n) = false := by simp; omega
  have hb1n : decide (120 < n) = false := by simp; omega
  have hb3 : ¬ (120 : Int) < n := by omega
  have hn120 : n ≤ 120 := by omega
  have HM0 : Hid (ScrM w l t sp p bank 0 w1) := ScrM.start HK1.out H4.out
  clear HK1 H4 hbad
  go_wp2
  go_loopg [48] n (fun gk iv wr => ∃ k : Nat, k ≤ n ∧ gk = n - k ∧ iv = .int .i64 k ∧ Hid (ScrM w l t sp p bank k wr))
  case atStart => exact ⟨0, Nat.zero_le _, rfl, rfl, HM0⟩
  case round =>
    clear HM0
    obtain ⟨k, hk, rfl, rfl, HM⟩ := hrel
    by_cases hlt : k < n
    · skip
      obtain ⟨_, _, hv', hrd⟩ := Hs.out wr HM.out.hasl
      injection hv' with j1 j2 j3
      subst j1
      clear j2 j3
      obtain ⟨gb, go, rfl, hat⟩ := hrd k (by have := Hn.out; omega)
      generalize os[k]'_ = o at hat
      obtain ⟨kd, tr, key, val⟩ := o
      obtain ⟨c0, c1', c2, c3⟩ := hat
      simp only at c0 c1' c2 c3
      have lz := World.block_lt_of_cell? _ _ c0
      have kI : (k : Int) < (n : Int) := by omega
      have k0 : (0 : Int) ≤ k := by omega
      clear hrd
      have HMod : Hid (∀ w' : World, Calls Tryz.prog 52 #[.int .i64 tr] w' fun r w'' => r = .returned (.int .i64 (mod4 tr : Int)) ∧ w' = w'') := fun w' => law_mod tr w'
      have HM2 : Hid (ScrM w (pts wr.heap.size (.cells #[.int .i64 kd, .int .i64 tr, .int .i64 key, .int .i64 val] 83 (0, 0)) :: l) t sp p bank k (wr.alloc (.cells #[.int .i64 kd, .int .i64 tr, .int .i64 key, .int .i64 val] 83))) := HM.out.boxed _ _
      have HC := Lib.hid (HM2.out.step Ht.out.cons (by omega) kd tr key val)
      clear HM
      go_wp2_with fail
      refine HC.out.mono ?_
      rintro r w5 ⟨rfl, hM5⟩
      have HM5 := Lib.hid hM5
      have HC2 := Lib.hid (hM5.unbox.keptw)
      have HH5 := Lib.hid (holdsM hM5 Ht.out.cons (by omega))
      clear hM5 HC HM2
      generalize wr.heap.size = b9 at *
      go_wp2_with fail
      refine HH5.out.mono ?_
      rintro r w6 ⟨rfl, hM6⟩
      clear HH5 HM5 HC2
      have HM6 := Lib.hid hM6
      obtain ⟨Q, ts, vs, rs, hT, h4, hb, hK, hh⟩ := hM6
      obtain ⟨i, hi⟩ : ∃ i, mod4 tr = i := ⟨_, rfl⟩
      have hi4 : i < 4 := by rw [← hi]; exact mod4_lt tr
      rw [hi] at HMod
      clear hi
      obtain ⟨u, v, hu, hv, hr⟩ := h4.at hi4
      have hum := List.mem_of_getElem? hu
      have hR := hT.root u hum
      have hI := hh.tail.bt_inv.1
      have hbu := hb u hum
      have hsr := hR.srt
      have hml : (ts.map (·.a)).length = 4 := by rw [List.length_map]; exact h4.four
      have hua : (ts.map (·.a))[i]? = some u.a := by rw [List.getElem?_map, hu]; rfl
      obtain ⟨vq, vc, ev0, _⟩ := hh.kv_read (v := v) (L := u.L) (by simp [kvR_mem hr])
      obtain ⟨vn, hvn⟩ : ∃ n, u.L.length = n := ⟨_, rfl⟩
      rw [hvn] at ev0
      subst ev0
      obtain ⟨N, hN⟩ : ∃ N, 100 * (k + 1) = N := ⟨_, rfl⟩
      rw [hN] at hh
      obtain ⟨L, hL⟩ : ∃ L, u.L = L := ⟨_, rfl⟩
      obtain ⟨a, ha⟩ : ∃ a, u.a = a := ⟨_, rfl⟩
      rw [hL] at hR hsr hbu hr hvn
      rw [ha] at hR hua
      have HI : Hid (∀ w' l', Has w' (btS p bank sp N (eSizes [400, 400]) Q :: l') → Calls Tryz.prog 42 #[.pointer (some ⟨p, 0, none⟩), .int .i64 a, .int .i64 fr, .int .i64 lim] w' (ItemsPost p bank sp N (eSizes [400, 400]) Q (itemsL fr lim L) l' w')) := fun w' l' h => bt_Items a fr lim h hR (by omega)
      have HFd : Hid (∀ w' l' (x : Int), Has w' (btS p bank sp N (eSizes [400, 400]) Q :: l') → Calls Tryz.prog 47 #[.pointer (some ⟨p, 0, none⟩), .int .i64 a, .int .i64 x] w' (FoundPost p bank sp N (eSizes [400, 400]) Q L x l' w')) := fun w' l' x h => bt_FindR a x h hR
      have HRf : Hid (∀ w' l' (x : Int), Has w' l' → kvS (.slice vq vn vc) L ∈ l' → Calls Tryz.prog 48 #[.slice vq vn vc, .int .i64 x] w' (fun r w'' => r = .returned (fdV L x) ∧ w' = w'')) := fun w' l' x h hm => ref_Find x h hm hsr (by omega)
      have HFr : Hid (∀ w' l', Has w' l' → kvS (.slice vq vn vc) L ∈ l' → Calls Tryz.prog 53 #[.slice vq vn vc, .int .i64 fr, .int .i64 lim] w' (KvPost (itemsL fr lim L) l' w')) := fun w' l' h hm => ref_From fr lim h hm (by omega)
      have hfl : (itemsL fr lim L).length ≤ 100000 := by rw [← fromT_items]; have := fromT_len fr lim L; omega
      have HR := Lib.hid (And.intro hua (And.intro hml (And.intro hv (And.intro hr hfl))))
      obtain ⟨y, bb, hf1, hf2⟩ := found_some L key
      have Hf := Lib.hid (And.intro hf1 hf2)
      have hyy : (y != y) = false := by simp
      have hyb : (bb != bb) = false := by cases bb <;> rfl
      have hh2 : Has w6 (pts b9 (.cells #[.int .i64 kd, .int .i64 tr, .int .i64 key, .int .i64 val] 83 (0, 0)) :: treesT t sp p (ts.map (·.a)) vs :: btS p bank sp N (eSizes [400, 400]) Q :: (rs.map kvR ++ l)) := (hh.perm (((List.perm_middle (l₁ := rs.map kvR) (l₂ := l)).cons _).cons _)).reord [2]
      have q1 : w6.cell? ⟨b9, 1, none⟩ = some (.int .i64 tr) := cell_of hh2.got 1 rfl
      have q2 : w6.cell? ⟨b9, 2, none⟩ = some (.int .i64 key) := cell_of hh2.got 2 rfl
      have t1 : w6.cell? ⟨t, 1, none⟩ = some (.pointer (some ⟨p, 0, none⟩)) := cell_of (hh2.at (b := t) (o := (.cells (treesC sp p (ts.map (·.a)) vs) 70 (0, 0))) (by simp [treesT])) 1 rfl
      have t2 : w6.cell? ⟨t, 2 + i, none⟩ = some (.int .i64 a) := cell_of (hh2.at (b := t) (o := (.cells (treesC sp p (ts.map (·.a)) vs) 70 (0, 0))) (by simp [treesT])) _ (treesC_root hua)
      have tv : w6.cell? ⟨t, 6 + i, none⟩ = some (.slice vq vn vc) := cell_of (hh2.at (b := t) (o := (.cells (treesC sp p (ts.map (·.a)) vs) 70 (0, 0))) (by simp [treesT])) _ (treesC_list hml hv)
      have lq := World.block_lt_of_cell? _ _ q1
      have lt2 := World.block_lt_of_cell? _ _ t1
      have HH := Lib.hid hh2
      have HX := Lib.hid (And.intro hT (And.intro h4 (And.intro hb (And.intro hK hN))))
      have iI : (i : Int) < 4 := by omega
      have i0 : (0 : Int) ≤ i := by omega
      clear hT h4 hb hK hh hh2 hu hum hv hr hR hI hbu hsr hua hN hL ha hvn hml hfl hf1 hf2 HM6
      go_wp2_with (refine (HMod.out _).mono ?_; rintro r w7 ⟨rfl, rfl⟩)
      have hh := HH.out
      clear HH
      obtain ⟨FA, HFA⟩ : ∃ FA : List (Nat × Addr × Value), Hid (FA = [(3, ⟨t, 1, none⟩, .pointer (some ⟨p, 0, none⟩)), (9, ⟨t, 2 + i, none⟩, .int .i64 a), (11, ⟨b9, 2, none⟩, .int .i64 key)]) := ⟨_, rfl⟩
      have fa3 : ∀ n : In (factsOf FA 3), n.w.cell? ⟨t, 1, none⟩ = some (.pointer (some ⟨p, 0, none⟩)) := fun n => factsOf.cell (by rw [HFA.out]; simp) n
      have fa9 : ∀ n : In (factsOf FA 9), n.w.cell? ⟨t, 2 + i, none⟩ = some (.int .i64 a) := fun n => factsOf.cell (by rw [HFA.out]; simp) n
      have fa11 : ∀ n : In (factsOf FA 11), n.w.cell? ⟨b9, 2, none⟩ = some (.int .i64 key) := fun n => factsOf.cell (by rw [HFA.out]; simp) n
      have hFA : ∀ p ∈ FA, w6.cell? p.2.1 = some p.2.2 := by rw [HFA.out]; exact (fcons t1 (fcons t2 (fcons q2 fnil)))
      haveI neFA : ∀ k, Nonempty (In (factsOf FA k)) := fun k => ⟨⟨_, factsOf.drew hFA k⟩⟩
      refine ws_begin [0, 1, 2, 3, 4, 5, 6, 7, 8, 9, 10, 11, 12, 13, 14, 15, 16, 17] (factsOf FA) (pts b9 (.cells #[.int .i64 kd, .int .i64 tr, .int .i64 key, .int .i64 val] 83 (0, 0)) :: treesT t sp p (ts.map (·.a)) vs :: btS p bank sp N (eSizes [400, 400]) Q :: (rs.map kvR ++ l)) #[0, 1, 3, 7, 0, 0, 16, 80, 240, 496, 0, 1024, 4095, 8191, 16383, 16383, 32767, 131071] (by kernel_rfl) (by kernel_rfl) (by kernel_rfl) factsOf.alloc (factsOf.drew hFA) hh ?_
      clear hFA
      iterate 12 (refine ws_q (at_lit rfl) rfl rfl rfl ?_; go_big_quiet_op; show WS _ _ _ _ _ _ _ _ _ _)
      refine ws_call (at_lit rfl) rfl rfl 47 #[.pointer (some ⟨p, 0, none⟩), .int .i64 a, .int .i64 key] (fun w => by go_simp) (fun v L' => v = .tuple #[.int .i64 y, .bool bb] ∧ L' = pts b9 (.cells #[.int .i64 kd, .int .i64 tr, .int .i64 key, .int .i64 val] 83 (0, 0)) :: treesT t sp p (ts.map (·.a)) vs :: btS p bank sp N (eSizes [400, 400]) Q :: (rs.map kvR ++ l)) (fun w' F hS hh => ?_) ?_
      · refine (HFd.out w' _ key (hh.pull 2)).mono ?_
        rintro r w'' ⟨hK, rfl, hh'⟩
        exact ⟨_, _, rfl, hK, ⟨Hf.out.1, rfl⟩, hh'.reord [1, 1]⟩
      rintro _ _ ⟨rfl, rfl⟩
      refine ⟨fun w F hh => lives (l' := []) (by rw [HFA.out]; simp [liveFacts, Nat.testBit]) (fnil), ?_⟩
      simp only [Act.put, List.setIfInBounds_toArray, List.set_cons_zero, List.set_cons_succ]
      show WS _ _ _ _ _ _ _ _ _ _
      iterate 5 (refine ws_q (at_lit rfl) rfl rfl rfl ?_; go_big_quiet_op; show WS _ _ _ _ _ _ _ _ _ _)
      refine ws_end ?_
      intro w8 hK8 h8
      have HK8 := Lib.hid (HX.out.2.2.2.1.trans hK8)
      have q2' : w8.cell? ⟨b9, 2, none⟩ = some (.int .i64 key) := cell_of h8.got 2 rfl
      have tv' : w8.cell? ⟨t, 6 + i, none⟩ = some (.slice vq vn vc) := cell_of (h8.at (b := t) (o := (.cells (treesC sp p (ts.map (·.a)) vs) 70 (0, 0))) (by simp [treesT])) _ (treesC_list HR.out.2.1 HR.out.2.2.1)
      have lq' := World.block_lt_of_cell? _ _ q2'
      have lt' := World.block_lt_of_cell? _ _ tv'
      have HH := Lib.hid h8
      clear hK8 h8 hh HFA neFA FA fa3 fa9 fa11 q1 q2 t1 t2 tv lq lt2 HFd
      go_upto_region 12 with fail
      have hh := HH.out
      clear HH
      obtain ⟨FA, HFA⟩ : ∃ FA : List (Nat × Addr × Value), Hid (FA = [(5, ⟨t, 6 + i, none⟩, .slice vq vn vc), (7, ⟨b9, 2, none⟩, .int .i64 key)]) := ⟨_, rfl⟩
      have fa5 : ∀ n : In (factsOf FA 5), n.w.cell? ⟨t, 6 + i, none⟩ = some (.slice vq vn vc) := fun n => factsOf.cell (by rw [HFA.out]; simp) n
      have fa7 : ∀ n : In (factsOf FA 7), n.w.cell? ⟨b9, 2, none⟩ = some (.int .i64 key) := fun n => factsOf.cell (by rw [HFA.out]; simp) n
      have hFA : ∀ p ∈ FA, w8.cell? p.2.1 = some p.2.2 := by rw [HFA.out]; exact (fcons tv' (fcons q2' fnil))
      haveI neFA : ∀ k, Nonempty (In (factsOf FA k)) := fun k => ⟨⟨_, factsOf.drew hFA k⟩⟩
      refine ws_begin [0, 1, 2, 3, 4, 5, 6, 7, 8, 9, 10, 11, 12, 13] (factsOf FA) (pts b9 (.cells #[.int .i64 kd, .int .i64 tr, .int .i64 key, .int .i64 val] 83 (0, 0)) :: treesT t sp p (ts.map (·.a)) vs :: btS p bank sp N (eSizes [400, 400]) Q :: (rs.map kvR ++ l)) #[0, 0, 1, 5, 15, 31, 0, 64, 255, 511, 1023, 1023, 2047, 8191] (by kernel_rfl) (by kernel_rfl) (by kernel_rfl) factsOf.alloc (factsOf.drew hFA) hh ?_
      clear hFA
      iterate 8 (refine ws_q (at_lit rfl) rfl rfl rfl ?_; go_big_quiet_op; show WS _ _ _ _ _ _ _ _ _ _)
      refine ws_call (at_lit rfl) rfl rfl 48 #[.slice vq vn vc, .int .i64 key] (fun w => by go_simp) (fun v L' => v = .tuple #[.int .i64 y, .bool bb] ∧ L' = pts b9 (.cells #[.int .i64 kd, .int .i64 tr, .int .i64 key, .int .i64 val] 83 (0, 0)) :: treesT t sp p (ts.map (·.a)) vs :: btS p bank sp N (eSizes [400, 400]) Q :: (rs.map kvR ++ l)) (fun w' F hS hh => ?_) ?_
      · have hq := HRf.out w' _ key hh (by have := kvR_mem HR.out.2.2.2.1; simp [this])
        rw [Hf.out.2] at hq
        refine hq.mono ?_
        rintro r w'' ⟨rfl, rfl⟩
        exact ⟨_, _, rfl, Kept.refl _, ⟨rfl, rfl⟩, hh⟩
      rintro _ _ ⟨rfl, rfl⟩
      refine ⟨fun w F hh => lives (l' := []) (by rw [HFA.out]; simp [liveFacts, Nat.testBit]) (fnil), ?_⟩
      simp only [Act.put, List.setIfInBounds_toArray, List.set_cons_zero, List.set_cons_succ]
      show WS _ _ _ _ _ _ _ _ _ _
      iterate 5 (refine ws_q (at_lit rfl) rfl rfl rfl ?_; go_big_quiet_op; show WS _ _ _ _ _ _ _ _ _ _)
      refine ws_end ?_
      intro w9 hK9 h9
      have HK9 := Lib.hid (HK8.out.trans hK9)
      have t1 : w9.cell? ⟨t, 1, none⟩ = some (.pointer (some ⟨p, 0, none⟩)) := cell_of (h9.at (b := t) (o := (.cells (treesC sp p (ts.map (·.a)) vs) 70 (0, 0))) (by simp [treesT])) 1 rfl
      have t2 : w9.cell? ⟨t, 2 + i, none⟩ = some (.int .i64 a) := cell_of (h9.at (b := t) (o := (.cells (treesC sp p (ts.map (·.a)) vs) 70 (0, 0))) (by simp [treesT])) _ (treesC_root HR.out.1)
      have tv : w9.cell? ⟨t, 6 + i, none⟩ = some (.slice vq vn vc) := cell_of (h9.at (b := t) (o := (.cells (treesC sp p (ts.map (·.a)) vs) 70 (0, 0))) (by simp [treesT])) _ (treesC_list HR.out.2.1 HR.out.2.2.1)
      have lt2 := World.block_lt_of_cell? _ _ t1
      have HH := Lib.hid h9
      clear hK9 h9 hh HFA neFA FA fa5 fa7 q2' tv' lq' lt' HRf HK8 Hf
      go_upto_region 13 with fail
      have hh := HH.out
      clear HH
      obtain ⟨FA, HFA⟩ : ∃ FA : List (Nat × Addr × Value), Hid (FA = [(12, ⟨t, 1, none⟩, .pointer (some ⟨p, 0, none⟩)), (18, ⟨t, 2 + i, none⟩, .int .i64 a), (27, ⟨t, 6 + i, none⟩, .slice vq vn vc)]) := ⟨_, rfl⟩
      have fa12 : ∀ n : In (factsOf FA 12), n.w.cell? ⟨t, 1, none⟩ = some (.pointer (some ⟨p, 0, none⟩)) := fun n => factsOf.cell (by rw [HFA.out]; simp) n
      have fa18 : ∀ n : In (factsOf FA 18), n.w.cell? ⟨t, 2 + i, none⟩ = some (.int .i64 a) := fun n => factsOf.cell (by rw [HFA.out]; simp) n
      have fa27 : ∀ n : In (factsOf FA 27), n.w.cell? ⟨t, 6 + i, none⟩ = some (.slice vq vn vc) := fun n => factsOf.cell (by rw [HFA.out]; simp) n
      have hFA : ∀ p ∈ FA, w9.cell? p.2.1 = some p.2.2 := by rw [HFA.out]; exact (fcons t1 (fcons t2 (fcons tv fnil)))
      haveI neFA : ∀ k, Nonempty (In (factsOf FA k)) := fun k => ⟨⟨_, factsOf.drew hFA k⟩⟩
      refine ws_begin [0, 1, 2, 3, 4, 5, 6, 7, 8, 9, 10, 11, 12, 13, 14, 15, 16, 17, 18, 19, 20, 21, 22, 23, 24, 25, 26, 27, 28, 29, 30, 31, 32, 33] (factsOf FA) (pts b9 (.cells #[.int .i64 kd, .int .i64 tr, .int .i64 key, .int .i64 val] 83 (0, 0)) :: treesT t sp p (ts.map (·.a)) vs :: btS p bank sp N (eSizes [400, 400]) Q :: (rs.map kvR ++ l)) #[0, 0, 3, 7, 15, 15, 63, 127, 255, 511, 1023, 2047, 4095, 511, 511, 8703, 41471, 123391, 254463, 511, 511, 2097151, 511, 511, 4194815, 20972031, 62915071, 130023935, 511, 511, 1073741823, 2147483647, 4294967295, 8589934591] (by kernel_rfl) (by kernel_rfl) (by kernel_rfl) factsOf.alloc (factsOf.drew hFA) hh ?_
      clear hFA
      iterate 21 (refine ws_q (at_lit rfl) rfl rfl rfl ?_; go_big_quiet_op; show WS _ _ _ _ _ _ _ _ _ _)
      refine ws_call (at_lit rfl) rfl rfl 42 #[.pointer (some ⟨p, 0, none⟩), .int .i64 a, .int .i64 fr, .int .i64 lim] (fun w => by go_simp) (fun v L' => L' = pairsS v (itemsL fr lim L) :: pts b9 (.cells #[.int .i64 kd, .int .i64 tr, .int .i64 key, .int .i64 val] 83 (0, 0)) :: treesT t sp p (ts.map (·.a)) vs :: btS p bank sp N (eSizes [400, 400]) Q :: (rs.map kvR ++ l)) (fun w' F hS hh => ?_) ?_
      · refine (HI.out w' _ (hh.pull 2)).mono ?_
        rintro r w'' ⟨va, rfl, hK, hh'⟩
        exact ⟨_, _, rfl, hK, rfl, hh'.reord [0, 1, 1]⟩
      rintro vi _ rfl
      refine ⟨fun w F hh => lives (l' := [(27, ⟨t, 6 + i, none⟩, .slice vq vn vc)]) (by rw [HFA.out]; simp [liveFacts, Nat.testBit]) (fcons (cell_of (hh.at (b := t) (o := (.cells (treesC sp p (ts.map (·.a)) vs) 70 (0, 0))) (by simp [treesT])) _ (treesC_list HR.out.2.1 HR.out.2.2.1)) <| fnil), ?_⟩
      simp only [Act.put, List.setIfInBounds_toArray, List.set_cons_zero, List.set_cons_succ]
      show WS _ _ _ _ _ _ _ _ _ _
      iterate 8 (refine ws_q (at_lit rfl) rfl rfl rfl ?_; go_big_quiet_op; show WS _ _ _ _ _ _ _ _ _ _)
      refine ws_call (at_lit rfl) rfl rfl 53 #[.slice vq vn vc, .int .i64 fr, .int .i64 lim] (fun w => by go_simp) (fun v L' => ∃ q nn c, v = .slice q nn c ∧ L' = kvS (.slice q nn c) (itemsL fr lim L) :: pairsS vi (itemsL fr lim L) :: pts b9 (.cells #[.int .i64 kd, .int .i64 tr, .int .i64 key, .int .i64 val] 83 (0, 0)) :: treesT t sp p (ts.map (·.a)) vs :: btS p bank sp N (eSizes [400, 400]) Q :: (rs.map kvR ++ l)) (fun w' F hS hh => ?_) ?_
      · refine (HFr.out w' _ hh (by have := kvR_mem HR.out.2.2.2.1; simp [this])).mono ?_
        intro r w'' hpost
        obtain ⟨q, nn, c, rfl, hK, hh'⟩ := hpost.slice
        exact ⟨_, _, rfl, hK, ⟨q, nn, c, rfl, rfl⟩, hh'⟩
      rintro _ _ ⟨q, nn, c, rfl, rfl⟩
      refine ⟨fun w F hh => lives (l' := []) (by rw [HFA.out]; simp [liveFacts, Nat.testBit]) (fnil), ?_⟩
      simp only [Act.put, List.setIfInBounds_toArray, List.set_cons_zero, List.set_cons_succ]
      show WS _ _ _ _ _ _ _ _ _ _
      refine ws_call (at_lit rfl) rfl rfl 50 #[vi, .slice q nn c] (fun w => by go_simp) (fun v L' => v = .bool true ∧ L' = kvS (.slice q nn c) (itemsL fr lim L) :: pairsS vi (itemsL fr lim L) :: pts b9 (.cells #[.int .i64 kd, .int .i64 tr, .int .i64 key, .int .i64 val] 83 (0, 0)) :: treesT t sp p (ts.map (·.a)) vs :: btS p bank sp N (eSizes [400, 400]) Q :: (rs.map kvR ++ l)) (fun w' F hS hh => ?_) ?_
      · refine (law_pairs (v1 := vi) (v2 := .slice q nn c) (ps := itemsL fr lim L) (qs := itemsL fr lim L) hh (by simp) (by simp) HR.out.2.2.2.2).mono ?_
        rintro r w'' ⟨rfl, hK, hh'⟩
        exact ⟨_, _, rfl, hK, ⟨by rw [decide_eq_true rfl], rfl⟩, hh'⟩
      rintro _ _ ⟨rfl, rfl⟩
      refine ⟨fun w F hh => lives (l' := []) (by rw [HFA.out]; simp [liveFacts, Nat.testBit]) (fnil), ?_⟩
      simp only [Act.put, List.setIfInBounds_toArray, List.set_cons_zero, List.set_cons_succ]
      show WS _ _ _ _ _ _ _ _ _ _
      iterate 2 (refine ws_q (at_lit rfl) rfl rfl rfl ?_; go_big_quiet_op; show WS _ _ _ _ _ _ _ _ _ _)
      refine ws_end ?_
      intro w10 hK10 h10
      have HM10 : Hid (ScrM w l t sp p bank (k + 1) w10) := by
        obtain ⟨x1, x2, x3, x4, x5⟩ := HX.out
        refine ⟨Q, ts, vs, rs, x1, x2, x3, HK9.out.trans hK10, ?_⟩
        rw [x5]
        exact h10.tail.tail.tail
      clear hK10 h10 hh HFA neFA FA fa12 fa18 fa27 t1 t2 tv lt2 HK9 HI HFr HX HR
      go_wp2
      go_roundg (n - (k + 1))
      case measure => omega
      case rel => exact ⟨k + 1, by omega, rfl, by go_num, HM10⟩
    · skip
      have hke : k = n := by omega
      subst hke
      have HD0 : Hid (DrM w l t sp p bank k 0 wr) := by
        obtain ⟨Q, ts, vs, rs, hT, h4, hb, hK, hh⟩ := HM.out
        exact ⟨Q, ts, vs, rs, hT, h4, hb, fun j hj => absurd hj (Nat.not_lt_zero _), hK, hh⟩
      clear HM hlt
      go_wp2
      go_loopg [134] 4 (fun gk iv wr => ∃ i : Nat, i ≤ 4 ∧ gk = 4 - i ∧ iv = .int .i64 i ∧ Hid (DrM w l t sp p bank k i wr))
      case atStart => exact ⟨0, Nat.zero_le _, rfl, rfl, HD0⟩
      case round =>
        clear HD0
        obtain ⟨i, hi, rfl, rfl, HM⟩ := hrel
        by_cases hlt : i < 4
        · skip
          have iI : (i : Int) < 4 := by omega
          have i0 : (0 : Int) ≤ i := by omega
          have HC := Lib.hid (HM.out.step Ht.out (by omega) hlt)
          clear HM
          go_wp2_with fail
          refine HC.out.mono ?_
          rintro r w5 ⟨rfl, hM5⟩
          have HM5 := Lib.hid hM5
          clear hM5 HC
          go_wp2
          go_roundg (4 - (i + 1))
          case measure => omega
          case rel => exact ⟨i + 1, by omega, rfl, by go_num, HM5⟩
        · skip
          have hie : i = 4 := by omega
          subst hie
          obtain ⟨Q, ts, vs, rs, hT, h4, hb, hno, hK, hh⟩ := HM.out
          have hI := hh.tail.bt_inv.1
          have hQ : Q = [] := by
            have h1 := hT.pages hI
            have h2 := weighs_le (ts := ts) (B := 0) fun u hu => by
              obtain ⟨j, hj⟩ := List.mem_iff_getElem?.1 hu
              have hj4 := (List.getElem?_eq_some_iff.1 hj).1
              rw [h4.four] at hj4
              rw [hno j hj4] at hj
              obtain rfl := Option.some.inj hj
              exact Nat.le_refl _
            exact List.eq_nil_of_length_eq_zero (by omega)
          subst hQ
          obtain ⟨N, hN⟩ : ∃ N, 100 * (k + 4) = N := ⟨_, rfl⟩
          rw [hN] at hh
          have t1 : wr.cell? ⟨t, 1, none⟩ = some (.pointer (some ⟨p, 0, none⟩)) := cell_of hh.got 1 rfl
          have lt1' := World.block_lt_of_cell? _ _ t1
          have HPg := Lib.hid (bt_Pages hh.swap (by decide))
          have HFr : Hid (∀ w' l', Has w' (btS p bank sp N (eSizes [400, 400]) [] :: l') → Calls Tryz.prog 22 #[.pointer (some ⟨sp, 0, none⟩)] w' fun r w'' => r = .returned (.int .i64 796) ∧ Kept w' w'' ∧ Has w'' (btS p bank sp N (eSizes [400, 400]) [] :: l')) := fun w' l' h => by
            have h1 := bt_Free h
            rw [free_two] at h1
            exact h1
          have HK := Lib.hid hK
          clear hT h4 hb hno hK hh hI hN HM hlt
          go_wp2_with fail
          refine HPg.out.mono ?_
          rintro r w6 ⟨pv, rfl, hK6, h6⟩
          obtain ⟨pq, pc, rfl, _, _⟩ := h6.ints_read (v := pv) (xs := []) (.head _)
          simp only [List.map_nil, List.length_nil] at h6 ⊢
          have h7 := h6.tail
          have t0 : w6.cell? ⟨t, 0, none⟩ = some (.pointer (some ⟨sp, 0, none⟩)) := cell_of h7.tail.got 0 rfl
          have lt0 := World.block_lt_of_cell? _ _ t0
          have HFc := Lib.hid (HFr.out w6 _ h7)
          have HK6 := Lib.hid (HK.out.trans hK6)
          clear hK6 h6 h7 HPg HK t1 lt1'
          go_wp2_with fail
          refine HFc.out.mono ?_
          rintro r w7 ⟨rfl, hK7, h8⟩
          have HA := Lib.hid (awake12 h8 ((Ht.out.app _).cons.cons))
          have HK7 := Lib.hid (HK6.out.trans hK7)
          clear hK7 h8 HFc HK6 t0 lt0
          go_wp2_with fail
          refine HA.out.mono ?_
          rintro r w8 ⟨rfl, hK8, h9⟩
          have HF : Hid (Kept w w8 ∧ Has w8 l) := ⟨HK7.out.trans hK8, Has.right (m := rs.map kvR) h9.tail.tail⟩
          clear hK8 h9 HA HK7
          go_wp2
          go_ret
          exact ⟨rfl, HF.out.1, HF.out.2⟩
end Go.Proofs.YtgbgneiciabidaaGreatDoor
/-
  The door of a law: a script of layer 12 that came in.
-/
namespace Go.Proofs.YtgbgneiciabidaaGreatDoor
open Go Go.ChangeShapes Go.WideShapes Go.ChangeAt Go.RowKit
set_option linter.all false

set_option maxRecDepth 100000 in
theorem op12_fields : ∃ f0 f1 f2 f3 : Field, Tryz.prog.underlying 83 = some (.struct #[f0, f1, f2, f3]) ∧
    (f0.type = 3 ∧ f0.offset = 0) ∧ (f1.type = 3 ∧ f1.offset = 1) ∧ (f2.type = 3 ∧ f2.offset = 2) ∧ f3.type = 3 ∧ f3.offset = 3 :=
  by
  refine ⟨_, _, _, _, Tryz.underlying83, ?_⟩
  exact ⟨⟨rfl, rfl⟩, ⟨rfl, rfl⟩, ⟨rfl, rfl⟩, rfl, rfl⟩
theorem cells_op12 : Tryz.prog.cellsOf 83 = 4 := by kernel_rfl
theorem cells_num : Tryz.prog.cellsOf 3 = 1 := by kernel_rfl
set_option maxRecDepth 100000 in
theorem op12_of_trod {H : Type} {enc : TypeId × Value → H} {W : World} {base fuel : Nat} {spare : Nat → Bool} {held : Bool} {cs : List Value} {x : DataW H × List MemPlace} (h : DataW.trod enc Tryz.prog W base spare held fuel 83 cs = some x) :
    ∃ o : O4, cs = [.int .i64 o.kd, .int .i64 o.tr, .int .i64 o.key, .int .i64 o.val] := by
  obtain ⟨f0, f1, f2, f3, hu, ⟨t0, o0⟩, ⟨t1, o1⟩, ⟨t2, o2⟩, t3, o3⟩ := op12_fields
  obtain ⟨xs, n, _, hx, hlen, hxl, hf⟩ := DataW.trod_struct hu h
  rw [cells_op12] at hlen
  match cs, hlen with
  | [c0, c1, c2, c3], _ =>
    have g0 := hf 0 f0 rfl
    have g1 := hf 1 f1 rfl
    have g2 := hf 2 f2 rfl
    have g3 := hf 3 f3 rfl
    rw [t0, o0, cells_num] at g0
    rw [t1, o1, cells_num] at g1
    rw [t2, o2, cells_num] at g2
    rw [t3, o3, cells_num] at g3
    match xs, hxl with
    | [x0, x1, x2, x3], _ =>
      obtain ⟨n0, e0, _, _⟩ := DataW.trod_int Tryz.underlying3 (show DataW.trod enc Tryz.prog W base spare held n 3 [c0] = some x0 from g0)
      obtain ⟨n1, e1, _, _⟩ := DataW.trod_int Tryz.underlying3 (show DataW.trod enc Tryz.prog W base spare held n 3 [c1] = some x1 from g1)
      obtain ⟨n2, e2, _, _⟩ := DataW.trod_int Tryz.underlying3 (show DataW.trod enc Tryz.prog W base spare held n 3 [c2] = some x2 from g2)
      obtain ⟨n3, e3, _, _⟩ := DataW.trod_int Tryz.underlying3 (show DataW.trod enc Tryz.prog W base spare held n 3 [c3] = some x3 from g3)
      obtain rfl : c0 = .int .i64 n0 := by simpa using e0
      obtain rfl : c1 = .int .i64 n1 := by simpa using e1
      obtain rfl : c2 = .int .i64 n2 := by simpa using e2
      obtain rfl : c3 = .int .i64 n3 := by simpa using e3
      exact ⟨⟨n0, n1, n2, n3⟩, rfl⟩
set_option maxRecDepth 100000 in
theorem script_of_trod {H : Type} {enc : TypeId × Value → H} {W : World} {base fuel : Nat} {spare : Nat → Bool} {held : Bool} {v : Value} {x : DataW H × List MemPlace} (h : DataW.trod enc Tryz.prog W base spare held fuel 81 [v] = some x) :
    ∃ os : List O4, O4Srcs [old W] v os := by
  rcases Go.Deep.open_slice Tryz.underlying81 h with ⟨hv, _⟩ | ⟨a, len, cap, m, n, D, Pl, hv, _, hlc, _, hm, hx, hi⟩
  · obtain rfl : v = .slice none 0 0 := by simpa using hv
    exact ⟨[], fun w _ => ⟨none, 0, rfl, fun k hk => absurd hk (Nat.not_lt_zero _)⟩⟩
  · obtain rfl : v = .slice (some a) len cap := by simpa using hv
    have hlm : len ≤ m := by rw [hm]; split <;> omega
    have each : ∀ i, i < len → ∃ o : O4, W.cells? base (a.add (i * 4)) 4 = some [.int .i64 o.kd, .int .i64 o.tr, .int .i64 o.key, .int .i64 o.val] := by
      intro i hil
      obtain ⟨cs', hc, ht⟩ := hi i (by omega)
      rw [cells_op12] at hc
      obtain ⟨o, rfl⟩ := op12_of_trod ht
      exact ⟨o, hc⟩
    let os : List O4 := List.ofFn fun i : Fin len => (each i.1 i.2).choose
    have hol : os.length = len := by simp [os]
    have hos : ∀ k (hk : k < os.length), os[k] = (each k (by omega)).choose := fun k hk => by simp [os]
    refine ⟨os, fun w hh => ⟨some a, cap, by rw [hol], fun k hk => ?_⟩⟩
    have hs := (each k (by omega)).choose_spec
    rw [← hos k hk] at hs
    obtain ⟨_, hl, hat⟩ := World.cells?_some hs
    obtain ⟨b, off, sp⟩ := a
    have hsp : sp = none := by
      obtain ⟨_, _, hat0⟩ := World.cells?_some (each 0 (by omega)).choose_spec
      have := hat0 0 (by omega)
      rw [Go.Deep.add_add, show 0 * 4 + 0 = 0 from rfl] at this
      cases sp with
      | none => rfl
      | some z =>
        exfalso
        unfold World.cell? Addr.add at this
        simp at this
        split at this <;> simp at this
    subst hsp
    refine ⟨b, off, rfl, ?_⟩
    have cell : ∀ j v, j < 4 → [Value.int .i64 os[k].kd, .int .i64 os[k].tr, .int .i64 os[k].key, .int .i64 os[k].val][j]? = some v → w.cell? ⟨b, off + k * 4 + j, none⟩ = some v := by
      intro j v hj hv
      have h1 := hat j hj
      rw [hv, Addr.add_lit, Addr.add_lit] at h1
      exact hh.old_cell (.head _) h1
    exact ⟨cell 0 _ (by omega) rfl, cell 1 _ (by omega) rfl, cell 2 _ (by omega) rfl, cell 3 _ (by omega) rfl⟩
end Go.Proofs.YtgbgneiciabidaaGreatDoor
