/-
  BtreeSwaps: the walk.
-/
import Derived.Test.YtgbgneiciabidaaGreatDoorGs43
import Derived.Test.YtgbgneiciabidaaGreatDoorGs38
import Derived.Test.YtgbgneiciabidaaGreatDoorGs37
namespace Go.Proofs.YtgbgneiciabidaaGreatDoor
open Go Go.RowKit
set_option linter.all false
set_option maxHeartbeats 8000000
theorem Srcs.via {l l' : List Say} {v : Value} {xs : List Int} (h : Srcs l v xs) (hs : ∀ w, Has w l' -> Has w l) : Srcs l' v xs := fun w hw => h w (hs w hw)
theorem sw_tree {w : World} {l : List Say} {p bank sp N0 nb vb d i : Nat} {Q0 Q : Pgs} {ts0 ts : List Tre} {M V : List (Int × Int)} {u : Tre} (h : Has w (imapS nb M :: btS p bank sp (N0 + M.length + i) (esD d) Q :: l)) (ht : Tab l) (hv : imapS vb V ∈ l) (hd : d <= 2) (hL : SwL Q0 ts0 V d i Q M ts) (hI0 : FInv es3 Q0 (fun _ => 0)) (hT0 : Grove Q0 ts0) (hu : ts0[i]? = some u)
  (hvals : ∀ a b, VMap.get a V = some b -> 1 <= b /\ b <= 2305843009213693952) (hq : Q0.length <= 170) (hN : N0 + i <= 100000) :
  Calls Tryz.prog 64 #[.pointer (some ⟨p, 0, none⟩), .int .i64 u.a, .int .i64 (d : Int), .map (some nb), .map (some vb)] w (fun r w' => ∃ Q' M1, r = .returned (.tuple #[.int .i64 (swV M1 u.a), .nilIface]) /\ Kept w w' /\ SwL Q0 ts0 V d (i + 1) Q' M1 (ts.set i (swT V M1 u)) /\ Has w' (imapS nb M1 :: btS p bank sp (N0 + M1.length + (i + 1)) (esD d) Q' :: l)) := by
 obtain ⟨ok3, okD, hlk, _, _, hoff, a, b, hab, ha, hb⟩ := esD_facts hd
 by_cases h0 : u.a = 0
 ·have h1 := bt_Swap0 (w := w) p (d : Int) (.map (some nb)) (.map (some vb))
  rw [h0]
  refine h1.mono ?_
  rintro r w' ⟨rfl, rfl⟩
  have hz := hL.inv.zero hI0
  have hn := hL.next0 hI0 hT0 hu h0
  have hti := hn.tre i u hu
  rw [if_pos (Nat.lt_succ_self _)] at hti
  obtain ⟨hil, e⟩ := List.getElem?_eq_some_iff.1 hti
  have hset : ts.set i (swT V M u) = ts := by rw [<- e]; exact List.set_getElem_self hil
  exact ⟨Q, M, by rw [hz], Kept.refl w, by rw [hset]; exact hn, (h.swap.bt_more (by omega)).swap⟩
 ·obtain ⟨g0, hg0, _⟩ := hT0.has (List.mem_of_getElem? hu) h0
  have hP : OldP Q0 ts0 i u.a := ⟨i, u, Nat.le_refl _, hu, .here (by rw [hg0]; rfl)⟩
  have hti := hL.tre i u hu
  rw [if_neg (Nat.lt_irrefl _)] at hti
  have hheld : 0 < heldOf Q u.a := by
   rcases (hL.grove.root u (List.mem_of_getElem? hti)).it with ⟨e, _⟩ | ⟨_, _, _, c⟩
   ·exact absurd e h0
   ·exact c
  have hH : SwH es3 (esD d) Q0 V d := ⟨hI0, hvals, fun Q1 hf => by
   have := full_pair hab (by decide) (by decide) hf ha hb
   omega, fun i e he hs hid => hoff i e he hs (by omega)⟩
  have hIq := h.tail.bt_inv.1
  have hML := hL.inv.keys hI0.up
  refine (bt_Swap u.a h ht (LooksV.of_map hv) hH hL.inv hP hg0 hheld hL.few (by omega) (by omega)).mono ?_
  rintro r w' ⟨hK, news, Q1, M1, Q', rfl, ho, hq', hh⟩
  have hml := ho.2.1
  refine ⟨Q', M1, rfl, hK, hL.next hI0 hIq hh.tail.bt_inv.1 hT0 hu h0 ho hq', ?_⟩
  rw [show N0 + M1.length + (i + 1) = N0 + M.length + i + news.length + 1 by omega]
  exact hh
def SgM (w : World) (l : List Say) (t sp p bank nb vb d N0 : Nat) (lv : Value) (F : List Int) (Q0 : Pgs) (ts0 : List Tre) (V : List (Int × Int)) (i : Nat) (wr : World) : Prop :=
 ∃ (Q : Pgs) (M : List (Int × Int)) (ts : List Tre) (vs : List Value) (rs : List (Value × List KV)), SwL Q0 ts0 V d i Q M ts /\ Rows4 ts vs rs /\ Kept w wr /\
  Has wr (treesT t sp p (ts.map (·.a)) vs :: btS p bank sp (N0 + M.length + i) (esD d) Q :: imapS nb M :: imapS vb V :: intsS lv (lastL V F) :: (rs.map kvR ++ l))
theorem swT_len {V M : List (Int × Int)} {u : Tre} {n : Nat} (h : u.L.length <= n) : (swT V M u).L.length <= n := by
 unfold swT swL
 rwa [List.length_map]
theorem SwL.lens {Q0 Q : Pgs} {ts0 ts : List Tre} {V M : List (Int × Int)} {dev : Int} {i n : Nat} (h : SwL Q0 ts0 V dev i Q M ts) (hb : ∀ u ∈ ts0, u.L.length <= n) : ∀ u ∈ ts, u.L.length <= n := fun u hu => by
 obtain ⟨j, hj⟩ := List.mem_iff_getElem?.1 hu
 have hjl : j < ts0.length := by rw [<- h.len]; exact (List.getElem?_eq_some_iff.1 hj).1
 have h1 := h.tre j ts0[j] (List.getElem?_eq_getElem hjl)
 rw [hj] at h1
 obtain rfl := Option.some.inj h1
 split
 ·exact swT_len (hb _ (List.getElem_mem hjl))
 ·exact hb _ (List.getElem_mem hjl)
theorem at4 {ts : List Tre} {y0 y1 y2 y3 : Tre} (h0 : ts[0]? = some y0) (h1 : ts[1]? = some y1) (h2 : ts[2]? = some y2) (h3 : ts[3]? = some y3) {i : Nat} {u : Tre} (hu : ts[i]? = some u) (hi : i < 4) : [y0.a, y1.a, y2.a, y3.a][i]? = some u.a := by
 match i, hi with
 | 0, _ => rw [h0] at hu; obtain rfl := Option.some.inj hu; rfl
 | 1, _ => rw [h1] at hu; obtain rfl := Option.some.inj hu; rfl
 | 2, _ => rw [h2] at hu; obtain rfl := Option.some.inj hu; rfl
 | 3, _ => rw [h3] at hu; obtain rfl := Option.some.inj hu; rfl
set_option maxRecDepth 100000 in
theorem law_swaps {w : World} {l : List Say} (os : List O4) (dev : Int) (F T : List Int) {sv fv tv : Value} (h : Has w l) (ht : Tab l) (hs : O4Srcs l sv os) (hF : Srcs l fv F) (hT : Srcs l tv T) (hFb : ∀ x ∈ F, -9223372036854775808 <= x /\ x <= 9223372036854775807) :
  Calls Tryz.prog 13 #[.agg #[sv, .int .i64 dev, fv, tv]] w (fun r w' => r = .returned (.bool true) /\ Kept w w' /\ Has w' l) := by
 obtain ⟨sa, sc, rfl, _⟩ := hs w h
 obtain ⟨fa, fc, rfl, _⟩ := (hF w h).rd
 obtain ⟨ta, tc, rfl, _⟩ := (hT w h).rd
 obtain ⟨n, hn⟩ : ∃ n, os.length = n := ⟨_, rfl⟩
 obtain ⟨nf, hnf⟩ : ∃ n, F.length = n := ⟨_, rfl⟩
 obtain ⟨nt, hnt⟩ : ∃ n, T.length = n := ⟨_, rfl⟩
 rw [hn, hnf, hnt]
 rw [hnf] at hF
 rw [hnt] at hT
 have Hn := Lib.hid (And.intro hn (And.intro hnf hnt))
 have hbx := h.alloc (.cells #[.slice sa n sc, .int .i64 dev, .slice fa nf fc, .slice ta nt tc] 112)
 have hkx := (Kept.refl w).alloc (.cells #[.slice sa n sc, .int .i64 dev, .slice fa nf fc, .slice ta nt tc] 112)
 have Ht := Lib.hid ht
 have Hs := Lib.hid hs
 have HF := Lib.hid (And.intro hF (And.intro hT hFb))
 have Hbx := Lib.hid hbx
 have Hkx := Lib.hid hkx
 clear h ht hs hF hT hFb hn hnf hnt hbx hkx
 go_enter Tryz.func13, Tryz.ntmps13
 go_upto_region 1 with fail
 generalize w.alloc (.cells #[.slice sa n sc, .int .i64 dev, .slice fa nf fc, .slice ta nt tc] 112) = W at *
 generalize w.heap.size = b1 at *
 have c0 : W.cell? ⟨b1, 0, none⟩ = some (.slice sa n sc) := cell_of Hbx.out.got 0 rfl
 have c1 : W.cell? ⟨b1, 1, none⟩ = some (.int .i64 dev) := cell_of Hbx.out.got 1 rfl
 have c2 : W.cell? ⟨b1, 2, none⟩ = some (.slice fa nf fc) := cell_of Hbx.out.got 2 rfl
 have c3 : W.cell? ⟨b1, 3, none⟩ = some (.slice ta nt tc) := cell_of Hbx.out.got 3 rfl
 have lb1 := World.block_lt_of_cell? _ _ c0
 go_quiet (fail)
 have h1 : Has (W.drewN nq) l := (Hbx.out.drewN nq).tail
 have HK := Lib.hid (Hkx.out.drewN nq)
 generalize W.drewN nq = W2 at *
 clear Hbx Hkx c0 c1 c2 c3 lb1
 have h2 : Has (W2.alloc (.cells #[.int .i64 200, .int .i64 200, .int .i64 200] 3)) (intsS (.slice (some ⟨W2.heap.size, 0, none⟩) 3 3) [200, 200, 200] :: l) := (h1.alloc (.cells #[.int .i64 200, .int .i64 200, .int .i64 200] 3)).row_of_pts (n := 3) (xs := [.int .i64 200, .int .i64 200, .int .i64 200]) (size := 1) (by simp) (Nat.le_refl _) (by simp [maxLen]) (by simp) (by simp)
 have HM := Lib.hid (made12 [200, 200, 200] h2 (Srcs.of_ints (.head _)) (by decide))
 have HK1 := Lib.hid (HK.out.alloc (.cells #[.int .i64 200, .int .i64 200, .int .i64 200] 3))
 clear h1 h2 HK
 go_wp2_with fail
 refine HM.out.mono ?_
 rintro r w1 ⟨t, sp, p, bank, rfl, hK1, h3⟩
 have h4 : Has w1 (treesS t sp p :: btS p bank sp 0 es3 [] :: l) := Has.skip (A := [_, _]) (M := [_]) h3
 have t1 : w1.cell? ⟨t, 1, none⟩ = some (.pointer (some ⟨p, 0, none⟩)) := cell_of h4.got 1 rfl
 have lt1 := World.block_lt_of_cell? _ _ t1
 have HK2 := Lib.hid (HK1.out.trans hK1)
 have H4 := Lib.hid h4
 clear h3 h4 hK1 HM HK1
 generalize W2.heap.size = g0 at *
 by_cases hbad : 80 < n \/ dev < 0 \/ 2 < dev \/ 50 < nf \/ nt < nf
 ·skip
  have HA := Lib.hid (awake12 H4.out Ht.out.cons.cons)
  have hbI : (80 : Int) < n \/ (¬ (80 : Int) < n /\ dev < 0) \/ (¬ (80 : Int) < n /\ ¬ dev < 0 /\ 2 < dev) \/ (¬ (80 : Int) < n /\ ¬ dev < 0 /\ ¬ 2 < dev /\ (50 : Int) < nf) \/ (¬ (80 : Int) < n /\ ¬ dev < 0 /\ ¬ 2 < dev /\ ¬ (50 : Int) < nf /\ (nt : Int) < nf) := by omega
  have hK1 := HK2.out
  clear H4 hbad
  rcases hbI with hb | ⟨hb, hb2⟩ | ⟨hb, hb2, hb3⟩ | ⟨hb, hb2, hb3, hb4⟩ | ⟨hb, hb2, hb3, hb4, hb5⟩
  all_goals
   go_wp2_with fail
   refine HA.out.mono ?_
   rintro r w2 ⟨rfl, hK2, h5⟩
   have HF : Hid (Kept w w2 /\ Has w2 l) := ⟨HK2.out.trans hK2, h5.tail.tail⟩
   clear hK2 h5 HA
   go_wp2
   go_ret
   exact ⟨rfl, HF.out.1, HF.out.2⟩
 obtain ⟨d, hd⟩ : ∃ d : Nat, dev = (d : Int) := ⟨dev.toNat, by omega⟩
 subst hd
 have d1 : decide ((80 : Int) < n) = false := by simp; omega
 have d2 : decide ((d : Int) < 0) = false := by simp
 have d3 : decide ((2 : Int) < (d : Int)) = false := by simp; omega
 have d4 : decide ((50 : Int) < nf) = false := by simp; omega
 have d5 : decide ((nt : Int) < (nf : Int)) = false := by simp; omega
 have d6 : decide (80 < n) = false := by simp; omega
 have d7 : decide (50 < nf) = false := by simp; omega
 have d8 : decide (nt < nf) = false := by simp; omega
 have d9 : decide (2 < d) = false := by simp; omega
 have e1 : ¬ (80 : Int) < n := by omega
 have e2 : ¬ (2 : Int) < (d : Int) := by omega
 have e3 : ¬ (50 : Int) < nf := by omega
 have e4 : ¬ (nt : Int) < nf := by omega
 have e5 : ¬ (d : Int) < 0 := by omega
 have n80 : n <= 80 := by omega
 have Hb : Hid (d <= 2 /\ nf <= 50 /\ nf <= nt /\ n <= 80) := ⟨by omega, by omega, by omega, by omega⟩
 have HM0 : Hid (ScW w l t sp p bank es3 0 w1) := ScW.start HK2.out H4.out
 clear HK2 H4 hbad
 go_wp2
 go_loopg [87] n (fun gk iv wr => ∃ k : Nat, k <= n /\ gk = n - k /\ iv = .int .i64 k /\ Hid (ScW w l t sp p bank es3 k wr))
 case atStart => exact ⟨0, Nat.zero_le _, rfl, rfl, HM0⟩
 case round =>
  clear HM0 t1 lt1
  obtain ⟨k, hk, rfl, rfl, HM⟩ := hrel
  by_cases hlt : k < n
  ·skip
   obtain ⟨_, _, hv', hrd⟩ := Hs.out wr HM.out.hasl
   injection hv' with j1 j2 j3
   subst j1
   clear j2 j3
   obtain ⟨gb, go, rfl, hat⟩ := hrd k (by have := Hn.out.1; omega)
   generalize os[k]'_ = o at hat
   obtain ⟨kd, tr, key, val⟩ := o
   obtain ⟨c0, c1', c2, c3⟩ := hat
   simp only at c0 c1' c2 c3
   have lz := World.block_lt_of_cell? _ _ c0
   have kI : (k : Int) < (n : Int) := by omega
   have k0 : (0 : Int) <= k := by omega
   clear hrd
   have HM2 : Hid (ScW w (pts wr.heap.size (.cells #[.int .i64 kd, .int .i64 tr, .int .i64 key, .int .i64 val] 83 (0, 0)) :: l) t sp p bank es3 k (wr.alloc (.cells #[.int .i64 kd, .int .i64 tr, .int .i64 key, .int .i64 val] 83))) := HM.out.boxed _ _
   have HC := Lib.hid (HM2.out.step Ht.out.cons (by omega) kd tr key val)
   clear HM
   go_wp2_with fail
   refine HC.out.mono ?_
   rintro r w5 ⟨rfl, hM5⟩
   have HM5 := Lib.hid hM5.unbox
   clear hM5 HC HM2
   go_wp2
   go_roundg (n - (k + 1))
   case measure => omega
   case rel => exact ⟨k + 1, by omega, rfl, by go_num, HM5⟩
  ·skip
   obtain rfl : k = n := by omega
   obtain ⟨Q, ts, vs, rs, hT, h4, hb, hK, hh⟩ := HM.out
   have hm1 := imap_made hh
   have hk1 : Kept w (wr.alloc (.map #[] 0)) := hK.alloc _
   obtain ⟨N, hN⟩ : ∃ N, 100 * k = N := ⟨_, rfl⟩
   rw [hN] at hm1
   have HX := Lib.hid (And.intro hT (And.intro h4 (And.intro hb (And.intro hh.tail.bt_inv.1 (show N <= 8000 by omega)))))
   have HM0 : Hid ((∀ j (hj : j < nf), j < 0 -> 1 <= T[j]'(by have := Hn.out.2.2; have := Hb.out.2.2.1; omega) /\ T[j]'(by have := Hn.out.2.2; have := Hb.out.2.2.1; omega) <= 2305843009213693952) /\ Kept w (wr.alloc (.map #[] 0)) /\ Has (wr.alloc (.map #[] 0)) (imapS wr.heap.size (vTo F T 0) :: treesT t sp p (ts.map (·.a)) vs :: btS p bank sp N es3 Q :: (rs.map kvR ++ l))) := ⟨fun j _ hj => absurd hj (Nat.not_lt_zero _), hk1, hm1⟩
   clear HM hT h4 hb hK hh hm1 hk1 hlt hN
   have hmm := @run_makeMap Tryz.prog
   go_wp2
   clear hmm
   generalize wr.alloc (.map #[] 0) = W4 at *
   generalize wr.heap.size = vb at *
   go_loopg [106] nf (fun gk iv wr => ∃ j : Nat, j <= nf /\ gk = nf - j /\ iv = .int .i64 j /\ Hid ((∀ i (hi : i < nf), i < j -> 1 <= T[i]'(by have := Hn.out.2.2; have := Hb.out.2.2.1; omega) /\ T[i]'(by have := Hn.out.2.2; have := Hb.out.2.2.1; omega) <= 2305843009213693952) /\ Kept w wr /\ Has wr (imapS vb (vTo F T j) :: treesT t sp p (ts.map (·.a)) vs :: btS p bank sp N es3 Q :: (rs.map kvR ++ l))))
   case atStart => exact ⟨0, Nat.zero_le _, rfl, rfl, HM0⟩
   case round =>
    clear HM0
    obtain ⟨j, hj, rfl, rfl, HM⟩ := hrel
    obtain ⟨hgood, hK, hh⟩ := HM.out
    clear HM
    by_cases hlt2 : j < nf
    ·skip
     have hl := Has.right (m := rs.map kvR) hh.tail.tail.tail
     obtain ⟨_, _, e6, hrd⟩ := (HF.out.1 wr hl).rd
     injection e6 with e6 e7 e8
     subst e6
     obtain ⟨gf, go, rfl, cf⟩ := hrd j (by have := Hn.out.2.1; omega)
     obtain ⟨_, _, e9, hrd2⟩ := (HF.out.2.1 wr hl).rd
     injection e9 with e9 e10 e11
     subst e9
     obtain ⟨gt, gto, rfl, ct⟩ := hrd2 j (by have := Hn.out.2.2; have := Hb.out.2.2.1; omega)
     obtain ⟨f, hf⟩ : ∃ f, F[j]? = some f := ⟨_, List.getElem?_eq_getElem (by have := Hn.out.2.1; omega)⟩
     obtain ⟨tv, htv⟩ : ∃ tv, T[j]? = some tv := ⟨_, List.getElem?_eq_getElem (by have := Hn.out.2.2; have := Hb.out.2.2.1; omega)⟩
     rw [(List.getElem?_eq_some_iff.1 hf).2] at cf
     rw [(List.getElem?_eq_some_iff.1 htv).2] at ct
     have lf := World.block_lt_of_cell? _ _ cf
     have lt := World.block_lt_of_cell? _ _ ct
     obtain ⟨f0, f1⟩ := HF.out.2.2 f (List.mem_of_getElem? hf)
     have jI : (j : Int) < (nf : Int) := by omega
     have jT : (j : Int) < (nt : Int) := by have := Hb.out.2.2.1; omega
     have j0 : (0 : Int) <= j := by omega
     have HG := Lib.hid hgood
     have HH := Lib.hid hh
     have HK := Lib.hid hK
     have Hf := Lib.hid (And.intro hf htv)
     clear hgood hh hK hl hrd hrd2 hf htv e7 e8 e10 e11
     by_cases hbt : tv < 1 \/ 2305843009213693952 < tv
     ·skip
      have HA := Lib.hid (awake12 HH.out ((Ht.out.app _).cons.cons.cons))
      have hbI : tv < 1 \/ (¬ tv < 1 /\ 2305843009213693952 < tv) := by omega
      clear HH HG Hf hbt
      rcases hbI with hb | ⟨hb, hb2⟩
      all_goals
       go_wp2_with fail
       refine HA.out.mono ?_
       rintro r w2 ⟨rfl, hK2, h5⟩
       have HF : Hid (Kept w w2 /\ Has w2 l) := ⟨HK.out.trans hK2, Has.right (m := rs.map kvR) h5.tail.tail.tail⟩
       clear hK2 h5 HA
       go_wp2
       go_ret
       exact ⟨rfl, HF.out.1, HF.out.2⟩
     have q1 : decide (tv < 1) = false := by simp; omega
     have q2 : decide (2305843009213693952 < tv) = false := by simp; omega
     have q3 : ¬ tv < 1 := by omega
     have q4 : ¬ 2305843009213693952 < tv := by omega
     obtain ⟨w6, hst, hK6, h7⟩ := imap_put HH.out (by have := vTo_len F T j; have := Hb.out.2.1; unfold maxLen; omega) f f0 f1 tv
     have HM2 : Hid ((∀ i (hi : i < nf), i < j + 1 -> 1 <= T[i]'(by have := Hn.out.2.2; have := Hb.out.2.2.1; omega) /\ T[i]'(by have := Hn.out.2.2; have := Hb.out.2.2.1; omega) <= 2305843009213693952) /\ Kept w w6 /\ Has w6 (imapS vb (vTo F T (j + 1)) :: treesT t sp p (ts.map (·.a)) vs :: btS p bank sp N es3 Q :: (rs.map kvR ++ l))) := by
      refine ⟨fun i hi hij => ?_, HK.out.trans hK6, by rw [vTo_next Hf.out.1 Hf.out.2]; exact h7⟩
      by_cases e : i = j
      ·subst e
       rw [(List.getElem?_eq_some_iff.1 Hf.out.2).2]
       omega
      ·exact HG.out i hi (by omega)
     clear HG HH HK Hf hK6 h7 hbt f0 f1
     go_wp2
     go_roundg (nf - (j + 1))
     case measure => omega
     case rel => exact ⟨j + 1, by omega, rfl, by go_num, HM2⟩
    ·skip
     obtain rfl : j = nf := by omega
     have hvals := vals_last (F := F) (T := T) (by have := Hn.out.2; have := Hb.out.2.2.1; omega)
     have hvr : ∀ a b, VMap.get a (vTo F T F.length) = some b -> 1 <= b /\ b <= 2305843009213693952 := fun a b hab => by
      obtain ⟨_, i, hi, hti⟩ := vTo_dom hab
      have hi' : i < j := by have := Hn.out.2.1; omega
      have := hgood i hi' hi'
      rw [(List.getElem?_eq_some_iff.1 hti).2] at this
      exact this
     obtain ⟨V, hV⟩ : ∃ V, vTo F T F.length = V := ⟨_, rfl⟩
     rw [hV] at hvals hvr
     have hVj : vTo F T j = V := by rw [<- hV, Hn.out.2.1]
     rw [hVj] at hh
     have HV := Lib.hid (And.intro hvals hvr)
     have HM0 : Hid (Kept w wr /\ ∃ q c, (Value.slice none 0 0) = .slice q 0 c /\ Has wr (intsS (.slice none 0 0) (lastL V (F.take 0)) :: imapS vb V :: treesT t sp p (ts.map (·.a)) vs :: btS p bank sp N es3 Q :: (rs.map kvR ++ l))) := ⟨hK, none, 0, rfl, hh.row_nil 3 1⟩
     clear hgood hK hh hvals hvr hV hVj hlt2
     go_wp2
     go_loopg [133, 15] j (fun gk iv ov wr => ∃ k : Nat, k <= j /\ gk = j - k /\ iv = .int .i64 k /\ Hid (Kept w wr /\ ∃ q c, ov = .slice q k c /\ Has wr (intsS ov (lastL V (F.take k)) :: imapS vb V :: treesT t sp p (ts.map (·.a)) vs :: btS p bank sp N es3 Q :: (rs.map kvR ++ l))))
     case atStart => exact ⟨0, Nat.zero_le _, rfl, rfl, HM0⟩
     case round =>
      clear HM0
      obtain ⟨i, hi, rfl, rfl, HM⟩ := hrel
      obtain ⟨hK, q, qc, rfl, hh⟩ := HM.out
      clear HM
      by_cases hlt3 : i < j
      ·skip
       have hl := Has.right (m := rs.map kvR) hh.tail.tail.tail.tail
       obtain ⟨_, _, e6, hrd⟩ := (HF.out.1 wr hl).rd
       injection e6 with e6 e7 e8
       subst e6
       obtain ⟨gf, go, rfl, cf⟩ := hrd i (by have := Hn.out.2.1; omega)
       obtain ⟨f, hf⟩ : ∃ f, F[i]? = some f := ⟨_, List.getElem?_eq_getElem (by have := Hn.out.2.1; omega)⟩
       rw [(List.getElem?_eq_some_iff.1 hf).2] at cf
       have lf := World.block_lt_of_cell? _ _ cf
       obtain ⟨f0, f1⟩ := HF.out.2.2 f (List.mem_of_getElem? hf)
       have hlk := imap_look hh (b := vb) (M := V) (by simp) f f0 f1
       have hll : (lastL V (F.take i)).length = i := by unfold lastL; rw [List.length_map, List.length_take]; have := Hn.out.2.1; omega
       have hsn : lastL V (F.take (i + 1)) = lastL V (F.take i) ++ [(VMap.get f V).getD 0] := by
        unfold lastL
        obtain ⟨hlt, e⟩ := List.getElem?_eq_some_iff.1 hf
        rw [List.take_succ_eq_append_getElem hlt, List.map_append, e]
        rfl
       obtain ⟨yv, hyv⟩ : ∃ yv, (VMap.get f V).getD 0 = yv := ⟨_, rfl⟩
       rw [hyv] at hlk hsn
       have HA := Lib.hid (hh.alloc (.cells #[.int .i64 yv] 3)).swap
       have HKA := Lib.hid (hK.alloc (.cells #[.int .i64 yv] 3))
       have Hll := Lib.hid hll
       have Hsn := Lib.hid hsn
       have iI : (i : Int) < (j : Int) := by omega
       have i0 : (0 : Int) <= i := by omega
       clear hK hh hl hrd hf e7 e8 hll hsn hyv
       go_upto_region 25 with (at_builtin; refine wpList_append_int rfl (.tmp 136) (.tmp 143) rfl rfl rfl HA.out (.head _) Hll.out (by have := Hll.out; have := Hb.out.2.1; omega) ?_; intro p1 q1 w3 hK3 hz)
       have HM2 : Hid (Kept w w3 /\ ∃ q c, (Value.slice p1 (i + 1) q1) = .slice q (i + 1) c /\ Has w3 (intsS (.slice p1 (i + 1) q1) (lastL V (F.take (i + 1))) :: imapS vb V :: treesT t sp p (ts.map (·.a)) vs :: btS p bank sp N es3 Q :: (rs.map kvR ++ l))) := by
        refine ⟨HKA.out.trans hK3, p1, q1, rfl, ?_⟩
        rw [Hsn.out]
        exact Has.skip (A := [_]) (M := [_]) hz
       clear hz hK3 HA HKA Hsn Hll f0 f1
       go_wp2
       go_roundg (j - (i + 1))
       case measure => omega
       case rel => exact ⟨i + 1, by omega, rfl, by go_num, HM2⟩
      ·skip
       obtain rfl : i = j := by omega
       rw [List.take_of_length_le (by have := Hn.out.2.1; omega)] at hh
       have tro := hh.at (b := t) (o := (.cells (treesC sp p (ts.map (·.a)) vs) 70 (0, 0))) (by simp [treesT])
       have t0 : wr.cell? ⟨t, 0, none⟩ = some (.pointer (some ⟨sp, 0, none⟩)) := cell_of tro 0 rfl
       have lt0 := World.block_lt_of_cell? _ _ t0
       have HR := Lib.hid (bt_Roster (hh.pull 3))
       have HK := Lib.hid hK
       clear hK hh tro hlt3
       go_wp2_with fail
       refine HR.out.mono ?_
       rintro r w7 ⟨rq, rc, rfl, hK7, h8⟩
       have e3l : es3.length = 3 := rfl
       rw [e3l] at h8 ⊢
       have h9 : Has (w7.alloc (.cells #[.slice rq 3 rc] 58)) (pts w7.heap.size (.cells #[.slice rq 3 rc] 58 (0, 0)) :: entS (.slice rq 3 rc) es3 :: btS p bank sp N es3 Q :: intsS (.slice q i qc) (lastL V F) :: imapS vb V :: treesT t sp p (ts.map (·.a)) vs :: (rs.map kvR ++ l)) := h8.alloc _
       have hk9 := (HK.out.trans hK7).alloc (.cells #[.slice rq 3 rc] 58)
       obtain ⟨ok3, okD, hlike, hact, hed, _, _⟩ := esD_facts Hb.out.1
       have HD := Lib.hid (ros_Drain (v := .slice rq 3 rc) h9 (.tail _ (.head _)) ok3 okD hed hact)
       have H9 := Lib.hid h9
       have HK9 := Lib.hid hk9
       have HE := Lib.hid (And.intro okD hlike)
       clear hK7 h8 h9 hk9 ok3 okD hlike hact hed HR HK t0 lt0
       go_wp2_with fail
       generalize w7.alloc (.cells #[.slice rq 3 rc] 58) = W8 at *
       generalize w7.heap.size = r17 at *
       refine HD.out.mono ?_
       rintro r w9 ⟨dq, dc, rfl, hK10, h10⟩
       have eDl : (es3.set d ⟨2, 200⟩).length = 3 := by rw [List.length_set]; rfl
       rw [eDl] at h10 ⊢
       have h11 : Has w9 (pts r17 (.cells #[.slice rq 3 rc] 58 (0, 0)) :: entS (.slice dq 3 dc) (esD d) :: entS (.slice rq 3 rc) es3 :: btS p bank sp N es3 Q :: intsS (.slice q i qc) (lastL V F) :: imapS vb V :: treesT t sp p (ts.map (·.a)) vs :: (rs.map kvR ++ l)) := h10.reord [1]
       have z17 : w9.cell? ⟨r17, 0, none⟩ = some (.slice rq 3 rc) := cell_of h11.got 0 rfl
       have f17 : w9.frozen? ⟨r17, 0, none⟩ = false := thaw_of h11.got 0
       have l17 := World.block_lt_of_cell? _ _ z17
       have h12 : Has (w9.setCell ⟨r17, 0, none⟩ (.slice dq 3 dc)) (treesT t sp p (ts.map (·.a)) vs :: btS p bank sp N es3 Q :: pts r17 (.cells #[.slice dq 3 dc] 58 (0, 0)) :: entS (.slice dq 3 dc) (esD d) :: intsS (.slice q i qc) (lastL V F) :: imapS vb V :: (rs.map kvR ++ l)) := by
        have h13 := h11.setCell 0 (.slice dq 3 dc)
        have h14 := (h13.reord [2]).tail
        exact h14.reord [5, 2]
       have hk12 := (HK9.out.trans hK10).setCell ⟨r17, 0, none⟩ (.slice dq 3 dc)
       have H12 := Lib.hid h12
       have HK12 := Lib.hid hk12
       clear hK10 h10 h11 h12 hk12 HD H9 HK9 eDl e3l
       go_upto_region 28 with fail
       generalize w9.setCell ⟨r17, 0, none⟩ (.slice dq 3 dc) = W12 at *
       clear z17 f17 l17
       have hh := H12.out
       have t0 : W12.cell? ⟨t, 0, none⟩ = some (.pointer (some ⟨sp, 0, none⟩)) := cell_of hh.got 0 rfl
       have c17 : W12.cell? ⟨r17, 0, none⟩ = some (.slice dq 3 dc) := cell_of (hh.at (b := r17) (o := .cells #[.slice dq 3 dc] 58 (0, 0)) (by simp)) 0 rfl
       clear H12
       obtain ⟨FA, HFA⟩ : ∃ FA : List (Nat × Addr × Value), Hid (FA = [(6, ⟨t, 0, none⟩, .pointer (some ⟨sp, 0, none⟩)), (7, ⟨r17, 0, none⟩, .slice dq 3 dc)]) := ⟨_, rfl⟩
       have fa6 : ∀ nI : In (factsOf FA 6), nI.w.cell? ⟨t, 0, none⟩ = some (.pointer (some ⟨sp, 0, none⟩)) := fun nI => factsOf.cell (by rw [HFA.out]; simp) nI
       have fa7 : ∀ nI : In (factsOf FA 7), nI.w.cell? ⟨r17, 0, none⟩ = some (.slice dq 3 dc) := fun nI => factsOf.cell (by rw [HFA.out]; simp) nI
       have hFA : ∀ p ∈ FA, W12.cell? p.2.1 = some p.2.2 := by rw [HFA.out]; exact (fcons t0 (fcons c17 fnil))
       haveI neFA : ∀ k, Nonempty (In (factsOf FA k)) := fun k => ⟨⟨_, factsOf.drew hFA k⟩⟩
       refine ws_begin [0, 1, 2, 3, 4, 5, 6, 7, 8, 9, 10] (factsOf FA) (treesT t sp p (ts.map (·.a)) vs :: btS p bank sp N es3 Q :: pts r17 (.cells #[.slice dq 3 dc] 58 (0, 0)) :: entS (.slice dq 3 dc) (esD d) :: intsS (.slice q i qc) (lastL V F) :: imapS vb V :: (rs.map kvR ++ l)) #[0, 1, 3, 7, 15, 31, 63, 7, 255, 511, 1023] (by kernel_rfl) (by kernel_rfl) (by kernel_rfl) factsOf.alloc (factsOf.drew hFA) hh ?_
       clear hFA
       iterate 8 (refine ws_q (at_lit rfl) rfl rfl rfl ?_; go_big_quiet_op; show WS _ _ _ _ _ _ _ _ _ _)
       refine ws_call (at_lit rfl) rfl rfl 63 #[.pointer (some ⟨sp, 0, none⟩), .agg #[.slice dq 3 dc]] (fun w => by go_simp) (fun v L' => v = .nilIface /\ L' = treesT t sp p (ts.map (·.a)) vs :: btS p bank sp N (esD d) Q :: pts r17 (.cells #[.slice dq 3 dc] 58 (0, 0)) :: entS (.slice dq 3 dc) (esD d) :: intsS (.slice q i qc) (lastL V F) :: imapS vb V :: (rs.map kvR ++ l)) (fun w' F hS hh => ?_) ?_
       ·refine (bt_Turn (v := .slice dq 3 dc) (hh.pull 1) (by simp) HE.out.1 HE.out.2).mono ?_
        rintro r w'' ⟨rfl, hK, hh'⟩
        exact ⟨_, _, rfl, hK, ⟨rfl, rfl⟩, hh'.swap⟩
       rintro _ _ ⟨rfl, rfl⟩
       refine ⟨fun w F hh => lives (l' := []) (by rw [HFA.out]; simp [liveFacts, Nat.testBit]) (fnil), ?_⟩
       simp only [Act.put, List.setIfInBounds_toArray, List.set_cons_zero, List.set_cons_succ]
       show WS _ _ _ _ _ _ _ _ _ _
       iterate 2 (refine ws_q (at_lit rfl) rfl rfl rfl ?_; go_big_quiet_op; show WS _ _ _ _ _ _ _ _ _ _)
       refine ws_end ?_
       intro w13 hK13 h13
       have HK13 := Lib.hid (HK12.out.trans hK13)
       have t1 : w13.cell? ⟨t, 1, none⟩ = some (.pointer (some ⟨p, 0, none⟩)) := cell_of h13.got 1 rfl
       have lt1 := World.block_lt_of_cell? _ _ t1
       have hq := ScW.pages (w := w) (wr := wr) (l := l) (t := t) (sp := sp) (p := p) (bank := bank) (N := 0) HX.out.1 HX.out.2.1 HX.out.2.2.1 HX.out.2.2.2.1
       have hq170 : Q.length <= 170 := by have := Hb.out.2.2.2; omega
       have HPg := Lib.hid (bt_Pages h13.swap (by omega))
       have Hq := Lib.hid hq170
       clear hK13 h13 hh HFA neFA FA fa6 fa7 t0 c17 HK12 HE hq hq170
       go_wp2_with fail
       refine HPg.out.mono ?_
       rintro r w14 ⟨pv, rfl, hK14, h14⟩
       obtain ⟨pq, pc, rfl, _, _⟩ := h14.ints_read (v := pv) (xs := Q.map (·.1)) (.head _)
       obtain ⟨m, hm⟩ : ∃ m, (Q.map (·.1)).length = m := ⟨_, rfl⟩
       have hm' : Q.length = m := by rw [<- hm, List.length_map]
       rw [hm] at h14 ⊢
       have hmI : (m : Int) <= 170 := by have := Hq.out; omega
       have Hm := Lib.hid hm'
       have h15 : Has (w14.alloc (.map #[] 0)) (imapS w14.heap.size [] :: intsS (.slice pq m pc) (Q.map (·.1)) :: btS p bank sp N (esD d) Q :: treesT t sp p (ts.map (·.a)) vs :: pts r17 (.cells #[.slice dq 3 dc] 58 (0, 0)) :: entS (.slice dq 3 dc) (esD d) :: intsS (.slice q i qc) (lastL V F) :: imapS vb V :: (rs.map kvR ++ l)) := imap_made h14
       have h16 : Has (w14.alloc (.map #[] 0)) (treesT t sp p (ts.map (·.a)) vs :: btS p bank sp N (esD d) Q :: imapS w14.heap.size [] :: imapS vb V :: intsS (.slice q i qc) (lastL V F) :: (rs.map kvR ++ l)) := by
        have h17 := h15.reord [3, 2, 0, 4, 3]
        exact Has.skip (A := [_, _, _, _, _]) (M := [_, _, _]) h17
       obtain ⟨y0, v0, hu0, _, _⟩ := HX.out.2.1.at (i := 0) (by omega)
       obtain ⟨y1, v1, hu1, _, _⟩ := HX.out.2.1.at (i := 1) (by omega)
       obtain ⟨y2, v2, hu2, _, _⟩ := HX.out.2.1.at (i := 2) (by omega)
       obtain ⟨y3, v3, hu3, _, _⟩ := HX.out.2.1.at (i := 3) (by omega)
       have r0 : (w14.alloc (.map #[] 0)).cell? ⟨t, 2, none⟩ = some (.int .i64 y0.a) := cell_of h16.got (2 + 0) (treesC_root (by rw [List.getElem?_map, hu0]; rfl))
       have r1 : (w14.alloc (.map #[] 0)).cell? ⟨t, 3, none⟩ = some (.int .i64 y1.a) := cell_of h16.got (2 + 1) (treesC_root (by rw [List.getElem?_map, hu1]; rfl))
       have r2 : (w14.alloc (.map #[] 0)).cell? ⟨t, 4, none⟩ = some (.int .i64 y2.a) := cell_of h16.got (2 + 2) (treesC_root (by rw [List.getElem?_map, hu2]; rfl))
       have r3 : (w14.alloc (.map #[] 0)).cell? ⟨t, 5, none⟩ = some (.int .i64 y3.a) := cell_of h16.got (2 + 3) (treesC_root (by rw [List.getElem?_map, hu3]; rfl))
       have lt2 := World.block_lt_of_cell? _ _ r0
       have HU : Hid (∀ (i : Nat) u, ts[i]? = some u -> i < 4 -> [y0.a, y1.a, y2.a, y3.a][i]? = some u.a) := fun i u hu hi => at4 hu0 hu1 hu2 hu3 hu hi
       have HM0 : Hid (SgM w l t sp p bank w14.heap.size vb d N (.slice q i qc) F Q ts V 0 (w14.alloc (.map #[] 0))) := by
        have hI14 := h14.tail.bt_inv.1
        obtain ⟨_, _, hlike, _⟩ := esD_facts Hb.out.1
        exact ⟨Q, [], ts, vs, rs, SwL.start HX.out.2.2.2.1 HX.out.1 V d, HX.out.2.1, (HK13.out.trans hK14).alloc _, h16⟩
       have hmm := @run_makeMap Tryz.prog
       clear hK14 h14 h15 h16 hm hm' hu0 hu1 hu2 hu3 HPg HK13 t1 lt1
       go_upto_region 33 with fail
       clear hmm r0 r1 r2 r3 lt2
       generalize w14.alloc (.map #[] 0) = W15 at *
       generalize w14.heap.size = nb at *
       go_loopg [179] 4 (fun gk iv wr => ∃ k : Nat, k <= 4 /\ gk = 4 - k /\ iv = .int .i64 k /\ Hid (SgM w l t sp p bank nb vb d N (.slice q i qc) F Q ts V k wr))
       case atStart => exact ⟨0, Nat.zero_le _, rfl, rfl, HM0⟩
       case round =>
        clear HM0
        obtain ⟨k, hk, rfl, rfl, HM⟩ := hrel
        obtain ⟨Q1, M, ts1, vs1, rs1, hSL, h4, hK, hh⟩ := HM.out
        clear HM
        by_cases hlt4 : k < 4
        ·skip
         obtain ⟨u, _, hu, _, _⟩ := HX.out.2.1.at hlt4
         obtain ⟨u', v, hu', hv, hr⟩ := h4.at hlt4
         have hti := hSL.tre k u hu
         rw [if_neg (Nat.lt_irrefl _), hu'] at hti
         obtain rfl := Option.some.inj hti
         have kI : (k : Int) < 4 := by omega
         have k0 : (0 : Int) <= k := by omega
         have hml : (ts1.map (·.a)).length = 4 := by rw [List.length_map]; exact h4.four
         have hix := idx4 y0.a y1.a y2.a y3.a wr k u'.a (HU.out k u' hu hlt4)
         obtain ⟨a, ha⟩ : ∃ a, u'.a = a := ⟨_, rfl⟩
         have t1 : wr.cell? ⟨t, 1, none⟩ = some (.pointer (some ⟨p, 0, none⟩)) := cell_of hh.got 1 rfl
         have lt1 := World.block_lt_of_cell? _ _ t1
         obtain ⟨vq, vc, ev0, _⟩ := hh.kv_read (v := v) (L := u'.L) (by simp [kvR_mem hr])
         obtain ⟨vn, hvn⟩ : ∃ n, u'.L.length = n := ⟨_, rfl⟩
         rw [hvn] at ev0
         subst ev0
         have hLl := (HX.out.2.2.1 u' (List.mem_of_getElem? hu)).2
         have HSw := sw_tree (N0 := N) (nb := nb) (vb := vb) (hh.reord [2, 1]) ((Ht.out.app _).cons.cons.cons) (.tail _ (.head _)) Hb.out.1 hSL HX.out.2.2.2.1 HX.out.1 hu HV.out.2 Hq.out (by have := HX.out.2.2.2.2; omega)
         rw [ha] at hix HSw
         have HSw := Lib.hid HSw
         have HY := Lib.hid (And.intro hu' (And.intro hv (And.intro hr (And.intro h4 (And.intro hml (And.intro ha (show u'.L.length <= 100000 by have := Hb.out.2.2.2; omega)))))))
         have HK := Lib.hid hK
         clear hSL h4 hK hh hu hu' hv hr hml ha hLl
         go_upto_region 35 with fail
         clear hix
         go_wp2_with fail
         refine HSw.out.mono ?_
         rintro r w6 ⟨Q2, M2, rfl, hK6, hSL2, h7⟩
         obtain ⟨tv, htv⟩ : ∃ tv, swV M2 a = tv := ⟨_, rfl⟩
         rw [htv]
         have h8 := h7.reord [2, 1]
         have tv1 : w6.cell? ⟨t, 6 + k, none⟩ = some (.slice vq vn vc) := cell_of h8.got _ (treesC_list HY.out.2.2.2.2.1 HY.out.2.1)
         have lt6 := World.block_lt_of_cell? _ _ tv1
         have HH := Lib.hid h8
         have HK6 := Lib.hid (HK.out.trans hK6)
         have HS2 := Lib.hid (And.intro hSL2 htv)
         clear hK6 hSL2 h7 h8 htv HSw HK t1 lt1
         go_upto_region 38 with fail
         have hh := HH.out
         clear HH
         obtain ⟨FA, HFA⟩ : ∃ FA : List (Nat × Addr × Value), Hid (FA = [(10, ⟨t, 6 + k, none⟩, .slice vq vn vc)]) := ⟨_, rfl⟩
         have fa10 : ∀ nI : In (factsOf FA 10), nI.w.cell? ⟨t, 6 + k, none⟩ = some (.slice vq vn vc) := fun nI => factsOf.cell (by rw [HFA.out]; simp) nI
         have hFA : ∀ p ∈ FA, w6.cell? p.2.1 = some p.2.2 := by rw [HFA.out]; exact (fcons tv1 fnil)
         haveI neFA : ∀ k, Nonempty (In (factsOf FA k)) := fun k => ⟨⟨_, factsOf.drew hFA k⟩⟩
         refine ws_begin [0, 1, 2, 3, 4, 5, 6, 7, 8, 9, 10, 11, 12, 13, 14, 15, 16, 17, 18, 19, 20, 21] (factsOf FA) (treesT t sp p (ts1.map (·.a)) vs1 :: btS p bank sp (N + M2.length + (k + 1)) (esD d) Q2 :: imapS nb M2 :: imapS vb V :: intsS (.slice q i qc) (lastL V F) :: (rs1.map kvR ++ l)) #[0, 0, 0, 0, 0, 0, 0, 32, 160, 480, 992, 0, 0, 8160, 1, 16385, 65523, 131059, 4, 262148, 1048575, 2097151] (by kernel_rfl) (by kernel_rfl) (by kernel_rfl) factsOf.alloc (factsOf.drew hFA) hh ?_
         clear hFA
         iterate 13 (refine ws_q (at_lit rfl) rfl rfl rfl ?_; go_big_quiet_op; show WS _ _ _ _ _ _ _ _ _ _)
         refine ws_call (at_lit rfl) rfl rfl 65 #[.slice vq vn vc, .slice fa i fc, .slice q i qc] (fun w => by go_simp) (fun v L' => ∃ q2 n2 c2, v = .slice q2 n2 c2 /\ L' = kvS (.slice q2 n2 c2) (swL V u'.L) :: treesT t sp p (ts1.map (·.a)) vs1 :: btS p bank sp (N + M2.length + (k + 1)) (esD d) Q2 :: imapS nb M2 :: imapS vb V :: intsS (.slice q i qc) (lastL V F) :: (rs1.map kvR ++ l)) (fun w' F' hS hh => ?_) ?_
         ·have hvia : ∀ w, Has w ((treesT t sp p (ts1.map (·.a)) vs1 :: btS p bank sp (N + M2.length + (k + 1)) (esD d) Q2 :: imapS nb M2 :: imapS vb V :: intsS (.slice q i qc) (lastL V F) :: (rs1.map kvR ++ l)) ++ F') -> Has w l := fun w hw => Has.right (m := rs1.map kvR) (Has.front hw).tail.tail.tail.tail.tail
          refine (ref_Swapped (v := .slice vq vn vc) (L := u'.L) hh (by have := kvR_mem HY.out.2.2.1; simp [this]) (HF.out.1.via hvia) (Srcs.of_ints (by simp)) HV.out.1 HY.out.2.2.2.2.2.2 (by have := Hn.out.2.1; have := Hb.out.2.1; omega)).mono ?_
          intro r w'' hpost
          obtain ⟨q2, n2, c2, rfl, hK, hh'⟩ := hpost.slice
          exact ⟨_, _, rfl, hK, ⟨q2, n2, c2, rfl, rfl⟩, hh'⟩
         rintro _ _ ⟨q2, n2, c2, rfl, rfl⟩
         refine ⟨fun w F hh => lives (l' := []) (by rw [HFA.out]; simp [liveFacts, Nat.testBit]) (fnil), ?_⟩
         simp only [Act.put, List.setIfInBounds_toArray, List.set_cons_zero, List.set_cons_succ]
         show WS _ _ _ _ _ _ _ _ _ _
         iterate 3 (refine ws_q (at_lit rfl) rfl rfl rfl ?_; go_big_quiet_op; show WS _ _ _ _ _ _ _ _ _ _)
         refine ws_reord [1] ?_
         simp only [reord, pull]
         refine ws_store_root (at_lit rfl) rfl rfl (.tmp 213) (.tmp 201) rfl rfl rfl HY.out.2.2.2.2.1 HY.out.2.2.2.1.vals hlt4 (fun w' F hh => lives (l' := []) (by rw [HFA.out]; simp [liveFacts, Nat.testBit]) (fnil)) ?_
         simp only [Act.put, List.setIfInBounds_toArray, List.set_cons_zero, List.set_cons_succ]
         show WS _ _ _ _ _ _ _ _ _ _
         iterate 3 (refine ws_q (at_lit rfl) rfl rfl rfl ?_; go_big_quiet_op; show WS _ _ _ _ _ _ _ _ _ _)
         refine ws_store_list (at_lit rfl) rfl rfl (.tmp 216) (.tmp 210) rfl rfl rfl (by rw [List.length_set]; exact HY.out.2.2.2.2.1) HY.out.2.2.2.1.vals hlt4 (fun w' F hh => lives (l' := []) (by rw [HFA.out]; simp [liveFacts, Nat.testBit]) (fnil)) ?_
         simp only [Act.put, List.setIfInBounds_toArray, List.set_cons_zero, List.set_cons_succ]
         show WS _ _ _ _ _ _ _ _ _ _
         refine ws_end ?_
         intro w9 hK9 h9
         have HM2 : Hid (SgM w l t sp p bank nb vb d N (.slice q i qc) F Q ts V (k + 1) w9) := by
          obtain ⟨hu', hv, hr, h4, hml, ha, _⟩ := HY.out
          obtain ⟨hSL2, htv⟩ := HS2.out
          refine ⟨Q2, M2, ts1.set k (swT V M2 u'), vs1.set k (.slice q2 n2 c2), (.slice q2 n2 c2, swL V u'.L) :: rs1, hSL2, h4.set k (fun r hr => .tail _ hr) (.head _), HK6.out.trans hK9, ?_⟩
          have e : (ts1.set k (swT V M2 u')).map (·.a) = (ts1.map (·.a)).set k tv := by rw [roots_set, <- htv, <- ha]; rfl
          rw [e]
          exact h9.reord [0, 1, 1, 1, 1]
         clear hK9 h9 hh HFA neFA FA fa10 tv1 lt6 HK6 HS2 HY
         go_wp2
         go_roundg (4 - (k + 1))
         case measure => omega
         case rel => exact ⟨k + 1, by omega, rfl, by go_num, HM2⟩
        ·skip
         obtain rfl : k = 4 := by omega
         have hI2 := hh.tail.bt_inv.1
         have h40 : ts.length = 4 := HX.out.2.1.four
         obtain ⟨hlen, hoff⟩ := SwL.all (by rw [h40]; exact hSL) HX.out.2.2.2.1 hI2 HX.out.1
         have hb1000 : ∀ u ∈ ts1, u.L.length <= 1000 := hSL.lens fun u hu => by have := (HX.out.2.2.1 u hu).2; have := Hb.out.2.2.2; omega
         have t1 : wr.cell? ⟨t, 1, none⟩ = some (.pointer (some ⟨p, 0, none⟩)) := cell_of hh.got 1 rfl
         have lt1 := World.block_lt_of_cell? _ _ t1
         obtain ⟨N2, hN2⟩ : ∃ N2, N + M.length + 4 = N2 := ⟨_, rfl⟩
         rw [hN2] at hh
         have hm1 : Q1.length = m := by rw [hlen]; exact Hm.out
         have HPg : Hid (∀ w' l', Has w' (btS p bank sp N2 (esD d) Q1 :: l') -> Calls Tryz.prog 25 #[.pointer (some ⟨p, 0, none⟩)] w' (PagesPost Q1 (btS p bank sp N2 (esD d) Q1 :: l') w')) := fun w' l' h => bt_Pages h (by omega)
         have HP1 := Lib.hid (HPg.out wr _ hh.swap)
         have HK := Lib.hid hK
         have HZ := Lib.hid (And.intro hSL.grove (And.intro h4 (And.intro hb1000 (And.intro hoff (And.intro hm1 hI2.bd)))))
         clear hK hh hSL h4 hI2 h40 hlen hoff hb1000 hN2 hm1 hlt4
         go_wp2_with fail
         refine HP1.out.mono ?_
         rintro r w16 ⟨pv, rfl, hK16, h16⟩
         obtain ⟨pq2, pc2, rfl, _, _⟩ := h16.ints_read (v := pv) (xs := Q1.map (·.1)) (.head _)
         have hm2 : (Q1.map (·.1)).length = m := by rw [List.length_map]; exact HZ.out.2.2.2.2.1
         rw [hm2] at h16 ⊢
         have Hm2 := Lib.hid hm2
         have HM0 : Hid (Kept w w16 /\ Has w16 (intsS (.slice pq2 m pc2) (Q1.map (·.1)) :: btS p bank sp N2 (esD d) Q1 :: treesT t sp p (ts1.map (·.a)) vs1 :: imapS nb M :: imapS vb V :: intsS (.slice q i qc) (lastL V F) :: (rs1.map kvR ++ l))) := ⟨HK.out.trans hK16, h16⟩
         clear hK16 h16 hm2 HP1 HK t1 lt1
         go_wp2
         go_loopg [224] m (fun gk iv wr => ∃ j : Nat, j <= m /\ gk = m - j /\ iv = .int .i64 j /\ Hid (Kept w wr /\ Has wr (intsS (.slice pq2 m pc2) (Q1.map (·.1)) :: btS p bank sp N2 (esD d) Q1 :: treesT t sp p (ts1.map (·.a)) vs1 :: imapS nb M :: imapS vb V :: intsS (.slice q i qc) (lastL V F) :: (rs1.map kvR ++ l))))
         case atStart => exact ⟨0, Nat.zero_le _, rfl, rfl, HM0⟩
         case round =>
          clear HM0
          obtain ⟨j, hj, rfl, rfl, HM⟩ := hrel
          obtain ⟨hK, hh⟩ := HM.out
          by_cases hlt5 : j < m
          ·skip
           obtain ⟨_, _, e6, _, hrd⟩ := hh.ints_read (v := .slice pq2 m pc2) (xs := Q1.map (·.1)) (.head _)
           injection e6 with e6 e7 e8
           subst e6
           obtain ⟨gp, rfl, cp, _⟩ := hrd j (by have := Hm2.out; omega)
           obtain ⟨x, hx⟩ : ∃ x, (Q1.map (·.1))[j]'(by have := Hm2.out; omega) = x := ⟨_, rfl⟩
           have hxm : x ∈ Q1.map (·.1) := by rw [<- hx]; exact List.getElem_mem _
           rw [hx] at cp
           obtain ⟨⟨x', gx⟩, hxq, e9⟩ := List.mem_map.1 hxm
           obtain ⟨x0, x1⟩ := HZ.out.2.2.2.2.2 _ hxq
           simp only at e9 x0 x1
           subst e9
           obtain ⟨xn, hxn⟩ : ∃ xn : Nat, x' = (xn : Int) := ⟨x'.toNat, by omega⟩
           have hin : (VMap.get x' Q1).isSome = true := by rw [mem_get (hh.tail.bt_inv.1.up) hxq]; rfl
           have hof := HZ.out.2.2.2.1 x' hin
           subst hxn
           have HAt := Lib.hid (space_At (w := wr) xn (by omega))
           obtain ⟨dd, hdd⟩ : ∃ dd : Int, ((xn / 4096 : Nat) : Int) = dd := ⟨_, rfl⟩
           have hne : (dd == (d : Int)) = false := by
            unfold Off at hof
            rw [<- hdd]
            simp
            omega
           obtain ⟨dm, hdm⟩ : ∃ dm : Int, ((xn % 4096 : Nat) : Int) = dm := ⟨_, rfl⟩
           rw [hdd, hdm] at HAt
           have lp := World.block_lt_of_cell? _ _ cp
           have jI : (j : Int) < (m : Int) := by omega
           have j0 : (0 : Int) <= j := by omega
           clear hK hh hrd hx hxm hxq hin hof hdd hdm e7 e8
           go_wp2_with fail
           refine HAt.out.mono ?_
           rintro r w17 ⟨rfl, rfl⟩
           clear HAt
           go_wp2
           go_roundg (m - (j + 1))
           case measure => omega
           case rel => exact ⟨j + 1, by omega, rfl, by go_num, HM⟩
          ·skip
           obtain rfl : j = m := by omega
           obtain ⟨hG, h4, hb1000, hoff, hm1, hbd⟩ := HZ.out
           have h5 : Has wr (treesT t sp p (ts1.map (·.a)) vs1 :: btS p bank sp N2 (esD d) Q1 :: (rs1.map kvR ++ (intsS (.slice pq2 j pc2) (Q1.map (·.1)) :: imapS nb M :: imapS vb V :: intsS (.slice q i qc) (lastL V F) :: l))) := by
            have h6 := hh.reord [2, 1]
            exact h6.perm (((List.perm_append_comm_assoc [_, _, _, _] (rs1.map kvR) l).cons _).cons _)
           have HHo := Lib.hid (law_holdsT h5 Ht.out.cons.cons.cons.cons hG h4 hb1000 (by omega))
           have HK := Lib.hid hK
           clear hK hh hG h4 hb1000 hoff hm1 hbd h5 hlt5 HM
           go_wp2_with fail
           refine HHo.out.mono ?_
           rintro r w18 ⟨rfl, hK18, h18⟩
           have t1 : w18.cell? ⟨t, 1, none⟩ = some (.pointer (some ⟨p, 0, none⟩)) := cell_of h18.got 1 rfl
           have lt1 := World.block_lt_of_cell? _ _ t1
           have HP1 := Lib.hid (HPg.out w18 _ h18.swap)
           have HK18 := Lib.hid (HK.out.trans hK18)
           clear hK18 h18 HHo HK
           go_wp2_with fail
           refine HP1.out.mono ?_
           rintro r w19 ⟨pv, rfl, hK19, h19⟩
           obtain ⟨pq3, pc3, rfl, _, _⟩ := h19.ints_read (v := pv) (xs := Q1.map (·.1)) (.head _)
           rw [Hm2.out] at h19 ⊢
           have hjj : ((j : Int) == (j : Int)) = true := by simp
           have t0 : w19.cell? ⟨t, 0, none⟩ = some (.pointer (some ⟨sp, 0, none⟩)) := cell_of h19.tail.tail.got 0 rfl
           have lt0 := World.block_lt_of_cell? _ _ t0
           have HOn := Lib.hid (bt_On (d := d) (h19.pull 1) ((Ht.out.cons.cons.cons.cons.app _).cons.cons) (by rw [esD, List.length_set]; have := Hb.out.1; have e3l : es3.length = 3 := rfl; omega))
           have HK19 := Lib.hid (HK18.out.trans hK19)
           clear hK19 h19 HP1 HK18 t1 lt1
           go_wp2_with fail
           refine HOn.out.mono ?_
           rintro r w20 ⟨ov, onl, rfl, hK20, hon, h20⟩
           have honil : onl = [] := by
            cases onl with
            | nil => rfl
            | cons x xs =>
             obtain ⟨h1, h2⟩ := hon x (.head _)
             exact absurd h2 (HZ.out.2.2.2.1 x h1)
           subst honil
           obtain ⟨oq, oc, rfl, _, _⟩ := h20.ints_read (v := ov) (xs := []) (.head _)
           simp only [List.length_nil] at h20 ⊢
           have h21 : Has w20 l := by
            have h22 := h20.tail.tail.tail.tail
            exact (Has.right (m := rs1.map kvR) h22).tail.tail.tail.tail
           have HA := Lib.hid (awake12 h21 Ht.out)
           have HK20 := Lib.hid (HK19.out.trans hK20)
           clear hK20 h20 h21 hon HOn HK19 t0 lt0
           go_wp2_with fail
           refine HA.out.mono ?_
           rintro r w21 ⟨rfl, hK21, h22⟩
           have HFi : Hid (Kept w w21 /\ Has w21 l) := ⟨HK20.out.trans hK21, h22⟩
           clear hK21 h22 HA HK20
           go_wp2
           go_ret
           exact ⟨rfl, HFi.out.1, HFi.out.2⟩
end Go.Proofs.YtgbgneiciabidaaGreatDoor
