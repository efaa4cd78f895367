/-
  Trees (layer 12): a page is swapped (the walk of swap).
-/
import Derived.Test.YtgbgneiciabidaaGreatDoorGs39
namespace Go.Proofs.YtgbgneiciabidaaGreatDoor
open Go Go.RowKit
set_option linter.all false
set_option maxHeartbeats 8000000
set_option maxRecDepth 100000 in
theorem ch_swapL (lv : Nat) (ih : ∀ lv', lv = lv' + 1 -> SwC lv') : SwC lv := by
 intro w l c p bank sp N nb es0 es Q0 Q M V dev P D put pv vm addr g0 h ht hlk hH hS hP hg0 hlv hlen hN hput
 obtain ⟨g1, g, e1, hg, hgn, hkP⟩ := hS.old addr hP
 rw [hg0] at e1
 obtain rfl := Option.some.inj e1
 obtain ⟨hI, _⟩ := h.tail.bt_inv
 have hbd := (hI.adr addr (by rw [hg]; rfl)).bd
 have hlm := imap_look_ok h (.head _) addr (by omega) (by omega)
 cases hgm : VMap.get addr M with
 | some b =>
  rw [hgm] at hlm
  have HF : Hid (SwPost c p bank sp N nb es Q0 Q M V dev P D put addr l w (.returned (.tuple #[.int .i64 b, .nilIface])) w) := ⟨Kept.refl w, [], Q, M, pv, by rw [swV_some hgm], .noted hS hgm, by simpa using h⟩
  clear h ht hlk hH hS hP hg0 hlv hlen hN hput hg hgn hkP hI hbd hgm ih
  simp only [Option.getD_some, Option.isSome_some] at hlm
  go_enter Tryz.func122, Tryz.ntmps122
  go_wp2
  go_ret2
  exact HF.out
 | none =>
  rw [hgm] at hlm
  simp only [Option.getD_none, Option.isSome_none] at hlm
  obtain ⟨ok, _, _⟩ := hH.inv.pg addr g0 hg0
  obtain ⟨o0, o1, o2, o3, o4⟩ := ok_lens ok
  obtain ⟨an, han⟩ : ∃ an : Nat, addr = (an : Int) := ⟨addr.toNat, by omega⟩
  have HG := Lib.hid (bt_Get (h.pull 1) addr (by omega) (by omega))
  have HAt : Hid (∀ w', Calls Tryz.prog 66 #[.int .i64 addr] w' fun e w'' => e = .returned (.tuple #[.int .i64 (addr / 4096), .int .i64 (addr % 4096)]) /\ w' = w'') := fun w' => by
   subst han
   have := space_At (w := w') an (by omega)
   simpa using this
  have hgc := h.at (b := c) (o := .cells #[.pointer (some ⟨p, 0, none⟩), pv] 212 (0, 0)) (by simp [chL, changeS])
  have c0 : w.cell? ⟨c, 0, none⟩ = some (.pointer (some ⟨p, 0, none⟩)) := cell_of hgc 0 rfl
  have lc := World.block_lt_of_cell? _ _ c0
  have HX := Lib.hid (And.intro hlk (And.intro hH (And.intro hS (And.intro hP (And.intro hg0 (And.intro hkP (And.intro hlen (And.intro hN (And.intro hput (And.intro hgm ht))))))))))
  have Hok := Lib.hid ok
  have Hg := Lib.hid (And.intro hg hgn)
  obtain ⟨⟨lvI, keys, vals⟩, ho, he⟩ := g0
  have Hlv : Hid (lvI = (lv : Int)) := hlv
  have hv7 : vals.length <= 7 := by simp only at o2 o4; omega
  have hkl : keys.length = vals.length := o2
  have hv0 : 1 <= vals.length := by simp only at o2 o3; omega
  clear h ht hlk hH hS hP hg0 hlv hlen hN hput hg hgn hkP hI hgm hgc ok o0 o1 o2 o3 o4 han
  obtain ⟨on, hon⟩ : ∃ on, addr / 4096 = on := ⟨_, rfl⟩
  obtain ⟨sn, hsn⟩ : ∃ sn, addr % 4096 = sn := ⟨_, rfl⟩
  obtain ⟨cb, hcb⟩ : ∃ cb, (on == dev) = cb := ⟨_, rfl⟩
  rw [hon, hsn] at HAt
  have Hon := Lib.hid (And.intro hon hcb)
  clear hon hsn hbd
  go_enter Tryz.func122, Tryz.ntmps122
  go_wp2_with fail
  refine HG.out.mono ?_
  rintro r w1 ⟨hK1, (⟨h1, _⟩ | ⟨g', ak, ck, av, cv, h1, rfl, h3⟩)⟩
  ·rw [Hg.out.1] at h1; cases h1
  rw [Hg.out.1] at h1
  obtain rfl := Option.some.inj h1
  rw [Hg.out.2] at h3 ⊢
  clear h1 HG c0 lc hlm
  simp only [Nd.val] at h3 ⊢
  obtain ⟨n, hn⟩ : ∃ n, vals.length = n := ⟨_, rfl⟩
  rw [hkl, hn] at h3 ⊢
  rw [hn] at hv7 hv0
  have Hn := Lib.hid (And.intro hn (hkl.trans hn))
  clear hn hkl
  have h4 := h3.alloc (.cells #[.int .i64 lvI, .slice ak n ck, .slice av n cv] 35)
  have hk4 := hK1.alloc (.cells #[.int .i64 lvI, .slice ak n ck, .slice av n cv] 35)
  have h6 : Has (w1.alloc (.cells #[.int .i64 lvI, .slice ak n ck, .slice av n cv] 35)) (imapS nb M :: btS p bank sp N es Q :: chL c p pv put (pts w1.heap.size (.cells #[.int .i64 lvI, .slice ak n ck, .slice av n cv] 35 (0, 0)) :: intsS (.slice ak n ck) keys :: intsS (.slice av n cv) vals :: l)) := h4.reord [4, 3, 3, 3]
  have H6 := Lib.hid h6
  have HK := Lib.hid hk4
  clear h3 h4 h6 hK1 hk4
  go_wp2_with fail
  refine (HAt.out _).mono ?_
  rintro r w2 ⟨rfl, rfl⟩
  clear HAt
  generalize w1.alloc (.cells #[.int .i64 lvI, .slice ak n ck, .slice av n cv] 35) = W at *
  generalize w1.heap.size = r14 at *
  have s2 : W.cell? ⟨r14, 2, none⟩ = some (.slice av n cv) := cell_of (H6.out.at (b := r14) (o := .cells #[.int .i64 lvI, .slice ak n ck, .slice av n cv] 35 (0, 0)) (by simp [chL])) 2 rfl
  have l6 := World.block_lt_of_cell? _ _ s2
  have HM0 : Hid (SwM w c p bank sp N nb r14 es Q0 Q M V dev P D put addr lvI keys vals (.slice ak n ck) (.slice av n cv) l 0 cb W) := by
   refine ⟨[], Q, M, pv, .start HX.out.2.2.1 addr _, ?_, HK.out, ?_⟩
   ·have h1 := Hon.out.1
    have h2 := Hon.out.2
    rw [<- h2, <- h1]
    simp [Off]
   ·have := H6.out
    simpa using this
  clear H6 HK
  go_wp2
  go_loopg [57, 18] n (fun gk iv cw wr => ∃ (k : Nat) (chg : Bool), k <= n /\ gk = n - k /\ iv = .int .i64 k /\ cw = .bool chg /\ Hid (SwM w c p bank sp N nb r14 es Q0 Q M V dev P D put addr lvI keys vals (.slice ak n ck) (.slice av n cv) l k chg wr))
  case atStart => exact ⟨0, cb, Nat.zero_le _, rfl, rfl, rfl, HM0⟩
  case round =>
   clear HM0 s2 l6 hcb
   obtain ⟨k, chg, hk, rfl, rfl, rfl, HM⟩ := hrel
   obtain ⟨news, Q1, M1, pv1, hmid, hflag, hK, hh⟩ := HM.out
   clear HM
   by_cases hlt : k < n
   ·skip
    obtain ⟨v, hvk⟩ : ∃ v, vals[k]? = some v := ⟨_, List.getElem?_eq_getElem (by have := Hn.out.1; omega)⟩
    have hXk : ((vals.take k).map (swF V M1 lvI) ++ vals.drop k)[k]? = some v := by
     rw [List.getElem?_append_right (by rw [List.length_map, List.length_take]; omega), List.length_map, List.length_take, List.getElem?_drop]
     rw [show k + (k - min k vals.length) = k by have := Hn.out.1; omega]
     exact hvk
    obtain ⟨X, hX⟩ : ∃ X, (vals.take k).map (swF V M1 lvI) ++ vals.drop k = X := ⟨_, rfl⟩
    rw [hX] at hh hXk
    have hXl : X.length = n := by
     have h1 := Hn.out.1
     rw [<- hX, List.length_append, List.length_map, List.length_take, List.length_drop]
     omega
    obtain ⟨_, _, e1, _, hrd⟩ := hh.ints_read (v := .slice av n cv) (xs := X) (by simp [chL])
    injection e1 with e1 e2 e3
    subst e1
    clear e2 e3
    obtain ⟨gv, rfl, hx1, hx2⟩ := hrd k (by omega)
    have fz : wr.frozen? ⟨gv, k, none⟩ = false := hx2 k
    clear hx1 hx2 hrd
    have cc := hh.ints_at (g := gv) (n := n) (c := cv) (xs := X) (by simp [chL]) hXk
    have hr6 := hh.at (b := r14) (o := .cells #[.int .i64 lvI, .slice ak n ck, .slice (some ⟨gv, 0, none⟩) n cv] 35 (0, 0)) (by simp [chL])
    have s0 : wr.cell? ⟨r14, 0, none⟩ = some (.int .i64 lvI) := cell_of hr6 0 rfl
    have s2 : wr.cell? ⟨r14, 2, none⟩ = some (.slice (some ⟨gv, 0, none⟩) n cv) := cell_of hr6 2 rfl
    have l6 := World.block_lt_of_cell? _ _ s0
    have lz := World.block_lt_of_cell? _ _ cc
    have kI : (k : Int) < (n : Int) := by omega
    have k0 : (0 : Int) <= k := by omega
    obtain ⟨v0, v1⟩ := ok_valsB Hok.out v (List.mem_of_getElem? hvk)
    by_cases h0 : lvI = 0
    ·skip
     have hlp : ¬ (0 : Int) < lvI := by omega
     have hlq : decide ((0 : Int) < lvI) = false := by simp; omega
     have hlkv := HX.out.1 wr _ hh (fun A hA => by simp [chL, hA]) v (by omega) (by omega)
     have HM2 : Hid (∀ tv, tv = swF V M1 lvI v -> SwM w c p bank sp N nb r14 es Q0 Q M V dev P D put addr lvI keys vals (.slice ak n ck) (.slice (some ⟨gv, 0, none⟩) n cv) l (k + 1) (chg || (tv != v)) (wr.setCell ⟨gv, k, none⟩ (.int .i64 tv))) := fun tv hto => by
      refine ⟨news, Q1, M1, pv1, hmid.leaf h0, sw_flag hvk hto hflag, hK.setCell _ _, ?_⟩
      rw [<- sw_step hvk hto, hX]
      have h1 := hh.pull 6
      have h2 := h1.ints_put hXl.symm k tv
      exact h2.reord [1, 1, 1, 1, 1, 1]
     have Hto : Hid (swF V M1 lvI v = (VMap.get v V).getD v) := by
      show swF V M1 lvI v = _
      unfold swF
      rw [if_pos h0]
      rfl
     clear hmid hflag hK hh hX hXk hvk hr6 h0 hXl
     cases hgv : VMap.get v V with
     | none =>
      rw [hgv] at hlkv Hto
      simp only [Option.getD_none, Option.isSome_none] at hlkv Hto
      have hm2 := HM2.out v Hto.out.symm
      rw [show (v != v) = false by simp, Bool.or_false] at hm2
      have HM3 := Lib.hid hm2
      clear hm2 HM2 Hto hgv
      cases chg
      all_goals
       go_wp2
       go_roundg (n - (k + 1))
       case measure => omega
       case rel => exact ⟨k + 1, _, by omega, rfl, by go_num, rfl, HM3⟩
     | some x =>
      rw [hgv] at hlkv Hto
      simp only [Option.getD_some, Option.isSome_some] at hlkv Hto
      have hm2 := HM2.out x Hto.out.symm
      obtain ⟨bq, hbq⟩ : ∃ b, (x != v) = b := ⟨_, rfl⟩
      rw [hbq] at hm2
      have HM3 := Lib.hid hm2
      clear hm2 HM2 Hto hgv
      cases chg <;> cases bq
      all_goals
       simp only [Bool.or_false, Bool.or_true, Bool.false_or, Bool.true_or] at HM3
       go_wp2
       go_roundg (n - (k + 1))
       case measure => omega
       case rel => exact ⟨k + 1, _, by omega, rfl, by go_num, rfl, HM3⟩
    ·skip
     have hlI := Hlv.out
     have hlp : (0 : Int) < lvI := by omega
     have hlq : decide ((0 : Int) < lvI) = true := by simp; omega
     obtain ⟨lv', hlv'⟩ : ∃ lv', lv = lv' + 1 := ⟨lv - 1, by omega⟩
     obtain ⟨x1, x2, x3, D1, a4, a5, a6, a7, a8, a9⟩ := hmid
     obtain ⟨hlk, hH, hS, hP, hg0, hkP, hlen, hN, hput, hgm, ht⟩ := HX.out
     have hkv : (⟨lvI, keys, vals⟩ : Nd).kids[k]? = some v := by unfold Nd.kids; rw [if_neg h0]; exact hvk
     have hmv : v ∈ (⟨lvI, keys, vals⟩ : Nd).kids := List.mem_of_getElem? hkv
     obtain ⟨gc, hgc, hlc⟩ := hH.inv.kid addr _ hg0 v hmv
     have HI := Lib.hid (ih lv' hlv' v hh ht.cons.cons.cons (hlk.mono fun A hA => by simp [hA]) hH a4 (hkP v hmv) hgc (by simp only at hlc; omega) (by omega) (by omega) (by rw [List.length_append, List.length_map]; omega))
     have HR := Lib.hid (And.intro x1 (And.intro x2 (And.intro x3 (And.intro a5 (And.intro a6 (And.intro a7 (And.intro a8 (And.intro a9 (And.intro hkv (And.intro hvk (And.intro hflag (And.intro hX (And.intro hXl h0)))))))))))))
     have HK := Lib.hid hK
     clear hh x1 x2 x3 a4 a5 a6 a7 a8 a9 hlk hH hS hP hg0 hkP hlen hN hput hgm ht hkv hvk hmv hgc hlc hflag hX hXl hK hXk hr6 hlv' h0 hlI
     go_wp2_with fail
     refine HI.out.mono ?_
     rintro r w3 ⟨hK3, news2, Q2, M2, pv2, rfl, hout, h7⟩
     obtain ⟨tv, hto⟩ : ∃ tv, swV M2 v = tv := ⟨_, rfl⟩
     rw [hto]
     have hr6 := h7.at (b := r14) (o := .cells #[.int .i64 lvI, .slice ak n ck, .slice (some ⟨gv, 0, none⟩) n cv] 35 (0, 0)) (by simp [chL])
     have s2' : w3.cell? ⟨r14, 2, none⟩ = some (.slice (some ⟨gv, 0, none⟩) n cv) := cell_of hr6 2 rfl
     have l6' := World.block_lt_of_cell? _ _ s2'
     have HM2 : Hid (SwM w c p bank sp N nb r14 es Q0 Q M V dev P D put addr lvI keys vals (.slice ak n ck) (.slice (some ⟨gv, 0, none⟩) n cv) l (k + 1) (chg || (tv != v)) (w3.setCell ⟨gv, k, none⟩ (.int .i64 tv))) := by
      obtain ⟨x1, x2, x3, a5, a6, a7, a8, a9, hkv, hvk, hflag, hX, hXl, h0⟩ := HR.out
      obtain ⟨hm2, hsame⟩ := SwMid.next (addr := addr) x1 x2 x3 a5 a6 a7 a8 a9 hkv hout
      have hext := swF_ext (V := V) (vs := vals) (ks := keys) (lvI := lvI) hsame
      have hto2 : tv = swF V M2 lvI v := by unfold swF; rw [if_neg h0]; exact hto.symm
      refine ⟨news ++ news2, Q2, M2, pv2, hm2, sw_flag hvk hto2 (by rw [hext]; exact hflag), (HK.out.trans hK3).setCell _ _, ?_⟩
      rw [<- sw_step hvk hto2, hext, hX, List.length_append, List.map_append, <- Nat.add_assoc, <- List.append_assoc]
      have h1 := h7.pull 6
      have h2 := h1.ints_put hXl.symm k tv
      exact h2.reord [1, 1, 1, 1, 1, 1]
     have hcc : w3.cell? ⟨gv, k, none⟩ = some (.int .i64 v) := by
      obtain ⟨_, _, _, _, _, _, _, _, _, hvk, _, hX, _⟩ := HR.out
      refine h7.ints_at (g := gv) (n := n) (c := cv) (xs := X) (by simp [chL]) ?_
      rw [<- hX, List.getElem?_append_right (by rw [List.length_map, List.length_take]; omega), List.length_map, List.length_take, List.getElem?_drop]
      rw [show k + (k - min k vals.length) = k by have := Hn.out.1; omega]
      exact hvk
     have lz' := World.block_lt_of_cell? _ _ hcc
     have fz' : w3.frozen? ⟨gv, k, none⟩ = false := by
      obtain ⟨_, _, _, _, _, _, _, _, _, _, _, _, hXl, _⟩ := HR.out
      obtain ⟨_, _, e1, _, hrd⟩ := h7.ints_read (v := .slice (some ⟨gv, 0, none⟩) n cv) (xs := X) (by simp [chL])
      obtain ⟨g', hg', _, hf⟩ := hrd k (by omega)
      injection e1 with e1
      rw [<- e1] at hg'
      injection hg' with hg'
      injection hg' with hg'
      subst hg'
      exact hf k
     clear hK3 hout h7 hr6 HI HR HK hto s0 s2 l6 lz cc fz
     obtain ⟨bq, hbq⟩ : ∃ b, (tv != v) = b := ⟨_, rfl⟩
     rw [hbq] at HM2
     cases chg <;> cases bq
     all_goals
      simp only [Bool.or_false, Bool.or_true, Bool.false_or, Bool.true_or] at HM2
      go_wp2
      go_roundg (n - (k + 1))
      case measure => omega
      case rel => exact ⟨k + 1, _, by omega, rfl, by go_num, rfl, HM2⟩
   ·skip
    obtain rfl : k = n := by omega
    have hkn : vals.length <= k := by have := Hn.out.1; omega
    rw [List.take_of_length_le hkn] at hh hflag
    rw [List.drop_eq_nil_of_le hkn, List.append_nil] at hh
    have hkk : (⟨lvI, keys, vals⟩ : Nd).kids.length <= k := by
     unfold Nd.kids
     split
     ·simp
     ·exact hkn
    obtain ⟨hlk, hH, hS, hP, hg0, hkP, hlen, hN, hput, hgm, ht⟩ := HX.out
    have hno := hmid.none hH.inv hg0 hP hgm
    cases chg with
    | false =>
     have HF : Hid (SwPost c p bank sp N nb es Q0 Q M V dev P D put addr l w (.returned (.tuple #[.int .i64 addr, .nilIface])) wr) := by
      obtain ⟨f1, f2⟩ := hflag.1 rfl
      refine ⟨hK, news, Q1, M1, pv1, by rw [swV_none hno], hmid.same hkk hg0 hP hno f1 ?_, Has.skip (A := [_, _, _, _]) (M := [_, _, _]) hh⟩
      rw [swN_of, f2]
     clear hh hmid hflag hK hno hkk hkn hlk hH hS hP hg0 hkP hlen hN hput hgm ht HX Hok Hg
     go_wp2
     go_ret2
     exact HF.out
    | true =>
     have hI1 := hh.tail.bt_inv.1
     obtain ⟨rok, rnm⟩ := hmid.right hkk hH hg0 hI1
     have hne : Off dev addr -> swN V M1 ⟨lvI, keys, vals⟩ ≠ ⟨lvI, keys, vals⟩ := fun ho e => by
      rw [swN_of] at e
      injection e with _ _ e
      exact absurd (hflag.2 ⟨ho, e⟩) (by simp)
     have hlm : M1.length < maxLen := by
      have h1 := hmid
      obtain ⟨_, _, _, D1, a4, _⟩ := h1
      have := a4.keys hH.inv.up
      have := up_len 32768 Q0 0 hH.inv.up hH.inv.bd
      unfold maxLen
      omega
     have hr6 := hh.at (b := r14) (o := .cells #[.int .i64 lvI, .slice ak k ck, .slice av k cv] 35 (0, 0)) (by simp [chL])
     have m0 : wr.cell? ⟨r14, 0, none⟩ = some (.int .i64 lvI) := cell_of hr6 0 rfl
     have m1 : wr.cell? ⟨r14, 1, none⟩ = some (.slice ak k ck) := cell_of hr6 1 rfl
     have m2 : wr.cell? ⟨r14, 2, none⟩ = some (.slice av k cv) := cell_of hr6 2 rfl
     have l14 := World.block_lt_of_cell? _ _ m0
     have HCk : Hid (Calls Tryz.prog 98 #[(⟨lvI, keys, vals.map (swF V M1 lvI)⟩ : Nd).val (.slice ak k ck) (.slice av k cv)] wr fun r w' => r = .returned .nilIface /\ Kept wr w' /\ Has w' (imapS nb M1 :: btS p bank sp (N + news.length) es Q1 :: chL c p pv1 (put ++ news.map (·.1)) (pts r14 (.cells #[.int .i64 lvI, .slice ak k ck, .slice av k cv] 35 (0, 0)) :: intsS (.slice ak k ck) keys :: intsS (.slice av k cv) (vals.map (swF V M1 lvI)) :: l))) :=
      (node_Check ⟨lvI, keys, vals.map (swF V M1 lvI)⟩ (kv := .slice ak k ck) (vv := .slice av k cv) hh (by simp [chL]) (by simp [chL])).mono fun r w' ⟨h1, h2, h3⟩ => ⟨by rw [h1]; exact congrArg Ending.returned (if_pos rok), h2, h3⟩
     simp only [Nd.val] at HCk
     have HR := Lib.hid (And.intro hmid (And.intro hkk (And.intro hno (And.intro hne (And.intro hlm (And.intro rok rnm))))))
     have HK := Lib.hid hK
     clear hh hmid hflag hK hno hkk hkn hlk hH hS hP hg0 hkP hlen hN hput hgm ht Hok Hg hI1 rok rnm hne hlm hr6
     go_wp2_with fail
     refine HCk.out.mono ?_
     rintro r w4 ⟨rfl, hK4, h8⟩
     obtain ⟨hmid, hkk, hno, hne, hlm, rok, rnm⟩ := HR.out
     obtain ⟨hlk, hH, hS, hP, hg0, hkP, hlen, hN, hput, hgm, ht⟩ := HX.out
     have h2' := hmid
     obtain ⟨_, x2, x3, D1, a4, _⟩ := h2'
     have hM1 := a4.keys hH.inv.up
     have hr6 := h8.at (b := r14) (o := .cells #[.int .i64 lvI, .slice ak k ck, .slice av k cv] 35 (0, 0)) (by simp [chL])
     have m0' : w4.cell? ⟨r14, 0, none⟩ = some (.int .i64 lvI) := cell_of hr6 0 rfl
     have m1' : w4.cell? ⟨r14, 1, none⟩ = some (.slice ak k ck) := cell_of hr6 1 rfl
     have m2' : w4.cell? ⟨r14, 2, none⟩ = some (.slice av k cv) := cell_of hr6 2 rfl
     have l14' := World.block_lt_of_cell? _ _ m0'
     have hA := h8.alloc (.cells #[.int .i64 lvI, .slice ak k ck, .slice av k cv] 35)
     have hB : Has (w4.alloc (.cells #[.int .i64 lvI, .slice ak k ck, .slice av k cv] 35)) (btS p bank sp (N + news.length) es Q1 :: chL c p pv1 (put ++ news.map (·.1)) (nodesL (.slice (some ⟨w4.heap.size, 0, none⟩) 1 1) [⟨⟨lvI, keys, vals.map (swF V M1 lvI)⟩, .slice ak k ck, .slice av k cv⟩] ++ (imapS nb M1 :: pts r14 (.cells #[.int .i64 lvI, .slice ak k ck, .slice av k cv] 35 (0, 0)) :: l))) := by
      have h3 := Has.row_of_pts (n := 1) (size := 3) (xs := [.int .i64 lvI, .slice ak k ck, .slice av k cv]) hA (by simp) (Nat.le_refl _) (by simp [maxLen]) (by simp) (by simp)
      exact h3.reord [2, 2, 2, 0, 2, 2]
     have HW := Lib.hid (ch_write [⟨⟨lvI, keys, vals.map (swF V M1 lvI)⟩, .slice ak k ck, .slice av k cv⟩] hB ht.cons.cons (by simp) (fun t ht => by rw [List.mem_singleton] at ht; subst ht; exact ⟨rok, rnm⟩) (by omega) (by rw [List.length_append, List.length_map]; omega))
     have HK4 := Lib.hid ((HK.out.trans hK4).alloc (.cells #[.int .i64 lvI, .slice ak k ck, .slice av k cv] 35))
     have hI1 := Lib.hid h8.tail.bt_inv.1
     have HL := Lib.hid (And.intro x2 (And.intro x3 hM1))
     clear hK4 h8 hA hB hmid hkk hno hne hlm rok rnm hlk hH hS hP hg0 hkP hlen hN hput hgm ht x2 x3 a4 hM1 hr6 HCk HK m0 m1 m2 l14
     go_wp2_with fail
     refine HW.out.mono ?_
     rintro r w5 ⟨hK5, news1, Q2, pv2, hps1, hnl, (⟨hfull, rfl, h7⟩ | ⟨hns, v5, rfl, h7⟩)⟩
     ·exfalso
      obtain ⟨hlk, hH, hS, hP, hg0, hkP, hlen, hN, hput, hgm, ht⟩ := HX.out
      obtain ⟨x2, x3, hM1⟩ := HL.out
      have h1 := hH.room Q2 hfull
      have h2 := hps1.len hI1.out.up (hps1.inv hI1.out).up
      simp only [List.length_map, List.length_cons, List.length_nil] at hnl
      omega
     ·obtain ⟨hmid, hkk, hno, hne, hlm, rok, rnm⟩ := HR.out
      obtain ⟨hlk, hH, hS, hP, hg0, hkP, hlen, hN, hput, hgm, ht⟩ := HX.out
      have hns2 : news1.map (·.2) = [swN V M1 ⟨lvI, keys, vals⟩] := hns
      obtain ⟨b, rfl⟩ : ∃ b, news1 = [(b, swN V M1 ⟨lvI, keys, vals⟩)] := by
       match news1, hns2 with
       | [(b, x)], h => exact ⟨b, by simp only [List.map_cons, List.map_nil, List.cons.injEq, and_true] at h; rw [h]⟩
      have hup2 := (hps1.inv hI1.out).up
      obtain ⟨hnx, rfl⟩ : Next es Q1 b /\ Q2 = put1 Q1 b (swN V M1 ⟨lvI, keys, vals⟩) := by
       cases hps1 with
       | cons a1 a2 a3 a4 =>
        cases a4
        exact ⟨a1, rfl⟩
      have hout := hmid.new hkk hg0 hP hno hne hI1.out.up hup2 hnx (off_next hH hnx) rok rnm
      obtain ⟨vb, vd, hvv, hx1, hrd⟩ := h7.pairs_read (v := v5) (.head _)
      obtain ⟨gv5, rfl, d0, dq⟩ := hrd 0 _ rfl
      have hv' : v5 = .slice (some ⟨gv5, 0, none⟩) 1 vd := hvv
      clear hvv
      subst hv'
      have d1 : w5.cell? ⟨gv5, 1, none⟩ = some (.int .i64 b) := dq
      clear dq
      have lg5 := World.block_lt_of_cell? _ _ d1
      have hbd := (hI1.out.put hnx.new rok rnm hnx.std).adr addr
      have hab : -9223372036854775808 <= addr /\ addr <= 9223372036854775807 := by
       have := (hH.inv.adr addr (by rw [hg0]; rfl)).bd
       omega
      obtain ⟨w6, hst, hK6, h10⟩ := imap_store (h7.pull 4) hlm addr hab.1 hab.2 b hno
      have e1 : w6.cell? ⟨gv5, 1, none⟩ = some (.int .i64 b) := by
       obtain ⟨vb', vd', hvv, _, hrd⟩ := h10.pairs_read (v := .slice (some ⟨gv5, 0, none⟩) 1 vd) (ps := [outP (b, swN V M1 ⟨lvI, keys, vals⟩)]) (by simp)
       obtain ⟨g', hg', _, d1'⟩ := hrd 0 _ rfl
       injection hvv with hvv
       rw [hg'] at hvv
       injection hvv with hvv
       injection hvv with hvv
       subst hvv
       exact d1'
      have le1 := World.block_lt_of_cell? _ _ e1
      have HF : Hid (SwPost c p bank sp N nb es Q0 Q M V dev P D put addr l w (.returned (.tuple #[.int .i64 b, .nilIface])) w6) := by
       refine ⟨(HK4.out.trans hK5).trans hK6, news ++ [(b, swN V M1 ⟨lvI, keys, vals⟩)], _, VMap.put addr b M1, pv2, ?_, hout, ?_⟩
       ·rw [swV_some (by rw [get_putM, if_pos rfl])]
       ·rw [List.map_append, <- List.append_assoc, List.length_append, <- Nat.add_assoc]
        exact Has.skip (A := [_, _, _, _]) (M := [_, _]) (h10.reord [0, 1, 1, 1])
      clear hK5 hps1 hnl hns h7 HW hI1 HL HR HK4 hmid hkk hno hne hlm rok rnm hlk hH hS hP hg0 hkP hlen hN hput hgm ht hns2 hup2 hnx hout hx1 hrd d0 hbd hab hK6 h10 m0' m1' m2' l14'
      go_wp2
      go_ret2
      exact HF.out
theorem ch_swap : ∀ lv, SwC lv
 | 0 => ch_swapL 0 fun lv' h => absurd h (by omega)
 | lv + 1 => ch_swapL (lv + 1) fun lv' h => by
   have e : lv' = lv := by omega
   rw [e]
   exact @ch_swap lv
/-
  Trees (layer 12): a tree is swapped (Swap).
-/
def SwfPost (p bank sp N nb : Nat) (es : List Ent) (Q0 Q : Pgs) (M V : List (Int × Int)) (dev : Int) (P D : Int -> Prop) (root : Int) (l : List Say) (w : World) (r : Ending) (w' : World) : Prop :=
 Kept w w' /\ ∃ news Q1 M' Q', r = .returned (.tuple #[.int .i64 (swV M' root), .nilIface]) /\ SwOut es Q0 Q M V dev P D root news Q1 M' /\
  ((swV M' root = root /\ Q' = Q1) \/ (swV M' root ≠ root /\ ∃ g, VMap.get (swV M' root) Q1 = some g /\ Dropd root (VMap.put (swV M' root) (g.more 1) Q1) Q')) /\ Has w' (imapS nb M' :: btS p bank sp (N + news.length + 1) es Q' :: l)
theorem bt_Swap0 {w : World} (p : Nat) (dev : Int) (nm vm : Value) :
  Calls Tryz.prog 64 #[.pointer (some ⟨p, 0, none⟩), .int .i64 0, .int .i64 dev, nm, vm] w fun r w' => r = .returned (.tuple #[.int .i64 0, .nilIface]) /\ w = w' := by
 go_enter Tryz.func64, Tryz.ntmps64
 go_wp2
 go_ret2
 exact ⟨rfl, rfl⟩
set_option maxRecDepth 100000 in
theorem bt_Swap {w : World} {l : List Say} {p bank sp N nb : Nat} {es0 es : List Ent} {Q0 Q : Pgs} {M V : List (Int × Int)} {dev : Int} {P D : Int -> Prop} {vm : Value} (root : Int) {g0 : Pg}
  (h : Has w (imapS nb M :: btS p bank sp N es Q :: l)) (ht : Tab l) (hlk : LooksV vm V l) (hH : SwH es0 es Q0 V dev) (hS : SwI Q0 Q M V dev P D) (hP : P root) (hg0 : VMap.get root Q0 = some g0) (hr : 0 < heldOf Q root) (hlen : Q.length <= Q0.length + M.length) (hN : N + Q0.length <= 200000 + M.length) (hput : Q0.length <= 900) :
  Calls Tryz.prog 64 #[.pointer (some ⟨p, 0, none⟩), .int .i64 root, .int .i64 dev, .map (some nb), vm] w (SwfPost p bank sp N nb es Q0 Q M V dev P D root l w) := by
 have hlv := hH.inv.lv hg0
 have hr0 : root ≠ 0 := by
  have := (hH.inv.adr root (by rw [hg0]; rfl)).bd
  omega
 have hrn : (root == 0) = false := by simpa using hr0
 have h1 := (h.alloc (.cells #[.pointer (some ⟨p, 0, none⟩), .slice none 0 0] 212)).alloc (.cells #[.pointer (some ⟨w.heap.size, 0, none⟩)] 210)
 have hk1 := ((Kept.refl w).alloc (.cells #[.pointer (some ⟨p, 0, none⟩), .slice none 0 0] 212)).alloc (.cells #[.pointer (some ⟨w.heap.size, 0, none⟩)] 210)
 have hc1 : ((w.alloc (.cells #[.pointer (some ⟨p, 0, none⟩), .slice none 0 0] 212)).alloc (.cells #[.pointer (some ⟨w.heap.size, 0, none⟩)] 210)).cell? ⟨w.heap.size + 1, 0, none⟩ = some (.pointer (some ⟨w.heap.size, 0, none⟩)) := by
  have := cell_of h1.got 0 rfl
  simpa using this
 simp only [World.size_alloc] at h1
 have h2 : Has ((w.alloc (.cells #[.pointer (some ⟨p, 0, none⟩), .slice none 0 0] 212)).alloc (.cells #[.pointer (some ⟨w.heap.size, 0, none⟩)] 210)) (imapS nb M :: btS p bank sp N es Q :: chL w.heap.size p (.slice none 0 0) [] (pts (w.heap.size + 1) (.cells #[.pointer (some ⟨w.heap.size, 0, none⟩)] 210 (0, 0)) :: l)) := by
  have h3 := h1.row_nil 3 1
  exact h3.reord [3, 3, 2, 0]
 have HS := Lib.hid (ch_swap g0.n.level.toNat root h2 ht.cons (hlk.mono fun A hA => .tail _ hA) hH hS hP hg0 (by omega) hlen hN (by simp; omega))
 have HK := Lib.hid hk1
 have HX := Lib.hid (And.intro hr (And.intro hH (And.intro hS (And.intro hP (And.intro hg0 (And.intro hlen (And.intro hN (h.tail.bt_inv.1))))))))
 clear h h1 h2 hk1 ht hlk hH hS hP hg0 hr hlen hN hput hlv hr0
 go_enter Tryz.func64, Tryz.ntmps64
 go_wp2_with fail
 generalize (w.alloc (.cells #[.pointer (some ⟨p, 0, none⟩), .slice none 0 0] 212)).alloc (.cells #[.pointer (some ⟨w.heap.size, 0, none⟩)] 210) = W at *
 generalize w.heap.size + 1 = r12 at *
 generalize w.heap.size = c at *
 refine HS.out.mono ?_
 rintro r w1 ⟨hK1, news, Q1, M1, pv1, rfl, hout, h3⟩
 obtain ⟨tv, htv⟩ : ∃ tv, swV M1 root = tv := ⟨_, rfl⟩
 rw [htv]
 obtain ⟨hr, hH, hS, hP, hg0, hlen, hN, hI⟩ := HX.out
 have hps := hout.1
 have hml := hout.2.1
 have hmk : M1.length <= Q0.length := by
  obtain ⟨_, _, _, D', a4, _⟩ := hout
  exact a4.keys hH.inv.up
 have HT := Lib.hid (And.intro htv hout)
 have h4 : Has w1 (btS p bank sp (N + news.length) es Q1 :: imapS nb M1 :: l) := Has.skip (A := [_, _]) (M := [_, _, _]) h3.swap
 have HK1 := Lib.hid (HK.out.trans hK1)
 by_cases he : tv = root
 ·skip
  have hne : (tv != root) = false := by simpa using he
  have HF : Hid (SwfPost p bank sp N nb es Q0 Q M V dev P D root l w (.returned (.tuple #[.int .i64 tv, .nilIface])) w1) := by
   obtain ⟨htv, hout⟩ := HT.out
   exact ⟨HK1.out, news, Q1, M1, Q1, by rw [htv], hout, .inl ⟨htv.trans he, rfl⟩, (h4.bt_more (by omega)).swap⟩
  clear hr hH hS hP hg0 hlen hN hI hps hml hmk htv hout h3 h4 hK1 HK HX HS HT HK1 hc1 he
  go_wp2
  go_ret2
  exact HF.out
 ·skip
  have hne : (tv != root) = true := by simpa using he
  obtain ⟨g, hg⟩ : ∃ g, VMap.get tv Q1 = some g := by
   obtain ⟨_, _, _, D', a4, _, a6, _⟩ := hout
   obtain ⟨_, g', _, e2, _⟩ := a4.gd root a6
   rw [htv] at e2
   exact ⟨g', e2⟩
  have hI1 := hps.inv hI
  have hr1 : 0 < heldOf Q1 root := by rw [hps.held]; exact hr
  have HHo := Lib.hid (bt_Hold h4 hg (by omega))
  have HG := Lib.hid (And.intro hg (And.intro (held_more hg hr1) he))
  have HB : Hid (N + news.length + 1 <= 500000) := by show _ <= _; omega
  clear hr hH hS hP hg0 hlen hN hI hps hml hmk htv hout h3 h4 hK1 HK HX HS hc1 hg hI1 hr1 he
  go_wp2_with fail
  refine HHo.out.mono ?_
  rintro r w2 ⟨hK2, rfl, h5⟩
  obtain ⟨gr, hgr, hh⟩ := heldOf_some HG.out.2.1
  have HD := Lib.hid (bt_Drop h5 hgr (by have := HG.out.2.1; omega) (by have := HB.out; omega))
  have HK2 := Lib.hid (HK1.out.trans hK2)
  clear hK2 h5 hgr hh HHo HK1
  go_wp2_with fail
  refine HD.out.mono ?_
  rintro r w3 ⟨hK3, rfl, Q', hd, h6⟩
  have HF : Hid (SwfPost p bank sp N nb es Q0 Q M V dev P D root l w (.returned (.tuple #[.int .i64 tv, .nilIface])) w3) := by
   obtain ⟨htv, hout⟩ := HT.out
   refine ⟨HK2.out.trans hK3, news, Q1, M1, Q', by rw [htv], hout, .inr ⟨by rw [htv]; exact HG.out.2.2, g, by rw [htv]; exact HG.out.1, by rw [htv]; exact hd⟩, h6.swap⟩
  clear hK3 hd h6 HD HK2 HG HT
  go_wp2
  go_ret2
  exact HF.out
end Go.Proofs.YtgbgneiciabidaaGreatDoor
