/-
  (*Catalog).Save (layer 13): the walk.
-/
import Derived.Test.YtgbgneiciabidaaGreatDoorGc3
namespace Go.Proofs.YtgbgneiciabidaaGreatDoor
open Go Go.RowKit
set_option linter.all false
set_option maxHeartbeats 8000000
theorem Has.cc0 {w : World} {l : List Say} {c p st : Nat} (h : Has w l) (hm : catCell c p st ∈ l) : w.cell? ⟨c, 0, none⟩ = some (.pointer (some ⟨st, 0, none⟩)) := cell_of (h.at hm) 0 rfl
theorem Has.cc1 {w : World} {l : List Say} {c p st : Nat} (h : Has w l) (hm : catCell c p st ∈ l) : w.cell? ⟨c, 1, none⟩ = some (.pointer (some ⟨p, 0, none⟩)) := cell_of (h.at hm) 1 rfl
theorem Has.cs1 {w : World} {l : List Say} {st mb : Nat} {a : Int} (h : Has w l) (hm : staCell st mb a ∈ l) : w.cell? ⟨st, 1, none⟩ = some (.int .i64 a) := cell_of (h.at hm) 1 rfl
theorem Has.csf {w : World} {l : List Say} {st mb : Nat} {a : Int} (h : Has w l) (hm : staCell st mb a ∈ l) : w.frozen? ⟨st, 1, none⟩ = false := thaw_of (h.at hm) 1
theorem Has.sta_set {w : World} {l : List Say} {st mb : Nat} {a : Int} (b : Int) (h : Has w (staCell st mb a :: l)) : Has (w.setCell ⟨st, 1, none⟩ (.int .i64 b)) (staCell st mb b :: l) := Has.setCell h 1 (.int .i64 b)
def SvM (w : World) (l : List Say) (c p st mb bank sp : Nat) (es : List Ent) (Q0 : Pgs) (M : List (Int × Vl)) (a0 : Int) (L : List KV) (vi vw : Value) (ts : List Tre) (B N j : Nat) (T : List KV) (wr : World) : Prop :=
 Kept w wr /\ ∃ Q a s, Grove Q (⟨a, T, s⟩ :: ts) /\ s <= B /\ ((L = ctPairs M -> Q = Q0 /\ a = a0) /\ (L = [] -> a0 = 0 -> (j = 0 -> Q = Q0 /\ a = a0) /\ (j = 1 -> Next es Q0 a))) /\ Has wr (pairsS vi L :: pairsS vw (ctPairs M) :: catCell c p st :: staCell st mb a :: vmapS mb M :: btS p bank sp N es Q :: l)
def SavePost (c p bank sp N : Nat) (es : List Ent) (Q : Pgs) (M : List (Int × Vl)) (a : Int) (L : List KV) (s : Nat) (ts : List Tre) (l : List Say) (w : World) (r : Ending) (w' : World) : Prop :=
 r = .returned .nilIface /\ Kept w w' /\ ∃ Q' a' s', Grove Q' (⟨a', ctPairs M, s'⟩ :: ts) /\ s' <= max s 1 + 96 /\ (L = ctPairs M -> Q' = Q /\ a' = a) /\ (L = [] -> a = 0 -> (ctPairs M).length = 1 -> Next es Q a') /\ Has w' (catS c p M a' :: btS p bank sp (N + 50 * (L.length + 96)) es Q' :: l)
theorem SvM.more {w : World} {l : List Say} {c p st mb bank sp : Nat} {es : List Ent} {Q0 : Pgs} {M : List (Int × Vl)} {a0 : Int} {L : List KV} {vi vw : Value} {ts : List Tre} {B N B' N' j : Nat} {T : List KV} {wr : World} (h : SvM w l c p st mb bank sp es Q0 M a0 L vi vw ts B N j T wr) (hB : B <= B') (hN : N <= N') : SvM w l c p st mb bank sp es Q0 M a0 L vi vw ts B' N' j T wr := by
 obtain ⟨hK, Q, a, s, hG, hs, hz, hh⟩ := h
 exact ⟨hK, Q, a, s, hG, Nat.le_trans hs hB, hz, ((hh.pull 5).bt_more hN).push 5⟩
theorem delStep_yes {W T : List KV} {x : KV} (h : hasK W x.1 = true) : delStep W T x = T := by unfold delStep; rw [if_pos h]
theorem delStep_no {W T : List KV} {x : KV} (h : hasK W x.1 = false) : delStep W T x = delL T x.1 := by unfold delStep; rw [if_neg (by simp [h])]
theorem hasK_mem {W : List KV} {x : KV} (h : x ∈ W) : hasK W x.1 = true := hasK_iff.2 ⟨x, h, rfl⟩
theorem foundV_is (T : List KV) (k : Int) : ∃ fz fb, foundV T k = .tuple #[.int .i64 fz, .bool fb] := by
 unfold foundV
 cases getK T k with
 | none => exact ⟨_, _, rfl⟩
 | some v => exact ⟨_, _, rfl⟩
theorem foundV_get {T : List KV} {k v : Int} (h : foundV T k = .tuple #[.int .i64 v, .bool true]) : getK T k = some v := by
 unfold foundV at h
 cases hg : getK T k with
 | none => rw [hg] at h; simp at h
 | some u => rw [hg] at h; simp at h; rw [h]
set_option maxRecDepth 100000 in
theorem cat_Save {w : World} {l : List Say} {c p bank sp N m : Nat} {es : List Ent} {Q : Pgs} {M : List (Int × Vl)} {a : Int} {L : List KV} {s : Nat} {ts : List Tre} (h : Has w (catS c p M a :: btS p bank sp N es Q :: l)) (ht : Tab l) (hm : m <= 4096) (he : es[0]? = some ⟨1, m⟩) (hG : Grove Q (⟨a, L, s⟩ :: ts)) (hw : s + weighs ts + 300 <= 2 * m - 4) (hl : L.length <= 1000) (hN : N + 50 * (L.length + 96) <= 200000) :
  Calls Tryz.prog 57 #[.pointer (some ⟨c, 0, none⟩)] w (SavePost c p bank sp N es Q M a L s ts l w) := by
 have ok : CatOk M := by obtain ⟨_, _, ok, _⟩ := h.cat_open; exact ok
 have HP := Lib.hid (cat_pairs h)
 have hW := ctPairs_srt ok
 have hWl := ctPairs_len ok
 have hLs : Srt L := (hG.root _ (.head _)).srt
 have HI := h.tail.bt_inv.1
 have HS := Lib.hid (And.intro hW (And.intro hWl (And.intro hLs (And.intro (ctPairs_ok ok) ok))))
 have HB := Lib.hid (And.intro hm (And.intro he (And.intro hw (And.intro hl hN))))
 have HG := Lib.hid hG
 have Hb := Lib.hid (Root.bound HI (hG.root _ (.head _)))
 have Ht := Lib.hid ht
 clear h ok hW hWl hLs hm he hw hl hN hG HI ht
 go_enter Tryz.func57, Tryz.ntmps57
 go_wp2_with fail
 refine HP.out.mono ?_
 rintro r w1 ⟨vw, rfl, hK1, h1⟩
 obtain ⟨wq, wc, rfl, _, _⟩ := h1.pairs_read (.head _)
 obtain ⟨wn, hwn⟩ : ∃ wn, (ctPairs M).length = wn := ⟨_, rfl⟩
 rw [hwn] at h1 ⊢
 obtain ⟨st, mb, _, h2⟩ := h1.swap.cat_open
 have hh : Has w1 (pairsS (.slice wq wn wc) (ctPairs M) :: catCell c p st :: staCell st mb a :: vmapS mb M :: btS p bank sp N es Q :: l) := h2.reord [3]
 have Hwn := Lib.hid hwn
 have HK := Lib.hid hK1
 obtain ⟨ln, hln⟩ : ∃ ln, L.length = ln := ⟨_, rfl⟩
 have Hln := Lib.hid hln
 have HIt : Hid (∀ w' l', Has w' (btS p bank sp N es Q :: l') -> Calls Tryz.prog 42 #[.pointer (some ⟨p, 0, none⟩), .int .i64 a, .int .i64 0, .int .i64 (-1)] w' (ItemsPost p bank sp N es Q L l' w')) := fun w' l' h => by
  have := bt_Items (L := L) a 0 (-1) h (HG.out.root _ (.head _)) (by have := HB.out.2.2.2.1; omega)
  rwa [items_all (fun p hp => (Hb.out p hp).1)] at this
 clear HP hK1 h1 h2 hwn hln
 have t1 : w1.cell? ⟨c, 1, none⟩ = some (.pointer (some ⟨p, 0, none⟩)) := hh.cc1 (p := p) (st := st) (by simp)
 have t0 : w1.cell? ⟨c, 0, none⟩ = some (.pointer (some ⟨st, 0, none⟩)) := hh.cc0 (p := p) (st := st) (by simp)
 have t2 : w1.cell? ⟨st, 1, none⟩ = some (.int .i64 a) := hh.cs1 (mb := mb) (a := a) (by simp)
 have HH := Lib.hid hh
 clear hh
 go_upto_region 2 with fail
 have hh := HH.out
 clear HH
 obtain ⟨FA, HFA⟩ : ∃ FA : List (Nat × Addr × Value), Hid (FA = [(3, ⟨c, 1, none⟩, .pointer (some ⟨p, 0, none⟩)), (7, ⟨c, 0, none⟩, .pointer (some ⟨st, 0, none⟩)), (10, ⟨st, 1, none⟩, .int .i64 a)]) := ⟨_, rfl⟩
 have fa3 : ∀ nI : In (factsOf FA 3), nI.w.cell? ⟨c, 1, none⟩ = some (.pointer (some ⟨p, 0, none⟩)) := fun nI => factsOf.cell (by rw [HFA.out]; simp) nI
 have fa7 : ∀ nI : In (factsOf FA 7), nI.w.cell? ⟨c, 0, none⟩ = some (.pointer (some ⟨st, 0, none⟩)) := fun nI => factsOf.cell (by rw [HFA.out]; simp) nI
 have fa10 : ∀ nI : In (factsOf FA 10), nI.w.cell? ⟨st, 1, none⟩ = some (.int .i64 a) := fun nI => factsOf.cell (by rw [HFA.out]; simp) nI
 have hFA : ∀ p ∈ FA, w1.cell? p.2.1 = some p.2.2 := by rw [HFA.out]; exact (fcons t1 (fcons t0 (fcons t2 fnil)))
 haveI neFA : ∀ k, Nonempty (In (factsOf FA k)) := fun k => ⟨⟨_, factsOf.drew hFA k⟩⟩
 refine ws_begin [0, 1, 2, 3, 4, 5, 6, 7, 8, 9, 10, 11, 12, 13] (factsOf FA) (pairsS (.slice wq wn wc) (ctPairs M) :: catCell c p st :: staCell st mb a :: vmapS mb M :: btS p bank sp N es Q :: l) #[0, 1, 3, 7, 0, 16, 48, 112, 240, 496, 1008, 2047, 4095, 0] (by kernel_rfl) (by kernel_rfl) (by kernel_rfl) factsOf.alloc (factsOf.drew hFA) hh ?_
 clear hFA
 iterate 11 (refine ws_q (at_lit rfl) rfl rfl rfl ?_; go_big_quiet_op; show WS _ _ _ _ _ _ _ _ _ _)
 refine ws_call (at_lit rfl) rfl rfl 42 #[.pointer (some ⟨p, 0, none⟩), .int .i64 a, .int .i64 0, .int .i64 (-1)] (fun w => by go_simp) (fun v L' => ∃ iq ic, v = .slice iq ln ic /\ L' = pairsS (.slice iq ln ic) L :: pairsS (.slice wq wn wc) (ctPairs M) :: catCell c p st :: staCell st mb a :: vmapS mb M :: btS p bank sp N es Q :: l) (fun w' F hS hh => ?_) ?_
 ·refine (HIt.out w' _ (hh.pull 4)).mono ?_
  rintro r w'' ⟨va, rfl, hK, hh'⟩
  obtain ⟨iq, ic, rfl, _, _⟩ := hh'.pairs_read (.head _)
  rw [Hln.out] at hh' ⊢
  exact ⟨_, _, rfl, hK, ⟨iq, ic, rfl, rfl⟩, (hh'.pull 1).push 5⟩
 rintro _ _ ⟨iq, ic, rfl, rfl⟩
 refine ⟨fun w F hh => lives (l' := []) (by rw [HFA.out]; simp [liveFacts, Nat.testBit]) (fnil), ?_⟩
 simp only [Act.put, List.setIfInBounds_toArray, List.set_cons_zero, List.set_cons_succ]
 show WS _ _ _ _ _ _ _ _ _ _
 refine ws_len (at_lit rfl) rfl rfl (.tmp 27) 75 rfl Tryz.underlying75 _ _ _ rfl ?_
 simp only [Act.put, List.setIfInBounds_toArray, List.set_cons_zero, List.set_cons_succ]
 show WS _ _ _ _ _ _ _ _ _ _
 refine ws_q (at_lit rfl) rfl rfl rfl ?_
 go_big_quiet_op
 show WS _ _ _ _ _ _ _ _ _ _
 refine ws_end fun w2 hK2 h2 => ?_
 have HM0 : Hid (SvM w l c p st mb bank sp es Q M a L (.slice iq ln ic) (.slice wq wn wc) ts s (N + 50 * 0) 0 (delF (ctPairs M) L (L.take 0)) w2) := ⟨HK.out.trans hK2, Q, a, s, HG.out, Nat.le_refl _, ⟨fun _ => ⟨rfl, rfl⟩, fun _ _ => ⟨fun _ => ⟨rfl, rfl⟩, fun e => nomatch e⟩⟩, h2⟩
 have lnI : (ln : Int) <= 1000 := by have := HB.out.2.2.2.1; have := Hln.out; omega
 have wnI : (wn : Int) <= 96 := by have := HS.out.2.1; have := Hwn.out; omega
 clear hK2 h2 hh HFA neFA FA fa3 fa7 fa10 t0 t1 t2 HK HIt
 go_wp2
 go_loopg [29] ln (fun gk iv wr => ∃ k : Nat, k <= ln /\ gk = ln - k /\ iv = .int .i64 k /\ Hid (SvM w l c p st mb bank sp es Q M a L (.slice iq ln ic) (.slice wq wn wc) ts s (N + 50 * k) 0 (delF (ctPairs M) L (L.take k)) wr))
 case atStart => exact ⟨0, Nat.zero_le _, rfl, rfl, HM0⟩
 case round =>
  clear HM0
  obtain ⟨k, hk, rfl, rfl, HM⟩ := hrel
  by_cases hlt : k < ln
  ·skip
   obtain ⟨hK, Q1, a1, s1, hG1, hs1, hz1, hh⟩ := HM.out
   obtain ⟨_, _, e1, _, hrd⟩ := hh.pairs_read (v := .slice iq ln ic) (ps := L) (.head _)
   injection e1 with e1 e2 e3
   subst e1
   clear e2 e3
   obtain ⟨x, hx⟩ : ∃ x, L[k]? = some x := ⟨_, List.getElem?_eq_getElem (by have := Hln.out; omega)⟩
   obtain ⟨gi, rfl, x0, x1⟩ := hrd k x hx
   have hsn := delF_snoc (ctPairs M) L (L.take k) x
   rw [<- (take_succ hx).1] at hsn
   have hdt := del_there (W := ctPairs M) HS.out.2.2.1 hx
   have hxm := List.mem_of_getElem? hx
   obtain ⟨xk, xv⟩ := x
   simp only at x0 x1 hdt
   have lx := World.block_lt_of_cell? _ _ x0
   have kI : (k : Int) < (ln : Int) := by omega
   have k0 : (0 : Int) <= k := by omega
   have hA := hh.alloc (.cells #[.int .i64 xk, .int .i64 xv] 87)
   have HKA := Lib.hid (hK.alloc (.cells #[.int .i64 xk, .int .i64 xv] 87))
   have HC := Lib.hid (pairs_Contains (v := .slice wq wn wc) (ps := ctPairs M) (b := wr.heap.size) (xk := xk) (xv := xv) hA (by simp) (by simp) (by have := Hwn.out; omega))
   have HA := Lib.hid hA
   have Hst := Lib.hid (And.intro hsn (And.intro hdt hxm))
   have HG1 := Lib.hid (And.intro hG1 (And.intro hs1 hz1))
   clear hK hh hA hrd hx hsn hdt hxm hG1 hs1 hz1
   go_wp2_with fail
   refine HC.out.mono ?_
   rintro r w3 ⟨rfl, hb3⟩
   have h3 := HA.out.below hb3
   have HK3 := Lib.hid (HKA.out.trans (Kept.below hb3))
   clear HC hb3 HA HKA x0 x1 lx
   by_cases hhk : hasK (ctPairs M) xk = true
   ·skip
    rw [hhk]
    have HM2 : Hid (SvM w l c p st mb bank sp es Q M a L (.slice (some ⟨gi, 0, none⟩) ln ic) (.slice wq wn wc) ts s (N + 50 * (k + 1)) 0 (delF (ctPairs M) L (L.take (k + 1))) w3) := by
     have h4 : SvM w l c p st mb bank sp es Q M a L (.slice (some ⟨gi, 0, none⟩) ln ic) (.slice wq wn wc) ts s (N + 50 * k) 0 (delF (ctPairs M) L (L.take (k + 1))) w3 := ⟨HK3.out, Q1, a1, s1, by rw [Hst.out.1, delStep_yes hhk]; exact HG1.out.1, HG1.out.2.1, ⟨HG1.out.2.2.1, fun e => absurd (e ▸ Hst.out.2.2 : (xk, xv) ∈ ([] : List KV)) List.not_mem_nil⟩, h3.tail⟩
     exact Lib.hid (h4.more (Nat.le_refl _) (by omega))
    clear h3 HK3 Hst HG1 HM hhk
    go_wp2
    go_roundg (ln - (k + 1))
    case measure => omega
    case rel => exact ⟨k + 1, by omega, rfl, by go_num, HM2⟩
   ·skip
    have hhf : hasK (ctPairs M) xk = false := by simpa using hhk
    rw [hhf]
    obtain ⟨b5, hb5⟩ : ∃ b5, wr.heap.size = b5 := ⟨_, rfl⟩
    rw [hb5] at h3 ⊢
    have HD : Hid (∀ w' l', Has w' (btS p bank sp (N + 50 * k) es Q1 :: l') -> Tab l' -> Calls Tryz.prog 44 #[.pointer (some ⟨p, 0, none⟩), .int .i64 a1, .int .i64 xk] w' (RoomTo p bank sp (N + 50 * k) es Q1 a1 ts (delL (delF (ctPairs M) L (L.take k)) xk) s1 l' w')) := fun w' l' h ht =>
     room_Delete a1 xk h ht HB.out.1 HB.out.2.1 HG1.out.1 (by have := HB.out.2.2.1; have := HG1.out.2.1; omega) (by have := HB.out.2.2.2.2; have := Hln.out; omega) Hst.out.2.1
    have Hhf := Lib.hid hhf
    have h4 := h3
    clear hhk hhf HM h3 hb5
    have t1 : w3.cell? ⟨c, 1, none⟩ = some (.pointer (some ⟨p, 0, none⟩)) := h4.cc1 (p := p) (st := st) (by simp)
    have t0 : w3.cell? ⟨c, 0, none⟩ = some (.pointer (some ⟨st, 0, none⟩)) := h4.cc0 (p := p) (st := st) (by simp)
    have t2 : w3.cell? ⟨st, 1, none⟩ = some (.int .i64 a1) := h4.cs1 (mb := mb) (a := a1) (by simp)
    have o0 : w3.cell? ⟨b5, 0, none⟩ = some (.int .i64 xk) := cell_of h4.got 0 rfl
    have HH := Lib.hid h4
    clear h4
    go_upto_region 6 with fail
    have hh := HH.out
    clear HH
    obtain ⟨FA, HFA⟩ : ∃ FA : List (Nat × Addr × Value), Hid (FA = [(3, ⟨c, 1, none⟩, .pointer (some ⟨p, 0, none⟩)), (7, ⟨c, 0, none⟩, .pointer (some ⟨st, 0, none⟩)), (10, ⟨st, 1, none⟩, .int .i64 a1), (12, ⟨b5, 0, none⟩, .int .i64 xk)]) := ⟨_, rfl⟩
    have fa3 : ∀ nI : In (factsOf FA 3), nI.w.cell? ⟨c, 1, none⟩ = some (.pointer (some ⟨p, 0, none⟩)) := fun nI => factsOf.cell (by rw [HFA.out]; simp) nI
    have fa7 : ∀ nI : In (factsOf FA 7), nI.w.cell? ⟨c, 0, none⟩ = some (.pointer (some ⟨st, 0, none⟩)) := fun nI => factsOf.cell (by rw [HFA.out]; simp) nI
    have fa10 : ∀ nI : In (factsOf FA 10), nI.w.cell? ⟨st, 1, none⟩ = some (.int .i64 a1) := fun nI => factsOf.cell (by rw [HFA.out]; simp) nI
    have fa12 : ∀ nI : In (factsOf FA 12), nI.w.cell? ⟨b5, 0, none⟩ = some (.int .i64 xk) := fun nI => factsOf.cell (by rw [HFA.out]; simp) nI
    have hFA : ∀ p ∈ FA, w3.cell? p.2.1 = some p.2.2 := by rw [HFA.out]; exact (fcons t1 (fcons t0 (fcons t2 (fcons o0 fnil))))
    haveI neFA : ∀ k, Nonempty (In (factsOf FA k)) := fun k => ⟨⟨_, factsOf.drew hFA k⟩⟩
    refine ws_begin [0, 1, 2, 3, 4, 5, 6, 7, 8, 9, 10, 11, 12, 13, 14, 15, 16, 17, 18] (factsOf FA) (pts b5 (.cells #[.int .i64 xk, .int .i64 xv] 87 (0, 0)) :: pairsS (.slice (some ⟨gi, 0, none⟩) ln ic) L :: pairsS (.slice wq wn wc) (ctPairs M) :: catCell c p st :: staCell st mb a1 :: vmapS mb M :: btS p bank sp (N + 50 * k) es Q1 :: l) #[0, 1, 3, 7, 0, 16, 48, 112, 240, 496, 1008, 0, 2048, 8191, 16383, 32767, 32767, 65535, 262143] (by kernel_rfl) (by kernel_rfl) (by kernel_rfl) factsOf.alloc (factsOf.drew hFA) hh ?_
    clear hFA
    iterate 13 (refine ws_q (at_lit rfl) rfl rfl rfl ?_; go_big_quiet_op; show WS _ _ _ _ _ _ _ _ _ _)
    refine ws_call (at_lit rfl) rfl rfl 44 #[.pointer (some ⟨p, 0, none⟩), .int .i64 a1, .int .i64 xk] (fun w => by go_simp) (fun v L' => ∃ ta Q2 s2, v = .tuple #[.int .i64 ta, .nilIface] /\ s2 <= s1 /\ Grove Q2 (⟨ta, delL (delF (ctPairs M) L (L.take k)) xk, s2⟩ :: ts) /\ L' = pts b5 (.cells #[.int .i64 xk, .int .i64 xv] 87 (0, 0)) :: pairsS (.slice (some ⟨gi, 0, none⟩) ln ic) L :: pairsS (.slice wq wn wc) (ctPairs M) :: catCell c p st :: staCell st mb a1 :: vmapS mb M :: btS p bank sp (N + 50 * k + 50) es Q2 :: l) (fun w' F hS hh => ?_) ?_
    ·refine (HD.out w' _ (hh.pull 6) ((Ht.out.fr F).cons.cons.cons.cons.cons.cons)).mono ?_
     rintro r w'' ⟨ta, Q2, s2, rfl, hK, hs2, hG2, hnx, hh'⟩
     exact ⟨_, _, rfl, hK, ⟨ta, Q2, s2, rfl, hs2, hG2, rfl⟩, hh'.push 6⟩
    rintro _ _ ⟨ta, Q2, s2, rfl, hs2, hG2, rfl⟩
    refine ⟨fun w F hh => lives (l' := []) (by rw [HFA.out]; simp [liveFacts, Nat.testBit]) (fnil), ?_⟩
    simp only [Act.put, List.setIfInBounds_toArray, List.set_cons_zero, List.set_cons_succ]
    show WS _ _ _ _ _ _ _ _ _ _
    iterate 5 (refine ws_q (at_lit rfl) rfl rfl rfl ?_; go_big_quiet_op; show WS _ _ _ _ _ _ _ _ _ _)
    refine ws_end fun w5 hK5 h5 => ?_
    have HS5 := Lib.hid ((Has.sta_set ta (h5.pull 4)).push 4)
    have u0 : w5.cell? ⟨c, 0, none⟩ = some (.pointer (some ⟨st, 0, none⟩)) := h5.cc0 (p := p) (st := st) (by simp)
    have u2 : w5.cell? ⟨st, 1, none⟩ = some (.int .i64 a1) := h5.cs1 (mb := mb) (a := a1) (by simp)
    have uf : w5.frozen? ⟨st, 1, none⟩ = false := h5.csf (mb := mb) (a := a1) (by simp)
    have lc := World.block_lt_of_cell? _ _ u0
    have ls := World.block_lt_of_cell? _ _ u2
    have HM2 : Hid (SvM w l c p st mb bank sp es Q M a L (.slice (some ⟨gi, 0, none⟩) ln ic) (.slice wq wn wc) ts s (N + 50 * (k + 1)) 0 (delF (ctPairs M) L (L.take (k + 1))) (w5.setCell ⟨st, 1, none⟩ (.int .i64 ta))) :=
     ⟨(HK3.out.trans hK5).setCell _ _, Q2, ta, s2, by rw [Hst.out.1, delStep_no Hhf.out]; exact hG2, Nat.le_trans hs2 HG1.out.2.1, ⟨fun e => absurd (hasK_mem (W := ctPairs M) (x := (xk, xv)) (e ▸ Hst.out.2.2)) (by rw [Hhf.out]; simp), fun e => absurd (e ▸ Hst.out.2.2 : (xk, xv) ∈ ([] : List KV)) List.not_mem_nil⟩, HS5.out.tail⟩
    clear hK5 h5 hh HFA neFA FA fa3 fa7 fa10 fa12 o0 t0 t1 t2 HK3 Hst HG1 HD hG2 hs2 HS5
    go_wp2
    go_roundg (ln - (k + 1))
    case measure => omega
    case rel => exact ⟨k + 1, by omega, rfl, by go_num, HM2⟩
  ·skip
   have hke : k = ln := by omega
   subst hke
   have HM1 : Hid (SvM w l c p st mb bank sp es Q M a L (.slice iq k ic) (.slice wq wn wc) ts (max s 1 + 0) (N + 50 * (k + 0)) 0 (setF (delF (ctPairs M) L L) ((ctPairs M).take 0)) wr) := by
    have := HM.out
    rw [List.take_of_length_le (by rw [Hln.out]; exact Nat.le_refl _)] at this
    exact Lib.hid (this.more (by omega) (Nat.le_refl _))
   clear HM
   go_wp2
   go_loopg [66] wn (fun gk iv wr => ∃ j : Nat, j <= wn /\ gk = wn - j /\ iv = .int .i64 j /\ Hid (SvM w l c p st mb bank sp es Q M a L (.slice iq k ic) (.slice wq wn wc) ts (max s 1 + j) (N + 50 * (k + j)) j (setF (delF (ctPairs M) L L) ((ctPairs M).take j)) wr))
   case atStart => exact ⟨0, Nat.zero_le _, rfl, rfl, HM1⟩
   case round =>
    clear HM1
    obtain ⟨j, hj, rfl, rfl, HM⟩ := hrel
    by_cases hlt2 : j < wn
    ·skip
     obtain ⟨hK, Q1, a1, s1, hG1, hs1, hz1, hh⟩ := HM.out
     obtain ⟨_, _, e1, _, hrd⟩ := hh.pairs_read (v := .slice wq wn wc) (ps := ctPairs M) (.tail _ (.head _))
     injection e1 with e1 e2 e3
     subst e1
     clear e2 e3
     obtain ⟨x, hx⟩ : ∃ x, (ctPairs M)[j]? = some x := ⟨_, List.getElem?_eq_getElem (by have := Hwn.out; omega)⟩
     obtain ⟨gi, rfl, x0, x1⟩ := hrd j x hx
     obtain ⟨T, hT⟩ : ∃ T, setF (delF (ctPairs M) L L) ((ctPairs M).take j) = T := ⟨_, rfl⟩
     have hsn := setF_snoc (delF (ctPairs M) L L) ((ctPairs M).take j) x
     rw [<- (take_succ hx).1, hT] at hsn
     rw [hT] at hG1
     have hxm := List.mem_of_getElem? hx
     have hpk := HS.out.2.2.2.1 x hxm
     have hzT : L = ctPairs M -> T = ctPairs M := fun e => by
      rw [<- hT, e, del_same _ _ (fun x hx => hx), set_same HS.out.1 _ (fun x hx => List.mem_of_mem_take hx)]
     have hTs : Srt T := (hG1.root _ (.head _)).srt
     have hT0 : L = [] -> j = 0 -> T = [] := fun e e2 => by rw [<- hT, e, e2]; rfl
     obtain ⟨xk, xv⟩ := x
     simp only at x0 x1 hsn hpk
     have lx := World.block_lt_of_cell? _ _ x0
     have jI : (j : Int) < (wn : Int) := by omega
     have j0 : (0 : Int) <= j := by omega
     have hA := hh.alloc (.cells #[.int .i64 xk, .int .i64 xv] 87)
     have HKA := Lib.hid (hK.alloc (.cells #[.int .i64 xk, .int .i64 xv] 87))
     have HA := Lib.hid hA
     have Hst := Lib.hid (And.intro hsn (And.intro hpk (And.intro hxm (And.intro hzT (And.intro hTs hT0)))))
     have HG1 := Lib.hid (And.intro hG1 (And.intro hs1 hz1))
     have HF : Hid (∀ w' l', Has w' (btS p bank sp (N + 50 * (k + j)) es Q1 :: l') -> Calls Tryz.prog 47 #[.pointer (some ⟨p, 0, none⟩), .int .i64 a1, .int .i64 xk] w' (FoundPost p bank sp (N + 50 * (k + j)) es Q1 T xk l' w')) := fun w' l' h => bt_FindR a1 xk h (HG1.out.1.root _ (.head _))
     have HD : Hid (∀ w' l', Has w' (btS p bank sp (N + 50 * (k + j)) es Q1 :: l') -> Tab l' -> Calls Tryz.prog 39 #[.pointer (some ⟨p, 0, none⟩), .int .i64 a1, .int .i64 xk, .int .i64 xv] w' (RoomTo p bank sp (N + 50 * (k + j)) es Q1 a1 ts (putL T xk xv) (max s1 1 + 1) l' w')) := fun w' l' h ht =>
      room_Set a1 xk xv h ht HB.out.1 HB.out.2.1 HG1.out.1 (by have := HB.out.2.2.1; have := HG1.out.2.1; have := Hwn.out; have := HS.out.2.1; omega) (by have := HB.out.2.2.2.2; have := Hln.out; have := Hwn.out; have := HS.out.2.1; omega) Hst.out.2.1
     clear hK hh hA hrd hx hsn hpk hxm hzT hTs hT0 hG1 hs1 hz1 hT
     go_upto_region 14 with fail
     obtain ⟨W3, hW3⟩ : ∃ W3, wr.alloc (.cells #[.int .i64 xk, .int .i64 xv] 87) = W3 := ⟨_, rfl⟩
     obtain ⟨b5, hb5⟩ : ∃ b5, wr.heap.size = b5 := ⟨_, rfl⟩
     have hh := HA.out
     have hK3 := HKA.out
     rw [hW3, hb5] at hh
     rw [hW3] at hK3
     rw [hW3, hb5]
     have HK3 := Lib.hid hK3
     clear HA HKA hW3 hb5 hK3 x0 x1 lx HM
     have t1 : W3.cell? ⟨c, 1, none⟩ = some (.pointer (some ⟨p, 0, none⟩)) := hh.cc1 (p := p) (st := st) (by simp)
     have t0 : W3.cell? ⟨c, 0, none⟩ = some (.pointer (some ⟨st, 0, none⟩)) := hh.cc0 (p := p) (st := st) (by simp)
     have t2 : W3.cell? ⟨st, 1, none⟩ = some (.int .i64 a1) := hh.cs1 (mb := mb) (a := a1) (by simp)
     have o0 : W3.cell? ⟨b5, 0, none⟩ = some (.int .i64 xk) := cell_of hh.got 0 rfl
     obtain ⟨FA, HFA⟩ : ∃ FA : List (Nat × Addr × Value), Hid (FA = [(3, ⟨c, 1, none⟩, .pointer (some ⟨p, 0, none⟩)), (7, ⟨c, 0, none⟩, .pointer (some ⟨st, 0, none⟩)), (10, ⟨st, 1, none⟩, .int .i64 a1), (12, ⟨b5, 0, none⟩, .int .i64 xk)]) := ⟨_, rfl⟩
     have fa3 : ∀ nI : In (factsOf FA 3), nI.w.cell? ⟨c, 1, none⟩ = some (.pointer (some ⟨p, 0, none⟩)) := fun nI => factsOf.cell (by rw [HFA.out]; simp) nI
     have fa7 : ∀ nI : In (factsOf FA 7), nI.w.cell? ⟨c, 0, none⟩ = some (.pointer (some ⟨st, 0, none⟩)) := fun nI => factsOf.cell (by rw [HFA.out]; simp) nI
     have fa10 : ∀ nI : In (factsOf FA 10), nI.w.cell? ⟨st, 1, none⟩ = some (.int .i64 a1) := fun nI => factsOf.cell (by rw [HFA.out]; simp) nI
     have fa12 : ∀ nI : In (factsOf FA 12), nI.w.cell? ⟨b5, 0, none⟩ = some (.int .i64 xk) := fun nI => factsOf.cell (by rw [HFA.out]; simp) nI
     have hFA : ∀ p ∈ FA, W3.cell? p.2.1 = some p.2.2 := by rw [HFA.out]; exact (fcons t1 (fcons t0 (fcons t2 (fcons o0 fnil))))
     haveI neFA : ∀ k, Nonempty (In (factsOf FA k)) := fun k => ⟨⟨_, factsOf.drew hFA k⟩⟩
     refine ws_begin [0, 1, 2, 3, 4, 5, 6, 7, 8, 9, 10, 11, 12, 13, 14, 15, 16, 17, 18] (factsOf FA) (pts b5 (.cells #[.int .i64 xk, .int .i64 xv] 87 (0, 0)) :: pairsS (.slice iq k ic) L :: pairsS (.slice (some ⟨gi, 0, none⟩) wn wc) (ctPairs M) :: catCell c p st :: staCell st mb a1 :: vmapS mb M :: btS p bank sp (N + 50 * (k + j)) es Q1 :: l) #[0, 1, 3, 7, 0, 16, 48, 112, 240, 496, 1008, 0, 2048, 8191, 16383, 32767, 32767, 65535, 262143] (by kernel_rfl) (by kernel_rfl) (by kernel_rfl) factsOf.alloc (factsOf.drew hFA) hh ?_
     clear hFA
     iterate 13 (refine ws_q (at_lit rfl) rfl rfl rfl ?_; go_big_quiet_op; show WS _ _ _ _ _ _ _ _ _ _)
     refine ws_call (at_lit rfl) rfl rfl 47 #[.pointer (some ⟨p, 0, none⟩), .int .i64 a1, .int .i64 xk] (fun w => by go_simp) (fun v L' => ∃ fz fb, v = .tuple #[.int .i64 fz, .bool fb] /\ foundV T xk = .tuple #[.int .i64 fz, .bool fb] /\ L' = pts b5 (.cells #[.int .i64 xk, .int .i64 xv] 87 (0, 0)) :: pairsS (.slice iq k ic) L :: pairsS (.slice (some ⟨gi, 0, none⟩) wn wc) (ctPairs M) :: catCell c p st :: staCell st mb a1 :: vmapS mb M :: btS p bank sp (N + 50 * (k + j)) es Q1 :: l) (fun w' F hS hh => ?_) ?_
     ·refine (HF.out w' _ (hh.pull 6)).mono ?_
      rintro r w'' ⟨hK, rfl, hh'⟩
      obtain ⟨fz, fb, hf⟩ := foundV_is T xk
      rw [hf]
      exact ⟨_, _, rfl, hK, ⟨fz, fb, rfl, rfl, rfl⟩, hh'.push 6⟩
     rintro _ _ ⟨fz, fb, rfl, hfz, rfl⟩
     refine ⟨fun w F hh => lives (l' := []) (by rw [HFA.out]; simp [liveFacts, Nat.testBit]) (fnil), ?_⟩
     simp only [Act.put, List.setIfInBounds_toArray, List.set_cons_zero, List.set_cons_succ]
     show WS _ _ _ _ _ _ _ _ _ _
     iterate 5 (refine ws_q (at_lit rfl) rfl rfl rfl ?_; go_big_quiet_op; show WS _ _ _ _ _ _ _ _ _ _)
     refine ws_end fun w5 hK5 h5 => ?_
     have HK5 := Lib.hid (HK3.out.trans hK5)
     have o1 : w5.cell? ⟨b5, 1, none⟩ = some (.int .i64 xv) := cell_of h5.got 1 rfl
     have lo := World.block_lt_of_cell? _ _ o1
     have Hfz := Lib.hid hfz
     have H5 := Lib.hid h5
     clear hK5 h5 hh HFA neFA FA fa3 fa7 fa10 fa12 o0 t0 t1 t2 HK3 HF hfz
     by_cases hq : fb = true /\ fz = xv
     ·skip
      have HM2 : Hid (SvM w l c p st mb bank sp es Q M a L (.slice iq k ic) (.slice (some ⟨gi, 0, none⟩) wn wc) ts (max s 1 + (j + 1)) (N + 50 * (k + (j + 1))) (j + 1) (setF (delF (ctPairs M) L L) ((ctPairs M).take (j + 1))) w5) := by
       have h4 : SvM w l c p st mb bank sp es Q M a L (.slice iq k ic) (.slice (some ⟨gi, 0, none⟩) wn wc) ts (max s 1 + j) (N + 50 * (k + j)) (j + 1) (setF (delF (ctPairs M) L L) ((ctPairs M).take (j + 1))) w5 := by
        have e := putL_same (x := (xk, xv)) Hst.out.2.2.2.2.1 (foundV_get (by rw [Hfz.out, hq.1, hq.2]))
        exact ⟨HK5.out, Q1, a1, s1, by rw [Hst.out.1, e]; exact HG1.out.1, HG1.out.2.1, ⟨HG1.out.2.2.1, fun e1 _ => ⟨fun h => (nomatch h), fun h => (by
         have e3 := Hfz.out
         rw [Hst.out.2.2.2.2.2 e1 (by omega), hq.1] at e3
         exact absurd e3 (by simp [foundV, getK]))⟩⟩, H5.out.tail⟩
       exact Lib.hid (h4.more (by omega) (by omega))
      obtain ⟨rfl, rfl⟩ := hq
      clear H5 HK5 Hst HG1 HD Hfz
      go_wp2
      go_roundg (wn - (j + 1))
      case measure => omega
      case rel => exact ⟨j + 1, by omega, rfl, by go_num, HM2⟩
     ·skip
      have Hq : Hid (L ≠ ctPairs M) := Lib.hid fun e => by
       have e1 := Hst.out.2.2.2.1 e
       have e2 := getK_at (L := ctPairs M) HS.out.1 Hst.out.2.2.1
       have e3 := Hfz.out
       rw [e1] at e3
       unfold foundV at e3
       rw [e2] at e3
       injection e3 with e3
       simp at e3
       exact hq ⟨by rw [e3.2], by rw [e3.1]⟩
      have hq2 : (fb && fz == xv) = false := by
       cases fb with
       | false => rfl
       | true => simpa using hq
      have hq' := hq
      clear hq
      cases fb with
      | true =>
       have hne : (fz == xv) = false := by simpa using hq'
       clear hq2 hq'
       go_upto_region 16 with fail
       have hh := H5.out
       have t1 : w5.cell? ⟨c, 1, none⟩ = some (.pointer (some ⟨p, 0, none⟩)) := hh.cc1 (p := p) (st := st) (by simp)
       have t0 : w5.cell? ⟨c, 0, none⟩ = some (.pointer (some ⟨st, 0, none⟩)) := hh.cc0 (p := p) (st := st) (by simp)
       have t2 : w5.cell? ⟨st, 1, none⟩ = some (.int .i64 a1) := hh.cs1 (mb := mb) (a := a1) (by simp)
       have o0 : w5.cell? ⟨b5, 0, none⟩ = some (.int .i64 xk) := cell_of hh.got 0 rfl
       clear H5
       obtain ⟨FA, HFA⟩ : ∃ FA : List (Nat × Addr × Value), Hid (FA = [(3, ⟨c, 1, none⟩, .pointer (some ⟨p, 0, none⟩)), (7, ⟨c, 0, none⟩, .pointer (some ⟨st, 0, none⟩)), (10, ⟨st, 1, none⟩, .int .i64 a1), (12, ⟨b5, 0, none⟩, .int .i64 xk), (14, ⟨b5, 1, none⟩, .int .i64 xv)]) := ⟨_, rfl⟩
       have fa3 : ∀ nI : In (factsOf FA 3), nI.w.cell? ⟨c, 1, none⟩ = some (.pointer (some ⟨p, 0, none⟩)) := fun nI => factsOf.cell (by rw [HFA.out]; simp) nI
       have fa7 : ∀ nI : In (factsOf FA 7), nI.w.cell? ⟨c, 0, none⟩ = some (.pointer (some ⟨st, 0, none⟩)) := fun nI => factsOf.cell (by rw [HFA.out]; simp) nI
       have fa10 : ∀ nI : In (factsOf FA 10), nI.w.cell? ⟨st, 1, none⟩ = some (.int .i64 a1) := fun nI => factsOf.cell (by rw [HFA.out]; simp) nI
       have fa12 : ∀ nI : In (factsOf FA 12), nI.w.cell? ⟨b5, 0, none⟩ = some (.int .i64 xk) := fun nI => factsOf.cell (by rw [HFA.out]; simp) nI
       have fa14 : ∀ nI : In (factsOf FA 14), nI.w.cell? ⟨b5, 1, none⟩ = some (.int .i64 xv) := fun nI => factsOf.cell (by rw [HFA.out]; simp) nI
       have hFA : ∀ p ∈ FA, w5.cell? p.2.1 = some p.2.2 := by rw [HFA.out]; exact (fcons t1 (fcons t0 (fcons t2 (fcons o0 (fcons o1 fnil)))))
       haveI neFA : ∀ k, Nonempty (In (factsOf FA k)) := fun k => ⟨⟨_, factsOf.drew hFA k⟩⟩
       refine ws_begin [0, 1, 2, 3, 4, 5, 6, 7, 8, 9, 10, 11, 12, 13, 14, 15, 16, 17, 18, 19, 20] (factsOf FA) (pts b5 (.cells #[.int .i64 xk, .int .i64 xv] 87 (0, 0)) :: pairsS (.slice iq k ic) L :: pairsS (.slice (some ⟨gi, 0, none⟩) wn wc) (ctPairs M) :: catCell c p st :: staCell st mb a1 :: vmapS mb M :: btS p bank sp (N + 50 * (k + j)) es Q1 :: l) #[0, 1, 3, 7, 0, 16, 48, 112, 240, 496, 1008, 0, 2048, 0, 8192, 32767, 65535, 131071, 131071, 262143, 1048575] (by kernel_rfl) (by kernel_rfl) (by kernel_rfl) factsOf.alloc (factsOf.drew hFA) hh ?_
       clear hFA
       iterate 15 (refine ws_q (at_lit rfl) rfl rfl rfl ?_; go_big_quiet_op; show WS _ _ _ _ _ _ _ _ _ _)
       refine ws_call (at_lit rfl) rfl rfl 39 #[.pointer (some ⟨p, 0, none⟩), .int .i64 a1, .int .i64 xk, .int .i64 xv] (fun w => by go_simp) (fun v L' => ∃ ta Q2 s2, v = .tuple #[.int .i64 ta, .nilIface] /\ s2 <= max s1 1 + 1 /\ Grove Q2 (⟨ta, putL T xk xv, s2⟩ :: ts) /\ (a1 = 0 -> Next es Q1 ta) /\ L' = pts b5 (.cells #[.int .i64 xk, .int .i64 xv] 87 (0, 0)) :: pairsS (.slice iq k ic) L :: pairsS (.slice (some ⟨gi, 0, none⟩) wn wc) (ctPairs M) :: catCell c p st :: staCell st mb a1 :: vmapS mb M :: btS p bank sp (N + 50 * (k + j) + 50) es Q2 :: l) (fun w' F hS hh => ?_) ?_
       ·refine (HD.out w' _ (hh.pull 6) ((Ht.out.fr F).cons.cons.cons.cons.cons.cons)).mono ?_
        rintro r w'' ⟨ta, Q2, s2, rfl, hK, hs2, hG2, hnx, hh'⟩
        exact ⟨_, _, rfl, hK, ⟨ta, Q2, s2, rfl, hs2, hG2, hnx, rfl⟩, hh'.push 6⟩
       rintro _ _ ⟨ta, Q2, s2, rfl, hs2, hG2, hnx, rfl⟩
       refine ⟨fun w F hh => lives (l' := []) (by rw [HFA.out]; simp [liveFacts, Nat.testBit]) (fnil), ?_⟩
       simp only [Act.put, List.setIfInBounds_toArray, List.set_cons_zero, List.set_cons_succ]
       show WS _ _ _ _ _ _ _ _ _ _
       iterate 5 (refine ws_q (at_lit rfl) rfl rfl rfl ?_; go_big_quiet_op; show WS _ _ _ _ _ _ _ _ _ _)
       refine ws_end fun w6 hK6 h6 => ?_
       have Hnx := Lib.hid hnx
       have HS5 := Lib.hid ((Has.sta_set ta (h6.pull 4)).push 4)
       have u0 : w6.cell? ⟨c, 0, none⟩ = some (.pointer (some ⟨st, 0, none⟩)) := h6.cc0 (p := p) (st := st) (by simp)
       have u2 : w6.cell? ⟨st, 1, none⟩ = some (.int .i64 a1) := h6.cs1 (mb := mb) (a := a1) (by simp)
       have uf : w6.frozen? ⟨st, 1, none⟩ = false := h6.csf (mb := mb) (a := a1) (by simp)
       have lc := World.block_lt_of_cell? _ _ u0
       have ls := World.block_lt_of_cell? _ _ u2
       have HM2 : Hid (SvM w l c p st mb bank sp es Q M a L (.slice iq k ic) (.slice (some ⟨gi, 0, none⟩) wn wc) ts (max s 1 + (j + 1)) (N + 50 * (k + (j + 1))) (j + 1) (setF (delF (ctPairs M) L L) ((ctPairs M).take (j + 1))) (w6.setCell ⟨st, 1, none⟩ (.int .i64 ta))) := by
        have h4 : SvM w l c p st mb bank sp es Q M a L (.slice iq k ic) (.slice (some ⟨gi, 0, none⟩) wn wc) ts (max s 1 + (j + 1)) (N + 50 * (k + j) + 50) (j + 1) (setF (delF (ctPairs M) L L) ((ctPairs M).take (j + 1))) (w6.setCell ⟨st, 1, none⟩ (.int .i64 ta)) := ⟨(HK5.out.trans hK6).setCell _ _, Q2, ta, s2, by rw [Hst.out.1]; exact hG2, by have := HG1.out.2.1; omega, ⟨fun e => absurd e Hq.out, fun e1 e0 => ⟨fun h => (nomatch h), fun h => (by
          obtain ⟨q1, q2⟩ := (HG1.out.2.2.2 e1 e0).1 (by omega)
          have := Hnx.out (by rw [q2]; exact e0)
          rw [q1] at this
          exact this)⟩⟩, HS5.out.tail⟩
        exact Lib.hid (h4.more (Nat.le_refl _) (by omega))
       clear hK6 h6 hh HFA neFA FA fa3 fa7 fa10 fa12 fa14 o0 o1 lo t0 t1 t2 HK5 Hst HG1 HD hG2 hs2 HS5 Hq Hfz Hnx hnx
       go_wp2
       go_roundg (wn - (j + 1))
       case measure => omega
       case rel => exact ⟨j + 1, by omega, rfl, by go_num, HM2⟩
      | false =>
       clear hq2 hq'
       go_upto_region 16 with fail
       have hh := H5.out
       have t1 : w5.cell? ⟨c, 1, none⟩ = some (.pointer (some ⟨p, 0, none⟩)) := hh.cc1 (p := p) (st := st) (by simp)
       have t0 : w5.cell? ⟨c, 0, none⟩ = some (.pointer (some ⟨st, 0, none⟩)) := hh.cc0 (p := p) (st := st) (by simp)
       have t2 : w5.cell? ⟨st, 1, none⟩ = some (.int .i64 a1) := hh.cs1 (mb := mb) (a := a1) (by simp)
       have o0 : w5.cell? ⟨b5, 0, none⟩ = some (.int .i64 xk) := cell_of hh.got 0 rfl
       clear H5
       obtain ⟨FA, HFA⟩ : ∃ FA : List (Nat × Addr × Value), Hid (FA = [(3, ⟨c, 1, none⟩, .pointer (some ⟨p, 0, none⟩)), (7, ⟨c, 0, none⟩, .pointer (some ⟨st, 0, none⟩)), (10, ⟨st, 1, none⟩, .int .i64 a1), (12, ⟨b5, 0, none⟩, .int .i64 xk), (14, ⟨b5, 1, none⟩, .int .i64 xv)]) := ⟨_, rfl⟩
       have fa3 : ∀ nI : In (factsOf FA 3), nI.w.cell? ⟨c, 1, none⟩ = some (.pointer (some ⟨p, 0, none⟩)) := fun nI => factsOf.cell (by rw [HFA.out]; simp) nI
       have fa7 : ∀ nI : In (factsOf FA 7), nI.w.cell? ⟨c, 0, none⟩ = some (.pointer (some ⟨st, 0, none⟩)) := fun nI => factsOf.cell (by rw [HFA.out]; simp) nI
       have fa10 : ∀ nI : In (factsOf FA 10), nI.w.cell? ⟨st, 1, none⟩ = some (.int .i64 a1) := fun nI => factsOf.cell (by rw [HFA.out]; simp) nI
       have fa12 : ∀ nI : In (factsOf FA 12), nI.w.cell? ⟨b5, 0, none⟩ = some (.int .i64 xk) := fun nI => factsOf.cell (by rw [HFA.out]; simp) nI
       have fa14 : ∀ nI : In (factsOf FA 14), nI.w.cell? ⟨b5, 1, none⟩ = some (.int .i64 xv) := fun nI => factsOf.cell (by rw [HFA.out]; simp) nI
       have hFA : ∀ p ∈ FA, w5.cell? p.2.1 = some p.2.2 := by rw [HFA.out]; exact (fcons t1 (fcons t0 (fcons t2 (fcons o0 (fcons o1 fnil)))))
       haveI neFA : ∀ k, Nonempty (In (factsOf FA k)) := fun k => ⟨⟨_, factsOf.drew hFA k⟩⟩
       refine ws_begin [0, 1, 2, 3, 4, 5, 6, 7, 8, 9, 10, 11, 12, 13, 14, 15, 16, 17, 18, 19, 20] (factsOf FA) (pts b5 (.cells #[.int .i64 xk, .int .i64 xv] 87 (0, 0)) :: pairsS (.slice iq k ic) L :: pairsS (.slice (some ⟨gi, 0, none⟩) wn wc) (ctPairs M) :: catCell c p st :: staCell st mb a1 :: vmapS mb M :: btS p bank sp (N + 50 * (k + j)) es Q1 :: l) #[0, 1, 3, 7, 0, 16, 48, 112, 240, 496, 1008, 0, 2048, 0, 8192, 32767, 65535, 131071, 131071, 262143, 1048575] (by kernel_rfl) (by kernel_rfl) (by kernel_rfl) factsOf.alloc (factsOf.drew hFA) hh ?_
       clear hFA
       iterate 15 (refine ws_q (at_lit rfl) rfl rfl rfl ?_; go_big_quiet_op; show WS _ _ _ _ _ _ _ _ _ _)
       refine ws_call (at_lit rfl) rfl rfl 39 #[.pointer (some ⟨p, 0, none⟩), .int .i64 a1, .int .i64 xk, .int .i64 xv] (fun w => by go_simp) (fun v L' => ∃ ta Q2 s2, v = .tuple #[.int .i64 ta, .nilIface] /\ s2 <= max s1 1 + 1 /\ Grove Q2 (⟨ta, putL T xk xv, s2⟩ :: ts) /\ (a1 = 0 -> Next es Q1 ta) /\ L' = pts b5 (.cells #[.int .i64 xk, .int .i64 xv] 87 (0, 0)) :: pairsS (.slice iq k ic) L :: pairsS (.slice (some ⟨gi, 0, none⟩) wn wc) (ctPairs M) :: catCell c p st :: staCell st mb a1 :: vmapS mb M :: btS p bank sp (N + 50 * (k + j) + 50) es Q2 :: l) (fun w' F hS hh => ?_) ?_
       ·refine (HD.out w' _ (hh.pull 6) ((Ht.out.fr F).cons.cons.cons.cons.cons.cons)).mono ?_
        rintro r w'' ⟨ta, Q2, s2, rfl, hK, hs2, hG2, hnx, hh'⟩
        exact ⟨_, _, rfl, hK, ⟨ta, Q2, s2, rfl, hs2, hG2, hnx, rfl⟩, hh'.push 6⟩
       rintro _ _ ⟨ta, Q2, s2, rfl, hs2, hG2, hnx, rfl⟩
       refine ⟨fun w F hh => lives (l' := []) (by rw [HFA.out]; simp [liveFacts, Nat.testBit]) (fnil), ?_⟩
       simp only [Act.put, List.setIfInBounds_toArray, List.set_cons_zero, List.set_cons_succ]
       show WS _ _ _ _ _ _ _ _ _ _
       iterate 5 (refine ws_q (at_lit rfl) rfl rfl rfl ?_; go_big_quiet_op; show WS _ _ _ _ _ _ _ _ _ _)
       refine ws_end fun w6 hK6 h6 => ?_
       have Hnx := Lib.hid hnx
       have HS5 := Lib.hid ((Has.sta_set ta (h6.pull 4)).push 4)
       have u0 : w6.cell? ⟨c, 0, none⟩ = some (.pointer (some ⟨st, 0, none⟩)) := h6.cc0 (p := p) (st := st) (by simp)
       have u2 : w6.cell? ⟨st, 1, none⟩ = some (.int .i64 a1) := h6.cs1 (mb := mb) (a := a1) (by simp)
       have uf : w6.frozen? ⟨st, 1, none⟩ = false := h6.csf (mb := mb) (a := a1) (by simp)
       have lc := World.block_lt_of_cell? _ _ u0
       have ls := World.block_lt_of_cell? _ _ u2
       have HM2 : Hid (SvM w l c p st mb bank sp es Q M a L (.slice iq k ic) (.slice (some ⟨gi, 0, none⟩) wn wc) ts (max s 1 + (j + 1)) (N + 50 * (k + (j + 1))) (j + 1) (setF (delF (ctPairs M) L L) ((ctPairs M).take (j + 1))) (w6.setCell ⟨st, 1, none⟩ (.int .i64 ta))) := by
        have h4 : SvM w l c p st mb bank sp es Q M a L (.slice iq k ic) (.slice (some ⟨gi, 0, none⟩) wn wc) ts (max s 1 + (j + 1)) (N + 50 * (k + j) + 50) (j + 1) (setF (delF (ctPairs M) L L) ((ctPairs M).take (j + 1))) (w6.setCell ⟨st, 1, none⟩ (.int .i64 ta)) := ⟨(HK5.out.trans hK6).setCell _ _, Q2, ta, s2, by rw [Hst.out.1]; exact hG2, by have := HG1.out.2.1; omega, ⟨fun e => absurd e Hq.out, fun e1 e0 => ⟨fun h => (nomatch h), fun h => (by
          obtain ⟨q1, q2⟩ := (HG1.out.2.2.2 e1 e0).1 (by omega)
          have := Hnx.out (by rw [q2]; exact e0)
          rw [q1] at this
          exact this)⟩⟩, HS5.out.tail⟩
        exact Lib.hid (h4.more (Nat.le_refl _) (by omega))
       clear hK6 h6 hh HFA neFA FA fa3 fa7 fa10 fa12 fa14 o0 o1 lo t0 t1 t2 HK5 Hst HG1 HD hG2 hs2 HS5 Hq Hfz Hnx hnx
       go_wp2
       go_roundg (wn - (j + 1))
       case measure => omega
       case rel => exact ⟨j + 1, by omega, rfl, by go_num, HM2⟩
    ·skip
     have hje : j = wn := by omega
     subst hje
     have HE : Hid (SavePost c p bank sp N es Q M a L s ts l w (.returned .nilIface) wr) := by
      obtain ⟨hK, Q1, a1, s1, hG1, hs1, hz1, hh⟩ := HM.out
      rw [List.take_of_length_le (by rw [Hwn.out]; exact Nat.le_refl _), save_all HS.out.2.2.1 HS.out.1] at hG1
      have h6 := Has.cat_shut HS.out.2.2.2.2 (hh.tail.tail)
      exact ⟨rfl, hK, Q1, a1, s1, hG1, by have := HS.out.2.1; have := Hwn.out; omega, hz1.1, fun e e0 e1 => (hz1.2 e e0).2 (by rw [<- Hwn.out]; exact e1), (h6.swap.bt_more (by have := HS.out.2.1; have := Hwn.out; have := Hln.out; omega)).swap⟩
     clear HM
     go_wp2
     go_ret
     exact HE.out
end Go.Proofs.YtgbgneiciabidaaGreatDoor
