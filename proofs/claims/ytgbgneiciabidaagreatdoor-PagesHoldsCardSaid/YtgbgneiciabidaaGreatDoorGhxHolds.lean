/-
  Law 11: pages that are named or held stay; when all holds are given back none is left (PagesHolds), the walk.
-/
import Derived.Test.YtgbgneiciabidaaGreatDoorGh16
import Derived.Test.YtgbgneiciabidaaGreatDoorGh18
import Derived.Test.YtgbgneiciabidaaGreatDoorGh17
namespace Go.Proofs.YtgbgneiciabidaaGreatDoor
open Go Go.RowKit
set_option linter.all false

/-- An operation that came in. -/
structure OpV where
  kind : Int
  addr : Int
  n : Int
  level : Int
  ks : List Int
  vs : List Int
  ka : Option Addr
  kc : Nat
  va : Option Addr
  vc : Nat
def OpAt (w : World) (g i : Nat) (o : OpV) : Prop :=
  w.cell? ⟨g, i, none⟩ = some (.int .i64 o.kind) ∧ w.cell? ⟨g, i + 1, none⟩ = some (.int .i64 o.addr) ∧ w.cell? ⟨g, i + 2, none⟩ = some (.int .i64 o.n) ∧ w.cell? ⟨g, i + 3, none⟩ = some (.int .i64 o.level) ∧
  w.cell? ⟨g, i + 4, none⟩ = some (.slice o.ka o.ks.length o.kc) ∧ w.cell? ⟨g, i + 5, none⟩ = some (.slice o.va o.vs.length o.vc)
/-- Operations that lie wherever they lie. -/
def OpsRd (w : World) (v : Value) (os : List OpV) : Prop := ∃ a c, v = .slice a os.length c ∧ ∀ k (hk : k < os.length), ∃ g o, a = some ⟨g, o, none⟩ ∧ OpAt w g (o + k * 6) os[k]
def OpOk (l : List Say) (o : OpV) : Prop :=
  Srcs l (.slice o.ka o.ks.length o.kc) o.ks ∧ Srcs l (.slice o.va o.vs.length o.vc) o.vs ∧ o.ks.length * 8 ≤ 140737488355328 ∧ o.vs.length * 8 ≤ 140737488355328 ∧ -9223372036854775808 ≤ o.n ∧ o.n ≤ 9223372036854775807
structure OpsSrcs (l : List Say) (v : Value) (os : List OpV) : Prop where
  rd : ∀ w, Has w l → OpsRd w v os
  ok : ∀ o ∈ os, OpOk l o
def HolMid (w : World) (l : List Say) (p bank sp x r5 : Nat) (X0 : Spc) (k : Nat) (hv : Value) (wr : World) : Prop :=
  ∃ (hs : List Int) (Q : Pgs) (X : Spc) (disks : List Dsk) (a : Option Addr) (c : Nat), hv = .slice a hs.length c ∧ hs.length ≤ k ∧ Stk X0 hs Q X ∧ Fits X disks Q ∧ Kept w wr ∧
    Has wr (intsS (.slice a hs.length c) hs.reverse :: stS p bank sp Q :: bankS k bank disks :: spaceS sp X :: pts r5 (.cells #[.pointer (some ⟨bank, 0, none⟩), .pointer (some ⟨sp, 0, none⟩), .pointer (some ⟨p, 0, none⟩), .pointer (some ⟨x, 0, none⟩)] 30 (0, 0)) :: l)
theorem Stk.holds {X0 : Spc} (h0 : SInv X0) {hs : List Int} {Q : Pgs} {X : Spc} (h : Stk X0 hs Q X) (hl : hs.length ≤ 100) : HoldsTo Q 1000000 := by
  intro k g hg
  obtain ⟨h1, h2, _⟩ := (h.inv h0).1.pg k g hg
  omega
theorem namedErr_cases (Q : Pgs) (n : Nd) (h : namedErr Q n ≠ .nilIface) : namedErr Q n = errV 81 ∨ namedErr Q n = errV 70 := by
  unfold namedErr at h ⊢
  split
  · exact .inl rfl
  · rename_i h1
    rw [if_neg h1] at h
    split
    · exact .inr rfl
    · rename_i h2
      rw [if_neg h2] at h
      exact absurd rfl h
def LastMid (w : World) (l : List Say) (p bank sp x r5 N : Nat) (X0 : Spc) (hs : List Int) (hv : Value) (n : Nat) (wr : World) : Prop :=
  ∃ (hs1 : List Int) (Q : Pgs) (X : Spc) (disks : List Dsk), hs1.length = n ∧ hs.drop (hs.length - n) = hs1 ∧ Stk X0 hs1 Q X ∧ Kept w wr ∧
    Has wr (intsS hv hs.reverse :: stS p bank sp Q :: bankS N bank disks :: spaceS sp X :: pts r5 (.cells #[.pointer (some ⟨bank, 0, none⟩), .pointer (some ⟨sp, 0, none⟩), .pointer (some ⟨p, 0, none⟩), .pointer (some ⟨x, 0, none⟩)] 30 (0, 0)) :: l)
def HolNode (w : World) (l : List Say) (p bank sp x r5 r11 k : Nat) (hs : List Int) (Q : Pgs) (X : Spc) (disks : List Dsk) (ah : Option Addr) (ch : Nat) (wx : World) : Prop :=
  ∃ (n : Nd) (ak : Option Addr) (ck : Nat) (av : Option Addr) (cv : Nat), Kept w wx ∧ Has wx (pts r11 (.cells #[.int .i64 n.level, .slice ak n.keys.length ck, .slice av n.vals.length cv] 35 (0, 0)) :: intsS (.slice ak n.keys.length ck) n.keys :: intsS (.slice av n.vals.length cv) n.vals :: intsS (.slice ah hs.length ch) hs.reverse :: stS p bank sp Q :: bankS k bank disks :: spaceS sp X :: pts r5 (.cells #[.pointer (some ⟨bank, 0, none⟩), .pointer (some ⟨sp, 0, none⟩), .pointer (some ⟨p, 0, none⟩), .pointer (some ⟨x, 0, none⟩)] 30 (0, 0)) :: l)
theorem sizes_bd {zs : List Int} (h : sizesOk zs = true) : zs.length ≤ 4 ∧ ∀ z ∈ zs, 3 ≤ z ∧ z ≤ 60 := by
  unfold sizesOk at h
  simp only [Bool.and_eq_true, decide_eq_true_eq, List.all_eq_true] at h
  refine ⟨h.1.2, fun z hz => ?_⟩
  have := h.2 z hz
  unfold zok at this
  simpa using this
theorem fresh_inv {zs : List Int} (h : sizesOk zs = true) : SInv (freshSpc (eSizes zs)) := by
  obtain ⟨h1, h2⟩ := sizes_bd h
  refine SInv.fresh (by simp [eSizes]; omega) fun e he => ?_
  obtain ⟨z, hz, rfl⟩ := List.mem_map.1 he
  have := h2 z hz
  exact ⟨rfl, by show z.toNat ≤ 4096; omega⟩
theorem fresh_fits {zs : List Int} (h : sizesOk zs = true) : Fits (freshSpc (eSizes zs)) (dSizes zs) [] := by
  obtain ⟨h1, h2⟩ := sizes_bd h
  have := fits_fresh (zs.map Int.toNat) fun n hn => by
    obtain ⟨z, hz, rfl⟩ := List.mem_map.1 hn
    have := h2 z hz
    omega
  rw [List.map_map, List.map_map] at this
  exact this

theorem push_some (Q : Pgs) (a : Int) (n : Nd) (k : Int) : (VMap.get k (pushPg Q a n)).isSome = (decide (k = a) || (VMap.get k Q).isSome) := by
  unfold pushPg
  rw [get_put]
  by_cases h : k = a
  · simp [h]
  · simp [h, bumpAll_some]
/-- What one more page that is held does. -/
theorem hold_step {X0 X : Spc} {hs : List Int} {Q : Pgs} {disks : List Dsk} {d kk : Nat} {y : Shelf} {secs : Dsk} {n : Nd} (h0 : SInv X0) (hst : Stk X0 hs Q X) (hf : Fits X disks Q) (ht : Takes X d kk y) (hsec : disks[d]? = some secs) (ok : n.ok = true) (nm : namedErr Q n = .nilIface) (hl : hs.length ≤ 100) (b : List Int) :
    0 ≤ lenV d kk ∧ lenV d kk < 32768 ∧ Stk X0 (lenV d kk :: hs) (pushPg Q (lenV d kk) n) (X.put d (y.took kk)) ∧ Fits (X.put d (y.took kk)) (disks.set d (secs.set kk b)) (pushPg Q (lenV d kk) n) ∧
    VMap.get (lenV d kk) (put1 Q (lenV d kk) n) = some ⟨n, 0, 0⟩ ∧ VMap.put (lenV d kk) (Pg.more ⟨n, 0, 0⟩ 1) (put1 Q (lenV d kk) n) = pushPg Q (lenV d kk) n ∧
    VMap.get (lenV d kk) (pushPg Q (lenV d kk) n) = some ⟨n, 1, 1⟩ ∧ ∀ c ∈ n.kids, 0 < holdsOf (pushPg Q (lenV d kk) n) c := by
  obtain ⟨hi, si⟩ := hst.inv h0
  have ha : VMap.get (lenV d kk) Q = none := hf.free d kk y ht.shelf ht.hi ht.free
  have hst2 := hst.push ht ha ok nm
  obtain ⟨hi2, _⟩ := hst2.inv h0
  have hd := (List.getElem?_eq_some_iff.1 ht.shelf).1
  have h8 := si.small
  have hb := hf.big d y ht.shelf
  have hh := ht.hi
  obtain ⟨p1, p2⟩ := put_hold hi.up ha nm
  have hg2 : VMap.get (lenV d kk) (pushPg Q (lenV d kk) n) = some ⟨n, 1, 1⟩ := by unfold pushPg; rw [get_put, if_pos rfl]
  refine ⟨by unfold lenV; omega, by unfold lenV; omega, hst2, (hf.put ht hsec n b).sub (fun k hk => by rw [push_some] at hk; rw [put1_some]; exact hk), p1, p2, hg2, fun c hc => ?_⟩
  have h1 := (hi2.pg _ _ hg2).2.2.2 c hc
  obtain ⟨g, hg⟩ := Option.isSome_iff_exists.1 h1
  have := (hi2.pg c g hg).1
  unfold holdsOf
  rw [hg]
  show 0 < g.holds
  omega

set_option maxHeartbeats 8000000 in
set_option maxRecDepth 100000 in
theorem law_holds {w : World} {l : List Say} (zs : List Int) (os : List OpV) {zv sv : Value} (h : Has w l) (ht : Tab l) (hz : Srcs l zv zs) (ho : OpsSrcs l sv os) : Calls Tryz.prog 5 #[zv, sv] w (YesPost l w) := by
  have hsv : ∃ a c, sv = .slice a os.length c := by obtain ⟨a, c, rfl, _⟩ := ho.rd w h; exact ⟨a, c, rfl⟩
  obtain ⟨oa, oc, rfl⟩ := hsv
  obtain ⟨za, zc, rfl, _⟩ := (hz w h).rd
  have HM := Lib.hid (law_made zs h hz)
  have Ho := Lib.hid ho
  have Ht := Lib.hid ht
  have HW := Lib.hid h
  clear h ho hz ht
  go_enter Tryz.func5, Tryz.ntmps5
  go_wp2_with fail
  refine HM.out.mono ?_
  rintro r w1 ⟨hK1, (⟨hno, ⟨b1, b2, b3, b4, rfl⟩, h1⟩ | ⟨hsz, bank, sp, p, x, rfl, h1⟩)⟩
  · have HK := Lib.hid (hK1.alloc (.cells #[.pointer b1, .pointer b2, .pointer b3, .pointer b4] 30))
    have hh1 := h1.alloc (.cells #[.pointer b1, .pointer b2, .pointer b3, .pointer b4] 30)
    have HA := Lib.hid (law_awake hh1 (Ht.out.app [_]))
    clear hh1 h1 hK1 HM
    go_wp2_with fail
    refine HA.out.mono ?_
    rintro r w2 ⟨rfl, hK2, h2⟩
    have HF : Hid (Kept w w2 ∧ Has w2 l) := ⟨HK.out.trans hK2, h2.tail⟩
    clear hK2 h2 HA
    go_wp2
    go_ret
    exact ⟨rfl, HF.out.1, HF.out.2⟩
  have h2 := (Has.trio_of h1).alloc (.cells #[.pointer (some ⟨bank, 0, none⟩), .pointer (some ⟨sp, 0, none⟩), .pointer (some ⟨p, 0, none⟩), .pointer (some ⟨x, 0, none⟩)] 30)
  have HK := Lib.hid (hK1.alloc (.cells #[.pointer (some ⟨bank, 0, none⟩), .pointer (some ⟨sp, 0, none⟩), .pointer (some ⟨p, 0, none⟩), .pointer (some ⟨x, 0, none⟩)] 30))
  have hX0 := fresh_inv hsz
  have hF0 := fresh_fits hsz
  simp only [ptrV]
  generalize freshSpc (eSizes zs) = X0 at *
  generalize dSizes zs = D0 at *
  have HX0 := Lib.hid hX0
  have HF0 := Lib.hid hF0
  have HH := Lib.hid h2
  clear h1 h2 hK1 HM hX0 hF0 hsz HW
  by_cases hlen : os.length ≤ 60
  · skip
    have hh2 := HH.out.pull 3
    clear HH
    have HH := Lib.hid hh2
    clear hh2
    have ah := HH.out.at (b := w1.heap.size) (o := (.cells #[.pointer (some ⟨bank, 0, none⟩), .pointer (some ⟨sp, 0, none⟩), .pointer (some ⟨p, 0, none⟩), .pointer (some ⟨x, 0, none⟩)] 30 (0, 0))) (by simp [trio, world4, pull, reord])
    have a1 : (w1.alloc (.cells #[.pointer (some ⟨bank, 0, none⟩), .pointer (some ⟨sp, 0, none⟩), .pointer (some ⟨p, 0, none⟩), .pointer (some ⟨x, 0, none⟩)] 30)).cell? ⟨w1.heap.size, 1, none⟩ = some (.pointer (some ⟨sp, 0, none⟩)) := cell_of ah 1 rfl
    have al : w1.heap.size < (w1.alloc (.cells #[.pointer (some ⟨bank, 0, none⟩), .pointer (some ⟨sp, 0, none⟩), .pointer (some ⟨p, 0, none⟩), .pointer (some ⟨x, 0, none⟩)] 30)).heap.size := World.block_lt_of_cell? _ _ a1
    clear ah
    have hh := HH.out
    have HC := Lib.hid (sp_FreeAll hh)
    clear hh
    go_wp2_with fail
    refine HC.out.mono ?_
    rintro r w2 ⟨rfl, hK, h1⟩
    clear a1 al HC
    have hk1 := HK.out.trans hK
    clear HK
    have HK := Lib.hid hk1
    clear hk1
    have hh1 := (h1.row_nil 3 1).reord [0, 2, 2]
    clear HH
    have HH := Lib.hid hh1
    clear hh1 h1 hK
    generalize hr5 : w1.heap.size = r5 at *
    clear hr5
    generalize hfree : X0.freeAll = free at *
    have Hfree := Lib.hid hfree
    clear hfree
    have HM0 : Hid (HolMid w l p bank sp x r5 X0 0 (.slice none 0 0) w2) := by
      refine ⟨[], [], X0, D0, none, 0, rfl, Nat.le_refl _, .nil, HF0.out, HK.out, ?_⟩
      exact HH.out
    clear HH HK HF0
    go_wp2
    go_loopg [35, 8] os.length (fun gk i hv wr => ∃ k : Nat, k ≤ os.length ∧ gk = os.length - k ∧ i = .int .i64 k ∧ Hid (HolMid w l p bank sp x r5 X0 k hv wr))
    case atStart => exact ⟨0, Nat.zero_le _, rfl, rfl, HM0⟩
    case round =>
      clear HM0
      obtain ⟨k, hk, rfl, rfl, HM⟩ := hrel
      obtain ⟨hs, Q, X, disks, ah, ch, rfl, hsk, hstk, hf, hK, hh⟩ := HM.out
      have Hstk := Lib.hid hstk
      have Hf := Lib.hid hf
      have HK := Lib.hid hK
      have HH := Lib.hid hh
      clear HM hstk hf hK
      by_cases hlt : k < os.length
      · obtain ⟨_, _, hso, hcells⟩ := Ho.out.rd wr hh.tail.tail.tail.tail.tail
        injection hso with hs1 hs2 hs3
        subst hs1
        clear hs2 hs3
        obtain ⟨g, o, hga, hat⟩ := hcells k hlt
        have hok := Ho.out.ok os[k] (List.getElem_mem hlt)
        generalize os[k] = op at hat hok
        clear hcells hh
        subst hga
        obtain ⟨kd, ad, nn, lv, ks, vs, ka, kc, va, vc⟩ := op
        obtain ⟨q0, q1, q2, q3, q4, q5⟩ := hat
        simp only at q0 q1 q2 q3 q4 q5
        have Hok := Lib.hid hok
        have hn0 := hok.2.2.2.2.1
        have hn1 := hok.2.2.2.2.2
        simp only at hn0 hn1
        clear hok
        have lq : g < wr.heap.size := World.block_lt_of_cell? _ _ q0
        have hh1 := HH.out.alloc (.cells #[.int .i64 kd, .int .i64 ad, .int .i64 nn, .int .i64 lv, .slice ka ks.length kc, .slice va vs.length vc] 51)
        have hk1 := HK.out.alloc (.cells #[.int .i64 kd, .int .i64 ad, .int .i64 nn, .int .i64 lv, .slice ka ks.length kc, .slice va vs.length vc] 51)
        clear HH HK
        have HH := Lib.hid hh1
        have HK := Lib.hid hk1
        clear hh1 hk1
        have hkl : (k : Int) < (os.length : Int) := by omega
        have hh := HH.out
        have HC := Lib.hid (law_of ⟨lv, ks, vs⟩ hh Hok.out.1.cons.cons.cons.cons.cons.cons Hok.out.2.1.cons.cons.cons.cons.cons.cons Hok.out.2.2.1 Hok.out.2.2.2.1)
        clear hh
        simp only [Nd.val] at HC
        go_wp2_with fail
        refine HC.out.mono ?_
        rintro r w3 ⟨kv, vv, rfl, hK, h1⟩
        clear q0 q1 q2 q3 q4 q5 lq HC
        obtain ⟨ak, ck, rfl, _⟩ := h1.ints_read (v := kv) (xs := ks) (.head _)
        obtain ⟨av, cv, rfl, _⟩ := h1.ints_read (v := vv) (xs := vs) (.tail _ (.head _))
        simp only [Nd.val]
        have hk1 := HK.out.trans hK
        clear HK
        have HK := Lib.hid hk1
        clear hk1
        have hh1 := h1
        clear HH
        have HH := Lib.hid hh1
        clear hh1
        clear h1 hK
        have hh1 := HH.out.alloc (.cells #[.int .i64 lv, .slice ak ks.length ck, .slice av vs.length cv] 35)
        have hk1 := HK.out.alloc (.cells #[.int .i64 lv, .slice ak ks.length ck, .slice av vs.length cv] 35)
        clear HH HK
        have HH := Lib.hid hh1
        have HK := Lib.hid hk1
        clear hh1 hk1
        have bh := HH.out.at (b := wr.heap.size) (o := (.cells #[.int .i64 kd, .int .i64 ad, .int .i64 nn, .int .i64 lv, .slice ka ks.length kc, .slice va vs.length vc] 51 (0, 0))) (by simp [trio, world4, pull, reord])
        have b0 : (w3.alloc (.cells #[.int .i64 lv, .slice ak ks.length ck, .slice av vs.length cv] 35)).cell? ⟨wr.heap.size, 0, none⟩ = some (.int .i64 kd) := cell_of bh 0 rfl
        have b2 : (w3.alloc (.cells #[.int .i64 lv, .slice ak ks.length ck, .slice av vs.length cv] 35)).cell? ⟨wr.heap.size, 2, none⟩ = some (.int .i64 nn) := cell_of bh 2 rfl
        have bl : wr.heap.size < (w3.alloc (.cells #[.int .i64 lv, .slice ak ks.length ck, .slice av vs.length cv] 35)).heap.size := World.block_lt_of_cell? _ _ b0
        clear bh
        have ah := HH.out.at (b := r5) (o := (.cells #[.pointer (some ⟨bank, 0, none⟩), .pointer (some ⟨sp, 0, none⟩), .pointer (some ⟨p, 0, none⟩), .pointer (some ⟨x, 0, none⟩)] 30 (0, 0))) (by simp [trio, world4, pull, reord])
        have a0 : (w3.alloc (.cells #[.int .i64 lv, .slice ak ks.length ck, .slice av vs.length cv] 35)).cell? ⟨r5, 0, none⟩ = some (.pointer (some ⟨bank, 0, none⟩)) := cell_of ah 0 rfl
        have a1 : (w3.alloc (.cells #[.int .i64 lv, .slice ak ks.length ck, .slice av vs.length cv] 35)).cell? ⟨r5, 1, none⟩ = some (.pointer (some ⟨sp, 0, none⟩)) := cell_of ah 1 rfl
        have a2 : (w3.alloc (.cells #[.int .i64 lv, .slice ak ks.length ck, .slice av vs.length cv] 35)).cell? ⟨r5, 2, none⟩ = some (.pointer (some ⟨p, 0, none⟩)) := cell_of ah 2 rfl
        have a3 : (w3.alloc (.cells #[.int .i64 lv, .slice ak ks.length ck, .slice av vs.length cv] 35)).cell? ⟨r5, 3, none⟩ = some (.pointer (some ⟨x, 0, none⟩)) := cell_of ah 3 rfl
        have al : r5 < (w3.alloc (.cells #[.int .i64 lv, .slice ak ks.length ck, .slice av vs.length cv] 35)).heap.size := World.block_lt_of_cell? _ _ a0
        clear ah
        go_upto_if 44 with fail
        generalize hr11 : w3.heap.size = r11 at *
        clear hr11
        go_cut [] (fun wx => Hid (HolNode w l p bank sp x r5 r11 k hs Q X disks ah ch wx))
        case first =>
          by_cases h12 : kd = 12
          · have h12b : (kd == 12) = true := by simpa using h12
            clear h12
            have hh := HH.out
            have HC := Lib.hid (law_above2 (hh.pull 5) (.pointer (some ⟨bank, 0, none⟩)) (.pointer (some ⟨sp, 0, none⟩)) (.pointer (some ⟨x, 0, none⟩)) nn hn0 hn1)
            clear hh
            simp only [ptrV] at HC
            go_wp2_with fail
            refine HC.out.mono ?_
            rintro r w4 ⟨n, ak2, ck2, av2, cv2, hl1, hl2, rfl, hK, h1⟩
            clear b0 b2 bl a0 a1 a2 a3 al HC
            have hh1 := h1
            rw [hl2] at hh1
            have Hn := Lib.hid hl2
            rw [hl2]
            clear hl2
            have hk1 := HK.out.trans hK
            clear HK
            have HK := Lib.hid hk1
            clear hk1
            clear HH
            have HH := Lib.hid hh1
            clear hh1 h1 hK
            generalize hnk : n.keys.length = m at *
            have Hm := Lib.hid hnk
            clear hnk
            have hh := HH.out
            have HC := Lib.hid (law_of n hh (Srcs.of_ints (.head _)) (Srcs.of_ints (.tail _ (.head _))) (by have := Hm.out; omega) (by have := Hm.out; have := Hn.out; omega))
            clear hh
            simp only [Nd.val] at HC
            go_wp2_with fail
            refine HC.out.mono ?_
            rintro r w5 ⟨kv, vv, rfl, hK, h1⟩
            clear HC
            obtain ⟨ak3, ck3, rfl, _⟩ := h1.ints_read (v := kv) (xs := n.keys) (.head _)
            obtain ⟨av3, cv3, rfl, _⟩ := h1.ints_read (v := vv) (xs := n.vals) (.tail _ (.head _))
            simp only [Nd.val]
            have hk1 := HK.out.trans hK
            clear HK
            have HK := Lib.hid hk1
            clear hk1
            clear HH
            have HH := Lib.hid h1
            clear h1 hK
            have ch := HH.out.at (b := r11) (o := (.cells #[.int .i64 lv, .slice ak ks.length ck, .slice av vs.length cv] 35 (0, 0))) (by simp [trio, world4, pull, reord])
            have c0 : w5.cell? ⟨r11, 0, none⟩ = some (.int .i64 lv) := cell_of ch 0 rfl
            have c1 : w5.cell? ⟨r11, 1, none⟩ = some (.slice ak ks.length ck) := cell_of ch 1 rfl
            have c2 : w5.cell? ⟨r11, 2, none⟩ = some (.slice av vs.length cv) := cell_of ch 2 rfl
            have cf0 := thaw_of ch 0
            have cf1 := thaw_of ch 1
            have cf2 := thaw_of ch 2
            have cl : r11 < w5.heap.size := World.block_lt_of_cell? _ _ c0
            clear ch
            have hs3 := (((HH.out.pull 5).setCell 0 (.int .i64 n.level)).setCell 1 (.slice ak3 n.keys.length ck3)).setCell 2 (.slice av3 n.vals.length cv3)
            have HZ : Hid (HolNode w l p bank sp x r5 r11 k hs Q X disks ah ch (((w5.setCell ⟨r11, 0, none⟩ (.int .i64 n.level)).setCell ⟨r11, 1, none⟩ (.slice ak3 n.keys.length ck3)).setCell ⟨r11, 2, none⟩ (.slice av3 n.vals.length cv3))) :=
              ⟨n, ak3, ck3, av3, cv3, ((HK.out.setCell _ _).setCell _ _).setCell _ _, (hs3.reord [3, 3, 4, 4, 4, 0, 0, 0, 1]).tail.tail.tail.tail.tail⟩
            clear hs3 HH HK
            go_wp2
            go_meet
            exact HZ
          · have h12b : (kd == 12) = false := by simpa using h12
            clear h12
            have HZ : Hid (HolNode w l p bank sp x r5 r11 k hs Q X disks ah ch (w3.alloc (.cells #[.int .i64 lv, .slice ak ks.length ck, .slice av vs.length cv] 35))) := ⟨⟨lv, ks, vs⟩, ak, ck, av, cv, HK.out, (HH.out.reord [3]).tail⟩
            go_wp2
            go_meet
            exact HZ
        case rest =>
          clear HH HK b0 b2 bl a0 a1 a2 a3 al
          obtain ⟨n, ak, ck, av, cv, hK, hh⟩ := hcut.out
          have HK := Lib.hid hK
          have HH := Lib.hid hh
          clear hK hh hcut
          have ch := HH.out.at (b := r11) (o := (.cells #[.int .i64 n.level, .slice ak n.keys.length ck, .slice av n.vals.length cv] 35 (0, 0))) (by simp [trio, world4, pull, reord])
          have c0 : wc.cell? ⟨r11, 0, none⟩ = some (.int .i64 n.level) := cell_of ch 0 rfl
          have c1 : wc.cell? ⟨r11, 1, none⟩ = some (.slice ak n.keys.length ck) := cell_of ch 1 rfl
          have c2 : wc.cell? ⟨r11, 2, none⟩ = some (.slice av n.vals.length cv) := cell_of ch 2 rfl
          have cl : r11 < wc.heap.size := World.block_lt_of_cell? _ _ c0
          clear ch
          have ah := HH.out.at (b := r5) (o := (.cells #[.pointer (some ⟨bank, 0, none⟩), .pointer (some ⟨sp, 0, none⟩), .pointer (some ⟨p, 0, none⟩), .pointer (some ⟨x, 0, none⟩)] 30 (0, 0))) (by simp [trio, world4, pull, reord])
          have a2 : wc.cell? ⟨r5, 2, none⟩ = some (.pointer (some ⟨p, 0, none⟩)) := cell_of ah 2 rfl
          have al : r5 < wc.heap.size := World.block_lt_of_cell? _ _ a2
          clear ah
          by_cases h50 : n.keys.length ≤ 50
          · skip
            have h50i : (n.keys.length : Int) ≤ 50 := by omega
            have hh := HH.out
            have HC := Lib.hid (trio_Put n (kv := .slice ak n.keys.length ck) (vv := .slice av n.vals.length cv) (show Has wc (trio p bank sp k Q disks X (pts r11 (.cells #[.int .i64 n.level, .slice ak n.keys.length ck, .slice av n.vals.length cv] 35 (0, 0)) :: intsS (.slice ak n.keys.length ck) n.keys :: intsS (.slice av n.vals.length cv) n.vals :: intsS (.slice ah hs.length ch) hs.reverse :: pts r5 (.cells #[.pointer (some ⟨bank, 0, none⟩), .pointer (some ⟨sp, 0, none⟩), .pointer (some ⟨p, 0, none⟩), .pointer (some ⟨x, 0, none⟩)] 30 (0, 0)) :: l)) from hh.reord [4, 4, 4]) (Ht.out.app [_, _, _, _, _]) (.tail _ (.head _)) (.tail _ (.tail _ (.head _))) Hf.out (Hstk.out.holds HX0.out (by omega)) (by omega))
            clear hh
            simp only [Nd.val] at HC
            go_wp2_with fail
            refine HC.out.mono ?_
            rintro r w7 ⟨hK, hpost⟩
            clear c0 c1 c2 cl a2 al HC
            clear HH
            have hk1 := HK.out.trans hK
            clear HK
            have HK := Lib.hid hk1
            clear hk1
            clear hK
            rcases hpost with ⟨_, rfl, h3⟩ | ⟨_, hne, rfl, h3⟩ | ⟨_, _, _, rfl, h3⟩ | ⟨d, kk, y, secs, hok1, hnm, htk, hsec, rfl, h3⟩
            · skip
              have HM2 : Hid (HolMid w l p bank sp x r5 X0 (k + 1) (.slice ah hs.length ch) w7) := by
                refine ⟨hs, Q, X, disks, ah, ch, rfl, by omega, Hstk.out, Hf.out, HK.out, ?_⟩
                exact ((((show Has w7 (stS p bank sp Q :: bankS k bank disks :: spaceS sp X :: pts r11 (.cells #[.int .i64 n.level, .slice ak n.keys.length ck, .slice av n.vals.length cv] 35 (0, 0)) :: intsS (.slice ak n.keys.length ck) n.keys :: intsS (.slice av n.vals.length cv) n.vals :: intsS (.slice ah hs.length ch) hs.reverse :: pts r5 (.cells #[.pointer (some ⟨bank, 0, none⟩), .pointer (some ⟨sp, 0, none⟩), .pointer (some ⟨p, 0, none⟩), .pointer (some ⟨x, 0, none⟩)] 30 (0, 0)) :: l) from h3).pull 1).bank_more (M := k + 1) (by omega)).reord [3, 3, 3, 3, 1, 0, 0]).tail.tail.tail
              clear h3 Hstk Hf HK Hok
              simp only [errV]
              go_wp2
              go_roundg (os.length - (k + 1))
              case measure => omega
              case rel => exact ⟨k + 1, by omega, rfl, by go_num, HM2⟩
            · rcases namedErr_cases Q n hne with e | e
              all_goals
                rw [e]
                clear e hne
                have HM2 : Hid (HolMid w l p bank sp x r5 X0 (k + 1) (.slice ah hs.length ch) w7) := by
                  refine ⟨hs, Q, X, disks, ah, ch, rfl, by omega, Hstk.out, Hf.out, HK.out, ?_⟩
                  exact ((((show Has w7 (stS p bank sp Q :: bankS k bank disks :: spaceS sp X :: pts r11 (.cells #[.int .i64 n.level, .slice ak n.keys.length ck, .slice av n.vals.length cv] 35 (0, 0)) :: intsS (.slice ak n.keys.length ck) n.keys :: intsS (.slice av n.vals.length cv) n.vals :: intsS (.slice ah hs.length ch) hs.reverse :: pts r5 (.cells #[.pointer (some ⟨bank, 0, none⟩), .pointer (some ⟨sp, 0, none⟩), .pointer (some ⟨p, 0, none⟩), .pointer (some ⟨x, 0, none⟩)] 30 (0, 0)) :: l) from h3).pull 1).bank_more (M := k + 1) (by omega)).reord [3, 3, 3, 3, 1, 0, 0]).tail.tail.tail
                clear h3 Hstk Hf HK Hok
                simp only [errV]
                go_wp2
                go_roundg (os.length - (k + 1))
                case measure => omega
                case rel => exact ⟨k + 1, by omega, rfl, by go_num, HM2⟩
            · skip
              have HM2 : Hid (HolMid w l p bank sp x r5 X0 (k + 1) (.slice ah hs.length ch) w7) := by
                refine ⟨hs, Q, X, disks, ah, ch, rfl, by omega, Hstk.out, Hf.out, HK.out, ?_⟩
                exact ((((show Has w7 (stS p bank sp Q :: bankS k bank disks :: spaceS sp X :: pts r11 (.cells #[.int .i64 n.level, .slice ak n.keys.length ck, .slice av n.vals.length cv] 35 (0, 0)) :: intsS (.slice ak n.keys.length ck) n.keys :: intsS (.slice av n.vals.length cv) n.vals :: intsS (.slice ah hs.length ch) hs.reverse :: pts r5 (.cells #[.pointer (some ⟨bank, 0, none⟩), .pointer (some ⟨sp, 0, none⟩), .pointer (some ⟨p, 0, none⟩), .pointer (some ⟨x, 0, none⟩)] 30 (0, 0)) :: l) from h3).pull 1).bank_more (M := k + 1) (by omega)).reord [3, 3, 3, 3, 1, 0, 0]).tail.tail.tail
              clear h3 Hstk Hf HK Hok
              simp only [errV]
              go_wp2
              go_roundg (os.length - (k + 1))
              case measure => omega
              case rel => exact ⟨k + 1, by omega, rfl, by go_num, HM2⟩
            · obtain ⟨A0, A1, hstk2, hf2, hg1, hpp, hg2, hkid⟩ := hold_step HX0.out Hstk.out Hf.out htk hsec hok1 hnm (by omega) (frameOf 2 (nodeBytes n))
              obtain ⟨lv0, lv20, hkv, k1, k7⟩ := ok_lens hok1
              have hvb := ok_vals hok1
              have h4 : Has w7 (stS p bank sp (put1 Q (lenV d kk) n) :: bankS (k + 1) bank (disks.set d (secs.set kk (frameOf 2 (nodeBytes n)))) :: spaceS sp (X.put d (y.took kk)) :: pts r11 (.cells #[.int .i64 n.level, .slice ak n.keys.length ck, .slice av n.vals.length cv] 35 (0, 0)) :: intsS (.slice ak n.keys.length ck) n.keys :: intsS (.slice av n.vals.length cv) n.vals :: intsS (.slice ah hs.length ch) hs.reverse :: pts r5 (.cells #[.pointer (some ⟨bank, 0, none⟩), .pointer (some ⟨sp, 0, none⟩), .pointer (some ⟨p, 0, none⟩), .pointer (some ⟨x, 0, none⟩)] 30 (0, 0)) :: l) := h3
              generalize lenV d kk = A at *
              generalize X.put d (y.took kk) = X2 at *
              generalize disks.set d (secs.set kk (frameOf 2 (nodeBytes n))) = D2 at *
              generalize hq1 : put1 Q A n = Q1 at *
              generalize hq2 : pushPg Q A n = Q2 at *
              have Hstk2 := Lib.hid hstk2
              have Hf2 := Lib.hid hf2
              have Hg1 := Lib.hid hg1
              have Hpp := Lib.hid hpp
              have Hg2 := Lib.hid hg2
              have Hkid := Lib.hid hkid
              have Hvb := Lib.hid hvb
              have HH := Lib.hid h4
              clear h3 h4 hstk2 hf2 hg1 hpp hg2 hkid hvb hq1 hq2 htk hsec hok1 hnm Hstk Hf Hok
              have ch := HH.out.at (b := r11) (o := (.cells #[.int .i64 n.level, .slice ak n.keys.length ck, .slice av n.vals.length cv] 35 (0, 0))) (by simp [trio, world4, pull, reord])
              have c0 : w7.cell? ⟨r11, 0, none⟩ = some (.int .i64 n.level) := cell_of ch 0 rfl
              have c2 : w7.cell? ⟨r11, 2, none⟩ = some (.slice av n.vals.length cv) := cell_of ch 2 rfl
              have cl : r11 < w7.heap.size := World.block_lt_of_cell? _ _ c0
              clear ch
              have ah := HH.out.at (b := r5) (o := (.cells #[.pointer (some ⟨bank, 0, none⟩), .pointer (some ⟨sp, 0, none⟩), .pointer (some ⟨p, 0, none⟩), .pointer (some ⟨x, 0, none⟩)] 30 (0, 0))) (by simp [trio, world4, pull, reord])
              have a2 : w7.cell? ⟨r5, 2, none⟩ = some (.pointer (some ⟨p, 0, none⟩)) := cell_of ah 2 rfl
              have al : r5 < w7.heap.size := World.block_lt_of_cell? _ _ a2
              clear ah
              have hh := HH.out
              have HC := Lib.hid (st_Hold hh A (by omega) (by omega) (by intro g hg; rw [Hg1.out] at hg; obtain rfl := Option.some.inj hg; exact ⟨⟨show (-100000000 : Int) ≤ 0 by decide, show (0 : Int) ≤ 100000000 by decide⟩, show (-100000000 : Int) ≤ 0 by decide, show (0 : Int) ≤ 100000000 by decide⟩))
              clear hh
              go_wp2_with fail
              refine HC.out.mono ?_
              rintro r w8 ⟨hK, (⟨hn, _⟩ | ⟨g, hg, rfl, h5⟩)⟩
              clear c0 c2 cl a2 al HC
              · have := Hg1.out; rw [hn] at this; cases this
              rw [Hg1.out] at hg
              obtain rfl := Option.some.inj hg
              rw [Hpp.out] at h5
              clear hg HH Hg1 Hpp
              have hk1 := HK.out.trans hK
              clear HK
              have HK := Lib.hid hk1
              clear hk1
              have h6 := h5.reord [0, 1]
              have HH := Lib.hid h6
              clear h5 h6 hK
              have ch := HH.out.at (b := r11) (o := (.cells #[.int .i64 n.level, .slice ak n.keys.length ck, .slice av n.vals.length cv] 35 (0, 0))) (by simp [trio, world4, pull, reord])
              have c0 : w8.cell? ⟨r11, 0, none⟩ = some (.int .i64 n.level) := cell_of ch 0 rfl
              have c2 : w8.cell? ⟨r11, 2, none⟩ = some (.slice av n.vals.length cv) := cell_of ch 2 rfl
              have cl : r11 < w8.heap.size := World.block_lt_of_cell? _ _ c0
              clear ch
              have ah := HH.out.at (b := r5) (o := (.cells #[.pointer (some ⟨bank, 0, none⟩), .pointer (some ⟨sp, 0, none⟩), .pointer (some ⟨p, 0, none⟩), .pointer (some ⟨x, 0, none⟩)] 30 (0, 0))) (by simp [trio, world4, pull, reord])
              have a2 : w8.cell? ⟨r5, 2, none⟩ = some (.pointer (some ⟨p, 0, none⟩)) := cell_of ah 2 rfl
              have al : r5 < w8.heap.size := World.block_lt_of_cell? _ _ a2
              clear ah
              have Hho : Hid (holdsOf Q2 A = 1) := by show holdsOf Q2 A = 1; unfold holdsOf; rw [Hg2.out]; rfl
              have hh := HH.out
              have HC := Lib.hid (st_Scrap (d := 0) (Q' := []) (X' := X2) hh A (by omega) (by omega) (fun h => absurd h (by rw [Hho.out]; decide)))
              clear hh
              go_wp2_with fail
              refine HC.out.mono ?_
              rintro r w9 ⟨hK, (⟨hn, _⟩ | ⟨_, rfl, h5⟩ | ⟨_, hn, _⟩)⟩
              clear c0 c2 cl a2 al HC
              · rw [Hg2.out] at hn; cases hn
              rotate_left
              · have := Hho.out; omega
              have hk1 := HK.out.trans hK
              clear HK
              have HK := Lib.hid hk1
              clear hk1
              clear HH
              have HH := Lib.hid h5
              clear h5 hK
              have hh := HH.out
              have HC := Lib.hid (law_is (some 100) 100 w9 (by decide) (by decide))
              clear hh
              simp only [errE, isE] at HC
              simp only [errV] at HC ⊢
              go_wp2_with fail
              refine HC.out.mono ?_
              rintro r w10 ⟨rfl, rfl⟩
              clear HC
              have hh1 : Has w9 (stS p bank sp Q2 :: spaceS sp X2 :: bankS (k + 1) bank D2 :: pts r11 (.cells #[.int .i64 n.level, .slice ak n.keys.length ck, .slice av n.vals.length cv] 35 (0, 0)) :: intsS (.slice ak n.keys.length ck) n.keys :: intsS (.slice av n.vals.length cv) n.vals :: intsS (.slice ah hs.length ch) hs.reverse :: pts r5 (.cells #[.pointer (some ⟨bank, 0, none⟩), .pointer (some ⟨sp, 0, none⟩), .pointer (some ⟨p, 0, none⟩), .pointer (some ⟨x, 0, none⟩)] 30 (0, 0)) :: l) := HH.out
              clear HH
              have HH := Lib.hid hh1
              clear hh1
              have ch := HH.out.at (b := r11) (o := (.cells #[.int .i64 n.level, .slice ak n.keys.length ck, .slice av n.vals.length cv] 35 (0, 0))) (by simp [trio, world4, pull, reord])
              have c0 : w9.cell? ⟨r11, 0, none⟩ = some (.int .i64 n.level) := cell_of ch 0 rfl
              have c2 : w9.cell? ⟨r11, 2, none⟩ = some (.slice av n.vals.length cv) := cell_of ch 2 rfl
              have cl : r11 < w9.heap.size := World.block_lt_of_cell? _ _ c0
              clear ch
              generalize hnv : n.vals.length = nv at *
              have Hnv := Lib.hid hnv
              clear hnv
              have hnv7 : (nv : Int) ≤ 7 := by omega
              have HM1 : Hid (Kept w w9 ∧ Has w9 (stS p bank sp Q2 :: spaceS sp X2 :: bankS (k + 1) bank D2 :: pts r11 (.cells #[.int .i64 n.level, .slice ak n.keys.length ck, .slice av nv cv] 35 (0, 0)) :: intsS (.slice ak n.keys.length ck) n.keys :: intsS (.slice av nv cv) n.vals :: intsS (.slice ah hs.length ch) hs.reverse :: pts r5 (.cells #[.pointer (some ⟨bank, 0, none⟩), .pointer (some ⟨sp, 0, none⟩), .pointer (some ⟨p, 0, none⟩), .pointer (some ⟨x, 0, none⟩)] 30 (0, 0)) :: l)) := ⟨HK.out, HH.out⟩
              clear HH HK
              go_wp2
              clear c0 c2 cl
              go_loopg [80] nv (fun gk i wq => ∃ j : Nat, j ≤ nv ∧ gk = nv - j ∧ i = .int .i64 j ∧ Hid (Kept w wq ∧ Has wq (stS p bank sp Q2 :: spaceS sp X2 :: bankS (k + 1) bank D2 :: pts r11 (.cells #[.int .i64 n.level, .slice ak n.keys.length ck, .slice av nv cv] 35 (0, 0)) :: intsS (.slice ak n.keys.length ck) n.keys :: intsS (.slice av nv cv) n.vals :: intsS (.slice ah hs.length ch) hs.reverse :: pts r5 (.cells #[.pointer (some ⟨bank, 0, none⟩), .pointer (some ⟨sp, 0, none⟩), .pointer (some ⟨p, 0, none⟩), .pointer (some ⟨x, 0, none⟩)] 30 (0, 0)) :: l)))
              case atStart => exact ⟨0, Nat.zero_le _, rfl, rfl, HM1⟩
              case round =>
                clear HM1
                obtain ⟨j, hj, rfl, rfl, HM⟩ := hrel
                obtain ⟨hK, hh⟩ := HM.out
                have HK := Lib.hid hK
                have HH := Lib.hid hh
                clear hK HM
                by_cases hjlt : j < nv
                · skip
                  obtain ⟨a', c', e', _, hr⟩ := hh.ints_read (v := .slice av nv cv) (xs := n.vals) (by simp)
                  injection e' with e1 e2 e3
                  subst e1
                  clear e2 e3
                  have hjl : j < n.vals.length := by have := Hnv.out; omega
                  obtain ⟨gv, hav, hcell, _⟩ := hr j hjl
                  subst hav
                  have hcm : n.vals[j] ∈ n.vals := List.getElem_mem _
                  have hcb := Hvb.out _ hcm
                  have hck : 0 < n.level → 0 < holdsOf Q2 n.vals[j] := fun h => Hkid.out _ (by unfold Nd.kids; rw [if_neg (by omega)]; exact hcm)
                  generalize n.vals[j] = c1 at hcell hcb hck
                  have Hck := Lib.hid hck
                  clear hck hcm hr hh
                  have hjb : (j : Int) < (nv : Int) := by omega
                  have hgl := World.block_lt_of_cell? _ _ hcell
                  have ch := HH.out.at (b := r11) (o := (.cells #[.int .i64 n.level, .slice ak n.keys.length ck, .slice (some ⟨gv, 0, none⟩) nv cv] 35 (0, 0))) (by simp [trio, world4, pull, reord])
                  have c0 : wr.cell? ⟨r11, 0, none⟩ = some (.int .i64 n.level) := cell_of ch 0 rfl
                  have cl : r11 < wr.heap.size := World.block_lt_of_cell? _ _ c0
                  clear ch
                  have ah := HH.out.at (b := r5) (o := (.cells #[.pointer (some ⟨bank, 0, none⟩), .pointer (some ⟨sp, 0, none⟩), .pointer (some ⟨p, 0, none⟩), .pointer (some ⟨x, 0, none⟩)] 30 (0, 0))) (by simp [trio, world4, pull, reord])
                  have a2 : wr.cell? ⟨r5, 2, none⟩ = some (.pointer (some ⟨p, 0, none⟩)) := cell_of ah 2 rfl
                  have al : r5 < wr.heap.size := World.block_lt_of_cell? _ _ a2
                  clear ah
                  by_cases hl : 0 < n.level
                  · have hlB : decide (0 < n.level) = true := by simpa using hl
                    have hh := HH.out
                    have HC := Lib.hid (st_Scrap (d := 0) (Q' := []) (X' := X2) hh c1 (by omega) (by omega) (fun h => absurd h (by have := Hck.out hl; omega)))
                    clear hh
                    go_wp2_with fail
                    refine HC.out.mono ?_
                    rintro r w10 ⟨hK, (⟨hn, _⟩ | ⟨_, rfl, h5⟩ | ⟨_, hn, _⟩)⟩
                    clear hcell hgl c0 cl a2 al HC
                    · have h0 := Hck.out hl; unfold holdsOf at h0; rw [hn] at h0; exact absurd h0 (by decide)
                    rotate_left
                    · have := Hck.out hl; omega
                    have hk1 := HK.out.trans hK
                    clear HK
                    have HK := Lib.hid hk1
                    clear hk1
                    clear HH
                    have HH := Lib.hid h5
                    clear h5 hK
                    have hh := HH.out
                    have HC := Lib.hid (law_is (some 100) 100 w10 (by decide) (by decide))
                    clear hh
                    simp only [errE, isE] at HC
                    simp only [errV] at HC ⊢
                    go_wp2_with fail
                    refine HC.out.mono ?_
                    rintro r w11 ⟨rfl, rfl⟩
                    clear HC
                    have HM2 : Hid (Kept w w10 ∧ Has w10 (stS p bank sp Q2 :: spaceS sp X2 :: bankS (k + 1) bank D2 :: pts r11 (.cells #[.int .i64 n.level, .slice ak n.keys.length ck, .slice (some ⟨gv, 0, none⟩) nv cv] 35 (0, 0)) :: intsS (.slice ak n.keys.length ck) n.keys :: intsS (.slice (some ⟨gv, 0, none⟩) nv cv) n.vals :: intsS (.slice ah hs.length ch) hs.reverse :: pts r5 (.cells #[.pointer (some ⟨bank, 0, none⟩), .pointer (some ⟨sp, 0, none⟩), .pointer (some ⟨p, 0, none⟩), .pointer (some ⟨x, 0, none⟩)] 30 (0, 0)) :: l)) := ⟨HK.out, HH.out⟩
                    clear HK HH
                    go_wp2
                    go_roundg (nv - (j + 1))
                    case measure => omega
                    case rel => exact ⟨j + 1, by omega, rfl, by go_num, HM2⟩
                  · have hlB : decide (0 < n.level) = false := by simpa using hl
                    have hle : n.level ≤ 0 := by omega
                    have HM2 : Hid (Kept w wr ∧ Has wr (stS p bank sp Q2 :: spaceS sp X2 :: bankS (k + 1) bank D2 :: pts r11 (.cells #[.int .i64 n.level, .slice ak n.keys.length ck, .slice (some ⟨gv, 0, none⟩) nv cv] 35 (0, 0)) :: intsS (.slice ak n.keys.length ck) n.keys :: intsS (.slice (some ⟨gv, 0, none⟩) nv cv) n.vals :: intsS (.slice ah hs.length ch) hs.reverse :: pts r5 (.cells #[.pointer (some ⟨bank, 0, none⟩), .pointer (some ⟨sp, 0, none⟩), .pointer (some ⟨p, 0, none⟩), .pointer (some ⟨x, 0, none⟩)] 30 (0, 0)) :: l)) := ⟨HK.out, HH.out⟩
                    clear HK HH
                    go_wp2
                    go_roundg (nv - (j + 1))
                    case measure => omega
                    case rel => exact ⟨j + 1, by omega, rfl, by go_num, HM2⟩
                · have hje : j = nv := by omega
                  subst hje
                  have hx := (HH.out.alloc (.cells #[.int .i64 A] 3)).pull 7
                  have HX : Hid (Has (wr.alloc (.cells #[.int .i64 A] 3)) (intsS (.slice ah hs.length ch) hs.reverse :: pts wr.heap.size (.cells #[.int .i64 A] 3 (0, 0)) :: stS p bank sp Q2 :: spaceS sp X2 :: bankS (k + 1) bank D2 :: pts r11 (.cells #[.int .i64 n.level, .slice ak n.keys.length ck, .slice av j cv] 35 (0, 0)) :: intsS (.slice ak n.keys.length ck) n.keys :: intsS (.slice av j cv) n.vals :: pts r5 (.cells #[.pointer (some ⟨bank, 0, none⟩), .pointer (some ⟨sp, 0, none⟩), .pointer (some ⟨p, 0, none⟩), .pointer (some ⟨x, 0, none⟩)] 30 (0, 0)) :: l)) := hx
                  have HKa : Hid (Kept w (wr.alloc (.cells #[.int .i64 A] 3))) := HK.out.alloc _
                  clear hx HH HK hh
                  go_wp2_with (at_builtin; refine wpList_append_int rfl (.tmp 96) (.tmp 98) rfl rfl rfl HX.out (.head _) (by simp) (by simp; omega) ?_; intro p' c' wz hKz hz; have HKz := Lib.hid hKz; have Hz := Lib.hid hz; clear hKz hz)
                  have HM2 : Hid (HolMid w l p bank sp x r5 X0 (k + 1) (.slice p' (hs.length + 1) c') wz) := by
                    refine ⟨A :: hs, Q2, X2, D2, p', c', rfl, by simp; omega, Hstk2.out, Hf2.out, HKa.out.trans HKz.out, ?_⟩
                    rw [List.reverse_cons]
                    exact (Hz.out.reord [1, 4, 4, 4, 0, 0, 1]).tail.tail.tail.tail
                  clear HX HKa HKz Hz
                  go_roundg (os.length - (k + 1))
                  case measure => omega
                  case rel => exact ⟨k + 1, by omega, rfl, by go_num, HM2⟩
          · have h50i : (50 : Int) < (n.keys.length : Int) := by omega
            have hh := HH.out
            have HC := Lib.hid (law_awake hh (Ht.out.app [_, _, _, _, _, _, _, _]))
            clear hh
            go_wp2_with fail
            refine HC.out.mono ?_
            rintro r w21 ⟨rfl, hK, h1⟩
            clear c0 c1 c2 cl a2 al HC
            have HF : Hid (Kept w w21 ∧ Has w21 l) := ⟨HK.out.trans hK, h1.tail.tail.tail.tail.tail.tail.tail.tail⟩
            clear hK h1 HH HK
            go_wp2
            go_ret
            exact ⟨rfl, HF.out.1, HF.out.2⟩
      · have hke : k = os.length := by omega
        subst hke
        clear hlt hk
        have hsl : hs.length ≤ 60 := by omega
        have HM3 : Hid (LastMid w l p bank sp x r5 os.length X0 hs (.slice ah hs.length ch) hs.length wr) := ⟨hs, Q, X, disks, rfl, by simp, Hstk.out, HK.out, hh⟩
        clear hh HH HK Hstk Hf hsk
        generalize hm : hs.length = m at *
        have Hm := Lib.hid hm
        clear hm
        have hslI : (m : Int) ≤ 60 := by omega
        go_wp2
        go_loopg [16] m (fun gk i wr => ∃ n : Nat, n ≤ m ∧ gk = n ∧ i = .int .i64 ((n : Int) - 1) ∧ Hid (LastMid w l p bank sp x r5 os.length X0 hs (.slice ah m ch) n wr))
        case atStart => exact ⟨m, Nat.le_refl _, rfl, rfl, HM3⟩
        case round =>
          clear HM3
          obtain ⟨n, hn, hgk, rfl, HM⟩ := hrel
          obtain rfl := hgk.symm
          obtain ⟨hs1, Q1, X1, D1, hl1, hdr, hst1, hK, hh⟩ := HM.out
          clear HM
          by_cases hn0 : 0 < n
          · obtain ⟨q, rfl⟩ : ∃ q, n = q + 1 := ⟨n - 1, by omega⟩
            rw [show (((q + 1 : Nat) : Int) - 1) = (q : Int) by omega]
            clear hn0
            obtain ⟨a, hs2, rfl⟩ : ∃ a hs2, hs1 = a :: hs2 := by cases hs1 with
              | nil => simp at hl1
              | cons a hs2 => exact ⟨a, hs2, rfl⟩
            have hl2 : hs2.length = q := by simpa using hl1
            rw [Hm.out] at hdr
            obtain ⟨nd, Q2, X2, hst2, hga, hgf⟩ := hst1.pop HX0.out (by omega)
            have hra : (hs.reverse)[q]? = some a := by
              have hmm := Hm.out
              rw [List.getElem?_reverse (by omega)]
              have : (hs.drop (m - (q + 1)))[0]? = some a := by rw [hdr]; rfl
              rw [List.getElem?_drop] at this
              rw [show hs.length - 1 - q = m - (q + 1) + 0 by omega]; exact this
            have hdr2 : hs.drop (m - q) = hs2 := by
              have := congrArg List.tail hdr
              rw [List.tail_drop] at this
              rw [show m - q = m - (q + 1) + 1 by omega]; exact this
            have hba : 0 ≤ a ∧ a < 32768 := by
              obtain ⟨xx, ok, _⟩ := hh.tail.st_open
              exact ok.bd _ (get_mem hga)
            obtain ⟨_, _, eah, _, hrd⟩ := hh.ints_read (v := .slice ah m ch) (xs := hs.reverse) (.head _)
            have hql : q < hs.reverse.length := (List.getElem?_eq_some_iff.1 hra).1
            obtain ⟨gh, eah2, hx1, hx2⟩ := hrd q hql
            injection eah with ea1 ea2 ea3
            subst ea1
            clear ea2 ea3
            subst eah2
            have hcel := hh.ints_at (n := m) (c := ch) (xs := hs.reverse) (.head _) hra
            have hw5 := hh.at (b := r5) (o := (.cells #[.pointer (some ⟨bank, 0, none⟩), .pointer (some ⟨sp, 0, none⟩), .pointer (some ⟨p, 0, none⟩), .pointer (some ⟨x, 0, none⟩)] 30 (0, 0))) (by simp)
            have a2 : wr.cell? ⟨r5, 2, none⟩ = some (.pointer (some ⟨p, 0, none⟩)) := cell_of hw5 2 rfl
            have hqm : (q : Int) < (m : Int) := by omega
            have HD : Hid (∀ w' l', Has w' (stS p bank sp Q1 :: spaceS sp X1 :: l') → Calls Tryz.prog 28 #[.pointer (some ⟨p, 0, none⟩), .int .i64 a] w' (DropPost p bank sp a Q1 X1 Q2 X2 l' w')) :=
              fun w' l' h' => st_Drop (d := 0) h' a (by omega) (by omega) (by intro g hg; rw [hga] at hg; obtain rfl := Option.some.inj hg; exact ⟨⟨show (-100000000 : Int) ≤ 1 by decide, show (1 : Int) ≤ 100000000 by decide⟩, show (-100000000 : Int) ≤ 1 by decide, show (1 : Int) ≤ 100000000 by decide⟩) (fun _ _ => hgf)
            have Hga := Lib.hid hga
            have HK := Lib.hid hK
            have HH := Lib.hid hh
            have Hst2 := Lib.hid hst2
            have Hdr2 := Lib.hid hdr2
            have Hl2 := Lib.hid hl2
            clear hx1 hx2 hh hK hst1 hst2 hga hgf hra hdr hdr2 hl1 hl2 hrd hql hw5
            go_wp2
            have hh := HH.out
            clear HH
            obtain ⟨FA, HFA⟩ : ∃ FA : List (Nat × Addr × Value), Hid (FA = [(1, ⟨r5, 2, none⟩, .pointer (some ⟨p, 0, none⟩)), (5, ⟨gh, q, none⟩, .int .i64 a)]) := ⟨_, rfl⟩
            have fa1 : ∀ n : In (factsOf FA 1), n.w.cell? ⟨r5, 2, none⟩ = some (.pointer (some ⟨p, 0, none⟩)) := fun n => factsOf.cell (by rw [HFA.out]; simp) n
            have fa5 : ∀ n : In (factsOf FA 5), n.w.cell? ⟨gh, q, none⟩ = some (.int .i64 a) := fun n => factsOf.cell (by rw [HFA.out]; simp) n
            have hFA : ∀ p ∈ FA, wr.cell? p.2.1 = some p.2.2 := by rw [HFA.out]; exact (fcons a2 (fcons hcel fnil))
            haveI neFA : ∀ k, Nonempty (In (factsOf FA k)) := fun k => ⟨⟨_, factsOf.drew hFA k⟩⟩
            refine ws_begin [0, 1, 2, 3, 4, 5, 6, 7] (factsOf FA) (intsS (.slice (some ⟨gh, 0, none⟩) m ch) hs.reverse :: stS p bank sp Q1 :: bankS os.length bank D1 :: spaceS sp X1 :: pts r5 (.cells #[.pointer (some ⟨bank, 0, none⟩), .pointer (some ⟨sp, 0, none⟩), .pointer (some ⟨p, 0, none⟩), .pointer (some ⟨x, 0, none⟩)] 30 (0, 0)) :: l) #[0, 1, 0, 0, 12, 28, 63, 127] (by kernel_rfl) (by kernel_rfl) (by kernel_rfl) factsOf.alloc (factsOf.drew hFA) hh ?_
            clear hFA
            refine ws_q (at_lit rfl) rfl rfl rfl ?_
            go_big_quiet_op
            show WS _ _ _ _ _ _ _ _ _ _
            refine ws_q (at_lit rfl) rfl rfl rfl ?_
            go_big_quiet_op
            show WS _ _ _ _ _ _ _ _ _ _
            refine ws_q (at_lit rfl) rfl rfl rfl ?_
            go_big_quiet_op
            show WS _ _ _ _ _ _ _ _ _ _
            refine ws_q (at_lit rfl) rfl rfl rfl ?_
            go_big_quiet_op
            show WS _ _ _ _ _ _ _ _ _ _
            refine ws_q (at_lit rfl) rfl rfl rfl ?_
            go_big_quiet_op
            show WS _ _ _ _ _ _ _ _ _ _
            refine ws_q (at_lit rfl) rfl rfl rfl ?_
            go_big_quiet_op
            show WS _ _ _ _ _ _ _ _ _ _
            refine ws_call (at_lit rfl) rfl rfl 28 #[.pointer (some ⟨p, 0, none⟩), .int .i64 a] (fun w => by go_simp) (fun v L' => v = .nilIface ∧ L' = stS p bank sp Q2 :: spaceS sp X2 :: intsS (.slice (some ⟨gh, 0, none⟩) m ch) hs.reverse :: bankS os.length bank D1 :: pts r5 (.cells #[.pointer (some ⟨bank, 0, none⟩), .pointer (some ⟨sp, 0, none⟩), .pointer (some ⟨p, 0, none⟩), .pointer (some ⟨x, 0, none⟩)] 30 (0, 0)) :: l) (fun w' F hS hh => ?_) ?_
            · refine (HD.out w' _ (Has.reord [1, 2] hh)).mono ?_
              rintro r w2' ⟨hK, (⟨hn, _⟩ | ⟨g, hg, (⟨hn, _⟩ | ⟨_, hn, _⟩ | ⟨_, _, rfl, h5⟩)⟩)⟩
              · have := Hga.out; rw [hn] at this; cases this
              · rw [Hga.out] at hg; obtain rfl := Option.some.inj hg; exact absurd hn (show ¬ ((1 : Int) = 0) by decide)
              · rw [Hga.out] at hg; obtain rfl := Option.some.inj hg; exact absurd rfl hn
              · exact ⟨_, _, rfl, hK, ⟨rfl, rfl⟩, h5⟩
            rintro _ _ ⟨rfl, rfl⟩
            refine ⟨fun w F hh => lives (l' := []) (by rw [HFA.out]; simp [liveFacts, Nat.testBit]) (fnil), ?_⟩
            simp only [Act.put, List.setIfInBounds_toArray, List.set_cons_zero, List.set_cons_succ]
            show WS _ _ _ _ _ _ _ _ _ _
            refine ws_q (at_lit rfl) rfl rfl rfl ?_
            go_big_quiet_op
            show WS _ _ _ _ _ _ _ _ _ _
            refine ws_end ?_
            intro w9 hK9 h9
            have HM4 : Hid (LastMid w l p bank sp x r5 os.length X0 hs (.slice (some ⟨gh, 0, none⟩) m ch) q w9) := ⟨hs2, Q2, X2, D1, Hl2.out, by rw [Hm.out]; exact Hdr2.out, Hst2.out, HK.out.trans hK9, h9.reord [2, 0, 1, 0]⟩
            clear h9 hK9 hh HFA neFA FA fa1 fa5 a2 hcel HK Hst2 Hdr2 Hl2 Hga HD
            go_wp2
            go_roundg q
            case measure => omega
            case rel => exact ⟨q, by omega, rfl, by go_num, HM4⟩
          · have hn1 : n = 0 := by omega
            subst hn1
            obtain rfl : hs1 = [] := List.eq_nil_of_length_eq_zero hl1
            cases hst1
            have HK := Lib.hid hK
            have HH : Hid (Has wr (stS p bank sp [] :: spaceS sp X0 :: bankS os.length bank D1 :: intsS (.slice ah m ch) hs.reverse :: pts r5 (.cells #[.pointer (some ⟨bank, 0, none⟩), .pointer (some ⟨sp, 0, none⟩), .pointer (some ⟨p, 0, none⟩), .pointer (some ⟨x, 0, none⟩)] 30 (0, 0)) :: l)) := hh.reord [1, 2, 1]
            clear hh hK hn0 hl1 hdr
            have ah := HH.out.at (b := r5) (o := (.cells #[.pointer (some ⟨bank, 0, none⟩), .pointer (some ⟨sp, 0, none⟩), .pointer (some ⟨p, 0, none⟩), .pointer (some ⟨x, 0, none⟩)] 30 (0, 0))) (by simp [trio, world4, pull, reord])
            have a1 : wr.cell? ⟨r5, 1, none⟩ = some (.pointer (some ⟨sp, 0, none⟩)) := cell_of ah 1 rfl
            have a2 : wr.cell? ⟨r5, 2, none⟩ = some (.pointer (some ⟨p, 0, none⟩)) := cell_of ah 2 rfl
            have al : r5 < wr.heap.size := World.block_lt_of_cell? _ _ a1
            clear ah
            have hh := HH.out
            have HC := Lib.hid (st_Pages hh (by simp))
            clear hh
            go_wp2_with fail
            refine HC.out.mono ?_
            rintro r w31 ⟨v, rfl, hK, h1⟩
            clear a1 a2 al HC
            obtain ⟨a', c', rfl, _⟩ := h1.ints_read (v := v) (xs := ([] : Pgs).map (·.1)) (.head _)
            simp only [List.map_nil, List.length_nil] at h1 ⊢
            have hk1 := HK.out.trans hK
            clear HK
            have HK := Lib.hid hk1
            clear hk1
            clear HH
            have hh1 : Has w31 (spaceS sp X0 :: intsS (.slice a' 0 c') [] :: stS p bank sp [] :: bankS os.length bank D1 :: intsS (.slice ah m ch) hs.reverse :: pts r5 (.cells #[.pointer (some ⟨bank, 0, none⟩), .pointer (some ⟨sp, 0, none⟩), .pointer (some ⟨p, 0, none⟩), .pointer (some ⟨x, 0, none⟩)] 30 (0, 0)) :: l) := h1.reord [2]
            have HH := Lib.hid hh1
            clear hh1 h1 hK
            have ah := HH.out.at (b := r5) (o := (.cells #[.pointer (some ⟨bank, 0, none⟩), .pointer (some ⟨sp, 0, none⟩), .pointer (some ⟨p, 0, none⟩), .pointer (some ⟨x, 0, none⟩)] 30 (0, 0))) (by simp [trio, world4, pull, reord])
            have a1 : w31.cell? ⟨r5, 1, none⟩ = some (.pointer (some ⟨sp, 0, none⟩)) := cell_of ah 1 rfl
            have a2 : w31.cell? ⟨r5, 2, none⟩ = some (.pointer (some ⟨p, 0, none⟩)) := cell_of ah 2 rfl
            have al : r5 < w31.heap.size := World.block_lt_of_cell? _ _ a1
            clear ah
            have hh := HH.out
            have HC := Lib.hid (sp_FreeAll hh)
            clear hh
            rw [Hfree.out] at HC
            go_wp2_with fail
            refine HC.out.mono ?_
            rintro r w32 ⟨rfl, hK, h1⟩
            clear a1 a2 al HC
            have hk1 := HK.out.trans hK
            clear HK
            have HK := Lib.hid hk1
            clear hk1
            clear HH
            have HH := Lib.hid h1
            clear h1 hK
            have hh := HH.out
            have HC := Lib.hid (law_awake hh (Ht.out.app [_, _, _, _, _, _]))
            clear hh
            go_wp2_with fail
            refine HC.out.mono ?_
            rintro r w33 ⟨rfl, hK, h1⟩
            clear HC
            have HF : Hid (Kept w w33 ∧ Has w33 l) := ⟨HK.out.trans hK, h1.tail.tail.tail.tail.tail.tail⟩
            clear hK h1 HH HK
            go_wp2
            go_ret
            exact ⟨rfl, HF.out.1, HF.out.2⟩
  · have hlenI : (60 : Int) < (os.length : Int) := by omega
    have hh := HH.out
    have HC := Lib.hid (law_awake hh (Ht.out.app [_, _, _, _]))
    clear hh
    go_wp2_with fail
    refine HC.out.mono ?_
    rintro r w41 ⟨rfl, hK, h1⟩
    clear HC
    have HF : Hid (Kept w w41 ∧ Has w41 l) := ⟨HK.out.trans hK, h1.tail.tail.tail.tail⟩
    clear hK h1 HH HK
    go_wp2
    go_ret
    exact ⟨rfl, HF.out.1, HF.out.2⟩
end Go.Proofs.YtgbgneiciabidaaGreatDoor
