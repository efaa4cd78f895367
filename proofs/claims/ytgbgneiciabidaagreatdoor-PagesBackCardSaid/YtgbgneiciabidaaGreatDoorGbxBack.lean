/-
  Law 11: pages that stand on the devices and are held come back by another store (PagesBack), the walk.
-/
import Derived.Test.YtgbgneiciabidaaGreatDoorGb23
namespace Go.Proofs.YtgbgneiciabidaaGreatDoor
open Go Go.RowKit
set_option linter.all false

def BkMid (w : World) (l : List Say) (p bank sp x r5 : Nat) (X0 : Spc) (k : Nat) (hv : Value) (wr : World) : Prop :=
  ∃ (hs : List Int) (Q : Pgs) (X : Spc) (disks : List Dsk) (a : Option Addr) (c : Nat), hv = .slice a hs.length c ∧ hs.length ≤ k ∧ Stk X0 hs Q X ∧ Fits X disks Q ∧ DInv Q disks ∧ Kept w wr ∧
    Has wr (intsS (.slice a hs.length c) hs.reverse :: stS p bank sp Q :: bankS k bank disks :: spaceS sp X :: pts r5 (.cells #[.pointer (some ⟨bank, 0, none⟩), .pointer (some ⟨sp, 0, none⟩), .pointer (some ⟨p, 0, none⟩), .pointer (some ⟨x, 0, none⟩)] 30 (0, 0)) :: l)
def BkAb (w : World) (r6 : Nat) (rest : List Say) (c : Nat) (iz : Int) (wr : World) : Prop :=
  ∃ (L : Int) (ks vs : List Int) (ak : Option Addr) (ck : Nat) (av : Option Addr) (cv : Nat), ks.length = c ∧ vs.length = c ∧ 0 ≤ L ∧ L ≤ 100 ∧ Kept w wr ∧
    Has wr (pts r6 (.cells #[.int .i64 L, .slice ak c ck, .slice av c cv] 35 (0, 0)) :: intsS (.slice ak c ck) ks :: intsS (.slice av c cv) vs :: rest)
def BkLoop (w : World) (l : List Say) (p bank sp x r5 p2 s2 N : Nat) (es : List Ent) (hs : List Int) (Q : Pgs) (X : Spc) (disks : List Dsk) (hv : Value) (n : Nat) (wr : World) : Prop :=
  ∃ (Qm : Pgs) (Xm : Spc), BkInv es Q hs (hs.length - n) Qm Xm ∧ Kept w wr ∧ Has wr (intsS hv hs.reverse :: stS p2 bank s2 Qm :: bankS N bank disks :: spaceS s2 Xm :: stS p bank sp Q :: spaceS sp X :: pts r5 (.cells #[.pointer (some ⟨bank, 0, none⟩), .pointer (some ⟨sp, 0, none⟩), .pointer (some ⟨p, 0, none⟩), .pointer (some ⟨x, 0, none⟩)] 30 (0, 0)) :: l)
set_option maxHeartbeats 8000000 in
set_option maxRecDepth 100000 in
theorem law_back {w : World} {l : List Say} (zs : List Int) (os : List OpV) {zv sv : Value} (h : Has w l) (ht : Tab l) (hz : Srcs l zv zs) (ho : OpsSrcs l sv os) : Calls Tryz.prog 6 #[zv, sv] w (YesPost l w) := by
  have hsv : ∃ a c, sv = .slice a os.length c := by obtain ⟨a, c, rfl, _⟩ := ho.rd w h; exact ⟨a, c, rfl⟩
  obtain ⟨oa, oc, rfl⟩ := hsv
  obtain ⟨za, zc, rfl, _⟩ := (hz w h).rd
  have HM := Lib.hid (law_made zs h hz)
  have Ho := Lib.hid ho
  have Ht := Lib.hid ht
  have HW := Lib.hid h
  clear h ho hz ht
  go_enter Tryz.func6, Tryz.ntmps6
  go_wp2_with fail
  refine HM.out.mono ?_
  rintro r w1 ⟨hK1, (⟨hno, ⟨b1, b2, b3, b4, rfl⟩, h1⟩ | ⟨hsz, bank, sp, p, x, rfl, h1⟩)⟩
  · have HK := Lib.hid (hK1.alloc (.cells #[.pointer b1, .pointer b2, .pointer b3, .pointer b4] 30))
    have hh1 := h1.alloc (.cells #[.pointer b1, .pointer b2, .pointer b3, .pointer b4] 30)
    have HA := Lib.hid (law_awake hh1 (Ht.out.app [_]))
    clear hh1 h1 hK1 HM
    go_wp2_with fail
    refine HA.out.mono ?_
    rintro r w2 ⟨rfl, hK2, h2⟩
    have HF : Hid (Kept w w2 ∧ Has w2 l) := ⟨HK.out.trans hK2, h2.tail⟩
    clear hK2 h2 HA
    go_wp2
    go_ret
    exact ⟨rfl, HF.out.1, HF.out.2⟩
  have h2 := (Has.trio_of h1).alloc (.cells #[.pointer (some ⟨bank, 0, none⟩), .pointer (some ⟨sp, 0, none⟩), .pointer (some ⟨p, 0, none⟩), .pointer (some ⟨x, 0, none⟩)] 30)
  have HK := Lib.hid (hK1.alloc (.cells #[.pointer (some ⟨bank, 0, none⟩), .pointer (some ⟨sp, 0, none⟩), .pointer (some ⟨p, 0, none⟩), .pointer (some ⟨x, 0, none⟩)] 30))
  have hX0 := fresh_inv hsz
  have hF0 := fresh_fits hsz
  have hE0 := XIs.fresh (eSizes zs)
  simp only [ptrV]
  generalize freshSpc (eSizes zs) = X0 at *
  generalize dSizes zs = D0 at *
  generalize eSizes zs = es at *
  have HX0 := Lib.hid hX0
  have HF0 := Lib.hid hF0
  have HE0 := Lib.hid hE0
  have hh1 := h2.row_nil 3 1
  have HH : Hid (Has (w1.alloc (.cells #[.pointer (some ⟨bank, 0, none⟩), .pointer (some ⟨sp, 0, none⟩), .pointer (some ⟨p, 0, none⟩), .pointer (some ⟨x, 0, none⟩)] 30)) (intsS (.slice none 0 0) [] :: stS p bank sp [] :: bankS 0 bank D0 :: spaceS sp X0 :: pts w1.heap.size (.cells #[.pointer (some ⟨bank, 0, none⟩), .pointer (some ⟨sp, 0, none⟩), .pointer (some ⟨p, 0, none⟩), .pointer (some ⟨x, 0, none⟩)] 30 (0, 0)) :: l)) := hh1.reord [0, 1, 1, 1]
  clear h1 h2 hh1 hK1 HM hX0 hF0 hE0 hsz HW
  by_cases hlen : os.length ≤ 80
  · have hlenI : (os.length : Int) ≤ 80 := by omega
    have HM0 : Hid (BkMid w l p bank sp x w1.heap.size X0 0 (.slice none 0 0) (w1.alloc (.cells #[.pointer (some ⟨bank, 0, none⟩), .pointer (some ⟨sp, 0, none⟩), .pointer (some ⟨p, 0, none⟩), .pointer (some ⟨x, 0, none⟩)] 30))) := by
      refine ⟨[], [], X0, D0, none, 0, rfl, Nat.le_refl _, .nil, HF0.out, fun k g hg => by simp [VMap.get] at hg, HK.out, ?_⟩
      exact HH.out
    clear HH HK HF0
    go_wp2
    generalize hr5 : w1.heap.size = r5 at *
    clear hr5
    go_loopg [44, 7] os.length (fun gk i hv wr => ∃ k : Nat, k ≤ os.length ∧ gk = os.length - k ∧ i = .int .i64 k ∧ Hid (BkMid w l p bank sp x r5 X0 k hv wr))
    case atStart => exact ⟨0, Nat.zero_le _, rfl, rfl, HM0⟩
    case round =>
      clear HM0
      obtain ⟨k, hk, rfl, rfl, HM⟩ := hrel
      obtain ⟨hs, Q, X, disks, ah, ch, rfl, hsk, hstk, hf, hdi, hK, hh⟩ := HM.out
      have Hstk := Lib.hid hstk
      have Hf := Lib.hid hf
      have Hdi := Lib.hid hdi
      have HK := Lib.hid hK
      have HH := Lib.hid hh
      clear HM hstk hf hdi hK
      by_cases hlt : k < os.length
      · obtain ⟨_, _, hso, hcells⟩ := Ho.out.rd wr hh.tail.tail.tail.tail.tail
        injection hso with hs1 hs2 hs3
        subst hs1
        clear hs2 hs3
        obtain ⟨g, o, hga, hat⟩ := hcells k hlt
        have hok := Ho.out.ok os[k] (List.getElem_mem hlt)
        generalize os[k] = op at hat hok
        clear hcells hh
        subst hga
        obtain ⟨kd, ad, nn, lv, ks, vs, ka, kc, va, vc⟩ := op
        obtain ⟨q0, q1, q2, q3, q4, q5⟩ := hat
        simp only at q0 q1 q2 q3 q4 q5
        have Hok := Lib.hid hok
        have hn0 := hok.2.2.2.2.1
        have hn1 := hok.2.2.2.2.2
        simp only at hn0 hn1
        clear hok
        have lq : g < wr.heap.size := World.block_lt_of_cell? _ _ q0
        have hh1 := HH.out.alloc (.cells #[.int .i64 kd, .int .i64 ad, .int .i64 nn, .int .i64 lv, .slice ka ks.length kc, .slice va vs.length vc] 51)
        have hk1 := HK.out.alloc (.cells #[.int .i64 kd, .int .i64 ad, .int .i64 nn, .int .i64 lv, .slice ka ks.length kc, .slice va vs.length vc] 51)
        clear HH HK
        have HH := Lib.hid hh1
        have HK := Lib.hid hk1
        clear hh1 hk1
        have hkl : (k : Int) < (os.length : Int) := by omega
        by_cases hmax : ks.length ≤ 100 ∧ vs.length ≤ 100
        · obtain ⟨hm1, hm2⟩ := hmax
          have hh := HH.out
          have HC := Lib.hid (law_of ⟨lv, ks, vs⟩ hh Hok.out.1.cons.cons.cons.cons.cons.cons Hok.out.2.1.cons.cons.cons.cons.cons.cons Hok.out.2.2.1 Hok.out.2.2.2.1)
          clear hh
          simp only [Nd.val] at HC
          go_wp2_with fail
          refine HC.out.mono ?_
          rintro r w2 ⟨kv, vv, rfl, hK, h1⟩
          clear q0 q1 q2 q3 q4 q5 lq HC
          obtain ⟨ak, ck, rfl, _⟩ := h1.ints_read (v := kv) (xs := ks) (.head _)
          obtain ⟨av, cv, rfl, _⟩ := h1.ints_read (v := vv) (xs := vs) (.tail _ (.head _))
          simp only [Nd.val]
          have hk1 := HK.out.trans hK
          clear HK
          have HK := Lib.hid hk1
          clear hk1
          have hh1 := h1
          clear HH
          have HH := Lib.hid hh1
          clear hh1
          clear h1 hK
          have hh1 := HH.out.alloc (.cells #[.int .i64 lv, .slice ak ks.length ck, .slice av vs.length cv] 35)
          have hk1 := HK.out.alloc (.cells #[.int .i64 lv, .slice ak ks.length ck, .slice av vs.length cv] 35)
          clear HH HK
          have HH := Lib.hid hh1
          have HK := Lib.hid hk1
          clear hh1 hk1
          have bh := HH.out.at (b := wr.heap.size) (o := (.cells #[.int .i64 kd, .int .i64 ad, .int .i64 nn, .int .i64 lv, .slice ka ks.length kc, .slice va vs.length vc] 51 (0, 0))) (by simp [trio, world4, pull, reord])
          have b0 : (w2.alloc (.cells #[.int .i64 lv, .slice ak ks.length ck, .slice av vs.length cv] 35)).cell? ⟨wr.heap.size, 0, none⟩ = some (.int .i64 kd) := cell_of bh 0 rfl
          have b2 : (w2.alloc (.cells #[.int .i64 lv, .slice ak ks.length ck, .slice av vs.length cv] 35)).cell? ⟨wr.heap.size, 2, none⟩ = some (.int .i64 nn) := cell_of bh 2 rfl
          have bl : wr.heap.size < (w2.alloc (.cells #[.int .i64 lv, .slice ak ks.length ck, .slice av vs.length cv] 35)).heap.size := World.block_lt_of_cell? _ _ b0
          clear bh
          have ah := HH.out.at (b := r5) (o := (.cells #[.pointer (some ⟨bank, 0, none⟩), .pointer (some ⟨sp, 0, none⟩), .pointer (some ⟨p, 0, none⟩), .pointer (some ⟨x, 0, none⟩)] 30 (0, 0))) (by simp [trio, world4, pull, reord])
          have a0 : (w2.alloc (.cells #[.int .i64 lv, .slice ak ks.length ck, .slice av vs.length cv] 35)).cell? ⟨r5, 0, none⟩ = some (.pointer (some ⟨bank, 0, none⟩)) := cell_of ah 0 rfl
          have a1 : (w2.alloc (.cells #[.int .i64 lv, .slice ak ks.length ck, .slice av vs.length cv] 35)).cell? ⟨r5, 1, none⟩ = some (.pointer (some ⟨sp, 0, none⟩)) := cell_of ah 1 rfl
          have a2 : (w2.alloc (.cells #[.int .i64 lv, .slice ak ks.length ck, .slice av vs.length cv] 35)).cell? ⟨r5, 2, none⟩ = some (.pointer (some ⟨p, 0, none⟩)) := cell_of ah 2 rfl
          have a3 : (w2.alloc (.cells #[.int .i64 lv, .slice ak ks.length ck, .slice av vs.length cv] 35)).cell? ⟨r5, 3, none⟩ = some (.pointer (some ⟨x, 0, none⟩)) := cell_of ah 3 rfl
          have al : r5 < (w2.alloc (.cells #[.int .i64 lv, .slice ak ks.length ck, .slice av vs.length cv] 35)).heap.size := World.block_lt_of_cell? _ _ a0
          clear ah
          go_upto_if 64 with fail
          generalize hr11 : w2.heap.size = r11 at *
          clear hr11
          go_cut [] (fun wx => Hid (HolNode w l p bank sp x r5 r11 k hs Q X disks ah ch wx))
          case first =>
            by_cases h12 : kd = 12
            · have h12b : (kd == 12) = true := by simpa using h12
              clear h12
              have hhs := HH.out.pull 5
              have hup := hhs.st_up
              have hQb : ∀ q ∈ Q, 0 ≤ q.1 ∧ q.1 < 32768 := by
                obtain ⟨xx, ok, _⟩ := hhs.st_open
                exact ok.bd
              have hQo : ∀ q ∈ Q, q.2.n.ok = true := by
                obtain ⟨xx, ok, _⟩ := hhs.st_open
                exact ok.ok
              have hQl : Q.length ≤ 32768 := by
                have := up_len 32768 Q 0 hup hQb
                omega
              have Hup := Lib.hid hup
              have HQb := Lib.hid hQb
              have HQo := Lib.hid hQo
              clear hhs hup hQb hQo
              skip
              have hh := HH.out
              have HC := Lib.hid (st_Pages (hh.pull 5) (by omega))
              clear hh
              go_wp2_with fail
              refine HC.out.mono ?_
              rintro r w3 ⟨v, rfl, hK, h1⟩
              clear b0 b2 bl a0 a1 a2 a3 al HC
              obtain ⟨al, cl, rfl, _, hrl⟩ := h1.ints_read (v := v) (xs := Q.map (·.1)) (.head _)
              clear hrl
              rw [List.length_map] at h1 ⊢
              obtain ⟨ql, hql⟩ : ∃ ql, ql = Q.length := ⟨_, rfl⟩
              rw [← hql] at h1 hQl ⊢
              have Hql := Lib.hid hql
              clear hql
              have hk1 := HK.out.trans hK
              clear HK
              have HK := Lib.hid hk1
              clear hk1
              clear HH
              have HH := Lib.hid h1
              clear h1 hK
              have th := HH.out.at (b := r11) (o := (.cells #[.int .i64 lv, .slice ak ks.length ck, .slice av vs.length cv] 35 (0, 0))) (by simp [trio, world4, pull, reord])
              have t0 : w3.cell? ⟨r11, 0, none⟩ = some (.int .i64 lv) := cell_of th 0 rfl
              have t1 : w3.cell? ⟨r11, 1, none⟩ = some (.slice ak ks.length ck) := cell_of th 1 rfl
              have t2 : w3.cell? ⟨r11, 2, none⟩ = some (.slice av vs.length cv) := cell_of th 2 rfl
              have tf0 := thaw_of th 0
              have tf1 := thaw_of th 1
              have tf2 := thaw_of th 2
              have tl : r11 < w3.heap.size := World.block_lt_of_cell? _ _ t0
              clear th
              go_upto_region 14 with fail
              have h3 := (((HH.out.pull 2).setCell 0 (.int .i64 0)).setCell 1 (.slice none 0 0)).setCell 2 (.slice none 0 0)
              have hk3 := ((HK.out.setCell ⟨r11, 0, none⟩ (.int .i64 0)).setCell ⟨r11, 1, none⟩ (.slice none 0 0)).setCell ⟨r11, 2, none⟩ (.slice none 0 0)
              generalize ((w3.setCell ⟨r11, 0, none⟩ (.int .i64 0)).setCell ⟨r11, 1, none⟩ (.slice none 0 0)).setCell ⟨r11, 2, none⟩ (.slice none 0 0) = V at *
              have h3 : Has V (pts r11 (.cells #[.int .i64 0, .slice none 0 0, .slice none 0 0] 35 (0, 0)) :: intsS (.slice al ql cl) (Q.map (·.1)) :: stS p bank sp Q :: intsS (.slice ak ks.length ck) ks :: intsS (.slice av vs.length cv) vs :: pts wr.heap.size (.cells #[.int .i64 kd, .int .i64 ad, .int .i64 nn, .int .i64 lv, .slice ka ks.length kc, .slice va vs.length vc] 51 (0, 0)) :: intsS (.slice ah hs.length ch) hs.reverse :: bankS k bank disks :: spaceS sp X :: pts r5 (.cells #[.pointer (some ⟨bank, 0, none⟩), .pointer (some ⟨sp, 0, none⟩), .pointer (some ⟨p, 0, none⟩), .pointer (some ⟨x, 0, none⟩)] 30 (0, 0)) :: l) := h3
              have hb10 := h3.at (b := wr.heap.size) (o := (.cells #[.int .i64 kd, .int .i64 ad, .int .i64 nn, .int .i64 lv, .slice ka ks.length kc, .slice va vs.length vc] 51 (0, 0))) (by simp)
              have b2 : V.cell? ⟨wr.heap.size, 2, none⟩ = some (.int .i64 nn) := cell_of hb10 2 rfl
              have bl := World.block_lt_of_cell? _ _ b2
              skip
              have h4 : Has V (intsS (.slice al ql cl) (Q.map (·.1)) :: stS p bank sp Q :: pts r11 (.cells #[.int .i64 0, .slice none 0 0, .slice none 0 0] 35 (0, 0)) :: intsS (.slice ah hs.length ch) hs.reverse :: bankS k bank disks :: spaceS sp X :: pts r5 (.cells #[.pointer (some ⟨bank, 0, none⟩), .pointer (some ⟨sp, 0, none⟩), .pointer (some ⟨p, 0, none⟩), .pointer (some ⟨x, 0, none⟩)] 30 (0, 0)) :: l) := (((h3.pull 5).tail.pull 4).tail.pull 3).tail.reord [1, 1]
              have HM1 : Hid (BkAb w r11 (intsS (.slice al ql cl) (Q.map (·.1)) :: stS p bank sp Q :: intsS (.slice ah hs.length ch) hs.reverse :: bankS k bank disks :: spaceS sp X :: pts r5 (.cells #[.pointer (some ⟨bank, 0, none⟩), .pointer (some ⟨sp, 0, none⟩), .pointer (some ⟨p, 0, none⟩), .pointer (some ⟨x, 0, none⟩)] 30 (0, 0)) :: l) 0 nn V) := ⟨0, [], [], none, 0, none, 0, rfl, rfl, by omega, by omega, hk3, (((h4.reord [2]).row_nil 3 1).row_nil 3 1).pull 2⟩
              clear h3 h4 hk3 HH HK hb10
              go_wp2
              go_loopg [12] 3 (fun gk i wq => ∃ (c : Nat) (iz : Int), c ≤ 3 ∧ gk = 3 - c ∧ i = .int .i64 iz ∧ (-9223372036854775808 ≤ iz ∧ iz ≤ 9223372036854775807) ∧ Hid (BkAb w r11 (intsS (.slice al ql cl) (Q.map (·.1)) :: stS p bank sp Q :: intsS (.slice ah hs.length ch) hs.reverse :: bankS k bank disks :: spaceS sp X :: pts r5 (.cells #[.pointer (some ⟨bank, 0, none⟩), .pointer (some ⟨sp, 0, none⟩), .pointer (some ⟨p, 0, none⟩), .pointer (some ⟨x, 0, none⟩)] 30 (0, 0)) :: l) c iz wq))
              case atStart => exact ⟨0, nn, by omega, rfl, rfl, ⟨hn0, hn1⟩, HM1⟩
              case round =>
                clear HM1
                obtain ⟨c, iz, hc, rfl, rfl, ⟨z0, z1⟩, HM⟩ := hrel
                by_cases hgo : 0 ≤ iz ∧ iz < (ql : Int) ∧ c < 3
                · obtain ⟨g0, g1, g2⟩ := hgo
                  obtain ⟨jj, rfl⟩ : ∃ jj : Nat, iz = (jj : Int) := ⟨iz.toNat, by omega⟩
                  have hkQ : jj < Q.length := by have := Hql.out; omega
                  obtain ⟨L, ks, vs, ak, ck, av, cv, e1, e2, L0, L1, hK, hh⟩ := HM.out
                  obtain ⟨al', cl', eal, _, hrl⟩ := hh.ints_read (v := .slice al ql cl) (xs := Q.map (·.1)) (by simp)
                  injection eal with ea1 ea2 ea3
                  clear ea2 ea3
                  subst ea1
                  obtain ⟨gl, rfl, hcl, _⟩ := hrl jj (by simpa using hkQ)
                  rw [List.getElem_map] at hcl
                  have hmem : Q[jj] ∈ Q := List.getElem_mem _
                  have hqb := HQb.out _ hmem
                  have hqo := HQo.out _ hmem
                  have y0 := (ok_lens hqo).1
                  have y1 := (ok_lens hqo).2.1
                  clear hqo
                  have HG : Hid (∀ w l', Has w (stS p bank sp Q :: l') → Calls Tryz.prog 20 #[.pointer (some ⟨p, 0, none⟩), .int .i64 Q[jj].1] w (SomePost p bank sp Q Q[jj].2.n l' w)) := fun w l' h => st_Get_some h Q[jj].1 (by omega) (by omega) (get_at Hup.out jj hkQ)
                  have hr5 := hh.at (b := r5) (o := (.cells #[.pointer (some ⟨bank, 0, none⟩), .pointer (some ⟨sp, 0, none⟩), .pointer (some ⟨p, 0, none⟩), .pointer (some ⟨x, 0, none⟩)] 30 (0, 0))) (by simp)
                  have x2 : wr.cell? ⟨r5, 2, none⟩ = some (.pointer (some ⟨p, 0, none⟩)) := cell_of hr5 2 rfl
                  have x1 : wr.cell? ⟨r11, 1, none⟩ = some (.slice ak c ck) := cell_of hh.got 1 rfl
                  have l2 : r5 < wr.heap.size := World.block_lt_of_cell? _ _ x2
                  have l6 : r11 < wr.heap.size := World.block_lt_of_cell? _ _ x1
                  have HK := Lib.hid hK
                  have hcb : (c : Int) < 3 := by omega
                  have hkb : (jj : Int) < (ql : Int) := g1
                  have hqm : (Q.map (·.1))[jj]? = some Q[jj].1 := by rw [List.getElem?_map, List.getElem?_eq_getElem hkQ]; rfl
                  generalize Q[jj] = qk at *
                  have Hqk := Lib.hid hqm
                  have He1 := Lib.hid e1
                  have He2 := Lib.hid e2
                  have HH := Lib.hid hh
                  clear hkQ hqm hmem hr5 hK HM hrl hh e1 e2
                  go_wp2
                  have hh := HH.out
                  clear HH
                  obtain ⟨FA, HFA⟩ : ∃ FA : List (Nat × Addr × Value), Hid (FA = [(1, ⟨r5, 2, none⟩, .pointer (some ⟨p, 0, none⟩)), (5, ⟨gl, jj, none⟩, .int .i64 qk.1)]) := ⟨_, rfl⟩
                  have fa1 : ∀ n : In (factsOf FA 1), n.w.cell? ⟨r5, 2, none⟩ = some (.pointer (some ⟨p, 0, none⟩)) := fun n => factsOf.cell (by rw [HFA.out]; simp) n
                  have fa5 : ∀ n : In (factsOf FA 5), n.w.cell? ⟨gl, jj, none⟩ = some (.int .i64 qk.1) := fun n => factsOf.cell (by rw [HFA.out]; simp) n
                  have hFA : ∀ p ∈ FA, wr.cell? p.2.1 = some p.2.2 := by rw [HFA.out]; exact (fcons x2 (fcons hcl fnil))
                  haveI neFA : ∀ k, Nonempty (In (factsOf FA k)) := fun k => ⟨⟨_, factsOf.drew hFA k⟩⟩
                  refine ws_begin [0, 1, 2, 3, 4, 5, 6, 7, 8, 9, 10, 11, 12] (factsOf FA) (pts r11 (.cells #[.int .i64 L, .slice ak c ck, .slice av c cv] 35 (0, 0)) :: intsS (.slice ak c ck) ks :: intsS (.slice av c cv) vs :: intsS (.slice (some ⟨gl, 0, none⟩) ql cl) (Q.map (·.1)) :: stS p bank sp Q :: intsS (.slice ah hs.length ch) hs.reverse :: bankS k bank disks :: spaceS sp X :: pts r5 (.cells #[.pointer (some ⟨bank, 0, none⟩), .pointer (some ⟨sp, 0, none⟩), .pointer (some ⟨p, 0, none⟩), .pointer (some ⟨x, 0, none⟩)] 30 (0, 0)) :: l) #[0, 1, 0, 0, 12, 28, 63, 127, 255, 255, 0, 1535, 4095] (by kernel_rfl) (by kernel_rfl) (by kernel_rfl) factsOf.alloc (factsOf.drew hFA) hh ?_
                  clear hFA
                  refine ws_q (at_lit rfl) rfl rfl rfl ?_
                  go_big_quiet_op
                  show WS _ _ _ _ _ _ _ _ _ _
                  refine ws_q (at_lit rfl) rfl rfl rfl ?_
                  go_big_quiet_op
                  show WS _ _ _ _ _ _ _ _ _ _
                  refine ws_q (at_lit rfl) rfl rfl rfl ?_
                  go_big_quiet_op
                  show WS _ _ _ _ _ _ _ _ _ _
                  refine ws_q (at_lit rfl) rfl rfl rfl ?_
                  go_big_quiet_op
                  show WS _ _ _ _ _ _ _ _ _ _
                  refine ws_q (at_lit rfl) rfl rfl rfl ?_
                  go_big_quiet_op
                  show WS _ _ _ _ _ _ _ _ _ _
                  refine ws_q (at_lit rfl) rfl rfl rfl ?_
                  go_big_quiet_op
                  show WS _ _ _ _ _ _ _ _ _ _
                  refine ws_call (at_lit rfl) rfl rfl 20 #[.pointer (some ⟨p, 0, none⟩), .int .i64 qk.1] (fun w => by go_simp) (fun v L' => ∃ a5 c5 a6 c6, v = .tuple #[.agg #[.int .i64 qk.2.n.level, .slice a5 qk.2.n.keys.length c5, .slice a6 qk.2.n.vals.length c6], .nilIface] ∧ L' = intsS (.slice a5 qk.2.n.keys.length c5) qk.2.n.keys :: intsS (.slice a6 qk.2.n.vals.length c6) qk.2.n.vals :: stS p bank sp Q :: pts r11 (.cells #[.int .i64 L, .slice ak c ck, .slice av c cv] 35 (0, 0)) :: intsS (.slice ak c ck) ks :: intsS (.slice av c cv) vs :: intsS (.slice (some ⟨gl, 0, none⟩) ql cl) (Q.map (·.1)) :: intsS (.slice ah hs.length ch) hs.reverse :: bankS k bank disks :: spaceS sp X :: pts r5 (.cells #[.pointer (some ⟨bank, 0, none⟩), .pointer (some ⟨sp, 0, none⟩), .pointer (some ⟨p, 0, none⟩), .pointer (some ⟨x, 0, none⟩)] 30 (0, 0)) :: l) (fun w' F hS hh => ?_) ?_
                  · refine (HG.out w' _ (hh.pull 4)).mono ?_
                    rintro r w' ⟨a5, c5, a6, c6, rfl, hK, hh'⟩
                    exact ⟨_, _, rfl, hK, ⟨a5, c5, a6, c6, rfl, rfl⟩, hh'⟩
                  rintro _ _ ⟨a5, c5, a6, c6, rfl, rfl⟩
                  refine ⟨fun w F hh => lives (l' := []) (by rw [HFA.out]; simp [liveFacts, Nat.testBit]) (fnil), ?_⟩
                  simp only [Act.put, List.setIfInBounds_toArray, List.set_cons_zero, List.set_cons_succ]
                  show WS _ _ _ _ _ _ _ _ _ _
                  refine ws_q (at_lit rfl) rfl rfl rfl ?_
                  go_big_quiet_op
                  show WS _ _ _ _ _ _ _ _ _ _
                  refine ws_q (at_lit rfl) rfl rfl rfl ?_
                  go_big_quiet_op
                  show WS _ _ _ _ _ _ _ _ _ _
                  refine ws_q (at_lit rfl) rfl rfl rfl ?_
                  go_big_quiet_op
                  show WS _ _ _ _ _ _ _ _ _ _
                  refine ws_ptr (at_lit rfl) rfl rfl (.cells #[.int .i64 0, .slice none 0 0, .slice none 0 0] 35 (0, 0)) (fun w => by go_simp) ?_
                  intro r13
                  simp only [Act.put, List.setIfInBounds_toArray, List.set_cons_zero, List.set_cons_succ]
                  show WS _ _ _ _ _ _ _ _ _ _
                  refine ws_store (at_lit rfl) rfl rfl 35 (.tmp 13) (.tmp 95) rfl rfl (v := .agg #[.int .i64 qk.2.n.level, .slice a5 qk.2.n.keys.length c5, .slice a6 qk.2.n.vals.length c6]) rfl (by simp [Value.cells]) (by simp [Value.cells, Value.oneCell']) (by kernel_rfl) (by simp only [Value.cells, putCells, List.setIfInBounds_toArray, List.set_cons_zero, List.set_cons_succ]; rfl) (fun w F hh => lives (l' := []) (by rw [HFA.out]; simp [liveFacts, Nat.testBit]) (fnil)) ?_
                  simp only [Act.put, List.setIfInBounds_toArray, List.set_cons_zero, List.set_cons_succ]
                  show WS _ _ _ _ _ _ _ _ _ _
                  refine ws_q (at_lit rfl) rfl rfl rfl ?_
                  go_big_quiet_op
                  show WS _ _ _ _ _ _ _ _ _ _
                  refine ws_end ?_
                  intro w7 hK7 h7
                  have hr6 := h7.at (b := r11) (o := (.cells #[.int .i64 L, .slice ak c ck, .slice av c cv] 35 (0, 0))) (by simp)
                  have hr8 := h7.at (b := r13) (o := (.cells #[.int .i64 qk.2.n.level, .slice a5 qk.2.n.keys.length c5, .slice a6 qk.2.n.vals.length c6] 35 (0, 0))) (by simp)
                  have s11 : w7.cell? ⟨r11, 1, none⟩ = some (.slice ak c ck) := cell_of hr6 1 rfl
                  have s12 : w7.cell? ⟨r11, 2, none⟩ = some (.slice av c cv) := cell_of hr6 2 rfl
                  have s2 : w7.cell? ⟨r13, 0, none⟩ = some (.int .i64 qk.2.n.level) := cell_of hr8 0 rfl
                  have s1 : w7.cell? ⟨gl, jj, none⟩ = some (.int .i64 qk.1) := h7.ints_at (n := ql) (c := cl) (xs := Q.map (·.1)) (by simp) Hqk.out
                  have HK7 := Lib.hid (HK.out.trans hK7)
                  have hwl : IntKind.i64.wrap (qk.2.n.level + 1) = qk.2.n.level + 1 := by rw [IntKind.wrap_i64]; omega
                  have He1l : ks.length ≤ 1000000000000 := by have := He1.out; omega
                  have He2l : vs.length ≤ 1000000000000 := by have := He2.out; omega
                  clear hK7 hr6 hr8 HFA neFA FA x1 x2 l2 l6 hcl HK fa1 fa5
                  go_wp2
                  obtain ⟨FA, HFA⟩ : ∃ FA : List (Nat × Addr × Value), Hid (FA = [(1, ⟨r11, 1, none⟩, .slice ak c ck), (6, ⟨r11, 2, none⟩, .slice av c cv), (10, ⟨gl, jj, none⟩, .int .i64 qk.1), (14, ⟨r13, 0, none⟩, .int .i64 qk.2.n.level)]) := ⟨_, rfl⟩
                  have fa1 : ∀ n : In (factsOf FA 1), n.w.cell? ⟨r11, 1, none⟩ = some (.slice ak c ck) := fun n => factsOf.cell (by rw [HFA.out]; simp) n
                  have fa6 : ∀ n : In (factsOf FA 6), n.w.cell? ⟨r11, 2, none⟩ = some (.slice av c cv) := fun n => factsOf.cell (by rw [HFA.out]; simp) n
                  have fa10 : ∀ n : In (factsOf FA 10), n.w.cell? ⟨gl, jj, none⟩ = some (.int .i64 qk.1) := fun n => factsOf.cell (by rw [HFA.out]; simp) n
                  have fa14 : ∀ n : In (factsOf FA 14), n.w.cell? ⟨r13, 0, none⟩ = some (.int .i64 qk.2.n.level) := fun n => factsOf.cell (by rw [HFA.out]; simp) n
                  have hFA : ∀ p ∈ FA, w7.cell? p.2.1 = some p.2.2 := by rw [HFA.out]; exact (fcons s11 (fcons s12 (fcons s1 (fcons s2 fnil))))
                  haveI neFA : ∀ k, Nonempty (In (factsOf FA k)) := fun k => ⟨⟨_, factsOf.drew hFA k⟩⟩
                  refine ws_begin [0, 1, 2, 3, 4, 5, 6, 7, 8, 9, 10, 11, 12, 13, 14, 15, 16, 17, 18, 19, 20, 21] (factsOf FA) (pts r13 (.cells #[.int .i64 qk.2.n.level, .slice a5 qk.2.n.keys.length c5, .slice a6 qk.2.n.vals.length c6] 35 (0, 0)) :: intsS (.slice a5 qk.2.n.keys.length c5) qk.2.n.keys :: intsS (.slice a6 qk.2.n.vals.length c6) qk.2.n.vals :: stS p bank sp Q :: pts r11 (.cells #[.int .i64 L, .slice ak c ck, .slice av c cv] 35 (0, 0)) :: intsS (.slice ak c ck) ks :: intsS (.slice av c cv) vs :: intsS (.slice (some ⟨gl, 0, none⟩) ql cl) (Q.map (·.1)) :: intsS (.slice ah hs.length ch) hs.reverse :: bankS k bank disks :: spaceS sp X :: pts r5 (.cells #[.pointer (some ⟨bank, 0, none⟩), .pointer (some ⟨sp, 0, none⟩), .pointer (some ⟨p, 0, none⟩), .pointer (some ⟨x, 0, none⟩)] 30 (0, 0)) :: l) #[0, 1, 0, 4, 15, 0, 32, 0, 0, 384, 896, 1920, 4095, 0, 8192, 24576, 127, 73727, 204799, 466943, 1048575, 2097151] (by kernel_rfl) (by kernel_rfl) (by kernel_rfl) factsOf.alloc (factsOf.drew hFA) h7 ?_
                  clear hFA
                  refine ws_q (at_lit rfl) rfl rfl rfl ?_
                  go_big_quiet_op
                  show WS _ _ _ _ _ _ _ _ _ _
                  refine ws_q (at_lit rfl) rfl rfl rfl ?_
                  go_big_quiet_op
                  show WS _ _ _ _ _ _ _ _ _ _
                  refine ws_q (at_lit rfl) rfl rfl rfl ?_
                  go_big_quiet_op
                  show WS _ _ _ _ _ _ _ _ _ _
                  refine ws_slice (at_lit rfl) rfl rfl 1 (.cells #[.int .i64 (jj : Int)] 3 (0, 0)) (fun w => by go_simp) ?_
                  intro g1'
                  simp only [Act.put, List.setIfInBounds_toArray, List.set_cons_zero, List.set_cons_succ]
                  show WS _ _ _ _ _ _ _ _ _ _
                  refine ws_reord [6] ?_
                  simp only [reord, pull]
                  refine ws_append_int (at_lit rfl) rfl rfl (.tmp 98) (.tmp 100) rfl (y := (jj : Int)) rfl rfl (.head _) He1.out (by omega) (fun p' c' w F hh => lives (l' := [(6, ⟨r11, 2, none⟩, .slice av c cv), (10, ⟨gl, jj, none⟩, .int .i64 qk.1), (14, ⟨r13, 0, none⟩, .int .i64 qk.2.n.level)]) (by rw [HFA.out]; simp [liveFacts, Nat.testBit]) (fcons (cell_of (hh.at (b := r11) (o := (.cells #[.int .i64 L, .slice ak c ck, .slice av c cv] 35 (0, 0))) (by simp)) 2 (v := .slice av c cv) rfl) <| fcons (hh.ints_at (n := ql) (c := cl) (xs := Q.map (·.1)) (by simp) Hqk.out) <| fcons (cell_of (hh.at (b := r13) (o := (.cells #[.int .i64 qk.2.n.level, .slice a5 qk.2.n.keys.length c5, .slice a6 qk.2.n.vals.length c6] 35 (0, 0))) (by simp)) 0 (v := .int .i64 qk.2.n.level) rfl) <| fnil)) ?_
                  intro ak1 ck1
                  simp only [Act.put, List.setIfInBounds_toArray, List.set_cons_zero, List.set_cons_succ]
                  show WS _ _ _ _ _ _ _ _ _ _
                  refine ws_q (at_lit rfl) rfl rfl rfl ?_
                  go_big_quiet_op
                  show WS _ _ _ _ _ _ _ _ _ _
                  refine ws_q (at_lit rfl) rfl rfl rfl ?_
                  go_big_quiet_op
                  show WS _ _ _ _ _ _ _ _ _ _
                  refine ws_q (at_lit rfl) rfl rfl rfl ?_
                  go_big_quiet_op
                  show WS _ _ _ _ _ _ _ _ _ _
                  refine ws_q (at_lit rfl) rfl rfl rfl ?_
                  go_big_quiet_op
                  show WS _ _ _ _ _ _ _ _ _ _
                  refine ws_q (at_lit rfl) rfl rfl rfl ?_
                  go_big_quiet_op
                  show WS _ _ _ _ _ _ _ _ _ _
                  refine ws_q (at_lit rfl) rfl rfl rfl ?_
                  go_big_quiet_op
                  show WS _ _ _ _ _ _ _ _ _ _
                  refine ws_slice (at_lit rfl) rfl rfl 1 (.cells #[.int .i64 qk.1] 3 (0, 0)) (fun w => by go_simp) ?_
                  intro g2'
                  simp only [Act.put, List.setIfInBounds_toArray, List.set_cons_zero, List.set_cons_succ]
                  show WS _ _ _ _ _ _ _ _ _ _
                  refine ws_reord [8] ?_
                  simp only [reord, pull]
                  refine ws_append_int (at_lit rfl) rfl rfl (.tmp 103) (.tmp 108) rfl (y := qk.1) rfl rfl (.head _) He2.out (by omega) (fun p' c' w F hh => lives (l' := [(14, ⟨r13, 0, none⟩, .int .i64 qk.2.n.level)]) (by rw [HFA.out]; simp [liveFacts, Nat.testBit]) (fcons (cell_of (hh.at (b := r13) (o := (.cells #[.int .i64 qk.2.n.level, .slice a5 qk.2.n.keys.length c5, .slice a6 qk.2.n.vals.length c6] 35 (0, 0))) (by simp)) 0 (v := .int .i64 qk.2.n.level) rfl) <| fnil)) ?_
                  intro av1 cv1
                  simp only [Act.put, List.setIfInBounds_toArray, List.set_cons_zero, List.set_cons_succ]
                  show WS _ _ _ _ _ _ _ _ _ _
                  refine ws_q (at_lit rfl) rfl rfl rfl ?_
                  go_big_quiet_op
                  show WS _ _ _ _ _ _ _ _ _ _
                  refine ws_q (at_lit rfl) rfl rfl rfl ?_
                  go_big_quiet_op
                  show WS _ _ _ _ _ _ _ _ _ _
                  refine ws_q (at_lit rfl) rfl rfl rfl ?_
                  go_big_quiet_op
                  show WS _ _ _ _ _ _ _ _ _ _
                  refine ws_q (at_lit rfl) rfl rfl rfl ?_
                  go_big_quiet_op
                  show WS _ _ _ _ _ _ _ _ _ _
                  refine ws_reord [8] ?_
                  simp only [reord, pull]
                  refine ws_store (at_lit rfl) rfl rfl 22 (.tmp 113) (.tmp 101) rfl rfl (v := .slice ak1 (c + 1) ck1) rfl (by simp [Value.cells]) (by simp [Value.cells, Value.oneCell']) (by kernel_rfl) (by simp only [Value.cells, putCells, List.setIfInBounds_toArray, List.set_cons_zero, List.set_cons_succ]; rfl) (fun w F hh => lives (l' := [(14, ⟨r13, 0, none⟩, .int .i64 qk.2.n.level)]) (by rw [HFA.out]; simp [liveFacts, Nat.testBit]) (fcons (cell_of (hh.at (b := r13) (o := (.cells #[.int .i64 qk.2.n.level, .slice a5 qk.2.n.keys.length c5, .slice a6 qk.2.n.vals.length c6] 35 (0, 0))) (by simp)) 0 (v := .int .i64 qk.2.n.level) rfl) <| fnil)) ?_
                  simp only [Act.put, List.setIfInBounds_toArray, List.set_cons_zero, List.set_cons_succ]
                  show WS _ _ _ _ _ _ _ _ _ _
                  refine ws_q (at_lit rfl) rfl rfl rfl ?_
                  go_big_quiet_op
                  show WS _ _ _ _ _ _ _ _ _ _
                  refine ws_store (at_lit rfl) rfl rfl 22 (.tmp 114) (.tmp 109) rfl rfl (v := .slice av1 (c + 1) cv1) rfl (by simp [Value.cells]) (by simp [Value.cells, Value.oneCell']) (by kernel_rfl) (by simp only [Value.cells, putCells, List.setIfInBounds_toArray, List.set_cons_zero, List.set_cons_succ]; rfl) (fun w F hh => lives (l' := [(14, ⟨r13, 0, none⟩, .int .i64 qk.2.n.level)]) (by rw [HFA.out]; simp [liveFacts, Nat.testBit]) (fcons (cell_of (hh.at (b := r13) (o := (.cells #[.int .i64 qk.2.n.level, .slice a5 qk.2.n.keys.length c5, .slice a6 qk.2.n.vals.length c6] 35 (0, 0))) (by simp)) 0 (v := .int .i64 qk.2.n.level) rfl) <| fnil)) ?_
                  simp only [Act.put, List.setIfInBounds_toArray, List.set_cons_zero, List.set_cons_succ]
                  show WS _ _ _ _ _ _ _ _ _ _
                  refine ws_q (at_lit rfl) rfl rfl rfl ?_
                  go_big_quiet_op
                  show WS _ _ _ _ _ _ _ _ _ _
                  refine ws_store (at_lit rfl) rfl rfl 3 (.tmp 115) (.tmp 112) rfl rfl (v := .int .i64 (qk.2.n.level + 1)) rfl (by simp [Value.cells]) (by simp [Value.cells, Value.oneCell']) (by kernel_rfl) (by simp only [Value.cells, putCells, List.setIfInBounds_toArray, List.set_cons_zero, List.set_cons_succ]; rfl) (fun w F hh => lives (l' := []) (by rw [HFA.out]; simp [liveFacts, Nat.testBit]) (fnil)) ?_
                  simp only [Act.put, List.setIfInBounds_toArray, List.set_cons_zero, List.set_cons_succ]
                  show WS _ _ _ _ _ _ _ _ _ _
                  refine ws_end ?_
                  intro w9 hK9 h9
                  have HM2 : Hid (BkAb w r11 (intsS (.slice (some ⟨gl, 0, none⟩) ql cl) (Q.map (·.1)) :: stS p bank sp Q :: intsS (.slice ah hs.length ch) hs.reverse :: bankS k bank disks :: spaceS sp X :: pts r5 (.cells #[.pointer (some ⟨bank, 0, none⟩), .pointer (some ⟨sp, 0, none⟩), .pointer (some ⟨p, 0, none⟩), .pointer (some ⟨x, 0, none⟩)] 30 (0, 0)) :: l) (c + 1) ((jj : Int) + 1) w9) :=
                    ⟨qk.2.n.level + 1, ks ++ [(jj : Int)], vs ++ [qk.1], ak1, ck1, av1, cv1, by rw [List.length_append, He1.out]; rfl, by rw [List.length_append, He2.out]; rfl, by omega, by omega, HK7.out.trans hK9, (h9.reord [2, 3, 3, 3, 3, 0, 1, 0, 1]).tail.tail.tail.tail.tail⟩
                  clear h9 hK9 h7 HFA neFA FA s11 s12 s1 s2 fa1 fa6 fa10 fa14 He1 He2 He1l He2l HK7 Hqk HG
                  go_wp2
                  go_roundg (3 - (c + 1))
                  case measure => omega
                  case rel => exact ⟨c + 1, (jj : Int) + 1, by omega, rfl, by go_num, ⟨by omega, by omega⟩, HM2⟩
                · obtain ⟨L, ks, vs, ak, ck, av, cv, e1, e2, L0, L1, hK, hh⟩ := HM.out
                  have x1 : wr.cell? ⟨r11, 1, none⟩ = some (.slice ak c ck) := cell_of hh.got 1 rfl
                  have l6 : r11 < wr.heap.size := World.block_lt_of_cell? _ _ x1
                  have HZ : Hid (HolNode w l p bank sp x r5 r11 k hs Q X disks ah ch wr) := by
                    subst e1
                    refine ⟨⟨L, ks, vs⟩, ak, ck, av, cv, hK, ?_⟩
                    have h5 := (hh.pull 3).tail.reord [0, 0, 0, 1]
                    simp only [e2]
                    exact h5
                  clear hh hK HM e1 e2
                  go_wp2
                  all_goals (go_meet; exact HZ)
            · have h12b : (kd == 12) = false := by simpa using h12
              clear h12
              have HZ : Hid (HolNode w l p bank sp x r5 r11 k hs Q X disks ah ch (w2.alloc (.cells #[.int .i64 lv, .slice ak ks.length ck, .slice av vs.length cv] 35))) := ⟨⟨lv, ks, vs⟩, ak, ck, av, cv, HK.out, (HH.out.reord [3]).tail⟩
              go_wp2
              go_meet
              exact HZ
          case rest =>
            clear HH HK b0 b2 bl a0 a1 a2 a3 al
            obtain ⟨n, ak, ck, av, cv, hK, hh⟩ := hcut.out
            have HK := Lib.hid hK
            have HH := Lib.hid hh
            clear hK hh hcut
            have ch := HH.out.at (b := r11) (o := (.cells #[.int .i64 n.level, .slice ak n.keys.length ck, .slice av n.vals.length cv] 35 (0, 0))) (by simp [trio, world4, pull, reord])
            have c0 : wc.cell? ⟨r11, 0, none⟩ = some (.int .i64 n.level) := cell_of ch 0 rfl
            have c1 : wc.cell? ⟨r11, 1, none⟩ = some (.slice ak n.keys.length ck) := cell_of ch 1 rfl
            have c2 : wc.cell? ⟨r11, 2, none⟩ = some (.slice av n.vals.length cv) := cell_of ch 2 rfl
            have cl : r11 < wc.heap.size := World.block_lt_of_cell? _ _ c0
            clear ch
            have ah := HH.out.at (b := r5) (o := (.cells #[.pointer (some ⟨bank, 0, none⟩), .pointer (some ⟨sp, 0, none⟩), .pointer (some ⟨p, 0, none⟩), .pointer (some ⟨x, 0, none⟩)] 30 (0, 0))) (by simp [trio, world4, pull, reord])
            have a2 : wc.cell? ⟨r5, 2, none⟩ = some (.pointer (some ⟨p, 0, none⟩)) := cell_of ah 2 rfl
            have al : r5 < wc.heap.size := World.block_lt_of_cell? _ _ a2
            clear ah
            have hh := HH.out
            have HC := Lib.hid (trio_Put n (kv := .slice ak n.keys.length ck) (vv := .slice av n.vals.length cv) (show Has wc (trio p bank sp k Q disks X (pts r11 (.cells #[.int .i64 n.level, .slice ak n.keys.length ck, .slice av n.vals.length cv] 35 (0, 0)) :: intsS (.slice ak n.keys.length ck) n.keys :: intsS (.slice av n.vals.length cv) n.vals :: intsS (.slice ah hs.length ch) hs.reverse :: pts r5 (.cells #[.pointer (some ⟨bank, 0, none⟩), .pointer (some ⟨sp, 0, none⟩), .pointer (some ⟨p, 0, none⟩), .pointer (some ⟨x, 0, none⟩)] 30 (0, 0)) :: l)) from hh.reord [4, 4, 4]) (Ht.out.app [_, _, _, _, _]) (.tail _ (.head _)) (.tail _ (.tail _ (.head _))) Hf.out (Hstk.out.holds HX0.out (by omega)) (by omega))
            clear hh
            simp only [Nd.val] at HC
            go_wp2_with fail
            refine HC.out.mono ?_
            rintro r w7 ⟨hK, hpost⟩
            clear c0 c1 c2 cl a2 al HC
            clear HH
            have hk1 := HK.out.trans hK
            clear HK
            have HK := Lib.hid hk1
            clear hk1
            clear hK
            rcases hpost with ⟨_, rfl, h3⟩ | ⟨_, hne, rfl, h3⟩ | ⟨_, _, _, rfl, h3⟩ | ⟨d, kk, y, secs, hok1, hnm, htk, hsec, rfl, h3⟩
            · skip
              have HM2 : Hid (BkMid w l p bank sp x r5 X0 (k + 1) (.slice ah hs.length ch) w7) := by
                refine ⟨hs, Q, X, disks, ah, ch, rfl, by omega, Hstk.out, Hf.out, Hdi.out, HK.out, ?_⟩
                exact ((((show Has w7 (stS p bank sp Q :: bankS k bank disks :: spaceS sp X :: pts r11 (.cells #[.int .i64 n.level, .slice ak n.keys.length ck, .slice av n.vals.length cv] 35 (0, 0)) :: intsS (.slice ak n.keys.length ck) n.keys :: intsS (.slice av n.vals.length cv) n.vals :: intsS (.slice ah hs.length ch) hs.reverse :: pts r5 (.cells #[.pointer (some ⟨bank, 0, none⟩), .pointer (some ⟨sp, 0, none⟩), .pointer (some ⟨p, 0, none⟩), .pointer (some ⟨x, 0, none⟩)] 30 (0, 0)) :: l) from h3).pull 1).bank_more (M := k + 1) (by omega)).reord [3, 3, 3, 3, 1, 0, 0]).tail.tail.tail
              clear h3 Hstk Hf Hdi HK Hok
              simp only [errV]
              go_wp2
              go_roundg (os.length - (k + 1))
              case measure => omega
              case rel => exact ⟨k + 1, by omega, rfl, by go_num, HM2⟩
            · rcases namedErr_cases Q n hne with e | e
              all_goals
                rw [e]
                clear e hne
                have HM2 : Hid (BkMid w l p bank sp x r5 X0 (k + 1) (.slice ah hs.length ch) w7) := by
                  refine ⟨hs, Q, X, disks, ah, ch, rfl, by omega, Hstk.out, Hf.out, Hdi.out, HK.out, ?_⟩
                  exact ((((show Has w7 (stS p bank sp Q :: bankS k bank disks :: spaceS sp X :: pts r11 (.cells #[.int .i64 n.level, .slice ak n.keys.length ck, .slice av n.vals.length cv] 35 (0, 0)) :: intsS (.slice ak n.keys.length ck) n.keys :: intsS (.slice av n.vals.length cv) n.vals :: intsS (.slice ah hs.length ch) hs.reverse :: pts r5 (.cells #[.pointer (some ⟨bank, 0, none⟩), .pointer (some ⟨sp, 0, none⟩), .pointer (some ⟨p, 0, none⟩), .pointer (some ⟨x, 0, none⟩)] 30 (0, 0)) :: l) from h3).pull 1).bank_more (M := k + 1) (by omega)).reord [3, 3, 3, 3, 1, 0, 0]).tail.tail.tail
                clear h3 Hstk Hf Hdi HK Hok
                simp only [errV]
                go_wp2
                go_roundg (os.length - (k + 1))
                case measure => omega
                case rel => exact ⟨k + 1, by omega, rfl, by go_num, HM2⟩
            · skip
              have HM2 : Hid (BkMid w l p bank sp x r5 X0 (k + 1) (.slice ah hs.length ch) w7) := by
                refine ⟨hs, Q, X, disks, ah, ch, rfl, by omega, Hstk.out, Hf.out, Hdi.out, HK.out, ?_⟩
                exact ((((show Has w7 (stS p bank sp Q :: bankS k bank disks :: spaceS sp X :: pts r11 (.cells #[.int .i64 n.level, .slice ak n.keys.length ck, .slice av n.vals.length cv] 35 (0, 0)) :: intsS (.slice ak n.keys.length ck) n.keys :: intsS (.slice av n.vals.length cv) n.vals :: intsS (.slice ah hs.length ch) hs.reverse :: pts r5 (.cells #[.pointer (some ⟨bank, 0, none⟩), .pointer (some ⟨sp, 0, none⟩), .pointer (some ⟨p, 0, none⟩), .pointer (some ⟨x, 0, none⟩)] 30 (0, 0)) :: l) from h3).pull 1).bank_more (M := k + 1) (by omega)).reord [3, 3, 3, 3, 1, 0, 0]).tail.tail.tail
              clear h3 Hstk Hf Hdi HK Hok
              simp only [errV]
              go_wp2
              go_roundg (os.length - (k + 1))
              case measure => omega
              case rel => exact ⟨k + 1, by omega, rfl, by go_num, HM2⟩
            · obtain ⟨A0, A1, hstk2, hf2, hg1, hpp, hg2, hkid⟩ := hold_step HX0.out Hstk.out Hf.out htk hsec hok1 hnm (by omega) (frameOf 2 (nodeBytes n))
              have hdi2 : DInv (pushPg Q (lenV d kk) n) (disks.set d (secs.set kk (frameOf 2 (nodeBytes n)))) := by
                have hf := Hf.out
                have hsz := hf.size d y secs htk.shelf hsec
                have hbg := hf.big d y htk.shelf
                have hhi := htk.hi
                have hsm := (Hstk.out.inv HX0.out).2.small
                have hdl := (List.getElem?_eq_some_iff.1 htk.shelf).1
                exact Hdi.out.push hsec (by omega) (by omega) (by omega) (hf.free d kk y htk.shelf htk.hi htk.free) n
              have h4 : Has w7 (stS p bank sp (put1 Q (lenV d kk) n) :: bankS (k + 1) bank (disks.set d (secs.set kk (frameOf 2 (nodeBytes n)))) :: spaceS sp (X.put d (y.took kk)) :: pts r11 (.cells #[.int .i64 n.level, .slice ak n.keys.length ck, .slice av n.vals.length cv] 35 (0, 0)) :: intsS (.slice ak n.keys.length ck) n.keys :: intsS (.slice av n.vals.length cv) n.vals :: intsS (.slice ah hs.length ch) hs.reverse :: pts r5 (.cells #[.pointer (some ⟨bank, 0, none⟩), .pointer (some ⟨sp, 0, none⟩), .pointer (some ⟨p, 0, none⟩), .pointer (some ⟨x, 0, none⟩)] 30 (0, 0)) :: l) := h3
              clear hkid
              generalize lenV d kk = A at *
              generalize X.put d (y.took kk) = X2 at *
              generalize disks.set d (secs.set kk (frameOf 2 (nodeBytes n))) = D2 at *
              generalize hq1 : put1 Q A n = Q1 at *
              generalize hq2 : pushPg Q A n = Q2 at *
              have Hstk2 := Lib.hid hstk2
              have Hf2 := Lib.hid hf2
              have Hdi2 := Lib.hid hdi2
              have Hg1 := Lib.hid hg1
              have Hpp := Lib.hid hpp
              have HH := Lib.hid h4
              clear h3 h4 hstk2 hf2 hdi2 hg1 hpp hg2 hq1 hq2 htk hsec hok1 hnm Hstk Hf Hdi Hok
              have ch := HH.out.at (b := r11) (o := (.cells #[.int .i64 n.level, .slice ak n.keys.length ck, .slice av n.vals.length cv] 35 (0, 0))) (by simp [trio, world4, pull, reord])
              have c0 : w7.cell? ⟨r11, 0, none⟩ = some (.int .i64 n.level) := cell_of ch 0 rfl
              have cl : r11 < w7.heap.size := World.block_lt_of_cell? _ _ c0
              clear ch
              have ah := HH.out.at (b := r5) (o := (.cells #[.pointer (some ⟨bank, 0, none⟩), .pointer (some ⟨sp, 0, none⟩), .pointer (some ⟨p, 0, none⟩), .pointer (some ⟨x, 0, none⟩)] 30 (0, 0))) (by simp [trio, world4, pull, reord])
              have a2 : w7.cell? ⟨r5, 2, none⟩ = some (.pointer (some ⟨p, 0, none⟩)) := cell_of ah 2 rfl
              have al : r5 < w7.heap.size := World.block_lt_of_cell? _ _ a2
              clear ah
              have hh := HH.out
              have HC := Lib.hid (st_Hold hh A (by omega) (by omega) (by intro g hg; rw [Hg1.out] at hg; obtain rfl := Option.some.inj hg; exact ⟨⟨show (-100000000 : Int) ≤ 0 by decide, show (0 : Int) ≤ 100000000 by decide⟩, show (-100000000 : Int) ≤ 0 by decide, show (0 : Int) ≤ 100000000 by decide⟩))
              clear hh
              go_wp2_with fail
              refine HC.out.mono ?_
              rintro r w8 ⟨hK, (⟨hn, _⟩ | ⟨g, hg, rfl, h5⟩)⟩
              clear c0 cl a2 al HC
              · have := Hg1.out; rw [hn] at this; cases this
              rw [Hg1.out] at hg
              obtain rfl := Option.some.inj hg
              rw [Hpp.out] at h5
              clear hg HH Hg1 Hpp
              have hk1 := HK.out.trans hK
              clear HK
              have HK := Lib.hid hk1
              clear hk1
              have h6 := h5.reord [0, 1]
              have HH := Lib.hid h6
              clear h5 h6 hK
              have hx := (HH.out.alloc (.cells #[.int .i64 A] 3)).pull 7
              have HX : Hid (Has (w8.alloc (.cells #[.int .i64 A] 3)) (intsS (.slice ah hs.length ch) hs.reverse :: pts w8.heap.size (.cells #[.int .i64 A] 3 (0, 0)) :: stS p bank sp Q2 :: spaceS sp X2 :: bankS (k + 1) bank D2 :: pts r11 (.cells #[.int .i64 n.level, .slice ak n.keys.length ck, .slice av n.vals.length cv] 35 (0, 0)) :: intsS (.slice ak n.keys.length ck) n.keys :: intsS (.slice av n.vals.length cv) n.vals :: pts r5 (.cells #[.pointer (some ⟨bank, 0, none⟩), .pointer (some ⟨sp, 0, none⟩), .pointer (some ⟨p, 0, none⟩), .pointer (some ⟨x, 0, none⟩)] 30 (0, 0)) :: l)) := hx
              have HKa : Hid (Kept w (w8.alloc (.cells #[.int .i64 A] 3))) := HK.out.alloc _
              clear hx HH HK
              go_wp2_with (at_builtin; refine wpList_append_int rfl (.tmp 130) (.tmp 132) rfl rfl rfl HX.out (.head _) (by simp) (by simp; omega) ?_; intro p' c' wz hKz hz; have HKz := Lib.hid hKz; have Hz := Lib.hid hz; clear hKz hz)
              have HM2 : Hid (BkMid w l p bank sp x r5 X0 (k + 1) (.slice p' (hs.length + 1) c') wz) := by
                refine ⟨A :: hs, Q2, X2, D2, p', c', rfl, by simp; omega, Hstk2.out, Hf2.out, Hdi2.out, HKa.out.trans HKz.out, ?_⟩
                rw [List.reverse_cons]
                exact (Hz.out.reord [1, 4, 4, 4, 0, 0, 1]).tail.tail.tail.tail
              clear HX HKa HKz Hz
              go_roundg (os.length - (k + 1))
              case measure => omega
              case rel => exact ⟨k + 1, by omega, rfl, by go_num, HM2⟩
        · skip
          have hh := HH.out
          have HC := Lib.hid (law_awake hh (Ht.out.app [_, _, _, _, _, _]))
          clear hh
          rcases Nat.lt_or_ge 100 ks.length with hq | hq
          · have hqi : (100 : Int) < (ks.length : Int) := by omega
            clear hmax
            go_wp2_with fail
            refine HC.out.mono ?_
            rintro r w40 ⟨rfl, hK, h1⟩
            have HF : Hid (Kept w w40 ∧ Has w40 l) := ⟨HK.out.trans hK, h1.tail.tail.tail.tail.tail.tail⟩
            clear hK h1 HH HK HC q0 q1 q2 q3 q4 q5
            go_wp2
            go_ret
            exact ⟨rfl, HF.out.1, HF.out.2⟩
          · have hq2 : 100 < vs.length := by omega
            have hqi : (100 : Int) < (vs.length : Int) := by omega
            have hqj : (ks.length : Int) ≤ 100 := by omega
            clear hmax
            go_wp2_with fail
            refine HC.out.mono ?_
            rintro r w40 ⟨rfl, hK, h1⟩
            have HF : Hid (Kept w w40 ∧ Has w40 l) := ⟨HK.out.trans hK, h1.tail.tail.tail.tail.tail.tail⟩
            clear hK h1 HH HK HC q0 q1 q2 q3 q4 q5
            go_wp2
            go_ret
            exact ⟨rfl, HF.out.1, HF.out.2⟩
      · have hke : k = os.length := by omega
        subst hke
        clear hlt hk
        have hsl : hs.length ≤ 80 := by omega
        have hB := Hstk.out.binv HX0.out HE0.out
        have hFk := hB.fok Hdi.out
        have hFb : ∀ q ∈ Q, 0 ≤ q.1 ∧ q.1 < 32768 := by
          obtain ⟨xx, ok, _⟩ := hh.tail.st_open
          exact ok.bd
        have hoe : OkEnts es ∧ es ≠ [] := by
          obtain ⟨xx, ok, _⟩ := (hh.pull 3).sp_open
          rw [← hB.xis.ent]
          exact ⟨ok.ents, ok.ne⟩
        have hXe := hB.xis.ent
        have HB := Lib.hid hB
        have HFk := Lib.hid hFk
        have HFb := Lib.hid hFb
        have Hoe := Lib.hid hoe
        have HXe := Lib.hid hXe
        clear hB hFk hFb hoe hXe Hstk Hf Hdi hh
        have ah := HH.out.at (b := r5) (o := (.cells #[.pointer (some ⟨bank, 0, none⟩), .pointer (some ⟨sp, 0, none⟩), .pointer (some ⟨p, 0, none⟩), .pointer (some ⟨x, 0, none⟩)] 30 (0, 0))) (by simp [trio, world4, pull, reord])
        have a0 : wr.cell? ⟨r5, 0, none⟩ = some (.pointer (some ⟨bank, 0, none⟩)) := cell_of ah 0 rfl
        have a1 : wr.cell? ⟨r5, 1, none⟩ = some (.pointer (some ⟨sp, 0, none⟩)) := cell_of ah 1 rfl
        have al : r5 < wr.heap.size := World.block_lt_of_cell? _ _ a0
        clear ah
        have hh := HH.out
        have HC := Lib.hid (sp_Roster (hh.pull 3))
        clear hh
        go_wp2_with fail
        refine HC.out.mono ?_
        rintro r w51 ⟨ev, rfl, hK, h1⟩
        clear a0 a1 al HC
        rw [HXe.out] at h1
        have hk1 := HK.out.trans hK
        clear HK
        have HK := Lib.hid hk1
        clear hk1
        clear HH
        have HH := Lib.hid h1
        clear h1 hK
        have ah := HH.out.at (b := r5) (o := (.cells #[.pointer (some ⟨bank, 0, none⟩), .pointer (some ⟨sp, 0, none⟩), .pointer (some ⟨p, 0, none⟩), .pointer (some ⟨x, 0, none⟩)] 30 (0, 0))) (by simp [trio, world4, pull, reord])
        have a0 : w51.cell? ⟨r5, 0, none⟩ = some (.pointer (some ⟨bank, 0, none⟩)) := cell_of ah 0 rfl
        have al : r5 < w51.heap.size := World.block_lt_of_cell? _ _ a0
        clear ah
        have hh := HH.out
        have HC := Lib.hid (sp_New hh (.head _) Hoe.out.1 Hoe.out.2)
        clear hh
        go_wp2_with fail
        refine HC.out.mono ?_
        rintro r w52 ⟨s2, rfl, hK, h1⟩
        clear a0 al HC
        have hk1 := HK.out.trans hK
        clear HK
        have HK := Lib.hid hk1
        clear hk1
        clear HH
        have HH := Lib.hid h1
        clear h1 hK
        have ah := HH.out.at (b := r5) (o := (.cells #[.pointer (some ⟨bank, 0, none⟩), .pointer (some ⟨sp, 0, none⟩), .pointer (some ⟨p, 0, none⟩), .pointer (some ⟨x, 0, none⟩)] 30 (0, 0))) (by simp [trio, world4, pull, reord])
        have a0 : w52.cell? ⟨r5, 0, none⟩ = some (.pointer (some ⟨bank, 0, none⟩)) := cell_of ah 0 rfl
        have al : r5 < w52.heap.size := World.block_lt_of_cell? _ _ a0
        clear ah
        have hh := HH.out
        have HC := Lib.hid (st_New hh bank s2)
        clear hh
        go_wp2_with fail
        refine HC.out.mono ?_
        rintro r w53 ⟨p2, rfl, hK, h1⟩
        clear a0 al HC
        have h2 : Has w53 (intsS (.slice ah hs.length ch) hs.reverse :: stS p2 bank s2 [] :: bankS os.length bank disks :: spaceS s2 (freshSpc es) :: stS p bank sp Q :: spaceS sp X :: pts r5 (.cells #[.pointer (some ⟨bank, 0, none⟩), .pointer (some ⟨sp, 0, none⟩), .pointer (some ⟨p, 0, none⟩), .pointer (some ⟨x, 0, none⟩)] 30 (0, 0)) :: l) := (h1.st_tight.pull 2).tail.reord [3, 0, 3, 0, 1]
        have hk1 := HK.out.trans hK
        clear HK
        have HK := Lib.hid hk1
        clear hk1
        have HM3 : Hid (BkLoop w l p bank sp x r5 p2 s2 os.length es hs Q X disks (.slice ah hs.length ch) hs.length w53) := ⟨[], freshSpc es, by rw [Nat.sub_self]; exact BkInv.zero es Q hs, HK.out, h2⟩
        clear h1 h2 hK HH HK Hoe HXe
        generalize hm : hs.length = m at *
        have Hm := Lib.hid hm
        clear hm
        have hmI : (m : Int) ≤ 80 := by omega
        have hwm : IntKind.i64.wrap ((m : Int) - 1) = (m : Int) - 1 := by rw [IntKind.wrap_i64]; omega
        go_wp2
        go_loopg [20] m (fun gk i wr => ∃ n : Nat, n ≤ m ∧ gk = n ∧ i = .int .i64 ((n : Int) - 1) ∧ Hid (BkLoop w l p bank sp x r5 p2 s2 os.length es hs Q X disks (.slice ah m ch) n wr))
        case atStart => exact ⟨m, Nat.le_refl _, rfl, rfl, HM3⟩
        case round =>
          clear HM3
          obtain ⟨n, hn, hgk, rfl, HM⟩ := hrel
          obtain rfl := hgk.symm
          obtain ⟨Qm, Xm, hinv, hK, hh⟩ := HM.out
          clear HM
          by_cases hn0 : 0 < n
          · obtain ⟨q, rfl⟩ : ∃ q, n = q + 1 := ⟨n - 1, by omega⟩
            rw [show (((q + 1 : Nat) : Int) - 1) = (q : Int) by omega]
            clear hn0
            have hql : q < hs.reverse.length := by have := Hm.out; rw [List.length_reverse]; omega
            obtain ⟨a, hra⟩ : ∃ a, hs.reverse[q]? = some a := ⟨_, List.getElem?_eq_getElem hql⟩
            have hra2 : hs[hs.length - (q + 1)]? = some a := by
              rw [List.length_reverse] at hql
              rw [List.getElem?_reverse hql] at hra
              rw [show hs.length - (q + 1) = hs.length - 1 - q by omega]; exact hra
            obtain ⟨Q1, X1, g, hak, hga, hh0, hh1, hsub, hinv2⟩ := BkInv.step HB.out HFb.out (by have := Hm.out; omega) hinv hra2
            rw [show hs.length - (q + 1) + 1 = hs.length - q by have := Hm.out; omega] at hinv2
            obtain ⟨_, _, eah, _, hrd⟩ := hh.ints_read (v := .slice ah m ch) (xs := hs.reverse) (.head _)
            obtain ⟨gh, eah2, hx1, hx2⟩ := hrd q hql
            injection eah with ea1 ea2 ea3
            subst ea1
            clear ea2 ea3
            subst eah2
            have hcel := hh.ints_at (n := m) (c := ch) (xs := hs.reverse) (.head _) hra
            have lgh := World.block_lt_of_cell? _ _ hcel
            have hqm : (q : Int) < (m : Int) := by omega
            have HC := Lib.hid (st_Adopt HFk.out (by omega) a g (hh.reord [1, 1, 1]) hsub hak hga hh0 hh1)
            have HI := Lib.hid hinv2
            have HK := Lib.hid hK
            clear hx1 hx2 hrd hh hK hinv hinv2 hsub hak hga hh0 hh1 hra hra2 hql
            go_wp2_with fail
            refine HC.out.mono ?_
            rintro r w54 ⟨rfl, hK, h1⟩
            have HM4 : Hid (BkLoop w l p bank sp x r5 p2 s2 os.length es hs Q X disks (.slice (some ⟨gh, 0, none⟩) m ch) q w54) := ⟨_, _, HI.out, HK.out.trans hK, h1.reord [3]⟩
            clear hcel lgh HC HI HK hK h1
            go_wp2
            go_roundg q
            case measure => omega
            case rel => exact ⟨q, by omega, rfl, by go_num, HM4⟩
          · have hn1 : n = 0 := by omega
            subst hn1
            rw [Nat.sub_zero] at hinv
            obtain ⟨rfl, hx2⟩ := BkInv.done HB.out hinv
            have hfr : Xm.freeAll = X.freeAll := hx2.free HB.out.xis
            have HX2 := Lib.hid hx2
            have Hfr := Lib.hid hfr
            have HK := Lib.hid hK
            have HH : Hid (Has wr (intsS (.slice ah m ch) hs.reverse :: stS p2 bank s2 Qm :: bankS os.length bank disks :: spaceS s2 Xm :: stS p bank sp Qm :: spaceS sp X :: pts r5 (.cells #[.pointer (some ⟨bank, 0, none⟩), .pointer (some ⟨sp, 0, none⟩), .pointer (some ⟨p, 0, none⟩), .pointer (some ⟨x, 0, none⟩)] 30 (0, 0)) :: l)) := hh
            have hQl : Qm.length ≤ 32768 := by
              have := up_len 32768 Qm 0 HB.out.up HFb.out
              omega
            clear hh hK hx2 hfr hinv hn hn0
            have ah := HH.out.at (b := r5) (o := (.cells #[.pointer (some ⟨bank, 0, none⟩), .pointer (some ⟨sp, 0, none⟩), .pointer (some ⟨p, 0, none⟩), .pointer (some ⟨x, 0, none⟩)] 30 (0, 0))) (by simp [trio, world4, pull, reord])
            have a2 : wr.cell? ⟨r5, 2, none⟩ = some (.pointer (some ⟨p, 0, none⟩)) := cell_of ah 2 rfl
            have al : r5 < wr.heap.size := World.block_lt_of_cell? _ _ a2
            clear ah
            have hh := HH.out
            have HC := Lib.hid (st_Pages (hh.pull 4) (by omega))
            clear hh
            go_wp2_with fail
            refine HC.out.mono ?_
            rintro r w61 ⟨vl, rfl, hK, h1⟩
            clear a2 al HC
            have hk1 := HK.out.trans hK
            clear HK
            have HK := Lib.hid hk1
            clear hk1
            clear HH
            have HH := Lib.hid h1
            clear h1 hK
            have hh := HH.out
            have HC := Lib.hid (st_Pages (hh.pull 3) (by omega))
            clear hh
            go_wp2_with fail
            refine HC.out.mono ?_
            rintro r w62 ⟨vm, rfl, hK, h1⟩
            clear HC
            obtain ⟨ala, cl, rfl, _⟩ := h1.ints_read (v := vl) (xs := Qm.map (·.1)) (by simp)
            obtain ⟨ama, cm, rfl, _⟩ := h1.ints_read (v := vm) (xs := Qm.map (·.1)) (.head _)
            rw [List.length_map] at h1 ⊢
            obtain ⟨ql, hql⟩ : ∃ ql, ql = Qm.length := ⟨_, rfl⟩
            rw [← hql] at h1 hQl ⊢
            have Hql := Lib.hid hql
            clear hql
            have hk1 := HK.out.trans hK
            clear HK
            have HK := Lib.hid hk1
            clear hk1
            clear HH
            have HH : Hid (Has w62 (intsS (.slice ama ql cm) (Qm.map (·.1)) :: stS p2 bank s2 Qm :: intsS (.slice ala ql cl) (Qm.map (·.1)) :: stS p bank sp Qm :: intsS (.slice ah m ch) hs.reverse :: bankS os.length bank disks :: spaceS s2 Xm :: spaceS sp X :: pts r5 (.cells #[.pointer (some ⟨bank, 0, none⟩), .pointer (some ⟨sp, 0, none⟩), .pointer (some ⟨p, 0, none⟩), .pointer (some ⟨x, 0, none⟩)] 30 (0, 0)) :: l)) := h1
            clear h1 hK
            have ah := HH.out.at (b := r5) (o := (.cells #[.pointer (some ⟨bank, 0, none⟩), .pointer (some ⟨sp, 0, none⟩), .pointer (some ⟨p, 0, none⟩), .pointer (some ⟨x, 0, none⟩)] 30 (0, 0))) (by simp [trio, world4, pull, reord])
            have a1 : w62.cell? ⟨r5, 1, none⟩ = some (.pointer (some ⟨sp, 0, none⟩)) := cell_of ah 1 rfl
            have al : r5 < w62.heap.size := World.block_lt_of_cell? _ _ a1
            clear ah
            have hh := HH.out
            clear HH
            go_wp2
            obtain ⟨FA, HFA⟩ : ∃ FA : List (Nat × Addr × Value), Hid (FA = [(9, ⟨r5, 1, none⟩, .pointer (some ⟨sp, 0, none⟩))]) := ⟨_, rfl⟩
            have fa9 : ∀ n : In (factsOf FA 9), n.w.cell? ⟨r5, 1, none⟩ = some (.pointer (some ⟨sp, 0, none⟩)) := fun n => factsOf.cell (by rw [HFA.out]; simp) n
            have hFA : ∀ p ∈ FA, w62.cell? p.2.1 = some p.2.2 := by rw [HFA.out]; exact (fcons a1 fnil)
            haveI neFA : ∀ k, Nonempty (In (factsOf FA k)) := fun k => ⟨⟨_, factsOf.drew hFA k⟩⟩
            refine ws_begin [0, 1, 2, 3, 4, 5, 6, 7, 8, 9, 10, 11, 12] (factsOf FA) (intsS (.slice ama ql cm) (Qm.map (·.1)) :: stS p2 bank s2 Qm :: intsS (.slice ala ql cl) (Qm.map (·.1)) :: stS p bank sp Qm :: intsS (.slice ah m ch) hs.reverse :: bankS os.length bank disks :: spaceS s2 Xm :: spaceS sp X :: pts r5 (.cells #[.pointer (some ⟨bank, 0, none⟩), .pointer (some ⟨sp, 0, none⟩), .pointer (some ⟨p, 0, none⟩), .pointer (some ⟨x, 0, none⟩)] 30 (0, 0)) :: l) #[0, 1, 0, 4, 15, 31, 63, 127, 63, 319, 1023, 2047, 4095] (by kernel_rfl) (by kernel_rfl) (by kernel_rfl) factsOf.alloc (factsOf.drew hFA) hh ?_
            clear hFA
            refine ws_q (at_lit rfl) rfl rfl rfl ?_
            go_big_quiet_op
            show WS _ _ _ _ _ _ _ _ _ _
            refine ws_len (at_lit rfl) rfl rfl (.tmp 171) 22 rfl Tryz.underlying22 _ _ _ rfl ?_
            simp only [Act.put, List.setIfInBounds_toArray, List.set_cons_zero, List.set_cons_succ]
            show WS _ _ _ _ _ _ _ _ _ _
            refine ws_q (at_lit rfl) rfl rfl rfl ?_
            go_big_quiet_op
            show WS _ _ _ _ _ _ _ _ _ _
            refine ws_len (at_lit rfl) rfl rfl (.tmp 173) 22 rfl Tryz.underlying22 _ _ _ rfl ?_
            simp only [Act.put, List.setIfInBounds_toArray, List.set_cons_zero, List.set_cons_succ]
            show WS _ _ _ _ _ _ _ _ _ _
            refine ws_q (at_lit rfl) rfl rfl rfl ?_
            go_big_quiet_op
            show WS _ _ _ _ _ _ _ _ _ _
            refine ws_q (at_lit rfl) rfl rfl rfl ?_
            go_big_quiet_op
            show WS _ _ _ _ _ _ _ _ _ _
            refine ws_q (at_lit rfl) rfl rfl rfl ?_
            go_big_quiet_op
            show WS _ _ _ _ _ _ _ _ _ _
            refine ws_call (at_lit rfl) rfl rfl 22 #[.pointer (some ⟨s2, 0, none⟩)] (fun w => by go_simp) (fun v L' => v = .int .i64 (X.freeAll : Nat) ∧ L' = spaceS s2 Xm :: intsS (.slice ama ql cm) (Qm.map (·.1)) :: stS p2 bank s2 Qm :: intsS (.slice ala ql cl) (Qm.map (·.1)) :: stS p bank sp Qm :: intsS (.slice ah m ch) hs.reverse :: bankS os.length bank disks :: spaceS sp X :: pts r5 (.cells #[.pointer (some ⟨bank, 0, none⟩), .pointer (some ⟨sp, 0, none⟩), .pointer (some ⟨p, 0, none⟩), .pointer (some ⟨x, 0, none⟩)] 30 (0, 0)) :: l) (fun w' F hS hh => ?_) ?_
            · refine (sp_FreeAll (hh.pull 6)).mono ?_
              rintro r w2' ⟨rfl, hK, h5⟩
              exact ⟨_, _, by rw [Hfr.out], hK, ⟨rfl, rfl⟩, h5⟩
            rintro _ _ ⟨rfl, rfl⟩
            refine ⟨fun w F hh => lives (l' := [(9, ⟨r5, 1, none⟩, .pointer (some ⟨sp, 0, none⟩))]) (by rw [HFA.out]; simp [liveFacts, Nat.testBit]) (fcons (cell_of (hh.at (b := r5) (o := (.cells #[.pointer (some ⟨bank, 0, none⟩), .pointer (some ⟨sp, 0, none⟩), .pointer (some ⟨p, 0, none⟩), .pointer (some ⟨x, 0, none⟩)] 30 (0, 0))) (by simp)) 1 (v := .pointer (some ⟨sp, 0, none⟩)) rfl) <| fnil), ?_⟩
            simp only [Act.put, List.setIfInBounds_toArray, List.set_cons_zero, List.set_cons_succ]
            show WS _ _ _ _ _ _ _ _ _ _
            refine ws_q (at_lit rfl) rfl rfl rfl ?_
            go_big_quiet_op
            show WS _ _ _ _ _ _ _ _ _ _
            refine ws_q (at_lit rfl) rfl rfl rfl ?_
            go_big_quiet_op
            show WS _ _ _ _ _ _ _ _ _ _
            refine ws_call (at_lit rfl) rfl rfl 22 #[.pointer (some ⟨sp, 0, none⟩)] (fun w => by go_simp) (fun v L' => v = .int .i64 (X.freeAll : Nat) ∧ L' = spaceS sp X :: spaceS s2 Xm :: intsS (.slice ama ql cm) (Qm.map (·.1)) :: stS p2 bank s2 Qm :: intsS (.slice ala ql cl) (Qm.map (·.1)) :: stS p bank sp Qm :: intsS (.slice ah m ch) hs.reverse :: bankS os.length bank disks :: pts r5 (.cells #[.pointer (some ⟨bank, 0, none⟩), .pointer (some ⟨sp, 0, none⟩), .pointer (some ⟨p, 0, none⟩), .pointer (some ⟨x, 0, none⟩)] 30 (0, 0)) :: l) (fun w' F hS hh => ?_) ?_
            · refine (sp_FreeAll (hh.pull 7)).mono ?_
              rintro r w2' ⟨rfl, hK, h5⟩
              exact ⟨_, _, rfl, hK, ⟨rfl, rfl⟩, h5⟩
            rintro _ _ ⟨rfl, rfl⟩
            refine ⟨fun w F hh => lives (l' := []) (by rw [HFA.out]; simp [liveFacts, Nat.testBit]) (fnil), ?_⟩
            simp only [Act.put, List.setIfInBounds_toArray, List.set_cons_zero, List.set_cons_succ]
            show WS _ _ _ _ _ _ _ _ _ _
            refine ws_q (at_lit rfl) rfl rfl rfl ?_
            go_big_quiet_op
            show WS _ _ _ _ _ _ _ _ _ _
            refine ws_q (at_lit rfl) rfl rfl rfl ?_
            go_big_quiet_op
            show WS _ _ _ _ _ _ _ _ _ _
            refine ws_end ?_
            intro w9 hK9 h9
            have HM5 : Hid (Kept w w9 ∧ Has w9 (spaceS sp X :: spaceS s2 Xm :: intsS (.slice ama ql cm) (Qm.map (·.1)) :: stS p2 bank s2 Qm :: intsS (.slice ala ql cl) (Qm.map (·.1)) :: stS p bank sp Qm :: intsS (.slice ah m ch) hs.reverse :: bankS os.length bank disks :: pts r5 (.cells #[.pointer (some ⟨bank, 0, none⟩), .pointer (some ⟨sp, 0, none⟩), .pointer (some ⟨p, 0, none⟩), .pointer (some ⟨x, 0, none⟩)] 30 (0, 0)) :: l)) := ⟨HK.out.trans hK9, h9⟩
            clear h9 hK9 hh HFA neFA FA fa9 a1 HK Hfr
            go_wp2
            go_loopg [186] ql (fun gk i wq => ∃ j : Nat, j ≤ ql ∧ gk = ql - j ∧ i = .int .i64 j ∧ Hid (Kept w wq ∧ Has wq (spaceS sp X :: spaceS s2 Xm :: intsS (.slice ama ql cm) (Qm.map (·.1)) :: stS p2 bank s2 Qm :: intsS (.slice ala ql cl) (Qm.map (·.1)) :: stS p bank sp Qm :: intsS (.slice ah m ch) hs.reverse :: bankS os.length bank disks :: pts r5 (.cells #[.pointer (some ⟨bank, 0, none⟩), .pointer (some ⟨sp, 0, none⟩), .pointer (some ⟨p, 0, none⟩), .pointer (some ⟨x, 0, none⟩)] 30 (0, 0)) :: l)))
            case atStart => exact ⟨0, Nat.zero_le _, rfl, rfl, HM5⟩
            case round =>
              clear HM5
              obtain ⟨j, hj, rfl, rfl, HM⟩ := hrel
              obtain ⟨hK, hh⟩ := HM.out
              clear HM
              by_cases hjlt : j < ql
              · have hjQ : j < Qm.length := by have := Hql.out; omega
                obtain ⟨al', cl', eal, _, hrl⟩ := hh.ints_read (v := .slice ala ql cl) (xs := Qm.map (·.1)) (by simp)
                obtain ⟨am', cm', eam, _, hrm⟩ := hh.ints_read (v := .slice ama ql cm) (xs := Qm.map (·.1)) (by simp)
                injection eal with ea1 ea2 ea3
                injection eam with eb1 eb2 eb3
                clear ea2 ea3 eb2 eb3
                subst ea1 eb1
                obtain ⟨gl, rfl, hcl, _⟩ := hrl j (by simpa using hjQ)
                obtain ⟨gm, rfl, hcm, _⟩ := hrm j (by simpa using hjQ)
                rw [List.getElem_map] at hcl hcm
                have hmem : Qm[j] ∈ Qm := List.getElem_mem _
                have hqb := HFb.out _ hmem
                have hgt := get_at HB.out.up j hjQ
                obtain ⟨d, kk, e, had, hde, hst1, hlo, hhi, hk4, hd8⟩ := HB.out.adr Qm[j].1 (by rw [hgt]; rfl)
                have hokn := (HB.out.kid _ _ hgt).1
                have hdl : d < Xm.sh.length := by rw [HX2.out.len]; exact (List.getElem?_eq_some_iff.1 hde).1
                obtain ⟨y, hy⟩ : ∃ y, Xm.sh[d]? = some y := ⟨_, List.getElem?_eq_getElem hdl⟩
                have htk : y.taken kk = true := by rw [((HX2.out.sh d y hy).2 kk).2, ← had, hgt]; simp [hk4]
                have hin : InRoom Xm d kk e y := ⟨by rw [HX2.out.ent]; exact hde, hy, by rw [hst1]; decide, hlo, hhi⟩
                have hqm : (Qm.map (·.1))[j]? = some Qm[j].1 := by rw [List.getElem?_map, List.getElem?_eq_getElem hjQ]; rfl
                have hkb : (j : Int) < (ql : Int) := by omega
                generalize Qm[j] = qk at *
                have Hgt := Lib.hid hgt
                have Had : Hid (qk.1 = ((d * 4096 + kk : Nat) : Int)) := had
                have Hin := Lib.hid hin
                have Htk := Lib.hid htk
                have Hok := Lib.hid hokn
                have Hqm := Lib.hid hqm
                have HK := Lib.hid hK
                have HH := Lib.hid hh
                have lgl := World.block_lt_of_cell? _ _ hcl
                clear hmem hgt had hde hst1 hlo hhi hdl hy htk hin hqm hrl hrm hokn hh hK hjQ hcm
                have ah := HH.out.at (b := r5) (o := (.cells #[.pointer (some ⟨bank, 0, none⟩), .pointer (some ⟨sp, 0, none⟩), .pointer (some ⟨p, 0, none⟩), .pointer (some ⟨x, 0, none⟩)] 30 (0, 0))) (by simp [trio, world4, pull, reord])
                have a2 : wr.cell? ⟨r5, 2, none⟩ = some (.pointer (some ⟨p, 0, none⟩)) := cell_of ah 2 rfl
                have al : r5 < wr.heap.size := World.block_lt_of_cell? _ _ a2
                clear ah
                have hh := HH.out
                have HC := Lib.hid (st_Get_some (hh.pull 5) qk.1 (by omega) (by omega) Hgt.out)
                clear hh
                go_wp2_with fail
                refine HC.out.mono ?_
                rintro r w71 ⟨a5, c5, a6, c6, rfl, hK, h1⟩
                clear hcl lgl a2 al HC
                have hk1 := HK.out.trans hK
                clear HK
                have HK := Lib.hid hk1
                clear hk1
                clear HH
                have HH := Lib.hid h1
                clear h1 hK
                have hh1 := HH.out.alloc (.cells #[.int .i64 qk.2.n.level, .slice a5 qk.2.n.keys.length c5, .slice a6 qk.2.n.vals.length c6] 35)
                have hk1 := HK.out.alloc (.cells #[.int .i64 qk.2.n.level, .slice a5 qk.2.n.keys.length c5, .slice a6 qk.2.n.vals.length c6] 35)
                clear HH HK
                have HH := Lib.hid hh1
                have HK := Lib.hid hk1
                clear hh1 hk1
                have hh := HH.out
                have HC := Lib.hid (st_Get_some (hh.pull 7) qk.1 (by omega) (by omega) Hgt.out)
                clear hh
                go_wp2_with fail
                refine HC.out.mono ?_
                rintro r w72 ⟨a7, c7, a8, c8, rfl, hK, h1⟩
                clear HC
                have hk1 := HK.out.trans hK
                clear HK
                have HK := Lib.hid hk1
                clear hk1
                clear HH
                have HH := Lib.hid h1
                clear h1 hK
                have hh1 := HH.out.alloc (.cells #[.int .i64 qk.2.n.level, .slice a7 qk.2.n.keys.length c7, .slice a8 qk.2.n.vals.length c8] 35)
                have hk1 := HK.out.alloc (.cells #[.int .i64 qk.2.n.level, .slice a7 qk.2.n.keys.length c7, .slice a8 qk.2.n.vals.length c8] 35)
                clear HH HK
                have HH := Lib.hid hh1
                have HK := Lib.hid hk1
                clear hh1 hk1
                generalize hr25 : w71.heap.size = r25 at *
                generalize hr27 : w72.heap.size = r27 at *
                clear hr25 hr27
                have sh := HH.out.at (b := r25) (o := (.cells #[.int .i64 qk.2.n.level, .slice a5 qk.2.n.keys.length c5, .slice a6 qk.2.n.vals.length c6] 35 (0, 0))) (by simp [trio, world4, pull, reord])
                have s0 : (w72.alloc (.cells #[.int .i64 qk.2.n.level, .slice a7 qk.2.n.keys.length c7, .slice a8 qk.2.n.vals.length c8] 35)).cell? ⟨r25, 0, none⟩ = some (.int .i64 qk.2.n.level) := cell_of sh 0 rfl
                have s1 : (w72.alloc (.cells #[.int .i64 qk.2.n.level, .slice a7 qk.2.n.keys.length c7, .slice a8 qk.2.n.vals.length c8] 35)).cell? ⟨r25, 1, none⟩ = some (.slice a5 qk.2.n.keys.length c5) := cell_of sh 1 rfl
                have s2 : (w72.alloc (.cells #[.int .i64 qk.2.n.level, .slice a7 qk.2.n.keys.length c7, .slice a8 qk.2.n.vals.length c8] 35)).cell? ⟨r25, 2, none⟩ = some (.slice a6 qk.2.n.vals.length c6) := cell_of sh 2 rfl
                have sl : r25 < (w72.alloc (.cells #[.int .i64 qk.2.n.level, .slice a7 qk.2.n.keys.length c7, .slice a8 qk.2.n.vals.length c8] 35)).heap.size := World.block_lt_of_cell? _ _ s0
                clear sh
                have th := HH.out.at (b := r27) (o := (.cells #[.int .i64 qk.2.n.level, .slice a7 qk.2.n.keys.length c7, .slice a8 qk.2.n.vals.length c8] 35 (0, 0))) (by simp [trio, world4, pull, reord])
                have t0 : (w72.alloc (.cells #[.int .i64 qk.2.n.level, .slice a7 qk.2.n.keys.length c7, .slice a8 qk.2.n.vals.length c8] 35)).cell? ⟨r27, 0, none⟩ = some (.int .i64 qk.2.n.level) := cell_of th 0 rfl
                have t1 : (w72.alloc (.cells #[.int .i64 qk.2.n.level, .slice a7 qk.2.n.keys.length c7, .slice a8 qk.2.n.vals.length c8] 35)).cell? ⟨r27, 1, none⟩ = some (.slice a7 qk.2.n.keys.length c7) := cell_of th 1 rfl
                have t2 : (w72.alloc (.cells #[.int .i64 qk.2.n.level, .slice a7 qk.2.n.keys.length c7, .slice a8 qk.2.n.vals.length c8] 35)).cell? ⟨r27, 2, none⟩ = some (.slice a8 qk.2.n.vals.length c8) := cell_of th 2 rfl
                have tl : r27 < (w72.alloc (.cells #[.int .i64 qk.2.n.level, .slice a7 qk.2.n.keys.length c7, .slice a8 qk.2.n.vals.length c8] 35)).heap.size := World.block_lt_of_cell? _ _ t0
                clear th
                have ah := HH.out.at (b := r5) (o := (.cells #[.pointer (some ⟨bank, 0, none⟩), .pointer (some ⟨sp, 0, none⟩), .pointer (some ⟨p, 0, none⟩), .pointer (some ⟨x, 0, none⟩)] 30 (0, 0))) (by simp [trio, world4, pull, reord])
                have a2 : (w72.alloc (.cells #[.int .i64 qk.2.n.level, .slice a7 qk.2.n.keys.length c7, .slice a8 qk.2.n.vals.length c8] 35)).cell? ⟨r5, 2, none⟩ = some (.pointer (some ⟨p, 0, none⟩)) := cell_of ah 2 rfl
                have al : r5 < (w72.alloc (.cells #[.int .i64 qk.2.n.level, .slice a7 qk.2.n.keys.length c7, .slice a8 qk.2.n.vals.length c8] 35)).heap.size := World.block_lt_of_cell? _ _ a2
                clear ah
                have hcm := (HH.out).ints_at (g := gm) (n := ql) (c := cm) (xs := Qm.map (·.1)) (by simp) Hqm.out
                have lgm := World.block_lt_of_cell? _ _ hcm
                have hkl7 : qk.2.n.keys.length ≤ 1000000 ∧ qk.2.n.vals.length ≤ 1000000 := by have := ok_lens Hok.out; omega
                have Hkl7 := Lib.hid hkl7
                clear hkl7
                have hh := HH.out
                have HC := Lib.hid (node_Same_yes qk.2.n (hh.rd (v := .slice a5 qk.2.n.keys.length c5) (xs := qk.2.n.keys) (by simp)) (hh.rd (v := .slice a6 qk.2.n.vals.length c6) (xs := qk.2.n.vals) (by simp)) (hh.rd (v := .slice a7 qk.2.n.keys.length c7) (xs := qk.2.n.keys) (by simp)) (hh.rd (v := .slice a8 qk.2.n.vals.length c8) (xs := qk.2.n.vals) (by simp)) Hkl7.out.1 Hkl7.out.2)
                clear hh
                simp only [Nd.val] at HC
                go_wp2_with fail
                refine HC.out.mono ?_
                rintro r w73 ⟨rfl, hb⟩
                clear s0 s1 s2 sl t0 t1 t2 tl a2 al hcm lgm HC
                have h1 := HH.out.below hb
                have hK := Kept.below hb
                have hk1 := HK.out.trans hK
                clear HK
                have HK := Lib.hid hk1
                clear hk1
                clear HH
                have HH := Lib.hid h1
                clear h1 hK hb
                have ah := HH.out.at (b := r5) (o := (.cells #[.pointer (some ⟨bank, 0, none⟩), .pointer (some ⟨sp, 0, none⟩), .pointer (some ⟨p, 0, none⟩), .pointer (some ⟨x, 0, none⟩)] 30 (0, 0))) (by simp [trio, world4, pull, reord])
                have a2 : w73.cell? ⟨r5, 2, none⟩ = some (.pointer (some ⟨p, 0, none⟩)) := cell_of ah 2 rfl
                have al : r5 < w73.heap.size := World.block_lt_of_cell? _ _ a2
                clear ah
                skip
                have hh := HH.out
                have HC := Lib.hid (st_Holds (p := p) (bank := bank) (sp := sp) (n := 32768) (Q := Qm) (hh.pull 7) qk.1 (by omega) (by omega))
                clear hh
                go_wp2_with fail
                refine HC.out.mono ?_
                rintro r w74 ⟨rfl, rfl⟩
                clear a2 al HC
                skip
                have hh := HH.out
                have HC := Lib.hid (st_Holds (p := p2) (bank := bank) (sp := s2) (n := 32768) (Q := Qm) (hh.pull 3) qk.1 (by omega) (by omega))
                clear hh
                go_wp2_with fail
                refine HC.out.mono ?_
                rintro r w75 ⟨rfl, rfl⟩
                clear HC
                have hh := HH.out
                have HC := Lib.hid (sp_Taken (s := s2) (X := Xm) (hh.pull 9) d kk e y Hin.out)
                clear hh
                rw [← Had.out] at HC
                rw [Htk.out] at HC
                go_wp2_with fail
                refine HC.out.mono ?_
                rintro r w76 ⟨rfl, hK, h1⟩
                clear HC
                have h2 := (((((((h1.pull 1).tail.pull 1).tail.pull 1).tail.pull 2).tail.pull 2).tail.pull 2).tail.reord [3, 0, 2, 0, 1])
                have HM6 : Hid (Kept w w76 ∧ Has w76 (spaceS sp X :: spaceS s2 Xm :: intsS (.slice (some ⟨gm, 0, none⟩) ql cm) (Qm.map (·.1)) :: stS p2 bank s2 Qm :: intsS (.slice (some ⟨gl, 0, none⟩) ql cl) (Qm.map (·.1)) :: stS p bank sp Qm :: intsS (.slice ah m ch) hs.reverse :: bankS os.length bank disks :: pts r5 (.cells #[.pointer (some ⟨bank, 0, none⟩), .pointer (some ⟨sp, 0, none⟩), .pointer (some ⟨p, 0, none⟩), .pointer (some ⟨x, 0, none⟩)] 30 (0, 0)) :: l)) := ⟨HK.out.trans hK, h2⟩
                clear h1 h2 hK HH HK Hgt Had Hin Htk Hok Hqm Hkl7
                go_wp2
                go_roundg (ql - (j + 1))
                case measure => omega
                case rel => exact ⟨j + 1, by omega, rfl, by go_num, HM6⟩
              · have hje : j = ql := by omega
                subst hje
                have HK := Lib.hid hK
                have HH := Lib.hid hh
                clear hK hh hjlt hj
                have hh := HH.out
                have HC := Lib.hid (law_awake hh (Ht.out.app [_, _, _, _, _, _, _, _, _]))
                clear hh
                go_wp2_with fail
                refine HC.out.mono ?_
                rintro r w81 ⟨rfl, hK, h1⟩
                clear HC
                have HF : Hid (Kept w w81 ∧ Has w81 l) := ⟨HK.out.trans hK, h1.tail.tail.tail.tail.tail.tail.tail.tail.tail⟩
                clear hK h1 HH HK
                go_wp2
                go_ret
                exact ⟨rfl, HF.out.1, HF.out.2⟩
  · have hlenI : (80 : Int) < (os.length : Int) := by omega
    have hh := HH.out
    have HC := Lib.hid (law_awake hh (Ht.out.app [_, _, _, _, _]))
    clear hh
    go_wp2_with fail
    refine HC.out.mono ?_
    rintro r w91 ⟨rfl, hK, h1⟩
    clear HC
    have HF : Hid (Kept w w91 ∧ Has w91 l) := ⟨HK.out.trans hK, h1.tail.tail.tail.tail.tail⟩
    clear hK h1 HH HK
    go_wp2
    go_ret
    exact ⟨rfl, HF.out.1, HF.out.2⟩
end Go.Proofs.YtgbgneiciabidaaGreatDoor
