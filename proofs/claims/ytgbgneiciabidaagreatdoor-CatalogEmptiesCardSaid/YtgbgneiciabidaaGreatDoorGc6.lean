/-
  CatalogEmpties: the walk.
-/
import Derived.Test.YtgbgneiciabidaaGreatDoorGc5
import Derived.Deep.Slices
import Derived.SizedLaws
namespace Go.Proofs.YtgbgneiciabidaaGreatDoor
open Go Go.RowKit
set_option linter.all false
set_option maxHeartbeats 8000000
def wldS (t bank sp p c : Nat) : Say := pts t (.cells #[.pointer (some ⟨bank, 0, none⟩), .pointer (some ⟨sp, 0, none⟩), .pointer (some ⟨p, 0, none⟩), .pointer (some ⟨c, 0, none⟩)] 100 (0, 0))
theorem Has.wl3 {w : World} {l : List Say} {t bank sp p c : Nat} (h : Has w l) (hm : wldS t bank sp p c ∈ l) : w.cell? ⟨t, 3, none⟩ = some (.pointer (some ⟨c, 0, none⟩)) := cell_of (h.at hm) 3 rfl
theorem Has.wl2 {w : World} {l : List Say} {t bank sp p c : Nat} (h : Has w l) (hm : wldS t bank sp p c ∈ l) : w.cell? ⟨t, 2, none⟩ = some (.pointer (some ⟨p, 0, none⟩)) := cell_of (h.at hm) 2 rfl
def EmA (w : World) (l : List Say) (t bank sp p c : Nat) (wr : World) : Prop :=
 Kept w wr /\ ∃ M, Has wr (wldS t bank sp p c :: catS c p M 0 :: btS p bank sp 0 (eSizes [500]) [] :: l)
def EmB (w : World) (l : List Say) (t bank sp p c : Nat) (M0 : List (Int × Vl)) (i n : Nat) (wr : World) : Prop :=
 i + n = M0.length /\ Kept w wr /\ ∃ M Q a s, M.length = n /\ Grove Q [⟨a, ctPairs M0, s⟩] /\ s <= 97 /\ Has wr (wldS t bank sp p c :: catS c p M a :: btS p bank sp 4800 (eSizes [500]) Q :: l)
theorem Has.cat_ok {w : World} {l : List Say} {c p : Nat} {M : List (Int × Vl)} {a : Int} (h : Has w (catS c p M a :: l)) : CatOk M := by obtain ⟨_, _, ok, _⟩ := h.cat_open; exact ok
theorem del_one {M : List (Int × Vl)} (h : VMap.Up M) {k : Int} {v : Vl} (hg : VMap.get k M = some v) : (VMap.del k M).length + 1 = M.length := by
 have := (VMap.get_split h hg).length_eq
 simpa using this.symm
theorem del_gone (M : List (Int × Vl)) (k : Int) : VMap.get k (VMap.del k M) = none := by
 unfold VMap.get VMap.del
 rw [List.find?_eq_none.2 (fun x hx => by simpa using (List.mem_filter.1 hx).2)]
 rfl
theorem root_zero {es : List Ent} {Q : Pgs} {D : Int -> Nat} (hI : FInv es Q D) {a : Int} {s : Nat} (h : Root Q a [] s) : a = 0 /\ s = 0 := by
 rcases h.it with ⟨h1, _, h2⟩ | ⟨lv, hT, _, _⟩
 ·exact ⟨h1, h2⟩
 ·exact absurd rfl (hT.some_pair hI)
theorem rem_in (q : Int) (n : Nat) (h : 1 <= n) (hn : n <= 1000) : 0 <= (q.tmod n + n).tmod n /\ (q.tmod n + n).tmod n < n /\ IntKind.i64.wrap (q.tmod n) = q.tmod n /\ IntKind.i64.wrap (q.tmod n + n) = q.tmod n + n /\ IntKind.i64.wrap ((q.tmod n + n).tmod n) = (q.tmod n + n).tmod n := by
 have hn0 : (0 : Int) < n := by omega
 have a1 : q.tmod n < n := Int.tmod_lt_of_pos q hn0
 have a2 : -(n : Int) < q.tmod n := by
  have := Int.tmod_lt_of_pos (-q) hn0
  rw [Int.neg_tmod] at this
  omega
 have a3 := Int.tmod_nonneg (n : Int) (a := q.tmod n + n) (by omega)
 have a4 := Int.tmod_lt_of_pos (q.tmod n + n) hn0
 refine ⟨a3, a4, ?_, ?_, ?_⟩ <;> (rw [IntKind.wrap_i64]; omega)
set_option maxRecDepth 100000 in
theorem law_empties {w : World} {l : List Say} (os : List O4) (ks : List Int) {sv kv : Value} (h : Has w l) (ht : Tab l) (hs : O4Srcs l sv os) (hb : ∀ o ∈ os, -9223372036854775808 <= o.kd /\ o.kd <= 9223372036854775807) (hk : Srcs l kv ks) :
  Calls Tryz.prog 12 #[sv, kv] w (fun r w' => r = .returned (.bool true) /\ Kept w w' /\ Has w' l) := by
 obtain ⟨sa, sc, rfl, _⟩ := hs w h
 obtain ⟨ka, kc, rfl, _⟩ := (hk w h).rd
 have HM := Lib.hid (made13 h)
 have Ht := Lib.hid ht
 have Hs := Lib.hid (And.intro hs hb)
 have Hk := Lib.hid hk
 obtain ⟨n, hn⟩ : ∃ n, os.length = n := ⟨_, rfl⟩
 obtain ⟨q, hq⟩ : ∃ q, ks.length = q := ⟨_, rfl⟩
 rw [hn] at Hs ⊢
 rw [hq] at Hk ⊢
 have Hn := Lib.hid (And.intro hn hq)
 clear h ht hs hb hk hn hq
 go_enter Tryz.func12, Tryz.ntmps12
 go_wp2_with fail
 refine HM.out.mono ?_
 rintro r w1 ⟨bank, sp, p, c, rfl, hK1, h1⟩
 have h2 : Has (w1.alloc (.cells #[.pointer (some ⟨bank, 0, none⟩), .pointer (some ⟨sp, 0, none⟩), .pointer (some ⟨p, 0, none⟩), .pointer (some ⟨c, 0, none⟩)] 100)) (wldS w1.heap.size bank sp p c :: catS c p [] 0 :: btS p bank sp 0 (eSizes [500]) [] :: l) := h1.alloc _
 have hk2 := hK1.alloc (.cells #[.pointer (some ⟨bank, 0, none⟩), .pointer (some ⟨sp, 0, none⟩), .pointer (some ⟨p, 0, none⟩), .pointer (some ⟨c, 0, none⟩)] 100)
 simp only [ptrV]
 have HA := Lib.hid (awake13 h2 Ht.out.cons.cons.cons)
 have HM0 := Lib.hid (show EmA w l w1.heap.size bank sp p c _ from ⟨hk2, [], h2⟩)
 clear h1 h2 hK1 hk2 HM
 by_cases hn40 : 40 < n
 ·skip
  have nI : (40 : Int) < n := by omega
  have nD : decide ((40 : Int) < n) = true := by simp [nI]
  clear hn40
  go_wp2_with fail
  refine HA.out.mono ?_
  rintro r w2 ⟨rfl, hK2, h2⟩
  have HF : Hid (Kept w w2 /\ Has w2 l) := ⟨HM0.out.1.trans hK2, h2.tail.tail.tail⟩
  clear hK2 h2 HA HM0
  go_wp2
  go_ret
  exact ⟨rfl, HF.out⟩
 have nI : ¬ (40 : Int) < n := by omega
 have nD : decide ((40 : Int) < n) = false := by simp [nI]
 have nL : (n : Int) <= 40 := by omega
 by_cases hq40 : q < 40
 ·skip
  have qI : (q : Int) < 40 := by omega
  have qD : decide ((q : Int) < 40) = true := by simp [qI]
  clear hq40
  go_wp2_with fail
  refine HA.out.mono ?_
  rintro r w2 ⟨rfl, hK2, h2⟩
  have HF : Hid (Kept w w2 /\ Has w2 l) := ⟨HM0.out.1.trans hK2, h2.tail.tail.tail⟩
  clear hK2 h2 HA HM0
  go_wp2
  go_ret
  exact ⟨rfl, HF.out⟩
 have qI : ¬ (q : Int) < 40 := by omega
 have qD : decide ((q : Int) < 40) = false := by simp [qI]
 clear HA hn40
 go_wp2
 generalize w1.heap.size = t at *
 go_loopg [34] n (fun gk iv wr => ∃ k : Nat, k <= n /\ gk = n - k /\ iv = .int .i64 k /\ Hid (EmA w l t bank sp p c wr))
 case atStart => exact ⟨0, Nat.zero_le _, rfl, rfl, HM0⟩
 case round =>
  clear HM0
  obtain ⟨k, hk, rfl, rfl, HM⟩ := hrel
  obtain ⟨hK, M, hh⟩ := HM.out
  clear HM
  by_cases hlt : k < n
  ·skip
   obtain ⟨_, _, e1, hrd⟩ := Hs.out.1 wr hh.tail.tail.tail
   injection e1 with e1 e2 e3
   subst e1
   clear e2 e3
   obtain ⟨g, go, rfl, x0, x1, x2, x3⟩ := hrd k (by have := Hn.out.1; omega)
   have hbo := Hs.out.2 (os[k]'(by have := Hn.out.1; omega)) (List.getElem_mem _)
   generalize os[k]'(by have := Hn.out.1; omega) = o at *
   obtain ⟨id, size, root, orig⟩ := o
   simp only at x0 x1 x2 x3 hbo
   have lx := World.block_lt_of_cell? _ _ x0
   have kI : (k : Int) < (n : Int) := by omega
   have k0 : (0 : Int) <= k := by omega
   have hA := hh.alloc (.cells #[.int .i64 id, .int .i64 size, .int .i64 0, .int .i64 orig] 104)
   have HKA := Lib.hid (hK.alloc (.cells #[.int .i64 id, .int .i64 size, .int .i64 0, .int .i64 orig] 104))
   have HP := Lib.hid (cat_Put ⟨id, size, 0, orig⟩ (hA.pull 2) hbo.1 hbo.2)
   have t3 := hh.wl3 (t := t) (bank := bank) (sp := sp) (p := p) (c := c) (by simp)
   have lt := World.block_lt_of_cell? _ _ t3
   unfold Vl.val at HP
   clear hK hh hA hrd hbo
   go_wp2_with fail
   refine HP.out.mono ?_
   rintro r w3 ⟨rfl, hK3, h3⟩
   have HM2 : Hid (EmA w l t bank sp p c w3) := ⟨HKA.out.trans hK3, _, h3.push 2 |> fun h => h.tail⟩
   clear hK3 h3 HKA HP x0 x1 x2 x3 lx t3 lt
   go_wp2
   go_roundg (n - (k + 1))
   case measure => omega
   case rel => exact ⟨k + 1, by omega, rfl, by go_num, HM2⟩
  ·skip
   have hke : k = n := by omega
   subst hke
   have ok0 := (hh.pull 1).cat_ok
   have t3 := hh.wl3 (t := t) (bank := bank) (sp := sp) (p := p) (c := c) (by simp)
   have lt := World.block_lt_of_cell? _ _ t3
   have HSv := Lib.hid (cat_Save (m := 500) (s := 0) (ts := []) (L := []) (hh.reord [1, 1]) Ht.out.cons (by omega) rfl Grove.nil.more (by simp [weighs]) (by simp) (by simp))
   have HK := Lib.hid hK
   have Ok0 := Lib.hid ok0
   clear hK hh ok0
   go_wp2_with fail
   refine HSv.out.mono ?_
   rintro r w4 ⟨rfl, hK4, Q, a, s, hG, hs4, _, _, h4⟩
   have HM0 : Hid (EmB w l t bank sp p c M 0 M.length w4) := ⟨by omega, HK.out.trans hK4, M, Q, a, s, rfl, hG, by omega, h4.reord [2, 0]⟩
   clear hK4 hG hs4 h4 HSv HK t3 lt
   obtain ⟨m0, hm0⟩ : ∃ m0, M.length = m0 := ⟨_, rfl⟩
   rw [hm0] at HM0
   have Hm0 := Lib.hid hm0
   have m32 : m0 <= 32 := by have := Ok0.out.len; omega
   clear hm0
   go_wp2
   go_loopg [9] m0 (fun gk iv wr => ∃ i : Nat, i <= m0 /\ iv = .int .i64 i /\ Hid (EmB w l t bank sp p c M i gk wr))
   case atStart => exact ⟨0, Nat.zero_le _, rfl, HM0⟩
   case round =>
    clear HM0
    obtain ⟨i, hi, rfl, HM⟩ := hrel
    obtain ⟨hin, hK, M1, Q1, a1, s1, hm1, hG1, hs1, hh⟩ := HM.out
    clear HM
    have t3 := hh.wl3 (t := t) (bank := bank) (sp := sp) (p := p) (c := c) (by simp)
    have lt := World.block_lt_of_cell? _ _ t3
    have ok1 := (hh.pull 1).cat_ok
    have HL := Lib.hid (cat_List (hh.pull 1))
    have HG1 := Lib.hid (And.intro hm1 (And.intro hG1 (And.intro hs1 (And.intro hin ok1))))
    have HK := Lib.hid hK
    clear hK hh hm1 hG1 hs1 hin ok1
    go_wp2_with fail
    refine HL.out.mono ?_
    rintro r w5 ⟨v5, rfl, hK5, h5⟩
    obtain ⟨va, vc, rfl, _⟩ := h5.vols_read (.head _)
    rw [List.length_map, HG1.out.1]
    have hh : Has w5 (wldS t bank sp p c :: catS c p M1 a1 :: btS p bank sp 4800 (eSizes [500]) Q1 :: l) := h5.tail.swap
    have HK5 := Lib.hid (HK.out.trans hK5)
    clear h5 hK5 HL HK t3 lt
    by_cases hz : gk = 0
    ·skip
     subst hz
     have hM1 : M1 = [] := List.length_eq_zero_iff.1 HG1.out.1
     subst hM1
     have t3 := hh.wl3 (t := t) (bank := bank) (sp := sp) (p := p) (c := c) (by simp)
     have lt := World.block_lt_of_cell? _ _ t3
     have hlM := ctPairs_len Ok0.out
     have HSv := Lib.hid (cat_Save (m := 500) (ts := []) (L := ctPairs M) (hh.reord [1, 1]) Ht.out.cons (by omega) rfl HG1.out.2.1 (by have := HG1.out.2.2.1; simp [weighs]; omega) (by omega) (by omega))
     clear hh hlM
     go_wp2_with fail
     refine HSv.out.mono ?_
     rintro r w6 ⟨rfl, hK6, Q2, a2, s2, hG2, hs2, _, _, h6⟩
     have h7 := h6.reord [2, 0]
     have hI := (h6.pull 1).bt_inv.1
     obtain ⟨rfl, rfl⟩ := root_zero hI (hG2.root _ (.head _))
     have hQ2 : Q2 = [] := by
      have := hG2.pages hI
      simp [weighs] at this
      exact List.length_eq_zero_iff.1 (by omega)
     subst hQ2
     have u3 := h7.wl3 (t := t) (bank := bank) (sp := sp) (p := p) (c := c) (by simp [reord, pull])
     have u2 := h7.wl2 (t := t) (bank := bank) (sp := sp) (p := p) (c := c) (by simp [reord, pull])
     have lu := World.block_lt_of_cell? _ _ u3
     have HR := Lib.hid (cat_Root h6 (.head _))
     have HPg := Lib.hid (bt_Pages (h6.pull 1) (by simp))
     have HK6 := Lib.hid (HK5.out.trans hK6)
     clear hK6 hG2 hs2 h6 h7 hI HSv HK5 t3 lt HG1
     go_wp2_with fail
     refine HR.out.mono ?_
     rintro r w7 ⟨rfl, rfl⟩
     go_wp2_with fail
     refine HPg.out.mono ?_
     rintro r w8 ⟨pv, rfl, hK8, h8⟩
     obtain ⟨pq, pc, rfl, _, _⟩ := h8.ints_read (.head _)
     have HA := Lib.hid (awake13 h8.tail.tail.tail.tail Ht.out)
     have HK8 := Lib.hid (HK6.out.trans hK8)
     clear h8 hK8 HPg HR HK6 u3 u2 lu
     simp only [List.map_nil, List.length_nil]
     go_wp2_with fail
     refine HA.out.mono ?_
     rintro r w9 ⟨rfl, hK9, h9⟩
     have HF : Hid (Kept w w9 /\ Has w9 l) := ⟨HK8.out.trans hK9, h9⟩
     clear hK9 h9 HA HK8
     go_wp2
     go_ret
     exact ⟨rfl, HF.out⟩
    ·skip
     have t3 := hh.wl3 (t := t) (bank := bank) (sp := sp) (p := p) (c := c) (by simp)
     have lt := World.block_lt_of_cell? _ _ t3
     have HL := Lib.hid (cat_List (hh.pull 1))
     have gI : (0 : Int) < (gk : Int) := by omega
     have g32 : gk <= 32 := by have := HG1.out.2.2.2.1; have := Hm0.out; omega
     clear hh
     go_wp2_with fail
     refine HL.out.mono ?_
     rintro r w6 ⟨v6, rfl, hK6, h6⟩
     obtain ⟨va6, vc6, rfl, hrd6⟩ := h6.vols_read (.head _)
     rw [List.length_map, HG1.out.1] at h6 ⊢
     obtain ⟨ka', kc', ek, hkd⟩ := (Hk.out w6 h6.tail.tail.tail.tail).rd
     injection ek with ek1 ek2 ek3
     subst ek1 ek3
     clear ek2
     obtain ⟨kg, ko, rfl, y0⟩ := hkd i (by have := Hn.out.2; omega)
     have ly := World.block_lt_of_cell? _ _ y0
     generalize ks[i]'_ = z at y0
     have iI : (i : Int) < (q : Int) := by omega
     have i0 : (0 : Int) <= i := by omega
     obtain ⟨r1, r2, r3, r4, r5⟩ := rem_in z gk (by omega) (by omega)
     obtain ⟨kn, hkn⟩ : ∃ kn : Nat, (z.tmod gk + gk).tmod gk = (kn : Int) := ⟨((z.tmod gk + gk).tmod gk).toNat, by omega⟩
     rw [hkn] at r1 r2 r5
     have Hkn := Lib.hid hkn
     have knI : (kn : Int) < (gk : Int) := r2
     obtain ⟨x, hx⟩ : ∃ x, M1[kn]? = some x := ⟨_, List.getElem?_eq_getElem (by have := HG1.out.1; omega)⟩
     have hget := VMap.get_at HG1.out.2.2.2.2.up hx
     have hxr := HG1.out.2.2.2.2.right _ (List.mem_of_getElem? hx)
     obtain ⟨id, v⟩ := x
     simp only at hget hxr
     have hvr := Vl.rights hxr.2
     obtain ⟨gv, rfl, z0, _⟩ := hrd6 kn v (by rw [List.getElem?_map, hx]; rfl)
     rw [<- hxr.1] at z0
     have HV : Hid (∀ w' F, Has w' (volsS (.slice (some ⟨gv, 0, none⟩) gk vc6) (M1.map (·.2)) :: F) -> w'.cell? ⟨gv, kn * 4, none⟩ = some (.int .i64 id)) := Lib.hid fun w' F h => by
      obtain ⟨_, _, e1, hr⟩ := h.vols_read (.head _)
      injection e1 with e1 e2 e3
      obtain ⟨g', e4, x0, _⟩ := hr kn v (by rw [List.getElem?_map, hx]; rfl)
      rw [<- e1] at e4
      injection e4 with e4
      injection e4 with e4
      rw [<- e4, <- hxr.1] at x0
      exact x0
     have HK6 := Lib.hid (HK5.out.trans hK6)
     have HH := Lib.hid h6
     have Hget := Lib.hid (And.intro hget (And.intro hxr.1 (And.intro (show -9223372036854775808 <= id by omega) (show id <= 9223372036854775807 by omega))))
     clear h6 hK6 HL HK5 t3 lt hrd6 hkd hx hget hxr hvr
     have t3 : w6.cell? ⟨t, 3, none⟩ = some (.pointer (some ⟨c, 0, none⟩)) := HH.out.wl3 (t := t) (bank := bank) (sp := sp) (p := p) (c := c) (by simp)
     have lt := World.block_lt_of_cell? _ _ t3
     have lz := World.block_lt_of_cell? _ _ z0
     go_upto_region 17 with fail
     have hh := HH.out
     clear HH
     obtain ⟨FA, HFA⟩ : ∃ FA : List (Nat × Addr × Value), Hid (FA = [(1, ⟨t, 3, none⟩, .pointer (some ⟨c, 0, none⟩)), (6, ⟨gv, kn * 4, none⟩, .int .i64 id), (11, ⟨t, 3, none⟩, .pointer (some ⟨c, 0, none⟩)), (16, ⟨gv, kn * 4, none⟩, .int .i64 id)]) := ⟨_, rfl⟩
     have fa1 : ∀ nI : In (factsOf FA 1), nI.w.cell? ⟨t, 3, none⟩ = some (.pointer (some ⟨c, 0, none⟩)) := fun nI => factsOf.cell (by rw [HFA.out]; simp) nI
     have fa6 : ∀ nI : In (factsOf FA 6), nI.w.cell? ⟨gv, kn * 4, none⟩ = some (.int .i64 id) := fun nI => factsOf.cell (by rw [HFA.out]; simp) nI
     have fa11 : ∀ nI : In (factsOf FA 11), nI.w.cell? ⟨t, 3, none⟩ = some (.pointer (some ⟨c, 0, none⟩)) := fun nI => factsOf.cell (by rw [HFA.out]; simp) nI
     have fa16 : ∀ nI : In (factsOf FA 16), nI.w.cell? ⟨gv, kn * 4, none⟩ = some (.int .i64 id) := fun nI => factsOf.cell (by rw [HFA.out]; simp) nI
     have hFA : ∀ p ∈ FA, w6.cell? p.2.1 = some p.2.2 := by rw [HFA.out]; exact (fcons t3 (fcons z0 (fcons t3 (fcons z0 fnil))))
     haveI neFA : ∀ k, Nonempty (In (factsOf FA k)) := fun k => ⟨⟨_, factsOf.drew hFA k⟩⟩
     refine ws_begin [0, 1, 2, 3, 4, 5, 6, 7, 8, 9, 10, 11, 12, 13, 14, 15, 16, 17, 18, 19, 20] (factsOf FA) (volsS (.slice (some ⟨gv, 0, none⟩) gk vc6) (M1.map (·.2)) :: catS c p M1 a1 :: wldS t bank sp p c :: btS p bank sp 4800 (eSizes [500]) Q1 :: l) #[0, 1, 0, 0, 12, 28, 60, 127, 255, 511, 1023, 2047, 1023, 1023, 13311, 29695, 62463, 131071, 262143, 524287, 1048575] (by kernel_rfl) (by kernel_rfl) (by kernel_rfl) factsOf.alloc (factsOf.drew hFA) hh ?_
     clear hFA
     iterate 7 (refine ws_q (at_lit rfl) rfl rfl rfl ?_; go_big_quiet_op; show WS _ _ _ _ _ _ _ _ _ _)
     refine ws_call (at_lit rfl) rfl rfl 59 #[.pointer (some ⟨c, 0, none⟩), .int .i64 id] (fun w => by go_simp) (fun v L' => v = .nilIface /\ L' = volsS (.slice (some ⟨gv, 0, none⟩) gk vc6) (M1.map (·.2)) :: catS c p (VMap.del id M1) a1 :: wldS t bank sp p c :: btS p bank sp 4800 (eSizes [500]) Q1 :: l) (fun w' F hS hh => ?_) ?_
     ·refine (cat_Remove id (hh.pull 1) Hget.out.2.2.1 Hget.out.2.2.2).mono ?_
      rintro r w'' ⟨hK, (⟨hno, _⟩ | ⟨_, rfl, hh'⟩)⟩
      ·rw [Hget.out.1] at hno; cases hno
      exact ⟨_, _, rfl, hK, ⟨rfl, rfl⟩, hh'.push 1⟩
     rintro _ _ ⟨rfl, rfl⟩
     refine ⟨fun w F hh => lives (l' := [(11, ⟨t, 3, none⟩, .pointer (some ⟨c, 0, none⟩)), (16, ⟨gv, kn * 4, none⟩, .int .i64 id)]) (by rw [HFA.out]; simp [liveFacts, Nat.testBit]) (fcons (hh.wl3 (t := t) (bank := bank) (sp := sp) (p := p) (c := c) (by simp)) <| fcons (HV.out _ _ hh) <| fnil), ?_⟩
     simp only [Act.put, List.setIfInBounds_toArray, List.set_cons_zero, List.set_cons_succ]
     show WS _ _ _ _ _ _ _ _ _ _
     iterate 9 (refine ws_q (at_lit rfl) rfl rfl rfl ?_; go_big_quiet_op; show WS _ _ _ _ _ _ _ _ _ _)
     refine ws_call (at_lit rfl) rfl rfl 59 #[.pointer (some ⟨c, 0, none⟩), .int .i64 id] (fun w => by go_simp) (fun v L' => v = errV 81 /\ L' = volsS (.slice (some ⟨gv, 0, none⟩) gk vc6) (M1.map (·.2)) :: catS c p (VMap.del id M1) a1 :: wldS t bank sp p c :: btS p bank sp 4800 (eSizes [500]) Q1 :: l) (fun w' F hS hh => ?_) ?_
     ·refine (cat_Remove id (hh.pull 1) Hget.out.2.2.1 Hget.out.2.2.2).mono ?_
      rintro r w'' ⟨hK, (⟨_, rfl, hh'⟩ | ⟨⟨_, hno⟩, _⟩)⟩
      ·exact ⟨_, _, rfl, hK, ⟨rfl, rfl⟩, hh'.push 1⟩
      rw [del_gone] at hno
      cases hno
     rintro _ _ ⟨rfl, rfl⟩
     refine ⟨fun w F hh => lives (l' := []) (by rw [HFA.out]; simp [liveFacts, Nat.testBit]) (fnil), ?_⟩
     simp only [Act.put, List.setIfInBounds_toArray, List.set_cons_zero, List.set_cons_succ]
     show WS _ _ _ _ _ _ _ _ _ _
     refine ws_call (at_lit rfl) rfl rfl 60 #[errV 81, .int .i64 81] (fun w => by go_simp) (fun v L' => v = .bool true /\ L' = volsS (.slice (some ⟨gv, 0, none⟩) gk vc6) (M1.map (·.2)) :: catS c p (VMap.del id M1) a1 :: wldS t bank sp p c :: btS p bank sp 4800 (eSizes [500]) Q1 :: l) (fun w' F hS hh => ?_) ?_
     ·refine (law_is13 (some 81) 81 w' (by omega) (by omega)).mono ?_
      rintro r w'' ⟨rfl, rfl⟩
      exact ⟨_, _, rfl, Kept.refl _, ⟨rfl, rfl⟩, hh⟩
     rintro _ _ ⟨rfl, rfl⟩
     refine ⟨fun w F hh => lives (l' := []) (by rw [HFA.out]; simp [liveFacts, Nat.testBit]) (fnil), ?_⟩
     simp only [Act.put, List.setIfInBounds_toArray, List.set_cons_zero, List.set_cons_succ]
     show WS _ _ _ _ _ _ _ _ _ _
     iterate 2 (refine ws_q (at_lit rfl) rfl rfl rfl ?_; go_big_quiet_op; show WS _ _ _ _ _ _ _ _ _ _)
     refine ws_end fun w7 hK7 h7 => ?_
     have HM2 : Hid (EmB w l t bank sp p c M (i + 1) (gk - 1) w7) := by
      have e := del_one HG1.out.2.2.2.2.up Hget.out.1
      refine ⟨by have := HG1.out.2.2.2.1; omega, HK6.out.trans hK7, _, Q1, a1, s1, by have := HG1.out.1; omega, HG1.out.2.1, HG1.out.2.2.1, h7.tail.swap⟩
     have hi2 : i + 1 <= m0 := by have := HG1.out.2.2.2.1; have := Hm0.out; omega
     have hwi : IntKind.i64.wrap ((i : Int) + 1) = (i : Int) + 1 := by rw [IntKind.wrap_i64]; omega
     clear hK7 h7 hh HFA neFA FA fa1 fa6 fa11 fa16 t3 z0 lz lt HK6 HG1 Hget HV Hkn y0 ly
     go_wp2
     go_roundg (gk - 1)
     case measure => omega
     case rel => exact ⟨i + 1, hi2, by go_num, HM2⟩
end Go.Proofs.YtgbgneiciabidaaGreatDoor
/-
  The door of a law: a script of layer 12 that came in.
-/
namespace Go.Proofs.YtgbgneiciabidaaGreatDoor
open Go Go.ChangeShapes Go.WideShapes Go.ChangeAt Go.RowKit
set_option linter.all false
set_option maxHeartbeats 8000000
theorem cells_num : Tryz.prog.cellsOf 3 = 1 := by kernel_rfl
/-
  The door of a law: volumes that came in.
-/
set_option maxRecDepth 100000 in
theorem vol13_fields : ∃ f0 f1 f2 f3 : Field, Tryz.prog.underlying 104 = some (.struct #[f0, f1, f2, f3]) /\
  (f0.type = 3 /\ f0.offset = 0) /\ (f1.type = 3 /\ f1.offset = 1) /\ (f2.type = 3 /\ f2.offset = 2) /\ f3.type = 3 /\ f3.offset = 3 :=
 by
 refine ⟨_, _, _, _, Tryz.underlying104, ?_⟩
 exact ⟨⟨rfl, rfl⟩, ⟨rfl, rfl⟩, ⟨rfl, rfl⟩, rfl, rfl⟩
theorem cells_vol13 : Tryz.prog.cellsOf 104 = 4 := by kernel_rfl
set_option maxRecDepth 100000 in
theorem vol13_of_trod {H : Type} {enc : TypeId × Value -> H} {W : World} {base fuel : Nat} {spare : Nat -> Bool} {held : Bool} {cs : List Value} {x : DataW H × List MemPlace} (h : DataW.trod enc Tryz.prog W base spare held fuel 104 cs = some x) :
  ∃ o : O4, cs = [.int .i64 o.kd, .int .i64 o.tr, .int .i64 o.key, .int .i64 o.val] /\ -9223372036854775808 <= o.kd /\ o.kd <= 9223372036854775807 := by
 obtain ⟨f0, f1, f2, f3, hu, ⟨t0, o0⟩, ⟨t1, o1⟩, ⟨t2, o2⟩, t3, o3⟩ := vol13_fields
 obtain ⟨xs, n, _, hx, hlen, hxl, hf⟩ := DataW.trod_struct hu h
 rw [cells_vol13] at hlen
 match cs, hlen with
 | [c0, c1, c2, c3], _ =>
  have g0 := hf 0 f0 rfl
  have g1 := hf 1 f1 rfl
  have g2 := hf 2 f2 rfl
  have g3 := hf 3 f3 rfl
  rw [t0, o0, cells_num] at g0
  rw [t1, o1, cells_num] at g1
  rw [t2, o2, cells_num] at g2
  rw [t3, o3, cells_num] at g3
  match xs, hxl with
  | [x0, x1, x2, x3], _ =>
   obtain ⟨n0, e0, w0, w1⟩ := DataW.trod_int Tryz.underlying3 (show DataW.trod enc Tryz.prog W base spare held n 3 [c0] = some x0 from g0)
   obtain ⟨n1, e1, _, _⟩ := DataW.trod_int Tryz.underlying3 (show DataW.trod enc Tryz.prog W base spare held n 3 [c1] = some x1 from g1)
   obtain ⟨n2, e2, _, _⟩ := DataW.trod_int Tryz.underlying3 (show DataW.trod enc Tryz.prog W base spare held n 3 [c2] = some x2 from g2)
   obtain ⟨n3, e3, _, _⟩ := DataW.trod_int Tryz.underlying3 (show DataW.trod enc Tryz.prog W base spare held n 3 [c3] = some x3 from g3)
   obtain rfl : c0 = .int .i64 n0 := by simpa using e0
   obtain rfl : c1 = .int .i64 n1 := by simpa using e1
   obtain rfl : c2 = .int .i64 n2 := by simpa using e2
   obtain rfl : c3 = .int .i64 n3 := by simpa using e3
   refine ⟨⟨n0, n1, n2, n3⟩, rfl, ?_⟩
   simp [Lit.wf, IntKind.min, IntKind.max, IntKind.signed, IntKind.bits] at w1
   show -9223372036854775808 <= n0 /\ n0 <= 9223372036854775807
   omega
set_option maxRecDepth 100000 in
theorem vols_of_trod {H : Type} {enc : TypeId × Value -> H} {W : World} {base fuel : Nat} {spare : Nat -> Bool} {held : Bool} {v : Value} {x : DataW H × List MemPlace} (h : DataW.trod enc Tryz.prog W base spare held fuel 97 [v] = some x) :
  ∃ os : List O4, O4Srcs [old W] v os /\ ∀ o ∈ os, -9223372036854775808 <= o.kd /\ o.kd <= 9223372036854775807 := by
 rcases Go.Deep.open_slice Tryz.underlying97 h with ⟨hv, _⟩ | ⟨a, len, cap, m, n, D, Pl, hv, _, hlc, _, hm, hx, hi⟩
 ·obtain rfl : v = .slice none 0 0 := by simpa using hv
  exact ⟨[], fun w _ => ⟨none, 0, rfl, fun k hk => absurd hk (Nat.not_lt_zero _)⟩, fun o ho => by cases ho⟩
 ·obtain rfl : v = .slice (some a) len cap := by simpa using hv
  have hlm : len <= m := by rw [hm]; split <;> omega
  have each : ∀ i, i < len -> ∃ o : O4, W.cells? base (a.add (i * 4)) 4 = some [.int .i64 o.kd, .int .i64 o.tr, .int .i64 o.key, .int .i64 o.val] /\ -9223372036854775808 <= o.kd /\ o.kd <= 9223372036854775807 := by
   intro i hil
   obtain ⟨cs', hc, ht⟩ := hi i (by omega)
   rw [cells_vol13] at hc
   obtain ⟨o, rfl, hw⟩ := vol13_of_trod ht
   exact ⟨o, hc, hw⟩
  let os : List O4 := List.ofFn fun i : Fin len => (each i.1 i.2).choose
  have hol : os.length = len := by simp [os]
  have hos : ∀ k (hk : k < os.length), os[k] = (each k (by omega)).choose := fun k hk => by simp [os]
  refine ⟨os, fun w hh => ⟨some a, cap, by rw [hol], fun k hk => ?_⟩, fun o ho => ?_⟩
  rotate_left
  ·obtain ⟨k, hk, rfl⟩ := List.getElem_of_mem ho
   rw [hos k hk]
   exact (each k (by omega)).choose_spec.2
  have hs := (each k (by omega)).choose_spec.1
  rw [<- hos k hk] at hs
  obtain ⟨_, hl, hat⟩ := World.cells?_some hs
  obtain ⟨b, off, sp⟩ := a
  have hsp : sp = none := by
   obtain ⟨_, _, hat0⟩ := World.cells?_some (each 0 (by omega)).choose_spec.1
   have := hat0 0 (by omega)
   rw [Go.Deep.add_add, show 0 * 4 + 0 = 0 from rfl] at this
   cases sp with
   | none => rfl
   | some z =>
    exfalso
    unfold World.cell? Addr.add at this
    simp at this
    split at this <;> simp at this
  subst hsp
  refine ⟨b, off, rfl, ?_⟩
  have cell : ∀ j v, j < 4 -> [Value.int .i64 os[k].kd, .int .i64 os[k].tr, .int .i64 os[k].key, .int .i64 os[k].val][j]? = some v -> w.cell? ⟨b, off + k * 4 + j, none⟩ = some v := by
   intro j v hj hv
   have h1 := hat j hj
   rw [hv, Addr.add_lit, Addr.add_lit] at h1
   exact hh.old_cell (.head _) h1
  exact ⟨cell 0 _ (by omega) rfl, cell 1 _ (by omega) rfl, cell 2 _ (by omega) rfl, cell 3 _ (by omega) rfl⟩
end Go.Proofs.YtgbgneiciabidaaGreatDoor
