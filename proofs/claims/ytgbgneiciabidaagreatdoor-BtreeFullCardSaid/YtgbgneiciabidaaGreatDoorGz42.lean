/-
  Trees (layer 12): the pages of a tree are gathered (gather).
-/
import Derived.Test.YtgbgneiciabidaaGreatDoorGz41
import Derived.Test.YtgbgneiciabidaaGreatDoorGz8
import Derived.Sort.OwnSortedInts
import Derived.Maps.RangeWalk
namespace Go.Proofs.YtgbgneiciabidaaGreatDoor
open Go Go.RowKit
set_option linter.all false

def GaPost (b p bank sp N : Nat) (es : List Ent) (Q : Pgs) (M : List (Int × Int)) (addr lv : Int) (l : List Say) (w : World) (r : Ending) (w' : World) : Prop :=
  Kept w w' ∧ r = .returned (.tuple #[]) ∧ ∃ M', GaOk Q M' ∧ Clos Q lv M' ∧ (∀ x, inM M' x ↔ (inM M x ∨ Reach Q addr x)) ∧ Has w' (imapS b M' :: btS p bank sp N es Q :: l)
def kidsTo (lvI : Int) (vs : List Int) (i : Nat) : List Int := if lvI = 0 then [] else vs.take i
theorem kidsTo_all {lvI : Int} {ks vs : List Int} {k : Nat} (h : vs.length ≤ k) : kidsTo lvI vs k = (⟨lvI, ks, vs⟩ : Nd).kids := by
  unfold kidsTo
  rw [List.take_of_length_le h]
  rfl
def GaM (w : World) (b p bank sp N r6 : Nat) (es : List Ent) (Q : Pgs) (M : List (Int × Int)) (addr lvI : Int) (ks vs : List Int) (kv vv : Value) (l : List Say) (i : Nat) (wr : World) : Prop :=
  ∃ M1, GaMid Q M addr lvI (kidsTo lvI vs i) M1 ∧ Kept w wr ∧ Has wr (imapS b M1 :: btS p bank sp N es Q :: pts r6 (.cells #[.int .i64 lvI, kv, vv] 35 (0, 0)) :: intsS kv ks :: intsS vv vs :: l)
def GaC (lv : Nat) : Prop := ∀ {w : World} {l : List Say} {b p bank sp N : Nat} {es : List Ent} {Q : Pgs} {M : List (Int × Int)} (addr : Int) {g : Pg}, Has w (imapS b M :: btS p bank sp N es Q :: l) → VMap.get addr Q = some g → g.n.level = (lv : Int) → GaOk Q M → Clos Q (lv : Int) M → Q.length ≤ 100000 →
    Calls Tryz.prog 170 #[.pointer (some ⟨p, 0, none⟩), .int .i64 addr, .map (some b)] w (GaPost b p bank sp N es Q M addr (lv : Int) l w)
set_option maxHeartbeats 8000000 in
set_option maxRecDepth 100000 in
theorem gather0 : GaC 0 := by
  intro w l b p bank sp N es Q M addr g h hg hlv hok hcl hql
  rw [← hlv] at hcl ⊢
  have Hli : Hid (g.n.level = ((0 : Nat) : Int)) := hlv
  have hlp : ¬ (0 : Int) < g.n.level := by omega
  obtain ⟨hI, _⟩ := h.tail.bt_inv
  obtain ⟨ok, _, _⟩ := hI.pg addr g hg
  have hbd := (hI.adr addr (by rw [hg]; rfl)).bd
  obtain ⟨o0, o1, o2, o3, o4⟩ := ok_lens ok
  have HG := Lib.hid (bt_Get h.swap addr (by omega) (by omega))
  have Hg := Lib.hid hg
  have HX := Lib.hid (And.intro hok (And.intro hcl (And.intro hI (And.intro hql True.intro))))
  have hv7 : g.n.vals.length ≤ 7 := by omega
  have hml := hok.len hI.up
  have hmm : M.length < maxLen := by unfold maxLen; omega
  have hb0 : -9223372036854775808 ≤ addr := by omega
  have hb1 : addr ≤ 9223372036854775807 := by omega
  clear h hok hcl hI hql ok hbd o0 o1 o2 o3 o4 hg hlv
  obtain ⟨⟨lvI, keys, vals⟩, ho, he⟩ := g
  have hv7 : vals.length ≤ 7 := hv7
  have hlp : ¬ (0 : Int) < lvI := hlp
  have hlq : decide ((0 : Int) < lvI) = false := by simp; omega
  have Hli : Hid (lvI = ((0 : Nat) : Int)) := Hli.out
  go_enter Tryz.func170, Tryz.ntmps170
  go_wp2_with fail
  refine HG.out.mono ?_
  rintro r w1 ⟨hK1, (⟨h1, _⟩ | ⟨g', ak, ck, av, cv, h1, rfl, h3⟩)⟩
  · rw [Hg.out] at h1; cases h1
  rw [Hg.out] at h1
  obtain rfl := Option.some.inj h1
  clear h1 HG
  simp only [Nd.val]
  obtain ⟨n, hn⟩ : ∃ n, vals.length = n := ⟨_, rfl⟩
  obtain ⟨nk, hnk⟩ : ∃ nk, keys.length = nk := ⟨_, rfl⟩
  have h4 : Has w1 (intsS (.slice ak keys.length ck) keys :: intsS (.slice av vals.length cv) vals :: btS p bank sp N es Q :: imapS b M :: l) := h3
  rw [hn, hnk] at h4
  rw [hn] at hv7 ⊢
  rw [hnk]
  have Hn := Lib.hid (And.intro hn hnk)
  clear hn hnk h3
  have h5 := h4.alloc (.cells #[.int .i64 lvI, .slice ak nk ck, .slice av n cv] 35)
  have hk5 := hK1.alloc (.cells #[.int .i64 lvI, .slice ak nk ck, .slice av n cv] 35)
  have h6 : Has (w1.alloc (.cells #[.int .i64 lvI, .slice ak nk ck, .slice av n cv] 35)) (imapS b M :: btS p bank sp N es Q :: pts w1.heap.size (.cells #[.int .i64 lvI, .slice ak nk ck, .slice av n cv] 35 (0, 0)) :: intsS (.slice ak nk ck) keys :: intsS (.slice av n cv) vals :: l) := h5.reord [4, 3, 0]
  have H6 := Lib.hid h6
  have HK := Lib.hid hk5
  clear h4 h5 h6 hK1 hk5
  go_upto_region 1 with fail
  generalize w1.alloc (.cells #[.int .i64 lvI, .slice ak nk ck, .slice av n cv] 35) = W at *
  generalize w1.heap.size = r6 at *
  have hlk := imap_look H6.out (.head _) addr hb0 hb1
  cases hgm : VMap.get addr M with
  | some v =>
    rw [hgm] at hlk
    obtain ⟨rfl, _⟩ := HX.out.1.one addr v hgm
    have HF : Hid (GaPost b p bank sp N es Q M addr lvI l w (.returned (.tuple #[])) W) := by
      obtain ⟨hok, hcl, hI, hql, _⟩ := HX.out
      refine ⟨HK.out, rfl, M, hok, hcl, fun x => ⟨.inl, ?_⟩, ?_⟩
      · rintro (h | h)
        · exact h
        · exact hcl.reach hI h Hg.out (Int.le_refl _) (by unfold inM; rw [hgm]; rfl)
      · exact Has.skip (A := [_, _]) (M := [_, _, _]) H6.out
    clear H6 HK HX Hg hgm
    go_wp2
    refine bodyPost_ret (v := .tuple #[]) (results_none rfl _ _ _) rfl ?_
    exact HF.out
  | none =>
    rw [hgm] at hlk
    obtain ⟨w2, hst, hK2, h7⟩ := imap_store H6.out hmm addr hb0 hb1 1 hgm
    have hr6 := h7.tail.tail.got
    have s2 : w2.cell? ⟨r6, 2, none⟩ = some (.slice av n cv) := cell_of hr6 2 rfl
    have l6 := World.block_lt_of_cell? _ _ s2
    have HM0 : Hid (GaM w b p bank sp N r6 es Q M addr lvI keys vals (.slice ak nk ck) (.slice av n cv) l 0 w2) := by
      refine ⟨VMap.put addr 1 M, ?_, HK.out.trans hK2, h7⟩
      have h8 := GaMid.start Hg.out rfl HX.out.1 HX.out.2.1
      have h9 : kidsTo (lvI) vals 0 = [] := by unfold kidsTo; split <;> rfl
      rw [h9]
      exact h8
    clear h7 hK2 hr6 H6 hgm HK
    go_wp2
    clear hlk hst
    have hnI : (n : Int) ≤ 7 := by omega
    go_loopg [29] n (fun gk iv wr => ∃ k : Nat, k ≤ n ∧ gk = n - k ∧ iv = .int .i64 k ∧ Hid (GaM w b p bank sp N r6 es Q M addr lvI keys vals (.slice ak nk ck) (.slice av n cv) l k wr))
    case atStart => exact ⟨0, Nat.zero_le _, rfl, rfl, HM0⟩
    case round =>
      clear HM0 s2 l6
      obtain ⟨k, hk, rfl, rfl, HM⟩ := hrel
      obtain ⟨M1, hmid, hK, hh⟩ := HM.out
      clear HM
      by_cases hlt : k < n
      · obtain ⟨_, _, e1, _, hrd⟩ := hh.ints_read (v := .slice av n cv) (xs := vals) (by simp)
        injection e1 with e1 e2 e3
        subst e1
        clear e2 e3
        obtain ⟨gv, rfl, hx1, hx2⟩ := hrd k (by have := Hn.out.1; omega)
        clear hx1 hx2
        obtain ⟨c, hvk⟩ : ∃ c, vals[k]? = some c := ⟨_, List.getElem?_eq_getElem (by have := Hn.out.1; omega)⟩
        have cc := hh.ints_at (g := gv) (n := n) (c := cv) (xs := vals) (by simp) hvk
        have hr6 := hh.tail.tail.got
        have s0 : wr.cell? ⟨r6, 0, none⟩ = some (.int .i64 lvI) := cell_of hr6 0 rfl
        have l6 := World.block_lt_of_cell? _ _ s0
        have lz := World.block_lt_of_cell? _ _ cc
        have kI : (k : Int) < (n : Int) := by omega
        have k0 : (0 : Int) ≤ k := by omega
        have HM2 : Hid (GaM w b p bank sp N r6 es Q M addr lvI keys vals (.slice ak nk ck) (.slice (some ⟨gv, 0, none⟩) n cv) l (k + 1) wr) := by
          refine ⟨M1, ?_, hK, hh⟩
          rw [show kidsTo lvI vals k = [] from if_pos Hli.out] at hmid
          rw [show kidsTo lvI vals (k + 1) = [] from if_pos Hli.out]
          exact hmid
        clear hh hmid hK hrd hvk hr6
        go_wp2
        go_roundg (n - (k + 1))
        case measure => omega
        case rel => exact ⟨k + 1, by omega, rfl, by go_num, HM2⟩
      · have hke : k = n := by omega
        have HF : Hid (GaPost b p bank sp N es Q M addr lvI l w (.returned (.tuple #[])) wr) := by
          obtain ⟨hok, hcl, hI, hql, _⟩ := HX.out
          rw [kidsTo_all (ks := keys) (by have := Hn.out.1; omega)] at hmid
          obtain ⟨q1, q2⟩ := hmid.fin hI Hg.out rfl hcl
          exact ⟨hK, rfl, M1, hmid.ok, q1, q2, Has.skip (A := [_, _]) (M := [_, _, _]) hh⟩
        clear hmid hK hh HX Hg
        subst hke
        go_wp2
        refine bodyPost_ret (v := .tuple #[]) (results_none rfl _ _ _) rfl ?_
        exact HF.out
set_option maxHeartbeats 8000000 in
set_option maxRecDepth 100000 in
theorem gatherS {lv : Nat} (ih : GaC lv) : GaC (lv + 1) := by
  intro w l b p bank sp N es Q M addr g h hg hlv hok hcl hql
  rw [← hlv] at hcl ⊢
  have Hli : Hid (g.n.level = ((lv + 1 : Nat) : Int)) := hlv
  have hlp : (0 : Int) < g.n.level := by omega
  obtain ⟨hI, _⟩ := h.tail.bt_inv
  obtain ⟨ok, _, _⟩ := hI.pg addr g hg
  have hbd := (hI.adr addr (by rw [hg]; rfl)).bd
  obtain ⟨o0, o1, o2, o3, o4⟩ := ok_lens ok
  have HG := Lib.hid (bt_Get h.swap addr (by omega) (by omega))
  have Hg := Lib.hid hg
  have HX := Lib.hid (And.intro hok (And.intro hcl (And.intro hI (And.intro hql True.intro))))
  have hv7 : g.n.vals.length ≤ 7 := by omega
  have hml := hok.len hI.up
  have hmm : M.length < maxLen := by unfold maxLen; omega
  have hb0 : -9223372036854775808 ≤ addr := by omega
  have hb1 : addr ≤ 9223372036854775807 := by omega
  clear h hok hcl hI hql ok hbd o0 o1 o2 o3 o4 hg hlv
  obtain ⟨⟨lvI, keys, vals⟩, ho, he⟩ := g
  have hv7 : vals.length ≤ 7 := hv7
  have hlp : (0 : Int) < lvI := hlp
  have hlq : decide ((0 : Int) < lvI) = true := by simp; omega
  have Hli : Hid (lvI = ((lv + 1 : Nat) : Int)) := Hli.out
  go_enter Tryz.func170, Tryz.ntmps170
  go_wp2_with fail
  refine HG.out.mono ?_
  rintro r w1 ⟨hK1, (⟨h1, _⟩ | ⟨g', ak, ck, av, cv, h1, rfl, h3⟩)⟩
  · rw [Hg.out] at h1; cases h1
  rw [Hg.out] at h1
  obtain rfl := Option.some.inj h1
  clear h1 HG
  simp only [Nd.val]
  obtain ⟨n, hn⟩ : ∃ n, vals.length = n := ⟨_, rfl⟩
  obtain ⟨nk, hnk⟩ : ∃ nk, keys.length = nk := ⟨_, rfl⟩
  have h4 : Has w1 (intsS (.slice ak keys.length ck) keys :: intsS (.slice av vals.length cv) vals :: btS p bank sp N es Q :: imapS b M :: l) := h3
  rw [hn, hnk] at h4
  rw [hn] at hv7 ⊢
  rw [hnk]
  have Hn := Lib.hid (And.intro hn hnk)
  clear hn hnk h3
  have h5 := h4.alloc (.cells #[.int .i64 lvI, .slice ak nk ck, .slice av n cv] 35)
  have hk5 := hK1.alloc (.cells #[.int .i64 lvI, .slice ak nk ck, .slice av n cv] 35)
  have h6 : Has (w1.alloc (.cells #[.int .i64 lvI, .slice ak nk ck, .slice av n cv] 35)) (imapS b M :: btS p bank sp N es Q :: pts w1.heap.size (.cells #[.int .i64 lvI, .slice ak nk ck, .slice av n cv] 35 (0, 0)) :: intsS (.slice ak nk ck) keys :: intsS (.slice av n cv) vals :: l) := h5.reord [4, 3, 0]
  have H6 := Lib.hid h6
  have HK := Lib.hid hk5
  clear h4 h5 h6 hK1 hk5
  go_upto_region 1 with fail
  generalize w1.alloc (.cells #[.int .i64 lvI, .slice ak nk ck, .slice av n cv] 35) = W at *
  generalize w1.heap.size = r6 at *
  have hlk := imap_look H6.out (.head _) addr hb0 hb1
  cases hgm : VMap.get addr M with
  | some v =>
    rw [hgm] at hlk
    obtain ⟨rfl, _⟩ := HX.out.1.one addr v hgm
    have HF : Hid (GaPost b p bank sp N es Q M addr lvI l w (.returned (.tuple #[])) W) := by
      obtain ⟨hok, hcl, hI, hql, _⟩ := HX.out
      refine ⟨HK.out, rfl, M, hok, hcl, fun x => ⟨.inl, ?_⟩, ?_⟩
      · rintro (h | h)
        · exact h
        · exact hcl.reach hI h Hg.out (Int.le_refl _) (by unfold inM; rw [hgm]; rfl)
      · exact Has.skip (A := [_, _]) (M := [_, _, _]) H6.out
    clear H6 HK HX Hg hgm
    go_wp2
    refine bodyPost_ret (v := .tuple #[]) (results_none rfl _ _ _) rfl ?_
    exact HF.out
  | none =>
    rw [hgm] at hlk
    obtain ⟨w2, hst, hK2, h7⟩ := imap_store H6.out hmm addr hb0 hb1 1 hgm
    have hr6 := h7.tail.tail.got
    have s2 : w2.cell? ⟨r6, 2, none⟩ = some (.slice av n cv) := cell_of hr6 2 rfl
    have l6 := World.block_lt_of_cell? _ _ s2
    have HM0 : Hid (GaM w b p bank sp N r6 es Q M addr lvI keys vals (.slice ak nk ck) (.slice av n cv) l 0 w2) := by
      refine ⟨VMap.put addr 1 M, ?_, HK.out.trans hK2, h7⟩
      have h8 := GaMid.start Hg.out rfl HX.out.1 HX.out.2.1
      have h9 : kidsTo (lvI) vals 0 = [] := by unfold kidsTo; split <;> rfl
      rw [h9]
      exact h8
    clear h7 hK2 hr6 H6 hgm HK
    go_wp2
    clear hlk hst
    have hnI : (n : Int) ≤ 7 := by omega
    go_loopg [29] n (fun gk iv wr => ∃ k : Nat, k ≤ n ∧ gk = n - k ∧ iv = .int .i64 k ∧ Hid (GaM w b p bank sp N r6 es Q M addr lvI keys vals (.slice ak nk ck) (.slice av n cv) l k wr))
    case atStart => exact ⟨0, Nat.zero_le _, rfl, rfl, HM0⟩
    case round =>
      clear HM0 s2 l6
      obtain ⟨k, hk, rfl, rfl, HM⟩ := hrel
      obtain ⟨M1, hmid, hK, hh⟩ := HM.out
      clear HM
      by_cases hlt : k < n
      · obtain ⟨_, _, e1, _, hrd⟩ := hh.ints_read (v := .slice av n cv) (xs := vals) (by simp)
        injection e1 with e1 e2 e3
        subst e1
        clear e2 e3
        obtain ⟨gv, rfl, hx1, hx2⟩ := hrd k (by have := Hn.out.1; omega)
        clear hx1 hx2
        obtain ⟨c, hvk⟩ : ∃ c, vals[k]? = some c := ⟨_, List.getElem?_eq_getElem (by have := Hn.out.1; omega)⟩
        have cc := hh.ints_at (g := gv) (n := n) (c := cv) (xs := vals) (by simp) hvk
        have hr6 := hh.tail.tail.got
        have s0 : wr.cell? ⟨r6, 0, none⟩ = some (.int .i64 lvI) := cell_of hr6 0 rfl
        have l6 := World.block_lt_of_cell? _ _ s0
        have lz := World.block_lt_of_cell? _ _ cc
        have kI : (k : Int) < (n : Int) := by omega
        have k0 : (0 : Int) ≤ k := by omega
        have hlv0 : lvI ≠ 0 := by omega
        have hkt : kidsTo lvI vals k = vals.take k := if_neg hlv0
        rw [hkt] at hmid
        obtain ⟨gc, hgc, hlc⟩ := HX.out.2.2.1.kid _ _ Hg.out c (by
          unfold Nd.kids
          rw [if_neg hlv0]
          exact List.mem_of_getElem? hvk)
        have hlc2 : gc.n.level = (lv : Int) := by
          have : gc.n.level = lvI - 1 := hlc
          have h9 : lvI = ((lv + 1 : Nat) : Int) := Hli.out
          omega
        have hcl1 : Clos Q (lv : Int) M1 := by
          have := hmid.clos
          rwa [show lvI - 1 = (lv : Int) by have h9 : lvI = ((lv + 1 : Nat) : Int) := Hli.out; omega] at this
        have HC := Lib.hid (ih c hh hgc hlc2 hmid.ok hcl1 HX.out.2.2.2.1)
        have Hm := Lib.hid (And.intro hmid (And.intro hK hvk))
        clear hh hmid hK hrd hvk hr6 hkt hgc hlc hlc2 hcl1 hlv0
        go_wp2_with fail
        refine HC.out.mono ?_
        rintro r w5 ⟨hK5, rfl, M2, hok2, hcl2, hi2, h5⟩
        have HM2 : Hid (GaM w b p bank sp N r6 es Q M addr lvI keys vals (.slice ak nk ck) (.slice (some ⟨gv, 0, none⟩) n cv) l (k + 1) w5) := by
          refine ⟨M2, ?_, Hm.out.2.1.trans hK5, h5⟩
          rw [show kidsTo lvI vals (k + 1) = vals.take (k + 1) from if_neg (show lvI ≠ 0 by omega), (take_succ Hm.out.2.2).1]
          refine Hm.out.1.next hok2 ?_ hi2
          rwa [show lvI - 1 = (lv : Int) by have h9 : lvI = ((lv + 1 : Nat) : Int) := Hli.out; omega]
        clear hK5 hok2 hcl2 hi2 h5 HC Hm cc s0 l6 lz
        go_wp2
        go_roundg (n - (k + 1))
        case measure => omega
        case rel => exact ⟨k + 1, by omega, rfl, by go_num, HM2⟩
      · have hke : k = n := by omega
        have HF : Hid (GaPost b p bank sp N es Q M addr lvI l w (.returned (.tuple #[])) wr) := by
          obtain ⟨hok, hcl, hI, hql, _⟩ := HX.out
          rw [kidsTo_all (ks := keys) (by have := Hn.out.1; omega)] at hmid
          obtain ⟨q1, q2⟩ := hmid.fin hI Hg.out rfl hcl
          exact ⟨hK, rfl, M1, hmid.ok, q1, q2, Has.skip (A := [_, _]) (M := [_, _, _]) hh⟩
        clear hmid hK hh HX Hg
        subst hke
        go_wp2
        refine bodyPost_ret (v := .tuple #[]) (results_none rfl _ _ _) rfl ?_
        exact HF.out
theorem gather_lv : ∀ lv : Nat, GaC lv
  | 0 => gather0
  | lv + 1 => gatherS (gather_lv lv)
end Go.Proofs.YtgbgneiciabidaaGreatDoor
/-
  slices.Sort at a row of numbers that is owned; the pages of a tree (btree.Pages).
-/
namespace Go.Proofs.YtgbgneiciabidaaGreatDoor
open Go Go.RowKit Go.Maps
set_option linter.all false

def leZ (x y : Int) : Bool := decide (x ≤ y)
theorem sort_ints {w : World} {l : List Say} {v : Value} {ss : List Int} (h : Has w (intsS v ss :: l)) (hl : ss.length ≤ 1000000) :
    Calls Tryz.prog 153 #[v] w (fun r w' => r = .returned (.tuple #[]) ∧ Kept w w' ∧ Has w' (intsS v (ss.mergeSort leZ) :: l)) := by
  have hms : (ss.mergeSort leZ).length = ss.length := List.length_mergeSort ss
  have hown := h.row_own (.head _)
  obtain ⟨h1, hc⟩ := hown
  rcases hc with ⟨rfl, h0⟩ | ⟨g, cap, cur, rfl, _, hg, hn, hcm, hcs, htk⟩
  · refine (AnyM.slices_Sort_int_none Tryz.sortA none 0 w).mono ?_
    rintro r w' ⟨rfl, rfl⟩
    obtain rfl : ss = [] := List.eq_nil_of_length_eq_zero h0
    have e : ([] : List Int).mergeSort leZ = [] := by simp
    rw [e]
    exact ⟨rfl, Kept.refl _, h⟩
  · have htk' : List.take ss.length cur.toList = ss.map (Value.int .i64) := by
      rw [Nat.mul_one] at htk
      exact htk
    refine (AnyM.slices_Sort_int Tryz.sortA g 0 cap ss w (holds_of_blockI hg htk') (Array.getElem?_eq_some_iff.1 hg).1 (by omega)).mono ?_
    rintro r w' ⟨rfl, n, os, rfl⟩
    have hgr := grownBy_sortedI (w := w) (g := g) (n := n) (os := os) (ss.mergeSort leZ).toArray
    have hrow := ownsRow_sortedI (w := w) (n := n) (os := os) (base := 0) (ts := ss.mergeSort leZ) hms (Nat.zero_le g) hg hn hcm hcs
    refine ⟨rfl, .grown hgr, ?_⟩
    have e1 : Sort.grow (Sort.putRow (Value.int .i64) (Sort.ahead w n) g 0 (ss.mergeSort fun x y => decide (x ≤ y)).toArray) os = Sort.grow (Sort.putRow (Value.int .i64) (Sort.ahead w n) g 0 (ss.mergeSort leZ).toArray) os := rfl
    rw [e1]
    generalize Sort.grow (Sort.putRow (Value.int .i64) (Sort.ahead w n) g 0 (ss.mergeSort leZ).toArray) os = w' at *
    obtain ⟨p1, p2, ⟨hl1, hcase⟩, hl2, d1, d2⟩ := h
    rcases hcase with ⟨hv, _⟩ | ⟨g', cap', cur', hv, hp1g, _⟩
    · cases hv
    · cases hv
      have ng : p2 g = none := (d1 g (by rw [hp1g]; simp)).2
      obtain ⟨k1, k2⟩ := hrow
      rcases k2 with ⟨hv, _⟩ | ⟨g2, cap2, cur2, hv, _, hg2, q1, q2, q3, q4⟩
      · cases hv
      · cases hv
        refine ⟨fun k => if k = g then w'.heap[g]? else none, p2, ?_, hl2, fun k hk => ?_, fun k hk => ?_⟩
        · show rowS 3 1 (.slice (some ⟨g, 0, none⟩) ss.length cap) (ss.mergeSort leZ).length ((ss.mergeSort leZ).map intVal) _
          rw [hms]
          exact ⟨k1, .inr ⟨g, cap, cur2, rfl, (if_pos rfl).trans hg2, q1, q2, q3, q4⟩⟩
        · by_cases e : k = g
          · subst e
            exact ⟨(if_pos rfl).symm, ng⟩
          · exact absurd (if_neg e) hk
        · have e1 := d2 k hk
          have hlt : k < w.heap.size := by
            rcases Nat.lt_or_ge k w.heap.size with h | h
            · exact h
            · have e3 : w.heap[k]? = none := Array.getElem?_eq_none h
              exact absurd (e1.symm.trans e3) hk
          have hne : some k ≠ some g := fun e => by
            have e2 : k = g := Option.some.inj e
            rw [e2] at hk
            exact hk ng
          show w'.heap[k]? = p2 k
          rw [hgr.block k hlt hne]
          exact e1
structure Met (M : List (Int × Int)) (left : Lit → Bool) (ss : List Int) : Prop where
  two : ss.Nodup
  iff : ∀ x, x ∈ ss ↔ (inM M x ∧ left (.int .i64 x) = false)
theorem Met.start {M : List (Int × Int)} : Met M (Maps.has (dataI M)) [] := by
  refine ⟨List.nodup_nil, fun x => ⟨fun h => (nomatch h), fun hx => ?_⟩⟩
  obtain ⟨h, hl⟩ := hx
  exfalso
  obtain ⟨v, hv⟩ := Option.isSome_iff_exists.1 h
  have hm := get_mem hv
  have : Maps.has (dataI M) (.int .i64 x) = true := by
    simp only [Maps.has, dataI]
    rw [List.any_eq_true]
    refine ⟨litE (x, intVal v), List.mem_map.2 ⟨(x, intVal v), List.mem_map.2 ⟨(x, v), hm, rfl⟩, rfl⟩, ?_⟩
    simp [litE, Lit.sameKey]
  rw [this] at hl
  cases hl
theorem Met.step {M : List (Int × Int)} {left : Lit → Bool} {ss : List Int} (h : Met M left ss) {x : Int} (hl : left (.int .i64 x) = true) (hx : inM M x) : Met M (fun z => left z && !z.sameKey (.int .i64 x)) (ss ++ [x]) := by
  have hno : x ∉ ss := fun hm => by
    have := ((h.iff x).1 hm).2
    rw [hl] at this
    cases this
  refine ⟨List.nodup_append.2 ⟨h.two, by simp, fun a ha b hb => ?_⟩, fun y => ?_⟩
  · obtain rfl : b = x := by simpa using hb
    exact fun e => hno (e ▸ ha)
  · have hk : (Lit.int .i64 y).sameKey (.int .i64 x) = decide (y = x) := by
      rw [Bool.eq_iff_iff]
      simp [Lit.sameKey]
    rw [List.mem_append, h.iff, hk]
    by_cases e : y = x
    · subst e
      simp [hx]
    · simp [e]
def BpPost (p bank sp N : Nat) (es : List Ent) (Q : Pgs) (S : Int → Prop) (l : List Say) (w : World) (r : Ending) (w' : World) : Prop :=
  ∃ v Z, r = .returned v ∧ Kept w w' ∧ Z.Pairwise (fun a b : Int => a < b) ∧ (∀ x, x ∈ Z ↔ S x) ∧ Has w' (intsS v Z :: btS p bank sp N es Q :: l)
theorem Met.fin {M : List (Int × Int)} {left : Lit → Bool} {ss : List Int} (h : Met M left ss) (h0 : ∀ kl, left kl = false) : (ss.mergeSort leZ).Pairwise (fun a b : Int => a < b) ∧ ∀ x, x ∈ ss.mergeSort leZ ↔ inM M x := by
  have hp := List.mergeSort_perm ss leZ
  refine ⟨?_, fun x => ?_⟩
  · have hs : (ss.mergeSort leZ).Pairwise (fun a b => leZ a b = true) := List.pairwise_mergeSort (le := leZ) (fun a b c => by simp only [leZ, decide_eq_true_eq]; omega) (fun a b => by simp only [leZ, Bool.or_eq_true, decide_eq_true_eq]; omega) ss
    have hn : (ss.mergeSort leZ).Nodup := hp.nodup_iff.2 h.two
    refine (hs.and hn).imp fun {a b} hab => ?_
    have h1 : a ≤ b := by simpa [leZ] using hab.1
    have h2 : a ≠ b := hab.2
    omega
  · rw [hp.mem_iff, h.iff, h0]
    simp
end Go.Proofs.YtgbgneiciabidaaGreatDoor
/-
  Trees (layer 12): the pages of a tree (btree.Pages).
-/
namespace Go.Proofs.YtgbgneiciabidaaGreatDoor
open Go Go.RowKit Go.Maps
set_option linter.all false

theorem gather_none {w : World} {l : List Say} {b p bank sp N : Nat} {es : List Ent} {Q : Pgs} {M : List (Int × Int)} (addr : Int) (h : Has w (imapS b M :: btS p bank sp N es Q :: l)) (hg : VMap.get addr Q = none) (hb : -9223372036854775808 ≤ addr ∧ addr ≤ 9223372036854775807) :
    Calls Tryz.prog 170 #[.pointer (some ⟨p, 0, none⟩), .int .i64 addr, .map (some b)] w (fun r w' => r = .returned (.tuple #[]) ∧ Kept w w' ∧ Has w' (imapS b M :: btS p bank sp N es Q :: l)) := by
  have HG := Lib.hid (bt_Get h.swap addr hb.1 hb.2)
  have Hg := Lib.hid hg
  clear h hg hb
  go_enter Tryz.func170, Tryz.ntmps170
  go_wp2_with fail
  refine HG.out.mono ?_
  rintro r w1 ⟨hK1, (⟨_, rfl, h3⟩ | ⟨g', ak, ck, av, cv, h1, rfl, h3⟩)⟩
  · have HF : Hid (∀ ob, Kept w (w1.alloc ob) ∧ Has (w1.alloc ob) (imapS b M :: btS p bank sp N es Q :: l)) := fun ob => ⟨hK1.alloc ob, (h3.alloc_off ob).swap⟩
    clear h3 hK1 HG
    simp only [nodeZero, errV]
    go_wp2
    refine bodyPost_ret (v := .tuple #[]) (results_none rfl _ _ _) rfl ?_
    exact ⟨rfl, HF.out _⟩
  · rw [Hg.out] at h1; cases h1
theorem gather_root {w : World} {l : List Say} {b p bank sp N : Nat} {es : List Ent} {Q : Pgs} (addr : Int) (h : Has w (imapS b [] :: btS p bank sp N es Q :: l)) (hb : -9223372036854775808 ≤ addr ∧ addr ≤ 9223372036854775807) (hql : Q.length ≤ 100000) :
    Calls Tryz.prog 170 #[.pointer (some ⟨p, 0, none⟩), .int .i64 addr, .map (some b)] w (fun r w' => r = .returned (.tuple #[]) ∧ Kept w w' ∧ ∃ M, GaOk Q M ∧ (∀ x, inM M x ↔ Reach Q addr x) ∧ Has w' (imapS b M :: btS p bank sp N es Q :: l)) := by
  cases hg : VMap.get addr Q with
  | none =>
    refine (gather_none addr h hg hb).mono ?_
    rintro r w' ⟨rfl, hK, hh⟩
    refine ⟨rfl, hK, [], GaOk.nil Q, fun x => ⟨fun h => (nomatch h), fun h => ?_⟩, hh⟩
    cases h with
    | here h => rw [hg] at h; cases h
    | kid h _ _ => rw [hg] at h; cases h
  | some g =>
    have hI := h.tail.bt_inv.1
    have hlv := hI.lv hg
    refine (gather_lv g.n.level.toNat addr h hg (by omega) (GaOk.nil Q) (Clos.nil Q _) hql).mono ?_
    rintro r w' ⟨hK, rfl, M', h1, _, h2, h3⟩
    refine ⟨rfl, hK, M', h1, fun x => ?_, h3⟩
    rw [h2]
    constructor
    · rintro (h | h)
      · cases h
      · exact h
    · exact .inr
def BpM (w : World) (l : List Say) (b r p bank sp N : Nat) (es : List Ent) (Q : Pgs) (M : List (Int × Int)) (ov : Value) (wr : World) : Prop :=
  ∃ left cnt ss, Met M left ss ∧ ss.length + cnt ≤ 100000 ∧ Kept w wr ∧ Has wr (intsS ov ss :: iterS b r M.length (dataI M) left cnt :: btS p bank sp N es Q :: l)
set_option maxHeartbeats 8000000 in
set_option maxRecDepth 100000 in
theorem bt_TreePages {w : World} {l : List Say} {p bank sp N : Nat} {es : List Ent} {Q : Pgs} (root : Int) (h : Has w (btS p bank sp N es Q :: l)) (hb : -9223372036854775808 ≤ root ∧ root ≤ 9223372036854775807) (hql : Q.length ≤ 100000) :
    Calls Tryz.prog 109 #[.pointer (some ⟨p, 0, none⟩), .int .i64 root] w (BpPost p bank sp N es Q (Reach Q root) l w) := by
  have hmm := @run_makeMap Tryz.prog
  have h1 := imap_made h
  have HG := Lib.hid (gather_root root h1 hb hql)
  have HK := Lib.hid ((Kept.refl w).alloc (.map #[] 0))
  have hup := h.bt_inv.1.up
  clear h h1 hb
  go_enter Tryz.func109, Tryz.ntmps109
  go_wp2_with fail
  refine HG.out.mono ?_
  rintro r w1 ⟨rfl, hK1, M, hok, hM, h2⟩
  have HK1 := Lib.hid (HK.out.trans hK1)
  have hml := hok.len hup
  have HM := Lib.hid (And.intro hM hml)
  have H2 := Lib.hid h2
  have hown := h2.map_own (b := w.heap.size) (n := M.length) (M := VMap.over intVal M) (.head _)
  have Hown := Lib.hid hown
  clear hM hK1 HG HK hok hml h2 hown hmm
  generalize w.heap.size = b at *
  have hsz : Maps.size (dataI M) ≤ 100000 := by
    have := HM.out.2
    simp only [Maps.size, dataI, VMap.over, List.length_map]
    omega
  have Hsz := Lib.hid hsz
  clear hsz
  go_wp2_with (at_range; refine wpList_range_own _ rfl _ 113 rfl 3 3 (int_keyed Tryz.underlying3) Tryz.underlying113 heldR b _ _ rfl Hown.out ?_; intro w0 hrg0 hg0 hs0)
  have HM0 : Hid (BpM w l b w1.heap.size p bank sp N es Q M (.slice none 0 0) w0) := ⟨_, _, [], Met.start, by have := Hsz.out; simpa using this, HK1.out.trans (.grown hg0), (Has.iter_start H2.out hg0 hrg0).row_nil _ _⟩
  clear hrg0 hg0 hs0 H2 HK1 Hown Hsz
  go_frame
  generalize w1.heap.size = r1 at *
  go_loopw [6] (fun ov wr => Hid (BpM w l b r1 p bank sp N es Q M ov wr)) (fun _ wr => wr.rangeLeft b r1)
  case atStart => exact HM0
  case round =>
    clear HM0
    obtain ⟨left, cnt, ss, hmet, hcs, hK, hh⟩ := hrel.out
    clear hrel
    obtain ⟨oa, oc, rfl, _, _⟩ := hh.ints_read (xs := ss) (.head _)
    have hrg := hh.iter (b := b) (r := r1) (n := M.length) (D := dataI M) (left := left) (cnt := cnt) (.tail _ (.head _))
    have Hrg := Lib.hid hrg
    have HX := Lib.hid (And.intro hmet (And.intro hcs hK))
    have HH := Lib.hid hh
    have Hle := hrg.left_eq
    have HLe := Lib.hid Hle
    clear hmet hcs hK hh hrg Hle
    go_wp2_with (at_next; refine wpList_next_ranges _ rfl _ rfl 3 (int_keyed Tryz.underlying3) heldR (Value.int .i64) (fun v : Value => v) (fun key kl hkey => by obtain ⟨x, rfl, _⟩ := Maps.keyOf_int_inv Tryz.underlying3 hkey; exact ⟨x, rfl⟩) (fun v y _ => ⟨v, rfl⟩) b r1 M.length _ _ _ rfl Hrg.out ?_ ?_)
    · intro hc0 hl0
      have hmm := HX.out.1.fin hl0
      have HS := Lib.hid (sort_ints HH.out (by have := HX.out.2.1; omega))
      have hK := HX.out.2.2
      have HF : Hid ((ss.mergeSort leZ).Pairwise (fun a b : Int => a < b) ∧ (∀ x, x ∈ ss.mergeSort leZ ↔ Reach Q root x) ∧ Kept w wr) := ⟨hmm.1, fun x => (hmm.2 x).trans (HM.out.1 x), hK⟩
      clear hmm hc0 hl0 HX HH Hrg HLe hK
      go_wp2_with fail
      refine HS.out.mono ?_
      rintro r w5 ⟨rfl, hK5, h5⟩
      have HE : Hid (BpPost p bank sp N es Q (Reach Q root) l w (.returned (.slice oa ss.length oc)) w5) := ⟨_, _, rfl, HF.out.2.2.trans hK5, HF.out.1, HF.out.2.1, h5.swap.tail⟩
      clear hK5 h5 HS HF
      go_wp2
      go_ret
      exact HE.out
    · intro x c kl yd yp w2 cnt2 hkey hlk hv hat hrg2 hlt hg2 hs2 hen
      obtain ⟨x', ex, rfl, _⟩ := Maps.keyOf_int_inv Tryz.underlying3 hkey
      injection ex with _ ex
      subst ex
      have hin : inM M x := by
        have h1 := hat .nil
        rw [atKey_lit, VMap.get_over] at h1
        unfold inM
        cases hgx : VMap.get x M with
        | some v => rfl
        | none =>
          rw [hgx] at h1
          have h2 : heldR c = some (yd, yp) := hv
          injection h2 with h2
          injection h2 with h2 _
          rw [← h2] at h1
          cases h1
      have hmet2 := HX.out.1.step hlk hin
      have h3 := Has.iter_next HH.out.swap hg2 hrg2
      have hm3 : cnt2 < cnt := hlt
      have hK3 := HX.out.2.2.trans (.grown hg2)
      have h4 := (h3.swap.alloc (.cells #[.int .i64 x] 3)).swap
      have HM3 := Lib.hid (And.intro hmet2 (And.intro hm3 (And.intro (hK3.alloc (.cells #[.int .i64 x] 3)) HX.out.2.1)))
      have H4 := Lib.hid h4
      have Hl : Hid (ss.length ≤ 1000000) := by show _ ≤ _; have := HX.out.2.1; omega
      clear hkey hlk hv hat hrg2 hlt hg2 hs2 hin hmet2 h3 hm3 hK3 h4 HX HH Hrg
      go_wp2_with (at_builtin; refine wpList_append_int rfl (.tmp 19) (.tmp 21) rfl rfl rfl H4.out (.head _) rfl (by have := Hl.out; omega) ?_; intro p' c' w6 hK6 h6)
      have h7 := Has.skip (A := [_]) (M := [_]) h6
      have Hrg2 := (Has.iter h7 (b := b) (r := r1) (n := M.length) (D := dataI M) (cnt := cnt2) (.tail _ (.head _))).left_eq
      have HE : Hid (BpM w l b r1 p bank sp N es Q M (.slice p' (ss.length + 1) c') w6) := ⟨_, cnt2, ss ++ [x], HM3.out.1, by rw [List.length_append, List.length_singleton]; have h8 := HM3.out.2.1; have h9 := HM3.out.2.2.2; omega, HM3.out.2.2.1.trans hK6, h7⟩
      have Hm : Hid (w6.rangeLeft b r1 < wr.rangeLeft b r1) := by
        show _ < _
        rw [Hrg2, HLe.out]
        exact HM3.out.2.1
      clear hK6 h6 h7 Hrg2 H4 HM3 HLe hen
      go_wp2
      go_roundw
      case rel => exact HE
      case measure => exact Hm.out
end Go.Proofs.YtgbgneiciabidaaGreatDoor
/-
  The statements of layer 12: how many pages of a level a tree has; a root is none just if it has no pairs.
-/
namespace Go.Proofs.YtgbgneiciabidaaGreatDoor
open Go Go.RowKit
set_option linter.all false

theorem Reach.self_or {es : List Ent} {Q : Pgs} {D : Int → Nat} (hI : FInv es Q D) {a b : Int} {g gb : Pg} (h : Reach Q a b) (hg : VMap.get a Q = .some g) (hb : VMap.get b Q = .some gb) : b = a ∨ gb.n.level < g.n.level := by
  cases h with
  | here _ => exact .inl rfl
  | kid hg' hc h2 =>
    rw [hg] at hg'
    obtain rfl := Option.some.inj hg'
    obtain ⟨gc, hgc, hlc⟩ := hI.kid _ _ hg _ hc
    have := h2.lv hI hgc hb
    exact .inr (by omega)
def LvZ (Q : Pgs) (a : Int) (k : Int) (n : Nat) : Prop := ∃ Z : List Int, Z.length ≤ n ∧ ∀ b g, Reach Q a b → VMap.get b Q = some g → g.n.level = k → b ∈ Z
theorem TrG.levels {Q : Pgs} {T : Int → List KV → Nat → Prop} {k : Int} (hT : ∀ a L s, T a L s → LvZ Q a k L.length) {ps L : List KV} {s : Nat} (h : TrG T ps L s) :
    ∃ Z : List Int, Z.length ≤ L.length ∧ ∀ p ∈ ps, ∀ b g, Reach Q p.2 b → VMap.get b Q = some g → g.n.level = k → b ∈ Z := by
  induction h with
  | nil => exact ⟨[], Nat.le_refl _, fun p hp => by cases hp⟩
  | cons h1 _ _ ih =>
    obtain ⟨Z, z1, z2⟩ := ih
    obtain ⟨Y, y1, y2⟩ := hT _ _ _ h1
    refine ⟨Y ++ Z, by rw [List.length_append, List.length_append]; omega, fun p hp b g hr hg hk => ?_⟩
    rcases List.mem_cons.1 hp with rfl | hp
    · exact List.mem_append_left _ (y2 b g hr hg hk)
    · exact List.mem_append_right _ (z2 p hp b g hr hg hk)
theorem Tr.levels {es : List Ent} {Q : Pgs} {D : Int → Nat} (hI : FInv es Q D) (k : Int) : ∀ {lv : Nat} {a : Int} {L : List KV} {s : Nat}, Tr Q lv a L s → LvZ Q a k L.length
  | 0, a, L, s, ⟨g, h1, h2, h3, h4⟩ => by
    have hL : 1 ≤ L.length := by
      obtain ⟨ok, _, _⟩ := hI.pg a g h1
      have o := ok_lens ok
      rw [h3]
      unfold Nd.pairs
      rw [List.length_zip]
      omega
    refine ⟨[a], hL, fun b gb hr hb hk => ?_⟩
    rcases hr.self_or hI h1 hb with rfl | h5
    · exact .head _
    · have := (hI.lv hb).1
      omega
  | lv + 1, a, L, s, ⟨g, s', h1, h2, h3, h4⟩ => by
    have ok := (hI.pg a g h1).1
    have o := ok_lens ok
    by_cases hk0 : k = ((lv + 1 : Nat) : Int)
    · have hL : 1 ≤ L.length := by
        have hps : 1 ≤ g.n.pairs.length := by
          unfold Nd.pairs
          rw [List.length_zip]
          omega
        have := h3.len
        omega
      refine ⟨[a], hL, fun b gb hr hb hk => ?_⟩
      rcases hr.self_or hI h1 hb with rfl | h5
      · exact .head _
      · omega
    · obtain ⟨Z, z1, z2⟩ := TrG.levels (Q := Q) (k := k) (fun a L s h => Tr.levels hI k h) h3
      refine ⟨Z, z1, fun b gb hr hb hk => ?_⟩
      cases hr with
      | here _ =>
        rw [h1] at hb
        obtain rfl := Option.some.inj hb
        exact absurd (hk.symm.trans h2) hk0
      | kid hg' hc h5 =>
        rw [h1] at hg'
        obtain rfl := Option.some.inj hg'
        obtain ⟨p, hp, rfl⟩ := kid_pair ok hc
        exact z2 p hp b gb h5 hb hk
theorem Tr.some_pair {es : List Ent} {Q : Pgs} {D : Int → Nat} (hI : FInv es Q D) {lv : Nat} {a : Int} {L : List KV} {s : Nat} (h : Tr Q lv a L s) : L ≠ [] := fun e => by
  obtain ⟨g, hg, hlv⟩ := h.get
  obtain ⟨Z, z1, z2⟩ := h.levels hI g.n.level
  have := z2 a g (.here (by rw [hg]; rfl)) hg rfl
  rw [e] at z1
  rw [List.eq_nil_of_length_eq_zero (Nat.le_zero.1 z1)] at this
  cases this
theorem Root.zero {es : List Ent} {Q : Pgs} {D : Int → Nat} (hI : FInv es Q D) {a : Int} {L : List KV} {s : Nat} (h : Root Q a L s) : (a = 0 ↔ L = []) ∧ ∀ k, LvZ Q a k L.length := by
  rcases h.it with ⟨rfl, rfl, _⟩ | ⟨lv, hT, _, hp⟩
  · refine ⟨⟨fun _ => rfl, fun _ => rfl⟩, fun k => ⟨[], Nat.le_refl _, fun b g hr hb _ => ?_⟩⟩
    have h0 := root_none hI
    cases hr with
    | here h => rw [h0] at h; cases h
    | kid h _ _ => rw [h0] at h; cases h
  · obtain ⟨g, hg, _⟩ := hT.get
    have hbd := (hI.adr a (by rw [hg]; rfl)).bd
    exact ⟨⟨fun h => by omega, fun h => absurd h (hT.some_pair hI)⟩, fun k => hT.levels hI k⟩
theorem LvZ.count {Q : Pgs} {a k : Int} {n : Nat} (h : LvZ Q a k n) {Z : List Int} (hn : Z.Nodup) (hz : ∀ x ∈ Z, Reach Q a x ∧ ∃ g, VMap.get x Q = some g ∧ g.n.level = k) : Z.length ≤ n := by
  obtain ⟨Y, y1, y2⟩ := h
  have := List.Nodup.length_le_of_subset hn (l₂ := Y) fun x hx => by
    obtain ⟨hr, g, hg, hk⟩ := hz x hx
    exact y2 x g hr hg hk
  omega
end Go.Proofs.YtgbgneiciabidaaGreatDoor
