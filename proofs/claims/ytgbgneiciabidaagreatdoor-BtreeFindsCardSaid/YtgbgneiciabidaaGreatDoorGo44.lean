/-
  The statements of layer 12: made.
-/
import Derived.Test.YtgbgneiciabidaaGreatDoorGo43
import Derived.Test.YtgbgneiciabidaaGreatDoorGo23
import Derived.Laws.StructEq
namespace Go.Proofs.YtgbgneiciabidaaGreatDoor
open Go Go.RowKit
set_option linter.all false

def sizesT (zs : List Int) : Bool := decide (1 ≤ zs.length) && decide (zs.length ≤ 4) && zs.all fun z => decide (3 ≤ z) && decide (z ≤ 4096)
def MadeTM (w : World) (l : List Say) (zs : List Int) (r4 bank k : Nat) (wr : World) : Prop :=
  ∃ rv, Kept w wr ∧ Has wr (pts r4 (.cells #[rv] 58 (0, 0)) :: entS rv (eSizes (zs.take k)) :: bankS 0 bank (dSizes (zs.take k)) :: l)
/-- The law's trees, ahead of the first one. -/
def treesS (t sp p : Nat) : Say := pts t (.cells #[.pointer (some ⟨sp, 0, none⟩), .pointer (some ⟨p, 0, none⟩), .int .i64 0, .int .i64 0, .int .i64 0, .int .i64 0, .slice none 0 0, .slice none 0 0, .slice none 0 0, .slice none 0 0] 70 (0, 0))
def MadeTPost (zs : List Int) (l : List Say) (w : World) (r : Ending) (w' : World) : Prop :=
  ∃ t sp p bank, r = .returned (.pointer (some ⟨t, 0, none⟩)) ∧ Kept w w' ∧ Has w' (treesS t sp p :: btS p bank sp 0 (eSizes zs) [] :: l)
theorem sizesT_at {zs : List Int} (h : sizesT zs = true) {k : Nat} (hk : k < zs.length) : ∃ n : Nat, zs[k] = (n : Int) ∧ 3 ≤ n ∧ n ≤ 4096 := by
  simp only [sizesT, Bool.and_eq_true, List.all_eq_true, decide_eq_true_eq] at h
  have := h.2 _ (List.getElem_mem hk)
  exact ⟨zs[k].toNat, by omega, by omega, by omega⟩
theorem sizesT_ok {zs : List Int} (h : sizesT zs = true) : OkEnts (eSizes zs) := by
  have h' := h
  simp only [sizesT, Bool.and_eq_true, List.all_eq_true, decide_eq_true_eq] at h'
  refine ⟨by simp [eSizes]; omega, fun e he => ?_⟩
  obtain ⟨z, hz, rfl⟩ := List.mem_map.1 he
  have := h'.2 z hz
  exact ⟨by show z.toNat ≤ 4096; omega, .inl ⟨.inl rfl, by show 2 < z.toNat; omega⟩⟩
theorem fresh_roomT {zs : List Int} (h : sizesT zs = true) : Room (eSizes zs) [] (dSizes zs) (freshSpc (eSizes zs)) := by
  have h' := h
  simp only [sizesT, Bool.and_eq_true, List.all_eq_true, decide_eq_true_eq] at h'
  refine ⟨?_, XIs.fresh _, fun d y hy k => ?_, by simp [eSizes]; omega, fun e he => ?_⟩
  · have := fits_fresh (zs.map Int.toNat) fun n hn => by
      obtain ⟨z, hz, rfl⟩ := List.mem_map.1 hn
      have := h'.2 z hz
      omega
    rw [List.map_map, List.map_map] at this
    exact this
  · simp only [freshSpc, List.getElem?_map, Option.map_eq_some_iff] at hy
    obtain ⟨e, _, rfl⟩ := hy
    rfl
  · obtain ⟨z, hz, rfl⟩ := List.mem_map.1 he
    have := h'.2 z hz
    show z.toNat ≤ 4096
    omega
theorem FInv.empty (es : List Ent) : FInv es [] (fun _ => 0) := by
  refine ⟨List.Pairwise.nil, fun a g h => ?_, fun a g h => ?_, fun a h => ?_, fun a h => ?_⟩
  · cases h
  · cases h
  · exact absurd h (Nat.lt_irrefl 0)
  · cases h
theorem sizesT_ne {zs : List Int} (h : sizesT zs = true) : eSizes zs ≠ [] := fun e => by
  have h' := h
  simp only [sizesT, Bool.and_eq_true, List.all_eq_true, decide_eq_true_eq] at h'
  have := congrArg List.length e
  simp [eSizes] at this
  rw [this] at h'
  simp at h'
set_option maxHeartbeats 4000000 in
set_option maxRecDepth 100000 in
theorem made12 {w : World} {l : List Say} (zs : List Int) {zv : Value} (h : Has w l) (hz : Srcs l zv zs) (hok : sizesT zs = true) :
    Calls Tryz.prog 36 #[zv] w (MadeTPost zs l w) := by
  obtain ⟨a, c, rfl, _⟩ := (hz w h).rd
  have HBN := Lib.hid (bank_New h)
  have HZ := Lib.hid hz
  clear h hz
  go_enter Tryz.func36, Tryz.ntmps36
  go_wp2_with fail
  refine HBN.out.mono ?_
  rintro r w2 ⟨bank, rfl, hK2, h2⟩
  have h3 := h2.alloc (.cells #[.slice none 0 0] 58)
  have hk3 := hK2.alloc (.cells #[.slice none 0 0] 58)
  have HM0 : Hid (MadeTM w l zs w2.heap.size bank 0 (w2.alloc (.cells #[.slice none 0 0] 58))) :=
    ⟨.slice none 0 0, hk3, ((h3.row_nil 139 2).swap)⟩
  clear h2 h3 hK2 hk3 HBN
  simp only [ptrV]
  go_wp2
  generalize w2.heap.size = r4 at *
  have H4l : Hid (zs.length ≤ 4) := by
    simp only [sizesT, Bool.and_eq_true, decide_eq_true_eq] at hok
    exact hok.1.2
  obtain ⟨m, hm⟩ : ∃ m, zs.length = m := ⟨_, rfl⟩
  rw [hm] at H4l ⊢
  have Hm := Lib.hid hm
  have Hok := Lib.hid hok
  clear hm hok
  go_loopg [14] m (fun gk i wr => ∃ k : Nat, k ≤ m ∧ gk = m - k ∧ i = .int .i64 k ∧ Hid (MadeTM w l zs r4 bank k wr))
  case atStart => exact ⟨0, Nat.zero_le _, rfl, rfl, HM0⟩
  case round =>
    clear HM0
    obtain ⟨k, hk, rfl, rfl, HM⟩ := hrel
    obtain ⟨rv, hK, hh⟩ := HM.out
    clear HM
    by_cases hlt : k < m
    · obtain ⟨a', c', hv', hrd⟩ := (HZ.out wr hh.tail.tail.tail).rd
      injection hv' with j1 j2 j3
      subst j1 j3
      obtain ⟨gb, go, rfl, hc⟩ := hrd k (by have := Hm.out; omega)
      have lz := World.block_lt_of_cell? _ _ hc
      have hltz : k < zs.length := by have := Hm.out; omega
      obtain ⟨n, hzn, n3, n4⟩ := sizesT_at Hok.out hltz
      have HEs : Hid (eSizes (zs.take (k + 1)) = eSizes (zs.take k) ++ [⟨1, n⟩]) := by show _ = _; rw [take_snoc1 _ _ hltz, eSizes, List.map_append, hzn]; simp [eSizes]
      have HDs : Hid (dSizes (zs.take (k + 1)) = dSizes (zs.take k) ++ [List.replicate n zeros]) := by show _ = _; rw [take_snoc1 _ _ hltz, dSizes, List.map_append, hzn]; simp [dSizes]
      have hLe : (eSizes (zs.take k)).length = k := by simp [eSizes]; omega
      have hXl : (dSizes (zs.take k)).length < 8 := by have := H4l.out; simp [dSizes]; omega
      have HBA := Lib.hid (bank_Add (hh.pull 2) n (by omega) (by omega) hXl)
      have HK := Lib.hid hK
      rw [hzn] at hc
      have kI : (k : Int) < (m : Int) := by omega
      have k0 : (0 : Int) ≤ k := by omega
      have HLe := Lib.hid hLe
      have k4 : k < 4 := by have := H4l.out; omega
      clear hh hK hrd hzn hXl hLe hltz
      generalize eSizes (zs.take k) = es at *
      generalize dSizes (zs.take k) = X at *
      go_wp2_with fail
      refine HBA.out.mono ?_
      rintro r w3 ⟨rfl, hK3, h3⟩
      have h3r : Has w3 (pts r4 (.cells #[rv] 58 (0, 0)) :: entS rv es :: bankS 0 bank (X ++ [List.replicate n zeros]) :: l) := h3.reord [1, 1]
      obtain ⟨a5, c5, rfl, hx⟩ := h3r.row_val (e := 139) (size := 2) (v := rv) (n := es.length) (xs := es.flatMap Ent.cells) (by simp [entS])
      clear hx
      have r50 : w3.cell? ⟨r4, 0, none⟩ = some (.slice a5 es.length c5) := cell_of h3r.got 0 rfl
      have l5 := World.block_lt_of_cell? _ _ r50
      have hA := h3r.alloc (.cells #[.int .i64 1, .int .i64 (n : Int)] 139)
      have hsrc : ∀ j u, ([Value.int .i64 1, Value.int .i64 (n : Int)])[j]? = some u → (w3.alloc (.cells #[.int .i64 1, .int .i64 (n : Int)] 139)).cell? ((⟨w3.heap.size, 0, none⟩ : Addr).add j) = some u := fun j u hu => by
        rw [Addr.add_lit, Nat.zero_add]
        exact cell_of hA.got j (by simpa using hu)
      have h6 : Has (w3.alloc (.cells #[.int .i64 1, .int .i64 (n : Int)] 139)) (rowS 139 2 (.slice a5 es.length c5) es.length (es.flatMap Ent.cells) :: pts r4 (.cells #[.slice a5 es.length c5] 58 (0, 0)) :: bankS 0 bank (X ++ [List.replicate n zeros]) :: l) := hA.tail.swap
      have H6 := Lib.hid h6
      have Hsrc := Lib.hid hsrc
      have HK3 := Lib.hid ((HK.out.trans hK3).alloc (.cells #[.int .i64 1, .int .i64 (n : Int)] 139))
      obtain ⟨i0, I1, I2, I3, I4⟩ := info_parts info_ent
      rw [HLe.out] at H6 r50
      clear h3 h3r hK3 HBA HK hA hsrc h6
      go_upto_region 10 with (at_builtin; refine wpList_append_row rfl (.tmp 22) (.tmp 25) 56 rfl 139 i0 (.agg #[.int .i64 0, .int .i64 0]) 2 16 Tryz.underlying56 I1 I2 I3 I4 rfl (by decide) _ _ (es.flatMap Ent.cells) rfl H6.out ⟨w3.heap.size, 0, none⟩ 1 1 [.int .i64 1, .int .i64 (n : Int)] rfl rfl Hsrc.out (by simp [Value.oneCell']) (by simp [maxLen]; omega) (by omega) ?_; intro v' w' hK2 hh; obtain ⟨oa', oc', rfl, hx'⟩ := hh.row_val (v := v') (.head _); clear hx'; have hob := hh.at (b := r4) (o := .cells #[.slice a5 k c5] 58 (0, 0)) (by simp); have z1 : w'.cell? ⟨r4, 0, none⟩ = some (.slice a5 k c5) := cell_of hob 0 rfl; have f1 := thaw_of hob 0; have l1 := World.block_lt_of_cell? _ _ z1; have HK2 := Lib.hid hK2; have Hz := Lib.hid hh; clear hK2 hh hob)
      have HM2 : Hid (MadeTM w l zs r4 bank (k + 1) (w'.setCell ⟨r4, 0, none⟩ (.slice oa' (k + 1) oc'))) := by
        refine ⟨.slice oa' (k + 1) oc', (HK3.out.trans HK2.out).setCell _ _, ?_⟩
        have h7 := (Hz.out.reord [1]).setCell 0 (.slice oa' (k + 1) oc')
        have e : entS (.slice oa' (k + 1) oc') (es ++ [⟨1, n⟩]) = rowS 139 2 (.slice oa' (k + 1) oc') (k + 1) (es.flatMap Ent.cells ++ [.int .i64 1, .int .i64 (n : Int)]) := by
          rw [entS, List.length_append, List.flatMap_append, HLe.out]; rfl
        rw [HEs.out, HDs.out, e]
        exact h7
      clear Hz HK2 HK3 H6 Hsrc z1 f1 l1 HEs HDs HLe
      go_wp2
      go_roundg (m - (k + 1))
      case measure => omega
      case rel => exact ⟨k + 1, by omega, rfl, by go_num, HM2⟩
    · have hke : k = m := by omega
      subst hke
      rw [List.take_of_length_le (by have := Hm.out; omega)] at hh
      have hes : (eSizes zs).length = k := by have := Hm.out; simp [eSizes]; omega
      obtain ⟨a5, c5, rfl, hx⟩ := hh.row_val (e := 139) (size := 2) (v := rv) (n := (eSizes zs).length) (xs := (eSizes zs).flatMap Ent.cells) (by simp [entS])
      have HSN := Lib.hid (sp_New hh (v := .slice a5 (eSizes zs).length c5) (es := eSizes zs) (by simp) (sizesT_ok Hok.out) (sizesT_ne Hok.out))
      have r50 : wr.cell? ⟨r4, 0, none⟩ = some (.slice a5 (eSizes zs).length c5) := cell_of hh.got 0 rfl
      have l5 := World.block_lt_of_cell? _ _ r50
      have HK := Lib.hid hK
      clear hx hh hK hes
      generalize hq : (eSizes zs).length = q at *
      clear hq
      go_wp2_with fail
      refine HSN.out.mono ?_
      rintro r w3 ⟨sp, rfl, hK3, h3⟩
      have HST := Lib.hid (st_New h3 bank sp)
      have HK3 := Lib.hid (HK.out.trans hK3)
      clear h3 hK3 HSN HK r50 l5
      go_wp2_with fail
      refine HST.out.mono ?_
      rintro r w4 ⟨p, rfl, hK4, h4⟩
      have HK4 := Lib.hid (HK3.out.trans hK4)
      have H4 := Lib.hid h4
      clear h4 hK4 HST HK3
      have h5 := H4.out.alloc (.cells #[.pointer (some ⟨sp, 0, none⟩), .pointer (some ⟨p, 0, none⟩), .int .i64 0, .int .i64 0, .int .i64 0, .int .i64 0, .slice none 0 0, .slice none 0 0, .slice none 0 0, .slice none 0 0] 70)
      have HF : Hid (MadeTPost zs l w (.returned (.pointer (some ⟨w4.heap.size, 0, none⟩))) (w4.alloc (.cells #[.pointer (some ⟨sp, 0, none⟩), .pointer (some ⟨p, 0, none⟩), .int .i64 0, .int .i64 0, .int .i64 0, .int .i64 0, .slice none 0 0, .slice none 0 0, .slice none 0 0, .slice none 0 0] 70))) := by
        refine ⟨w4.heap.size, sp, p, bank, rfl, HK4.out.alloc _, Has.swap ?_⟩
        have h6 : Has _ (world3 p bank sp 0 0 [] (dSizes zs) (freshSpc (eSizes zs)) (treesS w4.heap.size sp p :: pts r4 (.cells #[.slice a5 q c5] 58 (0, 0)) :: entS (.slice a5 q c5) (eSizes zs) :: l)) := h5.reord [1, 4, 1]
        have h7 := Has.bt_shut (N := 0) (FInv.empty (eSizes zs)) (fresh_roomT Hok.out) (fun a g hg => by cases hg) h6.trio_of
        exact Has.skip (A := [_, _]) (M := [_, _]) h7
      clear h5 H4 HK4
      go_wp2
      go_ret
      exact HF.out
end Go.Proofs.YtgbgneiciabidaaGreatDoor
/-
  The statements of layer 12: awake.
-/
namespace Go.Proofs.YtgbgneiciabidaaGreatDoor
open Go Go.RowKit
set_option linter.all false

theorem awake_holds {es : List Ent} {Q' : Pgs} {s' : Nat} (hI : FInv es Q' (fun _ => 0)) (hL : Live Q') (hm : Moved [] Q' 0 2) (hR : Root Q' 2 [(1, 5)] s') (hs : s' ≤ 2) : holdsOf Q' 2 = 1 := by
  rcases hR.it with ⟨h, _, _⟩ | ⟨lv, hT, _, hh⟩
  · cases h
  cases lv with
  | succ lv =>
    obtain ⟨g, s0, hg, hlv, hTL, rfl⟩ := hT
    have h1 := (wt_two (lv + 1) g.n.keys.length).1
    cases hp : g.n.pairs with
    | nil =>
      rw [hp] at hTL
      cases hTL
    | cons q B =>
      rw [hp] at hTL
      obtain ⟨LM, LB, sM, sB, q1, _, _, _, rfl⟩ := hTL.one
      have := q1.weighs.1
      omega
  | zero =>
    obtain ⟨g, hg, hlv, _, _⟩ := hT
    have hheld : ∀ a, heldOf Q' a = oneAt 2 a := fun a => by
      have := hm.held a
      have e : oneAt 0 a = 0 := by unfold oneAt; rw [if_neg (fun x => x.2 rfl)]
      have e2 : heldOf [] a = 0 := rfl
      omega
    have hk : g.n.kids = [] := by
      unfold Nd.kids
      rw [hlv]
      rfl
    have hall := hL.all hI (Z := [2]) (fun a ga ha hpos => by
      have h1 := hheld a
      unfold heldOf at h1
      rw [ha] at h1
      have h2 : ga.held = oneAt 2 a := h1
      unfold oneAt at h2
      by_cases e : a = 2
      · simp [e]
      · rw [if_neg (fun x => e x.1)] at h2; omega) (fun b hb gb hgb c hc => by
      have e : b = 2 := by simpa using hb
      subst e
      rw [hg] at hgb
      obtain rfl := Option.some.inj hgb
      rw [hk] at hc
      cases hc)
    have hr : refs Q' 2 = 0 := by
      refine Nat.eq_zero_of_not_pos fun hp => ?_
      obtain ⟨b, gb, hgb, hc⟩ := refs_who hI.up hp
      have e : b = 2 := by simpa using hall b gb hgb
      subst e
      rw [hg] at hgb
      obtain rfl := Option.some.inj hgb
      rw [hk] at hc
      cases hc
    have h3 := (hI.pg 2 g hg).2.2
    have h4 := hheld 2
    unfold heldOf at h4
    rw [hg] at h4
    have h5 : g.held = oneAt 2 2 := h4
    unfold holdsOf
    rw [hg]
    show g.holds = 1
    rw [h3, hr, h5]
    rfl
theorem awake_at {ta : Int} (h : Next [⟨1, 10⟩] [] ta) : ta = 2 := by
  obtain ⟨d, k, e, rfl, he, _, h2, _, hj⟩ := h.act
  have hd : d = 0 := by
    have := (List.getElem?_eq_some_iff.1 he).1
    simp at this
    exact this
  subst hd
  by_cases hk : k = 2
  · subst hk
    rfl
  · have := hj 2 (by omega) (by omega)
    cases this
theorem awake_full : ¬ FullQ [⟨1, 10⟩] [] := fun h => by
  have := h 0 ⟨1, 10⟩ rfl rfl 2 (by decide) (by decide)
  cases this
set_option maxHeartbeats 4000000 in
set_option maxRecDepth 100000 in
theorem awake12 {w : World} {l : List Say} (h : Has w l) (ht : Tab l) :
    Calls Tryz.prog 37 #[] w (fun r w' => r = .returned (.bool true) ∧ Kept w w' ∧ Has w' l) := by
  have h1 := (h.alloc (.cells #[.int .i64 10] 3)).row_of_pts (n := 1) (xs := [.int .i64 10]) (size := 1) (by simp) (Nat.le_refl _) (by simp [maxLen]) (by simp) (by simp)
  have h2 : Has (w.alloc (.cells #[.int .i64 10] 3)) (intsS (.slice (some ⟨w.heap.size, 0, none⟩) 1 1) [10] :: l) := h1
  have HM := Lib.hid (made12 [10] h2 (Srcs.of_ints (.head _)) (by decide))
  have HK := Lib.hid ((Kept.refl w).alloc (.cells #[.int .i64 10] 3))
  have Ht := Lib.hid ht
  clear h h1 h2 ht
  go_enter Tryz.func37, Tryz.ntmps37
  go_wp2_with fail
  refine HM.out.mono ?_
  rintro r w1 ⟨t, sp, p, bank, rfl, hK1, h3⟩
  generalize w.heap.size = g0 at *
  have c1 : w1.cell? ⟨t, 1, none⟩ = some (.pointer (some ⟨p, 0, none⟩)) := cell_of h3.got 1 rfl
  have lt1 := World.block_lt_of_cell? _ _ c1
  have HS := Lib.hid (bt_Set 0 1 5 h3.swap Ht.out.cons.cons (.nil _) (fun a g hg => by cases hg) (by omega) (by omega))
  have HK1 := Lib.hid (HK.out.trans hK1)
  clear h3 hK1 HM HK
  go_wp2_with fail
  refine HS.out.mono ?_
  rintro r w2 (⟨hno, _⟩ | ⟨_, hK2, Q', hL, h4, (⟨_, ⟨Q1, news, _, _, hfull, hq⟩, _⟩ | ⟨ta, s', rfl, hmv, hs, hR, hnx⟩)⟩)
  · exact absurd hno (by decide)
  · rw [hq rfl] at hfull
    exact absurd hfull awake_full
  have hta := awake_at (hnx rfl)
  subst hta
  have c1 : w2.cell? ⟨t, 1, none⟩ = some (.pointer (some ⟨p, 0, none⟩)) := cell_of (h4.at (b := t) (o := .cells #[.pointer (some ⟨sp, 0, none⟩), .pointer (some ⟨p, 0, none⟩), .int .i64 0, .int .i64 0, .int .i64 0, .int .i64 0, .slice none 0 0, .slice none 0 0, .slice none 0 0, .slice none 0 0] 70 (0, 0)) (by simp [treesS])) 1 rfl
  have lt2 := World.block_lt_of_cell? _ _ c1
  have HFn := Lib.hid (bt_FindR 2 1 h4 hR)
  have HQ := Lib.hid (And.intro hL (And.intro hmv (And.intro hs hR)))
  have HK2 := Lib.hid (HK1.out.trans hK2)
  clear h4 hL hmv hs hR hnx hK2 HS HK1
  go_wp2_with fail
  refine HFn.out.mono ?_
  rintro r w3 ⟨hK3, rfl, h5⟩
  have c1 : w3.cell? ⟨t, 1, none⟩ = some (.pointer (some ⟨p, 0, none⟩)) := cell_of (h5.at (b := t) (o := .cells #[.pointer (some ⟨sp, 0, none⟩), .pointer (some ⟨p, 0, none⟩), .int .i64 0, .int .i64 0, .int .i64 0, .int .i64 0, .slice none 0 0, .slice none 0 0, .slice none 0 0, .slice none 0 0] 70 (0, 0)) (by simp [treesS])) 1 rfl
  have lt3 := World.block_lt_of_cell? _ _ c1
  have hho := bt_Holds h5 2 (by omega) (by omega)
  rw [awake_holds h5.bt_inv.1 HQ.out.1 HQ.out.2.1 HQ.out.2.2.2 HQ.out.2.2.1] at hho
  have HH := Lib.hid hho
  have HF : Hid (Kept w w3 ∧ Has w3 l) := ⟨HK2.out.trans hK3, h5.tail.tail.tail⟩
  clear h5 hho hK3 HFn HQ HK2
  rw [show foundV (putL [] 1 5) 1 = .tuple #[.int .i64 5, .bool true] from rfl]
  go_wp2_with fail
  refine HH.out.mono ?_
  rintro r w4 ⟨rfl, rfl⟩
  clear HH
  go_wp2
  go_ret
  exact ⟨rfl, HF.out⟩
end Go.Proofs.YtgbgneiciabidaaGreatDoor
/-
  Two pairs are compared.
-/
namespace Go.Proofs.YtgbgneiciabidaaGreatDoor
open Go Go.RowKit
set_option linter.all false

set_option maxRecDepth 100000 in
theorem neq_pair (a b c d : Int) (W : World) : (binOp .neq 87 (.agg #[.int .i64 a, .int .i64 b]) (.agg #[.int .i64 c, .int .i64 d])).run Tryz.prog W = .ok (.bool (!(a == c && b == d))) W := by
  have hu := Tryz.underlying87
  have hi := Tryz.underlying3
  have hs : Tryz.prog.stoodInHeld 87 = false := by kernel_rfl
  have hf : Tryz.prog.underlying 87 = some (.struct (Tryz.prog.fieldsOf 87)) := by unfold Program.fieldsOf; rw [hu]
  rw [run_neq_struct, run_equalIn_agg W 9999 _ _ _ hf hs]
  unfold Program.fieldsOf
  rw [hu]
  simp [Op.eqFields, part, typeInfo, sizeOf, run_underlying hu, run_underlying hi, asAgg, Result.andThen, go_sem, run_equalIn_int, hi]
  by_cases h1 : a = c <;> by_cases h2 : b = d <;> simp [h1, h2]
theorem guard_pair (x y : Operand) (a b c d : Int) (W : World) : (eqGuard .neq 87 x y (.agg #[.int .i64 a, .int .i64 b]) (.agg #[.int .i64 c, .int .i64 d])).run Tryz.prog W = .ok () W := run_eqGuard_agg W _ _ _ _ _ _ (by kernel_rfl)
end Go.Proofs.YtgbgneiciabidaaGreatDoor
