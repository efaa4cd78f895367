/-
  Nodes (layer 10): Put, Drop.
-/
import Derived.Test.YtgbgneiciabidaaGreatDoorGo23
import Derived.Test.YtgbgneiciabidaaGreatDoorGo13
import Derived.Test.YtgbgneiciabidaaGreatDoorGo14
import Derived.Test.YtgbgneiciabidaaGreatDoorGo6
import Derived.Test.YtgbgneiciabidaaGreatDoorGo19
import Derived.Laws.BytesArg
import Derived.Test.YtgbgneiciabidaaGreatDoorGo21
import Derived.Test.YtgbgneiciabidaaGreatDoorGo22
import Derived.Test.YtgbgneiciabidaaGreatDoorGo15
import Derived.Shelf.SlMaps.Clone
namespace Go.Proofs.YtgbgneiciabidaaGreatDoor
open Go Go.RowKit
set_option linter.all false

/-- Pairs with one more, or one other. -/
def putP (ps : List (Int × Int)) (k v : Int) : List (Int × Int) :=
  if (ps.map (·.1))[lowB (ps.map (·.1)) k]? = some k then ps.set (lowB (ps.map (·.1)) k) (k, v) else insP ps (lowB (ps.map (·.1)) k) (k, v)
def NPutPost (ns : List Nd) (l : List Say) (w : World) (r : Ending) (w' : World) : Prop := ∃ v T, r = .returned (.tuple #[v, .nilIface]) ∧ T.map Nv.nd = ns ∧ Kept w w' ∧ Has w' (nodesL v T ++ l)
theorem ordTo_at (ps : List (Int × Int)) : ∀ n, ordTo ps n = true → ∀ k, k < n → ordAt ps k = true
  | 0, _, _, h => by omega
  | n + 1, ho, k, hk => by
    simp only [ordTo, Bool.and_eq_true] at ho
    by_cases e : k = n
    · subst e; exact ho.2
    · exact ordTo_at ps n ho.1 k (by omega)
theorem ordTo_lt (ps : List (Int × Int)) (h : ordTo ps ps.length = true) : ∀ (d i : Nat) (p q : Int × Int), ps[i]? = some p → ps[i + d + 1]? = some q → p.1 < q.1
  | 0, i, p, q, hp, hq => by
    have hk := (List.getElem?_eq_some_iff.1 hq).1
    have h1 := ordTo_at ps _ h (i + 0 + 1) hk
    unfold ordAt at h1
    rw [hq] at h1
    simp only [Nat.add_zero, Nat.add_sub_cancel, hp, Bool.and_eq_true, Bool.or_eq_true, beq_iff_eq, decide_eq_true_eq] at h1
    rcases h1.2 with h2 | h2
    · omega
    · exact h2
  | d + 1, i, p, q, hp, hq => by
    have hk := (List.getElem?_eq_some_iff.1 hq).1
    have hm : ps[i + d + 1]? = some (ps[i + d + 1]'(by omega)) := List.getElem?_eq_getElem _
    have h1 := ordTo_lt ps h d i p _ hp hm
    have h2 := ordTo_lt ps h 0 (i + d + 1) _ q hm (by rw [show i + d + 1 + 0 + 1 = i + (d + 1) + 1 by omega]; exact hq)
    omega
theorem ok_less {n : Nd} (h : n.ok = true) : n.keys.Pairwise (· < ·) := by
  have hl := ok_lens h
  have ho : ordTo n.pairs n.pairs.length = true := by
    simp only [Nd.ok, Bool.and_eq_true] at h
    exact h.2
  refine List.pairwise_iff_getElem.2 fun i j hi hj hij => ?_
  have hz : ∀ (t : Nat) (ht : t < n.keys.length), n.pairs[t]? = some (n.keys[t], n.vals[t]'(by omega)) := fun t ht => by
    unfold Nd.pairs
    rw [List.getElem?_zip_eq_some]
    exact ⟨List.getElem?_eq_getElem ht, List.getElem?_eq_getElem (by omega)⟩
  exact ordTo_lt n.pairs ho (j - i - 1) i _ _ (hz i hi) (by rw [show i + (j - i - 1) + 1 = j by omega]; exact hz j hj)
theorem ok_rising {n : Nd} (h : n.ok = true) : n.keys.Pairwise (· ≤ ·) := (ok_less h).imp fun h => Int.le_of_lt h
theorem pairs_keys {n : Nd} (h : n.ok = true) : n.pairs.map (·.1) = n.keys := by
  obtain ⟨_, _, e, _, _⟩ := ok_lens h
  unfold Nd.pairs
  rw [List.map_fst_zip (by omega)]

theorem Has.drop_mid {w : World} {m l : List Say} {A : Say} (h : Has w (m ++ A :: l)) : Has w (m ++ l) := (h.perm List.perm_middle).tail
theorem flat_set (k v : Int) : ∀ (ps : List (Int × Int)) (i : Nat), (ps.set i (k, v)).flatMap pairCells = ((ps.flatMap pairCells).set (i * 2) (.int .i64 k)).set (i * 2 + 1) (.int .i64 v)
  | [], i => by simp
  | p :: ps, 0 => by simp [pairCells]
  | p :: ps, i + 1 => by
    have ih := flat_set k v ps i
    rw [show (i + 1) * 2 = i * 2 + 2 by omega]
    simp only [List.set_cons_succ, List.flatMap_cons, ih, pairCells]
    rfl
set_option maxHeartbeats 4000000 in
set_option maxRecDepth 100000 in
theorem node_Put {w : World} {l : List Say} (nd : Nd) {kv vv : Value} (key val : Int) (h : Has w l) (hk : intsS kv nd.keys ∈ l) (hv : intsS vv nd.vals ∈ l) (ok : nd.ok = true) (hp : pairOk key val = true) :
    Calls Tryz.prog 101 #[nd.val kv vv, .int .i64 key, .int .i64 val] w (NPutPost (cutN nd.level (putP nd.pairs key val)) l w) := by
  obtain ⟨i0, I1, I2, I3, I4⟩ := info_parts info_pair
  obtain ⟨o0, o1, o2, o3, o4⟩ := ok_lens ok
  have hA := (h.alloc (.cells #[.int .i64 nd.level, kv, vv] 35)).alloc (.cells #[.int .i64 key, .int .i64 val] 87)
  have hKA := ((Kept.refl w).alloc (.cells #[.int .i64 nd.level, kv, vv] 35)).alloc (.cells #[.int .i64 key, .int .i64 val] 87)
  simp only [World.size_alloc] at hA
  have HCk := Lib.hid (node_Check nd hA (kv := kv) (vv := vv) (by simp [hk]) (by simp [hv]))
  have hpr := pairs_keys ok
  have Hpr := Lib.hid hpr
  have Hok := Lib.hid ok
  have Hrs := Lib.hid (ok_rising ok)
  have HA := Lib.hid hA
  have HK := Lib.hid hKA
  have Hk := Lib.hid hk
  have Hv := Lib.hid hv
  have Hp := Lib.hid hp
  have HO := Lib.hid (And.intro o2 (And.intro o3 o4))
  clear h hA hKA hk hv ok hp hpr o2 o3 o4
  simp only [Nd.val] at HCk ⊢
  go_enter Tryz.func101, Tryz.ntmps101
  go_wp2_with fail
  refine HCk.out.mono ?_
  rintro r w1 ⟨hr, hK1, h1⟩
  rw [if_pos Hok.out] at hr
  subst hr
  have hr5 := h1.at (b := w.heap.size + 1) (o := .cells #[.int .i64 key, .int .i64 val] 87 (0, 0)) (by simp)
  have p0 : w1.cell? ⟨w.heap.size + 1, 0, none⟩ = some (.int .i64 key) := cell_of hr5 0 rfl
  have p1 : w1.cell? ⟨w.heap.size + 1, 1, none⟩ = some (.int .i64 val) := cell_of hr5 1 rfl
  have lp := World.block_lt_of_cell? _ _ p0
  have HR := Lib.hid (pair_right (w := w1) key val)
  rw [Hp.out] at HR
  have H1 := Lib.hid h1
  have HK1 := Lib.hid (HK.out.trans hK1)
  clear h1 hK1 HCk HK HA hr5
  go_wp2_with fail
  refine HR.out.mono ?_
  rintro r w2 ⟨rfl, hb2⟩
  have h2 := H1.out.below hb2
  have HK2 := Lib.hid (HK1.out.trans (Kept.below hb2))
  have hr2 := h2.at (b := w.heap.size) (o := .cells #[.int .i64 nd.level, kv, vv] 35 (0, 0)) (by simp)
  have n0 : w2.cell? ⟨w.heap.size, 0, none⟩ = some (.int .i64 nd.level) := cell_of hr2 0 rfl
  have n1 : w2.cell? ⟨w.heap.size, 1, none⟩ = some kv := cell_of hr2 1 rfl
  have n2 : w2.cell? ⟨w.heap.size, 2, none⟩ = some vv := cell_of hr2 2 rfl
  have ln := World.block_lt_of_cell? _ _ n0
  have HPs := Lib.hid (node_pairs nd h2 (kv := kv) (vv := vv) (by simp [Hk.out]) (by simp [Hv.out]) HO.out.1 (by have := HO.out.2.2; omega))
  simp only [Nd.val] at HPs
  clear h2 hb2 hr2 HR H1 HK1 p0 p1 lp
  go_wp2_with fail
  refine HPs.out.mono ?_
  rintro r w3 ⟨v, rfl, hK3, h3⟩
  clear n0 n1 n2 ln HPs
  have hr2 := h3.at (b := w.heap.size) (o := .cells #[.int .i64 nd.level, kv, vv] 35 (0, 0)) (by simp)
  have n0 : w3.cell? ⟨w.heap.size, 0, none⟩ = some (.int .i64 nd.level) := cell_of hr2 0 rfl
  have n1 : w3.cell? ⟨w.heap.size, 1, none⟩ = some kv := cell_of hr2 1 rfl
  have n2 : w3.cell? ⟨w.heap.size, 2, none⟩ = some vv := cell_of hr2 2 rfl
  have ln := World.block_lt_of_cell? _ _ n0
  have HFd := Lib.hid (node_Find nd (w := w3) (kv := kv) (vv := vv) (h3.rd (by simp [Hk.out])) Hrs.out (by have := HO.out.2.2; omega) key)
  have H3 := Lib.hid h3
  have HK3 := Lib.hid (HK2.out.trans hK3)
  simp only [Nd.val] at HFd
  clear h3 hK3 HK2 hr2
  go_wp2_with fail
  refine HFd.out.mono ?_
  have hpk := Hpr.out
  have hat : lowB nd.keys key ≤ nd.keys.length := (List.takeWhile_sublist _).length_le
  have hpl : (nd.keys.zip nd.vals).length = nd.keys.length := by rw [List.length_zip, HO.out.1, Nat.min_self]
  have HW : Hid (putP nd.pairs key val = if nd.keys[lowB nd.keys key]? = some key then nd.pairs.set (lowB nd.keys key) (key, val) else insP nd.pairs (lowB nd.keys key) (key, val)) := by
    show _ = _
    unfold putP; rw [hpk]
  by_cases hex : nd.keys[lowB nd.keys key]? = some key
  · rw [if_pos hex]
    have hlt : lowB nd.keys key < nd.keys.length := (List.getElem?_eq_some_iff.1 hex).1
    have HW2 : Hid (putP nd.pairs key val = nd.pairs.set (lowB nd.keys key) (key, val)) := by
      show _ = _
      rw [HW.out, if_pos hex]
    clear HW hex hat hpk
    generalize lowB nd.keys key = at_ at *
    rintro r w4 ⟨rfl, hb4⟩
    have h4 := H3.out.below hb4
    have HK4 := Lib.hid (HK3.out.trans (Kept.below hb4))
    clear hb4 HFd n0 n1 n2 ln
    obtain ⟨g, cap, cur, rfl, hnc, hcm, hcs, htk, hxl, hh⟩ := (show Has w4 (rowS 87 2 v (nd.keys.zip nd.vals).length ((nd.keys.zip nd.vals).flatMap pairCells) :: pts (w.heap.size + 1) (.cells #[.int .i64 key, .int .i64 val] 87 (0, 0)) :: pts w.heap.size (.cells #[.int .i64 nd.level, kv, vv] 35 (0, 0)) :: l) from h4).row_out (by have := HO.out.2.1; omega)
    obtain ⟨_, _, ev, _, hr⟩ := h4.pairs_read (.head _)
    injection ev with ev1 ev2 ev3
    obtain ⟨g', eg, c0, c1⟩ := hr at_ _ (List.getElem?_eq_getElem (by omega))
    generalize (nd.keys.zip nd.vals)[at_] = pq at c0 c1
    rw [← ev1] at eg
    injection eg with eg
    injection eg with eg _ _
    subst eg
    have f0 := thaw_of hh.got (at_ * 2)
    have f1 := thaw_of hh.got (at_ * 2 + 1)
    have lg := World.block_lt_of_cell? _ _ c0
    have hr5 := hh.at (b := w.heap.size + 1) (o := .cells #[.int .i64 key, .int .i64 val] 87 (0, 0)) (by simp)
    have p0 : w4.cell? ⟨w.heap.size + 1, 0, none⟩ = some (.int .i64 key) := cell_of hr5 0 rfl
    have p1 : w4.cell? ⟨w.heap.size + 1, 1, none⟩ = some (.int .i64 val) := cell_of hr5 1 rfl
    have lp := World.block_lt_of_cell? _ _ p0
    have h5 := (hh.setCell (at_ * 2) (.int .i64 key)).setCell (at_ * 2 + 1) (.int .i64 val)
    have hk5 := (HK4.out.setCell ⟨g, at_ * 2, none⟩ (.int .i64 key)).setCell ⟨g, at_ * 2 + 1, none⟩ (.int .i64 val)
    have hsl : (nd.pairs.set at_ (key, val)).length = (nd.keys.zip nd.vals).length := by rw [List.length_set]; rfl
    have h6 : Has ((w4.setCell ⟨g, at_ * 2, none⟩ (.int .i64 key)).setCell ⟨g, at_ * 2 + 1, none⟩ (.int .i64 val)) (pairsS (.slice (some ⟨g, 0, none⟩) (nd.keys.zip nd.vals).length cap) (nd.pairs.set at_ (key, val)) :: pts (w.heap.size + 1) (.cells #[.int .i64 key, .int .i64 val] 87 (0, 0)) :: pts w.heap.size (.cells #[.int .i64 nd.level, kv, vv] 35 (0, 0)) :: l) := by
      unfold pairsS
      rw [hsl]
      refine h5.row_of_pts ?_ hnc hcm ?_ ?_
      · rw [flat_len2, hsl]
      · simp [hcs]
      · rw [flat_set, Array.toList_setIfInBounds, Array.toList_setIfInBounds, List.take_set, List.take_set, htk]; rfl
    have atI : (at_ : Int) < ((nd.keys.zip nd.vals).length : Int) := by omega
    have H6 := Lib.hid h6
    have HK6 := Lib.hid hk5
    have Hsl := Lib.hid hsl
    have hn100 : (nd.keys.zip nd.vals).length ≤ 100 := by have := HO.out.2.2; omega
    clear h4 hh hcs htk hxl h5 hk5 hr hr5 h6 ev1 ev2 ev3 HK4 hsl H3 HK3 hpl hlt
    generalize (nd.keys.zip nd.vals).length = n at *
    go_upto_region 11 with fail
    have h7 := H6.out
    generalize (w4.setCell ⟨g, at_ * 2, none⟩ (.int .i64 key)).setCell ⟨g, at_ * 2 + 1, none⟩ (.int .i64 val) = V at *
    have hr2 := h7.at (b := w.heap.size) (o := .cells #[.int .i64 nd.level, kv, vv] 35 (0, 0)) (by simp)
    have n0 : V.cell? ⟨w.heap.size, 0, none⟩ = some (.int .i64 nd.level) := cell_of hr2 0 rfl
    have n1 : V.cell? ⟨w.heap.size, 1, none⟩ = some kv := cell_of hr2 1 rfl
    have n2 : V.cell? ⟨w.heap.size, 2, none⟩ = some vv := cell_of hr2 2 rfl
    have ln := World.block_lt_of_cell? _ _ n0
    have HC := Lib.hid (node_cut nd.level kv vv (nd.pairs.set at_ (key, val)) h7 (PSrcs.of_pairs (.head _)) (by rw [Hsl.out]; omega))
    clear h7 hr2 c0 c1 f0 f1 p0 p1 lp lg H6
    go_wp2_with fail
    refine HC.out.mono ?_
    rintro r w9 ⟨v9, T, rfl, hT, hK9, h9⟩
    have HF : Hid (NPutPost (cutN nd.level (putP nd.pairs key val)) l w (.returned (.tuple #[v9, .nilIface])) w9) := ⟨v9, T, rfl, by rw [HW2.out]; exact hT, HK6.out.trans hK9, h9.drop_mid.drop_mid.drop_mid⟩
    clear hT hK9 h9 HC HK6 n0 n1 n2 ln
    go_wp2
    go_ret2
    exact HF.out
  · rw [if_neg hex]
    have HW2 : Hid (putP nd.pairs key val = insP nd.pairs (lowB nd.keys key) (key, val)) := by
      show _ = _
      rw [HW.out, if_neg hex]
    clear HW hex hpk
    generalize lowB nd.keys key = at_ at *
    rintro r w4 ⟨rfl, hb4⟩
    obtain ⟨ps, hps⟩ : ∃ ps, ps = nd.keys.zip nd.vals := ⟨_, rfl⟩
    have h4 : Has w4 (pairsS v ps :: pts (w.heap.size + 1) (.cells #[.int .i64 key, .int .i64 val] 87 (0, 0)) :: pts w.heap.size (.cells #[.int .i64 nd.level, kv, vv] 35 (0, 0)) :: l) := by rw [hps]; exact H3.out.below hb4
    have HW3 : Hid (putP nd.pairs key val = insP ps at_ (key, val)) := by show _ = _; rw [HW2.out, hps]; rfl
    rw [← hps] at hpl
    clear hps HW2
    have HK4 := Lib.hid ((HK3.out.trans (Kept.below hb4)).alloc (.cells #[.int .i64 key, .int .i64 val] 87))
    clear hb4 HFd n0 n1 n2 ln
    obtain ⟨_, _, ev, _, _⟩ := h4.pairs_read (.head _)
    subst ev
    have hr5 := h4.at (b := w.heap.size + 1) (o := .cells #[.int .i64 key, .int .i64 val] 87 (0, 0)) (by simp)
    have p0 : w4.cell? ⟨w.heap.size + 1, 0, none⟩ = some (.int .i64 key) := cell_of hr5 0 rfl
    have p1 : w4.cell? ⟨w.heap.size + 1, 1, none⟩ = some (.int .i64 val) := cell_of hr5 1 rfl
    have lp := World.block_lt_of_cell? _ _ p0
    have hw : IntKind.i64.wrap ((at_ : Int) - 1 + 1) = (at_ : Int) := by rw [IntKind.wrap_i64]; have := HO.out.2.2; omega
    have hw2 : IntKind.i64.wrap (at_ : Int) = (at_ : Int) := by rw [IntKind.wrap_i64]; have := HO.out.2.2; omega
    have hat7 : (at_ : Int) ≤ 7 := by have := HO.out.2.2; omega
    have Hat := Lib.hid hat
    clear hat
    have HI := Lib.hid (sl_Insert ps (key, val) (bx := w4.heap.size) ((h4.alloc (.cells #[.int .i64 key, .int .i64 val] 87)).swap) (.head _) at_ (by have := Hat.out; omega) (by have := HO.out.2.2; omega) (by have := HO.out.2.1; omega))
    have Hpl := Lib.hid hpl
    clear h4 hr5 H3 HK3 hpl
    go_wp2_with fail
    refine HI.out.mono ?_
    rintro r w5 ⟨v5, rfl, hK5, h5⟩
    have hr2 := h5.at (b := w.heap.size) (o := .cells #[.int .i64 nd.level, kv, vv] 35 (0, 0)) (by simp)
    have n0 : w5.cell? ⟨w.heap.size, 0, none⟩ = some (.int .i64 nd.level) := cell_of hr2 0 rfl
    have n1 : w5.cell? ⟨w.heap.size, 1, none⟩ = some kv := cell_of hr2 1 rfl
    have n2 : w5.cell? ⟨w.heap.size, 2, none⟩ = some vv := cell_of hr2 2 rfl
    have ln := World.block_lt_of_cell? _ _ n0
    have HC := Lib.hid (node_cut nd.level kv vv (insP ps at_ (key, val)) h5 (PSrcs.of_pairs (.head _)) (by have hpl := Hpl.out; have hat := Hat.out; rw [insP_len _ _ _ (by omega)]; have := HO.out.2.2; omega))
    have HK5 := Lib.hid (HK4.out.trans hK5)
    clear h5 hK5 HI hr2 p0 p1 lp HK4
    go_wp2_with fail
    refine HC.out.mono ?_
    rintro r w9 ⟨v9, T, rfl, hT, hK9, h9⟩
    have HF : Hid (NPutPost (cutN nd.level (putP nd.pairs key val)) l w (.returned (.tuple #[v9, .nilIface])) w9) := ⟨v9, T, rfl, by rw [HW3.out]; exact hT, HK5.out.trans hK9, h9.drop_mid.drop_mid.drop_mid.drop_mid⟩
    clear hT hK9 h9 HC HK5 n0 n1 n2 ln
    go_wp2
    go_ret2
    exact HF.out
end Go.Proofs.YtgbgneiciabidaaGreatDoor
/-
  Nodes (layer 10): Drop, of a key that is there.
-/
namespace Go.Proofs.YtgbgneiciabidaaGreatDoor
open Go Go.RowKit
set_option linter.all false

def NDropPost (n : Nd) (l : List Say) (w : World) (r : Ending) (w' : World) : Prop :=
  ∃ (ak : Option Addr) (ck : Nat) (av : Option Addr) (cv : Nat), r = .returned (.tuple #[.agg #[.int .i64 n.level, .slice ak n.keys.length ck, .slice av n.vals.length cv], .nilIface]) ∧ Kept w w' ∧
    Has w' (intsS (.slice ak n.keys.length ck) n.keys :: intsS (.slice av n.vals.length cv) n.vals :: l)
set_option maxHeartbeats 4000000 in
set_option maxRecDepth 100000 in
theorem node_Drop {w : World} {l : List Say} (nd : Nd) {kv vv : Value} (key : Int) (h : Has w l) (hk : intsS kv nd.keys ∈ l) (hv : intsS vv nd.vals ∈ l) (ok : nd.ok = true) (hx : nd.keys[lowB nd.keys key]? = some key) :
    Calls Tryz.prog 105 #[nd.val kv vv, .int .i64 key] w (NDropPost (ndOf nd.level (nd.pairs.eraseIdx (lowB nd.keys key))) l w) := by
  obtain ⟨o0, o1, o2, o3, o4⟩ := ok_lens ok
  have hA := (h.alloc (.cells #[.int .i64 nd.level, kv, vv] 35)).alloc (.cells #[.int .i64 0, .slice none 0 0, .slice none 0 0] 35)
  have hKA := ((Kept.refl w).alloc (.cells #[.int .i64 nd.level, kv, vv] 35)).alloc (.cells #[.int .i64 0, .slice none 0 0, .slice none 0 0] 35)
  simp only [World.size_alloc] at hA
  have HCk := Lib.hid (node_Check nd hA (kv := kv) (vv := vv) (by simp [hk]) (by simp [hv]))
  have Hok := Lib.hid ok
  have Hrs := Lib.hid (ok_rising ok)
  have HK := Lib.hid hKA
  have Hk := Lib.hid hk
  have hlt : lowB nd.keys key < nd.keys.length := (List.getElem?_eq_some_iff.1 hx).1
  have hpl : nd.pairs.length = nd.keys.length := by unfold Nd.pairs; rw [List.length_zip, o2, Nat.min_self]
  have HP : Hid (∀ w' l', Has w' ((pts (w.heap.size + 1) (.cells #[.int .i64 0, .slice none 0 0, .slice none 0 0] 35 (0, 0)) :: pts w.heap.size (.cells #[.int .i64 nd.level, kv, vv] 35 (0, 0)) :: l) ++ l') → Calls Tryz.prog 135 #[.agg #[.int .i64 nd.level, kv, vv]] w' (PairsPost nd.pairs ((pts (w.heap.size + 1) (.cells #[.int .i64 0, .slice none 0 0, .slice none 0 0] 35 (0, 0)) :: pts w.heap.size (.cells #[.int .i64 nd.level, kv, vv] 35 (0, 0)) :: l) ++ l') w')) := fun w' l' hw => node_pairs nd hw (kv := kv) (vv := vv) (by simp [hk]) (by simp [hv]) o2 (by omega)
  obtain ⟨ps, hps⟩ : ∃ ps, ps = nd.pairs := ⟨_, rfl⟩
  have Hx := Lib.hid hx
  obtain ⟨m, hm⟩ : ∃ m, m = (ps.eraseIdx (lowB nd.keys key)).length := ⟨_, rfl⟩
  have hm6 : m ≤ 6 := by rw [hm, List.length_eraseIdx_of_lt (by rw [hps, hpl]; exact hlt), hps, hpl]; omega
  rw [← hps] at HP hpl
  have Hat : Hid (lowB nd.keys key < ps.length ∧ ps.length ≤ 100 ∧ (ps.eraseIdx (lowB nd.keys key)).length = m) := ⟨by omega, by omega, hm.symm⟩
  have Hm : Hid (m ≤ 100) := by show m ≤ 100; omega
  have HE : Hid (ndOf nd.level (nd.pairs.eraseIdx (lowB nd.keys key)) = ndOf nd.level (ps.eraseIdx (lowB nd.keys key))) := by show _ = _; rw [hps]
  have hatI : ((lowB nd.keys key : Nat) : Int) ≤ 7 := by omega
  have hlk : nd.keys.length ≤ 1000000 := by omega
  have Hlk := Lib.hid hlk
  clear h hA hKA hk hv ok hx o2 o3 o4 hlt hpl hps hm hm6 hlk
  simp only [Nd.val] at HCk ⊢
  go_enter Tryz.func105, Tryz.ntmps105
  go_wp2_with fail
  refine HCk.out.mono ?_
  rintro r w1 ⟨hr, hK1, h1⟩
  rw [if_pos Hok.out] at hr
  subst hr
  have hr2 := h1.at (b := w.heap.size) (o := (.cells #[.int .i64 nd.level, kv, vv] 35 (0, 0))) (by simp)
  have n0 : w1.cell? ⟨w.heap.size, 0, none⟩ = some (.int .i64 nd.level) := cell_of hr2 0 rfl
  have n1 : w1.cell? ⟨w.heap.size, 1, none⟩ = some kv := cell_of hr2 1 rfl
  have n2 : w1.cell? ⟨w.heap.size, 2, none⟩ = some vv := cell_of hr2 2 rfl
  have ln := World.block_lt_of_cell? _ _ n0
  have HFd := Lib.hid (node_Find nd (w := w1) (kv := kv) (vv := vv) (h1.rd (by simp [Hk.out])) Hrs.out Hlk.out key)
  rw [if_pos Hx.out] at HFd
  have H1 := Lib.hid h1
  have HK1 := Lib.hid (HK.out.trans hK1)
  simp only [Nd.val] at HFd
  clear h1 hK1 HCk HK hr2
  generalize lowB nd.keys key = at_ at *
  go_wp2_with fail
  refine HFd.out.mono ?_
  rintro r W ⟨rfl, hb⟩
  have hh := H1.out.below hb
  have HK2 := Lib.hid (HK1.out.trans (Kept.below hb))
  clear hb H1 HK1 HFd n0 n1 n2 ln
  go_wp2
  generalize hr4 : w.heap.size + 1 = r4 at *
  generalize hr2 : w.heap.size = r2 at *
  clear hr4 hr2
  have hg := hh.at (b := r2) (o := (.cells #[.int .i64 nd.level, kv, vv] 35 (0, 0))) (by simp)
  have b0 : W.cell? ⟨r2, 0, none⟩ = some (.int .i64 nd.level) := cell_of hg 0 rfl
  have b1 : W.cell? ⟨r2, 1, none⟩ = some kv := cell_of hg 1 rfl
  have b2 : W.cell? ⟨r2, 2, none⟩ = some vv := cell_of hg 2 rfl
  have hwa : IntKind.i64.wrap ((at_ : Int) + 1) = (at_ : Int) + 1 := by rw [IntKind.wrap_i64]; omega
  clear hg
  obtain ⟨FA, HFA⟩ : ∃ FA : List (Nat × Addr × Value), Hid (FA = [(0, ⟨r2, 0, none⟩, .int .i64 nd.level), (0, ⟨r2, 1, none⟩, kv), (0, ⟨r2, 2, none⟩, vv), (1, ⟨r2, 0, none⟩, .int .i64 nd.level), (1, ⟨r2, 1, none⟩, kv), (1, ⟨r2, 2, none⟩, vv)]) := ⟨_, rfl⟩
  have fa0_0 : ∀ n : In (factsOf FA 0), n.w.cell? ⟨r2, 0, none⟩ = some (.int .i64 nd.level) := fun n => factsOf.cell (by rw [HFA.out]; simp) n
  have fa0_1 : ∀ n : In (factsOf FA 0), n.w.cell? ⟨r2, 1, none⟩ = some (kv) := fun n => factsOf.cell (by rw [HFA.out]; simp) n
  have fa0_2 : ∀ n : In (factsOf FA 0), n.w.cell? ⟨r2, 2, none⟩ = some (vv) := fun n => factsOf.cell (by rw [HFA.out]; simp) n
  have fa1_0 : ∀ n : In (factsOf FA 1), n.w.cell? ⟨r2, 0, none⟩ = some (.int .i64 nd.level) := fun n => factsOf.cell (by rw [HFA.out]; simp) n
  have fa1_1 : ∀ n : In (factsOf FA 1), n.w.cell? ⟨r2, 1, none⟩ = some (kv) := fun n => factsOf.cell (by rw [HFA.out]; simp) n
  have fa1_2 : ∀ n : In (factsOf FA 1), n.w.cell? ⟨r2, 2, none⟩ = some (vv) := fun n => factsOf.cell (by rw [HFA.out]; simp) n
  have hFA : ∀ p ∈ FA, W.cell? p.2.1 = some p.2.2 := by rw [HFA.out]; exact (fcons b0 (fcons b1 (fcons b2 (fcons b0 (fcons b1 (fcons b2 fnil))))))
  haveI neFA : ∀ k, Nonempty (In (factsOf FA k)) := fun k => ⟨⟨_, factsOf.drew hFA k⟩⟩
  refine ws_begin [0, 1, 2, 3, 4, 5, 6, 7, 8, 9] (factsOf FA) (pts r4 (.cells #[.int .i64 0, .slice none 0 0, .slice none 0 0] 35 (0, 0)) :: pts r2 (.cells #[.int .i64 nd.level, kv, vv] 35 (0, 0)) :: l) #[0, 0, 2, 0, 0, 16, 62, 127, 255, 511] (by kernel_rfl) (by kernel_rfl) (by kernel_rfl) factsOf.alloc (factsOf.drew hFA) hh ?_
  clear hFA
  refine ws_q (at_lit rfl) rfl rfl rfl ?_
  go_big_quiet_op
  show WS _ _ _ _ _ _ _ _ _ _
  refine ws_q (at_lit rfl) rfl rfl rfl ?_
  go_big_quiet_op
  show WS _ _ _ _ _ _ _ _ _ _
  refine ws_call (at_lit rfl) rfl rfl 135 #[.agg #[.int .i64 nd.level, kv, vv]] (fun w => by go_simp) (fun v L' => L' = pairsS v ps :: pts r4 (.cells #[.int .i64 0, .slice none 0 0, .slice none 0 0] 35 (0, 0)) :: pts r2 (.cells #[.int .i64 nd.level, kv, vv] 35 (0, 0)) :: l) (fun w' F hS hh => ?_) ?_
  · refine (HP.out w' _ hh).mono ?_
    rintro r w2' ⟨vp, rfl, hK, h5⟩
    exact ⟨_, _, rfl, hK, rfl, h5⟩
  rintro vp _ rfl
  refine ⟨fun w F hh => lives (l' := [(0, ⟨r2, 0, none⟩, .int .i64 nd.level), (0, ⟨r2, 1, none⟩, kv), (0, ⟨r2, 2, none⟩, vv)]) (by rw [HFA.out]; simp [liveFacts, Nat.testBit]) (fcons (cell_of (hh.at (b := r2) (o := (.cells #[.int .i64 nd.level, kv, vv] 35 (0, 0))) (by simp)) 0 (v := .int .i64 nd.level) rfl) <| fcons (cell_of (hh.at (b := r2) (o := (.cells #[.int .i64 nd.level, kv, vv] 35 (0, 0))) (by simp)) 1 (v := kv) rfl) <| fcons (cell_of (hh.at (b := r2) (o := (.cells #[.int .i64 nd.level, kv, vv] 35 (0, 0))) (by simp)) 2 (v := vv) rfl) <| fnil), ?_⟩
  simp only [Act.put, List.setIfInBounds_toArray, List.set_cons_zero, List.set_cons_succ]
  show WS _ _ _ _ _ _ _ _ _ _
  refine ws_q (at_lit rfl) rfl rfl rfl ?_
  go_big_quiet_op
  show WS _ _ _ _ _ _ _ _ _ _
  refine ws_q (at_lit rfl) rfl rfl rfl ?_
  go_big_quiet_op
  show WS _ _ _ _ _ _ _ _ _ _
  refine ws_q (at_lit rfl) rfl rfl rfl ?_
  go_big_quiet_op
  show WS _ _ _ _ _ _ _ _ _ _
  refine ws_call (at_lit rfl) rfl rfl 168 #[vp, .int .i64 at_, .int .i64 ((at_ : Int) + 1)] (fun w => by go_simp) (fun v L' => L' = pairsS v (ps.eraseIdx at_) :: pts r4 (.cells #[.int .i64 0, .slice none 0 0, .slice none 0 0] 35 (0, 0)) :: pts r2 (.cells #[.int .i64 nd.level, kv, vv] 35 (0, 0)) :: l) (fun w' F hS hh => ?_) ?_
  · have hd : Has w' (pairsS vp ps :: ((pts r4 (.cells #[.int .i64 0, .slice none 0 0, .slice none 0 0] 35 (0, 0)) :: pts r2 (.cells #[.int .i64 nd.level, kv, vv] 35 (0, 0)) :: l) ++ F)) := hh
    refine (sl_Delete ps hd at_ Hat.out.1 Hat.out.2.1).mono ?_
    rintro r w2' ⟨vq, rfl, hK, h5⟩
    exact ⟨_, _, rfl, hK, rfl, h5⟩
  rintro vq _ rfl
  refine ⟨fun w F hh => lives (l' := [(0, ⟨r2, 0, none⟩, .int .i64 nd.level), (0, ⟨r2, 1, none⟩, kv), (0, ⟨r2, 2, none⟩, vv)]) (by rw [HFA.out]; simp [liveFacts, Nat.testBit]) (fcons (cell_of (hh.at (b := r2) (o := (.cells #[.int .i64 nd.level, kv, vv] 35 (0, 0))) (by simp)) 0 (v := .int .i64 nd.level) rfl) <| fcons (cell_of (hh.at (b := r2) (o := (.cells #[.int .i64 nd.level, kv, vv] 35 (0, 0))) (by simp)) 1 (v := kv) rfl) <| fcons (cell_of (hh.at (b := r2) (o := (.cells #[.int .i64 nd.level, kv, vv] 35 (0, 0))) (by simp)) 2 (v := vv) rfl) <| fnil), ?_⟩
  simp only [Act.put, List.setIfInBounds_toArray, List.set_cons_zero, List.set_cons_succ]
  show WS _ _ _ _ _ _ _ _ _ _
  refine ws_call (at_lit rfl) rfl rfl 167 #[.agg #[.int .i64 nd.level, kv, vv], vq] (fun w => by go_simp) (fun v L' => ∃ ak ck av cv, v = .agg #[.int .i64 nd.level, .slice ak m ck, .slice av m cv] ∧ L' = intsS (.slice ak m ck) ((ps.eraseIdx at_).map (·.1)) :: intsS (.slice av m cv) ((ps.eraseIdx at_).map (·.2)) :: pairsS vq (ps.eraseIdx at_) :: pts r4 (.cells #[.int .i64 0, .slice none 0 0, .slice none 0 0] 35 (0, 0)) :: pts r2 (.cells #[.int .i64 nd.level, kv, vv] 35 (0, 0)) :: l) (fun w' F hS hh => ?_) ?_
  · refine (node_of nd.level kv vv (ps.eraseIdx at_) hh (PSrcs.of_pairs (.head _)) (by rw [Hat.out.2.2]; exact Hm.out)).mono ?_
    rintro r w2' ⟨ak, ck, av, cv, rfl, hK, h5⟩
    rw [Hat.out.2.2] at h5 ⊢
    exact ⟨_, _, rfl, hK, ⟨_, _, _, _, rfl, rfl⟩, h5⟩
  rintro _ _ ⟨ak, ck, av, cv, rfl, rfl⟩
  refine ⟨fun w F hh => lives (l' := []) (by rw [HFA.out]; simp [liveFacts, Nat.testBit]) (fnil), ?_⟩
  simp only [Act.put, List.setIfInBounds_toArray, List.set_cons_zero, List.set_cons_succ]
  show WS _ _ _ _ _ _ _ _ _ _
  refine ws_reord [3] ?_
  simp only [reord, pull]
  refine ws_store (at_lit rfl) rfl rfl 35 (.tmp 4) (.tmp 30) rfl rfl (v := .agg #[.int .i64 nd.level, .slice ak m ck, .slice av m cv]) rfl (by simp [Value.cells]) (by simp [Value.cells, Value.oneCell']) (by kernel_rfl) (by simp only [Value.cells, putCells, List.setIfInBounds_toArray, List.set_cons_zero, List.set_cons_succ]; rfl) (fun w F hh => lives (l' := []) (by rw [HFA.out]; simp [liveFacts, Nat.testBit]) (fnil)) ?_
  simp only [Act.put, List.setIfInBounds_toArray, List.set_cons_zero, List.set_cons_succ]
  show WS _ _ _ _ _ _ _ _ _ _
  refine ws_q (at_lit rfl) rfl rfl rfl ?_
  go_big_quiet_op
  show WS _ _ _ _ _ _ _ _ _ _
  refine ws_end ?_
  intro w9 hK9 h9
  have hg := h9.got
  have z0 := Lib.hid (cell_of hg 0 (v := .int .i64 nd.level) rfl)
  have z1 := Lib.hid (cell_of hg 1 (v := .slice ak m ck) rfl)
  have z2 := Lib.hid (cell_of hg 2 (v := .slice av m cv) rfl)
  have HF : Hid (NDropPost (ndOf nd.level (nd.pairs.eraseIdx at_)) l w (.returned (.tuple #[.agg #[.int .i64 nd.level, .slice ak m ck, .slice av m cv], .nilIface])) w9) := by
    show NDropPost _ _ _ _ _
    rw [HE.out]
    have e1 : (ndOf nd.level (ps.eraseIdx at_)).keys.length = m := by simp only [ndOf, List.length_map]; exact Hat.out.2.2
    have e2 : (ndOf nd.level (ps.eraseIdx at_)).vals.length = m := by simp only [ndOf, List.length_map]; exact Hat.out.2.2
    refine ⟨ak, ck, av, cv, by rw [e1, e2]; rfl, HK2.out.trans hK9, ?_⟩
    rw [e1, e2]
    exact (((h9.tail.pull 2).tail.pull 2).tail)
  clear h9 hK9 hg hh HFA neFA FA fa0_0 fa0_1 fa0_2 fa1_0 fa1_1 fa1_2 b0 b1 b2 HK2
  go_wp2
  exact bodyPost_ret (v := .tuple #[.agg #[.int .i64 nd.level, .slice ak m ck, .slice av m cv], .nilIface]) (by have y0 := z0.out; have y1 := z1.out; have y2 := z2.out; simp [results, Tryz.results105, go_sem, y0, y1, y2]) rfl HF.out
end Go.Proofs.YtgbgneiciabidaaGreatDoor
/-
  Frames (layer 2): what was put is told again.
-/
namespace Go.Proofs.YtgbgneiciabidaaGreatDoor
open Go Go.RowKit
set_option linter.all false

/-- Bytes that lie from some place on. -/
def ByteRd (w : World) (b o : Nat) (xs : List Int) : Prop := ∀ k (hk : k < xs.length), w.cell? ⟨b, o + k, none⟩ = some (.int .u8 xs[k])
theorem ByteRd.get {w : World} {b o k : Nat} {xs : List Int} {x : Int} (h : ByteRd w b o xs) (hx : xs[k]? = some x) : w.cell? ⟨b, o + k, none⟩ = some (.int .u8 x) := by
  have hk := (List.getElem?_eq_some_iff.1 hx).1
  rw [h k hk]
  rw [List.getElem?_eq_getElem hk] at hx
  rw [Option.some.inj hx]
end Go.Proofs.YtgbgneiciabidaaGreatDoor
/-
  Frames (layer 2): the unpacker.
-/
namespace Go.Proofs.YtgbgneiciabidaaGreatDoor
open Go Go.RowKit
set_option linter.all false

def acc (xs : List Int) : Int := xs.foldl (fun a b => a * 256 + b) 0
theorem wrap_u64 (x : Int) (h0 : 0 ≤ x) (h1 : x < 18446744073709551616) : IntKind.u64.wrap x = x := by
  have : x % 2 ^ 64 = x := Int.emod_eq_of_lt h0 (by omega)
  simp [IntKind.wrap, IntKind.bits, IntKind.signed]
  omega
end Go.Proofs.YtgbgneiciabidaaGreatDoor
/-
  Pages (layer 11): what Adopt is made of: Mark, read; nodes that are the same; a map's copy.
-/
namespace Go.Proofs.YtgbgneiciabidaaGreatDoor
open Go Go.RowKit
set_option linter.all false

/-- A shelf of which sector k was marked. -/
def Shelf.mark (y : Shelf) (k : Nat) : Shelf := { y with taken := fun j => j == k || y.taken j }
theorem ShelfOk.mark {y : Shelf} (h : ShelfOk y) {k : Nat} (h2 : 2 ≤ k) (hg : y.given k = false) : ShelfOk (y.mark k) := by
  refine ⟨fun j hj => ?_, h.g2, fun j hj => ?_⟩
  · simp only [Shelf.mark, Bool.or_eq_true, beq_iff_eq] at hj
    rcases hj with rfl | hj
    · exact h2
    · exact h.t2 j hj
  · simp only [Shelf.mark, Bool.or_eq_true, beq_iff_eq] at hj
    rcases hj with rfl | hj
    · exact hg
    · exact h.ne j hj
end Go.Proofs.YtgbgneiciabidaaGreatDoor
