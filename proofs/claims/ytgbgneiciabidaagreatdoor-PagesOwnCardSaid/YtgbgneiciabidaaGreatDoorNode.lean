/-
  Nodes (layer 10): their pairs, and whether they are right.
-/
import Derived.Test.YtgbgneiciabidaaGreatDoorFrameC
namespace Go.Proofs.YtgbgneiciabidaaGreatDoor
open Go Go.RowKit
set_option linter.unusedVariables false
set_option linter.unusedSimpArgs false

def intVal (x : Int) : Value := .int .i64 x
def intsS (v : Value) (xs : List Int) : Say := rowS 3 1 v xs.length (xs.map intVal)
/-- What whoever reads a row of numbers finds. -/
theorem Has.ints_read {w : World} {l : List Say} {v : Value} {xs : List Int} (h : Has w l) (hm : intsS v xs ∈ l) :
    ∃ a c, v = .slice a xs.length c ∧ xs.length ≤ c ∧ ∀ k (hk : k < xs.length), ∃ g, a = some ⟨g, 0, none⟩ ∧ w.cell? ⟨g, k, none⟩ = some (.int .i64 xs[k]) ∧ ∀ j, w.frozen? ⟨g, j, none⟩ = false := by
  obtain ⟨_, a, c, hv, hc, _, hr⟩ := h.row_read hm
  exact ⟨a, c, hv, hc, fun k hk => hr k _ (by simp [hk, intVal])⟩

structure Nd where
  level : Int
  keys : List Int
  vals : List Int
def Nd.val (n : Nd) (kv vv : Value) : Value := .agg #[.int .i64 n.level, kv, vv]
def pairOk (k v : Int) : Bool := decide (0 ≤ k) && decide (k ≤ 1099511627776) && decide (1 ≤ v) && decide (v ≤ 2305843009213693952)

theorem pair_right {w : World} (k v : Int) : Calls Tryz.prog 164 #[.agg #[.int .i64 k, .int .i64 v]] w fun r w' => r = .returned (.bool (pairOk k v)) ∧ Below w.heap.size w w' := by
  by_cases h1 : 0 ≤ k
  · by_cases h2 : k ≤ 1099511627776
    · by_cases h3 : 1 ≤ v
      · go_enter Tryz.func164, Tryz.ntmps164
        go_wp2
        go_ret
        exact ⟨by simp [pairOk, h1, h2, h3], (Below.refl _ _).alloc (Nat.le_refl _) _⟩
      · go_enter Tryz.func164, Tryz.ntmps164
        go_wp2
        go_ret
        exact ⟨by simp [pairOk]; omega, (Below.refl _ _).alloc (Nat.le_refl _) _⟩
    · go_enter Tryz.func164, Tryz.ntmps164
      go_wp2
      go_ret
      exact ⟨by simp [pairOk]; omega, (Below.refl _ _).alloc (Nat.le_refl _) _⟩
  · go_enter Tryz.func164, Tryz.ntmps164
    go_wp2
    go_ret
    exact ⟨by simp [pairOk]; omega, (Below.refl _ _).alloc (Nat.le_refl _) _⟩

/-- Pairs as a row. -/
def pairCells (p : Int × Int) : List Value := [.int .i64 p.1, .int .i64 p.2]
def pairsS (v : Value) (ps : List (Int × Int)) : Say := rowS 87 2 v ps.length (ps.flatMap pairCells)
theorem info_pair : (Tryz.prog.info? 87).map (fun i => (i.zero, i.size, i.bytes)) = some (some (.agg #[.int .i64 0, .int .i64 0]), 2, 16) := by kernel_rfl
def PairsPost (ps : List (Int × Int)) (l : List Say) (w : World) (r : Ending) (w' : World) : Prop := ∃ v, r = .returned v ∧ Kept w w' ∧ Has w' (pairsS v ps :: l)
def PairsMid (w : World) (ps : List (Int × Int)) (l : List Say) (k : Nat) (o : Value) (wx : World) : Prop := Kept w wx ∧ Has wx (rowS 87 2 o k ((ps.take k).flatMap pairCells) :: l)

set_option maxRecDepth 100000 in
theorem node_pairs {w : World} {l : List Say} (n : Nd) {kv vv : Value} (h : Has w l) (hk : intsS kv n.keys ∈ l) (hv : intsS vv n.vals ∈ l) (hl : n.keys.length = n.vals.length) (h7 : n.keys.length ≤ 100) :
    Calls Tryz.prog 135 #[n.val kv vv] w (PairsPost (n.keys.zip n.vals) l w) := by
  obtain ⟨i0, I1, I2, I3, I4⟩ := info_parts info_pair
  obtain ⟨lv, ks, vs⟩ := n
  simp only [Nd.val] at *
  obtain ⟨ak, ck, rfl, _, hrk⟩ := h.ints_read hk
  obtain ⟨av, cv, rfl, _, hrv⟩ := h.ints_read hv
  have hbox := h.alloc (.cells #[.int .i64 lv, .slice ak ks.length ck, .slice av vs.length cv] 35)
  have c1 := cell_of hbox.got 1 rfl
  have c2 := cell_of hbox.got 2 rfl
  have HB := Lib.hid hbox
  have HK : Hid (Kept w (w.alloc (.cells #[.int .i64 lv, .slice ak ks.length ck, .slice av vs.length cv] 35))) := (Kept.refl w).alloc _
  have Hk := Lib.hid hk
  have Hv := Lib.hid hv
  have Hl := Lib.hid hl
  clear hbox h hk hv hrk hrv hl
  go_enter Tryz.func135, Tryz.ntmps135
  go_upto_region 1 with fail
  generalize w.alloc (.cells #[.int .i64 lv, .slice ak ks.length ck, .slice av vs.length cv] 35) = W at *
  generalize w.heap.size = bx at *
  have H0 : Hid (PairsMid w (ks.zip vs) (pts bx (.cells #[.int .i64 lv, .slice ak ks.length ck, .slice av vs.length cv] 35 (0, 0)) :: l) 0 (.slice none 0 0) W) := ⟨HK.out, HB.out.row_nil _ _⟩
  have lb := World.block_lt_of_cell? _ _ c1
  clear HB HK
  go_wp2
  go_loopg [3, 9] ks.length (fun gk o i wr => ∃ k : Nat, k ≤ ks.length ∧ gk = ks.length - k ∧ i = .int .i64 k ∧ Hid (PairsMid w (ks.zip vs) (pts bx (.cells #[.int .i64 lv, .slice ak ks.length ck, .slice av vs.length cv] 35 (0, 0)) :: l) k o wr))
  case atStart => exact ⟨0, Nat.zero_le _, rfl, rfl, H0⟩
  case round =>
    clear H0 c1 c2 lb
    obtain ⟨k, hk, rfl, rfl, HM⟩ := hrel
    by_cases hlt : k < ks.length
    · obtain ⟨hK, hh⟩ := HM.out
      have hlv : k < vs.length := by rw [← Hl.out]; exact hlt
      obtain ⟨a1, c1', e1, _, hr1⟩ := hh.ints_read (.tail _ (.tail _ Hk.out))
      cases e1
      obtain ⟨gk1, rfl, hc1, _⟩ := hr1 k hlt
      obtain ⟨a2, c2', e2, _, hr2⟩ := hh.ints_read (.tail _ (.tail _ Hv.out))
      cases e2
      obtain ⟨gv1, rfl, hc2, _⟩ := hr2 k hlv
      have c2 := cell_of hh.tail.got 2 rfl
      have lb := World.block_lt_of_cell? _ _ c2
      have hk1 : (k : Int) < (ks.length : Int) := by omega
      have hk2 : (k : Int) < (vs.length : Int) := by omega
      have hk0 : (0 : Int) ≤ k := by omega
      have HX : Hid ((ks.zip vs).take (k + 1) = (ks.zip vs).take k ++ [(ks[k], vs[k])]) := by
        show _ = _
        have hz : k < (ks.zip vs).length := by rw [List.length_zip]; omega
        rw [List.take_succ_eq_append_getElem hz, List.getElem_zip]
      generalize hkk : ks[k] = kk at *
      generalize hvk : vs[k] = vk at *
      have HH := Lib.hid hh
      have HK := Lib.hid hK
      obtain ⟨xs, hxs⟩ : ∃ xs, xs = ((ks.zip vs).take k).flatMap pairCells := ⟨_, rfl⟩
      have HXS := Lib.hid hxs
      have hh' := hh
      rw [← hxs] at hh'
      have HH' := Lib.hid hh'
      clear hr1 hr2 hh hK HM hkk hvk HH hxs hh'
      go_wp2_with (at_builtin; go_loud (refine wpList_append_row (l := pts bx (.cells #[.int .i64 lv, .slice (some ⟨gk1, 0, none⟩) ks.length ck, .slice (some ⟨gv1, 0, none⟩) vs.length cv] 35 (0, 0)) :: l) rfl (.tmp 14) (.tmp 22) 75 rfl 87 i0 (.agg #[.int .i64 0, .int .i64 0]) 2 16 Tryz.underlying75 I1 I2 I3 I4 rfl (by decide) _ k xs rfl ?hown ⟨_, 0, none⟩ 1 1 [.int .i64 kk, .int .i64 vk] rfl rfl (many_new _ [.int .i64 kk, .int .i64 vk] _ rfl) (by intro u hu; simp at hu; rcases hu with rfl | rfl <;> rfl) ?h63 ?hby ?next))
      case hown => exact HH'.out.alloc_off _
      case h63 => simp [maxLen]; omega
      case hby => omega
      case next =>
        intro v2 w4 hK4 h4
        have HK4 := Lib.hid ((HK.out.alloc _).trans hK4)
        have H4 := Lib.hid h4
        clear hK4 h4
        go_wp2
        go_roundg (ks.length - (k + 1))
        case measure => omega
        case rel =>
          refine ⟨k + 1, by omega, rfl, by simp, HK4.out, ?_⟩
          rw [HX.out, List.flatMap_append, ← HXS.out]
          exact H4.out
    · obtain rfl : k = ks.length := by omega
      obtain ⟨hK, hh⟩ := HM.out
      have HP : Hid (Kept w wr ∧ Has wr (pairsS u3 (ks.zip vs) :: l)) := ⟨hK, by
        have h1 := hh.swap.tail
        have e : ks.length = (ks.zip vs).length := by rw [List.length_zip, ← Hl.out]; simp
        rw [e, List.take_length] at h1
        exact h1⟩
      clear hK hh HM
      go_wp2
      go_ret
      exact ⟨_, rfl, HP.out⟩
end Go.Proofs.YtgbgneiciabidaaGreatDoor
