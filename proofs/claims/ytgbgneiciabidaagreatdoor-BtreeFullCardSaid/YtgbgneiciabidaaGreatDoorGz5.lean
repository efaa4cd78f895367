/-
  Nodes (layer 10): their pairs, and whether they are right.
-/
import Derived.Test.YtgbgneiciabidaaGreatDoorGz4
import Derived.BigQuiet
import Derived.WalkKit
import Derived.Laws.Bits64b
import Derived.Laws.BitsAllLaws
import Derived.Test.YtgbgneiciabidaaGreatDoorProg
import Derived.Test.YtgbgneiciabidaaGreatDoorGz1
import Derived.Outline
import Derived.Lib.Hide
import Derived.Lib.TrailingZeros
import Derived.Laws.Bits128
namespace Go.Proofs.YtgbgneiciabidaaGreatDoor
open Go Go.RowKit
set_option linter.unusedVariables false
set_option linter.unusedSimpArgs false

def intVal (x : Int) : Value := .int .i64 x
def intsS (v : Value) (xs : List Int) : Say := rowS 3 1 v xs.length (xs.map intVal)
theorem Has.ints_read {w : World} {l : List Say} {v : Value} {xs : List Int} (h : Has w l) (hm : intsS v xs ∈ l) :
    ∃ a c, v = .slice a xs.length c ∧ xs.length ≤ c ∧ ∀ k (hk : k < xs.length), ∃ g, a = some ⟨g, 0, none⟩ ∧ w.cell? ⟨g, k, none⟩ = some (.int .i64 xs[k]) ∧ ∀ j, w.frozen? ⟨g, j, none⟩ = false := by
  obtain ⟨_, a, c, hv, hc, _, hr⟩ := h.row_read hm
  exact ⟨a, c, hv, hc, fun k hk => hr k _ (by simp [hk, intVal])⟩

structure Nd where
  level : Int
  keys : List Int
  vals : List Int
def Nd.val (n : Nd) (kv vv : Value) : Value := .agg #[.int .i64 n.level, kv, vv]
def pairOk (k v : Int) : Bool := decide (0 ≤ k) && decide (k ≤ 1099511627776) && decide (1 ≤ v) && decide (v ≤ 2305843009213693952)

theorem pair_right {w : World} (k v : Int) : Calls Tryz.prog 164 #[.agg #[.int .i64 k, .int .i64 v]] w fun r w' => r = .returned (.bool (pairOk k v)) ∧ Below w.heap.size w w' := by
  by_cases h1 : 0 ≤ k
  · by_cases h2 : k ≤ 1099511627776
    · by_cases h3 : 1 ≤ v
      · go_enter Tryz.func164, Tryz.ntmps164
        go_wp2
        go_ret
        exact ⟨by simp [pairOk, h1, h2, h3], (Below.refl _ _).alloc (Nat.le_refl _) _⟩
      · go_enter Tryz.func164, Tryz.ntmps164
        go_wp2
        go_ret
        exact ⟨by simp [pairOk]; omega, (Below.refl _ _).alloc (Nat.le_refl _) _⟩
    · go_enter Tryz.func164, Tryz.ntmps164
      go_wp2
      go_ret
      exact ⟨by simp [pairOk]; omega, (Below.refl _ _).alloc (Nat.le_refl _) _⟩
  · go_enter Tryz.func164, Tryz.ntmps164
    go_wp2
    go_ret
    exact ⟨by simp [pairOk]; omega, (Below.refl _ _).alloc (Nat.le_refl _) _⟩

def pairCells (p : Int × Int) : List Value := [.int .i64 p.1, .int .i64 p.2]
def pairsS (v : Value) (ps : List (Int × Int)) : Say := rowS 87 2 v ps.length (ps.flatMap pairCells)
theorem info_pair : (Tryz.prog.info? 87).map (fun i => (i.zero, i.size, i.bytes)) = some (some (.agg #[.int .i64 0, .int .i64 0]), 2, 16) := by kernel_rfl
def PairsPost (ps : List (Int × Int)) (l : List Say) (w : World) (r : Ending) (w' : World) : Prop := ∃ v, r = .returned v ∧ Kept w w' ∧ Has w' (pairsS v ps :: l)
def PairsMid (w : World) (ps : List (Int × Int)) (l : List Say) (k : Nat) (o : Value) (wx : World) : Prop := Kept w wx ∧ Has wx (rowS 87 2 o k ((ps.take k).flatMap pairCells) :: l)

set_option maxRecDepth 100000 in
theorem node_pairs {w : World} {l : List Say} (n : Nd) {kv vv : Value} (h : Has w l) (hk : intsS kv n.keys ∈ l) (hv : intsS vv n.vals ∈ l) (hl : n.keys.length = n.vals.length) (h7 : n.keys.length ≤ 100) :
    Calls Tryz.prog 135 #[n.val kv vv] w (PairsPost (n.keys.zip n.vals) l w) := by
  obtain ⟨i0, I1, I2, I3, I4⟩ := info_parts info_pair
  obtain ⟨lv, ks, vs⟩ := n
  simp only [Nd.val] at *
  obtain ⟨ak, ck, rfl, _, hrk⟩ := h.ints_read hk
  obtain ⟨av, cv, rfl, _, hrv⟩ := h.ints_read hv
  have hbox := h.alloc (.cells #[.int .i64 lv, .slice ak ks.length ck, .slice av vs.length cv] 35)
  have c1 := cell_of hbox.got 1 rfl
  have c2 := cell_of hbox.got 2 rfl
  have HB := Lib.hid hbox
  have HK : Hid (Kept w (w.alloc (.cells #[.int .i64 lv, .slice ak ks.length ck, .slice av vs.length cv] 35))) := (Kept.refl w).alloc _
  have Hk := Lib.hid hk
  have Hv := Lib.hid hv
  have Hl := Lib.hid hl
  clear hbox h hk hv hrk hrv hl
  go_enter Tryz.func135, Tryz.ntmps135
  go_upto_region 1 with fail
  generalize w.alloc (.cells #[.int .i64 lv, .slice ak ks.length ck, .slice av vs.length cv] 35) = W at *
  generalize w.heap.size = bx at *
  have H0 : Hid (PairsMid w (ks.zip vs) (pts bx (.cells #[.int .i64 lv, .slice ak ks.length ck, .slice av vs.length cv] 35 (0, 0)) :: l) 0 (.slice none 0 0) W) := ⟨HK.out, HB.out.row_nil _ _⟩
  have lb := World.block_lt_of_cell? _ _ c1
  clear HB HK
  go_wp2
  go_loopg [3, 9] ks.length (fun gk o i wr => ∃ k : Nat, k ≤ ks.length ∧ gk = ks.length - k ∧ i = .int .i64 k ∧ Hid (PairsMid w (ks.zip vs) (pts bx (.cells #[.int .i64 lv, .slice ak ks.length ck, .slice av vs.length cv] 35 (0, 0)) :: l) k o wr))
  case atStart => exact ⟨0, Nat.zero_le _, rfl, rfl, H0⟩
  case round =>
    clear H0 c1 c2 lb
    obtain ⟨k, hk, rfl, rfl, HM⟩ := hrel
    by_cases hlt : k < ks.length
    · obtain ⟨hK, hh⟩ := HM.out
      have hlv : k < vs.length := by rw [← Hl.out]; exact hlt
      obtain ⟨a1, c1', e1, _, hr1⟩ := hh.ints_read (.tail _ (.tail _ Hk.out))
      cases e1
      obtain ⟨gk1, rfl, hc1, _⟩ := hr1 k hlt
      obtain ⟨a2, c2', e2, _, hr2⟩ := hh.ints_read (.tail _ (.tail _ Hv.out))
      cases e2
      obtain ⟨gv1, rfl, hc2, _⟩ := hr2 k hlv
      have c2 := cell_of hh.tail.got 2 rfl
      have lb := World.block_lt_of_cell? _ _ c2
      have hk1 : (k : Int) < (ks.length : Int) := by omega
      have hk2 : (k : Int) < (vs.length : Int) := by omega
      have hk0 : (0 : Int) ≤ k := by omega
      have HX : Hid ((ks.zip vs).take (k + 1) = (ks.zip vs).take k ++ [(ks[k], vs[k])]) := by
        show _ = _
        have hz : k < (ks.zip vs).length := by rw [List.length_zip]; omega
        rw [List.take_succ_eq_append_getElem hz, List.getElem_zip]
      generalize hkk : ks[k] = kk at *
      generalize hvk : vs[k] = vk at *
      have HH := Lib.hid hh
      have HK := Lib.hid hK
      obtain ⟨xs, hxs⟩ : ∃ xs, xs = ((ks.zip vs).take k).flatMap pairCells := ⟨_, rfl⟩
      have HXS := Lib.hid hxs
      have hh' := hh
      rw [← hxs] at hh'
      have HH' := Lib.hid hh'
      clear hr1 hr2 hh hK HM hkk hvk HH hxs hh'
      go_wp2_with (at_builtin; go_loud (refine wpList_append_row (l := pts bx (.cells #[.int .i64 lv, .slice (some ⟨gk1, 0, none⟩) ks.length ck, .slice (some ⟨gv1, 0, none⟩) vs.length cv] 35 (0, 0)) :: l) rfl (.tmp 14) (.tmp 22) 75 rfl 87 i0 (.agg #[.int .i64 0, .int .i64 0]) 2 16 Tryz.underlying75 I1 I2 I3 I4 rfl (by decide) _ k xs rfl ?hown ⟨_, 0, none⟩ 1 1 [.int .i64 kk, .int .i64 vk] rfl rfl (many_new _ [.int .i64 kk, .int .i64 vk] _ rfl) (by intro u hu; simp at hu; rcases hu with rfl | rfl <;> rfl) ?h63 ?hby ?next))
      case hown => exact HH'.out.alloc_off _
      case h63 => simp [maxLen]; omega
      case hby => omega
      case next =>
        intro v2 w4 hK4 h4
        have HK4 := Lib.hid ((HK.out.alloc _).trans hK4)
        have H4 := Lib.hid h4
        clear hK4 h4
        go_wp2
        go_roundg (ks.length - (k + 1))
        case measure => omega
        case rel =>
          refine ⟨k + 1, by omega, rfl, by simp, HK4.out, ?_⟩
          rw [HX.out, List.flatMap_append, ← HXS.out]
          exact H4.out
    · obtain rfl : k = ks.length := by omega
      obtain ⟨hK, hh⟩ := HM.out
      have HP : Hid (Kept w wr ∧ Has wr (pairsS u3 (ks.zip vs) :: l)) := ⟨hK, by
        have h1 := hh.swap.tail
        have e : ks.length = (ks.zip vs).length := by rw [List.length_zip, ← Hl.out]; simp
        rw [e, List.take_length] at h1
        exact h1⟩
      clear hK hh HM
      go_wp2
      go_ret
      exact ⟨_, rfl, HP.out⟩
end Go.Proofs.YtgbgneiciabidaaGreatDoor
/-
  Nodes (layer 10), the second part: whether they are right.
-/
namespace Go.Proofs.YtgbgneiciabidaaGreatDoor
open Go Go.RowKit
set_option linter.unusedVariables false
set_option linter.unusedSimpArgs false

structure Garb (W : World) where
  w : World
  below : Below W.heap.size W w
instance (W : World) : Nonempty (Garb W) := ⟨⟨W, Below.refl _ _⟩⟩
theorem wp_region_garb {P : Program} {id : Nat} {Q : Exit → Act → World → Prop} {a : Act} {W : World} {l : List Oper} (hm : P.follows .mixedOrders = true) (hB : Region.lexB .any l.toArray = true)
    (h : wpQuiet P l.toArray (fun w' => ∃ n : Garb W, w' = n.w) (fun a' => ∀ w', (∃ n : Garb W, w' = n.w) → Q .normal a' w') l a) : (Code.region id l.toArray true).wp P Q a W :=
  wp_region_quiet (C := fun w' => ∃ n : Garb W, w' = n.w) hm hB ⟨⟨W.drew, (Below.refl _ _).drew⟩, rfl⟩ (by simpa using h)
theorem garb_call {P : Program} {f : FuncId} {args : Array Value} {W : World} {n : Garb W} {v : Value} (h : Calls P f args n.w fun e w' => e = .returned v ∧ Below n.w.heap.size n.w w') :
    Calls P f args n.w fun e w'' => e = .returned v ∧ ∃ m : Garb W, w'' = m.w :=
  h.mono fun _ w' ⟨he, hb⟩ => ⟨he, ⟨w', n.below.trans (hb.mono n.below.size)⟩, rfl⟩

def ordAt (ps : List (Int × Int)) (k : Nat) : Bool :=
  match ps[k]? with
  | none => true
  | some p => pairOk p.1 p.2 && (k == 0 || match ps[k - 1]? with | none => true | some q => decide (q.1 < p.1))
def ordTo (ps : List (Int × Int)) : Nat → Bool
  | 0 => true
  | k + 1 => ordTo ps k && ordAt ps k
theorem ordTo_false (ps : List (Int × Int)) (k : Nat) (h : ordAt ps k = false) : ∀ n, k < n → ordTo ps n = false
  | 0, hn => by omega
  | n + 1, hn => by
    rw [ordTo]
    by_cases e : k = n
    · subst e; simp [h]
    · simp [ordTo_false ps k h n (by omega)]

theorem bcell1 {w W : World} (hb : Below W.heap.size W w) {b o : Nat} {v : Value} (h : W.cell? ⟨b, o, none⟩ = some v) : w.cell? ⟨b, o, none⟩ = some v := by
  rw [(bcell hb).1 _ _ (World.block_lt_of_cell? _ _ h)]; exact h
theorem Has.pairs_read {w : World} {l : List Say} {v : Value} {ps : List (Int × Int)} (h : Has w l) (hm : pairsS v ps ∈ l) :
    ∃ a c, v = .slice a ps.length c ∧ ps.length ≤ c ∧ ∀ k p, ps[k]? = some p → ∃ g, a = some ⟨g, 0, none⟩ ∧ w.cell? ⟨g, k * 2, none⟩ = some (.int .i64 p.1) ∧ w.cell? ⟨g, k * 2 + 1, none⟩ = some (.int .i64 p.2) := by
  obtain ⟨h1, h2⟩ := h.row_own hm
  rcases h2 with ⟨rfl, h0⟩ | ⟨g, cap, cur, rfl, _, hg, hn, hc, hs, ht⟩
  · refine ⟨none, 0, by rw [h0], by omega, fun k p hp => ?_⟩
    have := (List.getElem?_eq_some_iff.1 hp).1
    omega
  · refine ⟨_, cap, rfl, hn, fun k p hp => ⟨g, rfl, ?_⟩⟩
    have hx : ∀ (ps : List (Int × Int)) (k : Nat) (p : Int × Int), ps[k]? = some p → (ps.flatMap pairCells)[k * 2]? = some (.int .i64 p.1) ∧ (ps.flatMap pairCells)[k * 2 + 1]? = some (.int .i64 p.2) := by
      intro ps
      induction ps with
      | nil => intro k p hp; simp at hp
      | cons q ps ih =>
        intro k p hp
        cases k with
        | zero => simp at hp; subst hp; simp [pairCells]
        | succ k =>
          have := ih k p (by simpa using hp)
          have e : (q :: ps).flatMap pairCells = [.int .i64 q.1, .int .i64 q.2] ++ ps.flatMap pairCells := rfl
          rw [e]
          constructor
          · rw [List.getElem?_append_right (by simp; omega)]; simpa [show (k + 1) * 2 - 2 = k * 2 by omega] using this.1
          · rw [List.getElem?_append_right (by simp; omega)]; simpa [show (k + 1) * 2 + 1 - 2 = k * 2 + 1 by omega] using this.2
    obtain ⟨e1, e2⟩ := hx ps k p hp
    have take : ∀ (j : Nat) (u : Value), (ps.flatMap pairCells)[j]? = some u → cur[j]? = some u := by
      intro j u hu
      rw [← ht, List.getElem?_take] at hu
      split at hu
      · simpa using hu
      · cases hu
    exact ⟨cell_of hg _ (take _ _ e1), cell_of hg _ (take _ _ e2)⟩

set_option maxRecDepth 100000 in
theorem node_ordered {w : World} {l : List Say} {v : Value} {ps : List (Int × Int)} (h : Has w l) (hm : pairsS v ps ∈ l) (hlen : ps.length ≤ 100) :
    Calls Tryz.prog 161 #[v] w fun r w' => r = .returned (.bool (ordTo ps ps.length)) ∧ Below w.heap.size w w' := by
  obtain ⟨a, c, rfl, _, hr⟩ := h.pairs_read hm
  have HR := Lib.hid hr
  clear h hm hr
  go_enter Tryz.func161, Tryz.ntmps161
  go_wp2
  go_loopg [7] ps.length (fun gk i wr => ∃ k : Nat, k ≤ ps.length ∧ gk = ps.length - k ∧ i = .int .i64 k ∧ ordTo ps k = true ∧ Hid (Below w.heap.size w wr))
  case atStart => exact ⟨0, Nat.zero_le _, rfl, rfl, rfl, Below.refl _ _⟩
  case round =>
    obtain ⟨k, hk, rfl, rfl, ho, HB⟩ := hrel
    by_cases hlt : k < ps.length
    · obtain ⟨g, rfl, h1, h2⟩ := HR.out k ps[k] (List.getElem?_eq_getElem hlt)
      have hk1 : (k : Int) < (ps.length : Int) := by omega
      have hk0 : (0 : Int) ≤ k := by omega
      have b1 := bcell1 HB.out h1
      have b2 := bcell1 HB.out h2
      have HO := Lib.hid ho
      generalize hp : ps[k] = p at *
      obtain ⟨pa, pb⟩ := p
      simp only at h1 h2 b1 b2
      have l1 := World.block_lt_of_cell? _ _ b1
      clear h1 h2 ho
      have HN : Hid (Below w.heap.size w (wr.alloc (.cells #[.int .i64 pa, .int .i64 pb] 87))) := HB.out.alloc HB.out.size _
      have HP := Lib.hid hp
      have x0 : (wr.alloc (.cells #[.int .i64 pa, .int .i64 pb] 87)).cell? ⟨wr.heap.size, 0, none⟩ = some (.int .i64 pa) := World.cell?_alloc_new _ _ _ 0
      have x1 : (wr.alloc (.cells #[.int .i64 pa, .int .i64 pb] 87)).cell? ⟨wr.heap.size, 1, none⟩ = some (.int .i64 pb) := World.cell?_alloc_new _ _ _ 1
      clear hp HB
      go_upto_region 4 with fail
      generalize wr.alloc (.cells #[.int .i64 pa, .int .i64 pb] 87) = W at *
      generalize wr.heap.size = b4 at *
      clear b1 b2 l1
      have l1 := World.block_lt_of_cell? _ _ x0
      have y0 : ∀ n : Garb W, n.w.cell? ⟨b4, 0, none⟩ = some (.int .i64 pa) := fun n => bcell1 n.below x0
      have y1 : ∀ n : Garb W, n.w.cell? ⟨b4, 1, none⟩ = some (.int .i64 pb) := fun n => bcell1 n.below x1
      have hkl := Lib.hid hlt
      have HRt : Hid (∀ n : Garb W, Calls Tryz.prog 164 #[.agg #[.int .i64 pa, .int .i64 pb]] n.w fun e w'' => e = .returned (.bool (pairOk pa pb)) ∧ ∃ m : Garb W, w'' = m.w) := fun n => garb_call (pair_right (w := n.w) pa pb)
      cases hpk : pairOk pa pb with
      | false =>
        rw [hpk] at HRt
        have HPK := Lib.hid hpk
        clear hpk
        refine wp_region_garb (W := W) (by kernel_rfl) (by kernel_rfl) ?_
        repeat (go_big_quiet_step ((go_at_call 164; exact HRt.out _)))
        refine wpQuiet_nil ?_
        rintro _ ⟨n, rfl⟩
        go_wp2
        go_ret
        refine ⟨?_, HN.out.trans (n.below.mono HN.out.size)⟩
        rw [ordTo_false ps k _ ps.length hlt]
        · rfl
        · rw [ordAt, List.getElem?_eq_getElem hlt, HP.out]; simp [HPK.out]
      | true =>
        rw [hpk] at HRt
        have HPK := Lib.hid hpk
        clear hpk
        by_cases h0 : k = 0
        · subst h0
          have hd0 : decide ((0 : Int) < ((0 : Nat) : Int)) = false := rfl
          have HA : Hid (ordTo ps (0 + 1) = true) := by show _ = _; rw [ordTo, HO.out, ordAt, List.getElem?_eq_getElem hlt, HP.out]; simp [HPK.out]
          refine wp_region_garb (W := W) (by kernel_rfl) (by kernel_rfl) ?_
          repeat (go_big_quiet_step ((go_at_call 164; exact HRt.out _)))
          refine wpQuiet_nil ?_
          rintro _ ⟨n, rfl⟩
          go_wp2
          go_roundg (ps.length - (0 + 1))
          case measure => omega
          case rel => exact ⟨0 + 1, by omega, rfl, by simp, HA.out, HN.out.trans (n.below.mono HN.out.size)⟩
        · obtain ⟨m, hm⟩ : ∃ m, k = m + 1 := ⟨k - 1, by omega⟩
          have hmlt : m < ps.length := by omega
          have hd0 : 0 < k := by omega
          have hsub : (k : Int) - 1 = (m : Int) := by omega
          have hsub2 : IntKind.i64.wrap ((k : Int) - 1) = (m : Int) := by rw [IntKind.wrap_i64]; omega
          have hm1 : (m : Int) < (ps.length : Int) := by omega
          have hm0 : (0 : Int) ≤ (m : Int) := by omega
          have HQ := Lib.hid (List.getElem?_eq_getElem hmlt)
          obtain ⟨g', hg', q1, _⟩ := HR.out m ps[m] (List.getElem?_eq_getElem hmlt)
          cases hg'
          generalize ps[m] = q at *
          have z0 : ∀ n : Garb W, n.w.cell? ⟨g, m * 2, none⟩ = some (.int .i64 q.1) := fun n => bcell1 (HN.out.trans (n.below.mono HN.out.size)) q1
          have Hm := Lib.hid hm
          clear q1 hm h0
          have HAt : Hid (ordAt ps k = decide (q.1 < pa)) := by
            show _ = _
            have e := Hm.out
            rw [ordAt, List.getElem?_eq_getElem hlt, HP.out]
            have e2 : k - 1 = m := by omega
            have e3 : (k == 0) = false := by simp; omega
            simp only [e2, HQ.out, e3, HPK.out, Bool.true_and, Bool.false_or]
          have Hhlt := Lib.hid hlt
          by_cases hc : q.1 < pa
          · have hcb : decide (pa ≤ q.1) = false := by simp; omega
            have HA : Hid (ordTo ps (k + 1) = true) := by show _ = _; rw [ordTo, HO.out, HAt.out]; simp [hc]
            refine wp_region_garb (W := W) (by kernel_rfl) (by kernel_rfl) ?_
            repeat (go_big_quiet_step ((go_at_call 164; exact HRt.out _)))
            refine wpQuiet_nil ?_
            rintro _ ⟨n, rfl⟩
            go_wp2
            go_roundg (ps.length - (k + 1))
            case measure => omega
            case rel => exact ⟨k + 1, by omega, rfl, by simp, HA.out, HN.out.trans (n.below.mono HN.out.size)⟩
          · have hcb : pa ≤ q.1 := by omega
            have HA : Hid (ordTo ps ps.length = false) := ordTo_false ps k (by rw [HAt.out]; simp; omega) ps.length hlt
            refine wp_region_garb (W := W) (by kernel_rfl) (by kernel_rfl) ?_
            repeat (go_big_quiet_step ((go_at_call 164; exact HRt.out _)))
            refine wpQuiet_nil ?_
            rintro _ ⟨n, rfl⟩
            go_wp2
            go_ret
            exact ⟨by rw [HA.out]; rfl, HN.out.trans (n.below.mono HN.out.size)⟩
    · obtain rfl : k = ps.length := by omega
      have HO := Lib.hid ho
      clear ho
      go_wp2
      go_ret
      exact ⟨by rw [HO.out]; rfl, HB.out⟩
end Go.Proofs.YtgbgneiciabidaaGreatDoor
/-
  Plain: how many bits of a word are set, as bits.OnesCount64 counts them.
-/
namespace Go.Proofs.YtgbgneiciabidaaGreatDoor
open Go
set_option linter.unusedVariables false
set_option linter.unusedSimpArgs false

def pop : Nat → Nat → Nat
  | 0, _ => 0
  | n + 1, x => x % 2 + pop n (x / 2)

theorem pop_le : ∀ n x, pop n x ≤ n
  | 0, _ => Nat.le_refl _
  | n + 1, x => by have := pop_le n (x / 2); simp only [pop]; omega

theorem and_lane (b c q M : Nat) (hb : b < 256) (hc : c < 256) : (b + 256 * q) &&& (c + 256 * M) = (b &&& c) + 256 * (q &&& M) := by
  have hlt : b &&& c < 2 ^ 8 := Nat.and_lt_two_pow _ (by omega)
  have h1 : ((b + 256 * q) &&& (c + 256 * M)) % 2 ^ 8 = b &&& c := by
    rw [Nat.and_mod_two_pow, show (b + 256 * q) % 2 ^ 8 = b by omega, show (c + 256 * M) % 2 ^ 8 = c by omega]
  have h2 : ((b + 256 * q) &&& (c + 256 * M)) >>> 8 = q &&& M := by
    rw [Nat.shiftRight_and_distrib, Nat.shiftRight_eq_div_pow, Nat.shiftRight_eq_div_pow, show (b + 256 * q) / 2 ^ 8 = q by omega, show (c + 256 * M) / 2 ^ 8 = M by omega]
  rw [Nat.shiftRight_eq_div_pow] at h2
  omega

theorem fin2 : ∀ b : Fin 256, ∀ r : Fin 2, (b.val / 2 + 128 * r.val) &&& 85 = (b.val / 2) &&& 85 := by decide +kernel
theorem fin4 : ∀ b : Fin 256, ∀ r : Fin 4, (b.val / 4 + 64 * r.val) &&& 51 = (b.val / 4) &&& 51 := by decide +kernel

def s1 (b : Nat) : Nat := (b / 2 &&& 85) + (b &&& 85)
def s2 (b : Nat) : Nat := (b / 4 &&& 51) + (b &&& 51)
def s3 (b : Nat) : Nat := (b / 16 + b) &&& 15
theorem s_pop : ∀ b : Fin 256, s1 b.val < 256 ∧ s2 (s1 b.val) < 256 ∧ s2 (s1 b.val) % 16 ≤ 4 ∧ s2 (s1 b.val) / 16 ≤ 4 ∧ s3 (s2 (s1 b.val)) = pop 8 b.val := by decide +kernel

theorem step1 (b q M : Nat) (hb : b < 256) : ((b + 256 * q) / 2 &&& (85 + 256 * M)) + ((b + 256 * q) &&& (85 + 256 * M)) = s1 b + 256 * ((q / 2 &&& M) + (q &&& M)) := by
  have e : (b + 256 * q) / 2 = (b / 2 + 128 * (q % 2)) + 256 * (q / 2) := by omega
  rw [e, and_lane _ _ _ _ (by omega) (by omega), and_lane _ _ _ _ hb (by omega), fin2 ⟨b, hb⟩ ⟨q % 2, by omega⟩]
  simp only [s1]
  omega
theorem step2 (b q M : Nat) (hb : b < 256) : ((b + 256 * q) / 4 &&& (51 + 256 * M)) + ((b + 256 * q) &&& (51 + 256 * M)) = s2 b + 256 * ((q / 4 &&& M) + (q &&& M)) := by
  have e : (b + 256 * q) / 4 = (b / 4 + 64 * (q % 4)) + 256 * (q / 4) := by omega
  rw [e, and_lane _ _ _ _ (by omega) (by omega), and_lane _ _ _ _ hb (by omega), fin4 ⟨b, hb⟩ ⟨q % 4, by omega⟩]
  simp only [s2]
  omega
theorem and15 (x : Nat) : x &&& 15 = x % 16 := Nat.and_two_pow_sub_one_eq_mod x 4
theorem step3 (b q M : Nat) (h1 : b % 16 ≤ 4) (h2 : b / 16 ≤ 4) (h3 : q % 16 ≤ 4) : ((b + 256 * q) / 16 + (b + 256 * q)) &&& (15 + 256 * M) = s3 b + 256 * ((q / 16 + q) &&& M) := by
  have e : (b + 256 * q) / 16 + (b + 256 * q) = (b / 16 + b + 16 * (q % 16)) + 256 * (q / 16 + q) := by omega
  rw [e, and_lane _ _ _ _ (by omega) (by omega), and15]
  simp only [s3, and15]
  omega

def join : List Nat → Nat
  | [] => 0
  | b :: l => b + 256 * join l
def mask (c : Nat) : Nat → Nat
  | 0 => 0
  | n + 1 => c + 256 * mask c n

theorem join1 : ∀ l : List Nat, (∀ b ∈ l, b < 256) → (join l / 2 &&& mask 85 l.length) + (join l &&& mask 85 l.length) = join (l.map s1)
  | [], _ => rfl
  | b :: l, h => by
    simp only [join, List.length_cons, mask, List.map_cons]
    rw [step1 b _ _ (h b (by simp)), join1 l fun x hx => h x (by simp [hx])]
theorem join2 : ∀ l : List Nat, (∀ b ∈ l, b < 256) → (join l / 4 &&& mask 51 l.length) + (join l &&& mask 51 l.length) = join (l.map s2)
  | [], _ => rfl
  | b :: l, h => by
    simp only [join, List.length_cons, mask, List.map_cons]
    rw [step2 b _ _ (h b (by simp)), join2 l fun x hx => h x (by simp [hx])]
theorem join_low : ∀ l : List Nat, (∀ b ∈ l, b % 16 ≤ 4) → join l % 16 ≤ 4
  | [], _ => by simp [join]
  | b :: l, h => by have := h b (by simp); simp only [join]; omega
theorem join3 : ∀ l : List Nat, (∀ b ∈ l, b % 16 ≤ 4 ∧ b / 16 ≤ 4) → (join l / 16 + join l) &&& mask 15 l.length = join (l.map s3)
  | [], _ => rfl
  | b :: l, h => by
    simp only [join, List.length_cons, mask, List.map_cons]
    rw [step3 b _ _ (h b (by simp)).1 (h b (by simp)).2 (join_low l fun x hx => (h x (by simp [hx])).1), join3 l fun x hx => h x (by simp [hx])]

def swar (x : Nat) : Nat :=
  let a1 := (x / 2 &&& 6148914691236517205) + (x &&& 6148914691236517205)
  let a2 := (a1 / 4 &&& 3689348814741910323) + (a1 &&& 3689348814741910323)
  let a3 := (a2 / 16 + a2) &&& 1085102592571150095
  let a4 := a3 + a3 / 256
  let a5 := a4 + a4 / 65536
  let a6 := a5 + a5 / 4294967296
  a6 % 128

theorem pop_split : ∀ (m n x : Nat), pop (m + n) x = pop m x + pop n (x / 2 ^ m)
  | 0, n, x => by simp [pop]
  | m + 1, n, x => by
    rw [show m + 1 + n = (m + n) + 1 by omega, pop, pop, pop_split m n (x / 2), Nat.div_div_eq_div_mul, Nat.pow_succ, Nat.mul_comm (2 ^ m) 2]
    omega
theorem pop_mod : ∀ (m x : Nat), pop m (x % 2 ^ m) = pop m x
  | 0, x => by simp [pop]
  | m + 1, x => by
    have e1 : x % 2 ^ (m + 1) % 2 = x % 2 := by rw [Nat.pow_succ, Nat.mul_comm]; exact Nat.mod_mul_right_mod x 2 (2 ^ m)
    have e2 : x % 2 ^ (m + 1) / 2 = (x / 2) % 2 ^ m := by
      rw [Nat.pow_succ, Nat.mul_comm, Nat.mod_mul, Nat.add_mul_div_left _ _ (by omega)]
      omega
    rw [pop, pop, e1, e2, pop_mod m]

theorem div_at (r q m : Nat) (hm : 0 < m) (h : r < m) : (r + m * q) / m = q := by
  rw [Nat.add_mul_div_left _ _ hm, Nat.div_eq_of_lt h, Nat.zero_add]
theorem fold8 (c0 c1 c2 c3 c4 c5 c6 c7 : Nat) (l0 : c0 ≤ 8) (l1 : c1 ≤ 8) (l2 : c2 ≤ 8) (l3 : c3 ≤ 8) (l4 : c4 ≤ 8) (l5 : c5 ≤ 8) (l6 : c6 ≤ 8) (l7 : c7 ≤ 8) :
    (join [c0, c1, c2, c3, c4, c5, c6, c7] + join [c0, c1, c2, c3, c4, c5, c6, c7] / 256 + (join [c0, c1, c2, c3, c4, c5, c6, c7] + join [c0, c1, c2, c3, c4, c5, c6, c7] / 256) / 65536 +
      (join [c0, c1, c2, c3, c4, c5, c6, c7] + join [c0, c1, c2, c3, c4, c5, c6, c7] / 256 + (join [c0, c1, c2, c3, c4, c5, c6, c7] + join [c0, c1, c2, c3, c4, c5, c6, c7] / 256) / 65536) / 4294967296) % 128 =
    c0 + (c1 + (c2 + (c3 + (c4 + (c5 + (c6 + c7)))))) := by
  have q1 : join [c0, c1, c2, c3, c4, c5, c6, c7] / 256 = join [c1, c2, c3, c4, c5, c6, c7] := div_at c0 _ 256 (by decide) (by omega)
  have r4 : join [c0, c1, c2, c3, c4, c5, c6, c7] + join [c1, c2, c3, c4, c5, c6, c7] = join [c0 + c1, c1 + c2, c2 + c3, c3 + c4, c4 + c5, c5 + c6, c6 + c7, c7] := by simp only [join]; omega
  rw [q1, r4]
  have q2 : join [c0 + c1, c1 + c2, c2 + c3, c3 + c4, c4 + c5, c5 + c6, c6 + c7, c7] / 65536 = join [c2 + c3, c3 + c4, c4 + c5, c5 + c6, c6 + c7, c7] := by
    have e : join [c0 + c1, c1 + c2, c2 + c3, c3 + c4, c4 + c5, c5 + c6, c6 + c7, c7] = ((c0 + c1) + 256 * (c1 + c2)) + 65536 * join [c2 + c3, c3 + c4, c4 + c5, c5 + c6, c6 + c7, c7] := by
      show (c0 + c1) + 256 * ((c1 + c2) + 256 * join [c2 + c3, c3 + c4, c4 + c5, c5 + c6, c6 + c7, c7]) = _
      omega
    rw [e]; exact div_at _ _ 65536 (by decide) (by omega)
  have r5 : join [c0 + c1, c1 + c2, c2 + c3, c3 + c4, c4 + c5, c5 + c6, c6 + c7, c7] + join [c2 + c3, c3 + c4, c4 + c5, c5 + c6, c6 + c7, c7] =
      join [c0 + c1 + (c2 + c3), c1 + c2 + (c3 + c4), c2 + c3 + (c4 + c5), c3 + c4 + (c5 + c6), c4 + c5 + (c6 + c7), c5 + c6 + c7, c6 + c7, c7] := by simp only [join]; omega
  rw [q2, r5]
  have q3 : join [c0 + c1 + (c2 + c3), c1 + c2 + (c3 + c4), c2 + c3 + (c4 + c5), c3 + c4 + (c5 + c6), c4 + c5 + (c6 + c7), c5 + c6 + c7, c6 + c7, c7] / 4294967296 = join [c4 + c5 + (c6 + c7), c5 + c6 + c7, c6 + c7, c7] := by
    have e : join [c0 + c1 + (c2 + c3), c1 + c2 + (c3 + c4), c2 + c3 + (c4 + c5), c3 + c4 + (c5 + c6), c4 + c5 + (c6 + c7), c5 + c6 + c7, c6 + c7, c7] =
        ((c0 + c1 + (c2 + c3)) + 256 * (c1 + c2 + (c3 + c4)) + 65536 * (c2 + c3 + (c4 + c5)) + 16777216 * (c3 + c4 + (c5 + c6))) + 4294967296 * join [c4 + c5 + (c6 + c7), c5 + c6 + c7, c6 + c7, c7] := by
      show (c0 + c1 + (c2 + c3)) + 256 * ((c1 + c2 + (c3 + c4)) + 256 * ((c2 + c3 + (c4 + c5)) + 256 * ((c3 + c4 + (c5 + c6)) + 256 * join [c4 + c5 + (c6 + c7), c5 + c6 + c7, c6 + c7, c7]))) = _
      omega
    rw [e]; exact div_at _ _ 4294967296 (by decide) (by omega)
  rw [q3]
  have e6 : join [c0 + c1 + (c2 + c3), c1 + c2 + (c3 + c4), c2 + c3 + (c4 + c5), c3 + c4 + (c5 + c6), c4 + c5 + (c6 + c7), c5 + c6 + c7, c6 + c7, c7] + join [c4 + c5 + (c6 + c7), c5 + c6 + c7, c6 + c7, c7] =
      (c0 + (c1 + (c2 + (c3 + (c4 + (c5 + (c6 + c7))))))) + 128 * (2 * (join [c1 + c2 + (c3 + c4), c2 + c3 + (c4 + c5), c3 + c4 + (c5 + c6), c4 + c5 + (c6 + c7), c5 + c6 + c7, c6 + c7, c7] + join [c5 + c6 + c7, c6 + c7, c7])) := by
    show (c0 + c1 + (c2 + c3)) + 256 * join [c1 + c2 + (c3 + c4), c2 + c3 + (c4 + c5), c3 + c4 + (c5 + c6), c4 + c5 + (c6 + c7), c5 + c6 + c7, c6 + c7, c7] + ((c4 + c5 + (c6 + c7)) + 256 * join [c5 + c6 + c7, c6 + c7, c7]) = _
    omega
  rw [e6, Nat.add_mul_mod_self_left, Nat.mod_eq_of_lt (by omega)]

set_option maxHeartbeats 1000000 in
theorem swar_eq (x : Nat) (hx : x < 18446744073709551616) : swar x = pop 64 x := by
  obtain ⟨b0, b1, b2, b3, b4, b5, b6, b7, h0, h1, h2, h3, h4, h5, h6, h7, rfl⟩ : ∃ b0 b1 b2 b3 b4 b5 b6 b7 : Nat, b0 < 256 ∧ b1 < 256 ∧ b2 < 256 ∧ b3 < 256 ∧ b4 < 256 ∧ b5 < 256 ∧ b6 < 256 ∧ b7 < 256 ∧ x = join [b0, b1, b2, b3, b4, b5, b6, b7] := by
    have d : ∀ y : Nat, y = y % 256 + 256 * (y / 256) := fun y => by omega
    have z : x / 256 / 256 / 256 / 256 / 256 / 256 / 256 / 256 = 0 := by simp only [Nat.div_div_eq_div_mul, Nat.reduceMul]; exact Nat.div_eq_of_lt hx
    refine ⟨x % 256, x / 256 % 256, x / 256 / 256 % 256, x / 256 / 256 / 256 % 256, x / 256 / 256 / 256 / 256 % 256, x / 256 / 256 / 256 / 256 / 256 % 256, x / 256 / 256 / 256 / 256 / 256 / 256 % 256,
      x / 256 / 256 / 256 / 256 / 256 / 256 / 256 % 256, Nat.mod_lt _ (by decide), Nat.mod_lt _ (by decide), Nat.mod_lt _ (by decide), Nat.mod_lt _ (by decide), Nat.mod_lt _ (by decide), Nat.mod_lt _ (by decide), Nat.mod_lt _ (by decide), Nat.mod_lt _ (by decide), ?_⟩
    simp only [join]
    have e7 := d (x / 256 / 256 / 256 / 256 / 256 / 256 / 256)
    rw [z] at e7
    rw [← e7, ← d, ← d, ← d, ← d, ← d, ← d, ← d]
  have hall : ∀ b ∈ [b0, b1, b2, b3, b4, b5, b6, b7], b < 256 := by simp [h0, h1, h2, h3, h4, h5, h6, h7]
  have k1 := join1 [b0, b1, b2, b3, b4, b5, b6, b7] hall
  have k2 := join2 ([b0, b1, b2, b3, b4, b5, b6, b7].map s1) fun b hb => by
    obtain ⟨a, ha, rfl⟩ := List.mem_map.1 hb
    exact (s_pop ⟨a, hall a ha⟩).1
  have k3 := join3 (([b0, b1, b2, b3, b4, b5, b6, b7].map s1).map s2) fun b hb => by
    obtain ⟨a, ha, rfl⟩ := List.mem_map.1 hb
    obtain ⟨c, hc, rfl⟩ := List.mem_map.1 ha
    exact ⟨(s_pop ⟨c, hall c hc⟩).2.2.1, (s_pop ⟨c, hall c hc⟩).2.2.2.1⟩
  have m1 : mask 85 8 = 6148914691236517205 := by decide
  have m2 : mask 51 8 = 3689348814741910323 := by decide
  have m3 : mask 15 8 = 1085102592571150095 := by decide
  simp only [List.length_cons, List.length_nil, List.length_map, Nat.reduceAdd, m1, m2, m3] at k1 k2 k3
  simp only [swar]
  rw [k1, k2, k3]
  simp only [List.map_cons, List.map_nil]
  have e0 := (s_pop ⟨b0, h0⟩).2.2.2.2
  have e1 := (s_pop ⟨b1, h1⟩).2.2.2.2
  have e2 := (s_pop ⟨b2, h2⟩).2.2.2.2
  have e3 := (s_pop ⟨b3, h3⟩).2.2.2.2
  have e4 := (s_pop ⟨b4, h4⟩).2.2.2.2
  have e5 := (s_pop ⟨b5, h5⟩).2.2.2.2
  have e6 := (s_pop ⟨b6, h6⟩).2.2.2.2
  have e7 := (s_pop ⟨b7, h7⟩).2.2.2.2
  simp only at e0 e1 e2 e3 e4 e5 e6 e7
  rw [e0, e1, e2, e3, e4, e5, e6, e7]
  have p8 : ∀ (b q n : Nat), b < 256 → pop (8 + n) (b + 256 * q) = pop 8 b + pop n q := by
    intro b q n hb
    rw [pop_split, ← pop_mod 8 (b + 256 * q), show (b + 256 * q) % 2 ^ 8 = b by omega, show (b + 256 * q) / 2 ^ 8 = q by omega]
  have hp : pop 64 (join [b0, b1, b2, b3, b4, b5, b6, b7]) = pop 8 b0 + (pop 8 b1 + (pop 8 b2 + (pop 8 b3 + (pop 8 b4 + (pop 8 b5 + (pop 8 b6 + pop 8 b7)))))) := by
    simp only [join]
    rw [show (64 : Nat) = 8 + (8 + (8 + (8 + (8 + (8 + (8 + (8 + 0))))))) from rfl, p8 _ _ _ h0, p8 _ _ _ h1, p8 _ _ _ h2, p8 _ _ _ h3, p8 _ _ _ h4, p8 _ _ _ h5, p8 _ _ _ h6, p8 _ _ _ h7]
    simp [pop]
  rw [hp]
  have l0 := pop_le 8 b0
  have l1 := pop_le 8 b1
  have l2 := pop_le 8 b2
  have l3 := pop_le 8 b3
  have l4 := pop_le 8 b4
  have l5 := pop_le 8 b5
  have l6 := pop_le 8 b6
  have l7 := pop_le 8 b7
  generalize pop 8 b0 = c0 at *
  generalize pop 8 b1 = c1 at *
  generalize pop 8 b2 = c2 at *
  generalize pop 8 b3 = c3 at *
  generalize pop 8 b4 = c4 at *
  generalize pop 8 b5 = c5 at *
  generalize pop 8 b6 = c6 at *
  generalize pop 8 b7 = c7 at *
  exact fold8 c0 c1 c2 c3 c4 c5 c6 c7 l0 l1 l2 l3 l4 l5 l6 l7
end Go.Proofs.YtgbgneiciabidaaGreatDoor
/-
  Words of bits: what bits.OnesCount64 and bits.TrailingZeros64 answer.
-/
namespace Go.Proofs.YtgbgneiciabidaaGreatDoor
open Go Go.RowKit
set_option linter.unusedVariables false
set_option linter.unusedSimpArgs false

theorem ones_core (x p1 p2 a1 p3 p4 a2 s3 a3 a4 a5 a6 r : Nat) (w : World)
    (h1 : bits BinOp.and IntKind.u64 ((x : Int) / 2) 6148914691236517205 = (p1 : Int)) (h2 : bits BinOp.and IntKind.u64 (x : Int) 6148914691236517205 = (p2 : Int))
    (h3 : IntKind.u64.wrap ((p1 : Int) + p2) = (a1 : Int))
    (h4 : bits BinOp.and IntKind.u64 ((a1 : Int) / 4) 3689348814741910323 = (p3 : Int)) (h5 : bits BinOp.and IntKind.u64 (a1 : Int) 3689348814741910323 = (p4 : Int))
    (h6 : IntKind.u64.wrap ((p3 : Int) + p4) = (a2 : Int)) (h7 : IntKind.u64.wrap ((a2 : Int) / 16 + a2) = (s3 : Int))
    (h8 : bits BinOp.and IntKind.u64 (s3 : Int) 1085102592571150095 = (a3 : Int))
    (h9 : IntKind.u64.wrap ((a3 : Int) + (a3 : Int) / 256) = (a4 : Int)) (h10 : IntKind.u64.wrap ((a4 : Int) + (a4 : Int) / 65536) = (a5 : Int)) (h11 : IntKind.u64.wrap ((a5 : Int) + (a5 : Int) / 4294967296) = (a6 : Int))
    (h12 : a6 < 9223372036854775808) (h13 : bits BinOp.and IntKind.i64 (a6 : Int) 127 = (r : Int)) :
    Calls Tryz.prog 221 #[.int .u64 (x : Int)] w fun e w' => e = .returned (.int .i64 (r : Int)) ∧ w' = w := by
  go_enter Tryz.func221, Tryz.ntmps221
  go_wp2
  go_ret
  exact ⟨rfl, rfl⟩

theorem wrap_u64_of (n : Nat) (h : n < 18446744073709551616) : IntKind.u64.wrap (n : Int) = (n : Int) := by rw [IntKind.wrap_u64]; omega

theorem OnesCount64 (x : Nat) (hx : x < 18446744073709551616) (w : World) :
    Calls Tryz.prog 221 #[.int .u64 (x : Int)] w fun e w' => e = .returned (.int .i64 (pop 64 x : Nat)) ∧ w' = w := by
  have hs := swar_eq x hx
  simp only [swar] at hs
  have b1 : x / 2 &&& 6148914691236517205 ≤ 6148914691236517205 := Nat.and_le_right
  have b2 : x &&& 6148914691236517205 ≤ 6148914691236517205 := Nat.and_le_right
  have h1 := bits_and_u64_nat (x / 2) 6148914691236517205 (by omega) (by decide)
  have h2 := bits_and_u64_nat x 6148914691236517205 hx (by decide)
  generalize x / 2 &&& 6148914691236517205 = p1 at *
  generalize x &&& 6148914691236517205 = p2 at *
  have b3 : (p1 + p2) / 4 &&& 3689348814741910323 ≤ 3689348814741910323 := Nat.and_le_right
  have b4 : (p1 + p2) &&& 3689348814741910323 ≤ 3689348814741910323 := Nat.and_le_right
  have h3 := wrap_u64_of (p1 + p2) (by omega)
  have h4 := bits_and_u64_nat ((p1 + p2) / 4) 3689348814741910323 (by omega) (by decide)
  have h5 := bits_and_u64_nat (p1 + p2) 3689348814741910323 (by omega) (by decide)
  generalize (p1 + p2) / 4 &&& 3689348814741910323 = p3 at *
  generalize (p1 + p2) &&& 3689348814741910323 = p4 at *
  have h6 := wrap_u64_of (p3 + p4) (by omega)
  have h7 := wrap_u64_of ((p3 + p4) / 16 + (p3 + p4)) (by omega)
  have b5 : ((p3 + p4) / 16 + (p3 + p4)) &&& 1085102592571150095 ≤ 1085102592571150095 := Nat.and_le_right
  have h8 := bits_and_u64_nat ((p3 + p4) / 16 + (p3 + p4)) 1085102592571150095 (by omega) (by decide)
  generalize ((p3 + p4) / 16 + (p3 + p4)) &&& 1085102592571150095 = a3 at *
  have h9 := wrap_u64_of (a3 + a3 / 256) (by omega)
  have h10 := wrap_u64_of ((a3 + a3 / 256) + (a3 + a3 / 256) / 65536) (by omega)
  have h11 := wrap_u64_of (((a3 + a3 / 256) + (a3 + a3 / 256) / 65536) + ((a3 + a3 / 256) + (a3 + a3 / 256) / 65536) / 4294967296) (by omega)
  have h12 : ((a3 + a3 / 256) + (a3 + a3 / 256) / 65536) + ((a3 + a3 / 256) + (a3 + a3 / 256) / 65536) / 4294967296 < 9223372036854775808 := by omega
  refine ones_core x p1 p2 (p1 + p2) p3 p4 (p3 + p4) ((p3 + p4) / 16 + (p3 + p4)) a3 (a3 + a3 / 256) ((a3 + a3 / 256) + (a3 + a3 / 256) / 65536)
    (((a3 + a3 / 256) + (a3 + a3 / 256) / 65536) + ((a3 + a3 / 256) + (a3 + a3 / 256) / 65536) / 4294967296) (pop 64 x) w ?_ ?_ ?_ ?_ ?_ ?_ ?_ ?_ ?_ ?_ ?_ h12 ?_
  · simpa using h1
  · simpa using h2
  · simpa using h3
  · simpa using h4
  · simpa using h5
  · simpa using h6
  · simpa using h7
  · simpa using h8
  · simpa using h9
  · simpa using h10
  · simpa using h11
  · rw [← hs, i64_and127]
    omega
end Go.Proofs.YtgbgneiciabidaaGreatDoor
