/-
  Nodes (layer 10): their pairs, and whether they are right.
-/
import Derived.Test.YtgbgneiciabidaaGreatDoorGb8
import Derived.BigQuiet
import Derived.Test.YtgbgneiciabidaaGreatDoorGb5
namespace Go.Proofs.YtgbgneiciabidaaGreatDoor
open Go Go.RowKit
set_option linter.unusedVariables false
set_option linter.unusedSimpArgs false

def intVal (x : Int) : Value := .int .i64 x
def intsS (v : Value) (xs : List Int) : Say := rowS 3 1 v xs.length (xs.map intVal)
/-- What whoever reads a row of numbers finds. -/
theorem Has.ints_read {w : World} {l : List Say} {v : Value} {xs : List Int} (h : Has w l) (hm : intsS v xs ∈ l) :
    ∃ a c, v = .slice a xs.length c ∧ xs.length ≤ c ∧ ∀ k (hk : k < xs.length), ∃ g, a = some ⟨g, 0, none⟩ ∧ w.cell? ⟨g, k, none⟩ = some (.int .i64 xs[k]) ∧ ∀ j, w.frozen? ⟨g, j, none⟩ = false := by
  obtain ⟨_, a, c, hv, hc, _, hr⟩ := h.row_read hm
  exact ⟨a, c, hv, hc, fun k hk => hr k _ (by simp [hk, intVal])⟩

structure Nd where
  level : Int
  keys : List Int
  vals : List Int
def Nd.val (n : Nd) (kv vv : Value) : Value := .agg #[.int .i64 n.level, kv, vv]
def pairOk (k v : Int) : Bool := decide (0 ≤ k) && decide (k ≤ 1099511627776) && decide (1 ≤ v) && decide (v ≤ 2305843009213693952)

theorem pair_right {w : World} (k v : Int) : Calls Tryz.prog 164 #[.agg #[.int .i64 k, .int .i64 v]] w fun r w' => r = .returned (.bool (pairOk k v)) ∧ Below w.heap.size w w' := by
  by_cases h1 : 0 ≤ k
  · by_cases h2 : k ≤ 1099511627776
    · by_cases h3 : 1 ≤ v
      · go_enter Tryz.func164, Tryz.ntmps164
        go_wp2
        go_ret
        exact ⟨by simp [pairOk, h1, h2, h3], (Below.refl _ _).alloc (Nat.le_refl _) _⟩
      · go_enter Tryz.func164, Tryz.ntmps164
        go_wp2
        go_ret
        exact ⟨by simp [pairOk]; omega, (Below.refl _ _).alloc (Nat.le_refl _) _⟩
    · go_enter Tryz.func164, Tryz.ntmps164
      go_wp2
      go_ret
      exact ⟨by simp [pairOk]; omega, (Below.refl _ _).alloc (Nat.le_refl _) _⟩
  · go_enter Tryz.func164, Tryz.ntmps164
    go_wp2
    go_ret
    exact ⟨by simp [pairOk]; omega, (Below.refl _ _).alloc (Nat.le_refl _) _⟩

/-- Pairs as a row. -/
def pairCells (p : Int × Int) : List Value := [.int .i64 p.1, .int .i64 p.2]
def pairsS (v : Value) (ps : List (Int × Int)) : Say := rowS 87 2 v ps.length (ps.flatMap pairCells)
theorem info_pair : (Tryz.prog.info? 87).map (fun i => (i.zero, i.size, i.bytes)) = some (some (.agg #[.int .i64 0, .int .i64 0]), 2, 16) := by kernel_rfl
def PairsPost (ps : List (Int × Int)) (l : List Say) (w : World) (r : Ending) (w' : World) : Prop := ∃ v, r = .returned v ∧ Kept w w' ∧ Has w' (pairsS v ps :: l)
def PairsMid (w : World) (ps : List (Int × Int)) (l : List Say) (k : Nat) (o : Value) (wx : World) : Prop := Kept w wx ∧ Has wx (rowS 87 2 o k ((ps.take k).flatMap pairCells) :: l)

set_option maxRecDepth 100000 in
theorem node_pairs {w : World} {l : List Say} (n : Nd) {kv vv : Value} (h : Has w l) (hk : intsS kv n.keys ∈ l) (hv : intsS vv n.vals ∈ l) (hl : n.keys.length = n.vals.length) (h7 : n.keys.length ≤ 100) :
    Calls Tryz.prog 135 #[n.val kv vv] w (PairsPost (n.keys.zip n.vals) l w) := by
  obtain ⟨i0, I1, I2, I3, I4⟩ := info_parts info_pair
  obtain ⟨lv, ks, vs⟩ := n
  simp only [Nd.val] at *
  obtain ⟨ak, ck, rfl, _, hrk⟩ := h.ints_read hk
  obtain ⟨av, cv, rfl, _, hrv⟩ := h.ints_read hv
  have hbox := h.alloc (.cells #[.int .i64 lv, .slice ak ks.length ck, .slice av vs.length cv] 35)
  have c1 := cell_of hbox.got 1 rfl
  have c2 := cell_of hbox.got 2 rfl
  have HB := Lib.hid hbox
  have HK : Hid (Kept w (w.alloc (.cells #[.int .i64 lv, .slice ak ks.length ck, .slice av vs.length cv] 35))) := (Kept.refl w).alloc _
  have Hk := Lib.hid hk
  have Hv := Lib.hid hv
  have Hl := Lib.hid hl
  clear hbox h hk hv hrk hrv hl
  go_enter Tryz.func135, Tryz.ntmps135
  go_upto_region 1 with fail
  generalize w.alloc (.cells #[.int .i64 lv, .slice ak ks.length ck, .slice av vs.length cv] 35) = W at *
  generalize w.heap.size = bx at *
  have H0 : Hid (PairsMid w (ks.zip vs) (pts bx (.cells #[.int .i64 lv, .slice ak ks.length ck, .slice av vs.length cv] 35 (0, 0)) :: l) 0 (.slice none 0 0) W) := ⟨HK.out, HB.out.row_nil _ _⟩
  have lb := World.block_lt_of_cell? _ _ c1
  clear HB HK
  go_wp2
  go_loopg [3, 9] ks.length (fun gk o i wr => ∃ k : Nat, k ≤ ks.length ∧ gk = ks.length - k ∧ i = .int .i64 k ∧ Hid (PairsMid w (ks.zip vs) (pts bx (.cells #[.int .i64 lv, .slice ak ks.length ck, .slice av vs.length cv] 35 (0, 0)) :: l) k o wr))
  case atStart => exact ⟨0, Nat.zero_le _, rfl, rfl, H0⟩
  case round =>
    clear H0 c1 c2 lb
    obtain ⟨k, hk, rfl, rfl, HM⟩ := hrel
    by_cases hlt : k < ks.length
    · obtain ⟨hK, hh⟩ := HM.out
      have hlv : k < vs.length := by rw [← Hl.out]; exact hlt
      obtain ⟨a1, c1', e1, _, hr1⟩ := hh.ints_read (.tail _ (.tail _ Hk.out))
      cases e1
      obtain ⟨gk1, rfl, hc1, _⟩ := hr1 k hlt
      obtain ⟨a2, c2', e2, _, hr2⟩ := hh.ints_read (.tail _ (.tail _ Hv.out))
      cases e2
      obtain ⟨gv1, rfl, hc2, _⟩ := hr2 k hlv
      have c2 := cell_of hh.tail.got 2 rfl
      have lb := World.block_lt_of_cell? _ _ c2
      have hk1 : (k : Int) < (ks.length : Int) := by omega
      have hk2 : (k : Int) < (vs.length : Int) := by omega
      have hk0 : (0 : Int) ≤ k := by omega
      have HX : Hid ((ks.zip vs).take (k + 1) = (ks.zip vs).take k ++ [(ks[k], vs[k])]) := by
        show _ = _
        have hz : k < (ks.zip vs).length := by rw [List.length_zip]; omega
        rw [List.take_succ_eq_append_getElem hz, List.getElem_zip]
      generalize hkk : ks[k] = kk at *
      generalize hvk : vs[k] = vk at *
      have HH := Lib.hid hh
      have HK := Lib.hid hK
      obtain ⟨xs, hxs⟩ : ∃ xs, xs = ((ks.zip vs).take k).flatMap pairCells := ⟨_, rfl⟩
      have HXS := Lib.hid hxs
      have hh' := hh
      rw [← hxs] at hh'
      have HH' := Lib.hid hh'
      clear hr1 hr2 hh hK HM hkk hvk HH hxs hh'
      go_wp2_with (at_builtin; go_loud (refine wpList_append_row (l := pts bx (.cells #[.int .i64 lv, .slice (some ⟨gk1, 0, none⟩) ks.length ck, .slice (some ⟨gv1, 0, none⟩) vs.length cv] 35 (0, 0)) :: l) rfl (.tmp 14) (.tmp 22) 75 rfl 87 i0 (.agg #[.int .i64 0, .int .i64 0]) 2 16 Tryz.underlying75 I1 I2 I3 I4 rfl (by decide) _ k xs rfl ?hown ⟨_, 0, none⟩ 1 1 [.int .i64 kk, .int .i64 vk] rfl rfl (many_new _ [.int .i64 kk, .int .i64 vk] _ rfl) (by intro u hu; simp at hu; rcases hu with rfl | rfl <;> rfl) ?h63 ?hby ?next))
      case hown => exact HH'.out.alloc_off _
      case h63 => simp [maxLen]; omega
      case hby => omega
      case next =>
        intro v2 w4 hK4 h4
        have HK4 := Lib.hid ((HK.out.alloc _).trans hK4)
        have H4 := Lib.hid h4
        clear hK4 h4
        go_wp2
        go_roundg (ks.length - (k + 1))
        case measure => omega
        case rel =>
          refine ⟨k + 1, by omega, rfl, by simp, HK4.out, ?_⟩
          rw [HX.out, List.flatMap_append, ← HXS.out]
          exact H4.out
    · obtain rfl : k = ks.length := by omega
      obtain ⟨hK, hh⟩ := HM.out
      have HP : Hid (Kept w wr ∧ Has wr (pairsS u3 (ks.zip vs) :: l)) := ⟨hK, by
        have h1 := hh.swap.tail
        have e : ks.length = (ks.zip vs).length := by rw [List.length_zip, ← Hl.out]; simp
        rw [e, List.take_length] at h1
        exact h1⟩
      clear hK hh HM
      go_wp2
      go_ret
      exact ⟨_, rfl, HP.out⟩
end Go.Proofs.YtgbgneiciabidaaGreatDoor
/-
  Nodes (layer 10), the second part: whether they are right.
-/
namespace Go.Proofs.YtgbgneiciabidaaGreatDoor
open Go Go.RowKit
set_option linter.unusedVariables false
set_option linter.unusedSimpArgs false

/-- The worlds that are W with something new beside it: the class in which a region is walked whose callees make memory that nobody keeps. -/
structure Garb (W : World) where
  w : World
  below : Below W.heap.size W w
instance (W : World) : Nonempty (Garb W) := ⟨⟨W, Below.refl _ _⟩⟩
theorem wp_region_garb {P : Program} {id : Nat} {Q : Exit → Act → World → Prop} {a : Act} {W : World} {l : List Oper} (hm : P.follows .mixedOrders = true) (hB : Region.lexB .any l.toArray = true)
    (h : wpQuiet P l.toArray (fun w' => ∃ n : Garb W, w' = n.w) (fun a' => ∀ w', (∃ n : Garb W, w' = n.w) → Q .normal a' w') l a) : (Code.region id l.toArray true).wp P Q a W :=
  wp_region_quiet (C := fun w' => ∃ n : Garb W, w' = n.w) hm hB ⟨⟨W.drew, (Below.refl _ _).drew⟩, rfl⟩ (by simpa using h)
theorem garb_call {P : Program} {f : FuncId} {args : Array Value} {W : World} {n : Garb W} {v : Value} (h : Calls P f args n.w fun e w' => e = .returned v ∧ Below n.w.heap.size n.w w') :
    Calls P f args n.w fun e w'' => e = .returned v ∧ ∃ m : Garb W, w'' = m.w :=
  h.mono fun _ w' ⟨he, hb⟩ => ⟨he, ⟨w', n.below.trans (hb.mono n.below.size)⟩, rfl⟩

/-- The k-th pair is right, and stands behind the one ahead of it. -/
def ordAt (ps : List (Int × Int)) (k : Nat) : Bool :=
  match ps[k]? with
  | none => true
  | some p => pairOk p.1 p.2 && (k == 0 || match ps[k - 1]? with | none => true | some q => decide (q.1 < p.1))
def ordTo (ps : List (Int × Int)) : Nat → Bool
  | 0 => true
  | k + 1 => ordTo ps k && ordAt ps k
theorem ordTo_false (ps : List (Int × Int)) (k : Nat) (h : ordAt ps k = false) : ∀ n, k < n → ordTo ps n = false
  | 0, hn => by omega
  | n + 1, hn => by
    rw [ordTo]
    by_cases e : k = n
    · subst e; simp [h]
    · simp [ordTo_false ps k h n (by omega)]

theorem bcell1 {w W : World} (hb : Below W.heap.size W w) {b o : Nat} {v : Value} (h : W.cell? ⟨b, o, none⟩ = some v) : w.cell? ⟨b, o, none⟩ = some v := by
  rw [(bcell hb).1 _ _ (World.block_lt_of_cell? _ _ h)]; exact h
theorem Has.pairs_read {w : World} {l : List Say} {v : Value} {ps : List (Int × Int)} (h : Has w l) (hm : pairsS v ps ∈ l) :
    ∃ a c, v = .slice a ps.length c ∧ ps.length ≤ c ∧ ∀ k p, ps[k]? = some p → ∃ g, a = some ⟨g, 0, none⟩ ∧ w.cell? ⟨g, k * 2, none⟩ = some (.int .i64 p.1) ∧ w.cell? ⟨g, k * 2 + 1, none⟩ = some (.int .i64 p.2) := by
  obtain ⟨h1, h2⟩ := h.row_own hm
  rcases h2 with ⟨rfl, h0⟩ | ⟨g, cap, cur, rfl, _, hg, hn, hc, hs, ht⟩
  · refine ⟨none, 0, by rw [h0], by omega, fun k p hp => ?_⟩
    have := (List.getElem?_eq_some_iff.1 hp).1
    omega
  · refine ⟨_, cap, rfl, hn, fun k p hp => ⟨g, rfl, ?_⟩⟩
    have hx : ∀ (ps : List (Int × Int)) (k : Nat) (p : Int × Int), ps[k]? = some p → (ps.flatMap pairCells)[k * 2]? = some (.int .i64 p.1) ∧ (ps.flatMap pairCells)[k * 2 + 1]? = some (.int .i64 p.2) := by
      intro ps
      induction ps with
      | nil => intro k p hp; simp at hp
      | cons q ps ih =>
        intro k p hp
        cases k with
        | zero => simp at hp; subst hp; simp [pairCells]
        | succ k =>
          have := ih k p (by simpa using hp)
          have e : (q :: ps).flatMap pairCells = [.int .i64 q.1, .int .i64 q.2] ++ ps.flatMap pairCells := rfl
          rw [e]
          constructor
          · rw [List.getElem?_append_right (by simp; omega)]; simpa [show (k + 1) * 2 - 2 = k * 2 by omega] using this.1
          · rw [List.getElem?_append_right (by simp; omega)]; simpa [show (k + 1) * 2 + 1 - 2 = k * 2 + 1 by omega] using this.2
    obtain ⟨e1, e2⟩ := hx ps k p hp
    have take : ∀ (j : Nat) (u : Value), (ps.flatMap pairCells)[j]? = some u → cur[j]? = some u := by
      intro j u hu
      rw [← ht, List.getElem?_take] at hu
      split at hu
      · simpa using hu
      · cases hu
    exact ⟨cell_of hg _ (take _ _ e1), cell_of hg _ (take _ _ e2)⟩

set_option maxRecDepth 100000 in
theorem node_ordered {w : World} {l : List Say} {v : Value} {ps : List (Int × Int)} (h : Has w l) (hm : pairsS v ps ∈ l) (hlen : ps.length ≤ 100) :
    Calls Tryz.prog 161 #[v] w fun r w' => r = .returned (.bool (ordTo ps ps.length)) ∧ Below w.heap.size w w' := by
  obtain ⟨a, c, rfl, _, hr⟩ := h.pairs_read hm
  have HR := Lib.hid hr
  clear h hm hr
  go_enter Tryz.func161, Tryz.ntmps161
  go_wp2
  go_loopg [7] ps.length (fun gk i wr => ∃ k : Nat, k ≤ ps.length ∧ gk = ps.length - k ∧ i = .int .i64 k ∧ ordTo ps k = true ∧ Hid (Below w.heap.size w wr))
  case atStart => exact ⟨0, Nat.zero_le _, rfl, rfl, rfl, Below.refl _ _⟩
  case round =>
    obtain ⟨k, hk, rfl, rfl, ho, HB⟩ := hrel
    by_cases hlt : k < ps.length
    · obtain ⟨g, rfl, h1, h2⟩ := HR.out k ps[k] (List.getElem?_eq_getElem hlt)
      have hk1 : (k : Int) < (ps.length : Int) := by omega
      have hk0 : (0 : Int) ≤ k := by omega
      have b1 := bcell1 HB.out h1
      have b2 := bcell1 HB.out h2
      have HO := Lib.hid ho
      generalize hp : ps[k] = p at *
      obtain ⟨pa, pb⟩ := p
      simp only at h1 h2 b1 b2
      have l1 := World.block_lt_of_cell? _ _ b1
      clear h1 h2 ho
      have HN : Hid (Below w.heap.size w (wr.alloc (.cells #[.int .i64 pa, .int .i64 pb] 87))) := HB.out.alloc HB.out.size _
      have HP := Lib.hid hp
      have x0 : (wr.alloc (.cells #[.int .i64 pa, .int .i64 pb] 87)).cell? ⟨wr.heap.size, 0, none⟩ = some (.int .i64 pa) := World.cell?_alloc_new _ _ _ 0
      have x1 : (wr.alloc (.cells #[.int .i64 pa, .int .i64 pb] 87)).cell? ⟨wr.heap.size, 1, none⟩ = some (.int .i64 pb) := World.cell?_alloc_new _ _ _ 1
      clear hp HB
      go_upto_region 4 with fail
      generalize wr.alloc (.cells #[.int .i64 pa, .int .i64 pb] 87) = W at *
      generalize wr.heap.size = b4 at *
      clear b1 b2 l1
      have l1 := World.block_lt_of_cell? _ _ x0
      have y0 : ∀ n : Garb W, n.w.cell? ⟨b4, 0, none⟩ = some (.int .i64 pa) := fun n => bcell1 n.below x0
      have y1 : ∀ n : Garb W, n.w.cell? ⟨b4, 1, none⟩ = some (.int .i64 pb) := fun n => bcell1 n.below x1
      have hkl := Lib.hid hlt
      have HRt : Hid (∀ n : Garb W, Calls Tryz.prog 164 #[.agg #[.int .i64 pa, .int .i64 pb]] n.w fun e w'' => e = .returned (.bool (pairOk pa pb)) ∧ ∃ m : Garb W, w'' = m.w) := fun n => garb_call (pair_right (w := n.w) pa pb)
      cases hpk : pairOk pa pb with
      | false =>
        rw [hpk] at HRt
        have HPK := Lib.hid hpk
        clear hpk
        refine wp_region_garb (W := W) (by kernel_rfl) (by kernel_rfl) ?_
        repeat (go_big_quiet_step ((go_at_call 164; exact HRt.out _)))
        refine wpQuiet_nil ?_
        rintro _ ⟨n, rfl⟩
        go_wp2
        go_ret
        refine ⟨?_, HN.out.trans (n.below.mono HN.out.size)⟩
        rw [ordTo_false ps k _ ps.length hlt]
        · rfl
        · rw [ordAt, List.getElem?_eq_getElem hlt, HP.out]; simp [HPK.out]
      | true =>
        rw [hpk] at HRt
        have HPK := Lib.hid hpk
        clear hpk
        by_cases h0 : k = 0
        · subst h0
          have hd0 : decide ((0 : Int) < ((0 : Nat) : Int)) = false := rfl
          have HA : Hid (ordTo ps (0 + 1) = true) := by show _ = _; rw [ordTo, HO.out, ordAt, List.getElem?_eq_getElem hlt, HP.out]; simp [HPK.out]
          refine wp_region_garb (W := W) (by kernel_rfl) (by kernel_rfl) ?_
          repeat (go_big_quiet_step ((go_at_call 164; exact HRt.out _)))
          refine wpQuiet_nil ?_
          rintro _ ⟨n, rfl⟩
          go_wp2
          go_roundg (ps.length - (0 + 1))
          case measure => omega
          case rel => exact ⟨0 + 1, by omega, rfl, by simp, HA.out, HN.out.trans (n.below.mono HN.out.size)⟩
        · obtain ⟨m, hm⟩ : ∃ m, k = m + 1 := ⟨k - 1, by omega⟩
          have hmlt : m < ps.length := by omega
          have hd0 : 0 < k := by omega
          have hsub : (k : Int) - 1 = (m : Int) := by omega
          have hsub2 : IntKind.i64.wrap ((k : Int) - 1) = (m : Int) := by rw [IntKind.wrap_i64]; omega
          have hm1 : (m : Int) < (ps.length : Int) := by omega
          have hm0 : (0 : Int) ≤ (m : Int) := by omega
          have HQ := Lib.hid (List.getElem?_eq_getElem hmlt)
          obtain ⟨g', hg', q1, _⟩ := HR.out m ps[m] (List.getElem?_eq_getElem hmlt)
          cases hg'
          generalize ps[m] = q at *
          have z0 : ∀ n : Garb W, n.w.cell? ⟨g, m * 2, none⟩ = some (.int .i64 q.1) := fun n => bcell1 (HN.out.trans (n.below.mono HN.out.size)) q1
          have Hm := Lib.hid hm
          clear q1 hm h0
          have HAt : Hid (ordAt ps k = decide (q.1 < pa)) := by
            show _ = _
            have e := Hm.out
            rw [ordAt, List.getElem?_eq_getElem hlt, HP.out]
            have e2 : k - 1 = m := by omega
            have e3 : (k == 0) = false := by simp; omega
            simp only [e2, HQ.out, e3, HPK.out, Bool.true_and, Bool.false_or]
          have Hhlt := Lib.hid hlt
          by_cases hc : q.1 < pa
          · have hcb : decide (pa ≤ q.1) = false := by simp; omega
            have HA : Hid (ordTo ps (k + 1) = true) := by show _ = _; rw [ordTo, HO.out, HAt.out]; simp [hc]
            refine wp_region_garb (W := W) (by kernel_rfl) (by kernel_rfl) ?_
            repeat (go_big_quiet_step ((go_at_call 164; exact HRt.out _)))
            refine wpQuiet_nil ?_
            rintro _ ⟨n, rfl⟩
            go_wp2
            go_roundg (ps.length - (k + 1))
            case measure => omega
            case rel => exact ⟨k + 1, by omega, rfl, by simp, HA.out, HN.out.trans (n.below.mono HN.out.size)⟩
          · have hcb : pa ≤ q.1 := by omega
            have HA : Hid (ordTo ps ps.length = false) := ordTo_false ps k (by rw [HAt.out]; simp; omega) ps.length hlt
            refine wp_region_garb (W := W) (by kernel_rfl) (by kernel_rfl) ?_
            repeat (go_big_quiet_step ((go_at_call 164; exact HRt.out _)))
            refine wpQuiet_nil ?_
            rintro _ ⟨n, rfl⟩
            go_wp2
            go_ret
            exact ⟨by rw [HA.out]; rfl, HN.out.trans (n.below.mono HN.out.size)⟩
    · obtain rfl : k = ps.length := by omega
      have HO := Lib.hid ho
      clear ho
      go_wp2
      go_ret
      exact ⟨by rw [HO.out]; rfl, HB.out⟩
end Go.Proofs.YtgbgneiciabidaaGreatDoor
/-
  Nodes (layer 10), the third part: Check, Bytes.
-/
namespace Go.Proofs.YtgbgneiciabidaaGreatDoor
open Go Go.RowKit
set_option linter.unusedVariables false
set_option linter.unusedSimpArgs false

def Nd.pairs (n : Nd) : List (Int × Int) := n.keys.zip n.vals
def Nd.ok (n : Nd) : Bool := decide (0 ≤ n.level) && decide (n.level ≤ 20) && (n.keys.length == n.vals.length) && decide (1 ≤ n.keys.length) && decide (n.keys.length ≤ 7) && ordTo n.pairs n.pairs.length

def CheckPost (n : Nd) (l : List Say) (w : World) (r : Ending) (w' : World) : Prop := r = .returned (if n.ok = true then .nilIface else errV 70) ∧ Kept w w' ∧ Has w' l

theorem check_bad {n : Nd} {l : List Say} {w w' : World} {r : Ending} (h1 : Hid (n.ok = false)) (h2 : r = .returned (errV 70)) (h3 : Kept w w' ∧ Has w' l) : CheckPost n l w r w' := ⟨by rw [h1.out]; exact h2, h3⟩

set_option maxRecDepth 100000 in
theorem node_Check {w : World} {l : List Say} (n : Nd) {kv vv : Value} (h : Has w l) (hk : intsS kv n.keys ∈ l) (hv : intsS vv n.vals ∈ l) :
    Calls Tryz.prog 98 #[n.val kv vv] w (CheckPost n l w) := by
  have hbox := h.alloc (.cells #[.int .i64 n.level, kv, vv] 35)
  have HW : Hid (Kept w (w.alloc (.cells #[.int .i64 n.level, kv, vv] 35)) ∧ Has (w.alloc (.cells #[.int .i64 n.level, kv, vv] 35)) l) := ⟨(Kept.refl w).alloc _, hbox.tail⟩
  have HP : Hid (n.keys.length = n.vals.length → n.keys.length ≤ 7 → Calls Tryz.prog 135 #[n.val kv vv] (w.alloc (.cells #[.int .i64 n.level, kv, vv] 35)) (PairsPost n.pairs l (w.alloc (.cells #[.int .i64 n.level, kv, vv] 35)))) := fun h1 h2 => node_pairs n hbox.tail hk hv h1 (by omega)
  have c0 := cell_of hbox.got 0 rfl
  have c1 := cell_of hbox.got 1 rfl
  have c2 := cell_of hbox.got 2 rfl
  obtain ⟨ak, ck, rfl, _, _⟩ := h.ints_read hk
  obtain ⟨av, cv, rfl, _, _⟩ := h.ints_read hv
  clear h hk hv hbox
  have lb := World.block_lt_of_cell? _ _ c0
  obtain ⟨lv, ks, vs⟩ := n
  simp only [Nd.val] at *
  go_enter Tryz.func98, Tryz.ntmps98
  go_upto_region 1 with fail
  generalize w.alloc (.cells #[.int .i64 lv, .slice ak ks.length ck, .slice av vs.length cv] 35) = W at *
  generalize w.heap.size = bx at *
  by_cases g1 : lv < 0
  · have hb : Hid (Nd.ok ⟨lv, ks, vs⟩ = false) := by show _ = _; simp [Nd.ok]; omega
    go_wp2
    go_ret
    exact check_bad hb rfl HW.out
  by_cases g2 : 20 < lv
  · have hb : Hid (Nd.ok ⟨lv, ks, vs⟩ = false) := by show _ = _; simp [Nd.ok]; omega
    have g1' : decide (lv < 0) = false := by simp; omega
    go_wp2
    go_ret
    exact check_bad hb rfl HW.out
  have g1' : decide (lv < 0) = false := by simp; omega
  have g2' : decide (20 < lv) = false := by simp; omega
  by_cases g3 : ks.length = vs.length
  · by_cases g4 : ks.length < 1
    · have hb : Hid (Nd.ok ⟨lv, ks, vs⟩ = false) := by show _ = _; simp [Nd.ok]; omega
      have g3' : ((ks.length : Int) == (vs.length : Int)) = true := by simp; omega
      have g4' : decide ((ks.length : Int) < 1) = true := by simp; omega
      clear g3 g4
      go_wp2
      go_ret
      exact check_bad hb rfl HW.out
    have g4' : decide ((ks.length : Int) < 1) = false := by simp; omega
    by_cases g5 : 7 < ks.length
    · have hb : Hid (Nd.ok ⟨lv, ks, vs⟩ = false) := by show _ = _; simp [Nd.ok]; omega
      have g3' : ((ks.length : Int) == (vs.length : Int)) = true := by simp; omega
      have g5' : decide (7 < (ks.length : Int)) = true := by simp; omega
      clear g3 g4 g5
      go_wp2
      go_ret
      exact check_bad hb rfl HW.out
    have g5' : decide (7 < (ks.length : Int)) = false := by simp; omega
    have g3' : ((ks.length : Int) == (vs.length : Int)) = true := by simp; omega
    have HQ := Lib.hid (HP.out g3 (by omega))
    have hok : Hid (Nd.ok ⟨lv, ks, vs⟩ = ordTo (Nd.pairs ⟨lv, ks, vs⟩) (Nd.pairs ⟨lv, ks, vs⟩).length) := by
      show _ = _
      have e1 : decide (0 ≤ lv) = true := by simp; omega
      have e2 : decide (lv ≤ 20) = true := by simp; omega
      have e3 : (ks.length == vs.length) = true := by simp; omega
      have e4 : decide (1 ≤ ks.length) = true := by simp; omega
      have e5 : decide (ks.length ≤ 7) = true := by simp; omega
      simp only [Nd.ok, e1, e2, e3, e4, e5, Bool.true_and]
    have hlp : (Nd.pairs ⟨lv, ks, vs⟩).length ≤ 100 := by simp [Nd.pairs]; omega
    clear g3 g4 g5 HP
    go_wp2_with fail
    refine HQ.out.mono ?_
    rintro r w1 ⟨v1, rfl, hK, h1⟩
    have HO := Lib.hid (node_ordered h1 (.head _) hlp)
    have HK1 : Hid (Kept w w1 ∧ Has w1 l) := ⟨HW.out.1.trans hK, h1.tail⟩
    clear hK h1 HQ HW
    go_wp2_with fail
    refine HO.out.mono ?_
    rintro r w2 ⟨rfl, hb2⟩
    have HK2 : Hid (Kept w w2 ∧ Has w2 l) := ⟨HK1.out.1.trans (Kept.below hb2), HK1.out.2.below hb2⟩
    clear hb2 HO HK1
    cases ho : ordTo (Nd.pairs ⟨lv, ks, vs⟩) (Nd.pairs ⟨lv, ks, vs⟩).length with
    | false =>
      rw [ho] at hok
      have HX := Lib.hid ho
      clear ho
      go_wp2
      go_ret
      exact check_bad hok rfl HK2.out
    | true =>
      rw [ho] at hok
      have HX := Lib.hid ho
      clear ho
      go_wp2
      go_ret
      exact ⟨by rw [hok.out]; rfl, HK2.out⟩
  · have hb : Hid (Nd.ok ⟨lv, ks, vs⟩ = false) := by show _ = _; simp [Nd.ok]; omega
    have g3' : ((ks.length : Int) == (vs.length : Int)) = false := by simp; omega
    clear g3
    go_wp2
    go_ret
    exact check_bad hb rfl HW.out
end Go.Proofs.YtgbgneiciabidaaGreatDoor
/-
  Nodes (layer 10), the fourth part: Bytes.
-/
namespace Go.Proofs.YtgbgneiciabidaaGreatDoor
open Go Go.RowKit
set_option linter.unusedVariables false
set_option linter.unusedSimpArgs false

def pairBytes (p : Int × Int) : List Int := bytes8 p.1 ++ bytes8 p.2
def nodeBytes (n : Nd) : List Int := [n.level, (n.keys.length : Int)] ++ n.pairs.flatMap pairBytes
def NBPost (n : Nd) (l : List Say) (w : World) (r : Ending) (w' : World) : Prop :=
  (n.ok = false ∧ r = .returned (.tuple #[.slice none 0 0, errV 70]) ∧ Kept w w' ∧ Has w' l) ∨ (n.ok = true ∧ BytesPost (frameOf 2 (nodeBytes n)) l w r w')

theorem byte_new {w : World} {L : List Say} {p : Nat} {lv : Int} {n : Nat} (h : Has w (packS p [] :: L)) (o1 : 0 ≤ lv) (o2 : lv ≤ 20) (o4 : 1 ≤ n) (o5 : n ≤ 7) :
    Calls Tryz.prog 134 #[.pointer (some ⟨p, 0, none⟩), .slice (some ⟨w.heap.size, 0, none⟩) 2 2] (w.alloc (.cells #[.int .i64 lv, .int .i64 (n : Int)] 3))
      (PutPost (w.alloc (.cells #[.int .i64 lv, .int .i64 (n : Int)] 3)) p [lv, (n : Int)] (rowS 3 1 (.slice (some ⟨w.heap.size, 0, none⟩) 2 2) 2 [.int .i64 lv, .int .i64 (n : Int)] :: L)) := by
  have h1 := ((h.alloc (.cells #[.int .i64 lv, .int .i64 (n : Int)] 3)).row_of_pts (size := 1) (n := 2) (cap := 2) (xs := [.int .i64 lv, .int .i64 (n : Int)]) rfl (Nat.le_refl _) (by simp [maxLen]) rfl rfl).swap
  exact pack_Byte h1 w.heap.size 2 [lv, (n : Int)] (.head _) (by intro x hx; simp at hx; rcases hx with rfl | rfl <;> omega) (by simp)
theorem byte_old {w : World} {L : List Say} {p b : Nat} {lv : Int} {n : Nat} (h : Has w (packS p [] :: pts b (.cells #[.int .i64 lv, .int .i64 (n : Int)] 3 (0, 0)) :: L)) (o1 : 0 ≤ lv) (o2 : lv ≤ 20) (o4 : 1 ≤ n) (o5 : n ≤ 7) :
    Calls Tryz.prog 134 #[.pointer (some ⟨p, 0, none⟩), .slice (some ⟨b, 0, none⟩) 2 2] w
      (PutPost w p [lv, (n : Int)] (rowS 3 1 (.slice (some ⟨b, 0, none⟩) 2 2) 2 [.int .i64 lv, .int .i64 (n : Int)] :: L)) := by
  have h1 := (h.swap.row_of_pts (size := 1) (n := 2) (cap := 2) (xs := [.int .i64 lv, .int .i64 (n : Int)]) rfl (Nat.le_refl _) (by simp [maxLen]) rfl rfl).swap
  exact pack_Byte h1 b 2 [lv, (n : Int)] (.head _) (by intro x hx; simp at hx; rcases hx with rfl | rfl <;> omega) (by simp)

theorem ordTo_all (ps : List (Int × Int)) : ∀ n, ordTo ps n = true → ∀ k q, k < n → ps[k]? = some q → pairOk q.1 q.2 = true
  | 0, _, _, _, h, _ => by omega
  | n + 1, ho, k, q, hk, hq => by
    simp only [ordTo, Bool.and_eq_true] at ho
    by_cases e : k = n
    · subst e
      have := ho.2
      rw [ordAt, hq] at this
      simp only [Bool.and_eq_true] at this
      exact this.1
    · exact ordTo_all ps n ho.1 k q (by omega) hq
theorem flatP_len (ps : List (Int × Int)) : (ps.flatMap pairBytes).length = 16 * ps.length := by
  induction ps with
  | nil => rfl
  | cons x ns ih => rw [List.flatMap_cons, List.length_append, ih, List.length_cons]; simp [pairBytes, bytes8]; omega
theorem flat_next (ps : List (Int × Int)) (k : Nat) (h : k < ps.length) : (ps.take (k + 1)).flatMap pairBytes = (ps.take k).flatMap pairBytes ++ pairBytes ps[k] := by
  rw [List.take_succ_eq_append_getElem h, List.flatMap_append]; simp
/-- k of the pairs are packed. -/
def NBMid (w : World) (p : Nat) (lv : Int) (n : Nat) (v : Value) (ps : List (Int × Int)) (L : List Say) (k : Nat) (wx : World) : Prop :=
  Kept w wx ∧ Has wx (packS p ([lv, (n : Int)] ++ (ps.take k).flatMap pairBytes) :: pairsS v ps :: L)
theorem long_new {w : World} {L : List Say} {p : Nat} {cur : List Int} {qa qb : Int} (h : Has w (packS p cur :: L)) (hb : 0 ≤ qa ∧ qa ≤ 1099511627776 ∧ 1 ≤ qb ∧ qb ≤ 2305843009213693952) (hl : cur.length + 16 ≤ 1000) :
    Calls Tryz.prog 136 #[.pointer (some ⟨p, 0, none⟩), .slice (some ⟨w.heap.size, 0, none⟩) 2 2] (w.alloc (.cells #[.int .i64 qa, .int .i64 qb] 3))
      (PutPost (w.alloc (.cells #[.int .i64 qa, .int .i64 qb] 3)) p (cur ++ pairBytes (qa, qb)) (rowS 3 1 (.slice (some ⟨w.heap.size, 0, none⟩) 2 2) 2 [.int .i64 qa, .int .i64 qb] :: L)) := by
  have h1 := ((h.alloc (.cells #[.int .i64 qa, .int .i64 qb] 3)).row_of_pts (size := 1) (n := 2) (cap := 2) (xs := [.int .i64 qa, .int .i64 qb]) rfl (Nat.le_refl _) (by simp [maxLen]) rfl rfl).swap
  have h2 := pack_Long h1 w.heap.size 2 [qa, qb] (.head _) (by intro x hx; simp at hx; rcases hx with rfl | rfl <;> omega) (by simp; omega)
  have e : [qa, qb].flatMap bytes8 = pairBytes (qa, qb) := by simp [pairBytes]
  rw [e] at h2
  exact h2

set_option maxHeartbeats 1000000 in
set_option maxRecDepth 100000 in
theorem node_Bytes {w : World} {l : List Say} (n : Nd) {kv vv : Value} (h : Has w l) (hk : intsS kv n.keys ∈ l) (hv : intsS vv n.vals ∈ l) :
    Calls Tryz.prog 75 #[n.val kv vv] w (NBPost n l w) := by
  obtain ⟨ak, ck, rfl, _, _⟩ := h.ints_read hk
  obtain ⟨av, cv, rfl, _, _⟩ := h.ints_read hv
  have hbox := h.alloc (.cells #[.int .i64 n.level, .slice ak n.keys.length ck, .slice av n.vals.length cv] 35)
  have HCk := Lib.hid (node_Check n hbox (.tail _ hk) (.tail _ hv))
  have HK0 : Hid (Kept w (w.alloc (.cells #[.int .i64 n.level, .slice ak n.keys.length ck, .slice av n.vals.length cv] 35))) := (Kept.refl w).alloc _
  have c0 := cell_of hbox.got 0 rfl
  have c1 := cell_of hbox.got 1 rfl
  have c2 := cell_of hbox.got 2 rfl
  have lb := World.block_lt_of_cell? _ _ c0
  have Hk := Lib.hid hk
  have Hv := Lib.hid hv
  obtain ⟨lv, ks, vs⟩ := n
  simp only [Nd.val] at *
  clear h hk hv hbox
  go_enter Tryz.func75, Tryz.ntmps75
  go_upto_region 1 with fail
  generalize w.alloc (.cells #[.int .i64 lv, .slice ak ks.length ck, .slice av vs.length cv] 35) = W at *
  generalize w.heap.size = bx at *
  go_wp2_with fail
  refine HCk.out.mono ?_
  rintro r w1 ⟨rfl, hK1, hh1⟩
  have HK1 := Lib.hid (HK0.out.trans hK1)
  have H1 := Lib.hid hh1
  clear HCk HK0 c0 c1 c2 lb
  cases hok : Nd.ok ⟨lv, ks, vs⟩ with
  | false =>
    have Hok := Lib.hid hok
    clear hok hK1 hh1
    simp only [Bool.false_eq_true, if_false, errV]
    go_wp2
    go_ret2
    exact .inl ⟨Hok.out, rfl, HK1.out, H1.out.tail⟩
  | true =>
    have c0 := cell_of hh1.got 0 rfl
    have c1 := cell_of hh1.got 1 rfl
    have c2 := cell_of hh1.got 2 rfl
    have lb := World.block_lt_of_cell? _ _ c0
    have Hok := Lib.hid hok
    simp only [Nd.ok, Bool.and_eq_true, decide_eq_true_eq, beq_iff_eq] at hok
    obtain ⟨⟨⟨⟨⟨o1, o2⟩, o3⟩, o4⟩, o5⟩, o6⟩ := hok
    have O3 := Lib.hid o3
    have O6 := Lib.hid o6
    have HN1 := Lib.hid (pack_New (hh1.drew))
    have HN2 := Lib.hid (pack_New (hh1.drew.alloc (.cells #[.int .i64 lv, .int .i64 (ks.length : Int)] 3)))
    clear o3 o6 hK1 hh1
    go_upto_region 3 with fail
    go_cut [4] (fun pv wx => ∃ p, pv = .pointer (some ⟨p, 0, none⟩) ∧ Hid (PackMid w p [lv, (ks.length : Int)] (pts bx (.cells #[.int .i64 lv, .slice ak ks.length ck, .slice av vs.length cv] 35 (0, 0)) :: l) wx))
    case first =>
      go_region_law (first
        | (go_simp; go_at_call 133; first
            | (refine HN1.out.mono ?_; rintro r V ⟨p, rfl, hK, hh⟩; have hpb := (hh.pull 1).got; have d0 := cell_of hpb 0 rfl; have d1 := cell_of hpb 1 rfl; have ld := World.block_lt_of_cell? _ _ d0; have HBy := Lib.hid (byte_new hh o1 o2 o4 o5); have HKP := Lib.hid hK; clear hK hh hpb)
            | (refine HN2.out.mono ?_; rintro r V ⟨p, rfl, hK, hh⟩; have hpb := (hh.pull 2).got; have d0 := cell_of hpb 0 rfl; have d1 := cell_of hpb 1 rfl; have ld := World.block_lt_of_cell? _ _ d0; have HBy := Lib.hid (byte_old hh o1 o2 o4 o5); have HKP := Lib.hid hK; clear hK hh hpb))
        | (go_simp; go_at_call 134; refine HBy.out.mono ?_; rintro r V2 ⟨rfl, hK2, hh2⟩; have HK2 := Lib.hid hK2; have HH2 := Lib.hid ((hh2.pull 1).tail); clear hK2 hh2))
      all_goals
        go_wp2_with fail
        go_meet
        case rel =>
          exact ⟨p, rfl, by
            first
              | exact ((HK1.out.drew.trans HKP.out).alloc _).trans HK2.out
              | exact (((HK1.out.drew).alloc _).trans HKP.out).trans HK2.out, HH2.out⟩
    case rest =>
      clear HN1 HN2 c0 c1 c2 lb H1 HK1
      obtain ⟨p, rfl, HM⟩ := hcut
      obtain ⟨hK2, hh2⟩ := HM.out
      have hp2 := hh2.tail.got
      have c0 := cell_of hp2 0 rfl
      have c1 := cell_of hp2 1 rfl
      have c2 := cell_of hp2 2 rfl
      have lb := World.block_lt_of_cell? _ _ c0
      have HPr := Lib.hid (node_pairs ⟨lv, ks, vs⟩ hh2 (.tail _ (.tail _ Hk.out)) (.tail _ (.tail _ Hv.out)) O3.out (by show ks.length ≤ 100; omega))
      have HK2 := Lib.hid hK2
      simp only [Nd.val] at HPr
      clear hK2 hh2 hp2 HM
      go_wp2_with fail
      refine HPr.out.mono ?_
      rintro r w3 ⟨v, rfl, hK3, hh3⟩
      have hpl : (Nd.pairs ⟨lv, ks, vs⟩).length = ks.length := by simp [Nd.pairs, O3.out]
      have hbd : ∀ (k : Nat) (q : Int × Int), (Nd.pairs ⟨lv, ks, vs⟩)[k]? = some q → 0 ≤ q.1 ∧ q.1 ≤ 1099511627776 ∧ 1 ≤ q.2 ∧ q.2 ≤ 2305843009213693952 := by
        intro k q hq
        have := ordTo_all _ _ O6.out k q (List.getElem?_eq_some_iff.1 hq).1 hq
        simpa [pairOk, and_assoc] using this
      have hEnd : Hid (nodeBytes ⟨lv, ks, vs⟩ = [lv, (ks.length : Int)] ++ (Nd.pairs ⟨lv, ks, vs⟩).flatMap pairBytes) := rfl
      have hh3' : Has w3 (pairsS v (Nd.pairs ⟨lv, ks, vs⟩) :: packS p [lv, (ks.length : Int)] :: pts bx (.cells #[.int .i64 lv, .slice ak ks.length ck, .slice av vs.length cv] 35 (0, 0)) :: l) := hh3
      generalize Nd.pairs ⟨lv, ks, vs⟩ = ps at *
      obtain ⟨a3, c3, rfl, _, _⟩ := hh3'.pairs_read (.head _)
      have H3 : Hid (NBMid w p lv ks.length (.slice a3 ps.length c3) ps (pts bx (.cells #[.int .i64 lv, .slice ak ks.length ck, .slice av vs.length cv] 35 (0, 0)) :: l) 0 w3) := ⟨HK2.out.trans hK3, by simpa using hh3'.swap⟩
      have HBd := Lib.hid hbd
      have hps : ps.length ≤ 7 := by omega
      have HPL := Lib.hid hpl
      clear hK3 hh3 hh3' HPr HK2 hbd hpl c0 c1 c2 lb
      go_wp2
      go_loopg [24] ps.length (fun gk i wr => ∃ k : Nat, k ≤ ps.length ∧ gk = ps.length - k ∧ i = .int .i64 k ∧ Hid (NBMid w p lv ks.length (.slice a3 ps.length c3) ps (pts bx (.cells #[.int .i64 lv, .slice ak ks.length ck, .slice av vs.length cv] 35 (0, 0)) :: l) k wr))
      case atStart => exact ⟨0, Nat.zero_le _, rfl, rfl, H3⟩
      case round =>
        clear H3
        obtain ⟨k, hkk, rfl, rfl, HM⟩ := hrel
        by_cases hlt : k < ps.length
        · obtain ⟨hK4, hh4⟩ := HM.out
          obtain ⟨a5, c5, e5, _, hr5⟩ := hh4.pairs_read (.tail _ (.head _))
          cases e5
          obtain ⟨g, rfl, x1, x2⟩ := hr5 k ps[k] (List.getElem?_eq_getElem hlt)
          have hbq := HBd.out k ps[k] (List.getElem?_eq_getElem hlt)
          have hk1 : (k : Int) < (ps.length : Int) := by omega
          have hk0 : (0 : Int) ≤ k := by omega
          have HNx := Lib.hid (flat_next ps k hlt)
          generalize ps[k] = q at *
          obtain ⟨qa, qb⟩ := q
          simp only at x1 x2 hbq
          have l1 := World.block_lt_of_cell? _ _ x1
          have HLg := Lib.hid (long_new (hh4.alloc_off (.cells #[.int .i64 qa, .int .i64 qb] 87)) (qa := qa) (qb := qb) hbq (by rw [List.length_append, flatP_len, List.length_take, Nat.min_eq_left hkk]; simp; omega))
          simp only [World.size_alloc] at HLg
          have HK4 : Hid (Kept w ((wr.alloc (.cells #[.int .i64 qa, .int .i64 qb] 87)).alloc (.cells #[.int .i64 qa, .int .i64 qb] 3))) := (hK4.alloc _).alloc _
          clear hK4 hh4 hr5 hbq HM
          go_wp2_with fail
          refine HLg.out.mono ?_
          rintro r w5 ⟨rfl, hK5, hh5⟩
          have HK5 := Lib.hid (HK4.out.trans hK5)
          have HH5 := Lib.hid ((hh5.pull 1).tail)
          clear hK5 hh5 HLg HK4
          go_wp2
          go_roundg (ps.length - (k + 1))
          case measure => omega
          case rel =>
            refine ⟨k + 1, by omega, rfl, by simp, HK5.out, ?_⟩
            rw [HNx.out, ← List.append_assoc]
            exact HH5.out
        · obtain rfl : k = ps.length := by omega
          obtain ⟨hK4, hh4⟩ := HM.out
          rw [List.take_length, ← hEnd.out] at hh4
          have hnl : (nodeBytes ⟨lv, ks, vs⟩).length = 2 + 16 * ps.length := by rw [hEnd.out, List.length_append, flatP_len]; simp
          have HPB := Lib.hid (pack_Bytes hh4 (by omega) (by omega))
          have HK4 := Lib.hid hK4
          have HNL := Lib.hid hnl
          clear hK4 hh4 hnl HM
          go_wp2_with fail
          refine HPB.out.mono ?_
          rintro r w5 ⟨v5, rfl, hK5, hh5⟩
          have HPt := Lib.hid (frame_Put hh5 (v := v5) (.head _) (by rw [HNL.out]; omega) (by rw [HNL.out]; omega) 2)
          have HK5 := Lib.hid (HK4.out.trans hK5)
          clear hK5 hh5 HPB HK4
          go_wp2_with fail
          refine HPt.out.mono ?_
          rintro r w6 ⟨v6, rfl, hK6, hh6⟩
          have HF : Hid (Kept w w6 ∧ Has w6 (bytesS v6 (frameOf 2 (nodeBytes ⟨lv, ks, vs⟩)) :: l)) := ⟨HK5.out.trans hK6, ((((hh6.pull 1).tail.pull 1).tail.pull 1).tail.pull 1).tail⟩
          clear hK6 hh6 HPt HK5
          go_wp2
          go_ret2
          exact .inr ⟨Hok.out, v6, rfl, HF.out.1, HF.out.2⟩
end Go.Proofs.YtgbgneiciabidaaGreatDoor
