/-
  Nodes (layer 10), the second part: whether they are right.
-/
import Derived.Test.YtgbgneiciabidaaGreatDoorNode
import Derived.BigQuiet
namespace Go.Proofs.YtgbgneiciabidaaGreatDoor
open Go Go.RowKit
set_option linter.unusedVariables false
set_option linter.unusedSimpArgs false

/-- The worlds that are W with something new beside it: the class in which a region is walked whose callees make memory that nobody keeps. -/
structure Garb (W : World) where
  w : World
  below : Below W.heap.size W w
instance (W : World) : Nonempty (Garb W) := ⟨⟨W, Below.refl _ _⟩⟩
theorem wp_region_garb {P : Program} {id : Nat} {Q : Exit → Act → World → Prop} {a : Act} {W : World} {l : List Oper} (hm : P.follows .mixedOrders = true) (hB : Region.lexB .any l.toArray = true)
    (h : wpQuiet P l.toArray (fun w' => ∃ n : Garb W, w' = n.w) (fun a' => ∀ w', (∃ n : Garb W, w' = n.w) → Q .normal a' w') l a) : (Code.region id l.toArray true).wp P Q a W :=
  wp_region_quiet (C := fun w' => ∃ n : Garb W, w' = n.w) hm hB ⟨⟨W.drew, (Below.refl _ _).drew⟩, rfl⟩ (by simpa using h)
theorem garb_call {P : Program} {f : FuncId} {args : Array Value} {W : World} {n : Garb W} {v : Value} (h : Calls P f args n.w fun e w' => e = .returned v ∧ Below n.w.heap.size n.w w') :
    Calls P f args n.w fun e w'' => e = .returned v ∧ ∃ m : Garb W, w'' = m.w :=
  h.mono fun _ w' ⟨he, hb⟩ => ⟨he, ⟨w', n.below.trans (hb.mono n.below.size)⟩, rfl⟩

/-- The k-th pair is right, and stands behind the one ahead of it. -/
def ordAt (ps : List (Int × Int)) (k : Nat) : Bool :=
  match ps[k]? with
  | none => true
  | some p => pairOk p.1 p.2 && (k == 0 || match ps[k - 1]? with | none => true | some q => decide (q.1 < p.1))
def ordTo (ps : List (Int × Int)) : Nat → Bool
  | 0 => true
  | k + 1 => ordTo ps k && ordAt ps k
theorem ordTo_false (ps : List (Int × Int)) (k : Nat) (h : ordAt ps k = false) : ∀ n, k < n → ordTo ps n = false
  | 0, hn => by omega
  | n + 1, hn => by
    rw [ordTo]
    by_cases e : k = n
    · subst e; simp [h]
    · simp [ordTo_false ps k h n (by omega)]

theorem bcell1 {w W : World} (hb : Below W.heap.size W w) {b o : Nat} {v : Value} (h : W.cell? ⟨b, o, none⟩ = some v) : w.cell? ⟨b, o, none⟩ = some v := by
  rw [(bcell hb).1 _ _ (World.block_lt_of_cell? _ _ h)]; exact h
theorem Has.pairs_read {w : World} {l : List Say} {v : Value} {ps : List (Int × Int)} (h : Has w l) (hm : pairsS v ps ∈ l) :
    ∃ a c, v = .slice a ps.length c ∧ ps.length ≤ c ∧ ∀ k p, ps[k]? = some p → ∃ g, a = some ⟨g, 0, none⟩ ∧ w.cell? ⟨g, k * 2, none⟩ = some (.int .i64 p.1) ∧ w.cell? ⟨g, k * 2 + 1, none⟩ = some (.int .i64 p.2) := by
  obtain ⟨h1, h2⟩ := h.row_own hm
  rcases h2 with ⟨rfl, h0⟩ | ⟨g, cap, cur, rfl, _, hg, hn, hc, hs, ht⟩
  · refine ⟨none, 0, by rw [h0], by omega, fun k p hp => ?_⟩
    have := (List.getElem?_eq_some_iff.1 hp).1
    omega
  · refine ⟨_, cap, rfl, hn, fun k p hp => ⟨g, rfl, ?_⟩⟩
    have hx : ∀ (ps : List (Int × Int)) (k : Nat) (p : Int × Int), ps[k]? = some p → (ps.flatMap pairCells)[k * 2]? = some (.int .i64 p.1) ∧ (ps.flatMap pairCells)[k * 2 + 1]? = some (.int .i64 p.2) := by
      intro ps
      induction ps with
      | nil => intro k p hp; simp at hp
      | cons q ps ih =>
        intro k p hp
        cases k with
        | zero => simp at hp; subst hp; simp [pairCells]
        | succ k =>
          have := ih k p (by simpa using hp)
          have e : (q :: ps).flatMap pairCells = [.int .i64 q.1, .int .i64 q.2] ++ ps.flatMap pairCells := rfl
          rw [e]
          constructor
          · rw [List.getElem?_append_right (by simp; omega)]; simpa [show (k + 1) * 2 - 2 = k * 2 by omega] using this.1
          · rw [List.getElem?_append_right (by simp; omega)]; simpa [show (k + 1) * 2 + 1 - 2 = k * 2 + 1 by omega] using this.2
    obtain ⟨e1, e2⟩ := hx ps k p hp
    have take : ∀ (j : Nat) (u : Value), (ps.flatMap pairCells)[j]? = some u → cur[j]? = some u := by
      intro j u hu
      rw [← ht, List.getElem?_take] at hu
      split at hu
      · simpa using hu
      · cases hu
    exact ⟨cell_of hg _ (take _ _ e1), cell_of hg _ (take _ _ e2)⟩

set_option maxRecDepth 100000 in
theorem node_ordered {w : World} {l : List Say} {v : Value} {ps : List (Int × Int)} (h : Has w l) (hm : pairsS v ps ∈ l) (hlen : ps.length ≤ 100) :
    Calls Tryz.prog 161 #[v] w fun r w' => r = .returned (.bool (ordTo ps ps.length)) ∧ Below w.heap.size w w' := by
  obtain ⟨a, c, rfl, _, hr⟩ := h.pairs_read hm
  have HR := Lib.hid hr
  clear h hm hr
  go_enter Tryz.func161, Tryz.ntmps161
  go_wp2
  go_loopg [7] ps.length (fun gk i wr => ∃ k : Nat, k ≤ ps.length ∧ gk = ps.length - k ∧ i = .int .i64 k ∧ ordTo ps k = true ∧ Hid (Below w.heap.size w wr))
  case atStart => exact ⟨0, Nat.zero_le _, rfl, rfl, rfl, Below.refl _ _⟩
  case round =>
    obtain ⟨k, hk, rfl, rfl, ho, HB⟩ := hrel
    by_cases hlt : k < ps.length
    · obtain ⟨g, rfl, h1, h2⟩ := HR.out k ps[k] (List.getElem?_eq_getElem hlt)
      have hk1 : (k : Int) < (ps.length : Int) := by omega
      have hk0 : (0 : Int) ≤ k := by omega
      have b1 := bcell1 HB.out h1
      have b2 := bcell1 HB.out h2
      have HO := Lib.hid ho
      generalize hp : ps[k] = p at *
      obtain ⟨pa, pb⟩ := p
      simp only at h1 h2 b1 b2
      have l1 := World.block_lt_of_cell? _ _ b1
      clear h1 h2 ho
      have HN : Hid (Below w.heap.size w (wr.alloc (.cells #[.int .i64 pa, .int .i64 pb] 87))) := HB.out.alloc HB.out.size _
      have HP := Lib.hid hp
      have x0 : (wr.alloc (.cells #[.int .i64 pa, .int .i64 pb] 87)).cell? ⟨wr.heap.size, 0, none⟩ = some (.int .i64 pa) := World.cell?_alloc_new _ _ _ 0
      have x1 : (wr.alloc (.cells #[.int .i64 pa, .int .i64 pb] 87)).cell? ⟨wr.heap.size, 1, none⟩ = some (.int .i64 pb) := World.cell?_alloc_new _ _ _ 1
      clear hp HB
      go_upto_region 4 with fail
      generalize wr.alloc (.cells #[.int .i64 pa, .int .i64 pb] 87) = W at *
      generalize wr.heap.size = b4 at *
      clear b1 b2 l1
      have l1 := World.block_lt_of_cell? _ _ x0
      have y0 : ∀ n : Garb W, n.w.cell? ⟨b4, 0, none⟩ = some (.int .i64 pa) := fun n => bcell1 n.below x0
      have y1 : ∀ n : Garb W, n.w.cell? ⟨b4, 1, none⟩ = some (.int .i64 pb) := fun n => bcell1 n.below x1
      have hkl := Lib.hid hlt
      have HRt : Hid (∀ n : Garb W, Calls Tryz.prog 164 #[.agg #[.int .i64 pa, .int .i64 pb]] n.w fun e w'' => e = .returned (.bool (pairOk pa pb)) ∧ ∃ m : Garb W, w'' = m.w) := fun n => garb_call (pair_right (w := n.w) pa pb)
      cases hpk : pairOk pa pb with
      | false =>
        rw [hpk] at HRt
        have HPK := Lib.hid hpk
        clear hpk
        refine wp_region_garb (W := W) (by kernel_rfl) (by kernel_rfl) ?_
        repeat (go_big_quiet_step ((go_at_call 164; exact HRt.out _)))
        refine wpQuiet_nil ?_
        rintro _ ⟨n, rfl⟩
        go_wp2
        go_ret
        refine ⟨?_, HN.out.trans (n.below.mono HN.out.size)⟩
        rw [ordTo_false ps k _ ps.length hlt]
        · rfl
        · rw [ordAt, List.getElem?_eq_getElem hlt, HP.out]; simp [HPK.out]
      | true =>
        rw [hpk] at HRt
        have HPK := Lib.hid hpk
        clear hpk
        by_cases h0 : k = 0
        · subst h0
          have hd0 : decide ((0 : Int) < ((0 : Nat) : Int)) = false := rfl
          have HA : Hid (ordTo ps (0 + 1) = true) := by show _ = _; rw [ordTo, HO.out, ordAt, List.getElem?_eq_getElem hlt, HP.out]; simp [HPK.out]
          refine wp_region_garb (W := W) (by kernel_rfl) (by kernel_rfl) ?_
          repeat (go_big_quiet_step ((go_at_call 164; exact HRt.out _)))
          refine wpQuiet_nil ?_
          rintro _ ⟨n, rfl⟩
          go_wp2
          go_roundg (ps.length - (0 + 1))
          case measure => omega
          case rel => exact ⟨0 + 1, by omega, rfl, by simp, HA.out, HN.out.trans (n.below.mono HN.out.size)⟩
        · obtain ⟨m, hm⟩ : ∃ m, k = m + 1 := ⟨k - 1, by omega⟩
          have hmlt : m < ps.length := by omega
          have hd0 : 0 < k := by omega
          have hsub : (k : Int) - 1 = (m : Int) := by omega
          have hsub2 : IntKind.i64.wrap ((k : Int) - 1) = (m : Int) := by rw [IntKind.wrap_i64]; omega
          have hm1 : (m : Int) < (ps.length : Int) := by omega
          have hm0 : (0 : Int) ≤ (m : Int) := by omega
          have HQ := Lib.hid (List.getElem?_eq_getElem hmlt)
          obtain ⟨g', hg', q1, _⟩ := HR.out m ps[m] (List.getElem?_eq_getElem hmlt)
          cases hg'
          generalize ps[m] = q at *
          have z0 : ∀ n : Garb W, n.w.cell? ⟨g, m * 2, none⟩ = some (.int .i64 q.1) := fun n => bcell1 (HN.out.trans (n.below.mono HN.out.size)) q1
          have Hm := Lib.hid hm
          clear q1 hm h0
          have HAt : Hid (ordAt ps k = decide (q.1 < pa)) := by
            show _ = _
            have e := Hm.out
            rw [ordAt, List.getElem?_eq_getElem hlt, HP.out]
            have e2 : k - 1 = m := by omega
            have e3 : (k == 0) = false := by simp; omega
            simp only [e2, HQ.out, e3, HPK.out, Bool.true_and, Bool.false_or]
          have Hhlt := Lib.hid hlt
          by_cases hc : q.1 < pa
          · have hcb : decide (pa ≤ q.1) = false := by simp; omega
            have HA : Hid (ordTo ps (k + 1) = true) := by show _ = _; rw [ordTo, HO.out, HAt.out]; simp [hc]
            refine wp_region_garb (W := W) (by kernel_rfl) (by kernel_rfl) ?_
            repeat (go_big_quiet_step ((go_at_call 164; exact HRt.out _)))
            refine wpQuiet_nil ?_
            rintro _ ⟨n, rfl⟩
            go_wp2
            go_roundg (ps.length - (k + 1))
            case measure => omega
            case rel => exact ⟨k + 1, by omega, rfl, by simp, HA.out, HN.out.trans (n.below.mono HN.out.size)⟩
          · have hcb : pa ≤ q.1 := by omega
            have HA : Hid (ordTo ps ps.length = false) := ordTo_false ps k (by rw [HAt.out]; simp; omega) ps.length hlt
            refine wp_region_garb (W := W) (by kernel_rfl) (by kernel_rfl) ?_
            repeat (go_big_quiet_step ((go_at_call 164; exact HRt.out _)))
            refine wpQuiet_nil ?_
            rintro _ ⟨n, rfl⟩
            go_wp2
            go_ret
            exact ⟨by rw [HA.out]; rfl, HN.out.trans (n.below.mono HN.out.size)⟩
    · obtain rfl : k = ps.length := by omega
      have HO := Lib.hid ho
      clear ho
      go_wp2
      go_ret
      exact ⟨by rw [HO.out]; rfl, HB.out⟩
end Go.Proofs.YtgbgneiciabidaaGreatDoor
