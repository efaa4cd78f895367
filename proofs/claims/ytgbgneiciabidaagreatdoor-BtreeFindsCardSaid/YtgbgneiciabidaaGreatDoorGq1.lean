/-
  slices.Sorted(maps.Keys(m)) at the map of pages.
-/
import Derived.Test.YtgbgneiciabidaaGreatDoorGo1
import Derived.Test.YtgbgneiciabidaaGreatDoorGo2
import Derived.Test.YtgbgneiciabidaaGreatDoorGo3
import Derived.Test.YtgbgneiciabidaaGreatDoorGo4
import Derived.Test.YtgbgneiciabidaaGreatDoorGo5
import Derived.Test.YtgbgneiciabidaaGreatDoorGo6
import Derived.Test.YtgbgneiciabidaaGreatDoorGo7
import Derived.Test.YtgbgneiciabidaaGreatDoorGo8
import Derived.Test.YtgbgneiciabidaaGreatDoorGo9
import Derived.Test.YtgbgneiciabidaaGreatDoorGo10
import Derived.Test.YtgbgneiciabidaaGreatDoorGo11
import Derived.Test.YtgbgneiciabidaaGreatDoorGo12
import Derived.Test.YtgbgneiciabidaaGreatDoorGo13
import Derived.Test.YtgbgneiciabidaaGreatDoorGo14
import Derived.Test.YtgbgneiciabidaaGreatDoorGo15
import Derived.Test.YtgbgneiciabidaaGreatDoorGo16
import Derived.Test.YtgbgneiciabidaaGreatDoorGo17
import Derived.Test.YtgbgneiciabidaaGreatDoorGo18
import Derived.Test.YtgbgneiciabidaaGreatDoorGo19
import Derived.Test.YtgbgneiciabidaaGreatDoorGo20
import Derived.Test.YtgbgneiciabidaaGreatDoorGo21
import Derived.Test.YtgbgneiciabidaaGreatDoorGo22
import Derived.Test.YtgbgneiciabidaaGreatDoorGo23
import Derived.Test.YtgbgneiciabidaaGreatDoorGo24
import Derived.Test.YtgbgneiciabidaaGreatDoorGo25
import Derived.Test.YtgbgneiciabidaaGreatDoorGo26
import Derived.Test.YtgbgneiciabidaaGreatDoorGo27
import Derived.Test.YtgbgneiciabidaaGreatDoorGo28
import Derived.Test.YtgbgneiciabidaaGreatDoorGo29
import Derived.Test.YtgbgneiciabidaaGreatDoorGo30
import Derived.Test.YtgbgneiciabidaaGreatDoorGo31
import Derived.Test.YtgbgneiciabidaaGreatDoorGo32
import Derived.Test.YtgbgneiciabidaaGreatDoorGo33
import Derived.Test.YtgbgneiciabidaaGreatDoorGo34
import Derived.Test.YtgbgneiciabidaaGreatDoorGo35
import Derived.Test.YtgbgneiciabidaaGreatDoorGo36
import Derived.Test.YtgbgneiciabidaaGreatDoorGo37
import Derived.Test.YtgbgneiciabidaaGreatDoorGo38
import Derived.Test.YtgbgneiciabidaaGreatDoorGo39
import Derived.Test.YtgbgneiciabidaaGreatDoorGo40
import Derived.Test.YtgbgneiciabidaaGreatDoorGo41
import Derived.Test.YtgbgneiciabidaaGreatDoorGo42
import Derived.Test.YtgbgneiciabidaaGreatDoorGo43
import Derived.Test.YtgbgneiciabidaaGreatDoorGo44
import Derived.Test.YtgbgneiciabidaaGreatDoorGo45
import Derived.Test.YtgbgneiciabidaaGreatDoorGo46
import Derived.Test.YtgbgneiciabidaaGreatDoorGp1
import Derived.Test.YtgbgneiciabidaaGreatDoorGp2
import Derived.Test.YtgbgneiciabidaaGreatDoorGp3
import Derived.Test.YtgbgneiciabidaaGreatDoorGp4
namespace Go.Proofs
open Go.RowKit Go.Maps Go.Sort Go.Shelf
set_option linter.all false

/-- slices.Sort's two contracts at this dump, at the fence that asks nothing. -/
theorem Tryz.sortsA (m : Nat) : AnyZI.SortsIn Tryz.prog Tryz.sortedA_ren Fence.wide m :=
  ⟨fun blk off cap ss W hH hblk hsz => callsIn_wide.2 (AnyM.slices_Sort_int Tryz.sortA blk off cap ss W hH hblk hsz),
   fun p cap W => callsIn_wide.2 (AnyM.slices_Sort_int_none Tryz.sortA p cap W)⟩

theorem Tryz.keys_call (mb : Option Nat) (W : World) : Calls Tryz.prog 89 #[.map mb] W fun e w' => e = .returned (.func (.func 154) #[] #[.pointer (some ⟨W.heap.size, 0, none⟩)]) ∧ w' = W.alloc (.cells #[.map mb] 145) :=
  (callsIn_wide (n := 5)).1 (AnyZI.keys_in Tryz.keysA Fence.wide 5 trivial rfl mb W)

def Tryz.SortedPost {H : Type} (D0 : DataW H) (W : World) (e : Ending) (w' : World) : Prop :=
  ∃ (v : Value) (ss : List Int), e = .returned v ∧ ss.Perm (intKeys D0) ∧ w'.ownsRow W.heap.size 3 1 v ss.length ((ss.mergeSort (fun x y => decide (x ≤ y))).map encZ) ∧ Below W.heap.size W w'

set_option maxHeartbeats 1000000 in
theorem Tryz.sorted_call {H : Type} (b nn : Nat) (D0 : DataW H) (R : Value → Option (DataW H × List MemPlace)) (w : World) (hown : w.ownsMap Tryz.prog 3 R b nn D0) (hmax : Maps.size D0 ≤ maxLen) (hbytes : Maps.size D0 * 8 ≤ 140737488355328) :
    Calls Tryz.prog 88 #[.func (.func 154) #[] #[.pointer (some ⟨w.heap.size, 0, none⟩)]] (w.alloc (.cells #[.map (some b)] 145)) (Tryz.SortedPost D0 (w.alloc (.cells #[.map (some b)] 145))) := by
  have hbl := hown.lt
  have hseq : SeqGives Fence.wide 2 Tryz.prog 154 #[.pointer (some ⟨w.heap.size, 0, none⟩)] encZ (fun ss => ss.Perm (intKeys D0)) (Maps.size D0) (w.alloc (.cells #[.map (some b)] 145)) :=
    AnyZI.keys_gives (ρ := Tryz.keysA_ren) { Tryz.keysA with } Fence.wide _ trivial rfl (by omega) w.heap.size b nn D0 _ (by simp) (by simp) (by
      obtain ⟨es, clock, hb, Ft, hs, hD⟩ := hown
      exact ⟨es, clock, (Below.heap_alloc _ _ b hbl).trans hb, Ft, hs, hD⟩)
  refine (callsIn_wide (n := 5)).1 ?_
  have cS := AnyZI.sorted_in Tryz.sortedA Fence.wide 5 trivial trivial trivial trivial rfl (by omega) (Tryz.sortsA _) (enters_of Tryz.func153 (by kernel_rfl) rfl) 154 #[.pointer (some ⟨w.heap.size, 0, none⟩)] trivial (enters_of Tryz.func154 (by kernel_rfl) rfl) _ _ hmax hbytes _ hseq
  refine cS.mono ?_
  rintro e w' ⟨v, ss, rfl, hS, hrow, hnil, hb⟩
  exact ⟨v, ss, rfl, hS, hrow, hb⟩
end Go.Proofs
/-
  Pages (layer 11), the second part: the store; New, kids, Pages.
-/
namespace Go.Proofs.YtgbgneiciabidaaGreatDoor
open Go Go.RowKit
set_option linter.all false

/-- A new row beside what was there. -/
theorem Has.fresh_row {w w' : World} {l : List Say} (h : Has w l) (hb : Below w.heap.size w w') {e : TypeId} {size : Nat} {v : Value} {n : Nat} {xs : List Value} (ho : w'.ownsRow w.heap.size e size v n xs) : Has w' (rowS e size v n xs :: l) := by
  have hl3 : Has w' l := h.below hb
  rcases ho.2 with ⟨rfl, hn⟩ | ⟨g, cap, cur, rfl, hbg, hgg, r⟩
  · exact ⟨fun _ => none, fun k => w'.heap[k]?, ⟨ho.1, .inl ⟨rfl, hn⟩⟩, hl3, by simp, by simp⟩
  · have h4 : Sep (fun k => if k < w.heap.size then w.heap[k]? else none) l := Sep.up h fun k hk => by
      rcases Nat.lt_or_ge k w.heap.size with hlt | hge
      · simp [hlt]
      · exact absurd (Array.getElem?_eq_none hge) hk
    refine ⟨fun k => if k = g then w'.heap[g]? else none, _, ⟨ho.1, .inr ⟨g, cap, cur, rfl, by simp [hgg], r⟩⟩, h4, fun k hk => ?_, fun k hk => ?_⟩
    · by_cases e1 : k = g
      · subst e1; exact ⟨by simp, by simp; omega⟩
      · simp [e1] at hk
    · by_cases hlt : k < w.heap.size
      · simp only [hlt, if_true]; exact hb.block k hlt
      · simp [hlt] at hk

theorem sorted_unique : ∀ {a b : List Int}, a.Perm b → a.Pairwise (· ≤ ·) → b.Pairwise (· ≤ ·) → a = b
  | [], b, hp, _, _ => (List.nil_perm.1 hp).symm
  | x :: a, [], hp, _, _ => by simp at hp
  | x :: a, y :: b, hp, ha, hb => by
    obtain ⟨a1, a2⟩ := List.pairwise_cons.1 ha
    obtain ⟨b1, b2⟩ := List.pairwise_cons.1 hb
    have hx : x ∈ y :: b := hp.mem_iff.1 (by simp)
    have hy : y ∈ x :: a := hp.mem_iff.2 (by simp)
    have e : x = y := by
      rcases List.mem_cons.1 hx with h | h
      · exact h
      · rcases List.mem_cons.1 hy with h' | h'
        · exact h'.symm
        · have := b1 x h; have := a1 y h'; omega
    subst e
    rw [sorted_unique (List.Perm.cons_inv hp) a2 b2]
theorem sorted_is {ss ks : List Int} (hp : ss.Perm ks) (hk : ks.Pairwise (· < ·)) : ss.mergeSort (fun x y => decide (x ≤ y)) = ks := by
  refine sorted_unique ((List.mergeSort_perm ss _).trans hp) ?_ (hk.imp fun h => Int.le_of_lt h)
  have := List.pairwise_mergeSort (le := fun x y : Int => decide (x ≤ y)) (by intro a b c; simp; omega) (by intro a b; simp; omega) ss
  exact this.imp fun h => by simpa using h

def PagesPost (Q : Pgs) (l : List Say) (w : World) (r : Ending) (w' : World) : Prop := ∃ v, r = .returned v ∧ Kept w w' ∧ Has w' (intsS v (Q.map (·.1)) :: l)
theorem st_Pages {w : World} {l : List Say} {p bank sp n : Nat} {Q : Pgs} (h : Has w (storeS p bank sp n Q :: l)) (hn : Q.length ≤ 100000) :
    Calls Tryz.prog 25 #[.pointer (some ⟨p, 0, none⟩)] w (PagesPost Q (storeS p bank sp n Q :: l) w) := by
  obtain ⟨x, ok, hh⟩ := h.st_open
  have hp : w.heap[p]? = some (.cells #[.pointer (some ⟨bank, 0, none⟩), .pointer (some ⟨sp, 0, none⟩), .map (some x.mb), .map none] 147 (0, 0)) := hh.got
  have c2 : w.cell? ⟨p, 2, none⟩ = some (.map (some x.mb)) := cell_of hp 2 rfl
  have l0 := World.block_lt_of_cell? _ _ c2
  have hown := hh.map_own (b := x.mb) (n := n) (M := VMap.over Sl.val x.T) (by simp [storeFlat])
  have hkeys : intKeys (DataW.map ((VMap.over Sl.val x.T).map litE)) = Q.map (·.1) := by
    rw [← ok.eq]
    simp [intKeys, VMap.over, litE, List.map_map, Function.comp]
    intros; rfl
  have hsz : Maps.size (DataW.map ((VMap.over Sl.val x.T).map litE)) ≤ 100000 := by
    have e : Maps.size (DataW.map ((VMap.over Sl.val x.T).map litE)) = Q.length := by rw [← ok.eq]; simp [Maps.size, VMap.over]
    rw [e]; exact hn
  have HS := Lib.hid (Tryz.sorted_call x.mb n _ heldR w hown (by simp [maxLen]; omega) (by omega))
  have hup : (Q.map (·.1)).Pairwise (· < ·) := by
    rw [← ok.eq]
    simp only [VMap.over, List.map_map]
    exact List.pairwise_map.2 ok.up
  have HU : Hid ((∀ ss : List Int, ss.Perm (intKeys (DataW.map ((VMap.over Sl.val x.T).map litE))) → ss.mergeSort (fun x y => decide (x ≤ y)) = Q.map (·.1)) ∧ ∀ ss : List Int, ss.Perm (intKeys (DataW.map ((VMap.over Sl.val x.T).map litE))) → ss.length = (Q.map (·.1)).length) :=
    ⟨fun ss hs => sorted_is (hkeys ▸ hs) hup, fun ss hs => by rw [← hkeys]; exact hs.length_eq⟩
  have H0 := Lib.hid h
  clear h hh hp hown hkeys hsz hup hn ok
  go_enter Tryz.func25, Tryz.ntmps25
  go_wp2_with fail
  refine (Tryz.keys_call _ _).mono ?_
  rintro r w1 ⟨rfl, rfl⟩
  go_wp2_with fail
  refine HS.out.mono ?_
  rintro r w2 ⟨v, ss, rfl, hs, hrow, hb⟩
  have HF : Hid (Kept w w2 ∧ Has w2 (intsS v (Q.map (·.1)) :: storeS p bank sp n Q :: l)) := by
    refine ⟨((Kept.refl w).alloc _).trans (Kept.below hb), ?_⟩
    rw [HU.out.1 ss hs, HU.out.2 ss hs] at hrow
    exact (H0.out.alloc_off _).fresh_row hb hrow
  clear hrow hb hs HS H0 HU
  go_wp2
  go_ret
  exact ⟨_, rfl, HF.out.1, HF.out.2⟩
end Go.Proofs.YtgbgneiciabidaaGreatDoor
/-
  BtreePages: the walk.
-/
namespace Go.Proofs.YtgbgneiciabidaaGreatDoor
open Go Go.RowKit
set_option linter.all false

theorem ScrM.hasl {w wr : World} {l : List Say} {t sp p bank k : Nat} (h : ScrM w l t sp p bank k wr) : Has wr l := by
  obtain ⟨Q, ts, vs, rs, hT, h4, hb, hK, hh⟩ := h
  exact Has.right (m := rs.map kvR) hh.tail.tail
end Go.Proofs.YtgbgneiciabidaaGreatDoor
/-
  The statements of layer 12: pairs that are told, and the document's.
-/
namespace Go.Proofs.YtgbgneiciabidaaGreatDoor
open Go Go.RowKit
set_option linter.all false

def PrM (w : World) (l : List Say) (ps qs : List KV) (k : Nat) (wr : World) : Prop := Kept w wr ∧ Has wr l ∧ ps.take k = qs.take k
set_option maxHeartbeats 4000000 in
set_option maxRecDepth 100000 in
theorem law_pairs {w : World} {l : List Say} {v1 v2 : Value} {ps qs : List KV} (h : Has w l) (h1 : pairsS v1 ps ∈ l) (h2 : kvS v2 qs ∈ l) (hp : ps.length ≤ 100000) :
    Calls Tryz.prog 50 #[v1, v2] w (EqPost ps qs l w) := by
  obtain ⟨a1, q1, rfl, _, _⟩ := h.pairs_read h1
  obtain ⟨a2, q2, rfl, _⟩ := h.kv_read h2
  by_cases hl : ps.length = qs.length
  · obtain ⟨n, hn⟩ : ∃ n, ps.length = n := ⟨_, rfl⟩
    rw [← hl] at h2 ⊢
    rw [hn] at h1 h2 hp hl ⊢
    have HM0 : Hid (PrM w l ps qs 0 w) := ⟨Kept.refl w, h, rfl⟩
    have HH := Lib.hid (And.intro h1 (And.intro h2 (And.intro hn hl.symm)))
    clear h h1 h2 hn hl
    go_enter Tryz.func50, Tryz.ntmps50
    go_wp2
    go_loopg [13] n (fun gk i wr => ∃ k : Nat, k ≤ n ∧ gk = n - k ∧ i = .int .i64 k ∧ Hid (PrM w l ps qs k wr))
    case atStart => exact ⟨0, Nat.zero_le _, rfl, rfl, HM0⟩
    case round =>
      clear HM0
      obtain ⟨k, hk, rfl, rfl, HM⟩ := hrel
      obtain ⟨hK, hh, ht⟩ := HM.out
      clear HM
      obtain ⟨m1, m2, hn1, hn2⟩ := HH.out
      by_cases hlt : k < n
      · obtain ⟨b1, c1, e1, _, r1⟩ := hh.pairs_read m1
        injection e1 with e1 e1b e1c
        subst e1
        obtain ⟨b2, c2, e2, r2⟩ := hh.kv_read m2
        injection e2 with e2 e2b e2c
        subst e2
        obtain ⟨x, hx⟩ : ∃ x, ps[k]? = some x := ⟨_, List.getElem?_eq_getElem (by omega)⟩
        obtain ⟨y, hy⟩ : ∃ y, qs[k]? = some y := ⟨_, List.getElem?_eq_getElem (by omega)⟩
        obtain ⟨g1, rfl, x0, x1⟩ := r1 k x hx
        obtain ⟨g2, rfl, y0, y1⟩ := r2 k y hy
        obtain ⟨xk, xv⟩ := x
        obtain ⟨yk, yv⟩ := y
        simp only at x0 x1 y0 y1
        have lx := World.block_lt_of_cell? _ _ x0
        have ly := World.block_lt_of_cell? _ _ y0
        have kI : (k : Int) < (n : Int) := by omega
        have k0 : (0 : Int) ≤ k := by omega
        have Hx := Lib.hid (And.intro hx (And.intro hy ht))
        have HK := Lib.hid (And.intro hK hh)
        clear hK hh ht m1 m2 hn1 hn2 r1 r2 hx hy e1b e1c e2b e2c
        go_upto_region 6 with fail
        by_cases he : xk = yk
        · have hb1 : (xk == yk) = true := by simp [he]
          by_cases hf : xv = yv
          · have hb2 : (xv == yv) = true := by simp [hf]
            have hc2 : (xv != yv) = false := by simp [hf]
            go_quiet (fail)
            have HM2 : Hid (PrM w l ps qs (k + 1) (wr.drewN nq)) := by
              refine ⟨HK.out.1.drewN nq, HK.out.2.drewN nq, ?_⟩
              rw [(take_succ Hx.out.1).1, (take_succ Hx.out.2.1).1, Hx.out.2.2, he, hf]
            generalize wr.drewN nq = wn at *
            clear HK Hx x0 x1 y0 y1 lx ly he hf hb1 hb2
            go_wp2
            go_roundg (n - (k + 1))
            case measure => omega
            case rel => exact ⟨k + 1, by omega, rfl, by go_num, HM2⟩
          · have hb2 : (xv == yv) = false := by simp [hf]
            have hc2 : (xv != yv) = true := by simp [hf]
            go_quiet (fail)
            have HF : Hid (EqPost ps qs l w (.returned (.bool false)) (wr.drewN nq)) := by
              refine ⟨?_, HK.out.1.drewN nq, HK.out.2.drewN nq⟩
              rw [decide_eq_false]
              intro hpq
              have q1 := Hx.out.1
              rw [hpq, Hx.out.2.1] at q1
              have q2 := Option.some.inj q1
              injection q2 with q2 q3
              exact hf q3.symm
            generalize wr.drewN nq = wn at *
            clear HK Hx x0 x1 y0 y1 lx ly he hf hb1 hb2
            go_wp2
            go_ret
            exact HF.out
        · have hb1 : (xk == yk) = false := by simp [he]
          have hc1 : (xk != yk) = true := by simp [he]
          go_quiet (fail)
          have HF : Hid (EqPost ps qs l w (.returned (.bool false)) (wr.drewN nq)) := by
            refine ⟨?_, HK.out.1.drewN nq, HK.out.2.drewN nq⟩
            rw [decide_eq_false]
            intro hpq
            have q1 := Hx.out.1
            rw [hpq, Hx.out.2.1] at q1
            have q2 := Option.some.inj q1
            injection q2 with q2 q3
            exact he q2.symm
          generalize wr.drewN nq = wn at *
          clear HK Hx x0 x1 y0 y1 lx ly he hb1
          go_wp2
          go_ret
          exact HF.out
      · have hke : k = n := by omega
        have HF : Hid (EqPost ps qs l w (.returned (.bool true)) wr) := by
          refine ⟨?_, hK, hh⟩
          rw [List.take_of_length_le (by omega), List.take_of_length_le (by omega)] at ht
          rw [decide_eq_true ht]
        clear hK hh ht m1 m2 hn1 hn2 HH
        subst hke
        go_wp2
        go_ret
        exact HF.out
  · have HF : Hid (EqPost ps qs l w (.returned (.bool false)) w) := by
      refine ⟨?_, Kept.refl w, h⟩
      rw [decide_eq_false]
      intro hpq
      exact hl (by rw [hpq])
    have hlb : ((ps.length : Int) == (qs.length : Int)) = false := by simp; omega
    clear h h1 h2 hl hp
    go_enter Tryz.func50, Tryz.ntmps50
    go_wp2
    go_ret
    exact HF.out
end Go.Proofs.YtgbgneiciabidaaGreatDoor
