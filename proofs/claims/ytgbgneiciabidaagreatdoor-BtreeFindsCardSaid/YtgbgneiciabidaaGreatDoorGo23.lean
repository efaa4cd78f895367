/-
  Pages (layer 11), plain: addresses; what Put and gone leave fits.
-/
import Derived.Test.YtgbgneiciabidaaGreatDoorGo22
import Derived.Test.YtgbgneiciabidaaGreatDoorGo16
import Derived.Test.YtgbgneiciabidaaGreatDoorGo11
import Derived.Test.YtgbgneiciabidaaGreatDoorGo19
import Derived.Test.YtgbgneiciabidaaGreatDoorGo21
import Derived.Lib.Overlaps
namespace Go.Proofs.YtgbgneiciabidaaGreatDoor
open Go Go.RowKit
set_option linter.all false

theorem lenV_inj {d k d' k' : Nat} (hk : k < 4096) (hk' : k' < 4096) (h : lenV d k = lenV d' k') : d = d' ∧ k = k' := by
  unfold lenV at h
  omega
theorem get_some_of {Q : Pgs} {k : Int} : VMap.get k Q = none ↔ (VMap.get k Q).isSome = false := by
  cases VMap.get k Q <;> simp
theorem put1_some (Q : Pgs) (a : Int) (n : Nd) (k : Int) : (VMap.get k (put1 Q a n)).isSome = (decide (k = a) || (VMap.get k Q).isSome) := by
  unfold put1
  rw [bumpAll_some, get_put]
  by_cases h : k = a
  · simp [h]
  · simp [h]
theorem Fits.put {X : Spc} {disks : List Dsk} {Q : Pgs} (h : Fits X disks Q) {d k : Nat} {y : Shelf} {secs : Dsk} (ht : Takes X d k y) (hs : disks[d]? = some secs) (n : Nd) (b : List Int) : Fits (X.put d (y.took k)) (disks.set d (secs.set k b)) (put1 Q (lenV d k) n) := by
  have hd := (List.getElem?_eq_some_iff.1 ht.shelf).1
  have hd2 := (List.getElem?_eq_some_iff.1 hs).1
  have hk4 := h.big d y ht.shelf
  have hhi := ht.hi
  refine ⟨by simp [Spc.put, h.len], ?_, ?_, ?_⟩
  · intro d' y' secs' hy hs'
    by_cases e : d' = d
    · subst e
      simp only [Spc.put, List.getElem?_set_self hd, List.getElem?_set_self hd2, Option.some.injEq] at hy hs'
      subst hy hs'
      rw [List.length_set]
      exact h.size d' y secs ht.shelf hs
    · simp only [Spc.put, List.getElem?_set_ne (Ne.symm e)] at hy hs'
      exact h.size d' y' secs' hy hs'
  · intro d' k' y' hy hk' hb
    rw [get_some_of, put1_some]
    by_cases e : d' = d
    · subst e
      simp only [Spc.put, List.getElem?_set_self hd, Option.some.injEq] at hy
      subst hy
      have hk'' : k' < y.n := hk'
      simp only [Shelf.busy, Shelf.took, Bool.or_eq_false_iff, beq_eq_false_iff_ne] at hb
      have hne : lenV d' k' ≠ lenV d' k := fun he => hb.1.1 (lenV_inj (by omega) (by omega) he).2
      simp only [hne, decide_false, Bool.false_or]
      rw [← get_some_of]
      exact h.free d' k' y ht.shelf hk'' (by simp [Shelf.busy, hb.1.2, hb.2])
    · simp only [Spc.put, List.getElem?_set_ne (Ne.symm e)] at hy
      have hb4 := h.big d' y' hy
      have hne : lenV d' k' ≠ lenV d k := fun he => e (lenV_inj (by omega) (by omega) he).1
      simp only [hne, decide_false, Bool.false_or]
      rw [← get_some_of]
      exact h.free d' k' y' hy hk' hb
  · intro d' y' hy
    by_cases e : d' = d
    · subst e
      simp only [Spc.put, List.getElem?_set_self hd, Option.some.injEq] at hy
      subst hy
      exact hk4
    · simp only [Spc.put, List.getElem?_set_ne (Ne.symm e)] at hy
      exact h.big d' y' hy
theorem Fits.sub {X : Spc} {disks : List Dsk} {Q Q' : Pgs} (h : Fits X disks Q) (hs : ∀ k, (VMap.get k Q').isSome = true → (VMap.get k Q).isSome = true) : Fits X disks Q' := by
  refine ⟨h.len, h.size, fun d k y hy hk hb => ?_, h.big⟩
  have := h.free d k y hy hk hb
  cases hg : VMap.get (lenV d k) Q' with
  | none => rfl
  | some g => have := hs (lenV d k) (by rw [hg]; rfl); rw [h.free d k y hy hk hb] at this; cases this
end Go.Proofs.YtgbgneiciabidaaGreatDoor
/-
  Law 11: the world that is made.
-/
namespace Go.Proofs.YtgbgneiciabidaaGreatDoor
open Go Go.RowKit
set_option linter.all false

def eSizes (zs : List Int) : List Ent := zs.map fun n => ⟨1, n.toNat⟩
def dSizes (zs : List Int) : List Dsk := zs.map fun n => List.replicate n.toNat zeros
def ptrV (b : Nat) : Value := .pointer (some ⟨b, 0, none⟩)
theorem take_snoc1 {α : Type} (zs : List α) (k : Nat) (h : k < zs.length) : zs.take (k + 1) = zs.take k ++ [zs[k]] := by
  rw [List.take_succ_eq_append_getElem h]
end Go.Proofs.YtgbgneiciabidaaGreatDoor
/-
  Law 11: a node over some pages of a store (above2).
-/
namespace Go.Proofs.YtgbgneiciabidaaGreatDoor
open Go Go.RowKit
set_option linter.all false

theorem Has.ints_one {w : World} {l : List Say} (h : Has w l) (x : Int) : Has (w.alloc (.cells #[.int .i64 x] 3)) (intsS (.slice (some ⟨w.heap.size, 0, none⟩) 1 1) [x] :: l) :=
  (h.alloc (.cells #[.int .i64 x] 3)).row_of_pts (by simp) (Nat.le_refl _) (by simp [maxLen]) (by simp) (by simp [intVal])
theorem Has.ints_at {w : World} {l : List Say} {g n c k : Nat} {xs : List Int} {x : Int} (h : Has w l) (hm : intsS (.slice (some ⟨g, 0, none⟩) n c) xs ∈ l) (hx : xs[k]? = some x) : w.cell? ⟨g, k, none⟩ = some (.int .i64 x) := by
  obtain ⟨_, _, e, _, hr⟩ := h.ints_read hm
  injection e with e1
  subst e1
  have hk := (List.getElem?_eq_some_iff.1 hx).1
  obtain ⟨_, e2, hc, _⟩ := hr k hk
  injection e2 with e3
  injection e3 with e4
  subst e4
  rw [hc]
  rw [List.getElem?_eq_getElem hk] at hx
  rw [Option.some.inj hx]
theorem Has.pts_ne {w : World} {l : List Say} {a b : Nat} {x y : Obj} (h : Has w (pts a x :: l)) (hm : pts b y ∈ l) : a ≠ b := by
  obtain ⟨h1, h2, hA, hl, d1, d2⟩ := h
  obtain ⟨p, hp, hk⟩ := Sep.mem hm hl
  rintro rfl
  have hA' : h1 a = some x := hA
  have hp' : p a = some y := hp
  have e1 := (d1 a (by rw [hA']; simp)).2
  have e2 := hk a (by rw [hp']; simp)
  rw [e1, hp'] at e2
  cases e2
theorem get_at {α : Type} : ∀ {Q : List (Int × α)}, VMap.Up Q → ∀ (k : Nat) (hk : k < Q.length), VMap.get Q[k].1 Q = some Q[k].2
  | p :: Q, hu, 0, _ => by simp [VMap.get]
  | p :: Q, hu, k + 1, hk => by
    obtain ⟨h1, h2⟩ := List.pairwise_cons.1 hu
    have hm : Q[k]'(by simpa using hk) ∈ Q := List.getElem_mem _
    have hlt := h1 _ hm
    have ih := get_at h2 k (by simpa using hk)
    have hne : ¬ p.1 = (Q[k]'(by simpa using hk)).1 := by omega
    simp only [List.getElem_cons_succ]
    unfold VMap.get at ih ⊢
    rw [List.find?_cons]
    have : (p.1 == (Q[k]'(by simpa using hk)).1) = false := by simpa using hne
    rw [this]
    exact ih

end Go.Proofs.YtgbgneiciabidaaGreatDoor
/-
  Plain: slices.Insert at pairs, one of them.
-/
namespace Go.Proofs.YtgbgneiciabidaaGreatDoor
open Go Go.RowKit
set_option linter.all false

def insP (ps : List (Int × Int)) (i : Nat) (p : Int × Int) : List (Int × Int) := ps.take i ++ p :: ps.drop i
theorem insP_len (ps : List (Int × Int)) (i : Nat) (p : Int × Int) (hi : i ≤ ps.length) : (insP ps i p).length = ps.length + 1 := by
  unfold insP; rw [List.length_append, List.length_cons, List.length_take, List.length_drop]; omega
theorem insP_flat (ps : List (Int × Int)) (i : Nat) (p : Int × Int) : (insP ps i p).flatMap pairCells = (ps.flatMap pairCells).take (i * 2) ++ ([.int .i64 p.1, .int .i64 p.2] ++ (ps.flatMap pairCells).drop (i * 2)) := by
  unfold insP; rw [List.flatMap_append, List.flatMap_cons, flat_take, flat_drop]; rfl

set_option maxHeartbeats 4000000 in
set_option maxRecDepth 100000 in
/-- At the end. -/
theorem sl_Insert_end {w : World} {l : List Say} {v : Value} (ps : List (Int × Int)) (p : Int × Int) {bx : Nat} (h : Has w (pairsS v ps :: l)) (hm : pts bx (.cells #[.int .i64 p.1, .int .i64 p.2] 87 (0, 0)) ∈ l) (hl : ps.length ≤ 100) (h0 : 0 < ps.length) :
    Calls Tryz.prog 165 #[v, .int .i64 ps.length, .slice (some ⟨bx, 0, none⟩) 1 1] w (PairsPost (insP ps ps.length p) l w) := by
  obtain ⟨i0, I1, I2, I3, I4⟩ := info_parts info_pair
  obtain ⟨g, cap, cur, rfl, hnc, hcm, hcs, htk, hxl, hh⟩ := h.row_out (by omega)
  have hb := h.at (b := bx) (o := .cells #[.int .i64 p.1, .int .i64 p.2] 87 (0, 0)) (List.mem_cons_of_mem _ hm)
  have HC : Hid (∀ j u, [Value.int .i64 p.1, .int .i64 p.2][j]? = some u → w.cell? ((⟨bx, 0, none⟩ : Addr).add j) = some u) := fun j u hu => by
    rw [Addr.add_lit, Nat.zero_add]
    exact cell_of hb j (by simpa using hu)
  have HI : Hid (insP ps ps.length p = ps ++ [p] ∧ (insP ps ps.length p).length = ps.length + 1) := ⟨by unfold insP; simp, insP_len _ _ _ (Nat.le_refl _)⟩
  have H := Lib.hid h
  have cI : (ps.length : Int) ≤ (cap : Int) := by omega
  have cM : (cap : Int) ≤ 9223372036854775807 := by simp [maxLen] at hcm; omega
  have lI : (ps.length : Int) ≤ 100 := by omega
  clear h hh htk hcs hxl hb hm
  go_enter Tryz.func165, Tryz.ntmps165
  go_wp2_with (at_builtin; go_loud (refine wpList_append_row (l := l) rfl (.tmp 23) (.tmp 24) 75 rfl 87 i0 (.agg #[.int .i64 0, .int .i64 0]) 2 16 Tryz.underlying75 I1 I2 I3 I4 rfl (by decide) (.slice (some ⟨g, 0, none⟩) ps.length cap) ps.length (ps.flatMap pairCells) rfl H.out ⟨bx, 0, none⟩ 1 1 [.int .i64 p.1, .int .i64 p.2] rfl rfl HC.out (by intro u hu; simp at hu; rcases hu with rfl | rfl <;> rfl) (by simp [maxLen]; omega) (by omega) ?_); intro v' w' hK hh; have HK := Lib.hid hK; have HH := Lib.hid hh; clear hK hh)
  all_goals
    go_ret
    obtain ⟨e1, e2⟩ := HI.out
    refine ⟨_, rfl, HK.out, ?_⟩
    unfold pairsS
    rw [e2, e1, List.flatMap_append]
    exact HH.out

set_option maxHeartbeats 4000000 in
set_option maxRecDepth 100000 in
/-- In the midst, with room. -/
theorem sl_Insert_room {w : World} {l : List Say} (ps : List (Int × Int)) (p : Int × Int) {bx g cap : Nat} {cur : Array Value} (i : Nat) (hi : i < ps.length) (hl : ps.length ≤ 100) (hroom : ps.length + 1 ≤ cap) (hcm : cap ≤ maxLen) (hcs : cur.size = cap * 2) (htk : cur.toList.take (ps.length * 2) = ps.flatMap pairCells)
    (hh : Has w (pts g (.cells cur 87 (0, 0)) :: l)) (hm : pts bx (.cells #[.int .i64 p.1, .int .i64 p.2] 87 (0, 0)) ∈ l) :
    Calls Tryz.prog 165 #[.slice (some ⟨g, 0, none⟩) ps.length cap, .int .i64 i, .slice (some ⟨bx, 0, none⟩) 1 1] w (PairsPost (insP ps i p) l w) := by
  obtain ⟨i0, I1, I2, I3, I4⟩ := info_parts info_pair
  have hb := hh.at (b := bx) (o := .cells #[.int .i64 p.1, .int .i64 p.2] 87 (0, 0)) (List.mem_cons_of_mem _ hm)
  have hg := hh.got
  have hne : bx ≠ g := fun e => hh.pts_ne hm e.symm
  have hov : ∀ lb cb, (callFunc 209 #[.slice (some ⟨bx, 0, none⟩) 1 1, .slice (some ⟨g, (i + 1) * 2, none⟩) lb cb]).run Tryz.prog w = .ok (.value (.bool false)) w := fun lb cb => by
    rw [run_callFunc_extern Tryz.func209 (by kernel_rfl) (by kernel_rfl) (by kernel_rfl) (e := Extern.SlicesOverlaps.overlaps #[75, 75] #[4]) (by kernel_rfl),
      Lib.run_overlaps_apart w 75 4 87 Tryz.underlying75 2 (fun w => by simp [sizeOf, typeInfo, I1, I3]) ⟨bx, 0, none⟩ ⟨g, (i + 1) * 2, none⟩ 1 1 lb cb hne 87 87 2 (cap * 2) (by simp [World.shape?, hb]) (by simp [World.shape?, hg, hcs]) (by omega) (thaw_of hb 0) (thaw_of hb 2)]
    rfl
  have HH := Lib.hid hh
  have Hxs := Lib.hid htk
  have Hcs := Lib.hid hcs
  have Hm := Lib.hid hm
  have iI : (i : Int) < (ps.length : Int) := by omega
  have lI : (ps.length : Int) ≤ 100 := by omega
  have cI : (ps.length : Int) + 1 ≤ (cap : Int) := by omega
  have cM : (cap : Int) ≤ 9223372036854775807 := by simp [maxLen] at hcm; omega
  generalize hn : ps.length = n at *
  have Hn := Lib.hid hn
  have hw1 : IntKind.i64.wrap ((n : Int) + 1) = (n : Int) + 1 := by rw [IntKind.wrap_i64]; omega
  have hw2 : IntKind.i64.wrap ((i : Int) + 1) = (i : Int) + 1 := by rw [IntKind.wrap_i64]; omega
  have hb2 : ¬ (cap = i + 1) := by omega
  have hb4 : ¬ (cap = i) := by omega
  clear hn hh hb hg hm htk hcs
  go_enter Tryz.func165, Tryz.ntmps165
  go_wp2_with (simp only [hov])
  clear hov
  obtain ⟨D, hD⟩ : ∃ D, D = (ps.drop i).flatMap pairCells := ⟨_, rfl⟩
  have HDl : Hid (D.length = (n - i) * 2) := by
    show _ = _
    rw [hD, flat_len2, List.length_drop, Hn.out]
  have HD1 : Hid (∀ u ∈ D, u.oneCell' = true) := by rw [hD]; exact flat_one _
  have Hsrc : Hid (∀ w' F, Has w' (pts g (.cells cur 87 (0, 0)) :: l ++ F) → ∀ j u, D[j]? = some u → w'.cell? ((⟨g, i * 2, none⟩ : Addr).add j) = some u) := fun w' F hq j u hu => by
    rw [Addr.add_lit]
    refine cell_of hq.got _ ?_
    rw [hD, flat_drop, ← Hxs.out, List.getElem?_drop, List.getElem?_take] at hu
    split at hu
    · simpa using hu
    · cases hu
  have HD := Lib.hid hD
  have HSZ := Lib.hid Hcs.out
  clear hD
  have hh := HH.out
  clear HH
  obtain ⟨FA, HFA⟩ : ∃ FA : List (Nat × Addr × Value), Hid (FA = []) := ⟨_, rfl⟩
  have hFA : ∀ p ∈ FA, w.cell? p.2.1 = some p.2.2 := by rw [HFA.out]; exact fnil
  haveI neFA : ∀ k, Nonempty (In (factsOf FA k)) := fun k => ⟨⟨_, factsOf.drew hFA k⟩⟩
  refine ws_begin [0, 1, 2, 3, 4, 5, 6, 7, 8] (factsOf FA) (pts g (.cells cur 87 (0, 0)) :: l) #[0, 0, 0, 6, 15, 0, 0, 96, 255] (by kernel_rfl) (by kernel_rfl) (by kernel_rfl) factsOf.alloc (factsOf.drew hFA) hh ?_
  clear hFA
  refine ws_q (at_lit rfl) rfl rfl rfl ?_
  go_big_quiet_op
  show WS _ _ _ _ _ _ _ _ _ _
  refine ws_q (at_lit rfl) rfl rfl rfl ?_
  go_big_quiet_op
  show WS _ _ _ _ _ _ _ _ _ _
  refine ws_q (at_lit rfl) rfl rfl rfl ?_
  go_big_quiet_op
  show WS _ _ _ _ _ _ _ _ _ _
  refine ws_q (at_lit rfl) rfl rfl rfl ?_
  go_big_quiet_op
  show WS _ _ _ _ _ _ _ _ _ _
  refine ws_q (at_lit rfl) rfl rfl rfl ?_
  go_big_quiet_op
  show WS _ _ _ _ _ _ _ _ _ _
  refine ws_q (at_lit rfl) rfl rfl rfl ?_
  go_big_quiet_op
  show WS _ _ _ _ _ _ _ _ _ _
  refine ws_q (at_lit rfl) rfl rfl rfl ?_
  go_big_quiet_op
  show WS _ _ _ _ _ _ _ _ _ _
  refine ws_q (at_lit rfl) rfl rfl rfl ?_
  go_big_quiet_op
  show WS _ _ _ _ _ _ _ _ _ _
  refine ws_copy_in (at_lit rfl) rfl rfl (.tmp 73) (.tmp 76) 75 rfl 87 2 Tryz.underlying75 (by rw [I1]; simp [I3]) rfl ⟨g, i * 2, none⟩ (n + 1 - i) (cap - i) D rfl (by rw [HDl.out]; show _ = Nat.min _ _ * 2; simp only [Nat.min_def]; split <;> omega) (fun w' F hh => ?_) HD1.out (by rw [HDl.out, HSZ.out]; omega) (fun w' F hh => lives (l' := []) (by rw [HFA.out]; simp [liveFacts, Nat.testBit]) fnil) ?_
  · exact Hsrc.out w' F hh
  simp only [Act.put, List.setIfInBounds_toArray, List.set_cons_zero, List.set_cons_succ]
  show WS _ _ _ _ _ _ _ _ _ _
  refine ws_end ?_
  intro w9 hK9 h9
  clear HFA neFA FA hh
  rw [HDl.out] at h9
  obtain ⟨cur1, hc1⟩ : ∃ cur1, cur1 = (cur.toList.take ((i + 1) * 2) ++ D ++ cur.toList.drop ((i + 1) * 2 + (n - i) * 2)).toArray := ⟨_, rfl⟩
  rw [← hc1] at h9
  have hs1 : cur1.size = cap * 2 := by
    have := Hcs.out
    have := HDl.out
    rw [hc1]; simp only [List.size_toArray, List.length_append, List.length_take, List.length_drop, Array.length_toList]; omega
  have hb9 := h9.at (b := bx) (o := .cells #[.int .i64 p.1, .int .i64 p.2] 87 (0, 0)) (List.mem_cons_of_mem _ Hm.out)
  have hrun := run_copy_rowN (P := Tryz.prog) w9 75 75 3 87 2 g (i * 2) (n + 1 - i) (cap - i) ⟨bx, 0, none⟩ 1 1 cur1 87 [.int .i64 p.1, .int .i64 p.2] Tryz.underlying75 (by rw [I1]; simp [I3]) h9.got (by rw [show Nat.min 1 (n + 1 - i) = 1 by simp only [Nat.min_def]; split <;> omega]; rfl)
    (fun j u hu => by rw [Addr.add_lit, Nat.zero_add]; exact cell_of hb9 j (by simpa using hu)) (by rw [hs1]; show i * 2 + 2 ≤ _; omega) (by intro u hu; simp at hu; rcases hu with rfl | rfl <;> rfl)
  obtain ⟨cur2, hc2⟩ : ∃ cur2, cur2 = (cur1.toList.take (i * 2) ++ [Value.int .i64 p.1, Value.int .i64 p.2] ++ cur1.toList.drop (i * 2 + [Value.int .i64 p.1, Value.int .i64 p.2].length)).toArray := ⟨_, rfl⟩
  rw [← hc2] at hrun
  have h10 := Has.setRow h9 cur2
  have hk10 := hK9.setRow g cur2
  have HF : Hid (PairsPost (insP ps i p) l w (.returned (.slice (some ⟨g, 0, none⟩) (n + 1) cap)) (w9.setRow g cur2)) := by
    have hil : (insP ps i p).length = n + 1 := by rw [insP_len _ _ _ (by have := Hn.out; omega), Hn.out]
    refine ⟨_, rfl, hk10, ?_⟩
    unfold pairsS
    rw [hil]
    have hcu := Hcs.out
    have hdl := HDl.out
    have hc1l : cur1.toList = cur.toList.take ((i + 1) * 2) ++ (D ++ cur.toList.drop ((i + 1) * 2 + (n - i) * 2)) := by rw [hc1, List.append_assoc]
    have hcl : cur.toList.length = cap * 2 := by rw [Array.length_toList]; exact hcu
    have ht1 : cur1.toList.take (i * 2) = cur.toList.take (i * 2) := by
      rw [hc1l, List.take_append_of_le_length (by rw [List.length_take]; omega), List.take_take, Nat.min_eq_left (by omega)]
    have hd1 : cur1.toList.drop (i * 2 + 2) = D ++ cur.toList.drop ((i + 1) * 2 + (n - i) * 2) := by
      rw [hc1l, List.drop_append, List.drop_of_length_le (by rw [List.length_take]; omega), List.nil_append, show i * 2 + 2 - (cur.toList.take ((i + 1) * 2)).length = 0 by rw [List.length_take]; omega, List.drop_zero]
    have hx : (insP ps i p).flatMap pairCells = cur1.toList.take (i * 2) ++ ([Value.int .i64 p.1, Value.int .i64 p.2] ++ D) := by
      rw [insP_flat, ht1, HD.out, flat_drop, ← Hxs.out, List.take_take, Nat.min_eq_left (by omega)]
    refine h10.row_of_pts ?_ (by omega) hcm ?_ ?_
    · rw [flat_len2, hil]
    · rw [hc2]; simp only [List.size_toArray, List.length_append, List.length_take, List.length_drop, Array.length_toList, hs1, List.length_cons, List.length_nil]; omega
    · rw [hc2, hx]
      show ((cur1.toList.take (i * 2) ++ [Value.int .i64 p.1, Value.int .i64 p.2] ++ cur1.toList.drop (i * 2 + 2)).take ((n + 1) * 2)) = _
      rw [hd1, List.append_assoc, ← List.append_assoc [Value.int .i64 p.1, Value.int .i64 p.2], ← List.append_assoc, ← List.append_assoc, List.append_assoc (cur1.toList.take (i * 2)) _ D]
      rw [List.take_append_of_le_length (by simp only [List.length_append, List.length_take, Array.length_toList, hs1, List.length_cons, List.length_nil, hdl]; omega), List.take_of_length_le (by simp only [List.length_append, List.length_take, Array.length_toList, hs1, List.length_cons, List.length_nil, hdl]; omega)]
  clear h9 h10 hk10 hK9 hs1 HDl HD1 HD Hsrc HSZ Hxs Hcs Hn hb9 Hm hc1 hc2
  generalize w9.setRow g cur2 = w10 at *
  go_wp2
  go_ret
  exact HF.out
end Go.Proofs.YtgbgneiciabidaaGreatDoor
/-
  Plain: slices.Insert at pairs, where a new row is made; all roads.
-/
namespace Go.Proofs.YtgbgneiciabidaaGreatDoor
open Go Go.RowKit
set_option linter.all false

theorem zerosN (n : Nat) : (Builtin.zeroCells (Value.agg #[.int .i64 0, .int .i64 0]).cells n).toList.length = n * 2 := zeros_list _ _
theorem wpList_append_run {P : Program} {w : World} {ops : Array Oper} {rest : List Oper} {o : Oper} {a : Act} {Q : Exit → Act → World → Prop} (hgd : o.guard = none) (d s : Operand) (t t' : TypeId)
    (ho : o.op = .call { callee := .builtin .append, args := #[d, s], argTypes := #[t, t'] }) (v u : Value) (hd : a.eval d = v) (hs : a.eval s = u) {v' : Value} {w' : World}
    (hr : (Builtin.append_ #[t, t'] o.type #[v, u]).run P w = .ok v' w') (h : wpList P ops Q rest (a.put o.dst v') w') : wpList P ops Q (o :: rest) a w :=
  wpList_plain hgd fun _ hK => by
    unfold Oper.wp execOp
    simp only [ho, resolve, invoke, builtin, Sem.run_bind, Sem.run_pure, Result.andThen_ok, List.map_toArray, List.map_cons, List.map_nil, hd, hs, hr]
    exact hK _ _ h
theorem wpList_copy_run {P : Program} {w : World} {ops : Array Oper} {rest : List Oper} {o : Oper} {a : Act} {Q : Exit → Act → World → Prop} (hgd : o.guard = none) (d s : Operand) (t t' : TypeId)
    (ho : o.op = .call { callee := .builtin .copy, args := #[d, s], argTypes := #[t, t'] }) (v u : Value) (hd : a.eval d = v) (hs : a.eval s = u) {v' : Value} {w' : World}
    (hr : (Builtin.copy_ #[t, t'] o.type #[v, u]).run P w = .ok v' w') (h : wpList P ops Q rest (a.put o.dst v') w') : wpList P ops Q (o :: rest) a w :=
  wpList_plain hgd fun _ hK => by
    unfold Oper.wp execOp
    simp only [ho, resolve, invoke, builtin, Sem.run_bind, Sem.run_pure, Result.andThen_ok, List.map_toArray, List.map_cons, List.map_nil, hd, hs, hr]
    exact hK _ _ h
set_option maxHeartbeats 4000000 in
set_option maxRecDepth 100000 in
/-- In the midst, without room. -/
theorem sl_Insert_grow {w : World} {l : List Say} (ps : List (Int × Int)) (p : Int × Int) {bx g cap : Nat} {cur : Array Value} (i : Nat) (hi : i < ps.length) (hl : ps.length ≤ 100) (hroom : cap = ps.length) (hcs : cur.size = cap * 2) (htk : cur.toList.take (ps.length * 2) = ps.flatMap pairCells)
    (hh : Has w (pts g (.cells cur 87 (0, 0)) :: l)) (hm : pts bx (.cells #[.int .i64 p.1, .int .i64 p.2] 87 (0, 0)) ∈ l) :
    Calls Tryz.prog 165 #[.slice (some ⟨g, 0, none⟩) ps.length cap, .int .i64 i, .slice (some ⟨bx, 0, none⟩) 1 1] w (PairsPost (insP ps i p) l w) := by
  obtain ⟨i0, I1, I2, I3, I4⟩ := info_parts info_pair
  subst hroom
  have hg := hh.got
  have hcl : cur.toList.length = ps.length * 2 := by rw [Array.length_toList]; exact hcs
  have hcur : cur.toList = ps.flatMap pairCells := by rw [← htk, List.take_of_length_le (by omega)]
  -- the new row
  obtain ⟨G, hG⟩ : ∃ G, G = grownCap w (i + (ps.length + 1 - i)) ps.length 87 := ⟨_, rfl⟩
  have hGn : ps.length + 1 ≤ G := by have := grownCap_ge w (i + (ps.length + 1 - i)) ps.length 87; omega
  have hGm : G ≤ maxLen := by rw [hG]; exact grownCap_le_maxLen w _ _ _ (by simp [maxLen]; omega)
  have hrun := Lib.run_append_grow_zeros (P := Tryz.prog) w 75 3 75 87 i0 (.agg #[.int .i64 0, .int .i64 0]) .i64 .i64 Tryz.underlying75 Tryz.underlying3 I1 I2 (some ⟨g, 0, none⟩) i ps.length (cur.toList.take (i * 2))
    (by
      rw [I3]
      exact run_firstCells_some w.drew 2 i ⟨g, 0, none⟩ i ps.length (cur.toList.take (i * 2)) (by rw [List.length_take]; omega) (fun j v hj => by
        rw [Addr.add_lit, Nat.zero_add]
        rw [List.getElem?_take] at hj
        split at hj
        · exact cell_of (w := w.drew) hg j (by simpa using hj)
        · cases hj)) (ps.length + 1 - i) (by omega) (by omega) (by omega) (by omega) (by rw [I4]; omega) (by rw [I4]; exact growslice_fits (by omega) (by omega))
  rw [show ((ps.length + 1 - i : Nat) : Int) = (ps.length : Int) + 1 - (i : Int) by omega, ← hG, show i + (ps.length + 1 - i) = ps.length + 1 by omega] at hrun
  obtain ⟨C0, hC0⟩ : ∃ C0, C0 = (cur.toList.take (i * 2)).toArray ++ Builtin.zeroCells (Value.agg #[.int .i64 0, .int .i64 0]).cells (ps.length + 1 - i) ++ Builtin.zeroCells (Value.agg #[.int .i64 0, .int .i64 0]).cells (G - (ps.length + 1)) := ⟨_, rfl⟩
  rw [← hC0] at hrun
  have hz0 : ∀ q, (Builtin.zeroCells (Value.agg #[.int .i64 0, .int .i64 0]).cells q).size = q * 2 := fun q => by have := zerosN q; rwa [Array.length_toList] at this
  have hC0s : C0.size = G * 2 := by
    rw [hC0]; simp only [Array.size_append, List.size_toArray, List.length_take, hz0, hcl]; omega
  have hC0t : C0.toList.take (i * 2) = cur.toList.take (i * 2) := by
    rw [hC0]
    simp only [Array.toList_append, List.append_assoc]
    rw [List.take_append_of_le_length (by rw [List.length_take]; omega), List.take_of_length_le (by rw [List.length_take]; omega)]
  clear hC0
  have h2 := hh.drew.alloc (.cells C0 87)
  have hk2 := (Kept.refl w).drew.alloc (.cells C0 87)
  have hsz : w.drew.heap.size = w.heap.size := rfl
  rw [hsz] at h2
  generalize hW2 : w.drew.alloc (.cells C0 87) = W2 at *
  clear hW2 hsz
  generalize hgz : w.heap.size = gz at *
  have hb2 := h2.at (b := bx) (o := .cells #[.int .i64 p.1, .int .i64 p.2] 87 (0, 0)) (List.mem_cons_of_mem _ (List.mem_cons_of_mem _ hm))
  have hrun2 := run_copy_rowN (P := Tryz.prog) W2 75 75 3 87 2 gz (i * 2) (ps.length + 1 - i) (G - i) ⟨bx, 0, none⟩ 1 1 C0 87 [.int .i64 p.1, .int .i64 p.2] Tryz.underlying75 (by rw [I1]; simp [I3]) h2.got (by rw [show Nat.min 1 (ps.length + 1 - i) = 1 by simp only [Nat.min_def]; split <;> omega]; rfl)
    (fun j u hu => by rw [Addr.add_lit, Nat.zero_add]; exact cell_of hb2 j (by simpa using hu)) (by rw [hC0s]; show i * 2 + 2 ≤ _; omega) (by intro u hu; simp at hu; rcases hu with rfl | rfl <;> rfl)
  obtain ⟨C1, hC1⟩ : ∃ C1, C1 = (C0.toList.take (i * 2) ++ [Value.int .i64 p.1, Value.int .i64 p.2] ++ C0.toList.drop (i * 2 + [Value.int .i64 p.1, Value.int .i64 p.2].length)).toArray := ⟨_, rfl⟩
  rw [← hC1] at hrun2
  have h3 := Has.setRow h2 C1
  have hk3 := hk2.setRow gz C1
  have hC1s : C1.size = G * 2 := by
    rw [hC1]; simp only [List.size_toArray, List.length_append, List.length_take, List.length_drop, Array.length_toList, hC0s, List.length_cons, List.length_nil]; omega
  have hC1t : C1.toList.take ((i + 1) * 2) = cur.toList.take (i * 2) ++ [Value.int .i64 p.1, Value.int .i64 p.2] := by
    rw [hC1, ← hC0t]
    rw [List.take_append_of_le_length (by simp only [List.length_append, List.length_take, Array.length_toList, hC0s, List.length_cons, List.length_nil]; omega), List.take_of_length_le (by simp only [List.length_append, List.length_take, Array.length_toList, hC0s, List.length_cons, List.length_nil]; omega)]
  clear hC1 hb2 h2 hk2 hC0s hC0t hz0
  generalize hW3 : W2.setRow gz C1 = W3 at *
  clear hW3
  have iI : (i : Int) < (ps.length : Int) := by omega
  have lI : (ps.length : Int) ≤ 100 := by omega
  have gI : (ps.length : Int) + 1 ≤ (G : Int) := by omega
  have gM : (G : Int) ≤ 9223372036854775807 := by simp [maxLen] at hGm; omega
  have HH := Lib.hid h3
  have HK := Lib.hid hk3
  have Hcur := Lib.hid hcur
  have HC1s := Lib.hid hC1s
  have HC1t := Lib.hid hC1t
  have HGm := Lib.hid hGm
  clear hh hg hm htk hcs hcl h3 hk3 hcur hC1s hC1t hG hGm
  generalize hn : ps.length = n at *
  have Hn := Lib.hid hn
  have hw1 : IntKind.i64.wrap ((n : Int) + 1) = (n : Int) + 1 := by rw [IntKind.wrap_i64]; omega
  have hw2 : IntKind.i64.wrap ((i : Int) + 1) = (i : Int) + 1 := by rw [IntKind.wrap_i64]; omega
  have hw3 : IntKind.i64.wrap ((n : Int) + 1 - (i : Int)) = (n : Int) + 1 - (i : Int) := by rw [IntKind.wrap_i64]; omega
  have hq2 : ¬ (G = i + 1) := by omega
  have hq4 : ¬ (G = i) := by omega
  have hq5 : ¬ (n = i) := by omega
  clear hn
  go_enter Tryz.func165, Tryz.ntmps165
  go_upto_region 11 with (at_builtin; first | (go_loud (refine wpList_append_run rfl (.tmp 34) (.tmp 39) 75 3 rfl _ _ rfl rfl hrun ?_)) | (go_loud (refine wpList_copy_run rfl (.tmp 43) (.tmp 44) 75 75 rfl _ _ rfl rfl hrun2 ?_)))
  obtain ⟨D, hD⟩ : ∃ D, D = (ps.drop i).flatMap pairCells := ⟨_, rfl⟩
  have HDl : Hid (D.length = (n - i) * 2) := by
    show _ = _
    rw [hD, flat_len2, List.length_drop, Hn.out]
  have HD1 : Hid (∀ u ∈ D, u.oneCell' = true) := by rw [hD]; exact flat_one _
  have Hsrc : Hid (∀ w' F, Has w' (pts gz (.cells C1 87 (0, 0)) :: (pts g (.cells cur 87 (0, 0)) :: l) ++ F) → ∀ j u, D[j]? = some u → w'.cell? ((⟨g, i * 2, none⟩ : Addr).add j) = some u) := fun w' F hq j u hu => by
    rw [Addr.add_lit]
    refine cell_of (hq.at (b := g) (o := .cells cur 87 (0, 0)) (by simp)) _ ?_
    rw [hD, flat_drop, ← Hcur.out, List.getElem?_drop] at hu
    simpa using hu
  have HD := Lib.hid hD
  clear hD
  have hh := HH.out
  clear HH
  obtain ⟨FA, HFA⟩ : ∃ FA : List (Nat × Addr × Value), Hid (FA = []) := ⟨_, rfl⟩
  have hFA : ∀ p ∈ FA, W3.cell? p.2.1 = some p.2.2 := by rw [HFA.out]; exact fnil
  haveI neFA : ∀ k, Nonempty (In (factsOf FA k)) := fun k => ⟨⟨_, factsOf.drew hFA k⟩⟩
  refine ws_begin [0, 1, 2, 3, 4, 5, 6, 7, 8] (factsOf FA) (pts gz (.cells C1 87 (0, 0)) :: pts g (.cells cur 87 (0, 0)) :: l) #[0, 0, 0, 6, 15, 0, 0, 96, 255] (by kernel_rfl) (by kernel_rfl) (by kernel_rfl) factsOf.alloc (factsOf.drew hFA) hh ?_
  clear hFA
  refine ws_q (at_lit rfl) rfl rfl rfl ?_
  go_big_quiet_op
  show WS _ _ _ _ _ _ _ _ _ _
  refine ws_q (at_lit rfl) rfl rfl rfl ?_
  go_big_quiet_op
  show WS _ _ _ _ _ _ _ _ _ _
  refine ws_q (at_lit rfl) rfl rfl rfl ?_
  go_big_quiet_op
  show WS _ _ _ _ _ _ _ _ _ _
  refine ws_q (at_lit rfl) rfl rfl rfl ?_
  go_big_quiet_op
  show WS _ _ _ _ _ _ _ _ _ _
  refine ws_q (at_lit rfl) rfl rfl rfl ?_
  go_big_quiet_op
  show WS _ _ _ _ _ _ _ _ _ _
  refine ws_q (at_lit rfl) rfl rfl rfl ?_
  go_big_quiet_op
  show WS _ _ _ _ _ _ _ _ _ _
  refine ws_q (at_lit rfl) rfl rfl rfl ?_
  go_big_quiet_op
  show WS _ _ _ _ _ _ _ _ _ _
  refine ws_q (at_lit rfl) rfl rfl rfl ?_
  go_big_quiet_op
  show WS _ _ _ _ _ _ _ _ _ _
  refine ws_copy_in (at_lit rfl) rfl rfl (.tmp 50) (.tmp 53) 75 rfl 87 2 Tryz.underlying75 (by rw [I1]; simp [I3]) rfl ⟨g, i * 2, none⟩ (n - i) (n - i) D rfl (by rw [HDl.out]; show _ = Nat.min _ _ * 2; simp only [Nat.min_def]; split <;> omega) (fun w' F hh => ?_) HD1.out (by rw [HDl.out, HC1s.out]; omega) (fun w' F hh => lives (l' := []) (by rw [HFA.out]; simp [liveFacts, Nat.testBit]) fnil) ?_
  · exact Hsrc.out w' F hh
  simp only [Act.put, List.setIfInBounds_toArray, List.set_cons_zero, List.set_cons_succ]
  show WS _ _ _ _ _ _ _ _ _ _
  refine ws_end ?_
  intro w9 hK9 h9
  clear HFA neFA FA hh
  have HF : Hid (PairsPost (insP ps i p) l w (.returned (.slice (some ⟨gz, 0, none⟩) (n + 1) G)) w9) := by
    have hil : (insP ps i p).length = n + 1 := by rw [insP_len _ _ _ (by have := Hn.out; omega), Hn.out]
    refine ⟨_, rfl, HK.out.trans hK9, ?_⟩
    unfold pairsS
    rw [hil]
    have hdl := HDl.out
    have h1s := HC1s.out
    have hx : (insP ps i p).flatMap pairCells = C1.toList.take ((i + 1) * 2) ++ D := by
      rw [insP_flat, HC1t.out, HD.out, flat_drop, ← Hcur.out, List.append_assoc]
    refine Has.tail (A := pts g (.cells cur 87 (0, 0))) (Has.swap (Has.row_of_pts h9 ?_ (by omega) HGm.out ?_ ?_))
    · rw [flat_len2, hil]
    · simp only [List.size_toArray, List.length_append, List.length_take, List.length_drop, Array.length_toList, h1s, hdl]; omega
    · rw [hx]
      simp only
      rw [List.take_append_of_le_length (by simp only [List.length_append, List.length_take, Array.length_toList, h1s, hdl]; omega), List.take_of_length_le (by simp only [List.length_append, List.length_take, Array.length_toList, h1s, hdl]; omega)]
  clear h9 hK9 HDl HD1 HD Hsrc Hcur HC1s HC1t HGm Hn HK
  go_wp2
  go_ret
  exact HF.out

/-- Insert, at any place. -/
theorem sl_Insert {w : World} {l : List Say} {v : Value} (ps : List (Int × Int)) (p : Int × Int) {bx : Nat} (h : Has w (pairsS v ps :: l)) (hm : pts bx (.cells #[.int .i64 p.1, .int .i64 p.2] 87 (0, 0)) ∈ l) (i : Nat) (hi : i ≤ ps.length) (hl : ps.length ≤ 100) (h0 : 0 < ps.length) :
    Calls Tryz.prog 165 #[v, .int .i64 i, .slice (some ⟨bx, 0, none⟩) 1 1] w (PairsPost (insP ps i p) l w) := by
  rcases Nat.lt_or_ge i ps.length with hlt | hge
  · obtain ⟨g, cap, cur, rfl, hnc, hcm, hcs, htk, hxl, hh⟩ := h.row_out h0
    rcases Nat.lt_or_ge ps.length cap with hr | hr
    · exact sl_Insert_room ps p i hlt hl hr hcm hcs htk hh hm
    · exact sl_Insert_grow ps p i hlt hl (by omega) hcs htk hh hm
  · obtain rfl : i = ps.length := by omega
    exact sl_Insert_end ps p h hm hl h0
end Go.Proofs.YtgbgneiciabidaaGreatDoor
