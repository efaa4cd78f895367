/-
  A volume's pairs (layer 13); rows of volumes.
-/
import Derived.Test.YtgbgneiciabidaaGreatDoorGc1
namespace Go.Proofs.YtgbgneiciabidaaGreatDoor
open Go Go.RowKit
set_option linter.all false
set_option maxHeartbeats 8000000
theorem Has.pair_row {w : World} {l : List Say} {b : Nat} {x y : Int} (h : Has w (pts b (.cells #[.int .i64 x, .int .i64 y] 87 (0, 0)) :: l)) : Has w (pairsS (.slice (some ⟨b, 0, none⟩) 1 1) [(x, y)] :: l) :=
 h.row_of_pts (by simp [pairCells]) (Nat.le_refl _) (by simp [maxLen]) (by simp) (by simp [pairCells])
def VolPPost (v : Vl) (l : List Say) (w : World) (r : Ending) (w' : World) : Prop := ∃ o, r = .returned o /\ Kept w w' /\ Has w' (pairsS o v.pairs :: l)
theorem Vl.rights {v : Vl} (h : v.right = true) : 1 <= v.id /\ v.id <= 1048576 /\ 1 <= v.size /\ v.size <= 1048576 /\ 0 <= v.root /\ v.root <= 2305843009213693952 /\ 0 <= v.origin /\ v.origin <= 1048576 := by
 unfold Vl.right at h
 simp only [Bool.and_eq_true, decide_eq_true_eq] at h
 omega
set_option maxRecDepth 100000 in
theorem vol_pairs {w : World} {l : List Say} (v : Vl) (hr : v.right = true) (h : Has w l) : Calls Tryz.prog 171 #[v.val] w (VolPPost v l w) := by
 have hb := Vl.rights hr
 have hps : v.pairs = (v.id * 4, v.size) :: ((if v.root = 0 then [] else [(v.id * 4 + 1, v.root)]) ++ (if v.origin = 0 then [] else [(v.id * 4 + 2, v.origin)])) := rfl
 obtain ⟨id, size, root, origin⟩ := v
 simp only at hb hps
 have hw1 : IntKind.i64.wrap (id * 4) = id * 4 := by rw [IntKind.wrap_i64]; omega
 have hw2 : IntKind.i64.wrap (id * 4 + 1) = id * 4 + 1 := by rw [IntKind.wrap_i64]; omega
 have hw3 : IntKind.i64.wrap (id * 4 + 2) = id * 4 + 2 := by rw [IntKind.wrap_i64]; omega
 have hw0 : IntKind.i64.wrap (id * 4 + 0) = id * 4 := by rw [Int.add_zero]; exact hw1
 have hA := h.alloc (.cells #[.int .i64 id, .int .i64 size, .int .i64 root, .int .i64 origin] 106)
 have h1 := (hA.alloc (.cells #[.int .i64 (id * 4), .int .i64 size] 87))
 have K1 : Kept w ((w.alloc (.cells #[.int .i64 id, .int .i64 size, .int .i64 root, .int .i64 origin] 106)).alloc (.cells #[.int .i64 (id * 4), .int .i64 size] 87)) := ((Kept.refl w).alloc _).alloc _
 simp only [World.size_alloc] at h1
 have H1 := Lib.hid (And.intro K1 h1.pair_row)
 clear h hA h1 K1 hb hr
 unfold Vl.val
 by_cases hr0 : root = 0
 ·rw [if_pos hr0] at hps
  subst hr0
  by_cases ho0 : origin = 0
  ·rw [if_pos ho0] at hps
   subst ho0
   have Hp := Lib.hid hps
   clear hps
   go_enter Tryz.func171, Tryz.ntmps171
   go_wp2
   go_ret
   exact ⟨_, rfl, H1.out.1, by rw [Hp.out]; exact Has.skip (A := [_]) (M := [_]) H1.out.2⟩
  ·rw [if_neg ho0] at hps
   have Hp := Lib.hid hps
   have ho1 : (origin == 0) = false := by simp [ho0]
   have h2 := H1.out.2.alloc (.cells #[.int .i64 (id * 4 + 2), .int .i64 origin] 87)
   simp only [World.size_alloc] at h2
   have H2 := Lib.hid (And.intro (H1.out.1.alloc (.cells #[.int .i64 (id * 4 + 2), .int .i64 origin] 87)) h2.pair_row.swap)
   clear hps ho0 h2 H1
   go_enter Tryz.func171, Tryz.ntmps171
   go_wp2_with (at_builtin; refine wpList_append_pairs rfl (.tmp 28) (.tmp 34) rfl rfl rfl H2.out.2 (.head _) (by simp) ?_; intro v2 w2 hK2 h2)
   have HF : Hid (Kept w w2 /\ Has w2 (pairsS v2 ((⟨id, size, 0, origin⟩ : Vl).pairs) :: l)) := ⟨H2.out.1.trans hK2, by rw [Hp.out]; exact Has.skip (A := [_]) (M := [_, _]) h2⟩
   clear hK2 h2 H2 Hp
   go_wp2
   go_ret
   exact ⟨_, rfl, HF.out.1, HF.out.2⟩
 ·rw [if_neg hr0] at hps
  have hr1 : (root == 0) = false := by simp [hr0]
  have h2 := H1.out.2.alloc (.cells #[.int .i64 (id * 4 + 1), .int .i64 root] 87)
  simp only [World.size_alloc] at h2
  have H2 := Lib.hid (And.intro (H1.out.1.alloc (.cells #[.int .i64 (id * 4 + 1), .int .i64 root] 87)) h2.pair_row.swap)
  clear h2 H1 hr0
  by_cases ho0 : origin = 0
  ·rw [if_pos ho0] at hps
   have ho1 : (origin == 0) = true := by simp [ho0]
   have Hp := Lib.hid hps
   clear hps ho0
   go_enter Tryz.func171, Tryz.ntmps171
   go_upto_region 5 with (at_builtin; refine wpList_append_pairs rfl (.tmp 17) (.tmp 23) rfl rfl rfl H2.out.2 (.head _) (by simp) ?_; intro v2 w2 hK2 h2)
   have HF : Hid (Kept w w2 /\ Has w2 (pairsS v2 ((⟨id, size, root, origin⟩ : Vl).pairs) :: l)) := ⟨H2.out.1.trans hK2, by rw [Hp.out]; exact Has.skip (A := [_]) (M := [_, _]) h2⟩
   have hvb := h2.at (b := w.heap.size) (o := .cells #[.int .i64 id, .int .i64 size, .int .i64 root, .int .i64 origin] 106 (0, 0)) (by simp)
   have x3 : w2.cell? ⟨w.heap.size, 3, none⟩ = some (.int .i64 origin) := cell_of hvb 3 rfl
   have l3 := World.block_lt_of_cell? _ _ x3
   clear hK2 h2 H2 Hp hvb
   go_wp2
   go_ret
   exact ⟨_, rfl, HF.out.1, HF.out.2⟩
  ·rw [if_neg ho0] at hps
   have Hp := Lib.hid hps
   have ho1 : (origin == 0) = false := by simp [ho0]
   clear hps ho0
   go_enter Tryz.func171, Tryz.ntmps171
   go_upto_region 5 with (at_builtin; refine wpList_append_pairs rfl (.tmp 17) (.tmp 23) rfl rfl rfl H2.out.2 (.head _) (by simp) ?_; intro v2 w2 hK2 h2)
   have hvb := h2.at (b := w.heap.size) (o := .cells #[.int .i64 id, .int .i64 size, .int .i64 root, .int .i64 origin] 106 (0, 0)) (by simp)
   have x0 : w2.cell? ⟨w.heap.size, 0, none⟩ = some (.int .i64 id) := cell_of hvb 0 rfl
   have x3 : w2.cell? ⟨w.heap.size, 3, none⟩ = some (.int .i64 origin) := cell_of hvb 3 rfl
   have l3 := World.block_lt_of_cell? _ _ x3
   have h3 := h2.alloc (.cells #[.int .i64 (id * 4 + 2), .int .i64 origin] 87)
   have H3 := Lib.hid (And.intro ((H2.out.1.trans hK2).alloc (.cells #[.int .i64 (id * 4 + 2), .int .i64 origin] 87)) h3.pair_row.swap)
   clear hK2 h2 H2 hvb h3
   go_wp2_with (at_builtin; refine wpList_append_pairs rfl (.tmp 28) (.tmp 34) rfl rfl rfl H3.out.2 (.head _) (by simp) ?_; intro v3 w3 hK3 h3)
   have HF : Hid (Kept w w3 /\ Has w3 (pairsS v3 ((⟨id, size, root, origin⟩ : Vl).pairs) :: l)) := ⟨H3.out.1.trans hK3, by rw [Hp.out]; exact Has.skip (A := [_]) (M := [_, _, _]) h3⟩
   clear hK3 h3 H3 Hp
   go_wp2
   go_ret
   exact ⟨_, rfl, HF.out.1, HF.out.2⟩
/-! Rows of volumes. -/
def volsS (v : Value) (L : List Vl) : Say := rowS 106 4 v L.length (L.flatMap Vl.cells)
theorem wpList_append_vol {w : World} {l : List Say} {ops : Array Oper} {rest : List Oper} {o : Oper} {a : Act} {Q : Exit -> Act -> World -> Prop} (hgd : o.guard = none) (s x : Operand)
  (hop : o.op = .call { callee := .builtin .append, args := #[s, x], argTypes := #[108, 108] })
  {v : Value} {L : List Vl} (hs : a.eval s = v) {bx : Nat} (u : Vl) (hx : a.eval x = .slice (some ⟨bx, 0, none⟩) 1 1) (hown : Has w (volsS v L :: l)) (hm : pts bx (.cells #[.int .i64 u.id, .int .i64 u.size, .int .i64 u.root, .int .i64 u.origin] 106 (0, 0)) ∈ l)
  (hlen : L.length <= 1000000)
  (h : ∀ v' w', Kept w w' -> Has w' (volsS v' (L ++ [u]) :: l) -> wpList Tryz.prog ops Q rest (a.put o.dst v') w') : wpList Tryz.prog ops Q (o :: rest) a w := by
 obtain ⟨i0, I1, I2, I3, I4⟩ := info_parts info_vol
 refine wpList_append_row hgd s x 108 hop 106 i0 volZero 4 32 Tryz.underlying108 I1 I2 I3 I4 rfl (by decide) _ _ (L.flatMap Vl.cells) hs hown ⟨bx, 0, none⟩ 1 1 u.cells hx rfl ?_ (by simp [Vl.cells, Value.oneCell']) (by unfold maxLen; omega) (by omega) ?_
 ·intro j y hy
  have hb := hown.at (b := bx) (o := .cells #[.int .i64 u.id, .int .i64 u.size, .int .i64 u.root, .int .i64 u.origin] 106 (0, 0)) (List.mem_cons_of_mem _ hm)
  rw [Addr.add_lit, Nat.zero_add]
  refine cell_of hb j ?_
  simpa [Vl.cells] using hy
 ·intro v' w' hK hh
  have e1 : rowS 106 4 v' (L.length + 1) (L.flatMap Vl.cells ++ u.cells) = volsS v' (L ++ [u]) := by unfold volsS; rw [List.length_append, List.flatMap_append]; rw [show [u].flatMap Vl.cells = u.cells by simp]; rfl
  rw [e1] at hh
  exact h v' w' hK hh
end Go.Proofs.YtgbgneiciabidaaGreatDoor
/-
  A catalog (layer 13): made, asked for its tree, a volume put, a volume removed.
-/
namespace Go.Proofs.YtgbgneiciabidaaGreatDoor
open Go Go.RowKit Go.ChangeMaps Go.Maps
open Go.WideElems (Fit rd rg pl)
set_option linter.all false
set_option maxHeartbeats 8000000
structure CatOk (M : List (Int × Vl)) : Prop where
 up : VMap.Up M
 right : ∀ p ∈ M, p.1 = p.2.id /\ p.2.right = true
 len : M.length <= 32
def catCell (c p st : Nat) : Say := pts c (.cells #[.pointer (some ⟨st, 0, none⟩), .pointer (some ⟨p, 0, none⟩), .pointer none] 198 (0, 0))
def staCell (st mb : Nat) (a : Int) : Say := pts st (.cells #[.map (some mb), .int .i64 a] 201 (0, 0))
def catFlat (c p : Nat) (M : List (Int × Vl)) (a : Int) (x : Nat × Nat) : List Say := [catCell c p x.1, staCell x.1 x.2 a, vmapS x.2 M]
def catS (c p : Nat) (M : List (Int × Vl)) (a : Int) : Say := ex fun x : Nat × Nat => fact (CatOk M) (all (catFlat c p M a x))
theorem Has.cat_open {w : World} {l : List Say} {c p : Nat} {M : List (Int × Vl)} {a : Int} (h : Has w (catS c p M a :: l)) : ∃ st mb, CatOk M /\ Has w (catCell c p st :: staCell st mb a :: vmapS mb M :: l) := by
 obtain ⟨x, h⟩ := h.opened
 obtain ⟨ok, h⟩ := h.unfact
 exact ⟨x.1, x.2, ok, h.split⟩
theorem Has.cat_shut {w : World} {l : List Say} {c p st mb : Nat} {M : List (Int × Vl)} {a : Int} (ok : CatOk M) (h : Has w (catCell c p st :: staCell st mb a :: vmapS mb M :: l)) : Has w (catS c p M a :: l) := Has.chosen (st, mb) (Has.tofact ok (Has.unite (m := catFlat c p M a (st, mb)) h))
def CatNew (p : Nat) (l : List Say) (w : World) (r : Ending) (w' : World) : Prop := ∃ c, r = .returned (.pointer (some ⟨c, 0, none⟩)) /\ Kept w w' /\ Has w' (catS c p [] 0 :: l)
theorem cat_New {w : World} {l : List Say} (h : Has w l) (p : Nat) : Calls Tryz.prog 110 #[.pointer (some ⟨p, 0, none⟩)] w (CatNew p l w) := by
 have h1 := vmap_made h
 have h2 := h1.alloc (.cells #[.map (some w.heap.size), .int .i64 0] 201)
 have h3 := h2.alloc (.cells #[.pointer (some ⟨w.heap.size + 1, 0, none⟩), .pointer (some ⟨p, 0, none⟩), .pointer none] 198)
 simp only [World.size_alloc] at h2 h3
 have HB := Lib.hid (Has.cat_shut (c := w.heap.size + 1 + 1) (p := p) (st := w.heap.size + 1) (mb := w.heap.size) (M := []) (a := 0) ⟨List.Pairwise.nil, by simp, by simp⟩ h3)
 have hmm := @run_makeMap Tryz.prog
 clear h h1 h2 h3
 go_enter Tryz.func110, Tryz.ntmps110
 go_wp2
 go_ret
 exact ⟨_, rfl, (((Kept.refl w).alloc _).alloc _).alloc _, HB.out⟩
theorem cat_Root {w : World} {l : List Say} {c p : Nat} {M : List (Int × Vl)} {a : Int} (h : Has w l) (hm : catS c p M a ∈ l) : Calls Tryz.prog 61 #[.pointer (some ⟨c, 0, none⟩)] w fun r w' => r = .returned (.int .i64 a) /\ w = w' := by
 obtain ⟨st, mb, ok, hh⟩ := (h.only hm).cat_open
 have hc : w.heap[c]? = some (.cells #[.pointer (some ⟨st, 0, none⟩), .pointer (some ⟨p, 0, none⟩), .pointer none] 198 (0, 0)) := hh.got
 have hs : w.heap[st]? = some (.cells #[.map (some mb), .int .i64 a] 201 (0, 0)) := hh.tail.got
 have c0 : w.cell? ⟨c, 0, none⟩ = some (.pointer (some ⟨st, 0, none⟩)) := cell_of hc 0 rfl
 have c1 : w.cell? ⟨st, 1, none⟩ = some (.int .i64 a) := cell_of hs 1 rfl
 have l0 := World.block_lt_of_cell? _ _ c0
 have l1 := World.block_lt_of_cell? _ _ c1
 clear h hh hm hc hs ok
 go_enter Tryz.func61, Tryz.ntmps61
 go_wp2
 go_ret
 exact ⟨rfl, rfl⟩
theorem CatOk.del {M : List (Int × Vl)} (h : CatOk M) (a : Int) : CatOk (VMap.del a M) :=
 ⟨h.up.del a, fun p hp => h.right p (List.mem_filter.1 hp).1, Nat.le_trans (List.length_filter_le _ _) h.len⟩
def CatRem (c p : Nat) (M : List (Int × Vl)) (a id : Int) (l : List Say) (w : World) (r : Ending) (w' : World) : Prop :=
 Kept w w' /\ ((VMap.get id M = none /\ r = .returned (errV 81) /\ Has w' (catS c p M a :: l)) \/ ((∃ v, VMap.get id M = some v) /\ r = .returned .nilIface /\ Has w' (catS c p (VMap.del id M) a :: l)))
set_option maxRecDepth 100000 in
theorem cat_Remove {w : World} {l : List Say} {c p : Nat} {M : List (Int × Vl)} {a : Int} (id : Int) (h : Has w (catS c p M a :: l)) (h0 : -9223372036854775808 <= id) (h1 : id <= 9223372036854775807) :
  Calls Tryz.prog 59 #[.pointer (some ⟨c, 0, none⟩), .int .i64 id] w (CatRem c p M a id l w) := by
 obtain ⟨st, mb, ok, hh⟩ := h.cat_open
 have hc : w.heap[c]? = some (.cells #[.pointer (some ⟨st, 0, none⟩), .pointer (some ⟨p, 0, none⟩), .pointer none] 198 (0, 0)) := hh.got
 have hs : w.heap[st]? = some (.cells #[.map (some mb), .int .i64 a] 201 (0, 0)) := hh.tail.got
 have c0 : w.cell? ⟨c, 0, none⟩ = some (.pointer (some ⟨st, 0, none⟩)) := cell_of hc 0 rfl
 have c1 : w.cell? ⟨st, 0, none⟩ = some (.map (some mb)) := cell_of hs 0 rfl
 have l0 := World.block_lt_of_cell? _ _ c0
 have l1 := World.block_lt_of_cell? _ _ c1
 have hlk := vmap_look true hh (b := mb) (M := M) (by simp) id h0 h1
 simp only [if_true] at hlk
 cases hg : VMap.get id M with
 | none =>
  rw [hg] at hlk
  simp only [Option.map_none, Option.getD_none, Option.isSome_none] at hlk
  have HF := Lib.hid (And.intro hg (Has.alloc_off h (.cells #[.int .i64 0, .int .i64 0, .int .i64 0, .int .i64 0] 106)))
  clear h hh hc hs ok hg
  unfold volZero at hlk
  go_enter Tryz.func59, Tryz.ntmps59
  go_wp2
  go_ret
  exact ⟨(Kept.refl w).alloc _, .inl ⟨HF.out.1, rfl, HF.out.2⟩⟩
 | some v =>
  rw [hg] at hlk
  obtain ⟨vi, vs, vr, vo⟩ := v
  simp only [Option.map_some, Option.getD_some, Option.isSome_some, Vl.val] at hlk
  have hA := (Has.alloc_off hh (.cells #[.int .i64 vi, .int .i64 vs, .int .i64 vr, .int .i64 vo] 106))
  obtain ⟨w1, hrun, hK1, hh1⟩ := vmap_drop (hA.pull 2) id h0 h1 0
  have HF : Hid (Kept w w1 /\ (∃ v, VMap.get id M = some v) /\ Has w1 (catS c p (VMap.del id M) a :: l)) := ⟨((Kept.refl w).alloc _).trans hK1, ⟨_, hg⟩, Has.cat_shut (ok.del id) (hh1.push 2)⟩
  clear h hh hc hs ok hg hA hK1 hh1
  go_enter Tryz.func59, Tryz.ntmps59
  go_wp2
  go_ret
  exact ⟨HF.out.1, .inr ⟨HF.out.2.1, rfl, HF.out.2.2⟩⟩
theorem CatOk.put {M : List (Int × Vl)} (h : CatOk M) (v : Vl) (hr : v.right = true) (hl : (VMap.get v.id M).isSome = true \/ M.length < 32) : CatOk (VMap.put v.id v M) := by
 have hp := VMap.ins_perm (v.id, v) (VMap.del v.id M)
 refine ⟨h.up.put _ _, fun p hp' => ?_, ?_⟩
 ·rcases List.mem_cons.1 (hp.mem_iff.1 hp') with rfl | h1
  ·exact ⟨rfl, hr⟩
  ·exact h.right p (List.mem_filter.1 h1).1
 ·have e1 := hp.length_eq
  have e2 : (VMap.put v.id v M).length = (VMap.del v.id M).length + 1 := e1
  rw [e2]
  rcases hl with hl | hl
  ·obtain ⟨u, hu⟩ := Option.isSome_iff_exists.1 hl
   have e3 := (VMap.get_split h.up hu).length_eq
   have := h.len
   simp only [List.length_cons] at e3
   omega
  ·have : (VMap.del v.id M).length <= M.length := List.length_filter_le _ _
   omega
def putTo (M : List (Int × Vl)) (v : Vl) : List (Int × Vl) := if v.right = true /\ ((VMap.get v.id M).isSome = true \/ M.length < 32) then VMap.put v.id v M else M
def putErr (M : List (Int × Vl)) (v : Vl) : Value := if v.right = true then (if (VMap.get v.id M).isSome = true \/ M.length < 32 then .nilIface else errV 24) else errV 90
def CatPut (c p : Nat) (M : List (Int × Vl)) (a : Int) (v : Vl) (l : List Say) (w : World) (r : Ending) (w' : World) : Prop := r = .returned (putErr M v) /\ Kept w w' /\ Has w' (catS c p (putTo M v) a :: l)
def mfacts (FA : List (Nat × Addr × Value)) (b : Nat) (o : Obj) (k : Nat) (w : World) : Prop := factsOf FA k w /\ w.heap[b]? = some o
theorem mfacts.alloc {FA : List (Nat × Addr × Value)} {b : Nat} {o : Obj} (k : Nat) (w : World) (ob : Obj) (h : mfacts FA b o k w) : mfacts FA b o k (w.alloc ob) := by
 refine ⟨factsOf.alloc k w ob h.1, ?_⟩
 have hlt : b < w.heap.size := (Array.getElem?_eq_some_iff.1 h.2).1
 have h2 := h.2
 show (w.heap.push _)[b]? = _
 rw [Array.getElem?_push_lt hlt]
 rw [Array.getElem?_eq_getElem hlt] at h2
 exact h2
theorem mfacts.drew {FA : List (Nat × Addr × Value)} {b : Nat} {o : Obj} {w : World} (h : ∀ p ∈ FA, w.cell? p.2.1 = some p.2.2) (hb : w.heap[b]? = some o) (k : Nat) : mfacts FA b o k w.drew := ⟨factsOf.drew h k, hb⟩
def VmOk (M : List (Int × Vl)) (es : Array MapEntry) (clock : Nat) : Prop := Fit Tryz.prog 3 heldR es clock /\ es.size <= M.length /\ (VMap.over Vl.val M).map litE = (es.toList.map (rg Tryz.prog 3 heldR)).foldr DataW.insert []
theorem Has.vm_open {w : World} {l : List Say} {b : Nat} {M : List (Int × Vl)} (h : Has w (vmapS b M :: l)) : ∃ es clock, VmOk M es clock /\ Has w (pts b (.map es clock) :: l) := by
 obtain ⟨es, clock, F, hs, hD, hh⟩ := Has.map_open h
 exact ⟨es, clock, ⟨F, hs, hD⟩, hh⟩
theorem Has.vm_shut {w : World} {l : List Say} {b : Nat} {M : List (Int × Vl)} {es : Array MapEntry} {clock : Nat} (ok : VmOk M es clock) (h : Has w (pts b (.map es clock) :: l)) : Has w (vmapS b M :: l) :=
 h.head fun _ ha => ⟨es, clock, ha, ok.1, ok.2.1, ok.2.2⟩
theorem vm_look {w : World} {b : Nat} {M : List (Int × Vl)} {es : Array MapEntry} {clock : Nat} (ok : VmOk M es clock) (hb : w.heap[b]? = some (.map es clock)) (wide : Bool) (a : Int) (h0 : -9223372036854775808 <= a) (h1 : a <= 9223372036854775807) :
  (Instr.lookup 199 (.map (some b)) (.int .i64 a) wide).run Tryz.prog w = .ok (if wide then .tuple #[((VMap.get a M).map Vl.val).getD volZero, .bool (VMap.get a M).isSome] else ((VMap.get a M).map Vl.val).getD volZero) w :=
 vmap_look (l := [vmapS b M]) wide ⟨fun k => w.heap[k]?, fun _ => none, ⟨es, clock, hb, ok.1, ok.2.1, ok.2.2⟩, trivial, by simp, by simp⟩ (.head _) a h0 h1
theorem putErr_no {M : List (Int × Vl)} {v : Vl} (h : v.right = false) : putErr M v = errV 90 /\ putTo M v = M := by unfold putErr putTo; simp [h]
theorem putErr_many {M : List (Int × Vl)} {v : Vl} (h : v.right = true) (hi : (VMap.get v.id M).isSome = false) (hl : 32 <= M.length) : putErr M v = errV 24 /\ putTo M v = M := by
 have : ¬ M.length < 32 := by omega
 unfold putErr putTo
 simp only [Option.isSome_eq_false_iff, Option.isNone_iff_eq_none] at hi
 simp [h, hi, this]
theorem putErr_ok {M : List (Int × Vl)} {v : Vl} (h : v.right = true) (hi : (VMap.get v.id M).isSome = true \/ M.length < 32) : putErr M v = .nilIface /\ putTo M v = VMap.put v.id v M := by unfold putErr putTo; rw [if_pos h, if_pos hi, if_pos ⟨h, hi⟩]; exact ⟨rfl, rfl⟩
set_option maxRecDepth 100000 in
theorem cat_Put {w : World} {l : List Say} {c p : Nat} {M : List (Int × Vl)} {a : Int} (v : Vl) (h : Has w (catS c p M a :: l)) (h0 : -9223372036854775808 <= v.id) (h1 : v.id <= 9223372036854775807) :
  Calls Tryz.prog 56 #[.pointer (some ⟨c, 0, none⟩), v.val] w (CatPut c p M a v l w) := by
 obtain ⟨st, mb, ok, hh⟩ := h.cat_open
 obtain ⟨es, clock, vok, hv⟩ := Has.vm_open (hh.pull 2)
 have hV := Lib.hid vok
 obtain ⟨vr0, hvr0⟩ : ∃ vr0 : Vl, Hid (v = vr0) := ⟨v, rfl⟩
 obtain ⟨vi, vs, vr, vo⟩ := v
 obtain ⟨wa, hwa⟩ : ∃ wa, w.alloc (.cells #[.int .i64 vi, .int .i64 vs, .int .i64 vr, .int .i64 vo] 106) = wa := ⟨_, rfl⟩
 obtain ⟨B, hB⟩ : ∃ B, w.heap.size = B := ⟨_, rfl⟩
 have hA := (hv.push 2).alloc (.cells #[.int .i64 vi, .int .i64 vs, .int .i64 vr, .int .i64 vo] 106)
 have hK := (Kept.refl w).alloc (.cells #[.int .i64 vi, .int .i64 vs, .int .i64 vr, .int .i64 vo] 106)
 rw [hB, hwa] at hA
 rw [hwa] at hK
 have hc : wa.heap[c]? = some (.cells #[.pointer (some ⟨st, 0, none⟩), .pointer (some ⟨p, 0, none⟩), .pointer none] 198 (0, 0)) := hA.tail.got
 have hs : wa.heap[st]? = some (.cells #[.map (some mb), .int .i64 a] 201 (0, 0)) := hA.tail.tail.got
 have hmb : wa.heap[mb]? = some (.map es clock) := hA.tail.tail.tail.got
 have c0 : wa.cell? ⟨c, 0, none⟩ = some (.pointer (some ⟨st, 0, none⟩)) := cell_of hc 0 rfl
 have c1 : wa.cell? ⟨st, 0, none⟩ = some (.map (some mb)) := cell_of hs 0 rfl
 have b0 : wa.cell? ⟨B, 0, none⟩ = some (.int .i64 vi) := cell_of hA.got 0 rfl
 have l0 := World.block_lt_of_cell? _ _ c0
 have l1 := World.block_lt_of_cell? _ _ c1
 have l2 := World.block_lt_of_cell? _ _ b0
 obtain ⟨ov, hov⟩ : ∃ ov : Vl, ((VMap.get vi M).map Vl.val).getD volZero = ov.val := by
  cases VMap.get vi M with
  | none => exact ⟨⟨0, 0, 0, 0⟩, rfl⟩
  | some u => exact ⟨u, rfl⟩
 obtain ⟨isb, hisb⟩ : ∃ isb, (VMap.get vi M).isSome = isb := ⟨_, rfl⟩
 obtain ⟨oi, os, or, oo⟩ := ov
 have HLK : Hid (∀ w' : World, w'.heap[mb]? = some (.map es clock) -> (Instr.lookup 199 (.map (some mb)) (.int .i64 vi) true).run Tryz.prog w' = .ok (.tuple #[.agg #[.int .i64 oi, .int .i64 os, .int .i64 or, .int .i64 oo], .bool isb]) w') := fun w' hb => by
  have := vm_look vok hb true vi h0 h1
  rw [hov, hisb] at this
  exact this
 have HA := Lib.hid hA
 have HK := Lib.hid hK
 have Hi := Lib.hid hisb
 have Hb := Lib.hid (And.intro h0 h1)
 have Ok := Lib.hid ok
 clear h hh hv vok hc hs ok hov hisb h0 h1 hK
 unfold Vl.val
 have hh0 := hA
 clear hA
 go_enter Tryz.func56, Tryz.ntmps56
 go_wp2_with fail
 clear hwa hB
 obtain ⟨FA, HFA⟩ : ∃ FA : List (Nat × Addr × Value), Hid (FA = [(3, ⟨c, 0, none⟩, .pointer (some ⟨st, 0, none⟩)), (6, ⟨st, 0, none⟩, .map (some mb)), (8, ⟨B, 0, none⟩, .int .i64 vi)]) := ⟨_, rfl⟩
 have fa3 : ∀ nI : In (mfacts FA mb (.map es clock) 3), nI.w.cell? ⟨c, 0, none⟩ = some (.pointer (some ⟨st, 0, none⟩)) := fun nI => nI.ok.1 (_, _, _) (by rw [HFA.out]; simp) rfl
 have fa6 : ∀ nI : In (mfacts FA mb (.map es clock) 6), nI.w.cell? ⟨st, 0, none⟩ = some (.map (some mb)) := fun nI => nI.ok.1 (_, _, _) (by rw [HFA.out]; simp) rfl
 have fa8 : ∀ nI : In (mfacts FA mb (.map es clock) 8), nI.w.cell? ⟨B, 0, none⟩ = some (.int .i64 vi) := fun nI => nI.ok.1 (_, _, _) (by rw [HFA.out]; simp) rfl
 have hFA : ∀ p ∈ FA, wa.cell? p.2.1 = some p.2.2 := by rw [HFA.out]; exact (fcons c0 (fcons c1 (fcons b0 fnil)))
 haveI neFA : ∀ k, Nonempty (In (mfacts FA mb (.map es clock) k)) := fun k => ⟨⟨_, mfacts.drew hFA hmb k⟩⟩
 refine ws_begin [0, 1, 2, 3, 4, 5, 6, 7, 8, 9, 10, 11, 12, 13, 14, 15] (mfacts FA mb (.map es clock)) (pts B (.cells #[.int .i64 vi, .int .i64 vs, .int .i64 vr, .int .i64 vo] 106 (0, 0)) :: catCell c p st :: staCell st mb a :: pts mb (.map es clock) :: l) #[0, 1, 3, 7, 15, 31, 63, 0, 128, 511, 1023, 2047, 2047, 0, 12287, 32767] (by kernel_rfl) (by kernel_rfl) (by kernel_rfl) mfacts.alloc (mfacts.drew hFA hmb) hh0 ?_
 clear hFA
 iterate 9 (refine ws_q (at_lit rfl) rfl rfl rfl ?_; go_big_quiet_op; show WS _ _ _ _ _ _ _ _ _ _)
 refine ws_v (at_lit rfl) rfl rfl (.tuple #[.agg #[.int .i64 oi, .int .i64 os, .int .i64 or, .int .i64 oo], .bool isb]) (fun w hS => ?_) ?_
 ·have hl := HLK.out w hS.2
  unfold execOp
  simp only [Sem.run_bind]
  show ((Instr.lookup 199 (.map (some mb)) (.int .i64 vi) true).run Tryz.prog w).andThen _ = _
  rw [hl]
  rfl
 simp only [Act.put, List.setIfInBounds_toArray, List.set_cons_zero, List.set_cons_succ]
 show WS _ _ _ _ _ _ _ _ _ _
 iterate 3 (refine ws_q (at_lit rfl) rfl rfl rfl ?_; go_big_quiet_op; show WS _ _ _ _ _ _ _ _ _ _)
 refine ws_ptr (at_lit rfl) rfl rfl ((.cells #[.int .i64 0, .int .i64 0, .int .i64 0, .int .i64 0] 106 (0, 0))) (fun w => by go_simp) ?_
 intro B5
 simp only [Act.put, List.setIfInBounds_toArray, List.set_cons_zero, List.set_cons_succ]
 show WS _ _ _ _ _ _ _ _ _ _
 refine ws_store (at_lit rfl) rfl rfl 106 (.tmp 5) (.tmp 18) rfl rfl (v := .agg #[.int .i64 oi, .int .i64 os, .int .i64 or, .int .i64 oo]) rfl (by simp [Value.cells]) (by simp [Value.cells, Value.oneCell']) (by kernel_rfl) (by simp only [Value.cells, putCells, List.setIfInBounds_toArray, List.set_cons_zero, List.set_cons_succ]; rfl) (fun w F hh => fun j hj => ⟨lives (l' := []) (by rw [HFA.out]; simp [liveFacts, Nat.testBit]) fnil j hj, hh.at (by simp)⟩) ?_
 simp only [Act.put, List.setIfInBounds_toArray, List.set_cons_zero, List.set_cons_succ]
 show WS _ _ _ _ _ _ _ _ _ _
 refine ws_q (at_lit rfl) rfl rfl rfl ?_
 go_big_quiet_op
 show WS _ _ _ _ _ _ _ _ _ _
 refine ws_end fun w2 hK2 h2 => ?_
 have HR := Lib.hid (vol_right ⟨vi, vs, vr, vo⟩ w2)
 have b20 : w2.heap[B]? = some (.cells #[.int .i64 vi, .int .i64 vs, .int .i64 vr, .int .i64 vo] 106 (0, 0)) := h2.tail.got
 have e0 : w2.cell? ⟨B, 0, none⟩ = some (.int .i64 vi) := cell_of b20 0 rfl
 have e1 : w2.cell? ⟨B, 1, none⟩ = some (.int .i64 vs) := cell_of b20 1 rfl
 have e2 : w2.cell? ⟨B, 2, none⟩ = some (.int .i64 vr) := cell_of b20 2 rfl
 have e3 : w2.cell? ⟨B, 3, none⟩ = some (.int .i64 vo) := cell_of b20 3 rfl
 have le := World.block_lt_of_cell? _ _ e0
 have H2 := Lib.hid h2
 have HK2 := Lib.hid (HK.out.trans hK2)
 clear hK2 h2 HA HK b20 c0 c1 b0 l0 l1 l2 hmb fa3 fa6 fa8 neFA HFA HLK
 go_wp2_with fail
 refine HR.out.mono ?_
 rintro r w3 ⟨rfl, hb3⟩
 have h3 := H2.out.below hb3
 have HK3 := Lib.hid (HK2.out.trans (Kept.below hb3))
 have hc : w3.heap[c]? = some (.cells #[.pointer (some ⟨st, 0, none⟩), .pointer (some ⟨p, 0, none⟩), .pointer none] 198 (0, 0)) := h3.tail.tail.got
 have hs : w3.heap[st]? = some (.cells #[.map (some mb), .int .i64 a] 201 (0, 0)) := h3.tail.tail.tail.got
 have hb : w3.heap[B]? = some (.cells #[.int .i64 vi, .int .i64 vs, .int .i64 vr, .int .i64 vo] 106 (0, 0)) := h3.tail.got
 have g0 : w3.cell? ⟨c, 0, none⟩ = some (.pointer (some ⟨st, 0, none⟩)) := cell_of hc 0 rfl
 have g1 : w3.cell? ⟨st, 0, none⟩ = some (.map (some mb)) := cell_of hs 0 rfl
 have k0 := World.block_lt_of_cell? _ _ g0
 have k1 := World.block_lt_of_cell? _ _ g1
 have f0 : w3.cell? ⟨B, 0, none⟩ = some (.int .i64 vi) := cell_of hb 0 rfl
 have f1 : w3.cell? ⟨B, 1, none⟩ = some (.int .i64 vs) := cell_of hb 1 rfl
 have f2 : w3.cell? ⟨B, 2, none⟩ = some (.int .i64 vr) := cell_of hb 2 rfl
 have f3 : w3.cell? ⟨B, 3, none⟩ = some (.int .i64 vo) := cell_of hb 3 rfl
 have kb := World.block_lt_of_cell? _ _ f0
 have HM := Lib.hid (show Has w3 (catS c p M a :: l) from Has.cat_shut Ok.out ((Has.vm_shut hV.out (h3.tail.tail.pull 2)).push 2))
 have hvm : Has w3 (vmapS mb M :: catCell c p st :: staCell st mb a :: l) := Has.vm_shut hV.out (h3.tail.tail.pull 2)
 have hlen := vmap_len hvm (b := mb) (M := M) (.head _) 3
 have hvd := hvm.drew
 by_cases hr : (⟨vi, vs, vr, vo⟩ : Vl).right = true
 ·rw [hr]
  by_cases hi : isb = true
  ·have hp := putErr_ok (M := M) (v := ⟨vi, vs, vr, vo⟩) hr (.inl (by rw [<- hi]; exact Hi.out))
   have hok := Ok.out.put ⟨vi, vs, vr, vo⟩ hr (.inl (by rw [<- hi]; exact Hi.out))
   subst hi
   obtain ⟨w4, hrun, hK4, h4⟩ := vmap_store hvd (by have := Ok.out.len; simp [maxLen]; omega) vi Hb.out.1 Hb.out.2 ⟨vi, vs, vr, vo⟩
   unfold Vl.val at hrun
   have HF : Hid (CatPut c p M a ⟨vi, vs, vr, vo⟩ l w (.returned .nilIface) w4) := ⟨by rw [hp.1], (HK3.out.drew).trans hK4, by rw [hp.2]; exact Has.cat_shut hok (h4.push 2)⟩
   clear h3 hc hs hb hvm hlen hvd hp hok hK4 h4 hr H2 HK2 HR
   go_wp2_with fail
   go_region
   go_wp2
   go_ret
   exact HF.out
  ·have hif : isb = false := by simpa using hi
   subst hif
   by_cases hl : M.length < 32
   ·have hp := putErr_ok (M := M) (v := ⟨vi, vs, vr, vo⟩) hr (.inr hl)
    have hok := Ok.out.put ⟨vi, vs, vr, vo⟩ hr (.inr hl)
    obtain ⟨w4, hrun, hK4, h4⟩ := vmap_store hvd (by have := Ok.out.len; simp [maxLen]; omega) vi Hb.out.1 Hb.out.2 ⟨vi, vs, vr, vo⟩
    unfold Vl.val at hrun
    have HF : Hid (CatPut c p M a ⟨vi, vs, vr, vo⟩ l w (.returned .nilIface) w4) := ⟨by rw [hp.1], (HK3.out.drew).trans hK4, by rw [hp.2]; exact Has.cat_shut hok (h4.push 2)⟩
    have hlI : (M.length : Int) < 32 := by omega
    have hl0 : (0 : Int) <= M.length := by omega
    clear h3 hc hs hb hvm hvd hp hok hK4 h4 hr H2 HK2 HR
    go_wp2_with fail
    go_region
    go_wp2
    go_ret
    exact HF.out
   ·have hp := putErr_many (M := M) (v := ⟨vi, vs, vr, vo⟩) hr Hi.out (by omega)
    have HF : Hid (CatPut c p M a ⟨vi, vs, vr, vo⟩ l w (.returned (errV 24)) w3) := ⟨by rw [hp.1], HK3.out, by rw [hp.2]; exact HM.out⟩
    have hlI : (32 : Int) <= M.length := by omega
    clear h3 hc hs hb hvm hvd hp hr H2 HK2 HR
    go_wp2
    go_ret
    exact HF.out
 ·have hrf : (⟨vi, vs, vr, vo⟩ : Vl).right = false := by simpa using hr
  have hp := putErr_no (M := M) hrf
  rw [hrf]
  have HF : Hid (CatPut c p M a ⟨vi, vs, vr, vo⟩ l w (.returned (errV 90)) w3) := ⟨by rw [hp.1], HK3.out, by rw [hp.2]; exact HM.out⟩
  clear h3 hc hs hb hvm hlen hvd hp hr hrf H2 HK2 HR
  go_wp2
  go_ret
  exact HF.out
end Go.Proofs.YtgbgneiciabidaaGreatDoor
/-
  A catalog's volumes as a list, and their pairs (layer 13).
-/
namespace Go.Proofs
open Go.RowKit Go.Maps Go.Sort Go.Shelf
set_option linter.all false
set_option maxHeartbeats 8000000
theorem Tryz.keysV_call (mb : Option Nat) (W : World) : Calls Tryz.prog 115 #[.map mb] W fun e w' => e = .returned (.func (.func 173) #[] #[.pointer (some ⟨W.heap.size, 0, none⟩)]) /\ w' = W.alloc (.cells #[.map mb] 199) :=
 (callsIn_wide (n := 5)).1 (AnyZI.keys_in Tryz.keysV Fence.wide 5 trivial rfl mb W)
theorem Tryz.sortedV_call {H : Type} (b nn : Nat) (D0 : DataW H) (R : Value -> Option (DataW H × List MemPlace)) (w : World) (hown : w.ownsMap Tryz.prog 3 R b nn D0) (hmax : Maps.size D0 <= maxLen) (hbytes : Maps.size D0 * 8 <= 140737488355328) :
  Calls Tryz.prog 88 #[.func (.func 173) #[] #[.pointer (some ⟨w.heap.size, 0, none⟩)]] (w.alloc (.cells #[.map (some b)] 199)) (Tryz.SortedPost D0 (w.alloc (.cells #[.map (some b)] 199))) := by
 have hbl := hown.lt
 have hseq : SeqGives Fence.wide 2 Tryz.prog 173 #[.pointer (some ⟨w.heap.size, 0, none⟩)] encZ (fun ss => ss.Perm (intKeys D0)) (Maps.size D0) (w.alloc (.cells #[.map (some b)] 199)) :=
  AnyZI.keys_gives (ρ := Tryz.keysV_ren) { Tryz.keysV with } Fence.wide _ trivial rfl (by omega) w.heap.size b nn D0 _ (by simp) (by simp) (by
   obtain ⟨es, clock, hb, Ft, hs, hD⟩ := hown
   exact ⟨es, clock, (Below.heap_alloc _ _ b hbl).trans hb, Ft, hs, hD⟩)
 refine (callsIn_wide (n := 5)).1 ?_
 have cS := AnyZI.sorted_in Tryz.sortedA Fence.wide 5 trivial trivial trivial trivial rfl (by omega) (Tryz.sortsA _) (enters_of Tryz.func153 (by kernel_rfl) rfl) 173 #[.pointer (some ⟨w.heap.size, 0, none⟩)] trivial (enters_of Tryz.func173 (by kernel_rfl) rfl) _ _ hmax hbytes _ hseq
 refine cS.mono ?_
 rintro e w' ⟨v, ss, rfl, hS, hrow, hnil, hb⟩
 exact ⟨v, ss, rfl, hS, hrow, hb⟩
end Go.Proofs
namespace Go.Proofs.YtgbgneiciabidaaGreatDoor
open Go Go.RowKit Go.ChangeMaps Go.Maps
set_option linter.all false
set_option maxHeartbeats 8000000
def CatList (M : List (Int × Vl)) (l : List Say) (w : World) (r : Ending) (w' : World) : Prop := ∃ v, r = .returned v /\ Kept w w' /\ Has w' (volsS v (M.map (·.2)) :: l)
theorem VMap.get_at {α : Type} {M : List (Int × α)} (h : VMap.Up M) {k : Nat} {x : Int × α} (hx : M[k]? = some x) : VMap.get x.1 M = some x.2 := by
 induction M generalizing k with
 | nil => simp at hx
 | cons y r ih =>
  obtain ⟨h1, h2⟩ := List.pairwise_cons.1 h
  cases k with
  | zero => simp at hx; subst hx; simp [VMap.get]
  | succ k =>
   have hx' : r[k]? = some x := by simpa using hx
   have hlt := h1 x (List.mem_of_getElem? hx')
   have := ih h2 hx'
   unfold VMap.get at this ⊢
   rw [List.find?_cons_of_neg (by simp; omega)]
   exact this
def CLm (w : World) (M : List (Int × Vl)) (l : List Say) (c p st mb : Nat) (a : Int) (v : Value) (k : Nat) (ov : Value) (wr : World) : Prop := Kept w wr /\ Has wr (volsS ov ((M.map (·.2)).take k) :: intsS v (M.map (·.1)) :: catCell c p st :: staCell st mb a :: vmapS mb M :: l)
set_option maxRecDepth 100000 in
theorem cat_List {w : World} {l : List Say} {c p : Nat} {M : List (Int × Vl)} {a : Int} (h : Has w (catS c p M a :: l)) :
  Calls Tryz.prog 58 #[.pointer (some ⟨c, 0, none⟩)] w (CatList M (catS c p M a :: l) w) := by
 obtain ⟨st, mb, ok, hh⟩ := h.cat_open
 have hc : w.heap[c]? = some (.cells #[.pointer (some ⟨st, 0, none⟩), .pointer (some ⟨p, 0, none⟩), .pointer none] 198 (0, 0)) := hh.got
 have hs : w.heap[st]? = some (.cells #[.map (some mb), .int .i64 a] 201 (0, 0)) := hh.tail.got
 have c0 : w.cell? ⟨c, 0, none⟩ = some (.pointer (some ⟨st, 0, none⟩)) := cell_of hc 0 rfl
 have c1 : w.cell? ⟨st, 0, none⟩ = some (.map (some mb)) := cell_of hs 0 rfl
 have l0 := World.block_lt_of_cell? _ _ c0
 have l1 := World.block_lt_of_cell? _ _ c1
 have hown := vmap_own hh (b := mb) (M := M) (by simp)
 have hkeys : intKeys (DataW.map ((VMap.over Vl.val M).map litE)) = M.map (·.1) := by
  simp [intKeys, VMap.over, litE, List.map_map, Function.comp]
  intros; rfl
 have hsz : Maps.size (DataW.map ((VMap.over Vl.val M).map litE)) <= 32 := by
  have e : Maps.size (DataW.map ((VMap.over Vl.val M).map litE)) = M.length := by simp [Maps.size, VMap.over]
  rw [e]; exact ok.len
 have HS := Lib.hid (Tryz.sortedV_call mb M.length _ heldR w hown (by simp [maxLen]; omega) (by omega))
 have hup : (M.map (·.1)).Pairwise (· < ·) := List.pairwise_map.2 ok.up
 have HU : Hid ((∀ ss : List Int, ss.Perm (intKeys (DataW.map ((VMap.over Vl.val M).map litE))) -> ss.mergeSort (fun x y => decide (x <= y)) = M.map (·.1)) /\ ∀ ss : List Int, ss.Perm (intKeys (DataW.map ((VMap.over Vl.val M).map litE))) -> ss.length = (M.map (·.1)).length) :=
  ⟨fun ss hs => sorted_is (hkeys ▸ hs) hup, fun ss hs => by rw [<- hkeys]; exact hs.length_eq⟩
 have H0 := Lib.hid hh
 have Ok := Lib.hid ok
 clear h hh hc hs hown hkeys hsz hup ok
 go_enter Tryz.func58, Tryz.ntmps58
 go_wp2_with fail
 refine (Tryz.keysV_call _ _).mono ?_
 rintro r w1 ⟨rfl, rfl⟩
 go_wp2_with fail
 refine HS.out.mono ?_
 rintro r w2 ⟨v, ss, rfl, hs, hrow, hb⟩
 rw [HU.out.1 ss hs, HU.out.2 ss hs] at hrow
 have HF : Hid (Kept w w2 /\ Has w2 (intsS v (M.map (·.1)) :: catCell c p st :: staCell st mb a :: vmapS mb M :: l)) := by
  refine ⟨((Kept.refl w).alloc _).trans (Kept.below hb), ?_⟩
  exact (H0.out.alloc_off _).fresh_row hb hrow
 obtain ⟨ga, gc, rfl, _, _⟩ := HF.out.2.ints_read (.head _)
 rw [List.length_map] at HF ⊢
 obtain ⟨n, hn⟩ : ∃ n, M.length = n := ⟨_, rfl⟩
 rw [hn] at HF ⊢
 have HM0 : Hid (CLm w M l c p st mb a (.slice ga n gc) 0 (.slice none 0 0) w2) := ⟨HF.out.1, HF.out.2.row_nil _ _⟩
 have Hn := Lib.hid hn
 have hn32 : (n : Int) <= 32 := by have := Ok.out.len; omega
 clear hrow hb hs HS H0 HU HF hn
 go_wp2
 go_loopg [3, 16] n (fun gk ov i wr => ∃ k : Nat, k <= n /\ gk = n - k /\ i = .int .i64 k /\ Hid (CLm w M l c p st mb a (.slice ga n gc) k ov wr))
 case atStart => exact ⟨0, Nat.zero_le _, rfl, rfl, HM0⟩
 case round =>
  clear HM0 c0 c1 l0 l1
  obtain ⟨k, hk, rfl, rfl, HM⟩ := hrel
  obtain ⟨hK, hh⟩ := HM.out
  clear HM
  by_cases hlt : k < n
  ·obtain ⟨x, hx⟩ : ∃ x, M[k]? = some x := ⟨_, List.getElem?_eq_getElem (by have := Hn.out; omega)⟩
   obtain ⟨id, v⟩ := x
   have hr := Ok.out.right _ (List.mem_of_getElem? hx)
   have hget := VMap.get_at Ok.out.up hx
   simp only at hr hget
   have hrr := Vl.rights hr.2
   have hc : wr.heap[c]? = some (.cells #[.pointer (some ⟨st, 0, none⟩), .pointer (some ⟨p, 0, none⟩), .pointer none] 198 (0, 0)) := hh.tail.tail.got
   have hs : wr.heap[st]? = some (.cells #[.map (some mb), .int .i64 a] 201 (0, 0)) := hh.tail.tail.tail.got
   have c0 : wr.cell? ⟨c, 0, none⟩ = some (.pointer (some ⟨st, 0, none⟩)) := cell_of hc 0 rfl
   have c1 : wr.cell? ⟨st, 0, none⟩ = some (.map (some mb)) := cell_of hs 0 rfl
   have l0 := World.block_lt_of_cell? _ _ c0
   have l1 := World.block_lt_of_cell? _ _ c1
   obtain ⟨_, _, e1, _, r1⟩ := hh.ints_read (v := .slice ga n gc) (xs := M.map (·.1)) (.tail _ (.head _))
   injection e1 with e1 e2 e3
   subst e1
   obtain ⟨g, rfl, x0, _⟩ := r1 k (by rw [List.length_map]; have := Hn.out; omega)
   have hid : (M.map (·.1))[k]? = some id := by rw [List.getElem?_map, hx]; rfl
   rw [(List.getElem?_eq_some_iff.1 hid).2] at x0
   have lx := World.block_lt_of_cell? _ _ x0
   have hlk := vmap_look false hh (b := mb) (M := M) (by simp) id (by omega) (by omega)
   rw [hget] at hlk
   obtain ⟨vi, vs, vr, vo⟩ := v
   simp only [Option.map_some, Option.getD_some, Bool.false_eq_true, if_false, Vl.val] at hlk
   have kI : (k : Int) < (n : Int) := by omega
   have k0 : (0 : Int) <= k := by omega
   have htk : (M.map (·.2)).take (k + 1) = (M.map (·.2)).take k ++ [⟨vi, vs, vr, vo⟩] := (take_succ (by rw [List.getElem?_map, hx]; rfl)).1
   have hA := hh.alloc (.cells #[.int .i64 vi, .int .i64 vs, .int .i64 vr, .int .i64 vo] 106)
   have HA := Lib.hid hA.swap
   have HK := Lib.hid (hK.alloc (.cells #[.int .i64 vi, .int .i64 vs, .int .i64 vr, .int .i64 vo] 106))
   have Htk := Lib.hid htk
   clear hK hh hc hs e2 e3 r1 hid hget hr hrr hA htk hx
   go_upto_region 6 with (at_builtin; refine wpList_append_vol rfl (.tmp 20) (.tmp 30) rfl rfl ⟨vi, vs, vr, vo⟩ rfl HA.out (.head _) (by rw [List.length_take]; omega) ?_; intro v2 w2 hK2 h2)
   have HM2 : Hid (CLm w M l c p st mb a (.slice (some ⟨g, 0, none⟩) n gc) (k + 1) v2 w2) := ⟨HK.out.trans hK2, by rw [Htk.out]; exact Has.skip (A := [_]) (M := [_]) h2⟩
   clear hK2 h2 HA HK Htk x0 lx c0 c1 l0 l1 hlk
   go_wp2
   go_roundg (n - (k + 1))
   case measure => omega
   case rel => exact ⟨k + 1, by omega, rfl, by go_num, HM2⟩
  ·have hke : k = n := by omega
   subst hke
   have HF : Hid (Kept w wr /\ Has wr (volsS u3 (M.map (·.2)) :: catS c p M a :: l)) := by
    refine ⟨hK, ?_⟩
    rw [List.take_of_length_le (by rw [List.length_map, Hn.out]; omega)] at hh
    exact (Has.cat_shut Ok.out ((Has.skip (A := [_]) (M := [_]) hh).reord [1, 1, 1])).swap
   clear hK hh
   go_wp2
   go_ret
   exact ⟨_, rfl, HF.out.1, HF.out.2⟩
end Go.Proofs.YtgbgneiciabidaaGreatDoor
