/-
  Nodes (layer 10): Drop, of a key that is there.
-/
import Derived.Test.YtgbgneiciabidaaGreatDoorGz19
import Derived.Test.YtgbgneiciabidaaGreatDoorGz10
import Derived.Test.YtgbgneiciabidaaGreatDoorGz4
import Derived.Test.YtgbgneiciabidaaGreatDoorGz16
import Derived.Laws.BytesArg
import Derived.Test.YtgbgneiciabidaaGreatDoorGz9
import Derived.Test.YtgbgneiciabidaaGreatDoorGz17
import Derived.Test.YtgbgneiciabidaaGreatDoorGz18
import Derived.Test.YtgbgneiciabidaaGreatDoorGz12
import Derived.Shelf.SlMaps.Clone
import Derived.Test.YtgbgneiciabidaaGreatDoorGz13
import Derived.Deep.DeepCutAuto
namespace Go.Proofs.YtgbgneiciabidaaGreatDoor
open Go Go.RowKit
set_option linter.all false

def NDropPost (n : Nd) (l : List Say) (w : World) (r : Ending) (w' : World) : Prop :=
  ∃ (ak : Option Addr) (ck : Nat) (av : Option Addr) (cv : Nat), r = .returned (.tuple #[.agg #[.int .i64 n.level, .slice ak n.keys.length ck, .slice av n.vals.length cv], .nilIface]) ∧ Kept w w' ∧
    Has w' (intsS (.slice ak n.keys.length ck) n.keys :: intsS (.slice av n.vals.length cv) n.vals :: l)
set_option maxHeartbeats 4000000 in
set_option maxRecDepth 100000 in
theorem node_Drop {w : World} {l : List Say} (nd : Nd) {kv vv : Value} (key : Int) (h : Has w l) (hk : intsS kv nd.keys ∈ l) (hv : intsS vv nd.vals ∈ l) (ok : nd.ok = true) (hx : nd.keys[lowB nd.keys key]? = some key) :
    Calls Tryz.prog 105 #[nd.val kv vv, .int .i64 key] w (NDropPost (ndOf nd.level (nd.pairs.eraseIdx (lowB nd.keys key))) l w) := by
  obtain ⟨o0, o1, o2, o3, o4⟩ := ok_lens ok
  have hA := (h.alloc (.cells #[.int .i64 nd.level, kv, vv] 35)).alloc (.cells #[.int .i64 0, .slice none 0 0, .slice none 0 0] 35)
  have hKA := ((Kept.refl w).alloc (.cells #[.int .i64 nd.level, kv, vv] 35)).alloc (.cells #[.int .i64 0, .slice none 0 0, .slice none 0 0] 35)
  simp only [World.size_alloc] at hA
  have HCk := Lib.hid (node_Check nd hA (kv := kv) (vv := vv) (by simp [hk]) (by simp [hv]))
  have Hok := Lib.hid ok
  have Hrs := Lib.hid (ok_rising ok)
  have HK := Lib.hid hKA
  have Hk := Lib.hid hk
  have hlt : lowB nd.keys key < nd.keys.length := (List.getElem?_eq_some_iff.1 hx).1
  have hpl : nd.pairs.length = nd.keys.length := by unfold Nd.pairs; rw [List.length_zip, o2, Nat.min_self]
  have HP : Hid (∀ w' l', Has w' ((pts (w.heap.size + 1) (.cells #[.int .i64 0, .slice none 0 0, .slice none 0 0] 35 (0, 0)) :: pts w.heap.size (.cells #[.int .i64 nd.level, kv, vv] 35 (0, 0)) :: l) ++ l') → Calls Tryz.prog 135 #[.agg #[.int .i64 nd.level, kv, vv]] w' (PairsPost nd.pairs ((pts (w.heap.size + 1) (.cells #[.int .i64 0, .slice none 0 0, .slice none 0 0] 35 (0, 0)) :: pts w.heap.size (.cells #[.int .i64 nd.level, kv, vv] 35 (0, 0)) :: l) ++ l') w')) := fun w' l' hw => node_pairs nd hw (kv := kv) (vv := vv) (by simp [hk]) (by simp [hv]) o2 (by omega)
  obtain ⟨ps, hps⟩ : ∃ ps, ps = nd.pairs := ⟨_, rfl⟩
  have Hx := Lib.hid hx
  obtain ⟨m, hm⟩ : ∃ m, m = (ps.eraseIdx (lowB nd.keys key)).length := ⟨_, rfl⟩
  have hm6 : m ≤ 6 := by rw [hm, List.length_eraseIdx_of_lt (by rw [hps, hpl]; exact hlt), hps, hpl]; omega
  rw [← hps] at HP hpl
  have Hat : Hid (lowB nd.keys key < ps.length ∧ ps.length ≤ 100 ∧ (ps.eraseIdx (lowB nd.keys key)).length = m) := ⟨by omega, by omega, hm.symm⟩
  have Hm : Hid (m ≤ 100) := by show m ≤ 100; omega
  have HE : Hid (ndOf nd.level (nd.pairs.eraseIdx (lowB nd.keys key)) = ndOf nd.level (ps.eraseIdx (lowB nd.keys key))) := by show _ = _; rw [hps]
  have hatI : ((lowB nd.keys key : Nat) : Int) ≤ 7 := by omega
  have hlk : nd.keys.length ≤ 1000000 := by omega
  have Hlk := Lib.hid hlk
  clear h hA hKA hk hv ok hx o2 o3 o4 hlt hpl hps hm hm6 hlk
  simp only [Nd.val] at HCk ⊢
  go_enter Tryz.func105, Tryz.ntmps105
  go_wp2_with fail
  refine HCk.out.mono ?_
  rintro r w1 ⟨hr, hK1, h1⟩
  rw [if_pos Hok.out] at hr
  subst hr
  have hr2 := h1.at (b := w.heap.size) (o := (.cells #[.int .i64 nd.level, kv, vv] 35 (0, 0))) (by simp)
  have n0 : w1.cell? ⟨w.heap.size, 0, none⟩ = some (.int .i64 nd.level) := cell_of hr2 0 rfl
  have n1 : w1.cell? ⟨w.heap.size, 1, none⟩ = some kv := cell_of hr2 1 rfl
  have n2 : w1.cell? ⟨w.heap.size, 2, none⟩ = some vv := cell_of hr2 2 rfl
  have ln := World.block_lt_of_cell? _ _ n0
  have HFd := Lib.hid (node_Find nd (w := w1) (kv := kv) (vv := vv) (h1.rd (by simp [Hk.out])) Hrs.out Hlk.out key)
  rw [if_pos Hx.out] at HFd
  have H1 := Lib.hid h1
  have HK1 := Lib.hid (HK.out.trans hK1)
  simp only [Nd.val] at HFd
  clear h1 hK1 HCk HK hr2
  generalize lowB nd.keys key = at_ at *
  go_wp2_with fail
  refine HFd.out.mono ?_
  rintro r W ⟨rfl, hb⟩
  have hh := H1.out.below hb
  have HK2 := Lib.hid (HK1.out.trans (Kept.below hb))
  clear hb H1 HK1 HFd n0 n1 n2 ln
  go_wp2
  generalize hr4 : w.heap.size + 1 = r4 at *
  generalize hr2 : w.heap.size = r2 at *
  clear hr4 hr2
  have hg := hh.at (b := r2) (o := (.cells #[.int .i64 nd.level, kv, vv] 35 (0, 0))) (by simp)
  have b0 : W.cell? ⟨r2, 0, none⟩ = some (.int .i64 nd.level) := cell_of hg 0 rfl
  have b1 : W.cell? ⟨r2, 1, none⟩ = some kv := cell_of hg 1 rfl
  have b2 : W.cell? ⟨r2, 2, none⟩ = some vv := cell_of hg 2 rfl
  have hwa : IntKind.i64.wrap ((at_ : Int) + 1) = (at_ : Int) + 1 := by rw [IntKind.wrap_i64]; omega
  clear hg
  obtain ⟨FA, HFA⟩ : ∃ FA : List (Nat × Addr × Value), Hid (FA = [(0, ⟨r2, 0, none⟩, .int .i64 nd.level), (0, ⟨r2, 1, none⟩, kv), (0, ⟨r2, 2, none⟩, vv), (1, ⟨r2, 0, none⟩, .int .i64 nd.level), (1, ⟨r2, 1, none⟩, kv), (1, ⟨r2, 2, none⟩, vv)]) := ⟨_, rfl⟩
  have fa0_0 : ∀ n : In (factsOf FA 0), n.w.cell? ⟨r2, 0, none⟩ = some (.int .i64 nd.level) := fun n => factsOf.cell (by rw [HFA.out]; simp) n
  have fa0_1 : ∀ n : In (factsOf FA 0), n.w.cell? ⟨r2, 1, none⟩ = some (kv) := fun n => factsOf.cell (by rw [HFA.out]; simp) n
  have fa0_2 : ∀ n : In (factsOf FA 0), n.w.cell? ⟨r2, 2, none⟩ = some (vv) := fun n => factsOf.cell (by rw [HFA.out]; simp) n
  have fa1_0 : ∀ n : In (factsOf FA 1), n.w.cell? ⟨r2, 0, none⟩ = some (.int .i64 nd.level) := fun n => factsOf.cell (by rw [HFA.out]; simp) n
  have fa1_1 : ∀ n : In (factsOf FA 1), n.w.cell? ⟨r2, 1, none⟩ = some (kv) := fun n => factsOf.cell (by rw [HFA.out]; simp) n
  have fa1_2 : ∀ n : In (factsOf FA 1), n.w.cell? ⟨r2, 2, none⟩ = some (vv) := fun n => factsOf.cell (by rw [HFA.out]; simp) n
  have hFA : ∀ p ∈ FA, W.cell? p.2.1 = some p.2.2 := by rw [HFA.out]; exact (fcons b0 (fcons b1 (fcons b2 (fcons b0 (fcons b1 (fcons b2 fnil))))))
  haveI neFA : ∀ k, Nonempty (In (factsOf FA k)) := fun k => ⟨⟨_, factsOf.drew hFA k⟩⟩
  refine ws_begin [0, 1, 2, 3, 4, 5, 6, 7, 8, 9] (factsOf FA) (pts r4 (.cells #[.int .i64 0, .slice none 0 0, .slice none 0 0] 35 (0, 0)) :: pts r2 (.cells #[.int .i64 nd.level, kv, vv] 35 (0, 0)) :: l) #[0, 0, 2, 0, 0, 16, 62, 127, 255, 511] (by kernel_rfl) (by kernel_rfl) (by kernel_rfl) factsOf.alloc (factsOf.drew hFA) hh ?_
  clear hFA
  iterate 2 (refine ws_q (at_lit rfl) rfl rfl rfl ?_; go_big_quiet_op; show WS _ _ _ _ _ _ _ _ _ _)
  refine ws_call (at_lit rfl) rfl rfl 135 #[.agg #[.int .i64 nd.level, kv, vv]] (fun w => by go_simp) (fun v L' => L' = pairsS v ps :: pts r4 (.cells #[.int .i64 0, .slice none 0 0, .slice none 0 0] 35 (0, 0)) :: pts r2 (.cells #[.int .i64 nd.level, kv, vv] 35 (0, 0)) :: l) (fun w' F hS hh => ?_) ?_
  · refine (HP.out w' _ hh).mono ?_
    rintro r w2' ⟨vp, rfl, hK, h5⟩
    exact ⟨_, _, rfl, hK, rfl, h5⟩
  rintro vp _ rfl
  refine ⟨fun w F hh => lives (l' := [(0, ⟨r2, 0, none⟩, .int .i64 nd.level), (0, ⟨r2, 1, none⟩, kv), (0, ⟨r2, 2, none⟩, vv)]) (by rw [HFA.out]; simp [liveFacts, Nat.testBit]) (fcons (cell_of (hh.at (b := r2) (o := (.cells #[.int .i64 nd.level, kv, vv] 35 (0, 0))) (by simp)) 0 (v := .int .i64 nd.level) rfl) <| fcons (cell_of (hh.at (b := r2) (o := (.cells #[.int .i64 nd.level, kv, vv] 35 (0, 0))) (by simp)) 1 (v := kv) rfl) <| fcons (cell_of (hh.at (b := r2) (o := (.cells #[.int .i64 nd.level, kv, vv] 35 (0, 0))) (by simp)) 2 (v := vv) rfl) <| fnil), ?_⟩
  simp only [Act.put, List.setIfInBounds_toArray, List.set_cons_zero, List.set_cons_succ]
  show WS _ _ _ _ _ _ _ _ _ _
  iterate 3 (refine ws_q (at_lit rfl) rfl rfl rfl ?_; go_big_quiet_op; show WS _ _ _ _ _ _ _ _ _ _)
  refine ws_call (at_lit rfl) rfl rfl 168 #[vp, .int .i64 at_, .int .i64 ((at_ : Int) + 1)] (fun w => by go_simp) (fun v L' => L' = pairsS v (ps.eraseIdx at_) :: pts r4 (.cells #[.int .i64 0, .slice none 0 0, .slice none 0 0] 35 (0, 0)) :: pts r2 (.cells #[.int .i64 nd.level, kv, vv] 35 (0, 0)) :: l) (fun w' F hS hh => ?_) ?_
  · have hd : Has w' (pairsS vp ps :: ((pts r4 (.cells #[.int .i64 0, .slice none 0 0, .slice none 0 0] 35 (0, 0)) :: pts r2 (.cells #[.int .i64 nd.level, kv, vv] 35 (0, 0)) :: l) ++ F)) := hh
    refine (sl_Delete ps hd at_ Hat.out.1 Hat.out.2.1).mono ?_
    rintro r w2' ⟨vq, rfl, hK, h5⟩
    exact ⟨_, _, rfl, hK, rfl, h5⟩
  rintro vq _ rfl
  refine ⟨fun w F hh => lives (l' := [(0, ⟨r2, 0, none⟩, .int .i64 nd.level), (0, ⟨r2, 1, none⟩, kv), (0, ⟨r2, 2, none⟩, vv)]) (by rw [HFA.out]; simp [liveFacts, Nat.testBit]) (fcons (cell_of (hh.at (b := r2) (o := (.cells #[.int .i64 nd.level, kv, vv] 35 (0, 0))) (by simp)) 0 (v := .int .i64 nd.level) rfl) <| fcons (cell_of (hh.at (b := r2) (o := (.cells #[.int .i64 nd.level, kv, vv] 35 (0, 0))) (by simp)) 1 (v := kv) rfl) <| fcons (cell_of (hh.at (b := r2) (o := (.cells #[.int .i64 nd.level, kv, vv] 35 (0, 0))) (by simp)) 2 (v := vv) rfl) <| fnil), ?_⟩
  simp only [Act.put, List.setIfInBounds_toArray, List.set_cons_zero, List.set_cons_succ]
  show WS _ _ _ _ _ _ _ _ _ _
  refine ws_call (at_lit rfl) rfl rfl 167 #[.agg #[.int .i64 nd.level, kv, vv], vq] (fun w => by go_simp) (fun v L' => ∃ ak ck av cv, v = .agg #[.int .i64 nd.level, .slice ak m ck, .slice av m cv] ∧ L' = intsS (.slice ak m ck) ((ps.eraseIdx at_).map (·.1)) :: intsS (.slice av m cv) ((ps.eraseIdx at_).map (·.2)) :: pairsS vq (ps.eraseIdx at_) :: pts r4 (.cells #[.int .i64 0, .slice none 0 0, .slice none 0 0] 35 (0, 0)) :: pts r2 (.cells #[.int .i64 nd.level, kv, vv] 35 (0, 0)) :: l) (fun w' F hS hh => ?_) ?_
  · refine (node_of nd.level kv vv (ps.eraseIdx at_) hh (PSrcs.of_pairs (.head _)) (by rw [Hat.out.2.2]; exact Hm.out)).mono ?_
    rintro r w2' ⟨ak, ck, av, cv, rfl, hK, h5⟩
    rw [Hat.out.2.2] at h5 ⊢
    exact ⟨_, _, rfl, hK, ⟨_, _, _, _, rfl, rfl⟩, h5⟩
  rintro _ _ ⟨ak, ck, av, cv, rfl, rfl⟩
  refine ⟨fun w F hh => lives (l' := []) (by rw [HFA.out]; simp [liveFacts, Nat.testBit]) (fnil), ?_⟩
  simp only [Act.put, List.setIfInBounds_toArray, List.set_cons_zero, List.set_cons_succ]
  show WS _ _ _ _ _ _ _ _ _ _
  refine ws_reord [3] ?_
  simp only [reord, pull]
  refine ws_store (at_lit rfl) rfl rfl 35 (.tmp 4) (.tmp 30) rfl rfl (v := .agg #[.int .i64 nd.level, .slice ak m ck, .slice av m cv]) rfl (by simp [Value.cells]) (by simp [Value.cells, Value.oneCell']) (by kernel_rfl) (by simp only [Value.cells, putCells, List.setIfInBounds_toArray, List.set_cons_zero, List.set_cons_succ]; rfl) (fun w F hh => lives (l' := []) (by rw [HFA.out]; simp [liveFacts, Nat.testBit]) (fnil)) ?_
  simp only [Act.put, List.setIfInBounds_toArray, List.set_cons_zero, List.set_cons_succ]
  show WS _ _ _ _ _ _ _ _ _ _
  refine ws_q (at_lit rfl) rfl rfl rfl ?_
  go_big_quiet_op
  show WS _ _ _ _ _ _ _ _ _ _
  refine ws_end ?_
  intro w9 hK9 h9
  have hg := h9.got
  have z0 := Lib.hid (cell_of hg 0 (v := .int .i64 nd.level) rfl)
  have z1 := Lib.hid (cell_of hg 1 (v := .slice ak m ck) rfl)
  have z2 := Lib.hid (cell_of hg 2 (v := .slice av m cv) rfl)
  have HF : Hid (NDropPost (ndOf nd.level (nd.pairs.eraseIdx at_)) l w (.returned (.tuple #[.agg #[.int .i64 nd.level, .slice ak m ck, .slice av m cv], .nilIface])) w9) := by
    show NDropPost _ _ _ _ _
    rw [HE.out]
    have e1 : (ndOf nd.level (ps.eraseIdx at_)).keys.length = m := by simp only [ndOf, List.length_map]; exact Hat.out.2.2
    have e2 : (ndOf nd.level (ps.eraseIdx at_)).vals.length = m := by simp only [ndOf, List.length_map]; exact Hat.out.2.2
    refine ⟨ak, ck, av, cv, by rw [e1, e2]; rfl, HK2.out.trans hK9, ?_⟩
    rw [e1, e2]
    exact (((h9.tail.pull 2).tail.pull 2).tail)
  clear h9 hK9 hg hh HFA neFA FA fa0_0 fa0_1 fa0_2 fa1_0 fa1_1 fa1_2 b0 b1 b2 HK2
  go_wp2
  exact bodyPost_ret (v := .tuple #[.agg #[.int .i64 nd.level, .slice ak m ck, .slice av m cv], .nilIface]) (by have y0 := z0.out; have y1 := z1.out; have y2 := z2.out; simp [results, Tryz.results105, go_sem, y0, y1, y2]) rfl HF.out
end Go.Proofs.YtgbgneiciabidaaGreatDoor
/-
  Frames (layer 2): what was put is told again.
-/
namespace Go.Proofs.YtgbgneiciabidaaGreatDoor
open Go Go.RowKit
set_option linter.all false

def ByteRd (w : World) (b o : Nat) (xs : List Int) : Prop := ∀ k (hk : k < xs.length), w.cell? ⟨b, o + k, none⟩ = some (.int .u8 xs[k])
theorem ByteRd.get {w : World} {b o k : Nat} {xs : List Int} {x : Int} (h : ByteRd w b o xs) (hx : xs[k]? = some x) : w.cell? ⟨b, o + k, none⟩ = some (.int .u8 x) := by
  have hk := (List.getElem?_eq_some_iff.1 hx).1
  rw [h k hk]
  rw [List.getElem?_eq_getElem hk] at hx
  rw [Option.some.inj hx]
end Go.Proofs.YtgbgneiciabidaaGreatDoor
/-
  Frames (layer 2): the unpacker.
-/
namespace Go.Proofs.YtgbgneiciabidaaGreatDoor
open Go Go.RowKit
set_option linter.all false

def acc (xs : List Int) : Int := xs.foldl (fun a b => a * 256 + b) 0
theorem wrap_u64 (x : Int) (h0 : 0 ≤ x) (h1 : x < 18446744073709551616) : IntKind.u64.wrap x = x := by
  have : x % 2 ^ 64 = x := Int.emod_eq_of_lt h0 (by omega)
  simp [IntKind.wrap, IntKind.bits, IntKind.signed]
  omega
end Go.Proofs.YtgbgneiciabidaaGreatDoor
/-
  Pages (layer 11): what Adopt is made of: Mark, read; nodes that are the same; a map's copy.
-/
namespace Go.Proofs.YtgbgneiciabidaaGreatDoor
open Go Go.RowKit
set_option linter.all false

def Shelf.mark (y : Shelf) (k : Nat) : Shelf := { y with taken := fun j => j == k || y.taken j }
theorem ShelfOk.mark {y : Shelf} (h : ShelfOk y) {k : Nat} (h2 : 2 ≤ k) (hg : y.given k = false) : ShelfOk (y.mark k) := by
  refine ⟨fun j hj => ?_, h.g2, fun j hj => ?_⟩
  · simp only [Shelf.mark, Bool.or_eq_true, beq_iff_eq] at hj
    rcases hj with rfl | hj
    · exact h2
    · exact h.t2 j hj
  · simp only [Shelf.mark, Bool.or_eq_true, beq_iff_eq] at hj
    rcases hj with rfl | hj
    · exact hg
    · exact h.ne j hj
end Go.Proofs.YtgbgneiciabidaaGreatDoor
/-
  Law 11, plain: pages that are held once each, and given back from the last to the first (PagesHolds).
-/
namespace Go.Proofs.YtgbgneiciabidaaGreatDoor
open Go Go.RowKit
set_option linter.all false

theorem get_cons {α : Type} (k : Int) (p : Int × α) (M : List (Int × α)) : VMap.get k (p :: M) = if p.1 = k then some p.2 else VMap.get k M := by
  unfold VMap.get
  rw [List.find?_cons]
  by_cases h : p.1 = k
  · have : (p.1 == k) = true := by simpa using h
    rw [this, if_pos h]; rfl
  · have : (p.1 == k) = false := by simpa using h
    rw [this, if_neg h]
theorem get_low {α : Type} {k : Int} : ∀ {M : List (Int × α)}, (∀ p ∈ M, k < p.1) → VMap.get k M = none
  | [], _ => rfl
  | p :: M, h => by
    rw [get_cons, if_neg (by have := h p (.head _); omega)]
    exact get_low fun q hq => h q (.tail _ hq)
theorem VMap.ext {α : Type} : ∀ {Q R : List (Int × α)}, VMap.Up Q → VMap.Up R → (∀ k, VMap.get k Q = VMap.get k R) → Q = R
  | [], [], _, _, _ => rfl
  | [], q :: R, _, _, h => by have := h q.1; rw [get_cons, if_pos rfl] at this; cases this
  | p :: Q, [], _, _, h => by have := h p.1; rw [get_cons, if_pos rfl] at this; cases this
  | p :: Q, q :: R, hQ, hR, h => by
    obtain ⟨p1, p2⟩ := List.pairwise_cons.1 hQ
    obtain ⟨q1, q2⟩ := List.pairwise_cons.1 hR
    have e : p.1 = q.1 := by
      rcases Int.lt_trichotomy p.1 q.1 with hlt | he | hgt
      · have h1 := h p.1
        rw [get_cons, if_pos rfl, get_low (M := q :: R) (by intro x hx; rcases List.mem_cons.1 hx with rfl | hx; exact hlt; have := q1 x hx; omega)] at h1
        cases h1
      · exact he
      · have h1 := h q.1
        rw [get_low (M := p :: Q) (by intro x hx; rcases List.mem_cons.1 hx with rfl | hx; exact hgt; have := p1 x hx; omega), get_cons, if_pos rfl] at h1
        cases h1
    have e2 : p.2 = q.2 := by
      have h1 := h p.1
      rw [get_cons, if_pos rfl, get_cons, if_pos e.symm] at h1
      exact Option.some.inj h1
    have e3 : Q = R := VMap.ext p2 q2 fun k => by
      by_cases hk : p.1 = k
      · subst hk
        rw [get_low (M := Q) (fun x hx => p1 x hx), get_low (M := R) (fun x hx => by rw [e]; exact q1 x hx)]
      · have h1 := h k
        rwa [get_cons, if_neg hk, get_cons, if_neg (by rw [← e]; exact hk)] at h1
    obtain ⟨a, b⟩ := p
    obtain ⟨c, d⟩ := q
    simp only at e e2
    subst e e2 e3
    rfl

theorem bump_up {Q : Pgs} (h : VMap.Up Q) (k : Int) : VMap.Up (bump Q k) := by
  unfold bump
  split
  · exact h.put _ _
  · exact h
theorem bumpAll_up : ∀ (ks : List Int) {Q : Pgs}, VMap.Up Q → VMap.Up (bumpAll Q ks)
  | [], _, h => h
  | k :: ks, _, h => bumpAll_up ks (bump_up h k)
theorem get_bump (Q : Pgs) (k j : Int) : VMap.get j (bump Q k) = (VMap.get j Q).map fun g => { g with holds := g.holds + if j = k then 1 else 0 } := by
  unfold bump
  cases hk : VMap.get k Q with
  | none =>
    by_cases h : j = k
    · subst h; rw [hk]; rfl
    · cases hj : VMap.get j Q with
      | none => rfl
      | some g => simp [h]
  | some g =>
    simp only
    rw [get_put]
    by_cases h : j = k
    · subst h; rw [hk]; simp
    · rw [if_neg h]
      cases hj : VMap.get j Q with
      | none => rfl
      | some g => simp [h]
theorem get_bumpAll : ∀ (ks : List Int) (Q : Pgs) (j : Int), VMap.get j (bumpAll Q ks) = (VMap.get j Q).map fun g => { g with holds := g.holds + (ks.count j : Nat) }
  | [], Q, j => by
    show VMap.get j Q = _
    cases VMap.get j Q with
    | none => rfl
    | some g => simp
  | k :: ks, Q, j => by
    show VMap.get j (bumpAll (bump Q k) ks) = _
    rw [get_bumpAll ks, get_bump]
    cases hj : VMap.get j Q with
    | none => rfl
    | some g =>
      simp only [Option.map_some, List.count_cons, Option.some.injEq, Pg.mk.injEq, true_and, and_true]
      by_cases h : j = k
      · subst h; simp; omega
      · have : (k == j) = false := by simp; omega
        simp [h, this]

theorem gone_kids (X : Spc) : ∀ (ks : List Int) {Q : Pgs}, VMap.Up Q → (∀ c ∈ ks, ∃ g, VMap.get c Q = some g ∧ 1 ≤ g.holds ∧ g.holds + ks.length ≤ 1000000000) → GoneK 0 ks (bumpAll Q ks) X Q X
  | [], Q, _, _ => GoneK.nil _ _ _
  | k :: ks, Q, hu, h => by
    obtain ⟨g, hg, h1, h2⟩ := h k (.head _)
    have hget : VMap.get k (bumpAll Q (k :: ks)) = some { g with holds := g.holds + ((k :: ks).count k : Nat) } := by rw [get_bumpAll, hg]; rfl
    have hc : 1 ≤ (k :: ks).count k := by simp
    have hc2 : (k :: ks).count k ≤ (k :: ks).length := List.count_le_length
    refine GoneK.keep hget (by show 1 < g.holds + _; omega) (by show g.holds + _ ≤ _; omega) ?_
    have e : VMap.put k { g with holds := g.holds + ((k :: ks).count k : Nat) + -1 } (bumpAll Q (k :: ks)) = bumpAll Q ks := by
      refine VMap.ext ((bumpAll_up _ hu).put _ _) (bumpAll_up _ hu) fun j => ?_
      rw [get_put, get_bumpAll, get_bumpAll]
      by_cases hj : j = k
      · subst hj
        rw [if_pos rfl, hg]
        simp only [Option.map_some, List.count_cons_self, Option.some.injEq, Pg.mk.injEq, true_and, and_true]
        omega
      · rw [if_neg hj, List.count_cons_of_ne (Ne.symm hj)]
    rw [e]
    refine gone_kids X ks hu fun c hc => ?_
    obtain ⟨g', hg', a1, a2⟩ := h c (.tail _ hc)
    exact ⟨g', hg', a1, by simp only [List.length_cons] at a2; omega⟩

structure HInv (Q : Pgs) (B : Int) : Prop where
  up : VMap.Up Q
  pg : ∀ k g, VMap.get k Q = some g → 1 ≤ g.holds ∧ g.holds ≤ B ∧ g.held = 1 ∧ ∀ c ∈ g.n.kids, (VMap.get c Q).isSome = true
def pushPg (Q : Pgs) (a : Int) (n : Nd) : Pgs := VMap.put a ⟨n, 1, 1⟩ (bumpAll Q n.kids)
theorem named_some {Q : Pgs} {n : Nd} (h : namedErr Q n = .nilIface) : ∀ c ∈ n.kids, (VMap.get c Q).isSome = true := by
  intro c hc
  unfold namedErr at h
  by_cases hm : n.kids.any (missing Q) = true
  · rw [if_pos hm] at h; simp [errV] at h
  · have : missing Q c = false := by
      cases hx : missing Q c with
      | false => rfl
      | true => exact absurd (List.any_eq_true.2 ⟨c, hc, hx⟩) hm
    unfold missing at this
    cases hg : VMap.get c Q with
    | none => rw [hg] at this; simp at this
    | some g => rfl
theorem HInv.push {Q : Pgs} {B : Int} (h : HInv Q B) (hB : 1 ≤ B) {a : Int} {n : Nd} (ha : VMap.get a Q = none) (ok : n.ok = true) (nm : namedErr Q n = .nilIface) : HInv (pushPg Q a n) (B + 7) := by
  have hl := kids_len ok
  have hs := named_some nm
  have hall : ∀ c, (VMap.get c Q).isSome = true → (VMap.get c (pushPg Q a n)).isSome = true := by
    intro c hc
    unfold pushPg
    rw [get_put]
    split
    · rfl
    · rw [bumpAll_some]; exact hc
  refine ⟨(bumpAll_up _ h.up).put _ _, fun k g hg => ?_⟩
  unfold pushPg at hg
  rw [get_put] at hg
  split at hg
  · obtain rfl := Option.some.inj hg
    exact ⟨by show (1 : Int) ≤ 1; omega, by show (1 : Int) ≤ _; omega, rfl, fun c hc => hall c (hs c hc)⟩
  · rw [get_bumpAll] at hg
    cases hk : VMap.get k Q with
    | none => rw [hk] at hg; cases hg
    | some g0 =>
      rw [hk] at hg
      obtain rfl := Option.some.inj hg
      obtain ⟨h1, h2, h3, h4⟩ := h.pg k g0 hk
      have hc : n.kids.count k ≤ n.kids.length := List.count_le_length
      exact ⟨by show 1 ≤ g0.holds + _; omega, by show g0.holds + _ ≤ _; omega, h3, fun c hc => hall c (h4 c hc)⟩
theorem del_push {Q : Pgs} (hu : VMap.Up Q) {a : Int} {n : Nd} (ha : VMap.get a Q = none) : VMap.del a (pushPg Q a n) = bumpAll Q n.kids := by
  unfold pushPg
  rw [del_put _ _ _ (bumpAll_up _ hu)]
  exact del_none (by rw [get_bumpAll, ha]; rfl)
end Go.Proofs.YtgbgneiciabidaaGreatDoor
/-
  Law 11, plain: the stack of pages that were put and held (PagesHolds).
-/
namespace Go.Proofs.YtgbgneiciabidaaGreatDoor
open Go Go.RowKit
set_option linter.all false

structure SInv (X : Spc) : Prop where
  len : X.es.length = X.sh.length
  small : X.sh.length ≤ 8
  ent : ∀ (d : Nat) (e : Ent) (y : Shelf), X.es[d]? = some e → X.sh[d]? = some y → e.st = 1 ∧ y.n = e.size ∧ y.n ≤ 4096
  bits : ∀ (d : Nat) (y : Shelf), X.sh[d]? = some y → ∀ k, y.fresh k = y.taken k ∧ y.given k = false
theorem SInv.fresh {es : List Ent} (h8 : es.length ≤ 8) (h : ∀ e ∈ es, e.st = 1 ∧ e.size ≤ 4096) : SInv (freshSpc es) := by
  refine ⟨by simp [freshSpc], by simpa [freshSpc] using h8, ?_, ?_⟩
  · intro d e y he hy
    simp only [freshSpc, List.getElem?_map] at he hy
    rw [he] at hy
    obtain rfl := (Option.some.inj hy).symm
    have := h e (List.mem_of_getElem? he)
    exact ⟨this.1, rfl, this.2⟩
  · intro d y hy k
    simp only [freshSpc, List.getElem?_map] at hy
    cases he : es[d]? with
    | none => rw [he] at hy; cases hy
    | some e => rw [he] at hy; obtain rfl := (Option.some.inj hy).symm; exact ⟨rfl, rfl⟩
theorem SInv.took {X : Spc} (h : SInv X) {d k : Nat} {y : Shelf} (ht : Takes X d k y) : SInv (X.put d (y.took k)) := by
  have hd := (List.getElem?_eq_some_iff.1 ht.shelf).1
  refine ⟨by simp [Spc.put, h.len], by simpa [Spc.put] using h.small, ?_, ?_⟩
  · intro d' e y' he hy
    by_cases e1 : d' = d
    · subst e1
      simp only [Spc.put, List.getElem?_set_self hd, Option.some.injEq] at hy
      subst hy
      exact h.ent d' e y he ht.shelf
    · simp only [Spc.put, List.getElem?_set_ne (Ne.symm e1)] at hy
      exact h.ent d' e y' he hy
  · intro d' y' hy j
    by_cases e1 : d' = d
    · subst e1
      simp only [Spc.put, List.getElem?_set_self hd, Option.some.injEq] at hy
      subst hy
      obtain ⟨b1, b2⟩ := h.bits d' y ht.shelf j
      exact ⟨by simp only [Shelf.took, b1], b2⟩
    · simp only [Spc.put, List.getElem?_set_ne (Ne.symm e1)] at hy
      exact h.bits d' y' hy j
theorem gave_took {y : Shelf} {k : Nat} (h1 : y.taken k = false) (h2 : y.fresh k = false) : (y.took k).gave k = y := by
  have e1 : (fun j => !(j == k) && (j == k || y.taken j)) = y.taken := by
    funext j
    by_cases hj : j = k
    · subst hj; simp [h1]
    · have : (j == k) = false := by simpa using hj
      simp [this]
  have e2 : (fun j => !(j == k) && (j == k || y.fresh j)) = y.fresh := by
    funext j
    by_cases hj : j = k
    · subst hj; simp [h2]
    · have : (j == k) = false := by simpa using hj
      simp [this]
  obtain ⟨n, t, f, g⟩ := y
  simp only [Shelf.gave, Shelf.took, BEq.rfl, Bool.true_or, if_true] at e1 e2 ⊢
  rw [e1, e2]
theorem SInv.gives {X : Spc} (h : SInv X) {d k : Nat} {y : Shelf} (ht : Takes X d k y) : Gives (X.put d (y.took k)) (lenV d k) X := by
  have hd := (List.getElem?_eq_some_iff.1 ht.shelf).1
  have hes : X.es[d]? = some (X.es[d]'(by rw [h.len]; exact hd)) := List.getElem?_eq_getElem _
  obtain ⟨s1, s2, s3⟩ := h.ent d _ y hes ht.shelf
  have hfree := ht.free
  simp only [Shelf.busy, Bool.or_eq_false_iff] at hfree
  have hfr : y.fresh k = false := by rw [(h.bits d y ht.shelf k).1]; exact hfree.1
  have hhi := ht.hi
  have h8 := h.small
  refine ⟨d, k, _, y.took k, rfl, ⟨hes, by simp only [Spc.put, List.getElem?_set_self hd], by rw [s1]; decide, ht.lo, by rw [← s2]; exact ht.hi⟩, by simp [Shelf.took], by omega, by omega, ?_⟩
  rw [gave_took hfree.1 hfr]
  obtain ⟨es, sh⟩ := X
  simp only [Spc.put, List.set_set, Spc.mk.injEq, true_and]
  have hy := ht.shelf
  simp only at hy hd
  refine (List.ext_getElem? fun i => ?_)
  by_cases hi : i = d
  · subst hi; rw [List.getElem?_set_self hd, hy]
  · rw [List.getElem?_set_ne (Ne.symm hi)]

inductive Stk (X0 : Spc) : List Int → Pgs → Spc → Prop
  | nil : Stk X0 [] [] X0
  | push {hs : List Int} {Q : Pgs} {X : Spc} {d k : Nat} {y : Shelf} {n : Nd} : Stk X0 hs Q X → Takes X d k y → VMap.get (lenV d k) Q = none → n.ok = true → namedErr Q n = .nilIface → Stk X0 (lenV d k :: hs) (pushPg Q (lenV d k) n) (X.put d (y.took k))
theorem Stk.inv {X0 : Spc} (h0 : SInv X0) {hs : List Int} {Q : Pgs} {X : Spc} (h : Stk X0 hs Q X) : HInv Q (1 + 7 * hs.length) ∧ SInv X := by
  induction h with
  | nil => exact ⟨⟨List.Pairwise.nil, fun k g hg => by simp [VMap.get] at hg⟩, h0⟩
  | push hst ht ha ok nm ih =>
    refine ⟨?_, ih.2.took ht⟩
    have := ih.1.push (by omega) ha ok nm
    rw [List.length_cons]
    have e : ∀ m : Nat, (1 + 7 * ((m + 1 : Nat) : Int)) = 1 + 7 * (m : Int) + 7 := fun m => by omega
    rw [e]; exact this
theorem Stk.pop {X0 : Spc} (h0 : SInv X0) {a : Int} {hs : List Int} {Q' : Pgs} {X' : Spc} (h : Stk X0 (a :: hs) Q' X') (hl : hs.length ≤ 1000) :
    ∃ n Q X, Stk X0 hs Q X ∧ VMap.get a Q' = some ⟨n, 1, 1⟩ ∧ GoneFrom 0 a Q' X' Q X := by
  cases h with
  | push hst ht ha ok nm =>
    rename_i Q X d k y n
    obtain ⟨hi, si⟩ := hst.inv h0
    have hg : VMap.get (lenV d k) (pushPg Q (lenV d k) n) = some ⟨n, 1, 1⟩ := by unfold pushPg; rw [get_put, if_pos rfl]
    refine ⟨n, Q, X, hst, hg, ?_⟩
    intro g hg'
    rw [hg] at hg'
    obtain rfl := Option.some.inj hg'
    refine ⟨X, si.gives ht, ?_⟩
    rw [del_push hi.up ha]
    refine gone_kids X n.kids hi.up fun c hc => ?_
    have hs := named_some nm c hc
    obtain ⟨g, hgc⟩ := Option.isSome_iff_exists.1 hs
    obtain ⟨b1, b2, _⟩ := hi.pg c g hgc
    have := kids_len ok
    exact ⟨g, hgc, b1, by omega⟩
end Go.Proofs.YtgbgneiciabidaaGreatDoor
/-
  Pages (layer 11): a store of which the rows are told; pages that are taken up (Adopt), plain.
-/
namespace Go.Proofs.YtgbgneiciabidaaGreatDoor
open Go Go.RowKit
set_option linter.all false

def stT (p bank sp : Nat) (T : List (Int × Sl)) : Say := ex fun mb : Nat => fact (StOk (VMap.over Sl.pg T) ⟨mb, T⟩) (all (storeFlat p bank sp 32768 ⟨mb, T⟩))
theorem Has.stT_open {w : World} {l : List Say} {p bank sp : Nat} {T : List (Int × Sl)} (h : Has w (stT p bank sp T :: l)) : ∃ mb, StOk (VMap.over Sl.pg T) ⟨mb, T⟩ ∧ Has w (storeFlat p bank sp 32768 ⟨mb, T⟩ ++ l) := by
  obtain ⟨mb, h⟩ := h.opened
  obtain ⟨ok, h⟩ := h.unfact
  exact ⟨mb, ok, h.split⟩
def SameT (T T' : List (Int × Sl)) : Prop := ∀ k t, VMap.get k T = some t → ∃ t', VMap.get k T' = some t' ∧ t'.kv = t.kv ∧ t'.vv = t.vv ∧ t'.pg.n = t.pg.n
theorem SameT.refl (T : List (Int × Sl)) : SameT T T := fun k t h => ⟨t, h, rfl, rfl, rfl⟩
theorem SameT.trans {T U V : List (Int × Sl)} (h : SameT T U) (h2 : SameT U V) : SameT T V := fun k t ht => by
  obtain ⟨u, hu, a, b, c⟩ := h k t ht
  obtain ⟨v, hv, a', b', c'⟩ := h2 k u hu
  exact ⟨v, hv, a'.trans a, b'.trans b, c'.trans c⟩
def Marks (X : Spc) (a : Int) (X' : Spc) : Prop := ∃ d k e y, a = lenV d k ∧ InRoom X d k e y ∧ y.taken k = false ∧ y.given k = false ∧ d < 8 ∧ k < 4096 ∧ X' = X.put d (y.mark k)
inductive AdK (F : Pgs) : Nat → List Int → Pgs → Spc → Pgs → Spc → Prop
  | nil (d : Nat) (Q : Pgs) (X : Spc) : AdK F d [] Q X Q X
  | there {d : Nat} {k : Int} {ks : List Int} {Q : Pgs} {X : Spc} {Q' : Pgs} {X' : Spc} {g : Pg} : VMap.get k Q = some g → 0 ≤ g.holds → g.holds ≤ 1000000 → AdK F d ks (VMap.put k { g with holds := g.holds + 1 } Q) X Q' X' → AdK F d (k :: ks) Q X Q' X'
  | new {d : Nat} {k : Int} {ks : List Int} {Q : Pgs} {X X1 : Spc} {Q2 : Pgs} {X2 : Spc} {Q' : Pgs} {X' : Spc} {gf : Pg} : VMap.get k Q = none → VMap.get k F = some gf → Marks X k X1 → AdK F d gf.n.kids (VMap.put k ⟨gf.n, 1, 0⟩ Q) X1 Q2 X2 → AdK F (d + 1) ks Q2 X2 Q' X' → AdK F (d + 1) (k :: ks) Q X Q' X'
theorem AdK.inv {F : Pgs} {d : Nat} {k : Int} {ks : List Int} {Q : Pgs} {X : Spc} {Q' : Pgs} {X' : Spc} (h : AdK F d (k :: ks) Q X Q' X') :
    (∃ g, VMap.get k Q = some g ∧ 0 ≤ g.holds ∧ g.holds ≤ 1000000 ∧ AdK F d ks (VMap.put k { g with holds := g.holds + 1 } Q) X Q' X') ∨
    ∃ d1 X1 Q2 X2 gf, d = d1 + 1 ∧ VMap.get k Q = none ∧ VMap.get k F = some gf ∧ Marks X k X1 ∧ AdK F d1 gf.n.kids (VMap.put k ⟨gf.n, 1, 0⟩ Q) X1 Q2 X2 ∧ AdK F (d1 + 1) ks Q2 X2 Q' X' := by
  cases h with
  | there a b c e => exact .inl ⟨_, a, b, c, e⟩
  | new a b c e f => exact .inr ⟨_, _, _, _, _, rfl, a, b, c, e, f⟩
theorem AdK.one {F : Pgs} {d : Nat} {k : Int} {ks : List Int} {Q : Pgs} {X : Spc} {Q' : Pgs} {X' : Spc} (h : AdK F d (k :: ks) Q X Q' X') : ∃ Q1 X1, AdK F d [k] Q X Q1 X1 ∧ AdK F d ks Q1 X1 Q' X' := by
  cases h with
  | there a b c e => exact ⟨_, _, .there a b c (.nil _ _ _), e⟩
  | new a b c e f => exact ⟨_, _, .new a b c e (.nil _ _ _), f⟩
def SubP (Q F : Pgs) : Prop := ∀ k g, VMap.get k Q = some g → ∃ gf, VMap.get k F = some gf ∧ gf.n = g.n
theorem SubP.there {Q F : Pgs} {k : Int} {g g' : Pg} (h : SubP Q F) (hg : VMap.get k Q = some g) (hn : g'.n = g.n) : SubP (VMap.put k g' Q) F := fun j x hx => by
  rw [get_put] at hx
  by_cases e : j = k
  · subst e
    rw [if_pos rfl] at hx
    obtain rfl := Option.some.inj hx
    rw [hn]; exact h _ g hg
  · rw [if_neg e] at hx; exact h j x hx
theorem SubP.new {Q F : Pgs} {k : Int} {gf g' : Pg} (h : SubP Q F) (hf : VMap.get k F = some gf) (hn : g'.n = gf.n) : SubP (VMap.put k g' Q) F := fun j x hx => by
  rw [get_put] at hx
  by_cases e : j = k
  · subst e
    rw [if_pos rfl] at hx
    obtain rfl := Option.some.inj hx
    exact ⟨gf, hf, hn.symm⟩
  · rw [if_neg e] at hx; exact h j x hx
theorem AdK.sub {F : Pgs} {d : Nat} {ks : List Int} {Q : Pgs} {X : Spc} {Q' : Pgs} {X' : Spc} (h : AdK F d ks Q X Q' X') (hs : SubP Q F) : SubP Q' F := by
  induction h with
  | nil => exact hs
  | there a b c e ih => exact ih (hs.there a rfl)
  | new a b c e f ih1 ih2 => exact ih2 (ih1 (hs.new b rfl))
theorem AdK.stays {F : Pgs} {d : Nat} {ks : List Int} {Q : Pgs} {X : Spc} {Q' : Pgs} {X' : Spc} (h : AdK F d ks Q X Q' X') : ∀ j, (VMap.get j Q).isSome = true → (VMap.get j Q').isSome = true := by
  induction h with
  | nil => exact fun _ h => h
  | there a b c e ih =>
    intro j hj
    refine ih j ?_
    rw [get_put]; split
    · rfl
    · exact hj
  | new a b c e f ih1 ih2 =>
    intro j hj
    refine ih2 j (ih1 j ?_)
    rw [get_put]; split
    · rfl
    · exact hj
theorem AdK.has {F : Pgs} {d : Nat} {ks : List Int} {Q : Pgs} {X : Spc} {Q' : Pgs} {X' : Spc} (h : AdK F d ks Q X Q' X') : ∀ k ∈ ks, (VMap.get k Q').isSome = true := by
  induction h with
  | nil => intro k hk; cases hk
  | there a b c e ih =>
    intro j hj
    rcases List.mem_cons.1 hj with rfl | hj
    · exact e.stays _ (by rw [get_put, if_pos rfl]; rfl)
    · exact ih j hj
  | new a b c e f ih1 ih2 =>
    intro j hj
    rcases List.mem_cons.1 hj with rfl | hj
    · exact f.stays _ (e.stays _ (by rw [get_put, if_pos rfl]; rfl))
    · exact ih2 j hj
theorem SubP.lv {Q F : Pgs} (h : SubP Q F) {c : Int} {gc : Pg} (hs : (VMap.get c Q).isSome = true) (hf : VMap.get c F = some gc) : lvOf Q c = gc.n.level := by
  obtain ⟨g, hg⟩ := Option.isSome_iff_exists.1 hs
  obtain ⟨gf, h1, h2⟩ := h c g hg
  rw [hf] at h1
  obtain rfl := Option.some.inj h1
  unfold lvOf
  rw [hg, h2]; rfl
end Go.Proofs.YtgbgneiciabidaaGreatDoor
/-
  Pages (layer 11): adopt, the walk.
-/
namespace Go.Proofs.YtgbgneiciabidaaGreatDoor
open Go Go.RowKit
set_option linter.all false

def AdSt (p bank sp N m : Nat) (disks : List Dsk) (T : List (Int × Sl)) (X : Spc) (l : List Say) (w : World) : Prop :=
  ∃ ms am cm, ms.length ≤ T.length ∧ Has w (stT p bank sp T :: bankS N bank disks :: spaceS sp X :: pts m (.cells #[.slice am ms.length cm] 22 (0, 0)) :: intsS (.slice am ms.length cm) ms :: l)
theorem AdSt.len {p bank sp N m : Nat} {disks : List Dsk} {T : List (Int × Sl)} {X : Spc} {l : List Say} {w : World} (h : AdSt p bank sp N m disks T X l w) : T.length ≤ 32768 := by
  obtain ⟨ms, am, cm, _, hh⟩ := h
  obtain ⟨mb, ok, _⟩ := hh.stT_open
  have := up_len 32768 T 0 ok.up fun q hq => by
    have hm : (q.1, q.2.pg) ∈ VMap.over Sl.pg T := List.mem_map.2 ⟨q, hq, rfl⟩
    exact ok.bd _ hm
  omega

end Go.Proofs.YtgbgneiciabidaaGreatDoor
/-
  Law 11: pages that are named or held stay; when all holds are given back none is left (PagesHolds), what its walk is told by.
-/
namespace Go.Proofs.YtgbgneiciabidaaGreatDoor
open Go Go.RowKit
set_option linter.all false

theorem Stk.holds {X0 : Spc} (h0 : SInv X0) {hs : List Int} {Q : Pgs} {X : Spc} (h : Stk X0 hs Q X) (hl : hs.length ≤ 100) : HoldsTo Q 1000000 := by
  intro k g hg
  obtain ⟨h1, h2, _⟩ := (h.inv h0).1.pg k g hg
  omega
theorem push_some (Q : Pgs) (a : Int) (n : Nd) (k : Int) : (VMap.get k (pushPg Q a n)).isSome = (decide (k = a) || (VMap.get k Q).isSome) := by
  unfold pushPg
  rw [get_put]
  by_cases h : k = a
  · simp [h]
  · simp [h, bumpAll_some]
end Go.Proofs.YtgbgneiciabidaaGreatDoor
