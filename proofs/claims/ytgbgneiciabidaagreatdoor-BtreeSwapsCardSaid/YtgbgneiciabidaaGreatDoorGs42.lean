/-
  Rosters (layer 5): a device is to be left (Drain).
-/
import Derived.Test.YtgbgneiciabidaaGreatDoorGs41
import Derived.Test.YtgbgneiciabidaaGreatDoorGs2
import Derived.Test.YtgbgneiciabidaaGreatDoorGs14
import Derived.Test.YtgbgneiciabidaaGreatDoorGs10
import Derived.Test.YtgbgneiciabidaaGreatDoorGs11
import Derived.Test.YtgbgneiciabidaaGreatDoorGs40
import Derived.Test.YtgbgneiciabidaaGreatDoorGs37
namespace Go.Proofs.YtgbgneiciabidaaGreatDoor
open Go Go.RowKit
set_option linter.all false
set_option maxHeartbeats 8000000
theorem turn_set (es : List Ent) : ∀ (d : Nat) (e : Ent) (s : Nat), es[d]? = some e -> (es.flatMap Ent.cells).set (d * 2) (.int .i64 (s : Int)) = ((es.set d ⟨s, e.size⟩).flatMap Ent.cells) := by
 induction es with
 | nil => intro d e s h; simp at h
 | cons a es ih =>
  intro d e s h
  cases d with
  | zero =>
   have h1 : a = e := by simpa using h
   subst h1
   rfl
  | succ d =>
   have h1 : es[d]? = some e := by simpa using h
   rw [List.set_cons_succ, List.flatMap_cons, List.flatMap_cons, <- ih d e s h1, List.set_append_right _ _ (by simp [Ent.cells]; omega)]
   congr 1
   simp only [Ent.cells, List.length_cons, List.length_nil]
   congr 1
   omega
theorem Has.row_setN {w : World} {l : List Say} {e : TypeId} {size g n c : Nat} {xs : List Value} (h : Has w (rowS e size (.slice (some ⟨g, 0, none⟩) n c) n xs :: l)) (j : Nat) (u : Value) :
  Has (w.setCell ⟨g, j, none⟩ u) (rowS e size (.slice (some ⟨g, 0, none⟩) n c) n (xs.set j u) :: l) := by
 obtain ⟨h1, h2, ⟨hl, hc⟩, hrest, d1, d2⟩ := h
 rcases hc with ⟨hv, _⟩ | ⟨g', cap, cur, hv, hg, hn, hcm, hs, ht⟩
 ·cases hv
 ·cases hv
  have hp : Has w (pts g (.cells cur e (0, 0)) :: l) := ⟨h1, h2, hg, hrest, d1, d2⟩
  refine (hp.setCell j u).row_of_pts (by simpa using hl) hn hcm (by simpa using hs) ?_
  rw [Array.toList_setIfInBounds, List.take_set, ht]
theorem Has.ent_turn {w : World} {l : List Say} {g n c d : Nat} {es : List Ent} {e : Ent} (h : Has w (entS (.slice (some ⟨g, 0, none⟩) n c) es :: l)) (hn : n = es.length) (he : es[d]? = some e) (s : Nat) :
  Has (w.setCell ⟨g, d * 2, none⟩ (.int .i64 (s : Int))) (entS (.slice (some ⟨g, 0, none⟩) n c) (es.set d ⟨s, e.size⟩) :: l) := by
 subst hn
 have h1 := Has.row_setN h (d * 2) (.int .i64 (s : Int))
 rw [turn_set es d e s he] at h1
 unfold entS
 rw [List.length_set]
 exact h1
set_option maxRecDepth 100000 in
theorem ros_turn1 {w : World} {l : List Say} {g n c d b2 b3 : Nat} {es : List Ent} {sz : Nat} (h : Has w (entS (.slice (some ⟨g, 0, none⟩) n c) es :: l)) (h2 : pts b2 (.cells #[.int .i64 1] 3 (0, 0)) ∈ l) (h3 : pts b3 (.cells #[.int .i64 2] 3 (0, 0)) ∈ l) (hn : n = es.length) (he : es[d]? = some ⟨1, sz⟩) :
  Calls Tryz.prog 174 #[.pointer (some ⟨g, d * 2, none⟩), .pointer (some ⟨b2, 0, none⟩), .pointer (some ⟨b3, 0, none⟩)] w fun r w' => r = .returned .nilIface /\ Kept w w' /\ Has w' (entS (.slice (some ⟨g, 0, none⟩) n c) (es.set d ⟨2, sz⟩) :: l) := by
 obtain ⟨_, _, hv, _, hr⟩ := h.ent_read (v := .slice (some ⟨g, 0, none⟩) n c) (es := es) (.head _)
 injection hv with j1 j2 j3
 subst j1
 obtain ⟨g', hg', d0, d1⟩ := hr d _ he
 injection hg' with hg'
 injection hg' with hg'
 subst hg'
 have c2 : w.cell? ⟨b2, 0, none⟩ = some (.int .i64 1) := cell_of (h.at (.tail _ h2)) 0 rfl
 have c3 : w.cell? ⟨b3, 0, none⟩ = some (.int .i64 2) := cell_of (h.at (.tail _ h3)) 0 rfl
 have l2 := World.block_lt_of_cell? _ _ c2
 have l3 := World.block_lt_of_cell? _ _ c3
 have l0 := World.block_lt_of_cell? _ _ d0
 have d0' : w.cell? ⟨g, d * 2, none⟩ = some (.int .i64 1) := d0
 have H := Lib.hid h
 have HX := Lib.hid (And.intro hn he)
 have fz : w.frozen? ⟨g, d * 2, none⟩ = false := by
  obtain ⟨_, h4⟩ := h.row_own (e := 139) (size := 2) (v := .slice (some ⟨g, 0, none⟩) n c) (n := es.length) (xs := es.flatMap Ent.cells) (.head _)
  rcases h4 with ⟨hv, _⟩ | ⟨g', cap, cur, hv, _, hg, _⟩
  ·cases hv
  ·injection hv with j1
   injection j1 with j1
   injection j1 with j1
   subst j1
   exact thaw_of hg _
 clear h h2 h3 hn he hr d0 d1 j2 j3
 go_enter Tryz.func174, Tryz.ntmps174
 go_wp2
 go_quiet (fail)
 go_wp2
 go_ret
 exact ⟨rfl, ((Kept.refl w).drewN nq).setCell _ _, (H.out.drewN nq).ent_turn HX.out.1 HX.out.2 2⟩
theorem ros_turn {w : World} {l : List Say} (h : Has w l) : Calls Tryz.prog 117 #[.int .i64 1, .int .i64 2] w fun r w' => ∃ b2 b3, r = .returned (.func (.func 174) #[] #[.pointer (some ⟨b2, 0, none⟩), .pointer (some ⟨b3, 0, none⟩)]) /\ Kept w w' /\ Has w' (pts b2 (.cells #[.int .i64 1] 3 (0, 0)) :: pts b3 (.cells #[.int .i64 2] 3 (0, 0)) :: l) := by
 have h1 := (h.alloc (.cells #[.int .i64 1] 3)).alloc (.cells #[.int .i64 2] 3)
 rw [World.size_alloc] at h1
 have HF : Hid (Kept w ((w.alloc (.cells #[.int .i64 1] 3)).alloc (.cells #[.int .i64 2] 3)) /\ Has ((w.alloc (.cells #[.int .i64 1] 3)).alloc (.cells #[.int .i64 2] 3)) (pts w.heap.size (.cells #[.int .i64 1] 3 (0, 0)) :: pts (w.heap.size + 1) (.cells #[.int .i64 2] 3 (0, 0)) :: l)) := ⟨((Kept.refl w).alloc _).alloc _, h1.swap⟩
 clear h h1
 go_enter Tryz.func117, Tryz.ntmps117
 go_wp2
 go_ret
 exact ⟨_, _, rfl, HF.out⟩
def WithPost (es : List Ent) (l : List Say) (w : World) (r : Ending) (w' : World) : Prop := ∃ q c, r = .returned (.tuple #[.agg #[.slice q es.length c], .nilIface]) /\ Kept w w' /\ Has w' (entS (.slice q es.length c) es :: l)
set_option maxRecDepth 100000 in
theorem ros_with {w : World} {l : List Say} {v : Value} {es : List Ent} {d sz b2 b3 : Nat} (h : Has w l) (hm : entS v es ∈ l) (hE : OkEnts es) (h2 : pts b2 (.cells #[.int .i64 1] 3 (0, 0)) ∈ l) (h3 : pts b3 (.cells #[.int .i64 2] 3 (0, 0)) ∈ l) (he : es[d]? = some ⟨1, sz⟩) :
  Calls Tryz.prog 116 #[.agg #[v], .int .i64 d, .func (.func 174) #[] #[.pointer (some ⟨b2, 0, none⟩), .pointer (some ⟨b3, 0, none⟩)]] w (WithPost (es.set d ⟨2, sz⟩) l w) := by
 have hl := hE.len
 have hd := (List.getElem?_eq_some_iff.1 he).1
 have hne : es ≠ [] := by rintro rfl; simp at he
 obtain ⟨g, c, rfl, hc⟩ := h.ent_cells hm hne
 obtain ⟨n, hn⟩ : ∃ n, es.length = n := ⟨_, rfl⟩
 rw [hn] at hm hl hd ⊢
 obtain ⟨W, hW⟩ : ∃ W, W = (w.alloc (.cells #[.slice (some ⟨g, 0, none⟩) n c] 58)).alloc (.cells #[.slice none 0 0] 58) := ⟨_, rfl⟩
 have hWh : Has W (pts (w.heap.size + 1) (.cells #[.slice none 0 0] 58) :: pts w.heap.size (.cells #[.slice (some ⟨g, 0, none⟩) n c] 58) :: l) := by
  rw [hW]
  have := (h.alloc (.cells #[.slice (some ⟨g, 0, none⟩) n c] 58)).alloc (.cells #[.slice none 0 0] 58)
  simpa using this
 have HCk := Lib.hid (ros_Check (v := .slice (some ⟨g, 0, none⟩) n c) (es := es) hWh (.tail _ (.tail _ hm)) hE)
 have HK : Hid (Kept w W) := by rw [hW]; exact ((Kept.refl w).alloc _).alloc _
 have HWh := Lib.hid hWh
 have HX := Lib.hid (And.intro hm (And.intro hE (And.intro h2 (And.intro h3 (And.intro he (And.intro hne hW))))))
 have Hn := Lib.hid hn
 have d0 : decide ((d : Int) < 0) = false := by simp
 have d1 : decide ((n : Int) <= (d : Int)) = false := by simp; omega
 have d2 : decide (n <= d) = false := by simp; omega
 have d3 : ¬ (n : Int) <= (d : Int) := by omega
 have dI : (d : Int) < (n : Int) := by omega
 clear h hm hE h2 h3 he hne hWh hc hn
 go_enter Tryz.func116, Tryz.ntmps116
 go_wp2_with fail
 rw [<- HX.out.2.2.2.2.2.2]
 generalize w.heap.size + 1 = r6 at *
 generalize w.heap.size = r3 at *
 refine HCk.out.mono ?_
 rintro r w1 ⟨rfl, hb1⟩
 have h1 := HWh.out.below hb1
 have HK1 := Lib.hid (HK.out.trans (Kept.below hb1))
 have cb : w1.cell? ⟨r3, 0, none⟩ = some (.slice (some ⟨g, 0, none⟩) n c) := cell_of h1.tail.got 0 rfl
 have lb := World.block_lt_of_cell? _ _ cb
 have hcc : ∀ j u, (es.flatMap Ent.cells)[j]? = some u -> w1.cell? ⟨g, 0 + j, none⟩ = some u := by
  obtain ⟨g', c', hv, hc⟩ := h1.ent_cells (v := .slice (some ⟨g, 0, none⟩) n c) (.tail _ (.tail _ HX.out.1)) HX.out.2.2.2.2.2.1
  injection hv with hv
  injection hv with hv
  injection hv with hv
  subst hv
  exact hc
 have HC := clone_ent h1 g 0 es.length c (es.flatMap Ent.cells) (flat_len es) hcc (ent_one es) (by simp [maxLen]; have := Hn.out; omega) (by have := Hn.out; omega)
 rw [Hn.out] at HC
 have HC := Lib.hid HC
 clear h1 hb1 HWh HCk HK hcc
 go_wp2_with fail
 refine HC.out.mono ?_
 rintro r w2 ⟨v1, rfl, hK2, h2⟩
 have h3 : Has w2 (entS v1 es :: pts r6 (.cells #[.slice none 0 0] 58 (0, 0)) :: pts r3 (.cells #[.slice (some ⟨g, 0, none⟩) n c] 58 (0, 0)) :: l) := by
  unfold entS
  rw [Hn.out]
  exact h2
 obtain ⟨g1, c1, rfl, _⟩ := h3.ent_cells (v := v1) (.head _) HX.out.2.2.2.2.2.1
 rw [Hn.out] at h3 ⊢
 have HT := Lib.hid (ros_turn1 h3 (d := d) (sz := sz) (b2 := b2) (b3 := b3) (.tail _ (.tail _ HX.out.2.2.1)) (.tail _ (.tail _ HX.out.2.2.2.1)) Hn.out.symm HX.out.2.2.2.2.1)
 have HK2 := Lib.hid (HK1.out.trans hK2)
 have ht := h3.row_own (e := 139) (size := 2) (v := .slice (some ⟨g1, 0, none⟩) n c1) (n := es.length) (xs := es.flatMap Ent.cells) (.head _)
 have lg1 : g1 < w2.heap.size := by
  obtain ⟨_, ht⟩ := ht
  rcases ht with ⟨hv, _⟩ | ⟨g', cap, cur, hv, _, hg, _⟩
  ·cases hv
  ·injection hv with hv
   injection hv with hv
   injection hv with hv
   subst hv
   exact (Array.getElem?_eq_some_iff.1 hg).1
 clear hK2 h2 h3 HC HK1 cb lb ht
 go_wp2_with fail
 refine HT.out.mono ?_
 rintro r w3 ⟨rfl, hK3, h4⟩
 have h5 := h4.pull 1
 have hp := h5.got
 have f1 := thaw_of hp 0
 have z1 : w3.cell? ⟨r6, 0, none⟩ = some (.slice none 0 0) := cell_of hp 0 rfl
 have lz := World.block_lt_of_cell? _ _ z1
 have H6 := Lib.hid (h5.setCell 0 (.slice (some ⟨g1, 0, none⟩) n c1))
 have HK3 := Lib.hid (HK2.out.trans hK3)
 clear hK3 h4 h5 hp HT HK2
 go_wp2
 refine bodyPost_ret (v := .tuple #[.agg #[.slice (some ⟨g1, 0, none⟩) n c1], .nilIface]) (by simp [results, Tryz.results116, go_sem, z1]) rfl ⟨some ⟨g1, 0, none⟩, c1, ?_, HK3.out.setCell _ _, ?_⟩
 ·rw [List.length_set, Hn.out]
 ·rw [List.length_set, Hn.out]
  exact H6.out.tail.swap.tail
theorem entS_len {v : Value} {es : List Ent} {w : World} {l : List Say} (h : Has w l) (hm : entS v es ∈ l) : ∃ a c, v = .slice a es.length c := by
 obtain ⟨a, c, hv, _⟩ := h.ent_read hm
 exact ⟨a, c, hv⟩
set_option maxRecDepth 100000 in
theorem ros_Drain {w : World} {l : List Say} {v : Value} {es : List Ent} {d sz : Nat} (h : Has w l) (hm : entS v es ∈ l) (hE : OkEnts es) (hE2 : OkEnts (es.set d ⟨2, sz⟩)) (he : es[d]? = some ⟨1, sz⟩) (ha : 0 < (actives (es.set d ⟨2, sz⟩)).length) :
  Calls Tryz.prog 62 #[.agg #[v], .int .i64 d] w (WithPost (es.set d ⟨2, sz⟩) l w) := by
 obtain ⟨a, c, rfl⟩ := entS_len h hm
 obtain ⟨n, hn⟩ : ∃ n, es.length = n := ⟨_, rfl⟩
 rw [hn] at hm ⊢
 have h1 : Has ((w.alloc (.cells #[.slice a n c] 58)).alloc (.cells #[.slice none 0 0] 58)) (pts (w.heap.size + 1) (.cells #[.slice none 0 0] 58 (0, 0)) :: pts w.heap.size (.cells #[.slice a n c] 58 (0, 0)) :: l) := by
  have := (h.alloc (.cells #[.slice a n c] 58)).alloc (.cells #[.slice none 0 0] 58)
  simpa using this
 have HK : Hid (Kept w ((w.alloc (.cells #[.slice a n c] 58)).alloc (.cells #[.slice none 0 0] 58))) := ((Kept.refl w).alloc _).alloc _
 have HX := Lib.hid (And.intro hm (And.intro hE (And.intro hE2 (And.intro he (And.intro ha hn)))))
 have HH := Lib.hid h1
 clear h hm hE hE2 he ha hn h1
 go_enter Tryz.func62, Tryz.ntmps62
 go_upto_region 1 with fail
 generalize (w.alloc (.cells #[.slice a n c] 58)).alloc (.cells #[.slice none 0 0] 58) = W at *
 generalize w.heap.size + 1 = r4 at *
 generalize w.heap.size = r2 at *
 have hh := HH.out
 have c2 : W.cell? ⟨r2, 0, none⟩ = some (.slice a n c) := cell_of hh.tail.got 0 rfl
 clear HH
 obtain ⟨FA, HFA⟩ : ∃ FA : List (Nat × Addr × Value), Hid (FA = [(0, ⟨r2, 0, none⟩, .slice a n c)]) := ⟨_, rfl⟩
 have fa0 : ∀ nI : In (factsOf FA 0), nI.w.cell? ⟨r2, 0, none⟩ = some (.slice a n c) := fun nI => factsOf.cell (by rw [HFA.out]; simp) nI
 have hFA : ∀ p ∈ FA, W.cell? p.2.1 = some p.2.2 := by rw [HFA.out]; exact (fcons c2 fnil)
 haveI neFA : ∀ k, Nonempty (In (factsOf FA k)) := fun k => ⟨⟨_, factsOf.drew hFA k⟩⟩
 refine ws_begin [0, 1, 2, 3, 4, 5, 6, 7, 8, 9] (factsOf FA) (pts r4 (.cells #[.slice none 0 0] 58 (0, 0)) :: pts r2 (.cells #[.slice a n c] 58 (0, 0)) :: l) #[0, 0, 0, 7, 15, 31, 31, 0, 191, 511] (by kernel_rfl) (by kernel_rfl) (by kernel_rfl) factsOf.alloc (factsOf.drew hFA) hh ?_
 clear hFA
 iterate 2 (refine ws_q (at_lit rfl) rfl rfl rfl ?_; go_big_quiet_op; show WS _ _ _ _ _ _ _ _ _ _)
 refine ws_call (at_lit rfl) rfl rfl 117 #[.int .i64 1, .int .i64 2] (fun w => by go_simp) (fun u L' => ∃ b2 b3, u = .func (.func 174) #[] #[.pointer (some ⟨b2, 0, none⟩), .pointer (some ⟨b3, 0, none⟩)] /\ L' = pts b2 (.cells #[.int .i64 1] 3 (0, 0)) :: pts b3 (.cells #[.int .i64 2] 3 (0, 0)) :: pts r4 (.cells #[.slice none 0 0] 58 (0, 0)) :: pts r2 (.cells #[.slice a n c] 58 (0, 0)) :: l) (fun w' F hS hh => ?_) ?_
 ·refine (ros_turn hh).mono ?_
  rintro r w'' ⟨b2, b3, rfl, hK, hh'⟩
  exact ⟨_, _, rfl, hK, ⟨b2, b3, rfl, rfl⟩, hh'⟩
 rintro _ _ ⟨b2, b3, rfl, rfl⟩
 refine ⟨fun w F hh => lives (l' := [(0, ⟨r2, 0, none⟩, .slice a n c)]) (by rw [HFA.out]; simp [liveFacts, Nat.testBit]) (fcons (cell_of (hh.at (b := r2) (o := .cells #[.slice a n c] 58 (0, 0)) (by simp)) 0 rfl) <| fnil), ?_⟩
 simp only [Act.put, List.setIfInBounds_toArray, List.set_cons_zero, List.set_cons_succ]
 show WS _ _ _ _ _ _ _ _ _ _
 refine ws_call (at_lit rfl) rfl rfl 116 #[.agg #[.slice a n c], .int .i64 d, .func (.func 174) #[] #[.pointer (some ⟨b2, 0, none⟩), .pointer (some ⟨b3, 0, none⟩)]] (fun w => by go_simp) (fun u L' => ∃ q cc, u = .tuple #[.agg #[.slice q n cc], .nilIface] /\ L' = entS (.slice q n cc) (es.set d ⟨2, sz⟩) :: pts b2 (.cells #[.int .i64 1] 3 (0, 0)) :: pts b3 (.cells #[.int .i64 2] 3 (0, 0)) :: pts r4 (.cells #[.slice none 0 0] 58 (0, 0)) :: pts r2 (.cells #[.slice a n c] 58 (0, 0)) :: l) (fun w' F hS hh => ?_) ?_
 ·refine (ros_with (v := .slice a n c) (es := es) (d := d) (sz := sz) (b2 := b2) (b3 := b3) hh (by simp [HX.out.1]) HX.out.2.1 (by simp) (by simp) HX.out.2.2.2.1).mono ?_
  rintro r w'' ⟨q, cc, rfl, hK, hh'⟩
  rw [List.length_set, HX.out.2.2.2.2.2] at hh' ⊢
  exact ⟨_, _, rfl, hK, ⟨q, cc, rfl, rfl⟩, hh'⟩
 rintro _ _ ⟨q, cc, rfl, rfl⟩
 refine ⟨fun w F hh => lives (l' := []) (by rw [HFA.out]; simp [liveFacts, Nat.testBit]) (fnil), ?_⟩
 simp only [Act.put, List.setIfInBounds_toArray, List.set_cons_zero, List.set_cons_succ]
 show WS _ _ _ _ _ _ _ _ _ _
 iterate 3 (refine ws_q (at_lit rfl) rfl rfl rfl ?_; go_big_quiet_op; show WS _ _ _ _ _ _ _ _ _ _)
 refine ws_ptr (at_lit rfl) rfl rfl (.cells #[.slice none 0 0] 58 (0, 0)) (fun w => by go_simp) ?_
 intro r6
 simp only [Act.put, List.setIfInBounds_toArray, List.set_cons_zero, List.set_cons_succ]
 show WS _ _ _ _ _ _ _ _ _ _
 refine ws_store (at_lit rfl) rfl rfl 58 (.tmp 6) (.tmp 13) rfl rfl (v := .agg #[.slice q n cc]) rfl (by simp [Value.cells]) (by simp [Value.cells, Value.oneCell']) (by kernel_rfl) (by simp only [Value.cells, putCells, List.setIfInBounds_toArray, List.set_cons_zero, List.set_cons_succ]; rfl) (fun w' F hh => lives (l' := []) (by rw [HFA.out]; simp [liveFacts, Nat.testBit]) (fnil)) ?_
 simp only [Act.put, List.setIfInBounds_toArray, List.set_cons_zero, List.set_cons_succ]
 show WS _ _ _ _ _ _ _ _ _ _
 refine ws_q (at_lit rfl) rfl rfl rfl ?_
 go_big_quiet_op
 show WS _ _ _ _ _ _ _ _ _ _
 refine ws_end ?_
 intro w4 hK4 h4
 have HK4 := Lib.hid (HK.out.trans hK4)
 have z6 : w4.cell? ⟨r6, 0, none⟩ = some (.slice q n cc) := cell_of h4.got 0 rfl
 have lz6 := World.block_lt_of_cell? _ _ z6
 have HA := Lib.hid (ros_Actives (v := .slice q n cc) h4 (.tail _ (.head _)) HX.out.2.2.1)
 obtain ⟨m, hm⟩ : ∃ m, (actives (es.set d ⟨2, sz⟩)).length = m := ⟨_, rfl⟩
 have hm0 : ((m : Int) == 0) = false := by have := HX.out.2.2.2.2.1; simp; omega
 have Hm := Lib.hid hm
 clear hK4 hh HFA neFA FA fa0 c2 HK hm h4
 go_wp2_with fail
 refine HA.out.mono ?_
 rintro r w5 ⟨o, rfl, hK5, h5⟩
 obtain ⟨oa, oc, rfl, _⟩ := h5.row_val (v := o) (.head _)
 rw [Hm.out] at h5 ⊢
 have h6 : Has w5 (pts r4 (.cells #[.slice none 0 0] 58 (0, 0)) :: pts r6 (.cells #[.slice q n cc] 58 (0, 0)) :: entS (.slice q n cc) (es.set d ⟨2, sz⟩) :: pts b2 (.cells #[.int .i64 1] 3 (0, 0)) :: pts b3 (.cells #[.int .i64 2] 3 (0, 0)) :: pts r2 (.cells #[.slice a n c] 58 (0, 0)) :: l) := h5.tail.reord [4, 0]
 have z6' : w5.cell? ⟨r6, 0, none⟩ = some (.slice q n cc) := cell_of (h6.at (b := r6) (o := .cells #[.slice q n cc] 58 (0, 0)) (by simp)) 0 rfl
 have z4 : w5.cell? ⟨r4, 0, none⟩ = some (.slice none 0 0) := cell_of h6.got 0 rfl
 have f4 : w5.frozen? ⟨r4, 0, none⟩ = false := thaw_of h6.got 0
 have lz6' := World.block_lt_of_cell? _ _ z6'
 have lz4 := World.block_lt_of_cell? _ _ z4
 have H7 := Lib.hid (h6.setCell 0 (.slice q n cc))
 have HK5 := Lib.hid (HK4.out.trans hK5)
 clear hK5 h5 h6 HA HK4 z6 lz6
 go_wp2
 refine bodyPost_ret (v := .tuple #[.agg #[.slice q n cc], .nilIface]) (by simp [results, Tryz.results62, go_sem, z4]) rfl ⟨q, cc, ?_, HK5.out.setCell _ _, ?_⟩
 ·rw [List.length_set, HX.out.2.2.2.2.2]
 ·rw [List.length_set, HX.out.2.2.2.2.2]
  exact (((((H7.out.reord [2]).swap.tail).swap.tail).swap.tail).swap.tail).swap.tail
/-
  Spaces (layer 8): which sectors of a device are taken (On).
-/
def onTo (d : Nat) (T : Nat -> Bool) (k : Nat) : List Int := ((List.range k).filter T).map fun i => lenV d i
theorem onTo_more {d : Nat} {T : Nat -> Bool} {k : Nat} (h : T k = true) : onTo d T (k + 1) = onTo d T k ++ [lenV d k] := by
 unfold onTo
 rw [List.range_succ, List.filter_append, List.map_append]
 simp [h]
theorem onTo_skip {d : Nat} {T : Nat -> Bool} {k : Nat} : ∀ m, (∀ j, k <= j -> j < k + m -> T j = false) -> onTo d T (k + m) = onTo d T k
 | 0, _ => rfl
 | m + 1, h => by
  have h1 := onTo_skip (d := d) m fun j h1 h2 => h j h1 (by omega)
  rw [<- h1]
  unfold onTo
  rw [show k + (m + 1) = (k + m) + 1 by omega, List.range_succ, List.filter_append, List.map_append]
  simp [h (k + m) (by omega) (by omega)]
theorem onTo_len (d : Nat) (T : Nat -> Bool) (k : Nat) : (onTo d T k).length <= k := by
 unfold onTo
 rw [List.length_map]
 have := List.length_filter_le T (List.range k)
 rwa [List.length_range] at this
def OnPost (s d : Nat) (X : Spc) (y : Shelf) (l : List Say) (w : World) (r : Ending) (w' : World) : Prop :=
 ∃ v, r = .returned v /\ Kept w w' /\ Has w' (intsS v (onTo d y.taken y.n) :: spaceS s X :: l)
def OnAt (d n : Nat) (T : Nat -> Bool) (L : List Say) (w : World) (k : Nat) (ok : Bool) (ov : Value) (wr : World) : Prop :=
 ∃ out, (∃ q c, ov = .slice q out.length c) /\ Kept w wr /\ Has wr (intsS ov out :: L) /\ if ok then k < n /\ T k = true /\ out = onTo d T k else out = onTo d T n
theorem OnAt.found {d n f k : Nat} {T : Nat -> Bool} {ok : Bool} (h : Found n f T k ok) (hf : f <= n) {out : List Int} (ho : out = onTo d T f) : if ok then k < n /\ T k = true /\ out = onTo d T k else out = onTo d T n := by
 unfold Found at h
 split at h
 ·rename_i e
  subst e
  obtain ⟨h1, h2, h3, h4⟩ := h
  refine ⟨h2, h3, ?_⟩
  rw [ho]
  have := onTo_skip (d := d) (T := T) (k := f) (k - f) fun j a b => h4 j a (by omega)
  rw [show f + (k - f) = k by omega] at this
  exact this.symm
 ·rename_i e
  have e' : ok = false := by simpa using e
  subst e'
  obtain ⟨h1, h2⟩ := h
  show out = _
  rw [ho]
  have := onTo_skip (d := d) (T := T) (k := f) (n - f) fun j a b => h2 j a (by omega)
  rw [show f + (n - f) = n by omega] at this
  exact this.symm
set_option maxRecDepth 100000 in
theorem sp_On {w : World} {l : List Say} {s d : Nat} {X : Spc} {y : Shelf} (h : Has w (spaceS s X :: l)) (ht : Tab l) (hy : X.sh[d]? = some y) (hd : d < 8) (hn4 : y.n <= 4096) :
  Calls Tryz.prog 67 #[.pointer (some ⟨s, 0, none⟩), .int .i64 d] w (OnPost s d X y l w) := by
 obtain ⟨x, ok, h1⟩ := h.sp_open
 obtain ⟨a, c, sa, sc, R⟩ := h1.sp_read (s := s) (X := X) (x := x) (fun A hA => List.mem_append_left _ hA) ok
 obtain ⟨g, b, rfl, p0, _, hbk⟩ := R.shelf d y hy
 obtain ⟨rest, hp1, _⟩ := shelves_focus x.bs X.sh d b y hbk hy
 have h2 : Has w (spHead s X.es x ++ (shelvesL x.bs X.sh ++ l)) := by
  have h3 := h1
  unfold spFlat at h3
  rw [List.append_assoc] at h3
  exact h3
 obtain ⟨pp, h3⟩ := (h2.perm (focus_perm hp1)).shelf_open
 obtain ⟨L, hL⟩ : ∃ L, shelfParts b y pp ++ (spHead s X.es x ++ (rest ++ l)) = L := ⟨_, rfl⟩
 have HS : Hid (∀ w' A, Has w' (A :: L) -> Has w' (A :: spaceS s X :: l)) := fun w' A hw => by
  rw [<- hL] at hw
  have e : (A :: (shelfParts b y pp ++ (spHead s X.es x ++ (rest ++ l)))).Perm (shelfParts b y pp ++ (spHead s X.es x ++ (rest ++ (A :: l)))) := by
   have := (List.perm_middle (a := A) (l₁ := shelfParts b y pp ++ (spHead s X.es x ++ rest)) (l₂ := l)).symm
   simpa only [List.append_assoc] using this
  have h4 := (hw.perm e).shelf_shut.perm (focus_perm (A := spHead s X.es x) (l := A :: l) hp1).symm
  refine Has.swap (Has.sp_shut (x := x) ok ?_)
  unfold spFlat
  rw [List.append_assoc]
  exact h4
 have hTL : Tab L := by rw [<- hL]; exact ((ht.app _).app _).app _
 have hbm : bmS pp.1 y.n y.taken ∈ L := by rw [<- hL]; simp [shelfParts]
 have hpb : pts b (.cells #[.pointer (some ⟨pp.1, 0, none⟩), .pointer (some ⟨pp.2.1, 0, none⟩), .pointer (some ⟨pp.2.2, 0, none⟩)] 180 (0, 0)) ∈ L := by rw [<- hL]; simp [shelfParts]
 rw [hL] at h3
 obtain ⟨px, hpx⟩ : ∃ px, pp.1 = px := ⟨_, rfl⟩
 rw [hpx] at hbm hpb
 have hsl : d < X.sh.length := (List.getElem?_eq_some_iff.1 hy).1
 have s0 := R.s0
 have t1 := R.t1
 have ls := World.block_lt_of_cell? _ _ s0
 have lt := World.block_lt_of_cell? _ _ t1
 have lp := World.block_lt_of_cell? _ _ p0
 obtain ⟨m, hm⟩ : ∃ m, X.sh.length = m := ⟨_, rfl⟩
 rw [hm] at t1 hsl
 have d0 : decide ((d : Int) < 0) = false := by simp
 have d1 : decide ((m : Int) <= (d : Int)) = false := by simp; omega
 have d2 : decide (m <= d) = false := by simp; omega
 have d3 : ¬ (m : Int) <= (d : Int) := by omega
 have dI : (d : Int) < (m : Int) := by omega
 have dn : (0 : Int) <= (d : Int) := by omega
 have c0 : w.cell? ⟨b, 0, none⟩ = some (.pointer (some ⟨px, 0, none⟩)) := cell_of (h3.at hpb) 0 rfl
 have lc := World.block_lt_of_cell? _ _ c0
 have HN := Lib.hid (bm_Next h3 hbm hTL 0 (by omega))
 have H3 := Lib.hid h3
 have HX := Lib.hid (And.intro hTL (And.intro hbm (And.intro hpb (And.intro hd hn4))))
 clear h h1 h2 h3 ok R hp1 hbk hTL hbm hpb hL ht hpx hy hm hd hn4
 go_enter Tryz.func67, Tryz.ntmps67
 go_wp2_with fail
 refine HN.out.mono ?_
 rintro r w2 ⟨k, ok, hf, rfl, rfl⟩
 have HM0 : Hid (OnAt d y.n y.taken L w k ok (.slice none 0 0) w) := ⟨[], ⟨none, 0, rfl⟩, Kept.refl w, H3.out.row_nil 3 1, OnAt.found hf (Nat.zero_le _) rfl⟩
 clear hf HN H3 c0 lc
 obtain ⟨n, hn⟩ : ∃ n, y.n = n := ⟨_, rfl⟩
 have Hn := Lib.hid hn
 rw [hn] at HM0
 clear hn
 go_wp2
 go_loopg [5, 7, 8] (cond ok (n - k) 0) (fun gk ov kv bv wr => ∃ (k : Nat) (ok : Bool), gk = cond ok (n - k) 0 /\ kv = .int .i64 k /\ bv = .bool ok /\ Hid (OnAt d n y.taken L w k ok ov wr))
 case atStart => exact ⟨k, ok, rfl, rfl, rfl, HM0⟩
 case round =>
  clear HM0
  obtain ⟨k, ok, hgk, rfl, rfl, HM⟩ := hrel
  obtain rfl := hgk.symm
  obtain ⟨out, ⟨q, cq, rfl⟩, hK, hh, hcase⟩ := HM.out
  clear HM
  have Hcase := Lib.hid hcase
  clear hcase
  cases ok with
  | true =>
   obtain ⟨hkn, hT, hout⟩ : k < n /\ y.taken k = true /\ out = onTo d y.taken k := Hcase.out
   obtain ⟨hTL, hbm, hpb, hd, hn4⟩ := HX.out
   rw [Hn.out] at hn4
   have hol : out.length <= k := by rw [hout]; exact onTo_len _ _ _
   have HAd := Lib.hid (space_Addr (w := wr) d k hd (by omega))
   obtain ⟨av, hav⟩ : ∃ av, ((d * 4096 + k : Nat) : Int) = av := ⟨_, rfl⟩
   rw [hav] at HAd
   have hA := (hh.alloc (.cells #[.int .i64 av] 3)).swap
   have hKA := hK.alloc (.cells #[.int .i64 av] 3)
   have HA := Lib.hid hA
   have HKA := Lib.hid hKA
   have HO := Lib.hid (And.intro hkn (And.intro hT (And.intro hout (And.intro hol (And.intro hav hn4)))))
   clear hh hK hA hKA hkn hT hout hol hav Hcase hTL hbm hpb hd hn4
   generalize hol : out.length = ol at *
   have Hol := Lib.hid hol
   clear hol
   go_wp2_with fail
   refine HAd.out.mono ?_
   rintro r w3 ⟨rfl, rfl⟩
   clear HAd
   go_upto_region 7 with (at_builtin; refine wpList_append_int rfl (.tmp 52) (.tmp 56) rfl rfl rfl HA.out (.head _) Hol.out (by have := Hol.out; have := HO.out.2.2.2.1; have := HO.out.2.2.2.2.2; have := HO.out.1; omega) ?_; intro p1 q1 w4 hK4 hz)
   have hz2 : Has w4 (intsS (.slice p1 (ol + 1) q1) (out ++ [av]) :: L) := hz.swap.tail
   obtain ⟨hTL, hbm, hpb, hd, hn4⟩ := HX.out
   have c0 : w4.cell? ⟨b, 0, none⟩ = some (.pointer (some ⟨px, 0, none⟩)) := cell_of (hz2.at (.tail _ hpb)) 0 rfl
   have lc := World.block_lt_of_cell? _ _ c0
   have hk4 : k + 1 <= 4096 := by have := HO.out.1; have := HO.out.2.2.2.2.2; omega
   have hkw : IntKind.i64.wrap ((k : Int) + 1) = ((k + 1 : Nat) : Int) := by rw [IntKind.wrap_i64]; omega
   have HN := Lib.hid (bm_Next hz2 (.tail _ hbm) hTL.cons (k + 1) hk4)
   obtain ⟨k1, hk1⟩ : ∃ k1, k + 1 = k1 := ⟨_, rfl⟩
   rw [hk1] at hkw HN
   have Hk1 := Lib.hid hk1
   have HZ := Lib.hid hz2
   have HK4 := Lib.hid (HKA.out.trans hK4)
   clear hz hz2 hK4 hTL hbm hpb hd hn4 hk4 hk1 HA HKA
   go_wp2_with fail
   refine HN.out.mono ?_
   rintro r w5 ⟨k', ok', hf, rfl, rfl⟩
   have HM2 : Hid (OnAt d n y.taken L w k' ok' (.slice p1 (ol + 1) q1) w4) := by
    obtain ⟨hkn, hT, hout, _, hav, _⟩ := HO.out
    obtain rfl := Hk1.out
    refine ⟨out ++ [av], ⟨p1, q1, by rw [List.length_append, Hol.out]; rfl⟩, HK4.out, HZ.out, ?_⟩
    rw [Hn.out] at hf
    refine OnAt.found hf (by omega) ?_
    rw [onTo_more hT, hout, <- hav]
    rfl
   have hms : cond ok' (n - k') 0 < n - k := by
    obtain ⟨hkn, _⟩ := HO.out
    obtain rfl := Hk1.out
    rw [Hn.out] at hf
    unfold Found at hf
    cases ok'
    ·show 0 < n - k
     omega
    ·have := hf.1
     have := hf.2.1
     show n - k' < n - k
     omega
   clear hf HN HZ HK4 HO Hol Hk1 c0 lc hkw
   go_wp2
   go_roundg (cond ok' (n - k') 0)
   case measure => exact hms
   case rel => exact ⟨k', ok', rfl, rfl, rfl, HM2⟩
  | false =>
   have hout : out = onTo d y.taken n := Hcase.out
   have HF : Hid (OnPost s d X y l w (.returned (.slice q out.length cq)) wr) := by
    refine ⟨_, rfl, hK, ?_⟩
    have e : onTo d y.taken y.n = out := by rw [Hn.out]; exact hout.symm
    rw [e]
    exact HS.out _ _ hh
   clear hh hK Hcase hout HX HS
   go_wp2
   go_ret
   exact HF.out
/-
  Trees (layer 12): the store's devices in other states; what is taken of a device.
-/
theorem Like.stand {es es' : List Ent} (h : Like es es') {a : Int} (hs : Stand es a) : Stand es' a := by
 obtain ⟨d, k, e, rfl, he, hst, h2, hk, hk4, hd8⟩ := hs
 have hd := (List.getElem?_eq_some_iff.1 he).1
 obtain ⟨e', he'⟩ : ∃ e', es'[d]? = some e' := ⟨_, List.getElem?_eq_getElem (by rw [h.len]; exact hd)⟩
 obtain ⟨h3, _, h4⟩ := h.same d e e' he he'
 exact ⟨d, k, e', rfl, he', h4, h2, by omega, hk4, hd8⟩
theorem Like.inv {es es' : List Ent} (h : Like es es') {Q : Pgs} {D : Int -> Nat} (hI : FInv es Q D) : FInv es' Q D := ⟨hI.up, hI.pg, hI.kid, hI.deb, fun a ha => h.stand (hI.adr a ha)⟩
theorem Like.room {es es' : List Ent} (h : Like es es') (hE : OkEnts es') {Q : Pgs} {disks : List Dsk} {X : Spc} (hR : Room es Q disks X) : Room es' Q disks ⟨es', X.sh⟩ := by
 refine ⟨⟨hR.fits.len, hR.fits.size, hR.fits.free, hR.fits.big⟩, ⟨rfl, by show X.sh.length = _; rw [hR.xis.len, h.len], fun d y hy => ?_⟩, hR.fr, hE.len, fun e he => (hE.ok e he).1⟩
 obtain ⟨⟨e, he, hn⟩, hb⟩ := hR.xis.sh d y hy
 have hd := (List.getElem?_eq_some_iff.1 he).1
 obtain ⟨e', he'⟩ : ∃ e', es'[d]? = some e' := ⟨_, List.getElem?_eq_getElem (by rw [h.len]; exact hd)⟩
 obtain ⟨h3, _, _⟩ := h.same d e e' he he'
 exact ⟨⟨e', he', by omega⟩, hb⟩
theorem bt_Roster {w : World} {l : List Say} {p bank sp N : Nat} {es : List Ent} {Q : Pgs} (h : Has w (btS p bank sp N es Q :: l)) :
  Calls Tryz.prog 30 #[.pointer (some ⟨sp, 0, none⟩)] w fun r w' => ∃ q c, r = .returned (.agg #[.slice q es.length c]) /\ Kept w w' /\ Has w' (entS (.slice q es.length c) es :: btS p bank sp N es Q :: l) := by
 obtain ⟨disks, X, hI, hR, hH, hh⟩ := h.bt_open
 have h2 : Has w (spaceS sp X :: stS p bank sp Q :: bankS N bank disks :: l) := Has.pull 2 hh
 refine (sp_Roster h2).mono ?_
 rintro r w' ⟨v, rfl, hK, h3⟩
 rw [hR.xis.ent] at h3
 obtain ⟨a, c, rfl, _⟩ := h3.ent_read (v := v) (es := es) (.head _)
 refine ⟨a, c, rfl, hK, ?_⟩
 have h4 : Has w' (trio p bank sp N Q disks X (entS (.slice a es.length c) es :: l)) := h3.reord [2, 2, 1]
 exact (Has.bt_shut hI hR hH h4).swap
theorem bt_Turn {w : World} {l : List Say} {p bank sp N : Nat} {es es' : List Ent} {Q : Pgs} {v : Value} (h : Has w (btS p bank sp N es Q :: l)) (hm : entS v es' ∈ l) (hE : OkEnts es') (hL : Like es es') :
  Calls Tryz.prog 63 #[.pointer (some ⟨sp, 0, none⟩), .agg #[v]] w fun r w' => r = .returned .nilIface /\ Kept w w' /\ Has w' (btS p bank sp N es' Q :: l) := by
 obtain ⟨disks, X, hI, hR, hH, hh⟩ := h.bt_open
 have h2 : Has w (spaceS sp X :: stS p bank sp Q :: bankS N bank disks :: l) := Has.pull 2 hh
 refine (sp_TurnU h2 (.tail _ (.tail _ hm)) hE (by rw [hR.xis.ent]; exact hL)).mono ?_
 rintro r w' ⟨rfl, hK, h3⟩
 refine ⟨rfl, hK, ?_⟩
 have h4 : Has w' (trio p bank sp N Q disks ⟨es', X.sh⟩ l) := h3.reord [1, 1]
 exact Has.bt_shut (hL.inv hI) (hL.room hE hR) hH h4
theorem bt_On {w : World} {l : List Say} {p bank sp N d : Nat} {es : List Ent} {Q : Pgs} (h : Has w (btS p bank sp N es Q :: l)) (ht : Tab l) (hd : d < es.length) :
  Calls Tryz.prog 67 #[.pointer (some ⟨sp, 0, none⟩), .int .i64 d] w fun r w' => ∃ v out, r = .returned v /\ Kept w w' /\ (∀ a ∈ out, (VMap.get a Q).isSome = true /\ a / 4096 = d) /\ Has w' (intsS v out :: btS p bank sp N es Q :: l) := by
 obtain ⟨disks, X, hI, hR, hH, hh⟩ := h.bt_open
 have h2 : Has w (spaceS sp X :: stS p bank sp Q :: bankS N bank disks :: l) := Has.pull 2 hh
 obtain ⟨y, hy⟩ : ∃ y, X.sh[d]? = some y := ⟨_, List.getElem?_eq_getElem (by rw [hR.xis.len]; exact hd)⟩
 obtain ⟨⟨e, he, hn⟩, hb⟩ := hR.xis.sh d y hy
 have hbig := hR.big e (List.mem_of_getElem? he)
 refine (sp_On h2 ht.cons.cons hy (by have := hR.h8; omega) (by omega)).mono ?_
 rintro r w' ⟨v, rfl, hK, h3⟩
 refine ⟨v, onTo d y.taken y.n, rfl, hK, fun a ha => ?_, ?_⟩
 ·unfold onTo at ha
  obtain ⟨k, hk, rfl⟩ := List.mem_map.1 ha
  obtain ⟨hk1, hk2⟩ := List.mem_filter.1 hk
  have hk3 := List.mem_range.1 hk1
  rw [(hb k).2] at hk2
  simp only [Bool.and_eq_true, decide_eq_true_eq] at hk2
  refine ⟨hk2.2, ?_⟩
  unfold lenV
  omega
 ·have h4 : Has w' (trio p bank sp N Q disks X (intsS v (onTo d y.taken y.n) :: l)) := h3.reord [2, 2, 1]
  exact (Has.bt_shut hI hR hH h4).swap
end Go.Proofs.YtgbgneiciabidaaGreatDoor
