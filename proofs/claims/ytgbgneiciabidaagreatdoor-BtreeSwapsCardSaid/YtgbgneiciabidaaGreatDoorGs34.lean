/-
  The statements of layer 12: a call on a tree (step), of kind 2, at a key that is not there.
-/
import Derived.Test.YtgbgneiciabidaaGreatDoorGs33
namespace Go.Proofs.YtgbgneiciabidaaGreatDoor
open Go Go.RowKit
set_option linter.all false
set_option maxHeartbeats 8000000
set_option maxRecDepth 100000 in
theorem step_none {w : World} {l : List Say} {t sp p bank N : Nat} {es : List Ent} {Q : Pgs} {ts : List Tre} {vs : List Value} {rs : List (Value × List KV)} (tr key val : Int) (h : Has w (treesT t sp p (ts.map (·.a)) vs :: btS p bank sp N es Q :: (rs.map kvR ++ l))) (ht : Tab l) (hT : Grove Q ts) (h4 : Rows4 ts vs rs) (hN : N <= 150000) (hs : ∀ u ∈ ts, u.s <= 800000 /\ u.L.length <= 90000) (hp : ∀ u, ts[mod4 tr]? = some u -> getK u.L key = none) :
  Calls Tryz.prog 46 #[.pointer (some ⟨t, 0, none⟩), .agg #[.int .i64 2, .int .i64 tr, .int .i64 key, .int .i64 val]] w (StepOk es t sp p bank N ts l 2 tr key val w) := by
 obtain ⟨u, v, hu, hv, hr⟩ := h4.at (mod4_lt tr)
 have hua : (ts.map (·.a))[mod4 tr]? = some u.a := by rw [List.getElem?_map, hu]; rfl
 have hml : (ts.map (·.a)).length = 4 := by rw [List.length_map]; exact h4.four
 have hA := (h.alloc (.cells #[.int .i64 2, .int .i64 tr, .int .i64 key, .int .i64 val] 83)).swap
 have HK : Hid (Kept w (w.alloc (.cells #[.int .i64 2, .int .i64 tr, .int .i64 key, .int .i64 val] 83))) := (Kept.refl w).alloc _
 have HMod : Hid (∀ w' : World, Calls Tryz.prog 52 #[.int .i64 tr] w' fun r w'' => r = .returned (.int .i64 (mod4 tr : Int)) /\ w' = w'') := fun w' => law_mod tr w'
 generalize hi : mod4 tr = i at *
 have hi4 : i < 4 := by rw [<- hi]; exact mod4_lt tr
 have Hi := Lib.hid hi
 have HX := Lib.hid (And.intro ht (And.intro hT (And.intro h4 (And.intro hN (And.intro hs (And.intro hu (And.intro hv (And.intro hr (And.intro hua hml)))))))))
 have HH := Lib.hid hA
 have iI : (i : Int) < 4 := by omega
 have i0 : (0 : Int) <= i := by omega
 clear h ht hT h4 hN hs hu hv hr hua hml hA hi
 go_enter Tryz.func46, Tryz.ntmps46
 go_upto_region 1 with fail
 generalize w.alloc (.cells #[.int .i64 2, .int .i64 tr, .int .i64 key, .int .i64 val] 83) = W at *
 generalize w.heap.size = b3 at *
 have hh := HH.out
 have hb := hh.tail.got
 have o0 : W.cell? ⟨b3, 0, none⟩ = some (.int .i64 2) := cell_of hb 0 rfl
 have o1 : W.cell? ⟨b3, 1, none⟩ = some (.int .i64 tr) := cell_of hb 1 rfl
 have o2 : W.cell? ⟨b3, 2, none⟩ = some (.int .i64 key) := cell_of hb 2 rfl
 have o3 : W.cell? ⟨b3, 3, none⟩ = some (.int .i64 val) := cell_of hb 3 rfl
 have lb := World.block_lt_of_cell? _ _ o0
 have t1 : W.cell? ⟨t, 1, none⟩ = some (.pointer (some ⟨p, 0, none⟩)) := cell_of hh.got 1 rfl
 have tr1 : W.cell? ⟨t, 2 + i, none⟩ = some (.int .i64 u.a) := cell_of hh.got _ (treesC_root HX.out.2.2.2.2.2.2.2.2.1)
 have lt := World.block_lt_of_cell? _ _ t1
 obtain ⟨a, ha⟩ : ∃ a, u.a = a := ⟨_, rfl⟩
 have Ha := Lib.hid ha
 rw [ha] at tr1
 clear hh hb ha
 go_wp2_with (refine (HMod.out _).mono ?_; rintro r w1 ⟨rfl, rfl⟩)
 obtain ⟨htab, hT, h4, hN, hs, hu, hv, hr, hua, hml⟩ := HX.out
 have hsrt := (hT.root u (List.mem_of_getElem? hu)).srt
 have hlen := (hs u (List.mem_of_getElem? hu)).2
 have HS : Hid (∀ w' l', Has w' (btS p bank sp N es Q :: l') -> Tab l' -> Calls Tryz.prog 44 #[.pointer (some ⟨p, 0, none⟩), .int .i64 a, .int .i64 key] w' (fun r w'' => r = .returned (.tuple #[.int .i64 0, errV 81]) /\ Kept w' w'' /\ Has w'' (btS p bank sp N es Q :: l'))) := fun w' l' h htb => by
  rw [<- Ha.out]
  refine (bt_Delete u.a key h htb (hT.root u (List.mem_of_getElem? hu)) hT.live (by omega) (by have := (hs u (List.mem_of_getElem? hu)).1; omega)).mono ?_
  rintro r w' (⟨_, h1, h2, h3⟩ | ⟨⟨x, h1⟩, _⟩)
  ·exact ⟨h1, h2, h3⟩
  ·rw [hp u hu] at h1; cases h1
 have HI : Hid (∀ w' : World, Calls Tryz.prog 49 #[errV 81, .int .i64 81] w' fun r w'' => r = .returned (.bool true) /\ w' = w'') := fun w' => law_is12 (some 81) 81 w' (by decide) (by decide)
 have hgk := hp u hu
 obtain ⟨vq, vc, ev0, _⟩ := HH.out.kv_read (v := v) (L := u.L) (by simp [kvR_mem hr])
 obtain ⟨vn, hvn⟩ : ∃ n, u.L.length = n := ⟨_, rfl⟩
 rw [hvn] at ev0
 clear hvn
 subst ev0
 have HFd : Hid (∀ w' l', Has w' l' -> kvS (.slice vq vn vc) u.L ∈ l' -> Calls Tryz.prog 48 #[.slice vq vn vc, .int .i64 key] w' (fun r w'' => r = .returned (.tuple #[.int .i64 0, .bool false]) /\ w' = w'')) := fun w' l' h hm => by
  have := ref_Find key h hm hsrt (by omega)
  unfold fdV at this
  rw [hgk] at this
  exact this
 have Hgk := Lib.hid hgk
 clear htab hT h4 hN hs hu hv hr hua hml hp hsrt hlen hgk
 have hh := HH.out
 clear HH
 obtain ⟨FA, HFA⟩ : ∃ FA : List (Nat × Addr × Value), Hid (FA = [(3, ⟨t, 1, none⟩, .pointer (some ⟨p, 0, none⟩)), (6, ⟨b3, 2, none⟩, .int .i64 key)]) := ⟨_, rfl⟩
 have fa3 : ∀ n : In (factsOf FA 3), n.w.cell? ⟨t, 1, none⟩ = some (.pointer (some ⟨p, 0, none⟩)) := fun n => factsOf.cell (by rw [HFA.out]; simp) n
 have fa6 : ∀ n : In (factsOf FA 6), n.w.cell? ⟨b3, 2, none⟩ = some (.int .i64 key) := fun n => factsOf.cell (by rw [HFA.out]; simp) n
 have hFA : ∀ p ∈ FA, W.cell? p.2.1 = some p.2.2 := by rw [HFA.out]; exact (fcons t1 (fcons o2 fnil))
 haveI neFA : ∀ k, Nonempty (In (factsOf FA k)) := fun k => ⟨⟨_, factsOf.drew hFA k⟩⟩
 refine ws_begin [0, 1, 2, 3, 4, 5, 6, 7, 8, 9, 10, 11, 12] (factsOf FA) (treesT t sp p (ts.map (·.a)) vs :: pts b3 (.cells #[.int .i64 2, .int .i64 tr, .int .i64 key, .int .i64 val] 83 (0, 0)) :: btS p bank sp N es Q :: (rs.map kvR ++ l)) #[0, 1, 3, 7, 0, 0, 32, 127, 255, 511, 511, 1023, 4095] (by kernel_rfl) (by kernel_rfl) (by kernel_rfl) factsOf.alloc (factsOf.drew hFA) hh ?_
 clear hFA
 iterate 7 (refine ws_q (at_lit rfl) rfl rfl rfl ?_; go_big_quiet_op; show WS _ _ _ _ _ _ _ _ _ _)
 refine ws_call (at_lit rfl) rfl rfl 44 #[.pointer (some ⟨p, 0, none⟩), .int .i64 a, .int .i64 key] (fun w => by go_simp) (fun v L' => v = .tuple #[.int .i64 0, errV 81] /\ L' = treesT t sp p (ts.map (·.a)) vs :: pts b3 (.cells #[.int .i64 2, .int .i64 tr, .int .i64 key, .int .i64 val] 83 (0, 0)) :: btS p bank sp N es Q :: (rs.map kvR ++ l)) (fun w' F hS hh => ?_) ?_
 ·refine (HS.out w' _ (hh.reord [2]) ((((HX.out.1.app _).fr F).cons).cons)).mono ?_
  rintro r w'' ⟨rfl, hK, hh'⟩
  exact ⟨_, _, rfl, hK, ⟨rfl, rfl⟩, hh'.reord [1, 1]⟩
 rintro _ _ ⟨rfl, rfl⟩
 refine ⟨fun w F hh => lives (l' := []) (by rw [HFA.out]; simp [liveFacts, Nat.testBit]) (fnil), ?_⟩
 simp only [Act.put, List.setIfInBounds_toArray, List.set_cons_zero, List.set_cons_succ]
 show WS _ _ _ _ _ _ _ _ _ _
 iterate 5 (refine ws_q (at_lit rfl) rfl rfl rfl ?_; go_big_quiet_op; show WS _ _ _ _ _ _ _ _ _ _)
 refine ws_end ?_
 intro w4 hK4 h4
 have hb := h4.at (b := b3) (o := .cells #[.int .i64 2, .int .i64 tr, .int .i64 key, .int .i64 val] 83 (0, 0)) (by simp)
 have q2 : w4.cell? ⟨b3, 2, none⟩ = some (.int .i64 key) := cell_of hb 2 rfl
 have htt := h4.at (b := t) (o := .cells (treesC sp p (ts.map (·.a)) vs) 70 (0, 0)) (by simp [treesT])
 have tv : w4.cell? ⟨t, 6 + i, none⟩ = some (.slice vq vn vc) := cell_of htt _ (treesC_list HX.out.2.2.2.2.2.2.2.2.2 HX.out.2.2.2.2.2.2.1)
 have HH := Lib.hid h4
 have HK4 := Lib.hid (HK.out.trans hK4)
 clear hK4 h4 hh HFA neFA FA fa3 fa6 o0 o1 o2 o3 t1 tr1 lb lt hb htt HS HMod HK
 have HK := HK4
 clear HK4
 have lq := World.block_lt_of_cell? _ _ q2
 have lt := World.block_lt_of_cell? _ _ tv
 go_upto_region 13 with fail
 have hh := HH.out
 clear HH
 obtain ⟨FA, HFA⟩ : ∃ FA : List (Nat × Addr × Value), Hid (FA = [(5, ⟨t, 6 + i, none⟩, .slice vq vn vc), (7, ⟨b3, 2, none⟩, .int .i64 key)]) := ⟨_, rfl⟩
 have fa5 : ∀ n : In (factsOf FA 5), n.w.cell? ⟨t, 6 + i, none⟩ = some (.slice vq vn vc) := fun n => factsOf.cell (by rw [HFA.out]; simp) n
 have fa7 : ∀ n : In (factsOf FA 7), n.w.cell? ⟨b3, 2, none⟩ = some (.int .i64 key) := fun n => factsOf.cell (by rw [HFA.out]; simp) n
 have hFA : ∀ p ∈ FA, w4.cell? p.2.1 = some p.2.2 := by rw [HFA.out]; exact (fcons tv (fcons q2 fnil))
 haveI neFA : ∀ k, Nonempty (In (factsOf FA k)) := fun k => ⟨⟨_, factsOf.drew hFA k⟩⟩
 refine ws_begin [0, 1, 2, 3, 4, 5, 6, 7, 8, 9, 10, 11, 12, 13] (factsOf FA) (treesT t sp p (ts.map (·.a)) vs :: pts b3 (.cells #[.int .i64 2, .int .i64 tr, .int .i64 key, .int .i64 val] 83 (0, 0)) :: btS p bank sp N es Q :: (rs.map kvR ++ l)) #[0, 0, 1, 5, 15, 31, 0, 64, 255, 511, 1023, 1023, 2047, 8191] (by kernel_rfl) (by kernel_rfl) (by kernel_rfl) factsOf.alloc (factsOf.drew hFA) hh ?_
 clear hFA
 iterate 8 (refine ws_q (at_lit rfl) rfl rfl rfl ?_; go_big_quiet_op; show WS _ _ _ _ _ _ _ _ _ _)
 refine ws_call (at_lit rfl) rfl rfl 48 #[.slice vq vn vc, .int .i64 key] (fun w => by go_simp) (fun v L' => v = .tuple #[.int .i64 0, .bool false] /\ L' = treesT t sp p (ts.map (·.a)) vs :: pts b3 (.cells #[.int .i64 2, .int .i64 tr, .int .i64 key, .int .i64 val] 83 (0, 0)) :: btS p bank sp N es Q :: (rs.map kvR ++ l)) (fun w' F hS hh => ?_) ?_
 ·refine (HFd.out w' _ hh (by have := kvR_mem HX.out.2.2.2.2.2.2.2.1; simp [this])).mono ?_
  rintro r w'' ⟨rfl, rfl⟩
  exact ⟨_, _, rfl, Kept.refl _, ⟨rfl, rfl⟩, hh⟩
 rintro _ _ ⟨rfl, rfl⟩
 refine ⟨fun w F hh => lives (l' := []) (by rw [HFA.out]; simp [liveFacts, Nat.testBit]) (fnil), ?_⟩
 simp only [Act.put, List.setIfInBounds_toArray, List.set_cons_zero, List.set_cons_succ]
 show WS _ _ _ _ _ _ _ _ _ _
 iterate 5 (refine ws_q (at_lit rfl) rfl rfl rfl ?_; go_big_quiet_op; show WS _ _ _ _ _ _ _ _ _ _)
 refine ws_end ?_
 intro w5 hK5 h5
 have HF : Hid (StepOk es t sp p bank N ts l 2 tr key val w (.returned (.tuple #[.bool true, .bool false])) w5) := by
  obtain ⟨htab, hT, h4, hN, hs, hu, hv, hr, hua, hml⟩ := HX.out
  refine ⟨rfl, HK.out.trans hK5, Q, ts, vs, rs, ⟨u, by rw [Hi.out]; exact hu, .inr (.inr (.inr (.inr ⟨.inr (.inl ⟨rfl, Hgk.out⟩), rfl⟩)))⟩, hT, h4, ?_⟩
  exact ((Has.bt_more (Nat.le_add_right N 100) ((h5.reord [2, 0]) |> fun h => Has.skip (A := [_, _]) (M := [_]) h)).swap)
 clear hK5 h5 hh HFA neFA FA fa5 fa7 q2 tv lq lt HX Ha HK Hi HFd Hgk
 simp only [errV] at HI ⊢
 go_wp2_with (refine (HI.out _).mono ?_; rintro r w6 ⟨rfl, rfl⟩)
 go_ret2
 exact HF.out
/-
  The statements of layer 12: a call on a tree (step), of kind 2.
-/
set_option maxRecDepth 100000 in
theorem step_del {w : World} {l : List Say} {t sp p bank N : Nat} {es : List Ent} {Q : Pgs} {ts : List Tre} {vs : List Value} {rs : List (Value × List KV)} (tr key val : Int) (h : Has w (treesT t sp p (ts.map (·.a)) vs :: btS p bank sp N es Q :: (rs.map kvR ++ l))) (ht : Tab l) (hT : Grove Q ts) (h4 : Rows4 ts vs rs) (hN : N <= 150000) (hs : ∀ u ∈ ts, u.s <= 800000 /\ u.L.length <= 90000) (hp : ∀ u, ts[mod4 tr]? = some u -> ∃ x, getK u.L key = some x) :
  Calls Tryz.prog 46 #[.pointer (some ⟨t, 0, none⟩), .agg #[.int .i64 2, .int .i64 tr, .int .i64 key, .int .i64 val]] w (fun r w' => StepOk es t sp p bank N ts l 2 tr key val w r w' \/ StepFull es Q t sp p bank N ts vs rs l w r w') := by
 obtain ⟨u, v, hu, hv, hr⟩ := h4.at (mod4_lt tr)
 have hua : (ts.map (·.a))[mod4 tr]? = some u.a := by rw [List.getElem?_map, hu]; rfl
 have hml : (ts.map (·.a)).length = 4 := by rw [List.length_map]; exact h4.four
 have hA := (h.alloc (.cells #[.int .i64 2, .int .i64 tr, .int .i64 key, .int .i64 val] 83)).swap
 have HK : Hid (Kept w (w.alloc (.cells #[.int .i64 2, .int .i64 tr, .int .i64 key, .int .i64 val] 83))) := (Kept.refl w).alloc _
 have HMod : Hid (∀ w' : World, Calls Tryz.prog 52 #[.int .i64 tr] w' fun r w'' => r = .returned (.int .i64 (mod4 tr : Int)) /\ w' = w'') := fun w' => law_mod tr w'
 generalize hi : mod4 tr = i at *
 have hi4 : i < 4 := by rw [<- hi]; exact mod4_lt tr
 have Hi := Lib.hid hi
 have HX := Lib.hid (And.intro ht (And.intro hT (And.intro h4 (And.intro hN (And.intro hs (And.intro hu (And.intro hv (And.intro hr (And.intro hua hml)))))))))
 have HH := Lib.hid hA
 have iI : (i : Int) < 4 := by omega
 have i0 : (0 : Int) <= i := by omega
 clear h ht hT h4 hN hs hu hv hr hua hml hA hi
 go_enter Tryz.func46, Tryz.ntmps46
 go_upto_region 1 with fail
 generalize w.alloc (.cells #[.int .i64 2, .int .i64 tr, .int .i64 key, .int .i64 val] 83) = W at *
 generalize w.heap.size = b3 at *
 have hh := HH.out
 have hb := hh.tail.got
 have o0 : W.cell? ⟨b3, 0, none⟩ = some (.int .i64 2) := cell_of hb 0 rfl
 have o1 : W.cell? ⟨b3, 1, none⟩ = some (.int .i64 tr) := cell_of hb 1 rfl
 have o2 : W.cell? ⟨b3, 2, none⟩ = some (.int .i64 key) := cell_of hb 2 rfl
 have o3 : W.cell? ⟨b3, 3, none⟩ = some (.int .i64 val) := cell_of hb 3 rfl
 have lb := World.block_lt_of_cell? _ _ o0
 have t1 : W.cell? ⟨t, 1, none⟩ = some (.pointer (some ⟨p, 0, none⟩)) := cell_of hh.got 1 rfl
 have tr1 : W.cell? ⟨t, 2 + i, none⟩ = some (.int .i64 u.a) := cell_of hh.got _ (treesC_root HX.out.2.2.2.2.2.2.2.2.1)
 have lt := World.block_lt_of_cell? _ _ t1
 obtain ⟨a, ha⟩ : ∃ a, u.a = a := ⟨_, rfl⟩
 have Ha := Lib.hid ha
 rw [ha] at tr1
 clear hh hb ha
 go_wp2_with (refine (HMod.out _).mono ?_; rintro r w1 ⟨rfl, rfl⟩)
 obtain ⟨htab, hT, h4, hN, hs, hu, hv, hr, hua, hml⟩ := HX.out
 have hsrt := (hT.root u (List.mem_of_getElem? hu)).srt
 have hlen := (hs u (List.mem_of_getElem? hu)).2
 have hgk := hp u hu
 have HS : Hid (∀ w' l', Has w' (btS p bank sp N es Q :: l') -> Tab l' -> Calls Tryz.prog 44 #[.pointer (some ⟨p, 0, none⟩), .int .i64 a, .int .i64 key] w' (fun r w'' => ∃ ta ev Q', r = .returned (.tuple #[.int .i64 ta, ev]) /\ Kept w' w'' /\ ChR es Q u.a (delL u.L key) u.s ta ev Q' /\ Has w'' (btS p bank sp (N + 50) es Q' :: l'))) := fun w' l' h htb => by
  rw [<- Ha.out]
  refine (bt_Delete u.a key h htb (hT.root u (List.mem_of_getElem? hu)) hT.live (by omega) (by have := (hs u (List.mem_of_getElem? hu)).1; omega)).mono ?_
  rintro r w' (⟨h1, _⟩ | ⟨_, h1⟩)
  ·obtain ⟨x, hx⟩ := hgk; rw [hx] at h1; cases h1
  ·exact h1.chr
 have HI : Hid (∀ w' : World, Calls Tryz.prog 49 #[errV 50, .int .i64 50] w' fun r w'' => r = .returned (.bool true) /\ w' = w'') := fun w' => law_is12 (some 50) 50 w' (by decide) (by decide)
 obtain ⟨kx, hgx⟩ := hgk
 have hgk := hgx
 obtain ⟨vq, vc, ev0, _⟩ := HH.out.kv_read (v := v) (L := u.L) (by simp [kvR_mem hr])
 obtain ⟨vn, hvn⟩ : ∃ n, u.L.length = n := ⟨_, rfl⟩
 rw [hvn] at ev0
 clear hvn
 subst ev0
 have HFd : Hid (∀ w' l', Has w' l' -> kvS (.slice vq vn vc) u.L ∈ l' -> Calls Tryz.prog 48 #[.slice vq vn vc, .int .i64 key] w' (fun r w'' => r = .returned (.tuple #[.int .i64 kx, .bool true]) /\ w' = w'')) := fun w' l' h hm => by
  have := ref_Find key h hm hsrt (by omega)
  unfold fdV at this
  rw [hgk] at this
  exact this
 have HRf : Hid (∀ w' l', Has w' l' -> kvS (.slice vq vn vc) u.L ∈ l' -> Calls Tryz.prog 107 #[.slice vq vn vc, .int .i64 key] w' (KvPost (delL u.L key) l' w')) := fun w' l' h hm => ref_Without key h hm (by omega)
 have Hgk := Lib.hid hgk
 clear htab hT h4 hN hs hu hv hr hua hml hp hsrt hlen hgk hgx
 have hh := HH.out
 clear HH
 obtain ⟨FA, HFA⟩ : ∃ FA : List (Nat × Addr × Value), Hid (FA = [(3, ⟨t, 1, none⟩, .pointer (some ⟨p, 0, none⟩)), (6, ⟨b3, 2, none⟩, .int .i64 key)]) := ⟨_, rfl⟩
 have fa3 : ∀ n : In (factsOf FA 3), n.w.cell? ⟨t, 1, none⟩ = some (.pointer (some ⟨p, 0, none⟩)) := fun n => factsOf.cell (by rw [HFA.out]; simp) n
 have fa6 : ∀ n : In (factsOf FA 6), n.w.cell? ⟨b3, 2, none⟩ = some (.int .i64 key) := fun n => factsOf.cell (by rw [HFA.out]; simp) n
 have hFA : ∀ p ∈ FA, W.cell? p.2.1 = some p.2.2 := by rw [HFA.out]; exact (fcons t1 (fcons o2 fnil))
 haveI neFA : ∀ k, Nonempty (In (factsOf FA k)) := fun k => ⟨⟨_, factsOf.drew hFA k⟩⟩
 refine ws_begin [0, 1, 2, 3, 4, 5, 6, 7, 8, 9, 10, 11, 12] (factsOf FA) (treesT t sp p (ts.map (·.a)) vs :: pts b3 (.cells #[.int .i64 2, .int .i64 tr, .int .i64 key, .int .i64 val] 83 (0, 0)) :: btS p bank sp N es Q :: (rs.map kvR ++ l)) #[0, 1, 3, 7, 0, 0, 32, 127, 255, 511, 511, 1023, 4095] (by kernel_rfl) (by kernel_rfl) (by kernel_rfl) factsOf.alloc (factsOf.drew hFA) hh ?_
 clear hFA
 iterate 7 (refine ws_q (at_lit rfl) rfl rfl rfl ?_; go_big_quiet_op; show WS _ _ _ _ _ _ _ _ _ _)
 refine ws_call (at_lit rfl) rfl rfl 44 #[.pointer (some ⟨p, 0, none⟩), .int .i64 a, .int .i64 key] (fun w => by go_simp) (fun v L' => ∃ ta ev Q', v = .tuple #[.int .i64 ta, ev] /\ ChR es Q u.a (delL u.L key) u.s ta ev Q' /\ L' = treesT t sp p (ts.map (·.a)) vs :: pts b3 (.cells #[.int .i64 2, .int .i64 tr, .int .i64 key, .int .i64 val] 83 (0, 0)) :: btS p bank sp (N + 50) es Q' :: (rs.map kvR ++ l)) (fun w' F hS hh => ?_) ?_
 ·refine (HS.out w' _ (hh.reord [2]) ((((HX.out.1.app _).fr F).cons).cons)).mono ?_
  rintro r w'' ⟨ta, ev, Q', rfl, hK, hc, hh'⟩
  exact ⟨_, _, rfl, hK, ⟨ta, ev, Q', rfl, hc, rfl⟩, hh'.reord [1, 1]⟩
 rintro _ _ ⟨ta, ev, Q', rfl, hc, rfl⟩
 refine ⟨fun w F hh => lives (l' := []) (by rw [HFA.out]; simp [liveFacts, Nat.testBit]) (fnil), ?_⟩
 simp only [Act.put, List.setIfInBounds_toArray, List.set_cons_zero, List.set_cons_succ]
 show WS _ _ _ _ _ _ _ _ _ _
 iterate 5 (refine ws_q (at_lit rfl) rfl rfl rfl ?_; go_big_quiet_op; show WS _ _ _ _ _ _ _ _ _ _)
 refine ws_end ?_
 intro w4 hK4 h4
 have hb := h4.at (b := b3) (o := .cells #[.int .i64 2, .int .i64 tr, .int .i64 key, .int .i64 val] 83 (0, 0)) (by simp)
 have q2 : w4.cell? ⟨b3, 2, none⟩ = some (.int .i64 key) := cell_of hb 2 rfl
 have htt := h4.at (b := t) (o := .cells (treesC sp p (ts.map (·.a)) vs) 70 (0, 0)) (by simp [treesT])
 have tv : w4.cell? ⟨t, 6 + i, none⟩ = some (.slice vq vn vc) := cell_of htt _ (treesC_list HX.out.2.2.2.2.2.2.2.2.2 HX.out.2.2.2.2.2.2.1)
 have HH := Lib.hid h4
 have HK4 := Lib.hid (HK.out.trans hK4)
 clear hK4 h4 hh HFA neFA FA fa3 fa6 o0 o1 o2 o3 t1 tr1 lb lt hb htt HS HMod HK
 have HK := HK4
 clear HK4
 have lq := World.block_lt_of_cell? _ _ q2
 have lt := World.block_lt_of_cell? _ _ tv
 go_upto_region 13 with fail
 have hh := HH.out
 clear HH
 obtain ⟨FA, HFA⟩ : ∃ FA : List (Nat × Addr × Value), Hid (FA = [(5, ⟨t, 6 + i, none⟩, .slice vq vn vc), (7, ⟨b3, 2, none⟩, .int .i64 key)]) := ⟨_, rfl⟩
 have fa5 : ∀ n : In (factsOf FA 5), n.w.cell? ⟨t, 6 + i, none⟩ = some (.slice vq vn vc) := fun n => factsOf.cell (by rw [HFA.out]; simp) n
 have fa7 : ∀ n : In (factsOf FA 7), n.w.cell? ⟨b3, 2, none⟩ = some (.int .i64 key) := fun n => factsOf.cell (by rw [HFA.out]; simp) n
 have hFA : ∀ p ∈ FA, w4.cell? p.2.1 = some p.2.2 := by rw [HFA.out]; exact (fcons tv (fcons q2 fnil))
 haveI neFA : ∀ k, Nonempty (In (factsOf FA k)) := fun k => ⟨⟨_, factsOf.drew hFA k⟩⟩
 refine ws_begin [0, 1, 2, 3, 4, 5, 6, 7, 8, 9, 10, 11, 12, 13] (factsOf FA) (treesT t sp p (ts.map (·.a)) vs :: pts b3 (.cells #[.int .i64 2, .int .i64 tr, .int .i64 key, .int .i64 val] 83 (0, 0)) :: btS p bank sp (N + 50) es Q' :: (rs.map kvR ++ l)) #[0, 0, 1, 5, 15, 31, 0, 64, 255, 511, 1023, 1023, 2047, 8191] (by kernel_rfl) (by kernel_rfl) (by kernel_rfl) factsOf.alloc (factsOf.drew hFA) hh ?_
 clear hFA
 iterate 8 (refine ws_q (at_lit rfl) rfl rfl rfl ?_; go_big_quiet_op; show WS _ _ _ _ _ _ _ _ _ _)
 refine ws_call (at_lit rfl) rfl rfl 48 #[.slice vq vn vc, .int .i64 key] (fun w => by go_simp) (fun v L' => v = .tuple #[.int .i64 kx, .bool true] /\ L' = treesT t sp p (ts.map (·.a)) vs :: pts b3 (.cells #[.int .i64 2, .int .i64 tr, .int .i64 key, .int .i64 val] 83 (0, 0)) :: btS p bank sp (N + 50) es Q' :: (rs.map kvR ++ l)) (fun w' F hS hh => ?_) ?_
 ·refine (HFd.out w' _ hh (by have := kvR_mem HX.out.2.2.2.2.2.2.2.1; simp [this])).mono ?_
  rintro r w'' ⟨rfl, rfl⟩
  exact ⟨_, _, rfl, Kept.refl _, ⟨rfl, rfl⟩, hh⟩
 rintro _ _ ⟨rfl, rfl⟩
 refine ⟨fun w F hh => lives (l' := []) (by rw [HFA.out]; simp [liveFacts, Nat.testBit]) (fnil), ?_⟩
 simp only [Act.put, List.setIfInBounds_toArray, List.set_cons_zero, List.set_cons_succ]
 show WS _ _ _ _ _ _ _ _ _ _
 iterate 5 (refine ws_q (at_lit rfl) rfl rfl rfl ?_; go_big_quiet_op; show WS _ _ _ _ _ _ _ _ _ _)
 refine ws_end ?_
 intro w5 hK5 h5
 have hb := h5.at (b := b3) (o := .cells #[.int .i64 2, .int .i64 tr, .int .i64 key, .int .i64 val] 83 (0, 0)) (by simp)
 have q0 : w5.cell? ⟨b3, 0, none⟩ = some (.int .i64 2) := cell_of hb 0 rfl
 have q2 : w5.cell? ⟨b3, 2, none⟩ = some (.int .i64 key) := cell_of hb 2 rfl
 have q3 : w5.cell? ⟨b3, 3, none⟩ = some (.int .i64 val) := cell_of hb 3 rfl
 have lq := World.block_lt_of_cell? _ _ q2
 have htt := h5.at (b := t) (o := .cells (treesC sp p (ts.map (·.a)) vs) 70 (0, 0)) (by simp [treesT])
 have tv : w5.cell? ⟨t, 6 + i, none⟩ = some (.slice vq vn vc) := cell_of htt _ (treesC_list HX.out.2.2.2.2.2.2.2.2.2 HX.out.2.2.2.2.2.2.1)
 have t2 : w5.cell? ⟨t, 1, none⟩ = some (.pointer (some ⟨p, 0, none⟩)) := cell_of htt 1 rfl
 have lt2 := World.block_lt_of_cell? _ _ t2
 have HH := Lib.hid h5
 have HK5 := Lib.hid (HK.out.trans hK5)
 clear hK5 h5 hh HFA neFA FA fa5 fa7 hb htt HK HFd
 rcases hc with ⟨rfl, rfl, hL, hm, hf⟩ | ⟨rfl, hL, hm, s', hB, hR⟩
 ·have HF : Hid (StepFull es Q t sp p bank N ts (vs) rs l w (.returned (.tuple #[.bool true, .bool true])) w5) :=
   ⟨rfl, HK5.out, Q', HX.out.2.1.same hL hm, hm, hf, (Has.bt_more (show N + 50 <= N + 100 by omega) ((HH.out.reord [2, 0]) |> fun h => Has.skip (A := [_, _]) (M := [_]) h)).swap⟩
  clear hL hm hf HH HX HK5 tv Hi
  simp only [errV] at HI ⊢
  go_wp2_with (refine (HI.out _).mono ?_; rintro r w6 ⟨rfl, rfl⟩)
  go_ret2
  exact .inr HF.out
 have HC : Hid (Live Q' /\ Moved Q Q' u.a ta /\ s' <= u.s /\ Root Q' ta (delL u.L key) s') := ⟨hL, hm, hB, hR⟩
 clear hL hm hB hR HI
 go_upto_region 18 with fail
 have hh := HH.out
 clear HH
 obtain ⟨FA, HFA⟩ : ∃ FA : List (Nat × Addr × Value), Hid (FA = [(10, ⟨t, 6 + i, none⟩, .slice vq vn vc), (12, ⟨b3, 2, none⟩, .int .i64 key)]) := ⟨_, rfl⟩
 have fa10 : ∀ n : In (factsOf FA 10), n.w.cell? ⟨t, 6 + i, none⟩ = some (.slice vq vn vc) := fun n => factsOf.cell (by rw [HFA.out]; simp) n
 have fa12 : ∀ n : In (factsOf FA 12), n.w.cell? ⟨b3, 2, none⟩ = some (.int .i64 key) := fun n => factsOf.cell (by rw [HFA.out]; simp) n
 have hFA : ∀ p ∈ FA, w5.cell? p.2.1 = some p.2.2 := by rw [HFA.out]; exact (fcons tv (fcons q2 fnil))
 haveI neFA : ∀ k, Nonempty (In (factsOf FA k)) := fun k => ⟨⟨_, factsOf.drew hFA k⟩⟩
 refine ws_begin [0, 1, 2, 3, 4, 5, 6, 7, 8, 9, 10, 11, 12, 13, 14, 15, 16, 17, 18, 19, 20, 21] (factsOf FA) (treesT t sp p (ts.map (·.a)) vs :: pts b3 (.cells #[.int .i64 2, .int .i64 tr, .int .i64 key, .int .i64 val] 83 (0, 0)) :: btS p bank sp (N + 50) es Q' :: (rs.map kvR ++ l)) #[0, 0, 0, 0, 0, 0, 0, 32, 160, 480, 992, 0, 2048, 8160, 1, 16385, 65523, 131059, 4, 262148, 1048575, 2097151] (by kernel_rfl) (by kernel_rfl) (by kernel_rfl) factsOf.alloc (factsOf.drew hFA) hh ?_
 clear hFA
 iterate 13 (refine ws_q (at_lit rfl) rfl rfl rfl ?_; go_big_quiet_op; show WS _ _ _ _ _ _ _ _ _ _)
 refine ws_call (at_lit rfl) rfl rfl 107 #[.slice vq vn vc, .int .i64 key] (fun w => by go_simp) (fun v L' => ∃ q n c, v = .slice q n c /\ L' = kvS (.slice q n c) (delL u.L key) :: treesT t sp p (ts.map (·.a)) vs :: pts b3 (.cells #[.int .i64 2, .int .i64 tr, .int .i64 key, .int .i64 val] 83 (0, 0)) :: btS p bank sp (N + 50) es Q' :: (rs.map kvR ++ l)) (fun w' F hS hh => ?_) ?_
 ·refine (HRf.out w' _ hh (by have := kvR_mem HX.out.2.2.2.2.2.2.2.1; simp [this])).mono ?_
  intro r w'' hpost
  obtain ⟨q, n, c, rfl, hK, hh'⟩ := hpost.slice
  exact ⟨_, _, rfl, hK, ⟨q, n, c, rfl, rfl⟩, hh'⟩
 rintro _ _ ⟨q, n, c, rfl, rfl⟩
 refine ⟨fun w F hh => lives (l' := []) (by rw [HFA.out]; simp [liveFacts, Nat.testBit]) (fnil), ?_⟩
 simp only [Act.put, List.setIfInBounds_toArray, List.set_cons_zero, List.set_cons_succ]
 show WS _ _ _ _ _ _ _ _ _ _
 iterate 3 (refine ws_q (at_lit rfl) rfl rfl rfl ?_; go_big_quiet_op; show WS _ _ _ _ _ _ _ _ _ _)
 refine ws_reord [1] ?_
 simp only [reord, pull]
 refine ws_store_root (at_lit rfl) rfl rfl (.tmp 154) (.tmp 142) rfl rfl rfl HX.out.2.2.2.2.2.2.2.2.2 HX.out.2.2.1.vals hi4 (fun w' F hh => lives (l' := []) (by rw [HFA.out]; simp [liveFacts, Nat.testBit]) (fnil)) ?_
 simp only [Act.put, List.setIfInBounds_toArray, List.set_cons_zero, List.set_cons_succ]
 show WS _ _ _ _ _ _ _ _ _ _
 iterate 3 (refine ws_q (at_lit rfl) rfl rfl rfl ?_; go_big_quiet_op; show WS _ _ _ _ _ _ _ _ _ _)
 refine ws_store_list (at_lit rfl) rfl rfl (.tmp 157) (.tmp 151) rfl rfl rfl (by rw [List.length_set]; exact HX.out.2.2.2.2.2.2.2.2.2) HX.out.2.2.1.vals hi4 (fun w' F hh => lives (l' := []) (by rw [HFA.out]; simp [liveFacts, Nat.testBit]) (fnil)) ?_
 simp only [Act.put, List.setIfInBounds_toArray, List.set_cons_zero, List.set_cons_succ]
 show WS _ _ _ _ _ _ _ _ _ _
 refine ws_end ?_
 intro w6 hK6 h6
 have HF : Hid (StepOk es t sp p bank N ts l 2 tr key val w (.returned (.tuple #[.bool true, .bool false])) w6) := by
  obtain ⟨htab, hT, h4, hN, hs, hu, hv, hr, hua, hml⟩ := HX.out
  obtain ⟨hL, hm, hB, hR⟩ := HC.out
  refine ⟨rfl, HK5.out.trans hK6, Q', ts.set i ⟨ta, delL u.L key, s'⟩, vs.set i (.slice q n c), (.slice q n c, delL u.L key) :: rs, ⟨u, by rw [Hi.out]; exact hu, by rw [Hi.out]; exact .inr (.inl ⟨rfl, ⟨kx, Hgk.out⟩, ta, s', hB, rfl⟩)⟩, hT.set hu hL hm hR, h4.set i (fun r hr => .tail _ hr) (.head _), ?_⟩
  rw [roots_set]
  exact (Has.bt_more (show N + 50 <= N + 100 by omega) ((h6.reord [3, 0]) |> fun h => Has.skip (A := [_, _, _]) (M := [_]) h)).swap
 clear hK6 h6 hh HFA neFA FA fa10 fa12 q0 q2 q3 tv t2 lq lt2 HX HC HK5 HRf Hi Ha
 go_wp2
 go_ret2
 exact .inl HF.out
/-
  The statements of layer 12: a tree is held once more; a tree is dropped.
-/
def HeldPost (p bank sp N : Nat) (es : List Ent) (us : List Tre) (l : List Say) (w : World) (r : Ending) (w' : World) : Prop :=
 r = .returned .nilIface /\ Kept w w' /\ ∃ Q', Grove Q' us /\ Has w' (btS p bank sp N es Q' :: l)
theorem tree_hold {w : World} {l : List Say} {p bank sp N : Nat} {es : List Ent} {Q : Pgs} {ts : List Tre} {x : Tre} (h : Has w (btS p bank sp N es Q :: l)) (hT : Grove Q ts) (hx : x ∈ ts) (h0 : x.a ≠ 0) (hN : N <= 500000) :
  Calls Tryz.prog 27 #[.pointer (some ⟨p, 0, none⟩), .int .i64 x.a] w (HeldPost p bank sp (N + 1) es (x :: ts) l w) := by
 obtain ⟨g, hg, _⟩ := hT.has hx h0
 refine (bt_Hold h hg hN).mono ?_
 rintro r w' ⟨hK, rfl, hh⟩
 exact ⟨rfl, hK, _, hT.hold hx hg h0, hh⟩
theorem tree_drop {w : World} {l : List Say} {p bank sp N : Nat} {es : List Ent} {Q : Pgs} {ts : List Tre} {x : Tre} (h : Has w (btS p bank sp N es Q :: l)) (hT : Grove Q (x :: ts)) (h0 : x.a ≠ 0) (hN : N <= 500000) :
  Calls Tryz.prog 28 #[.pointer (some ⟨p, 0, none⟩), .int .i64 x.a] w (HeldPost p bank sp N es ts l w) := by
 obtain ⟨g, hg, h1⟩ := hT.has (.head _) h0
 refine (bt_Drop h hg h1 hN).mono ?_
 rintro r w' ⟨hK, rfl, Q', hd, hh⟩
 exact ⟨rfl, hK, Q', hT.drop h0 hd h.bt_inv.1 hh.bt_inv.1, hh⟩
theorem move_perm {ts : List Tre} {i : Nat} {u : Tre} (hu : ts[i]? = some u) (x : Tre) : (x :: ts).Perm (u :: ts.set i x) := by
 obtain ⟨us, h1, h2⟩ := set_perm hu
 exact ((h1.cons x).trans (List.Perm.swap u x us)).trans ((h2 x).symm.cons u)
end Go.Proofs.YtgbgneiciabidaaGreatDoor
