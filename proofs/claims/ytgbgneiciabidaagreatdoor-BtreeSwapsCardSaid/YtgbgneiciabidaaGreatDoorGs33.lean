/-
  The statements of layer 12: the trees of a statement, their lists, and a call on one of them.
-/
import Derived.Test.YtgbgneiciabidaaGreatDoorGs32
namespace Go.Proofs.YtgbgneiciabidaaGreatDoor
open Go Go.RowKit
set_option linter.all false
set_option maxHeartbeats 8000000
def treesC (sp p : Nat) (az : List Int) (vs : List Value) : Array Value := (.pointer (some ⟨sp, 0, none⟩) :: .pointer (some ⟨p, 0, none⟩) :: (az.map intVal ++ vs)).toArray
def treesT (t sp p : Nat) (az : List Int) (vs : List Value) : Say := pts t (.cells (treesC sp p az vs) 70 (0, 0))
def kvR (r : Value × List KV) : Say := kvS r.1 r.2
theorem kvR_mem {v : Value} {L : List KV} {rs : List (Value × List KV)} (h : (v, L) ∈ rs) : kvS v L ∈ rs.map kvR := List.mem_map.2 ⟨_, h, rfl⟩
theorem treesC_root {sp p : Nat} {az : List Int} {vs : List Value} {i : Nat} {a : Int} (h : az[i]? = some a) : (treesC sp p az vs)[2 + i]? = some (.int .i64 a) := by
 have hi := (List.getElem?_eq_some_iff.1 h).1
 unfold treesC
 rw [List.getElem?_toArray, Nat.add_comm, List.getElem?_cons_succ, List.getElem?_cons_succ, List.getElem?_append_left (by simpa using hi), List.getElem?_map, h]
 rfl
theorem treesC_list {sp p : Nat} {az : List Int} {vs : List Value} {i : Nat} {v : Value} (h4 : az.length = 4) (h : vs[i]? = some v) : (treesC sp p az vs)[6 + i]? = some v := by
 unfold treesC
 rw [List.getElem?_toArray, show 6 + i = (i + 4) + 1 + 1 by omega, List.getElem?_cons_succ, List.getElem?_cons_succ, List.getElem?_append_right (by simp [h4]), List.length_map, h4, Nat.add_sub_cancel]
 exact h
theorem treesC_size {sp p : Nat} {az : List Int} {vs : List Value} (h4 : az.length = 4) (h5 : vs.length = 4) : (treesC sp p az vs).size = 10 := by simp [treesC, h4, h5]
theorem treesC_setA {sp p : Nat} {az : List Int} {vs : List Value} {i : Nat} (a : Int) (hi : i < az.length) : (treesC sp p az vs).setIfInBounds (2 + i) (.int .i64 a) = treesC sp p (az.set i a) vs := by
 unfold treesC
 rw [List.setIfInBounds_toArray, Nat.add_comm, List.set_cons_succ, List.set_cons_succ, List.set_append_left _ _ (by simpa using hi), List.map_set]
 rfl
theorem treesC_setV {sp p : Nat} {az : List Int} {vs : List Value} {i : Nat} (v : Value) (h4 : az.length = 4) : (treesC sp p az vs).setIfInBounds (6 + i) v = treesC sp p az (vs.set i v) := by
 unfold treesC
 rw [List.setIfInBounds_toArray, show 6 + i = (i + 4) + 1 + 1 by omega, List.set_cons_succ, List.set_cons_succ, List.set_append_right _ _ (by simp [h4]), List.length_map, h4, Nat.add_sub_cancel]
section
variable {ops : Array Oper} {S : Nat -> World -> Prop} {live : Nat -> Nat -> Prop} {kd : Nat -> Kd} {k : Nat} {ord : List Nat} {a : Act} {L : List Say} {o : Oper} {w0 : World} {Q : Exit -> Act -> World -> Prop}
theorem ws_store_root (ho : ops[k]? = some o) (hw : Region.wanted o (yielded ops a.tmps) = true) (hk : kd k = .mn) (x y : Operand) (hop : o.op = .store 3 x y)
  {t sp p i : Nat} {az : List Int} {vs : List Value} {b : Int} {L2 : List Say} (hx : a.eval x = .pointer (some ⟨t, 2 + i, none⟩)) (hy : a.eval y = .int .i64 b) (h4 : az.length = 4) (h5 : vs.length = 4) (hi : i < 4)
  (hS : ∀ w F, Has w (treesT t sp p (az.set i b) vs :: L2 ++ F) -> ∀ j, live k j -> S j w) (h : WS Tryz.prog ops S live kd Q w0 ord (a.put o.dst undef) (treesT t sp p (az.set i b) vs :: L2)) :
  WS Tryz.prog ops S live kd Q w0 (k :: ord) a (treesT t sp p az vs :: L2) := by
 have hsz : (Tryz.prog.info? 3).map (·.size) = some (Value.int .i64 b).cells.size := by kernel_rfl
 exact ws_store ho hw hk 3 x y hop hx hy (by rw [treesC_size h4 h5]; simp [Value.cells]; omega) (by simp [Value.cells, Value.oneCell']) hsz (by simp only [Value.cells, putCells]; exact treesC_setA b (by omega)) hS h
theorem ws_store_list (ho : ops[k]? = some o) (hw : Region.wanted o (yielded ops a.tmps) = true) (hk : kd k = .mn) (x y : Operand) (hop : o.op = .store 67 x y)
  {t sp p i : Nat} {az : List Int} {vs : List Value} {q : Option Addr} {n c : Nat} {L2 : List Say} (hx : a.eval x = .pointer (some ⟨t, 6 + i, none⟩)) (hy : a.eval y = .slice q n c) (h4 : az.length = 4) (h5 : vs.length = 4) (hi : i < 4)
  (hS : ∀ w F, Has w (treesT t sp p az (vs.set i (.slice q n c)) :: L2 ++ F) -> ∀ j, live k j -> S j w) (h : WS Tryz.prog ops S live kd Q w0 ord (a.put o.dst undef) (treesT t sp p az (vs.set i (.slice q n c)) :: L2)) :
  WS Tryz.prog ops S live kd Q w0 (k :: ord) a (treesT t sp p az vs :: L2) := by
 have hsz : (Tryz.prog.info? 67).map (·.size) = some (Value.slice q n c).cells.size := by
  have : (Tryz.prog.info? 67).map (·.size) = some 1 := by kernel_rfl
  exact this
 exact ws_store ho hw hk 67 x y hop hx hy (by rw [treesC_size h4 h5]; simp [Value.cells]; omega) (by simp [Value.cells, Value.oneCell']) hsz (by simp only [Value.cells, putCells]; exact treesC_setV _ h4) hS h
end
def StepTo (kd tr key val : Int) (ts ts' : List Tre) : Prop := ∃ t, ts[mod4 tr]? = some t /\
  ((kd = 1 /\ pairOk key val = true /\ ∃ ta s', s' <= max t.s 1 + 1 /\ ts' = ts.set (mod4 tr) ⟨ta, putL t.L key val, s'⟩) \/
   (kd = 2 /\ (∃ v, getK t.L key = some v) /\ ∃ ta s', s' <= t.s /\ ts' = ts.set (mod4 tr) ⟨ta, delL t.L key, s'⟩) \/
   (kd = 3 /\ ∃ u, ts[mod4 key]? = some u /\ ts' = ts.set (mod4 tr) u) \/
   (kd = 4 /\ ts' = ts.set (mod4 tr) noTre) \/
   (((kd = 1 /\ pairOk key val = false) \/ (kd = 2 /\ getK t.L key = none) \/ (kd ≠ 1 /\ kd ≠ 2 /\ kd ≠ 3 /\ kd ≠ 4)) /\ ts' = ts))
structure Rows4 (ts : List Tre) (vs : List Value) (rs : List (Value × List KV)) : Prop where
 four : ts.length = 4
 vals : vs.length = 4
 row : ∀ (i : Nat) (t : Tre) (v : Value), ts[i]? = some t -> vs[i]? = some v -> (v, t.L) ∈ rs
theorem Rows4.at {ts : List Tre} {vs : List Value} {rs : List (Value × List KV)} (h : Rows4 ts vs rs) {i : Nat} (hi : i < 4) : ∃ t v, ts[i]? = some t /\ vs[i]? = some v /\ (v, t.L) ∈ rs := by
 obtain ⟨t, h1⟩ : ∃ t, ts[i]? = some t := ⟨_, List.getElem?_eq_getElem (by rw [h.four]; exact hi)⟩
 obtain ⟨v, h2⟩ : ∃ v, vs[i]? = some v := ⟨_, List.getElem?_eq_getElem (by rw [h.vals]; exact hi)⟩
 exact ⟨_, _, h1, h2, h.row i _ _ h1 h2⟩
theorem Rows4.set {ts : List Tre} {vs : List Value} {rs : List (Value × List KV)} (h : Rows4 ts vs rs) (i : Nat) {t : Tre} {v : Value} {rs' : List (Value × List KV)} (hs : ∀ r ∈ rs, r ∈ rs') (hr : (v, t.L) ∈ rs') : Rows4 (ts.set i t) (vs.set i v) rs' := by
 refine ⟨by rw [List.length_set]; exact h.four, by rw [List.length_set]; exact h.vals, fun j t' v' h1 h2 => ?_⟩
 rw [List.getElem?_set] at h1 h2
 by_cases e : i = j
 ·subst e
  rw [if_pos rfl] at h1 h2
  split at h1
  ·rename_i e1
   obtain rfl := Option.some.inj h1
   split at h2
   ·obtain rfl := Option.some.inj h2
    exact hr
   ·cases h2
  ·cases h1
 ·rw [if_neg e] at h1 h2
  exact hs _ (h.row j _ _ h1 h2)
theorem roots_set (ts : List Tre) (i : Nat) (t : Tre) : (ts.set i t).map (·.a) = (ts.map (·.a)).set i t.a := List.map_set
theorem set_perm {ts : List Tre} {i : Nat} {t : Tre} (h : ts[i]? = some t) : ∃ us, ts.Perm (t :: us) /\ ∀ u, (ts.set i u).Perm (u :: us) := by
 obtain ⟨hi, rfl⟩ := List.getElem?_eq_some_iff.1 h
 refine ⟨ts.take i ++ ts.drop (i + 1), ?_, fun u => ?_⟩
 ·have : ts = ts.take i ++ ts[i] :: ts.drop (i + 1) := by rw [<- List.drop_eq_getElem_cons hi, List.take_append_drop]
  conv => lhs; rw [this]
  exact List.perm_middle
 ·rw [List.set_eq_take_append_cons_drop, if_pos hi]
  exact List.perm_middle
def StepOk (es : List Ent) (t sp p bank N : Nat) (ts : List Tre) (l : List Say) (kd tr key val : Int) (w : World) (r : Ending) (w' : World) : Prop :=
 r = .returned (.tuple #[.bool true, .bool false]) /\ Kept w w' /\ ∃ Q' ts' vs' rs', StepTo kd tr key val ts ts' /\ Grove Q' ts' /\ Rows4 ts' vs' rs' /\ Has w' (treesT t sp p (ts'.map (·.a)) vs' :: btS p bank sp (N + 100) es Q' :: (rs'.map kvR ++ l))
def StepFull (es : List Ent) (Q : Pgs) (t sp p bank N : Nat) (ts : List Tre) (vs : List Value) (rs : List (Value × List KV)) (l : List Say) (w : World) (r : Ending) (w' : World) : Prop :=
 r = .returned (.tuple #[.bool true, .bool true]) /\ Kept w w' /\ ∃ Q', Grove Q' ts /\ Moved Q Q' 0 0 /\ (∃ Q1 news, Puts es Q news Q1 /\ news.length <= 50 /\ FullQ es Q1) /\ Has w' (treesT t sp p (ts.map (·.a)) vs :: btS p bank sp (N + 100) es Q' :: (rs.map kvR ++ l))
/-
  The statements of layer 12: a call on a tree (step), of kind 1, with what is no pair.
-/
set_option maxRecDepth 100000 in
theorem step_bad {w : World} {l : List Say} {t sp p bank N : Nat} {es : List Ent} {Q : Pgs} {ts : List Tre} {vs : List Value} {rs : List (Value × List KV)} (tr key val : Int) (h : Has w (treesT t sp p (ts.map (·.a)) vs :: btS p bank sp N es Q :: (rs.map kvR ++ l))) (ht : Tab l) (hT : Grove Q ts) (h4 : Rows4 ts vs rs) (hN : N <= 150000) (hs : ∀ u ∈ ts, u.s <= 800000 /\ u.L.length <= 90000) (hp : pairOk key val = false) :
  Calls Tryz.prog 46 #[.pointer (some ⟨t, 0, none⟩), .agg #[.int .i64 1, .int .i64 tr, .int .i64 key, .int .i64 val]] w (StepOk es t sp p bank N ts l 1 tr key val w) := by
 obtain ⟨u, v, hu, hv, hr⟩ := h4.at (mod4_lt tr)
 have hua : (ts.map (·.a))[mod4 tr]? = some u.a := by rw [List.getElem?_map, hu]; rfl
 have hml : (ts.map (·.a)).length = 4 := by rw [List.length_map]; exact h4.four
 have hA := (h.alloc (.cells #[.int .i64 1, .int .i64 tr, .int .i64 key, .int .i64 val] 83)).swap
 have HK : Hid (Kept w (w.alloc (.cells #[.int .i64 1, .int .i64 tr, .int .i64 key, .int .i64 val] 83))) := (Kept.refl w).alloc _
 have HMod : Hid (∀ w' : World, Calls Tryz.prog 52 #[.int .i64 tr] w' fun r w'' => r = .returned (.int .i64 (mod4 tr : Int)) /\ w' = w'') := fun w' => law_mod tr w'
 generalize hi : mod4 tr = i at *
 have hi4 : i < 4 := by rw [<- hi]; exact mod4_lt tr
 have Hi := Lib.hid hi
 have HX := Lib.hid (And.intro ht (And.intro hT (And.intro h4 (And.intro hN (And.intro hs (And.intro hu (And.intro hv (And.intro hr (And.intro hua hml)))))))))
 have HH := Lib.hid hA
 have iI : (i : Int) < 4 := by omega
 have i0 : (0 : Int) <= i := by omega
 clear h ht hT h4 hN hs hu hv hr hua hml hA hi
 go_enter Tryz.func46, Tryz.ntmps46
 go_upto_region 1 with fail
 generalize w.alloc (.cells #[.int .i64 1, .int .i64 tr, .int .i64 key, .int .i64 val] 83) = W at *
 generalize w.heap.size = b3 at *
 have hh := HH.out
 have hb := hh.tail.got
 have o0 : W.cell? ⟨b3, 0, none⟩ = some (.int .i64 1) := cell_of hb 0 rfl
 have o1 : W.cell? ⟨b3, 1, none⟩ = some (.int .i64 tr) := cell_of hb 1 rfl
 have o2 : W.cell? ⟨b3, 2, none⟩ = some (.int .i64 key) := cell_of hb 2 rfl
 have o3 : W.cell? ⟨b3, 3, none⟩ = some (.int .i64 val) := cell_of hb 3 rfl
 have lb := World.block_lt_of_cell? _ _ o0
 have t1 : W.cell? ⟨t, 1, none⟩ = some (.pointer (some ⟨p, 0, none⟩)) := cell_of hh.got 1 rfl
 have tr1 : W.cell? ⟨t, 2 + i, none⟩ = some (.int .i64 u.a) := cell_of hh.got _ (treesC_root HX.out.2.2.2.2.2.2.2.2.1)
 have lt := World.block_lt_of_cell? _ _ t1
 obtain ⟨a, ha⟩ : ∃ a, u.a = a := ⟨_, rfl⟩
 have Ha := Lib.hid ha
 rw [ha] at tr1
 clear hh hb ha
 go_wp2_with (refine (HMod.out _).mono ?_; rintro r w1 ⟨rfl, rfl⟩)
 obtain ⟨htab, hT, h4, hN, hs, hu, hv, hr, hua, hml⟩ := HX.out
 have HS : Hid (∀ w' l', Has w' (btS p bank sp N es Q :: l') -> Tab l' -> Calls Tryz.prog 39 #[.pointer (some ⟨p, 0, none⟩), .int .i64 a, .int .i64 key, .int .i64 val] w' (fun r w'' => r = .returned (.tuple #[.int .i64 0, errV 80]) /\ Kept w' w'' /\ Has w'' (btS p bank sp N es Q :: l'))) := fun w' l' h htb => by
  rw [<- Ha.out]
  refine (bt_Set u.a key val h htb (hT.root u (List.mem_of_getElem? hu)) hT.live (by omega) (by have := (hs u (List.mem_of_getElem? hu)).1; omega)).mono ?_
  rintro r w' (⟨_, h1, h2, h3⟩ | ⟨h1, _⟩)
  ·exact ⟨h1, h2, h3⟩
  ·rw [hp] at h1; cases h1
 have HI : Hid (∀ w' : World, Calls Tryz.prog 49 #[errV 80, .int .i64 80] w' fun r w'' => r = .returned (.bool true) /\ w' = w'') := fun w' => law_is12 (some 80) 80 w' (by decide) (by decide)
 have hpc : key < 0 \/ (0 <= key /\ 1099511627776 < key) \/ (0 <= key /\ key <= 1099511627776 /\ val < 1) \/ (0 <= key /\ key <= 1099511627776 /\ 1 <= val /\ 2305843009213693952 < val) := by
  have hq : ¬ (0 <= key /\ key <= 1099511627776 /\ 1 <= val /\ val <= 2305843009213693952) := by
   rintro ⟨q1, q2, q3, q4⟩
   unfold pairOk at hp
   simp [q1, q2, q3, q4] at hp
  omega
 have Hp := Lib.hid hp
 have Hpc := Lib.hid hpc
 clear htab hT h4 hN hs hu hv hr hua hml hp hpc
 have hh := HH.out
 clear HH
 obtain ⟨FA, HFA⟩ : ∃ FA : List (Nat × Addr × Value), Hid (FA = [(3, ⟨t, 1, none⟩, .pointer (some ⟨p, 0, none⟩)), (6, ⟨b3, 2, none⟩, .int .i64 key), (8, ⟨b3, 3, none⟩, .int .i64 val)]) := ⟨_, rfl⟩
 have fa3 : ∀ n : In (factsOf FA 3), n.w.cell? ⟨t, 1, none⟩ = some (.pointer (some ⟨p, 0, none⟩)) := fun n => factsOf.cell (by rw [HFA.out]; simp) n
 have fa6 : ∀ n : In (factsOf FA 6), n.w.cell? ⟨b3, 2, none⟩ = some (.int .i64 key) := fun n => factsOf.cell (by rw [HFA.out]; simp) n
 have fa8 : ∀ n : In (factsOf FA 8), n.w.cell? ⟨b3, 3, none⟩ = some (.int .i64 val) := fun n => factsOf.cell (by rw [HFA.out]; simp) n
 have hFA : ∀ p ∈ FA, W.cell? p.2.1 = some p.2.2 := by rw [HFA.out]; exact (fcons t1 (fcons o2 (fcons o3 fnil)))
 haveI neFA : ∀ k, Nonempty (In (factsOf FA k)) := fun k => ⟨⟨_, factsOf.drew hFA k⟩⟩
 refine ws_begin [0, 1, 2, 3, 4, 5, 6, 7, 8, 9, 10, 11, 12, 13, 14] (factsOf FA) (treesT t sp p (ts.map (·.a)) vs :: pts b3 (.cells #[.int .i64 1, .int .i64 tr, .int .i64 key, .int .i64 val] 83 (0, 0)) :: btS p bank sp N es Q :: (rs.map kvR ++ l)) #[0, 1, 3, 7, 0, 0, 32, 0, 128, 511, 1023, 2047, 2047, 4095, 16383] (by kernel_rfl) (by kernel_rfl) (by kernel_rfl) factsOf.alloc (factsOf.drew hFA) hh ?_
 clear hFA
 iterate 9 (refine ws_q (at_lit rfl) rfl rfl rfl ?_; go_big_quiet_op; show WS _ _ _ _ _ _ _ _ _ _)
 refine ws_call (at_lit rfl) rfl rfl 39 #[.pointer (some ⟨p, 0, none⟩), .int .i64 a, .int .i64 key, .int .i64 val] (fun w => by go_simp) (fun v L' => v = .tuple #[.int .i64 0, errV 80] /\ L' = treesT t sp p (ts.map (·.a)) vs :: pts b3 (.cells #[.int .i64 1, .int .i64 tr, .int .i64 key, .int .i64 val] 83 (0, 0)) :: btS p bank sp N es Q :: (rs.map kvR ++ l)) (fun w' F hS hh => ?_) ?_
 ·refine (HS.out w' _ (hh.reord [2]) ((((HX.out.1.app _).fr F).cons).cons)).mono ?_
  rintro r w'' ⟨rfl, hK, hh'⟩
  exact ⟨_, _, rfl, hK, ⟨rfl, rfl⟩, hh'.reord [1, 1]⟩
 rintro _ _ ⟨rfl, rfl⟩
 refine ⟨fun w F hh => lives (l' := []) (by rw [HFA.out]; simp [liveFacts, Nat.testBit]) (fnil), ?_⟩
 simp only [Act.put, List.setIfInBounds_toArray, List.set_cons_zero, List.set_cons_succ]
 show WS _ _ _ _ _ _ _ _ _ _
 iterate 5 (refine ws_q (at_lit rfl) rfl rfl rfl ?_; go_big_quiet_op; show WS _ _ _ _ _ _ _ _ _ _)
 refine ws_end ?_
 intro w5 hK5 h5
 have hb := h5.at (b := b3) (o := .cells #[.int .i64 1, .int .i64 tr, .int .i64 key, .int .i64 val] 83 (0, 0)) (by simp)
 have q2 : w5.cell? ⟨b3, 2, none⟩ = some (.int .i64 key) := cell_of hb 2 rfl
 have q3 : w5.cell? ⟨b3, 3, none⟩ = some (.int .i64 val) := cell_of hb 3 rfl
 have lq := World.block_lt_of_cell? _ _ q2
 have HF : Hid (StepOk es t sp p bank N ts l 1 tr key val w (.returned (.tuple #[.bool true, .bool false])) w5) := by
  obtain ⟨htab, hT, h4, hN, hs, hu, hv, hr, hua, hml⟩ := HX.out
  refine ⟨rfl, HK.out.trans hK5, Q, ts, vs, rs, ⟨u, by rw [Hi.out]; exact hu, .inr (.inr (.inr (.inr ⟨.inl ⟨rfl, Hp.out⟩, rfl⟩)))⟩, hT, h4, ?_⟩
  exact ((Has.bt_more (Nat.le_add_right N 100) ((h5.reord [2, 0]) |> fun h => Has.skip (A := [_, _]) (M := [_]) h)).swap)
 clear hK5 h5 hh HFA neFA FA fa3 fa6 fa8 o0 o1 o2 o3 t1 tr1 lb lt hb HS HX Ha HK Hi HMod
 have hpc := Hpc.out
 clear Hpc
 simp only [errV] at HI ⊢
 rcases hpc with q | ⟨q, qa⟩ | ⟨q, qa, qb⟩ | ⟨q, qa, qb, qc⟩
 all_goals
  go_wp2_with (refine (HI.out _).mono ?_; rintro r w6 ⟨rfl, rfl⟩)
  go_ret2
  exact HF.out
/-
  The statements of layer 12: a call on a tree (step), of kind 1.
-/
def ChR (es : List Ent) (Q : Pgs) (a : Int) (L' : List KV) (B : Nat) (ta : Int) (ev : Value) (Q' : Pgs) : Prop :=
 (ta = 0 /\ ev = errV 50 /\ Live Q' /\ Moved Q Q' 0 0 /\ ∃ Q1 news, Puts es Q news Q1 /\ news.length <= 50 /\ FullQ es Q1) \/ (ev = .nilIface /\ Live Q' /\ Moved Q Q' a ta /\ ∃ s', s' <= B /\ Root Q' ta L' s')
theorem TreePost.chr {p bank sp N : Nat} {es : List Ent} {Q : Pgs} {a : Int} {L' : List KV} {B : Nat} {l : List Say} {w w' : World} {r : Ending} (h : TreePost p bank sp N es Q a L' B l w r w') :
  ∃ ta ev Q', r = .returned (.tuple #[.int .i64 ta, ev]) /\ Kept w w' /\ ChR es Q a L' B ta ev Q' /\ Has w' (btS p bank sp (N + 50) es Q' :: l) := by
 obtain ⟨hK, Q', hL, hh, (⟨rfl, ⟨Q1, news, h1, h2, h3, _⟩, hm⟩ | ⟨ta, s', rfl, hm, hB, hR, _⟩)⟩ := h
 ·exact ⟨0, _, Q', rfl, hK, .inl ⟨rfl, rfl, hL, hm, Q1, news, h1, h2, h3⟩, hh⟩
 ·exact ⟨ta, _, Q', rfl, hK, .inr ⟨rfl, hL, hm, s', hB, hR⟩, hh⟩
theorem Grove.set {Q Q' : Pgs} {ts : List Tre} {i : Nat} {u : Tre} {ta : Int} {L' : List KV} {s' : Nat} (h : Grove Q ts) (hu : ts[i]? = some u) (hL : Live Q') (hm : Moved Q Q' u.a ta) (hR : Root Q' ta L' s') : Grove Q' (ts.set i ⟨ta, L', s'⟩) := by
 obtain ⟨us, h1, h2⟩ := set_perm hu
 exact ((h.perm h1).moved hL hm hR).perm (h2 _).symm
theorem KvPost.slice {L : List KV} {l : List Say} {w w' : World} {r : Ending} (h : KvPost L l w r w') : ∃ q n c, r = .returned (.slice q n c) /\ Kept w w' /\ Has w' (kvS (.slice q n c) L :: l) := by
 obtain ⟨v, rfl, hK, hh⟩ := h
 obtain ⟨q, c, rfl, _⟩ := hh.kv_read (.head _)
 exact ⟨q, _, c, rfl, hK, hh⟩
set_option maxRecDepth 100000 in
theorem step_set {w : World} {l : List Say} {t sp p bank N : Nat} {es : List Ent} {Q : Pgs} {ts : List Tre} {vs : List Value} {rs : List (Value × List KV)} (tr key val : Int) (h : Has w (treesT t sp p (ts.map (·.a)) vs :: btS p bank sp N es Q :: (rs.map kvR ++ l))) (ht : Tab l) (hT : Grove Q ts) (h4 : Rows4 ts vs rs) (hN : N <= 150000) (hs : ∀ u ∈ ts, u.s <= 800000 /\ u.L.length <= 90000) (hp : pairOk key val = true) :
  Calls Tryz.prog 46 #[.pointer (some ⟨t, 0, none⟩), .agg #[.int .i64 1, .int .i64 tr, .int .i64 key, .int .i64 val]] w (fun r w' => StepOk es t sp p bank N ts l 1 tr key val w r w' \/ StepFull es Q t sp p bank N ts vs rs l w r w') := by
 obtain ⟨u, v, hu, hv, hr⟩ := h4.at (mod4_lt tr)
 have hua : (ts.map (·.a))[mod4 tr]? = some u.a := by rw [List.getElem?_map, hu]; rfl
 have hml : (ts.map (·.a)).length = 4 := by rw [List.length_map]; exact h4.four
 have hA := (h.alloc (.cells #[.int .i64 1, .int .i64 tr, .int .i64 key, .int .i64 val] 83)).swap
 have HK : Hid (Kept w (w.alloc (.cells #[.int .i64 1, .int .i64 tr, .int .i64 key, .int .i64 val] 83))) := (Kept.refl w).alloc _
 have HMod : Hid (∀ w' : World, Calls Tryz.prog 52 #[.int .i64 tr] w' fun r w'' => r = .returned (.int .i64 (mod4 tr : Int)) /\ w' = w'') := fun w' => law_mod tr w'
 generalize hi : mod4 tr = i at *
 have hi4 : i < 4 := by rw [<- hi]; exact mod4_lt tr
 have Hi := Lib.hid hi
 have HX := Lib.hid (And.intro ht (And.intro hT (And.intro h4 (And.intro hN (And.intro hs (And.intro hu (And.intro hv (And.intro hr (And.intro hua hml)))))))))
 have HH := Lib.hid hA
 have iI : (i : Int) < 4 := by omega
 have i0 : (0 : Int) <= i := by omega
 clear h ht hT h4 hN hs hu hv hr hua hml hA hi
 go_enter Tryz.func46, Tryz.ntmps46
 go_upto_region 1 with fail
 generalize w.alloc (.cells #[.int .i64 1, .int .i64 tr, .int .i64 key, .int .i64 val] 83) = W at *
 generalize w.heap.size = b3 at *
 have hh := HH.out
 have hb := hh.tail.got
 have o0 : W.cell? ⟨b3, 0, none⟩ = some (.int .i64 1) := cell_of hb 0 rfl
 have o1 : W.cell? ⟨b3, 1, none⟩ = some (.int .i64 tr) := cell_of hb 1 rfl
 have o2 : W.cell? ⟨b3, 2, none⟩ = some (.int .i64 key) := cell_of hb 2 rfl
 have o3 : W.cell? ⟨b3, 3, none⟩ = some (.int .i64 val) := cell_of hb 3 rfl
 have lb := World.block_lt_of_cell? _ _ o0
 have t1 : W.cell? ⟨t, 1, none⟩ = some (.pointer (some ⟨p, 0, none⟩)) := cell_of hh.got 1 rfl
 have tr1 : W.cell? ⟨t, 2 + i, none⟩ = some (.int .i64 u.a) := cell_of hh.got _ (treesC_root HX.out.2.2.2.2.2.2.2.2.1)
 have lt := World.block_lt_of_cell? _ _ t1
 obtain ⟨a, ha⟩ : ∃ a, u.a = a := ⟨_, rfl⟩
 have Ha := Lib.hid ha
 rw [ha] at tr1
 clear hh hb ha
 go_wp2_with (refine (HMod.out _).mono ?_; rintro r w1 ⟨rfl, rfl⟩)
 obtain ⟨htab, hT, h4, hN, hs, hu, hv, hr, hua, hml⟩ := HX.out
 have hsrt := (hT.root u (List.mem_of_getElem? hu)).srt
 have hlen := (hs u (List.mem_of_getElem? hu)).2
 have HS : Hid (∀ w' l', Has w' (btS p bank sp N es Q :: l') -> Tab l' -> Calls Tryz.prog 39 #[.pointer (some ⟨p, 0, none⟩), .int .i64 a, .int .i64 key, .int .i64 val] w' (fun r w'' => ∃ ta ev Q', r = .returned (.tuple #[.int .i64 ta, ev]) /\ Kept w' w'' /\ ChR es Q u.a (putL u.L key val) (max u.s 1 + 1) ta ev Q' /\ Has w'' (btS p bank sp (N + 50) es Q' :: l'))) := fun w' l' h htb => by
  rw [<- Ha.out]
  refine (bt_Set u.a key val h htb (hT.root u (List.mem_of_getElem? hu)) hT.live (by omega) (by have := (hs u (List.mem_of_getElem? hu)).1; omega)).mono ?_
  rintro r w' (⟨h1, _⟩ | ⟨_, h1⟩)
  ·rw [hp] at h1; cases h1
  ·exact h1.chr
 have HI : Hid (∀ w' : World, Calls Tryz.prog 49 #[errV 50, .int .i64 50] w' fun r w'' => r = .returned (.bool true) /\ w' = w'') := fun w' => law_is12 (some 50) 50 w' (by decide) (by decide)
 obtain ⟨vq, vc, ev0, _⟩ := HH.out.kv_read (v := v) (L := u.L) (by simp [kvR_mem hr])
 obtain ⟨vn, hvn⟩ : ∃ n, u.L.length = n := ⟨_, rfl⟩
 rw [hvn] at ev0
 clear hvn
 subst ev0
 have HRf : Hid (∀ w' l', Has w' l' -> kvS (.slice vq vn vc) u.L ∈ l' -> Calls Tryz.prog 106 #[.slice vq vn vc, .int .i64 key, .int .i64 val] w' (KvPost (putL u.L key val) l' w')) := fun w' l' h hm => ref_Set key val h hm hsrt (by omega)
 have hpc : 0 <= key /\ key <= 1099511627776 /\ 1 <= val /\ val <= 2305843009213693952 := by
  unfold pairOk at hp
  simp only [Bool.and_eq_true, decide_eq_true_eq] at hp
  omega
 obtain ⟨p1, p2, p3, p4⟩ := hpc
 have Hp := Lib.hid hp
 clear htab hT h4 hN hs hu hv hr hua hml hp hsrt hlen
 have hh := HH.out
 clear HH
 obtain ⟨FA, HFA⟩ : ∃ FA : List (Nat × Addr × Value), Hid (FA = [(3, ⟨t, 1, none⟩, .pointer (some ⟨p, 0, none⟩)), (6, ⟨b3, 2, none⟩, .int .i64 key), (8, ⟨b3, 3, none⟩, .int .i64 val)]) := ⟨_, rfl⟩
 have fa3 : ∀ n : In (factsOf FA 3), n.w.cell? ⟨t, 1, none⟩ = some (.pointer (some ⟨p, 0, none⟩)) := fun n => factsOf.cell (by rw [HFA.out]; simp) n
 have fa6 : ∀ n : In (factsOf FA 6), n.w.cell? ⟨b3, 2, none⟩ = some (.int .i64 key) := fun n => factsOf.cell (by rw [HFA.out]; simp) n
 have fa8 : ∀ n : In (factsOf FA 8), n.w.cell? ⟨b3, 3, none⟩ = some (.int .i64 val) := fun n => factsOf.cell (by rw [HFA.out]; simp) n
 have hFA : ∀ p ∈ FA, W.cell? p.2.1 = some p.2.2 := by rw [HFA.out]; exact (fcons t1 (fcons o2 (fcons o3 fnil)))
 haveI neFA : ∀ k, Nonempty (In (factsOf FA k)) := fun k => ⟨⟨_, factsOf.drew hFA k⟩⟩
 refine ws_begin [0, 1, 2, 3, 4, 5, 6, 7, 8, 9, 10, 11, 12, 13, 14] (factsOf FA) (treesT t sp p (ts.map (·.a)) vs :: pts b3 (.cells #[.int .i64 1, .int .i64 tr, .int .i64 key, .int .i64 val] 83 (0, 0)) :: btS p bank sp N es Q :: (rs.map kvR ++ l)) #[0, 1, 3, 7, 0, 0, 32, 0, 128, 511, 1023, 2047, 2047, 4095, 16383] (by kernel_rfl) (by kernel_rfl) (by kernel_rfl) factsOf.alloc (factsOf.drew hFA) hh ?_
 clear hFA
 iterate 9 (refine ws_q (at_lit rfl) rfl rfl rfl ?_; go_big_quiet_op; show WS _ _ _ _ _ _ _ _ _ _)
 refine ws_call (at_lit rfl) rfl rfl 39 #[.pointer (some ⟨p, 0, none⟩), .int .i64 a, .int .i64 key, .int .i64 val] (fun w => by go_simp) (fun v L' => ∃ ta ev Q', v = .tuple #[.int .i64 ta, ev] /\ ChR es Q u.a (putL u.L key val) (max u.s 1 + 1) ta ev Q' /\ L' = treesT t sp p (ts.map (·.a)) vs :: pts b3 (.cells #[.int .i64 1, .int .i64 tr, .int .i64 key, .int .i64 val] 83 (0, 0)) :: btS p bank sp (N + 50) es Q' :: (rs.map kvR ++ l)) (fun w' F hS hh => ?_) ?_
 ·refine (HS.out w' _ (hh.reord [2]) ((((HX.out.1.app _).fr F).cons).cons)).mono ?_
  rintro r w'' ⟨ta, ev, Q', rfl, hK, hc, hh'⟩
  exact ⟨_, _, rfl, hK, ⟨ta, ev, Q', rfl, hc, rfl⟩, hh'.reord [1, 1]⟩
 rintro _ _ ⟨ta, ev, Q', rfl, hc, rfl⟩
 refine ⟨fun w F hh => lives (l' := []) (by rw [HFA.out]; simp [liveFacts, Nat.testBit]) (fnil), ?_⟩
 simp only [Act.put, List.setIfInBounds_toArray, List.set_cons_zero, List.set_cons_succ]
 show WS _ _ _ _ _ _ _ _ _ _
 iterate 5 (refine ws_q (at_lit rfl) rfl rfl rfl ?_; go_big_quiet_op; show WS _ _ _ _ _ _ _ _ _ _)
 refine ws_end ?_
 intro w5 hK5 h5
 have hb := h5.at (b := b3) (o := .cells #[.int .i64 1, .int .i64 tr, .int .i64 key, .int .i64 val] 83 (0, 0)) (by simp)
 have q0 : w5.cell? ⟨b3, 0, none⟩ = some (.int .i64 1) := cell_of hb 0 rfl
 have q2 : w5.cell? ⟨b3, 2, none⟩ = some (.int .i64 key) := cell_of hb 2 rfl
 have q3 : w5.cell? ⟨b3, 3, none⟩ = some (.int .i64 val) := cell_of hb 3 rfl
 have lq := World.block_lt_of_cell? _ _ q2
 have htt := h5.at (b := t) (o := .cells (treesC sp p (ts.map (·.a)) vs) 70 (0, 0)) (by simp [treesT])
 have tv : w5.cell? ⟨t, 6 + i, none⟩ = some (.slice vq vn vc) := cell_of htt _ (treesC_list HX.out.2.2.2.2.2.2.2.2.2 HX.out.2.2.2.2.2.2.1)
 have t2 : w5.cell? ⟨t, 1, none⟩ = some (.pointer (some ⟨p, 0, none⟩)) := cell_of htt 1 rfl
 have lt2 := World.block_lt_of_cell? _ _ t2
 have HH := Lib.hid h5
 have HK5 := Lib.hid (HK.out.trans hK5)
 clear hK5 h5 hh HFA neFA FA fa3 fa6 fa8 o0 o1 o2 o3 t1 tr1 lb lt hb htt HS HMod HK
 rcases hc with ⟨rfl, rfl, hL, hm, hf⟩ | ⟨rfl, hL, hm, s', hB, hR⟩
 ·have HF : Hid (StepFull es Q t sp p bank N ts (vs) rs l w (.returned (.tuple #[.bool true, .bool true])) w5) :=
   ⟨rfl, HK5.out, Q', HX.out.2.1.same hL hm, hm, hf, (Has.bt_more (show N + 50 <= N + 100 by omega) ((HH.out.reord [2, 0]) |> fun h => Has.skip (A := [_, _]) (M := [_]) h)).swap⟩
  clear hL hm hf HH HX HK5 tv Hi
  simp only [errV] at HI ⊢
  go_wp2_with (refine (HI.out _).mono ?_; rintro r w6 ⟨rfl, rfl⟩)
  go_ret2
  exact .inr HF.out
 have HC : Hid (Live Q' /\ Moved Q Q' u.a ta /\ s' <= max u.s 1 + 1 /\ Root Q' ta (putL u.L key val) s') := ⟨hL, hm, hB, hR⟩
 clear hL hm hB hR HI
 go_upto_region 10 with fail
 have hh := HH.out
 clear HH
 obtain ⟨FA, HFA⟩ : ∃ FA : List (Nat × Addr × Value), Hid (FA = [(10, ⟨t, 6 + i, none⟩, .slice vq vn vc), (12, ⟨b3, 2, none⟩, .int .i64 key), (14, ⟨b3, 3, none⟩, .int .i64 val)]) := ⟨_, rfl⟩
 have fa10 : ∀ n : In (factsOf FA 10), n.w.cell? ⟨t, 6 + i, none⟩ = some (.slice vq vn vc) := fun n => factsOf.cell (by rw [HFA.out]; simp) n
 have fa12 : ∀ n : In (factsOf FA 12), n.w.cell? ⟨b3, 2, none⟩ = some (.int .i64 key) := fun n => factsOf.cell (by rw [HFA.out]; simp) n
 have fa14 : ∀ n : In (factsOf FA 14), n.w.cell? ⟨b3, 3, none⟩ = some (.int .i64 val) := fun n => factsOf.cell (by rw [HFA.out]; simp) n
 have hFA : ∀ p ∈ FA, w5.cell? p.2.1 = some p.2.2 := by rw [HFA.out]; exact (fcons tv (fcons q2 (fcons q3 fnil)))
 haveI neFA : ∀ k, Nonempty (In (factsOf FA k)) := fun k => ⟨⟨_, factsOf.drew hFA k⟩⟩
 refine ws_begin [0, 1, 2, 3, 4, 5, 6, 7, 8, 9, 10, 11, 12, 13, 14, 15, 16, 17, 18, 19, 20, 21, 22, 23] (factsOf FA) (treesT t sp p (ts.map (·.a)) vs :: pts b3 (.cells #[.int .i64 1, .int .i64 tr, .int .i64 key, .int .i64 val] 83 (0, 0)) :: btS p bank sp (N + 50) es Q' :: (rs.map kvR ++ l)) #[0, 0, 0, 0, 0, 0, 0, 32, 160, 480, 992, 0, 2048, 0, 8192, 32736, 1, 65537, 262131, 524275, 4, 1048580, 4194303, 8388607] (by kernel_rfl) (by kernel_rfl) (by kernel_rfl) factsOf.alloc (factsOf.drew hFA) hh ?_
 clear hFA
 iterate 15 (refine ws_q (at_lit rfl) rfl rfl rfl ?_; go_big_quiet_op; show WS _ _ _ _ _ _ _ _ _ _)
 refine ws_call (at_lit rfl) rfl rfl 106 #[.slice vq vn vc, .int .i64 key, .int .i64 val] (fun w => by go_simp) (fun v L' => ∃ q n c, v = .slice q n c /\ L' = kvS (.slice q n c) (putL u.L key val) :: treesT t sp p (ts.map (·.a)) vs :: pts b3 (.cells #[.int .i64 1, .int .i64 tr, .int .i64 key, .int .i64 val] 83 (0, 0)) :: btS p bank sp (N + 50) es Q' :: (rs.map kvR ++ l)) (fun w' F hS hh => ?_) ?_
 ·refine (HRf.out w' _ hh (by have := kvR_mem HX.out.2.2.2.2.2.2.2.1; simp [this])).mono ?_
  intro r w'' hpost
  obtain ⟨q, n, c, rfl, hK, hh'⟩ := hpost.slice
  exact ⟨_, _, rfl, hK, ⟨q, n, c, rfl, rfl⟩, hh'⟩
 rintro _ _ ⟨q, n, c, rfl, rfl⟩
 refine ⟨fun w F hh => lives (l' := []) (by rw [HFA.out]; simp [liveFacts, Nat.testBit]) (fnil), ?_⟩
 simp only [Act.put, List.setIfInBounds_toArray, List.set_cons_zero, List.set_cons_succ]
 show WS _ _ _ _ _ _ _ _ _ _
 iterate 3 (refine ws_q (at_lit rfl) rfl rfl rfl ?_; go_big_quiet_op; show WS _ _ _ _ _ _ _ _ _ _)
 refine ws_reord [1] ?_
 simp only [reord, pull]
 refine ws_store_root (at_lit rfl) rfl rfl (.tmp 93) (.tmp 79) rfl rfl rfl HX.out.2.2.2.2.2.2.2.2.2 HX.out.2.2.1.vals hi4 (fun w' F hh => lives (l' := []) (by rw [HFA.out]; simp [liveFacts, Nat.testBit]) (fnil)) ?_
 simp only [Act.put, List.setIfInBounds_toArray, List.set_cons_zero, List.set_cons_succ]
 show WS _ _ _ _ _ _ _ _ _ _
 iterate 3 (refine ws_q (at_lit rfl) rfl rfl rfl ?_; go_big_quiet_op; show WS _ _ _ _ _ _ _ _ _ _)
 refine ws_store_list (at_lit rfl) rfl rfl (.tmp 96) (.tmp 90) rfl rfl rfl (by rw [List.length_set]; exact HX.out.2.2.2.2.2.2.2.2.2) HX.out.2.2.1.vals hi4 (fun w' F hh => lives (l' := []) (by rw [HFA.out]; simp [liveFacts, Nat.testBit]) (fnil)) ?_
 simp only [Act.put, List.setIfInBounds_toArray, List.set_cons_zero, List.set_cons_succ]
 show WS _ _ _ _ _ _ _ _ _ _
 refine ws_end ?_
 intro w6 hK6 h6
 have HF : Hid (StepOk es t sp p bank N ts l 1 tr key val w (.returned (.tuple #[.bool true, .bool false])) w6) := by
  obtain ⟨htab, hT, h4, hN, hs, hu, hv, hr, hua, hml⟩ := HX.out
  obtain ⟨hL, hm, hB, hR⟩ := HC.out
  refine ⟨rfl, HK5.out.trans hK6, Q', ts.set i ⟨ta, putL u.L key val, s'⟩, vs.set i (.slice q n c), (.slice q n c, putL u.L key val) :: rs, ⟨u, by rw [Hi.out]; exact hu, by rw [Hi.out]; exact .inl ⟨rfl, Hp.out, ta, s', hB, rfl⟩⟩, hT.set hu hL hm hR, h4.set i (fun r hr => .tail _ hr) (.head _), ?_⟩
  rw [roots_set]
  exact (Has.bt_more (show N + 50 <= N + 100 by omega) ((h6.reord [3, 0]) |> fun h => Has.skip (A := [_, _, _]) (M := [_]) h)).swap
 clear hK6 h6 hh HFA neFA FA fa10 fa12 fa14 q0 q2 q3 tv t2 lq lt2 HX HC HK5 HRf Hi Ha
 go_wp2
 go_ret2
 exact .inl HF.out
end Go.Proofs.YtgbgneiciabidaaGreatDoor
