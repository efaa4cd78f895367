/-
  A map from numbers to pages: what it holds, as a list by rising keys; looking up, storing, deleting.
-/
import Derived.Test.YtgbgneiciabidaaGreatDoorGb3
import Derived.Maps.Own
import Derived.Maps.Keyed
import Derived.Test.YtgbgneiciabidaaGreatDoorGb9
import Derived.Deep.RegionHeld3
namespace Go.Proofs.YtgbgneiciabidaaGreatDoor
open Go Go.RowKit Go.ChangeMaps Go.Maps
open Go.WideElems (Fit rd rg pl)
set_option linter.all false

/-- Lists by keys that rise. -/
def VMap.ins {α : Type} (x : Int × α) : List (Int × α) → List (Int × α)
  | [] => [x]
  | y :: r => if x.1 < y.1 then x :: y :: r else y :: VMap.ins x r
def VMap.del {α : Type} (a : Int) (M : List (Int × α)) : List (Int × α) := M.filter fun p => !(p.1 == a)
def VMap.put {α : Type} (a : Int) (v : α) (M : List (Int × α)) : List (Int × α) := VMap.ins (a, v) (VMap.del a M)
def VMap.get {α : Type} (a : Int) (M : List (Int × α)) : Option α := (M.find? fun p => p.1 == a).map (·.2)
abbrev VMap := List (Int × Value)
def VMap.over {α β : Type} (f : α → β) (M : List (Int × α)) : List (Int × β) := M.map fun p => (p.1, f p.2)
theorem VMap.over_ins {α β : Type} (f : α → β) (x : Int × α) : ∀ M : List (Int × α), VMap.over f (VMap.ins x M) = VMap.ins (x.1, f x.2) (VMap.over f M)
  | [] => rfl
  | y :: r => by
    unfold VMap.ins
    simp only [VMap.over, List.map_cons, VMap.ins]
    by_cases h : x.1 < y.1
    · rw [if_pos h, if_pos h]; rfl
    · rw [if_neg h, if_neg h, List.map_cons]; exact congrArg _ (VMap.over_ins f x r)
theorem VMap.over_del {α β : Type} (f : α → β) (a : Int) (M : List (Int × α)) : VMap.over f (VMap.del a M) = VMap.del a (VMap.over f M) := by
  unfold VMap.del VMap.over
  rw [List.filter_map]; rfl
theorem VMap.over_put {α β : Type} (f : α → β) (a : Int) (v : α) (M : List (Int × α)) : VMap.over f (VMap.put a v M) = VMap.put a (f v) (VMap.over f M) := by
  rw [VMap.put, VMap.over_ins, VMap.over_del]; rfl
theorem VMap.get_over {α β : Type} (f : α → β) (a : Int) (M : List (Int × α)) : VMap.get a (VMap.over f M) = (VMap.get a M).map f := by
  unfold VMap.get VMap.over
  rw [List.find?_map]
  have e : (fun p : Int × β => p.1 == a) ∘ (fun p : Int × α => (p.1, f p.2)) = fun p => p.1 == a := rfl
  rw [e]
  cases M.find? (fun p => p.1 == a) <;> rfl
theorem VMap.ins_perm {α : Type} (x : Int × α) : ∀ M : List (Int × α), (VMap.ins x M).Perm (x :: M)
  | [] => .refl _
  | y :: r => by
    unfold VMap.ins
    split
    · exact .refl _
    · exact ((VMap.ins_perm x r).cons y).trans (.swap _ _ _)
/-- The keys rise. -/
def VMap.Up {α : Type} (M : List (Int × α)) : Prop := M.Pairwise fun p q => p.1 < q.1
theorem VMap.Up.ins {α : Type} {x : Int × α} : ∀ {M : List (Int × α)}, VMap.Up M → (∀ p ∈ M, p.1 ≠ x.1) → VMap.Up (VMap.ins x M)
  | [], _, _ => by simp [VMap.ins, VMap.Up]
  | y :: r, h, hx => by
    unfold VMap.ins
    obtain ⟨h1, h2⟩ := List.pairwise_cons.1 h
    have hy := hx y (by simp)
    split
    · rename_i hlt
      refine List.pairwise_cons.2 ⟨fun p hp => ?_, h⟩
      rcases List.mem_cons.1 hp with rfl | hp
      · exact hlt
      · have := h1 p hp; omega
    · rename_i hlt
      refine List.pairwise_cons.2 ⟨fun p hp => ?_, VMap.Up.ins h2 fun p hp => hx p (by simp [hp])⟩
      rcases List.mem_cons.1 ((VMap.ins_perm x r).mem_iff.1 hp) with rfl | hp
      · omega
      · exact h1 p hp
theorem VMap.Up.del {α : Type} {M : List (Int × α)} (h : VMap.Up M) (a : Int) : VMap.Up (VMap.del a M) := List.Pairwise.filter _ h
theorem VMap.Up.put {α : Type} {M : List (Int × α)} (h : VMap.Up M) (a : Int) (v : α) : VMap.Up (VMap.put a v M) :=
  (h.del a).ins fun p hp => by
    have := (List.mem_filter.1 hp).2
    simpa using this
theorem VMap.get_split {α : Type} {a : Int} {v : α} : ∀ {M : List (Int × α)}, VMap.Up M → VMap.get a M = some v → M.Perm ((a, v) :: VMap.del a M)
  | [], _, h => by simp [VMap.get] at h
  | y :: r, h, hg => by
    obtain ⟨h1, h2⟩ := List.pairwise_cons.1 h
    by_cases e : y.1 = a
    · have hv : y.2 = v := by simpa [VMap.get, e] using hg
      have hr : VMap.del a (y :: r) = r := by
        unfold VMap.del
        rw [List.filter_cons_of_neg (by simp [e])]
        exact List.filter_eq_self.2 fun p hp => by have := h1 p hp; simp; omega
      rw [hr, ← e, ← hv]
    · have hg' : VMap.get a r = some v := by simpa [VMap.get, e] using hg
      have hr : VMap.del a (y :: r) = y :: VMap.del a r := by
        unfold VMap.del
        rw [List.filter_cons_of_pos (by simp [e])]
      rw [hr]
      exact ((VMap.get_split h2 hg').cons y).trans (.swap _ _ _)
def litE (p : Int × Value) : Lit × DataW Value := (.int .i64 p.1, .held p.2)
def heldR (v : Value) : Option (DataW Value × List MemPlace) := some (.held v, [])
theorem litE_ins (x : Int × Value) : ∀ M : VMap, (VMap.ins x M).map litE = DataW.insert (litE x) (M.map litE)
  | [] => rfl
  | y :: r => by
    unfold VMap.ins
    simp only [List.map_cons, DataW.insert]
    by_cases h : x.1 < y.1
    · rw [if_pos h, if_pos (by simp [litE, Lit.before, h])]; rfl
    · rw [if_neg h, if_neg (by simp [litE, Lit.before]; omega), List.map_cons, litE_ins x r]
theorem litE_del (a : Int) (M : VMap) : (VMap.del a M).map litE = (M.map litE).filter (notKey (.int .i64 a)) := by
  unfold VMap.del
  rw [List.filter_map]
  congr 1
  apply List.filter_congr
  intro p _
  simp only [notKey, litE, Lit.sameKey, Function.comp]
  congr 1
  rw [Bool.eq_iff_iff]; simp
theorem litE_put (a : Int) (v : Value) (M : VMap) : (VMap.put a v M).map litE = putKey (.int .i64 a) (.held v) (M.map litE) := by
  rw [VMap.put, litE_ins, litE_del]; rfl
theorem atKey_lit (a : Int) (M : VMap) (z : DataW Value) : (DataW.map (M.map litE)).atKey (.int .i64 a) z = match VMap.get a M with | some v => .held v | none => z := by
  simp only [DataW.atKey, VMap.get, List.find?_map]
  have e : (fun p : Lit × DataW Value => p.1.sameKey (.int .i64 a)) ∘ litE = fun p => p.1 == a := by
    funext p
    simp [litE, Lit.sameKey, Function.comp]
    rw [Bool.eq_iff_iff]; simp
  rw [e]
  cases M.find? (fun p => p.1 == a) <;> rfl

/-- Block b is a map of at most n entries that holds M. -/
def mapS (b n : Nat) (M : VMap) : Say := fun h => ∃ es clock, h b = some (.map es clock) ∧ Fit Tryz.prog 3 heldR es clock ∧ es.size ≤ n ∧ M.map litE = (es.toList.map (rg Tryz.prog 3 heldR)).foldr DataW.insert []
theorem Has.map_open {w : World} {l : List Say} {b n : Nat} {M : VMap} (h : Has w (mapS b n M :: l)) :
    ∃ es clock, Fit Tryz.prog 3 heldR es clock ∧ es.size ≤ n ∧ M.map litE = (es.toList.map (rg Tryz.prog 3 heldR)).foldr DataW.insert [] ∧ Has w (pts b (.map es clock) :: l) := by
  obtain ⟨h1, h2, ⟨es, clock, hb, F, hs, hD⟩, hl, d1, d2⟩ := h
  exact ⟨es, clock, F, hs, hD, h1, h2, hb, hl, d1, d2⟩
theorem Has.map_own {w : World} {l : List Say} {b n : Nat} {M : VMap} (h : Has w l) (hm : mapS b n M ∈ l) : w.ownsMap Tryz.prog 3 heldR b n (.map (M.map litE)) := by
  obtain ⟨g, ⟨es, clock, hb, F, hs, hD⟩, hk⟩ := h.mem hm
  exact ⟨es, clock, by rw [hk b (by rw [hb]; simp), hb], F, hs, by rw [hD]⟩
theorem map_made {w : World} {l : List Say} (h : Has w l) : Has (w.alloc (.map #[] 0)) (mapS w.heap.size 0 [] :: l) :=
  (h.alloc (.map #[] 0)).head fun _ ha => by
    obtain ⟨es, clock, hb, F, hs, hD⟩ := World.ownsMap_made w Tryz.prog 3 heldR
    have e : (w.alloc (.map #[] 0)).heap[w.heap.size]? = some (.map #[] 0) := by show (w.heap.push _)[w.heap.size]? = _; simp
    rw [e] at hb
    cases hb
    exact ⟨_, _, ha, F, hs, by simpa using hD⟩

theorem int64_wf {a : Int} (h0 : -9223372036854775808 ≤ a) (h1 : a ≤ 9223372036854775807) : (Lit.int .i64 a).wf = true := by
  simp [Lit.wf]
  exact ⟨by show (-9223372036854775808 : Int) ≤ a; exact h0, h1⟩
theorem map_key (a : Int) (h0 : -9223372036854775808 ≤ a) (h1 : a ≤ 9223372036854775807) : keyOf Tryz.prog 3 (.int .i64 a) = some (.int .i64 a) := keyOf_int_mk Tryz.underlying3 (int64_wf h0 h1)

def pageZero : Value := .agg #[.int .i64 0, .slice none 0 0, .slice none 0 0, .int .i64 0, .int .i64 0]
theorem info_page : (Tryz.prog.info? 153).map (fun i => (i.zero, i.size, i.bytes)) = some (some (.agg #[.int .i64 0, .slice none 0 0, .slice none 0 0, .int .i64 0, .int .i64 0]), 5, 72) := by kernel_rfl
theorem page_zero (w : World) : (zeroValue 153).run Tryz.prog w = .ok pageZero w := by
  obtain ⟨i0, I1, I2, I3, I4⟩ := info_parts info_page
  simp [zeroValue, typeInfo, I1, I2, pageZero, go_sem]

/-- A lookup. -/
theorem map_look {w : World} {l : List Say} {b n : Nat} {M : VMap} (h : Has w l) (hm : mapS b n M ∈ l) (a : Int) (h0 : -9223372036854775808 ≤ a) (h1 : a ≤ 9223372036854775807) :
    (Instr.lookup 145 (.map (some b)) (.int .i64 a) false).run Tryz.prog w = .ok ((VMap.get a M).getD pageZero) w := by
  obtain ⟨es, clock, hb, F, hs, hD⟩ := h.map_own hm
  have hD' : M.map litE = (es.toList.map (rg Tryz.prog 3 heldR)).foldr DataW.insert [] := by injection hD
  rcases Maps.fit_look false (int_keyed Tryz.underlying3) Tryz.underlying145 (page_zero w) hb F (map_key a h0 h1) with ⟨hrun, _, hat⟩ | ⟨e0, y, _, _, hrun, hRv, hat, _⟩
  · rw [hrun]
    have := hat (.held .nilIface)
    have h2 := hat .nil
    rw [← hD', atKey_lit] at h2
    cases hg : VMap.get a M with
    | none => rfl
    | some v => rw [hg] at h2; cases h2
  · rw [hrun]
    have h2 := hat .nil
    rw [← hD', atKey_lit] at h2
    cases hRv
    cases hg : VMap.get a M with
    | none => rw [hg] at h2; cases h2
    | some v => rw [hg] at h2; cases h2; rfl
/-- A lookup that asks. -/
theorem map_look_ok {w : World} {l : List Say} {b n : Nat} {M : VMap} (h : Has w l) (hm : mapS b n M ∈ l) (a : Int) (h0 : -9223372036854775808 ≤ a) (h1 : a ≤ 9223372036854775807) :
    (Instr.lookup 145 (.map (some b)) (.int .i64 a) true).run Tryz.prog w = .ok (.tuple #[(VMap.get a M).getD pageZero, .bool (VMap.get a M).isSome]) w := by
  obtain ⟨es, clock, hb, F, hs, hD⟩ := h.map_own hm
  have hD' : M.map litE = (es.toList.map (rg Tryz.prog 3 heldR)).foldr DataW.insert [] := by injection hD
  rcases Maps.fit_look true (int_keyed Tryz.underlying3) Tryz.underlying145 (page_zero w) hb F (map_key a h0 h1) with ⟨hrun, _, hat⟩ | ⟨e0, y, _, _, hrun, hRv, hat, _⟩
  · rw [hrun]
    have h2 := hat .nil
    rw [← hD', atKey_lit] at h2
    cases hg : VMap.get a M with
    | none => rfl
    | some v => rw [hg] at h2; cases h2
  · rw [hrun]
    have h2 := hat .nil
    rw [← hD', atKey_lit] at h2
    cases hRv
    cases hg : VMap.get a M with
    | none => rw [hg] at h2; cases h2
    | some v => rw [hg] at h2; cases h2; rfl
/-- A store. -/
theorem map_store {w : World} {l : List Say} {b n : Nat} {M : VMap} (h : Has w (mapS b n M :: l)) (hn : n < maxLen) (a : Int) (h0 : -9223372036854775808 ≤ a) (h1 : a ≤ 9223372036854775807) (v : Value) :
    ∃ w', (Instr.mapUpdate 145 (.map (some b)) (.int .i64 a) v).run Tryz.prog w = .ok () w' ∧ Kept w w' ∧ Has w' (mapS b (n + 1) (VMap.put a v M) :: l) := by
  obtain ⟨es, clock, F, hs, hD, hh⟩ := h.map_open
  obtain ⟨es', clock', hrun, F', hput, _⟩ := Maps.fit_store (R' := heldR) (int_keyed Tryz.underlying3) Tryz.underlying145 hh.got F (Nat.lt_of_le_of_lt hs hn) (fun _ _ _ _ hz => hz) (map_key a h0 h1) (val := v) rfl
  refine ⟨_, hrun, ⟨rfl, rfl, rfl, by simp [setBlock]⟩, ?_⟩
  have h2 : Has (setBlock w b (.map es' clock')) (pts b (.map es' clock') :: l) := Sep.put hh (heap_setBlock_same hh.got _) fun k hk => heap_setBlock_other hh.got _ hk
  refine h2.head fun g hg => ⟨es', clock', hg, F', ?_, ?_⟩
  · have e1 : es'.size = ((es'.toList.map (rg Tryz.prog 3 heldR)).foldr DataW.insert []).length := by rw [length_sorted]; simp
    rw [e1, hput]
    unfold putKey
    rw [length_insert]
    have e2 := List.length_filter_le (notKey (.int .i64 a)) ((es.toList.map (rg Tryz.prog 3 heldR)).foldr DataW.insert [])
    rw [length_sorted] at e2
    simp at e2
    omega
  · rw [litE_put, hput, hD]
/-- One goes. -/
theorem map_drop {w : World} {l : List Say} {b n : Nat} {M : VMap} (h : Has w (mapS b n M :: l)) (a : Int) (h0 : -9223372036854775808 ≤ a) (h1 : a ≤ 9223372036854775807) (ty : TypeId) :
    ∃ w', (Builtin.delete_ #[145, 3] ty #[.map (some b), .int .i64 a]).run Tryz.prog w = .ok (.tuple #[]) w' ∧ Kept w w' ∧ Has w' (mapS b n (VMap.del a M) :: l) := by
  obtain ⟨es, clock, F, hs, hD, hh⟩ := h.map_open
  obtain ⟨es', hrun, F', hsz, hdel, _⟩ := Maps.fit_drop (ty := ty) (int_keyed Tryz.underlying3) Tryz.underlying145 hh.got F (map_key a h0 h1)
  refine ⟨_, hrun, ⟨rfl, rfl, rfl, by simp [setBlock]⟩, ?_⟩
  have h2 : Has (setBlock w b (.map es' clock)) (pts b (.map es' clock) :: l) := Sep.put hh (heap_setBlock_same hh.got _) fun k hk => heap_setBlock_other hh.got _ hk
  exact h2.head fun g hg => ⟨es', clock, hg, F', by omega, by rw [litE_del, hdel, hD]; rfl⟩
end Go.Proofs.YtgbgneiciabidaaGreatDoor
/-
  Pages (layer 11): what a store holds; copies of nodes.
-/
namespace Go.Proofs.YtgbgneiciabidaaGreatDoor
open Go Go.RowKit
set_option linter.all false

theorem ints_one (xs : List Int) : ∀ u ∈ xs.map intVal, u.oneCell' = true := by
  intro u hu
  obtain ⟨n, _, rfl⟩ := List.mem_map.1 hu
  rfl
/-- A copy of a row of numbers that is not empty. -/
theorem Has.ints_clone {w : World} {l : List Say} {v : Value} {xs : List Int} (h : Has w l) (hm : intsS v xs ∈ l) (h0 : 0 < xs.length) (h1 : xs.length ≤ 1000) :
    ∃ g c, v = .slice (some ⟨g, 0, none⟩) xs.length c ∧ Calls Tryz.prog 146 #[v] w (ClonePost w 3 1 xs.length (xs.map intVal) l) := by
  obtain ⟨a, c, hv, hc, hr⟩ := h.ints_read hm
  obtain ⟨g, rfl, _, _⟩ := hr 0 h0
  refine ⟨g, c, hv, ?_⟩
  rw [hv]
  refine clone_int h g 0 xs.length c (xs.map intVal) (by simp) (fun j u hu => ?_) (ints_one xs) (by simp [maxLen]; omega) (by omega)
  have hj : j < xs.length := by have := (List.getElem?_eq_some_iff.1 hu).1; simpa using this
  obtain ⟨g', hg', hc', _⟩ := hr j hj
  cases hg'
  rw [Nat.zero_add, hc']
  rw [List.getElem?_map, List.getElem?_eq_getElem hj] at hu
  exact hu

theorem far3 {w : World} {p a : Nat} (h : p ≠ a) (x y z : Value) (o : Nat) {v : Option Value} (hw : w.cell? ⟨a, o, none⟩ = v) :
    (((w.setCell ⟨p, 0, none⟩ x).setCell ⟨p, 1, none⟩ y).setCell ⟨p, 2, none⟩ z).cell? ⟨a, o, none⟩ = v := by
  rw [World.cell?_setCell_far _ _ _ _ h, World.cell?_setCell_far _ _ _ _ h, World.cell?_setCell_far _ _ _ _ h]; exact hw
def NodePost (n : Nd) (l : List Say) (w : World) (r : Ending) (w' : World) : Prop :=
  ∃ kv vv, r = .returned (n.val kv vv) ∧ Kept w w' ∧ Has w' (intsS kv n.keys :: intsS vv n.vals :: l)

set_option maxHeartbeats 1000000 in
set_option maxRecDepth 100000 in
theorem node_copied {w : World} {l : List Say} (n : Nd) {kv vv : Value} (h : Has w l) (hk : intsS kv n.keys ∈ l) (hv : intsS vv n.vals ∈ l) (k0 : 0 < n.keys.length) (k1 : n.keys.length ≤ 100) (v0 : 0 < n.vals.length) (v1 : n.vals.length ≤ 100) :
    Calls Tryz.prog 81 #[n.val kv vv] w (NodePost n l w) := by
  have hW := (h.alloc (.cells #[.int .i64 n.level, kv, vv] 35)).alloc (.cells #[.int .i64 0, .slice none 0 0, .slice none 0 0] 35)
  have HK0 : Hid (Kept w ((w.alloc (.cells #[.int .i64 n.level, kv, vv] 35)).alloc (.cells #[.int .i64 0, .slice none 0 0, .slice none 0 0] 35))) := ((Kept.refl w).alloc _).alloc _
  simp only [World.size_alloc] at hW
  obtain ⟨gk, ck, ek, HKk⟩ := hW.drew.ints_clone (.tail _ (.tail _ hk)) k0 (by omega)
  obtain ⟨gv, cv, ev, HVv⟩ := hW.drew.ints_clone (.tail _ (.tail _ hv)) v0 (by omega)
  subst ek ev
  have HCK := Lib.hid HKk
  have HCV := Lib.hid HVv
  have hb1 := hW.tail.got
  have d0 := cell_of hb1 0 rfl
  have d1 := cell_of hb1 1 rfl
  have d2 := cell_of hb1 2 rfl
  have ld := World.block_lt_of_cell? _ _ d0
  have Hk := Lib.hid hk
  have Hv := Lib.hid hv
  clear h hk hv hW HKk HVv hb1
  obtain ⟨lv, ks, vs⟩ := n
  simp only [Nd.val] at *
  go_enter Tryz.func81, Tryz.ntmps81
  go_upto_region 1 with fail
  generalize hWW : (w.alloc (.cells #[.int .i64 lv, .slice (some ⟨gk, 0, none⟩) ks.length ck, .slice (some ⟨gv, 0, none⟩) vs.length cv] 35)).alloc (.cells #[.int .i64 0, .slice none 0 0, .slice none 0 0] 35) = W at *
  clear hWW
  have hne : w.heap.size + 1 ≠ w.heap.size := by omega
  generalize hbx1 : w.heap.size + 1 = bz at *
  generalize w.heap.size = bx at *
  go_region_held3 (fun w' => w'.cell? ⟨bx, 0, none⟩ = some (.int .i64 lv) ∧ w'.cell? ⟨bx, 1, none⟩ = some (.slice (some ⟨gk, 0, none⟩) ks.length ck) ∧ w'.cell? ⟨bx, 2, none⟩ = some (.slice (some ⟨gv, 0, none⟩) vs.length cv)) (first | exact ⟨m0, m1, m2⟩ | exact ⟨d0', d1', d2'⟩ | exact ⟨d0, d1, d2⟩ | exact ⟨far3 hne _ _ _ _ m0, far3 hne _ _ _ _ m1, far3 hne _ _ _ _ m2⟩)
    (first | (go_at_call 146; first
        | (refine HCK.out.mono ?_; rintro r V ⟨k1', rfl, hk1, hv1⟩; obtain ⟨ak, kk, rfl, _⟩ := hv1.row_val (e := 3) (size := 1) (v := k1') (n := ks.length) (xs := ks.map intVal) (.head _); have hq1 := (hv1.pull 2).got; have d0' := cell_of hq1 0 rfl; have d1' := cell_of hq1 1 rfl; have d2' := cell_of hq1 2 rfl; obtain ⟨gv2, cv2, ev2, HN0⟩ := hv1.ints_clone (xs := vs) (.tail _ (.tail _ (.tail _ Hv.out))) v0 (by omega); cases ev2; have HN := Lib.hid HN0; have HK1 := Lib.hid hk1; clear hk1 hv1 hq1 HN0)
        | (refine HCV.out.mono ?_; rintro r V ⟨k1', rfl, hk1, hv1⟩; obtain ⟨av, kv, rfl, _⟩ := hv1.row_val (e := 3) (size := 1) (v := k1') (n := vs.length) (xs := vs.map intVal) (.head _); have hq1 := (hv1.pull 2).got; have d0' := cell_of hq1 0 rfl; have d1' := cell_of hq1 1 rfl; have d2' := cell_of hq1 2 rfl; obtain ⟨gv2, cv2, ev2, HN0⟩ := hv1.ints_clone (xs := ks) (.tail _ (.tail _ (.tail _ Hk.out))) k0 (by omega); cases ev2; have HN' := Lib.hid HN0; have HK1 := Lib.hid hk1; clear hk1 hv1 hq1 HN0)
        | (refine HN.out.mono ?_; rintro r V2 ⟨k2', rfl, hk2, hv2⟩; obtain ⟨av, kv, rfl, _⟩ := hv2.row_val (e := 3) (size := 1) (v := k2') (n := vs.length) (xs := vs.map intVal) (.head _); have hq2 := (hv2.pull 2).got; have e0 := cell_of hq2 0 rfl; have e1 := cell_of hq2 1 rfl; have e2 := cell_of hq2 2 rfl; have f0 := thaw_of hq2 0; have f1 := thaw_of hq2 1; have f2 := thaw_of hq2 2; have le := World.block_lt_of_cell? _ _ e0; have hq3 := (hv2.pull 3).got; have m0 := cell_of hq3 0 rfl; have m1 := cell_of hq3 1 rfl; have m2 := cell_of hq3 2 rfl; have HK2 := Lib.hid hk2; have HR := Lib.hid (hv2.pull 1); clear hk2 hv2 hq2 hq3)
        | (refine HN'.out.mono ?_; rintro r V2 ⟨k2', rfl, hk2, hv2⟩; obtain ⟨ak, kk, rfl, _⟩ := hv2.row_val (e := 3) (size := 1) (v := k2') (n := ks.length) (xs := ks.map intVal) (.head _); have hq2 := (hv2.pull 2).got; have e0 := cell_of hq2 0 rfl; have e1 := cell_of hq2 1 rfl; have e2 := cell_of hq2 2 rfl; have f0 := thaw_of hq2 0; have f1 := thaw_of hq2 1; have f2 := thaw_of hq2 2; have le := World.block_lt_of_cell? _ _ e0; have hq3 := (hv2.pull 3).got; have m0 := cell_of hq3 0 rfl; have m1 := cell_of hq3 1 rfl; have m2 := cell_of hq3 2 rfl; have HK2 := Lib.hid hk2; have HR := Lib.hid hv2; clear hk2 hv2 hq2 hq3)))
  all_goals
    go_wp2
    have h5 := ((((HR.out.pull 2).setCell 0 (.int .i64 lv)).setCell 1 (.slice ak ks.length kk)).setCell 2 (.slice av vs.length kv))
    have hkf := (((HK0.out.drew.trans (HK1.out.trans HK2.out)).setCell ⟨bz, 0, none⟩ (.int .i64 lv)).setCell ⟨bz, 1, none⟩ (.slice ak ks.length kk)).setCell ⟨bz, 2, none⟩ (.slice av vs.length kv)
    generalize ((V2.setCell ⟨bz, 0, none⟩ (.int .i64 lv)).setCell ⟨bz, 1, none⟩ (.slice ak ks.length kk)).setCell ⟨bz, 2, none⟩ (.slice av vs.length kv) = W3 at *
    have z0 : W3.cell? ⟨bz, 0, none⟩ = some (.int .i64 lv) := cell_of h5.got 0 rfl
    have z1 : W3.cell? ⟨bz, 1, none⟩ = some (.slice ak ks.length kk) := cell_of h5.got 1 rfl
    have z2 : W3.cell? ⟨bz, 2, none⟩ = some (.slice av vs.length kv) := cell_of h5.got 2 rfl
    have h6 := (h5.tail.pull 2).tail
    refine bodyPost_ret (v := .agg #[.int .i64 lv, .slice ak ks.length kk, .slice av vs.length kv]) (by simp [results, Tryz.results81, go_sem, z0, z1, z2]) rfl ⟨_, _, rfl, ?_, h6⟩
    exact hkf
end Go.Proofs.YtgbgneiciabidaaGreatDoor
