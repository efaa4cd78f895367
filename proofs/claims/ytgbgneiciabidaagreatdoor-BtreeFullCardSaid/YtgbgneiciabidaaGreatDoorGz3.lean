/-
  A map from numbers to pages: what it holds, as a list by rising keys; looking up, storing, deleting.
-/
import Derived.Test.YtgbgneiciabidaaGreatDoorGz2
import Derived.Maps.Own
import Derived.Maps.Keyed
import Derived.Deep.RegionLaw
import Derived.Deep.DeepCutAuto
import Derived.StillTailTactics
import Derived.Deep.OwnRows
namespace Go.Proofs.YtgbgneiciabidaaGreatDoor
open Go Go.RowKit Go.ChangeMaps Go.Maps
open Go.WideElems (Fit rd rg pl)
set_option linter.all false

def VMap.ins {α : Type} (x : Int × α) : List (Int × α) → List (Int × α)
  | [] => [x]
  | y :: r => if x.1 < y.1 then x :: y :: r else y :: VMap.ins x r
def VMap.del {α : Type} (a : Int) (M : List (Int × α)) : List (Int × α) := M.filter fun p => !(p.1 == a)
def VMap.put {α : Type} (a : Int) (v : α) (M : List (Int × α)) : List (Int × α) := VMap.ins (a, v) (VMap.del a M)
def VMap.get {α : Type} (a : Int) (M : List (Int × α)) : Option α := (M.find? fun p => p.1 == a).map (·.2)
abbrev VMap := List (Int × Value)
def VMap.over {α β : Type} (f : α → β) (M : List (Int × α)) : List (Int × β) := M.map fun p => (p.1, f p.2)
theorem VMap.over_ins {α β : Type} (f : α → β) (x : Int × α) : ∀ M : List (Int × α), VMap.over f (VMap.ins x M) = VMap.ins (x.1, f x.2) (VMap.over f M)
  | [] => rfl
  | y :: r => by
    unfold VMap.ins
    simp only [VMap.over, List.map_cons, VMap.ins]
    by_cases h : x.1 < y.1
    · rw [if_pos h, if_pos h]; rfl
    · rw [if_neg h, if_neg h, List.map_cons]; exact congrArg _ (VMap.over_ins f x r)
theorem VMap.over_del {α β : Type} (f : α → β) (a : Int) (M : List (Int × α)) : VMap.over f (VMap.del a M) = VMap.del a (VMap.over f M) := by
  unfold VMap.del VMap.over
  rw [List.filter_map]; rfl
theorem VMap.over_put {α β : Type} (f : α → β) (a : Int) (v : α) (M : List (Int × α)) : VMap.over f (VMap.put a v M) = VMap.put a (f v) (VMap.over f M) := by
  rw [VMap.put, VMap.over_ins, VMap.over_del]; rfl
theorem VMap.get_over {α β : Type} (f : α → β) (a : Int) (M : List (Int × α)) : VMap.get a (VMap.over f M) = (VMap.get a M).map f := by
  unfold VMap.get VMap.over
  rw [List.find?_map]
  have e : (fun p : Int × β => p.1 == a) ∘ (fun p : Int × α => (p.1, f p.2)) = fun p => p.1 == a := rfl
  rw [e]
  cases M.find? (fun p => p.1 == a) <;> rfl
theorem VMap.ins_perm {α : Type} (x : Int × α) : ∀ M : List (Int × α), (VMap.ins x M).Perm (x :: M)
  | [] => .refl _
  | y :: r => by
    unfold VMap.ins
    split
    · exact .refl _
    · exact ((VMap.ins_perm x r).cons y).trans (.swap _ _ _)
def VMap.Up {α : Type} (M : List (Int × α)) : Prop := M.Pairwise fun p q => p.1 < q.1
theorem VMap.Up.ins {α : Type} {x : Int × α} : ∀ {M : List (Int × α)}, VMap.Up M → (∀ p ∈ M, p.1 ≠ x.1) → VMap.Up (VMap.ins x M)
  | [], _, _ => by simp [VMap.ins, VMap.Up]
  | y :: r, h, hx => by
    unfold VMap.ins
    obtain ⟨h1, h2⟩ := List.pairwise_cons.1 h
    have hy := hx y (by simp)
    split
    · rename_i hlt
      refine List.pairwise_cons.2 ⟨fun p hp => ?_, h⟩
      rcases List.mem_cons.1 hp with rfl | hp
      · exact hlt
      · have := h1 p hp; omega
    · rename_i hlt
      refine List.pairwise_cons.2 ⟨fun p hp => ?_, VMap.Up.ins h2 fun p hp => hx p (by simp [hp])⟩
      rcases List.mem_cons.1 ((VMap.ins_perm x r).mem_iff.1 hp) with rfl | hp
      · omega
      · exact h1 p hp
theorem VMap.Up.del {α : Type} {M : List (Int × α)} (h : VMap.Up M) (a : Int) : VMap.Up (VMap.del a M) := List.Pairwise.filter _ h
theorem VMap.Up.put {α : Type} {M : List (Int × α)} (h : VMap.Up M) (a : Int) (v : α) : VMap.Up (VMap.put a v M) :=
  (h.del a).ins fun p hp => by
    have := (List.mem_filter.1 hp).2
    simpa using this
theorem VMap.get_split {α : Type} {a : Int} {v : α} : ∀ {M : List (Int × α)}, VMap.Up M → VMap.get a M = some v → M.Perm ((a, v) :: VMap.del a M)
  | [], _, h => by simp [VMap.get] at h
  | y :: r, h, hg => by
    obtain ⟨h1, h2⟩ := List.pairwise_cons.1 h
    by_cases e : y.1 = a
    · have hv : y.2 = v := by simpa [VMap.get, e] using hg
      have hr : VMap.del a (y :: r) = r := by
        unfold VMap.del
        rw [List.filter_cons_of_neg (by simp [e])]
        exact List.filter_eq_self.2 fun p hp => by have := h1 p hp; simp; omega
      rw [hr, ← e, ← hv]
    · have hg' : VMap.get a r = some v := by simpa [VMap.get, e] using hg
      have hr : VMap.del a (y :: r) = y :: VMap.del a r := by
        unfold VMap.del
        rw [List.filter_cons_of_pos (by simp [e])]
      rw [hr]
      exact ((VMap.get_split h2 hg').cons y).trans (.swap _ _ _)
def litE (p : Int × Value) : Lit × DataW Value := (.int .i64 p.1, .held p.2)
def heldR (v : Value) : Option (DataW Value × List MemPlace) := some (.held v, [])
theorem litE_ins (x : Int × Value) : ∀ M : VMap, (VMap.ins x M).map litE = DataW.insert (litE x) (M.map litE)
  | [] => rfl
  | y :: r => by
    unfold VMap.ins
    simp only [List.map_cons, DataW.insert]
    by_cases h : x.1 < y.1
    · rw [if_pos h, if_pos (by simp [litE, Lit.before, h])]; rfl
    · rw [if_neg h, if_neg (by simp [litE, Lit.before]; omega), List.map_cons, litE_ins x r]
theorem litE_del (a : Int) (M : VMap) : (VMap.del a M).map litE = (M.map litE).filter (notKey (.int .i64 a)) := by
  unfold VMap.del
  rw [List.filter_map]
  congr 1
  apply List.filter_congr
  intro p _
  simp only [notKey, litE, Lit.sameKey, Function.comp]
  congr 1
  rw [Bool.eq_iff_iff]; simp
theorem litE_put (a : Int) (v : Value) (M : VMap) : (VMap.put a v M).map litE = putKey (.int .i64 a) (.held v) (M.map litE) := by
  rw [VMap.put, litE_ins, litE_del]; rfl
theorem atKey_lit (a : Int) (M : VMap) (z : DataW Value) : (DataW.map (M.map litE)).atKey (.int .i64 a) z = match VMap.get a M with | some v => .held v | none => z := by
  simp only [DataW.atKey, VMap.get, List.find?_map]
  have e : (fun p : Lit × DataW Value => p.1.sameKey (.int .i64 a)) ∘ litE = fun p => p.1 == a := by
    funext p
    simp [litE, Lit.sameKey, Function.comp]
    rw [Bool.eq_iff_iff]; simp
  rw [e]
  cases M.find? (fun p => p.1 == a) <;> rfl

def mapS (b n : Nat) (M : VMap) : Say := fun h => ∃ es clock, h b = some (.map es clock) ∧ Fit Tryz.prog 3 heldR es clock ∧ es.size ≤ n ∧ M.map litE = (es.toList.map (rg Tryz.prog 3 heldR)).foldr DataW.insert []
theorem Has.map_open {w : World} {l : List Say} {b n : Nat} {M : VMap} (h : Has w (mapS b n M :: l)) :
    ∃ es clock, Fit Tryz.prog 3 heldR es clock ∧ es.size ≤ n ∧ M.map litE = (es.toList.map (rg Tryz.prog 3 heldR)).foldr DataW.insert [] ∧ Has w (pts b (.map es clock) :: l) := by
  obtain ⟨h1, h2, ⟨es, clock, hb, F, hs, hD⟩, hl, d1, d2⟩ := h
  exact ⟨es, clock, F, hs, hD, h1, h2, hb, hl, d1, d2⟩
theorem Has.map_own {w : World} {l : List Say} {b n : Nat} {M : VMap} (h : Has w l) (hm : mapS b n M ∈ l) : w.ownsMap Tryz.prog 3 heldR b n (.map (M.map litE)) := by
  obtain ⟨g, ⟨es, clock, hb, F, hs, hD⟩, hk⟩ := h.mem hm
  exact ⟨es, clock, by rw [hk b (by rw [hb]; simp), hb], F, hs, by rw [hD]⟩
theorem map_made {w : World} {l : List Say} (h : Has w l) : Has (w.alloc (.map #[] 0)) (mapS w.heap.size 0 [] :: l) :=
  (h.alloc (.map #[] 0)).head fun _ ha => by
    obtain ⟨es, clock, hb, F, hs, hD⟩ := World.ownsMap_made w Tryz.prog 3 heldR
    have e : (w.alloc (.map #[] 0)).heap[w.heap.size]? = some (.map #[] 0) := by show (w.heap.push _)[w.heap.size]? = _; simp
    rw [e] at hb
    cases hb
    exact ⟨_, _, ha, F, hs, by simpa using hD⟩

theorem int64_wf {a : Int} (h0 : -9223372036854775808 ≤ a) (h1 : a ≤ 9223372036854775807) : (Lit.int .i64 a).wf = true := by
  simp [Lit.wf]
  exact ⟨by show (-9223372036854775808 : Int) ≤ a; exact h0, h1⟩
theorem map_key (a : Int) (h0 : -9223372036854775808 ≤ a) (h1 : a ≤ 9223372036854775807) : keyOf Tryz.prog 3 (.int .i64 a) = some (.int .i64 a) := keyOf_int_mk Tryz.underlying3 (int64_wf h0 h1)

def pageZero : Value := .agg #[.int .i64 0, .slice none 0 0, .slice none 0 0, .int .i64 0, .int .i64 0]
theorem info_page : (Tryz.prog.info? 153).map (fun i => (i.zero, i.size, i.bytes)) = some (some (.agg #[.int .i64 0, .slice none 0 0, .slice none 0 0, .int .i64 0, .int .i64 0]), 5, 72) := by kernel_rfl
theorem page_zero (w : World) : (zeroValue 153).run Tryz.prog w = .ok pageZero w := by
  obtain ⟨i0, I1, I2, I3, I4⟩ := info_parts info_page
  simp [zeroValue, typeInfo, I1, I2, pageZero, go_sem]

theorem map_look {w : World} {l : List Say} {b n : Nat} {M : VMap} (h : Has w l) (hm : mapS b n M ∈ l) (a : Int) (h0 : -9223372036854775808 ≤ a) (h1 : a ≤ 9223372036854775807) :
    (Instr.lookup 145 (.map (some b)) (.int .i64 a) false).run Tryz.prog w = .ok ((VMap.get a M).getD pageZero) w := by
  obtain ⟨es, clock, hb, F, hs, hD⟩ := h.map_own hm
  have hD' : M.map litE = (es.toList.map (rg Tryz.prog 3 heldR)).foldr DataW.insert [] := by injection hD
  rcases Maps.fit_look false (int_keyed Tryz.underlying3) Tryz.underlying145 (page_zero w) hb F (map_key a h0 h1) with ⟨hrun, _, hat⟩ | ⟨e0, y, _, _, hrun, hRv, hat, _⟩
  · rw [hrun]
    have := hat (.held .nilIface)
    have h2 := hat .nil
    rw [← hD', atKey_lit] at h2
    cases hg : VMap.get a M with
    | none => rfl
    | some v => rw [hg] at h2; cases h2
  · rw [hrun]
    have h2 := hat .nil
    rw [← hD', atKey_lit] at h2
    cases hRv
    cases hg : VMap.get a M with
    | none => rw [hg] at h2; cases h2
    | some v => rw [hg] at h2; cases h2; rfl
theorem map_look_ok {w : World} {l : List Say} {b n : Nat} {M : VMap} (h : Has w l) (hm : mapS b n M ∈ l) (a : Int) (h0 : -9223372036854775808 ≤ a) (h1 : a ≤ 9223372036854775807) :
    (Instr.lookup 145 (.map (some b)) (.int .i64 a) true).run Tryz.prog w = .ok (.tuple #[(VMap.get a M).getD pageZero, .bool (VMap.get a M).isSome]) w := by
  obtain ⟨es, clock, hb, F, hs, hD⟩ := h.map_own hm
  have hD' : M.map litE = (es.toList.map (rg Tryz.prog 3 heldR)).foldr DataW.insert [] := by injection hD
  rcases Maps.fit_look true (int_keyed Tryz.underlying3) Tryz.underlying145 (page_zero w) hb F (map_key a h0 h1) with ⟨hrun, _, hat⟩ | ⟨e0, y, _, _, hrun, hRv, hat, _⟩
  · rw [hrun]
    have h2 := hat .nil
    rw [← hD', atKey_lit] at h2
    cases hg : VMap.get a M with
    | none => rfl
    | some v => rw [hg] at h2; cases h2
  · rw [hrun]
    have h2 := hat .nil
    rw [← hD', atKey_lit] at h2
    cases hRv
    cases hg : VMap.get a M with
    | none => rw [hg] at h2; cases h2
    | some v => rw [hg] at h2; cases h2; rfl
theorem map_store {w : World} {l : List Say} {b n : Nat} {M : VMap} (h : Has w (mapS b n M :: l)) (hn : n < maxLen) (a : Int) (h0 : -9223372036854775808 ≤ a) (h1 : a ≤ 9223372036854775807) (v : Value) :
    ∃ w', (Instr.mapUpdate 145 (.map (some b)) (.int .i64 a) v).run Tryz.prog w = .ok () w' ∧ Kept w w' ∧ Has w' (mapS b (n + 1) (VMap.put a v M) :: l) := by
  obtain ⟨es, clock, F, hs, hD, hh⟩ := h.map_open
  obtain ⟨es', clock', hrun, F', hput, _⟩ := Maps.fit_store (R' := heldR) (int_keyed Tryz.underlying3) Tryz.underlying145 hh.got F (Nat.lt_of_le_of_lt hs hn) (fun _ _ _ _ hz => hz) (map_key a h0 h1) (val := v) rfl
  refine ⟨_, hrun, ⟨rfl, rfl, rfl, by simp [setBlock]⟩, ?_⟩
  have h2 : Has (setBlock w b (.map es' clock')) (pts b (.map es' clock') :: l) := Sep.put hh (heap_setBlock_same hh.got _) fun k hk => heap_setBlock_other hh.got _ hk
  refine h2.head fun g hg => ⟨es', clock', hg, F', ?_, ?_⟩
  · have e1 : es'.size = ((es'.toList.map (rg Tryz.prog 3 heldR)).foldr DataW.insert []).length := by rw [length_sorted]; simp
    rw [e1, hput]
    unfold putKey
    rw [length_insert]
    have e2 := List.length_filter_le (notKey (.int .i64 a)) ((es.toList.map (rg Tryz.prog 3 heldR)).foldr DataW.insert [])
    rw [length_sorted] at e2
    simp at e2
    omega
  · rw [litE_put, hput, hD]
theorem map_drop {w : World} {l : List Say} {b n : Nat} {M : VMap} (h : Has w (mapS b n M :: l)) (a : Int) (h0 : -9223372036854775808 ≤ a) (h1 : a ≤ 9223372036854775807) (ty : TypeId) :
    ∃ w', (Builtin.delete_ #[145, 3] ty #[.map (some b), .int .i64 a]).run Tryz.prog w = .ok (.tuple #[]) w' ∧ Kept w w' ∧ Has w' (mapS b n (VMap.del a M) :: l) := by
  obtain ⟨es, clock, F, hs, hD, hh⟩ := h.map_open
  obtain ⟨es', hrun, F', hsz, hdel, _⟩ := Maps.fit_drop (ty := ty) (int_keyed Tryz.underlying3) Tryz.underlying145 hh.got F (map_key a h0 h1)
  refine ⟨_, hrun, ⟨rfl, rfl, rfl, by simp [setBlock]⟩, ?_⟩
  have h2 : Has (setBlock w b (.map es' clock)) (pts b (.map es' clock) :: l) := Sep.put hh (heap_setBlock_same hh.got _) fun k hk => heap_setBlock_other hh.got _ hk
  exact h2.head fun g hg => ⟨es', clock, hg, F', by omega, by rw [litE_del, hdel, hD]; rfl⟩
end Go.Proofs.YtgbgneiciabidaaGreatDoor
/-
  Disks (layer 3): what a sector tells last.
-/
namespace Go.Proofs.YtgbgneiciabidaaGreatDoor
open Go Go.RowKit
set_option linter.unusedVariables false
set_option linter.unusedSimpArgs false

def byteVal (n : Int) : Value := .int .u8 n
def bytesS (v : Value) (cur : List Int) : Say := rowS 5 1 v cur.length (cur.map byteVal)
def ptrOf (b : Nat) : Value := .pointer (some ⟨b, 0, none⟩)

structure SecAt where
  gv : Value
  wv : Value
  ws : List Value
  lv : Value
structure SecOk (N : Nat) (cur : List Int) (x : SecAt) : Prop where
  n : x.ws.length ≤ N
  cur : cur.length = 128
  last : (x.ws = [] ∧ x.lv = x.gv) ∨ (x.ws ≠ [] ∧ x.ws[x.ws.length - 1]? = some x.lv)
def secParts (b : Nat) (cur : List Int) (x : SecAt) : List Say :=
  [pts b (.cells #[x.gv, x.wv, .bool false] 318 (0, 0)), rowS 141 1 x.wv x.ws.length x.ws, bytesS x.lv cur]
def sectorS (N b : Nat) (cur : List Int) : Say := ex fun x : SecAt => fact (SecOk N cur x) (all (secParts b cur x))
theorem Has.sec_open {w : World} {l : List Say} {N b : Nat} {cur : List Int} (h : Has w (sectorS N b cur :: l)) : ∃ x, SecOk N cur x ∧ Has w (secParts b cur x ++ l) := by
  obtain ⟨x, h⟩ := h.opened
  obtain ⟨ok, h⟩ := h.unfact
  exact ⟨x, ok, h.split⟩
theorem Has.sec_shut {w : World} {l : List Say} {N b : Nat} {cur : List Int} {x : SecAt} (ok : SecOk N cur x) (h : Has w (secParts b cur x ++ l)) : Has w (sectorS N b cur :: l) := Has.chosen x (Has.tofact ok h.unite)

def zipL {β : Type} (f : Nat → β → Say) (bs : List Nat) (xs : List β) : List Say := (bs.zip xs).map fun y => f y.1 y.2
theorem zip_focus {β : Type} (f : Nat → β → Say) : ∀ (bs : List Nat) (xs : List β) (d b : Nat) (y : β), bs[d]? = some b → xs[d]? = some y →
    (zipL f bs xs).Perm (f b y :: zipL f (bs.eraseIdx d) (xs.eraseIdx d))
  | [], _, _, _, _, h, _ => by simp at h
  | _ :: _, [], _, _, _, _, h => by simp at h
  | b0 :: bs, y0 :: xs, 0, b, y, hb, hy => by
    simp at hb hy
    subst hb hy
    exact .refl _
  | b0 :: bs, y0 :: xs, d + 1, b, y, hb, hy => by
    have h1 := zip_focus f bs xs d b y (by simpa using hb) (by simpa using hy)
    exact (h1.cons (f b0 y0)).trans (.swap _ _ _)
theorem Has.zip_take {β : Type} {f : Nat → β → Say} {w : World} {l : List Say} {bs : List Nat} {xs : List β} {d b : Nat} {y : β} (h : Has w (zipL f bs xs ++ l)) (hb : bs[d]? = some b) (hy : xs[d]? = some y) :
    Has w (f b y :: (zipL f (bs.eraseIdx d) (xs.eraseIdx d) ++ l)) := h.perm ((zip_focus f bs xs d b y hb hy).append_right l)
theorem Has.zip_give {β : Type} {f : Nat → β → Say} {w : World} {l : List Say} {bs : List Nat} {xs : List β} {d b : Nat} {y' : β} (h : Has w (f b y' :: (zipL f (bs.eraseIdx d) (xs.eraseIdx d) ++ l))) (hb : bs[d]? = some b) (hd : d < xs.length) :
    Has w (zipL f bs (xs.set d y') ++ l) := by
  have hp := zip_focus f bs (xs.set d y') d b y' hb (by simp [hd])
  have e : (xs.set d y').eraseIdx d = xs.eraseIdx d := by
    apply List.ext_getElem?
    intro i
    simp only [List.getElem?_eraseIdx, List.getElem?_set]
    by_cases h1 : i < d
    · rw [if_pos h1, if_pos h1, if_neg (by omega)]
    · rw [if_neg h1, if_neg h1, if_neg (by omega)]
  rw [e] at hp
  exact h.perm (hp.symm.append_right l)
theorem Sep.zip_mono {β : Type} {f g : Nat → β → Say} (hfg : ∀ b x h, f b x h → g b x h) {l : List Say} : ∀ (bs : List Nat) (xs : List β) {h : Part}, Sep h (zipL f bs xs ++ l) → Sep h (zipL g bs xs ++ l)
  | [], _, _, h => h
  | _ :: _, [], _, h => h
  | b :: bs, x :: xs, _, h => Sep.head_mono (fun _ => hfg b x _) (Sep.cons_mono (fun _ => Sep.zip_mono hfg bs xs) h)
theorem Has.zip_mono {β : Type} {f g : Nat → β → Say} {w : World} {l : List Say} {bs : List Nat} {xs : List β} (h : Has w (zipL f bs xs ++ l)) (hfg : ∀ b x h, f b x h → g b x h) : Has w (zipL g bs xs ++ l) := Sep.zip_mono hfg bs xs h
theorem Has.zip_behind {β : Type} {f : Nat → β → Say} {w : World} {A B : Say} {l : List Say} {bs : List Nat} {xs : List β} (h : Has w ([A, B] ++ zipL f bs xs ++ l)) : Has w (zipL f bs xs ++ (A :: B :: l)) := by
  refine h.perm ?_
  rw [List.append_assoc]
  exact List.perm_append_comm_assoc [A, B] (zipL f bs xs) l
theorem Has.zip_ahead {β : Type} {f : Nat → β → Say} {w : World} {A B : Say} {l : List Say} {bs : List Nat} {xs : List β} (h : Has w (zipL f bs xs ++ (A :: B :: l))) : Has w ([A, B] ++ zipL f bs xs ++ l) := by
  refine h.perm ?_
  rw [List.append_assoc]
  exact (List.perm_append_comm_assoc [A, B] (zipL f bs xs) l).symm
theorem sector_mono {N M : Nat} (hN : N ≤ M) (b : Nat) (cur : List Int) (h : Part) : sectorS N b cur h → sectorS M b cur h := by
  rintro ⟨x, ok, hx⟩
  exact ⟨x, ⟨Nat.le_trans ok.n hN, ok.cur, ok.last⟩, hx⟩

def sectorsL (N : Nat) (bs : List Nat) (secs : List (List Int)) : List Say := zipL (sectorS N) bs secs
structure DiskAt where
  v : Value
  bs : List Nat
def diskFlat (N d : Nat) (secs : List (List Int)) (x : DiskAt) : List Say :=
  [pts d (.cells #[x.v] 278 (0, 0)), rowS 315 1 x.v x.bs.length (x.bs.map ptrOf)] ++ sectorsL N x.bs secs
def diskS (N d : Nat) (secs : List (List Int)) : Say := ex fun x : DiskAt => fact (x.bs.length = secs.length ∧ secs.length ≤ 4096) (all (diskFlat N d secs x))
theorem Has.disk_open {w : World} {l : List Say} {N d : Nat} {secs : List (List Int)} (h : Has w (diskS N d secs :: l)) : ∃ x : DiskAt, x.bs.length = secs.length ∧ secs.length ≤ 4096 ∧ Has w (diskFlat N d secs x ++ l) := by
  obtain ⟨x, h⟩ := h.opened
  obtain ⟨ok, h⟩ := h.unfact
  exact ⟨x, ok.1, ok.2, h.split⟩
theorem Has.disk_shut {w : World} {l : List Say} {N d : Nat} {secs : List (List Int)} {x : DiskAt} (ok : x.bs.length = secs.length) (h2 : secs.length ≤ 4096) (h : Has w (diskFlat N d secs x ++ l)) : Has w (diskS N d secs :: l) :=
  Has.chosen x (Has.tofact ⟨ok, h2⟩ h.unite)

def zeros : List Int := List.replicate 128 0
theorem info_sector : (Tryz.prog.info? 315).map (fun i => (i.zero, i.size, i.bytes)) = some (some (.pointer none), 1, 8) := by kernel_rfl

theorem made_zeros : (madeCells #[Value.int .u8 0] 128).toList.take (128 * 1) = zeros.map byteVal := by kernel_rfl
theorem fresh_sector {w : World} {l : List Say} (N : Nat) {b g : Nat} (h : Has w (pts b (.cells #[.slice (some ⟨g, 0, none⟩) 128 128, .slice none 0 0, .bool false] 318 (0, 0)) :: pts g (.cells (madeCells #[.int .u8 0] 128) 5 (0, 0)) :: l)) :
    Has w (sectorS N b zeros :: l) := by
  have h1 := (h.swap.row_of_pts (size := 1) (n := 128) (cap := 128) (xs := zeros.map byteVal) (by simp [zeros]) (Nat.le_refl _) (by simp [maxLen]) (by simp [size_madeCells]) made_zeros).swap
  have h2 := ((h1.row_nil 141 1).swap)
  exact Has.sec_shut (x := ⟨.slice (some ⟨g, 0, none⟩) 128 128, .slice none 0 0, [], .slice (some ⟨g, 0, none⟩) 128 128⟩) ⟨Nat.zero_le _, by simp [zeros], .inl ⟨rfl, rfl⟩⟩ h2
theorem fresh_more {w : World} {l : List Say} {A : Say} {N : Nat} {bs : List Nat} {k b : Nat} (hb : bs.length = k) (h : Has w (A :: sectorS N b zeros :: (sectorsL N bs (List.replicate k zeros) ++ l))) :
    Has w (A :: (sectorsL N (bs ++ [b]) (List.replicate (k + 1) zeros) ++ l)) := by
  refine h.perm (List.Perm.cons _ ?_)
  have e : sectorsL N (bs ++ [b]) (List.replicate (k + 1) zeros) = sectorsL N bs (List.replicate k zeros) ++ [sectorS N b zeros] := by
    rw [List.replicate_succ', sectorsL, zipL, List.zip_append (by simp [hb]), List.map_append]; rfl
  rw [e, List.append_assoc]
  exact List.perm_middle.symm

def FreshMid (w : World) (N : Nat) (l : List Say) (k : Nat) (o : Value) (wx : World) : Prop :=
  ∃ bs, bs.length = k ∧ Kept w wx ∧ Has wx (rowS 315 1 o k (bs.map ptrOf) :: (sectorsL N bs (List.replicate k zeros) ++ l))
def FreshPost (w : World) (N : Nat) (l : List Say) (n : Nat) (r : Ending) (wx : World) : Prop := ∃ o, r = .returned o ∧ FreshMid w N l n o wx

set_option maxRecDepth 100000 in
theorem disk_fresh {w : World} {l : List Say} (h : Has w l) (N n : Nat) (hn : n ≤ 4096) :
    Calls Tryz.prog 188 #[.int .i64 (n : Int)] w (FreshPost w N l n) := by
  obtain ⟨i0, I1, I2, I3, I4⟩ := info_parts info_sector
  have hmk : ∀ w : World, (Instr.makeSlice 141 (.int .i64 128) (.int .i64 128)).run Tryz.prog w = .ok (.slice (some ⟨w.heap.size, 0, none⟩) 128 128) (w.alloc (.cells (madeCells #[.int .u8 0] 128) 5)) :=
    run_make_row' (P := Tryz.prog) 141 5 (.int .u8 0) 1 Tryz.underlying141 info_u8 rfl .i64 .i64 128 (by omega) (by omega)
  have H0 : Hid (FreshMid w N l 0 (.slice none 0 0) w) := ⟨[], rfl, Kept.refl w, h.row_nil _ _⟩
  clear h
  go_enter Tryz.func188, Tryz.ntmps188
  go_wp2
  go_loopg [3, 5] n (fun gk o i wr => ∃ k : Nat, k ≤ n ∧ gk = n - k ∧ i = .int .i64 k ∧ Hid (FreshMid w N l k o wr))
  case atStart => exact ⟨0, Nat.zero_le _, rfl, rfl, H0⟩
  case round =>
    clear H0
    obtain ⟨k, hk, rfl, rfl, HM⟩ := hrel
    by_cases hlt : k < n
    · obtain ⟨bs, hbs, hK, hh⟩ := HM.out
      have h1 := hh.alloc (.cells (madeCells #[.int .u8 0] 128) 5)
      have h2 := h1.alloc (.cells #[.slice (some ⟨wr.heap.size, 0, none⟩) 128 128, .slice none 0 0, .bool false] 318)
      simp only [World.size_alloc] at h2
      have h3 := fresh_sector N h2
      have H3 := Lib.hid h3
      have HK3 : Hid (Kept w ((wr.alloc (.cells (madeCells #[.int .u8 0] 128) 5)).alloc (.cells #[.slice (some ⟨wr.heap.size, 0, none⟩) 128 128, .slice none 0 0, .bool false] 318))) := (hK.alloc _).alloc _
      have Hbs := Lib.hid hbs
      clear hh h1 h2 h3 hbs hK HM
      go_wp2_with (at_builtin; go_loud (refine wpList_append_row (l := sectorS N (wr.heap.size + 1) zeros :: (sectorsL N bs (List.replicate k zeros) ++ l)) rfl (.tmp 7) (.tmp 11) 275 rfl 315 i0 (.pointer none) 1 8 Tryz.underlying275 I1 I2 I3 I4 rfl (by decide) _ k (bs.map ptrOf) rfl ?hown ⟨_, 0, none⟩ 1 1 [ptrOf (wr.heap.size + 1)] rfl rfl ?hnews ?hone ?h63 ?hby ?next))
      case hown => exact (H3.out.alloc_off _).swap
      case hnews =>
        have hn1 := one_new ((wr.alloc (.cells (madeCells #[.int .u8 0] 128) 5)).alloc (.cells #[.slice (some ⟨wr.heap.size, 0, none⟩) 128 128, .slice none 0 0, .bool false] 318)) (ptrOf (wr.heap.size + 1)) 315
        simp only [World.size_alloc] at hn1
        exact hn1
      case hone => intro u hu; simp at hu; subst hu; rfl
      case h63 => simp [maxLen]; omega
      case hby => omega
      case next =>
        intro v2 w4 hK4 h4
        have HK4 := Lib.hid hK4
        have H4 := Lib.hid h4
        clear hK4 h4
        go_wp2
        go_roundg (n - (k + 1))
        case measure => omega
        case rel =>
          refine ⟨k + 1, by omega, rfl, by simp, bs ++ [wr.heap.size + 1], by simp [Hbs.out], (HK3.out.alloc _).trans HK4.out, ?_⟩
          rw [List.map_append]
          exact fresh_more Hbs.out H4.out
    · obtain rfl : k = n := by omega
      go_wp2
      go_ret
      exact ⟨_, rfl, HM.out⟩

theorem info_wait : (Tryz.prog.info? 141).map (fun i => (i.zero, i.size, i.bytes)) = some (some (.slice none 0 0), 1, 24) := by kernel_rfl

def DiskPost (w : World) (N : Nat) (l : List Say) (n : Nat) (r : Ending) (wx : World) : Prop := ∃ d, r = .returned (.tuple #[.pointer (some ⟨d, 0, none⟩), .nilIface]) ∧ Kept w wx ∧ Has wx (diskS N d (List.replicate n zeros) :: l)

set_option maxRecDepth 100000 in
theorem disk_New {w : World} {l : List Say} (h : Has w l) (N n : Nat) (h1 : 1 ≤ n) (hn : n ≤ 4096) :
    Calls Tryz.prog 130 #[.int .i64 (n : Int)] w (DiskPost w N l n) := by
  have HF := Lib.hid (disk_fresh h N n hn)
  have d1 : decide ((n : Int) < 1) = false := by simp; omega
  have d2 : decide ((4096 : Int) < n) = false := by simp; omega
  clear h
  go_enter Tryz.func130, Tryz.ntmps130
  go_wp2_with fail
  refine HF.out.mono ?_
  rintro r w1 ⟨o, rfl, bs, hbs, hK, hh⟩
  obtain ⟨a, c, rfl, _⟩ := hh.row_val (e := 315) (size := 1) (v := o) (n := n) (xs := bs.map ptrOf) (.head _)
  have h2 := hh.alloc (.cells #[.slice a n c] 278)
  have HD : Hid (Kept w (w1.alloc (.cells #[.slice a n c] 278)) ∧ Has (w1.alloc (.cells #[.slice a n c] 278)) (diskS N w1.heap.size (List.replicate n zeros) :: l)) := by
    refine ⟨hK.alloc _, Has.disk_shut (x := ⟨.slice a n c, bs⟩) (by simp [hbs]) (by simpa using hn) ?_⟩
    unfold diskFlat
    rw [hbs]
    exact h2
  clear hh h2 hK
  go_wp2
  go_ret2
  exact ⟨_, rfl, HD.out.1, HD.out.2⟩

theorem disk_has {w : World} {d n c : Nat} {a : Option Addr} (c0 : w.cell? ⟨d, 0, none⟩ = some (.slice a n c)) (i : Nat) (hi : i < n) (hn : n ≤ 4096) :
    Calls Tryz.prog 220 #[.pointer (some ⟨d, 0, none⟩), .int .i64 (i : Int)] w fun r w' => r = .returned (.bool true) ∧ w = w' := by
  have d1 : decide ((i : Int) < (n : Int)) = true := by simp; omega
  have l0 := World.block_lt_of_cell? _ _ c0
  go_enter Tryz.func220, Tryz.ntmps220
  go_wp2
  go_ret
  exact ⟨rfl, rfl⟩

theorem disk_Size {w : World} {d n c : Nat} {a : Option Addr} (c0 : w.cell? ⟨d, 0, none⟩ = some (.slice a n c)) :
    Calls Tryz.prog 197 #[.pointer (some ⟨d, 0, none⟩)] w fun r w' => r = .returned (.int .i64 (n : Int)) ∧ w = w' := by
  have l0 := World.block_lt_of_cell? _ _ c0
  go_enter Tryz.func197, Tryz.ntmps197
  go_wp2
  go_ret
  exact ⟨rfl, rfl⟩
end Go.Proofs.YtgbgneiciabidaaGreatDoor
/-
  Disks (layer 3), the second part: a write.
-/
namespace Go.Proofs.YtgbgneiciabidaaGreatDoor
open Go Go.RowKit
set_option linter.unusedVariables false
set_option linter.unusedSimpArgs false

theorem Has.bytes_read {w : World} {l : List Say} {v : Value} {cur : List Int} (h : Has w l) (hm : bytesS v cur ∈ l) (hne : 0 < cur.length) :
    ∃ g c, v = .slice (some ⟨g, 0, none⟩) cur.length c ∧ cur.length ≤ c ∧ (∀ j u, (cur.map byteVal)[j]? = some u → w.cell? ⟨g, j, none⟩ = some u) ∧ ∀ j, w.frozen? ⟨g, j, none⟩ = false := by
  obtain ⟨_, a, c, hv, hc, _, hr⟩ := h.row_read hm
  obtain ⟨g, rfl, _, hf⟩ := hr 0 (byteVal cur[0]) (by simp [hne])
  refine ⟨g, c, hv, hc, fun j u hu => ?_, hf⟩
  obtain ⟨g', hg, hc', _⟩ := hr j u hu
  cases hg
  exact hc'
theorem bytes_one (cur : List Int) : ∀ u ∈ cur.map byteVal, u.oneCell' = true := by
  intro u hu
  obtain ⟨n, _, rfl⟩ := List.mem_map.1 hu
  rfl

structure DiskRead (w : World) (d i b n : Nat) (a : Option Addr) (c : Nat) (x : SecAt) : Prop where
  c0 : w.cell? ⟨d, 0, none⟩ = some (.slice a n c)
  p0 : ∃ g, a = some ⟨g, 0, none⟩ ∧ w.cell? ⟨g, i, none⟩ = some (.pointer (some ⟨b, 0, none⟩))
  s1 : w.cell? ⟨b, 1, none⟩ = some x.wv
  f1 : w.frozen? ⟨b, 1, none⟩ = false
  s0 : w.cell? ⟨b, 0, none⟩ = some x.gv
  s2 : w.cell? ⟨b, 2, none⟩ = some (.bool false)
theorem Has.disk_sec {w : World} {l : List Say} {N d : Nat} {secs : List (List Int)} (h : Has w (diskS N d secs :: l)) (i : Nat) (cur : List Int) (hi : secs[i]? = some cur) :
    ∃ (x : DiskAt) (b : Nat) (y : SecAt) (a : Option Addr) (c : Nat), x.bs.length = secs.length ∧ secs.length ≤ 4096 ∧ x.bs[i]? = some b ∧ SecOk N cur y ∧ DiskRead w d i b secs.length a c y ∧
      Has w (secParts b cur y ++ (zipL (sectorS N) (x.bs.eraseIdx i) (secs.eraseIdx i) ++ (pts d (.cells #[x.v] 278 (0, 0)) :: rowS 315 1 x.v x.bs.length (x.bs.map ptrOf) :: l))) := by
  obtain ⟨x, hb, hn, hh⟩ := h.disk_open
  have hlt := (List.getElem?_eq_some_iff.1 hi).1
  obtain ⟨b, hxb⟩ : ∃ b, x.bs[i]? = some b := ⟨x.bs[i]'(by omega), List.getElem?_eq_getElem (by omega)⟩
  obtain ⟨_, a, c, hv, _, _, hr⟩ := hh.row_read (e := 315) (v := x.v) (n := x.bs.length) (xs := x.bs.map ptrOf) (by simp [diskFlat])
  obtain ⟨g, hg, hcg, _⟩ := hr i (ptrOf b) (by rw [List.getElem?_map, hxb]; rfl)
  have hd : w.cell? ⟨d, 0, none⟩ = some (.slice a secs.length c) := by
    have := hh.at (b := d) (o := .cells #[x.v] 278 (0, 0)) (by simp [diskFlat])
    rw [hv, hb] at this
    exact cell_of this 0 rfl
  have h1 := (hh.zip_behind).zip_take hxb hi
  obtain ⟨y, hy, h2⟩ := h1.sec_open
  have hp := h2.got
  exact ⟨x, b, y, a, c, hb, hn, hxb, hy, ⟨hd, ⟨g, hg, hcg⟩, cell_of hp 1 rfl, thaw_of hp 1, cell_of hp 0 rfl, cell_of hp 2 rfl⟩, h2⟩
theorem Has.disk_back {w : World} {l : List Say} {N M d : Nat} {secs : List (List Int)} {x : DiskAt} {i b : Nat} {cur : List Int} {y : SecAt} (hNM : N ≤ M) (hb : x.bs.length = secs.length) (hn : secs.length ≤ 4096) (hxb : x.bs[i]? = some b) (hy : SecOk M cur y)
    (h : Has w (secParts b cur y ++ (zipL (sectorS N) (x.bs.eraseIdx i) (secs.eraseIdx i) ++ (pts d (.cells #[x.v] 278 (0, 0)) :: rowS 315 1 x.v x.bs.length (x.bs.map ptrOf) :: l)))) :
    Has w (diskS M d (secs.set i cur) :: l) := by
  have hlt := (List.getElem?_eq_some_iff.1 hxb).1
  have h1 := h.sec_shut hy
  have h2 : Has w (sectorS M b cur :: (zipL (sectorS M) (x.bs.eraseIdx i) (secs.eraseIdx i) ++ (pts d (.cells #[x.v] 278 (0, 0)) :: rowS 315 1 x.v x.bs.length (x.bs.map ptrOf) :: l))) :=
    Sep.cons_mono (fun _ => Sep.zip_mono (fun b x h => sector_mono hNM b x h) _ _) h1
  have h3 := (h2.zip_give hxb (by omega)).zip_ahead
  exact Has.disk_shut (x := x) (by simp [hb]) (by simpa using hn) h3

def WritePost (w : World) (N d i : Nat) (secs : List (List Int)) (data : List Int) (l : List Say) (r : Ending) (w' : World) : Prop :=
  r = .returned .nilIface ∧ Kept w w' ∧ Has w' (diskS (N + 1) d (secs.set i data) :: l)

set_option maxRecDepth 100000 in
set_option maxHeartbeats 1000000 in
theorem disk_Write {w : World} {l : List Say} {N d : Nat} {secs : List (List Int)} (h : Has w (diskS N d secs :: l)) (i : Nat) (hi : i < secs.length) (v : Value) (data : List Int) (hd : bytesS v data ∈ l) (hdl : data.length = 128) (hN : N ≤ 1000000) :
    Calls Tryz.prog 199 #[.pointer (some ⟨d, 0, none⟩), .int .i64 (i : Int), v] w (WritePost w N d i secs data l) := by
  obtain ⟨x, b, y, a, c, hb, hn, hxb, hy, R, hh⟩ := h.disk_sec i secs[i] (List.getElem?_eq_getElem hi)
  obtain ⟨gd, cd, rfl, hcd, hdat, _⟩ := hh.bytes_read (v := v) (cur := data) (by simp [hd]) (by omega)
  obtain ⟨g, rfl, p0⟩ := R.p0
  have c0 := R.c0
  have s1 := R.s1
  have f1 := R.f1
  obtain ⟨aw, cw, hwv, _⟩ := hh.row_val (e := 141) (size := 1) (v := y.wv) (n := y.ws.length) (xs := y.ws) (by simp [secParts])
  obtain ⟨gv, wv, ws, lv⟩ := y
  simp only at hwv
  subst hwv
  simp only [secParts, List.cons_append, List.nil_append] at hh s1
  have HHas := Lib.hid (disk_has c0 i hi hn)
  have hi2 : (i : Int) < (secs.length : Int) := by omega
  have hi0 : (0 : Int) ≤ i := by omega
  have l0 := World.block_lt_of_cell? _ _ c0
  have l1 := World.block_lt_of_cell? _ _ p0
  have l2 := World.block_lt_of_cell? _ _ s1
  have hd0 : ((data.length : Int) == 128) = true := by rw [hdl]; rfl
  have hws : ws.length ≤ N := hy.n
  obtain ⟨i0, I1, I2, I3, I4⟩ := info_parts info_wait
  obtain ⟨L, hL⟩ : ∃ L, L = (zipL (sectorS N) (x.bs.eraseIdx i) (secs.eraseIdx i) ++ (pts d (.cells #[x.v] 278 (0, 0)) :: rowS 315 1 x.v x.bs.length (x.bs.map ptrOf) :: l)) := ⟨_, rfl⟩
  rw [← hL] at hh
  have HC := Lib.hid (clone_u8 (w := w.drew) hh.drew gd 0 data.length cd (data.map byteVal) (by simp) (fun j u hu => by rw [Nat.zero_add]; exact hdat j u hu) (bytes_one data) (by simp [maxLen]; omega) (by omega))
  have Hk : Hid (Kept w w.drew) := (Kept.refl w).drew
  have HF : Hid (∀ w' v' cv, Has w' (pts b (.cells #[gv, v', .bool false] 318 (0, 0)) :: rowS 141 1 v' (ws.length + 1) (ws ++ [cv]) :: rowS 5 1 cv data.length (data.map byteVal) :: bytesS lv secs[i] :: L) → Has w' (diskS (N + 1) d (secs.set i data) :: l)) := by
    intro w' v' cv h'
    rw [hL] at h'
    have h2 := (h'.pull 3).tail
    refine Has.disk_back (x := x) (b := b) (y := ⟨gv, v', ws ++ [cv], cv⟩) (Nat.le_succ N) hb hn hxb ⟨by simp; omega, hdl, .inr ⟨by simp, by simp⟩⟩ ?_
    have e : (ws ++ [cv]).length = ws.length + 1 := by simp
    simp only [secParts, e]
    exact h2
  clear R hh h hdat hy hb hn hxb hd hL
  have Hdl := Lib.hid hdl
  clear hdl
  go_enter Tryz.func199, Tryz.ntmps199
  go_wp2_with fail
  refine HHas.out.mono ?_
  rintro r w1 ⟨rfl, rfl⟩
  go_upto_region 6 with fail
  go_region_law (first
    | (go_loud (refine step_append_row rfl (.tmp 30) (.tmp 33) 316 rfl 141 i0 (.slice none 0 0) 1 24 Tryz.underlying316 I1 I2 I3 I4 rfl (by decide) (.slice aw ws.length cw) ws.length ws rfl (HRow.out.alloc_off _) ⟨_, 0, none⟩ 1 1 [.slice ac data.length kc] rfl rfl (one_new _ _ _) (by intro u hu; simp at hu; subst hu; rfl) (by simp [maxLen]; omega) (by omega) ?_)
       intro v2 V2 hK2 h2; obtain ⟨a2, c2, rfl, _⟩ := h2.row_val (e := 141) (size := 1) (n := ws.length + 1) (v := v2) (xs := ws ++ [.slice ac data.length kc]) (.head _); have hp2 := (h2.pull 2).got; have s1'' := cell_of hp2 1 rfl; have f1'' := thaw_of hp2 1; have H5 := Lib.hid h2; have HK5 := Lib.hid hK2; clear h2 hK2 hp2)
    | (go_simp; go_at_call 191; refine HC.out.mono ?_; rintro r V ⟨cv, rfl, hk, hv⟩; obtain ⟨ac, kc, rfl, _⟩ := hv.row_val (e := 5) (size := 1) (n := data.length) (v := cv) (xs := data.map byteVal) (.head _); have hp1 := (hv.pull 1).got; have s1' := cell_of hp1 1 rfl; have l2' := World.block_lt_of_cell? _ _ s1'; have HRow : Hid (Has V (rowS 141 1 (.slice aw ws.length cw) ws.length ws :: rowS 5 1 (.slice ac data.length kc) data.length (data.map byteVal) :: pts b (.cells #[gv, .slice aw ws.length cw, .bool false] 318 (0, 0)) :: bytesS lv secs[i] :: L)) := hv.pull 2; have HK4 := Lib.hid hk; clear hv hk hp1))
  all_goals
    go_wp2
    go_ret
    refine ⟨rfl, (((Hk.out.trans HK4.out).alloc _).trans HK5.out).setCell _ _, HF.out _ (.slice a2 (ws.length + 1) c2) (.slice ac data.length kc) ?_⟩
    exact (((H5.out.pull 2).setCell 1 (.slice a2 (ws.length + 1) c2)))
end Go.Proofs.YtgbgneiciabidaaGreatDoor
