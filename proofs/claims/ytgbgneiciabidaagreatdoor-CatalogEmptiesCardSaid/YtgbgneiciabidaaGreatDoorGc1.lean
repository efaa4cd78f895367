/-
  Trees (layer 12): items from a key on, and how many.
-/
import Derived.Test.YtgbgneiciabidaaGreatDoorGs1
import Derived.Test.YtgbgneiciabidaaGreatDoorGs2
import Derived.Test.YtgbgneiciabidaaGreatDoorGs3
import Derived.Test.YtgbgneiciabidaaGreatDoorGs4
import Derived.Test.YtgbgneiciabidaaGreatDoorGs5
import Derived.Test.YtgbgneiciabidaaGreatDoorGs6
import Derived.Test.YtgbgneiciabidaaGreatDoorGs7
import Derived.Test.YtgbgneiciabidaaGreatDoorGs8
import Derived.Test.YtgbgneiciabidaaGreatDoorGs9
import Derived.Test.YtgbgneiciabidaaGreatDoorGs10
import Derived.Test.YtgbgneiciabidaaGreatDoorGs11
import Derived.Test.YtgbgneiciabidaaGreatDoorGs12
import Derived.Test.YtgbgneiciabidaaGreatDoorGs13
import Derived.Test.YtgbgneiciabidaaGreatDoorGs14
import Derived.Test.YtgbgneiciabidaaGreatDoorGs15
import Derived.Test.YtgbgneiciabidaaGreatDoorGs16
import Derived.Test.YtgbgneiciabidaaGreatDoorGs17
import Derived.Test.YtgbgneiciabidaaGreatDoorGs18
import Derived.Test.YtgbgneiciabidaaGreatDoorGs19
import Derived.Test.YtgbgneiciabidaaGreatDoorGs20
import Derived.Test.YtgbgneiciabidaaGreatDoorGs21
import Derived.Test.YtgbgneiciabidaaGreatDoorGs22
import Derived.Test.YtgbgneiciabidaaGreatDoorGs23
import Derived.Test.YtgbgneiciabidaaGreatDoorGs24
import Derived.Test.YtgbgneiciabidaaGreatDoorGs25
import Derived.Test.YtgbgneiciabidaaGreatDoorGs26
import Derived.Test.YtgbgneiciabidaaGreatDoorGs27
import Derived.Test.YtgbgneiciabidaaGreatDoorGs28
import Derived.Laws.StructEq
import Derived.Shelf.SlIterI.Nil
import Derived.Shelf.SortM.Plain
import Derived.Shelf.SortM.SortNone
import Derived.Ground.GgzProg
import Derived.Ground.SlgmProg
import Derived.Test.YtgbgneiciabidaaGreatDoorProg
namespace Go.Proofs.YtgbgneiciabidaaGreatDoor
open Go Go.RowKit
set_option linter.all false
set_option maxHeartbeats 8000000
theorem root_none {es : List Ent} {Q : Pgs} {D : Int -> Nat} (hI : FInv es Q D) : VMap.get 0 Q = none := by
 cases hg : VMap.get 0 Q with
 | none => rfl
 | some g => have := (hI.adr 0 (by rw [hg]; rfl)).bd; omega
set_option maxRecDepth 100000 in
theorem walk_none {w : World} {l : List Say} {ob lb p bank sp N : Nat} {es : List Ent} {Q : Pgs} {ov : Value} {acc : List KV} {lim : Int} (fr : Int) (h : Has w (btS p bank sp N es Q :: wkL ob lb ov acc lim l)) :
  Calls Tryz.prog 102 #[.pointer (some ⟨p, 0, none⟩), .int .i64 0, .int .i64 fr, items1V ob lb] w (WalkPost ob lb p bank sp N es Q lim acc (fromL fr []) l w) := by
 have H0 := Lib.hid (root_none h.bt_inv.1)
 have HG := Lib.hid (bt_Get h 0 (by omega) (by omega))
 clear h
 unfold items1V
 go_enter Tryz.func102, Tryz.ntmps102
 go_wp2_with fail
 refine HG.out.mono ?_
 rintro r w1 ⟨hK1, (⟨_, rfl, h3⟩ | ⟨g', ak, ck, av, cv, h1, rfl, h3⟩)⟩
 ·have h4 := h3.alloc (.cells #[.int .i64 0, .slice none 0 0, .slice none 0 0] 35)
  have HF : Hid (WalkPost ob lb p bank sp N es Q lim acc (fromL fr []) l w (.returned (.bool true)) (w1.alloc (.cells #[.int .i64 0, .slice none 0 0, .slice none 0 0] 35))) := ⟨hK1.alloc _, rfl, ov, h4.tail⟩
  clear hK1 h3 h4 HG H0
  simp only [nodeZero, errV]
  go_wp2
  go_ret
  exact HF.out
 ·rw [H0.out] at h1; cases h1
theorem walkR {w : World} {l : List Say} {ob lb p bank sp N : Nat} {es : List Ent} {Q : Pgs} {ov : Value} {acc : List KV} {lim : Int} (root fr : Int) {L : List KV} {s : Nat} (h : Has w (btS p bank sp N es Q :: wkL ob lb ov acc lim l)) (hR : Root Q root L s) (hlen : acc.length + L.length <= 100000) :
  Calls Tryz.prog 102 #[.pointer (some ⟨p, 0, none⟩), .int .i64 root, .int .i64 fr, items1V ob lb] w (WalkPost ob lb p bank sp N es Q lim acc (fromL fr L) l w) := by
 rcases hR.it with ⟨rfl, rfl, rfl⟩ | ⟨lv, hT, hs, _⟩
 ·exact walk_none fr h
 ·exact bt_walk lv root fr h hT hs hlen
def itemsL (fr lim : Int) (L : List KV) : List KV := if lim = 0 then [] else (feed lim [] (fromL fr L)).1
def ItemsPost (p bank sp N : Nat) (es : List Ent) (Q : Pgs) (T : List KV) (l : List Say) (w : World) (r : Ending) (w' : World) : Prop :=
 ∃ v, r = .returned v /\ Kept w w' /\ Has w' (pairsS v T :: btS p bank sp N es Q :: l)
set_option maxRecDepth 100000 in
theorem bt_ItemsG {w : World} {l : List Say} {p bank sp N : Nat} {es : List Ent} {Q : Pgs} (root fr lim : Int) {L : List KV} (h : Has w (btS p bank sp N es Q :: l)) (hwk : ∀ {w : World} {l : List Say} {ob lb : Nat} {ov : Value}, Has w (btS p bank sp N es Q :: wkL ob lb ov [] lim l) -> Calls Tryz.prog 102 #[.pointer (some ⟨p, 0, none⟩), .int .i64 root, .int .i64 fr, items1V ob lb] w (WalkPost ob lb p bank sp N es Q lim [] (fromL fr L) l w)) :
  Calls Tryz.prog 42 #[.pointer (some ⟨p, 0, none⟩), .int .i64 root, .int .i64 fr, .int .i64 lim] w (ItemsPost p bank sp N es Q (itemsL fr lim L) l w) := by
 have h1 := (h.alloc (.cells #[.int .i64 lim] 3)).alloc (.cells #[.slice none 0 0] 75)
 have hk1 := ((Kept.refl w).alloc (.cells #[.int .i64 lim] 3)).alloc (.cells #[.slice none 0 0] 75)
 simp only [World.size_alloc] at h1
 have h2 : Has ((w.alloc (.cells #[.int .i64 lim] 3)).alloc (.cells #[.slice none 0 0] 75)) (btS p bank sp N es Q :: wkL (w.heap.size + 1) w.heap.size (.slice none 0 0) [] lim l) := by
  have h3 := h1.row_nil 87 2
  exact h3.reord [3, 1]
 have HW := Lib.hid (hwk h2)
 by_cases h0 : lim = 0
 ·have HF : Hid (ItemsPost p bank sp N es Q (itemsL fr lim L) l w (.returned (.slice none 0 0)) ((w.alloc (.cells #[.int .i64 lim] 3)).alloc (.cells #[.slice none 0 0] 75))) := by
   unfold itemsL
   rw [if_pos h0]
   exact ⟨_, rfl, hk1, h1.tail.tail.row_nil 87 2⟩
  clear h h1 h2 hk1 HW hwk
  subst h0
  go_enter Tryz.func42, Tryz.ntmps42
  go_wp2
  go_ret
  exact HF.out
 ·have hl0 : (lim == 0) = false := by simpa using h0
  have HI : Hid (itemsL fr lim L = (feed lim [] (fromL fr L)).1) := by unfold itemsL; exact if_neg h0
  have HK := Lib.hid hk1
  clear h h1 h2 hk1 hwk h0
  unfold items1V at HW
  go_enter Tryz.func42, Tryz.ntmps42
  go_wp2_with fail
  refine HW.out.mono ?_
  rintro r w3 ⟨hK3, rfl, ov, h5⟩
  have hg := h5.at (b := w.heap.size + 1) (o := .cells #[ov] 75 (0, 0)) (by simp [wkL])
  have c0 : w3.cell? ⟨w.heap.size + 1, 0, none⟩ = some ov := cell_of hg 0 rfl
  have l1 := World.block_lt_of_cell? _ _ c0
  have HF : Hid (ItemsPost p bank sp N es Q (itemsL fr lim L) l w (.returned ov) w3) := by
   rw [HI.out]
   have h6 : Has w3 (pairsS ov (feed lim [] (fromL fr L)).1 :: btS p bank sp N es Q :: pts (w.heap.size + 1) (.cells #[ov] 75 (0, 0)) :: boxS w.heap.size lim :: l) := h5.reord [2]
   exact ⟨ov, rfl, HK.out.trans hK3, Has.skip (A := [_, _]) (M := [_, _]) h6⟩
  obtain ⟨va, vc, rfl, hx⟩ := h5.row_val (v := ov) (.tail _ (.tail _ (.head _)))
  clear hx hg h5 hK3 HW HI HK
  go_wp2
  go_ret
  exact HF.out
theorem bt_Items {w : World} {l : List Say} {p bank sp N : Nat} {es : List Ent} {Q : Pgs} (root fr lim : Int) {L : List KV} {s : Nat} (h : Has w (btS p bank sp N es Q :: l)) (hR : Root Q root L s) (hlen : L.length <= 100000) :
  Calls Tryz.prog 42 #[.pointer (some ⟨p, 0, none⟩), .int .i64 root, .int .i64 fr, .int .i64 lim] w (ItemsPost p bank sp N es Q (itemsL fr lim L) l w) :=
 bt_ItemsG root fr lim h fun h => walkR root fr h hR (by simpa using hlen)
theorem items_all {L : List KV} (h : ∀ p ∈ L, 0 <= p.1) : itemsL 0 (-1) L = L := by
 unfold itemsL
 rw [if_neg (by decide), feed_all (by decide)]
 unfold fromL
 rw [List.filter_eq_self.2 (fun p hp => by simpa using h p hp)]
 rfl
/-
  The statements of layer 12: made.
-/
def sizesT (zs : List Int) : Bool := decide (1 <= zs.length) && decide (zs.length <= 4) && zs.all fun z => decide (3 <= z) && decide (z <= 4096)
theorem sizesT_at {zs : List Int} (h : sizesT zs = true) {k : Nat} (hk : k < zs.length) : ∃ n : Nat, zs[k] = (n : Int) /\ 3 <= n /\ n <= 4096 := by
 simp only [sizesT, Bool.and_eq_true, List.all_eq_true, decide_eq_true_eq] at h
 have := h.2 _ (List.getElem_mem hk)
 exact ⟨zs[k].toNat, by omega, by omega, by omega⟩
theorem sizesT_ok {zs : List Int} (h : sizesT zs = true) : OkEnts (eSizes zs) := by
 have h' := h
 simp only [sizesT, Bool.and_eq_true, List.all_eq_true, decide_eq_true_eq] at h'
 refine ⟨by simp [eSizes]; omega, fun e he => ?_⟩
 obtain ⟨z, hz, rfl⟩ := List.mem_map.1 he
 have := h'.2 z hz
 exact ⟨by show z.toNat <= 4096; omega, .inl ⟨.inl rfl, by show 2 < z.toNat; omega⟩⟩
theorem fresh_roomT {zs : List Int} (h : sizesT zs = true) : Room (eSizes zs) [] (dSizes zs) (freshSpc (eSizes zs)) := by
 have h' := h
 simp only [sizesT, Bool.and_eq_true, List.all_eq_true, decide_eq_true_eq] at h'
 refine ⟨?_, XIs.fresh _, fun d y hy k => ?_, by simp [eSizes]; omega, fun e he => ?_⟩
 ·have := fits_fresh (zs.map Int.toNat) fun n hn => by
   obtain ⟨z, hz, rfl⟩ := List.mem_map.1 hn
   have := h'.2 z hz
   omega
  rw [List.map_map, List.map_map] at this
  exact this
 ·simp only [freshSpc, List.getElem?_map, Option.map_eq_some_iff] at hy
  obtain ⟨e, _, rfl⟩ := hy
  rfl
 ·obtain ⟨z, hz, rfl⟩ := List.mem_map.1 he
  have := h'.2 z hz
  show z.toNat <= 4096
  omega
theorem FInv.empty (es : List Ent) : FInv es [] (fun _ => 0) := by
 refine ⟨List.Pairwise.nil, fun a g h => ?_, fun a g h => ?_, fun a h => ?_, fun a h => ?_⟩
 ·cases h
 ·cases h
 ·exact absurd h (Nat.lt_irrefl 0)
 ·cases h
theorem sizesT_ne {zs : List Int} (h : sizesT zs = true) : eSizes zs ≠ [] := fun e => by
 have h' := h
 simp only [sizesT, Bool.and_eq_true, List.all_eq_true, decide_eq_true_eq] at h'
 have := congrArg List.length e
 simp [eSizes] at this
 rw [this] at h'
 simp at h'
/-
  Two pairs are compared.
-/
set_option maxRecDepth 100000 in
theorem neq_pair (a b c d : Int) (W : World) : (binOp .neq 87 (.agg #[.int .i64 a, .int .i64 b]) (.agg #[.int .i64 c, .int .i64 d])).run Tryz.prog W = .ok (.bool (!(a == c && b == d))) W := by
 have hu := Tryz.underlying87
 have hi := Tryz.underlying3
 have hs : Tryz.prog.stoodInHeld 87 = false := by kernel_rfl
 have hf : Tryz.prog.underlying 87 = some (.struct (Tryz.prog.fieldsOf 87)) := by unfold Program.fieldsOf; rw [hu]
 rw [run_neq_struct, run_equalIn_agg W 9999 _ _ _ hf hs]
 unfold Program.fieldsOf
 rw [hu]
 simp [Op.eqFields, part, typeInfo, sizeOf, run_underlying hu, run_underlying hi, asAgg, Result.andThen, go_sem, run_equalIn_int, hi]
 by_cases h1 : a = c <;> by_cases h2 : b = d <;> simp [h1, h2]
theorem guard_pair (x y : Operand) (a b c d : Int) (W : World) : (eqGuard .neq 87 x y (.agg #[.int .i64 a, .int .i64 b]) (.agg #[.int .i64 c, .int .i64 d])).run Tryz.prog W = .ok () W := run_eqGuard_agg W _ _ _ _ _ _ (by kernel_rfl)
/-
  BtreeOrders, in plain Lean: the same pairs in two orders.
-/
theorem srt_ext : ∀ {A B : List KV}, Srt A -> Srt B -> (∀ p, p ∈ A ↔ p ∈ B) -> A = B
 | [], [], _, _, _ => rfl
 | [], y :: B, _, _, h => by have := (h y).2 (.head _); cases this
 | x :: A, [], _, _, h => by have := (h x).1 (.head _); cases this
 | x :: A, y :: B, hA, hB, h => by
  have a1 := List.pairwise_cons.1 hA
  have b1 := List.pairwise_cons.1 hB
  have hxy : x = y := by
   rcases List.mem_cons.1 ((h x).1 (.head _)) with e | hx
   ·exact e
   ·rcases List.mem_cons.1 ((h y).2 (.head _)) with e | hy
    ·exact e.symm
    ·have := a1.1 y hy
     have := b1.1 x hx
     omega
  subst hxy
  refine congrArg (x :: ·) (srt_ext a1.2 b1.2 fun p => ⟨fun hp => ?_, fun hp => ?_⟩)
  ·rcases List.mem_cons.1 ((h p).1 (.tail _ hp)) with rfl | hm
   ·have := a1.1 p hp; omega
   ·exact hm
  ·rcases List.mem_cons.1 ((h p).2 (.tail _ hp)) with rfl | hm
   ·have := b1.1 p hp; omega
   ·exact hm
theorem putL_iff {L : List KV} {k v : Int} {p : KV} : p ∈ putL L k v ↔ p = (k, v) \/ (p ∈ L /\ p.1 ≠ k) := by
 unfold putL
 simp only [List.mem_append, List.mem_cons, List.mem_filter, decide_eq_true_eq]
 constructor
 ·rintro (⟨h, h2⟩ | rfl | ⟨h, h2⟩)
  ·exact .inr ⟨h, by omega⟩
  ·exact .inl rfl
  ·exact .inr ⟨h, by omega⟩
 ·rintro (rfl | ⟨h, h2⟩)
  ·exact .inr (.inl rfl)
  ·rcases Int.lt_or_gt_of_ne h2 with h3 | h3
   ·exact .inl ⟨h, h3⟩
   ·exact .inr (.inr ⟨h, h3⟩)
theorem delL_iff {L : List KV} {k : Int} {p : KV} : p ∈ delL L k ↔ p ∈ L /\ p.1 ≠ k := by
 unfold delL
 simp [List.mem_filter]
/-
  BtreeOrders, in plain Lean: how many pairs; never full.
-/
theorem getK_has {L : List KV} (hs : Srt L) {k : Int} (h : ∃ x ∈ L, x.1 = k) : ∃ v, getK L k = some v := by
 obtain ⟨⟨a, v⟩, hx, rfl⟩ := h
 exact ⟨v, getK_at hs hx⟩
theorem Root.pages {es : List Ent} {Q : Pgs} (hI : FInv es Q (fun _ => 0)) {a : Int} {L : List KV} {s : Nat} (h : Root Q a L s) : ∃ Z : List Int, 2 * Z.length <= s /\ (0 < heldOf Q a -> a ∈ Z) /\ ∀ b ∈ Z, ∀ g, VMap.get b Q = some g -> ∀ c ∈ g.n.kids, c ∈ Z := by
 rcases h.it with ⟨rfl, _, rfl⟩ | ⟨lv, hT, _, _⟩
 ·refine ⟨[], by simp, fun hp => ?_, fun b hb => by cases hb⟩
  obtain ⟨g, hg, _⟩ := heldOf_some hp
  rw [root_none hI] at hg
  cases hg
 ·obtain ⟨Z, h1, h2, h3⟩ := hT.pages hI
  exact ⟨Z, h1, fun _ => h2, h3⟩
/-
  Twin trees in one store that is never full.
-/
theorem oneAt_nn (a x : Int) : 0 <= oneAt a x := by
 unfold oneAt
 split <;> decide
theorem oneAt_pos {a x : Int} (h : 0 < oneAt a x) : x = a := by
 unfold oneAt at h
 split at h
 ·rename_i e; exact e.1
 ·cases h
/-
  Trees (layer 12): several trees in one store, in plain Lean.
-/
structure Tre where
 a : Int
 L : List KV
 s : Nat
def noTre : Tre := ⟨0, [], 0⟩
def heldBy : List Tre -> Int -> Int
 | [], _ => 0
 | t :: ts, x => oneAt t.a x + heldBy ts x
def weighs : List Tre -> Nat
 | [] => 0
 | t :: ts => t.s + weighs ts
structure Grove (Q : Pgs) (ts : List Tre) : Prop where
 live : Live Q
 root : ∀ t ∈ ts, Root Q t.a t.L t.s
 held : ∀ x, heldOf Q x = heldBy ts x
theorem heldBy_nn : ∀ (ts : List Tre) (x : Int), 0 <= heldBy ts x
 | [], _ => Int.le_refl 0
 | t :: ts, x => by
  have h1 := oneAt_nn t.a x
  have h2 := heldBy_nn ts x
  show 0 <= oneAt t.a x + heldBy ts x
  omega
theorem heldBy_mem {t : Tre} : ∀ {ts : List Tre}, t ∈ ts -> ∀ x, oneAt t.a x <= heldBy ts x
 | u :: ts, h, x => by
  have h1 := oneAt_nn u.a x
  have h2 := heldBy_nn ts x
  show _ <= oneAt u.a x + heldBy ts x
  rcases List.mem_cons.1 h with rfl | h
  ·omega
  ·have := heldBy_mem h x
   omega
theorem heldBy_zero : ∀ (ts : List Tre), heldBy ts 0 = 0
 | [] => rfl
 | t :: ts => by
  have h2 := heldBy_zero ts
  have h1 : oneAt t.a 0 = 0 := by
   unfold oneAt
   rw [if_neg]
   rintro ⟨h, h'⟩
   exact h' h.symm
  show oneAt t.a 0 + heldBy ts 0 = 0
  omega
theorem oneAt_self {a : Int} (h : a ≠ 0) : oneAt a a = 1 := by unfold oneAt; rw [if_pos ⟨rfl, h⟩]
theorem oneAt_none (x : Int) : oneAt 0 x = 0 := by unfold oneAt; rw [if_neg fun h => h.2 rfl]
theorem Root.stay {Q Q' : Pgs} {a : Int} {L : List KV} {s : Nat} (h : Root Q a L s) (hz : heldOf Q 0 = 0) (h0 : a ≠ 0 -> 0 < heldOf Q' a) (ht : ∀ lv, 0 < heldOf Q' a -> Tr Q lv a L s -> Tr Q' lv a L s) : Root Q' a L s := by
 rcases h.it with ⟨rfl, rfl, rfl⟩ | ⟨lv, hT, hs, hp⟩
 ·exact .nil _
 ·have ha : a ≠ 0 := by rintro rfl; omega
  exact ⟨.inr ⟨lv, ht lv (h0 ha) hT, hs, h0 ha⟩⟩
theorem Grove.nil : Grove [] [] := ⟨fun a g h => (nomatch h), fun t h => (nomatch h), fun _ => rfl⟩
theorem Grove.more {Q : Pgs} {ts : List Tre} (h : Grove Q ts) : Grove Q (noTre :: ts) :=
 ⟨h.live, fun t ht => by
  rcases List.mem_cons.1 ht with rfl | ht
  ·exact .nil _
  ·exact h.root t ht, fun x => by rw [h.held]; show _ = oneAt 0 x + _; rw [oneAt_none, Int.zero_add]⟩
theorem Grove.zero {Q : Pgs} {ts : List Tre} (h : Grove Q ts) : heldOf Q 0 = 0 := by rw [h.held, heldBy_zero]
theorem Grove.moved {Q Q' : Pgs} {t : Tre} {ts : List Tre} {ta : Int} {L' : List KV} {s' : Nat} (h : Grove Q (t :: ts)) (hL : Live Q') (hm : Moved Q Q' t.a ta) (hR : Root Q' ta L' s') : Grove Q' (⟨ta, L', s'⟩ :: ts) := by
 have hh : ∀ x, heldOf Q' x = oneAt ta x + heldBy ts x := fun x => by
  have h1 := hm.held x
  have h2 : heldOf Q x = oneAt t.a x + heldBy ts x := h.held x
  omega
 refine ⟨hL, fun u hu => ?_, hh⟩
 rcases List.mem_cons.1 hu with rfl | hu
 ·exact hR
 ·refine (h.root u (.tail _ hu)).stay h.zero (fun h0 => ?_) fun lv hp hT => hm.tree _ _ _ _ hp hT
  have h1 := heldBy_mem hu u.a
  have h2 := oneAt_nn ta u.a
  rw [oneAt_self h0] at h1
  rw [hh]
  omega
theorem Grove.pages {es : List Ent} {Q : Pgs} {ts : List Tre} (hI : FInv es Q (fun _ => 0)) (h : Grove Q ts) : 2 * Q.length <= weighs ts := by
 have key : ∀ us : List Tre, (∀ t ∈ us, Root Q t.a t.L t.s) -> ∃ Z : List Int, 2 * Z.length <= weighs us /\ (∀ t ∈ us, 0 < heldOf Q t.a -> t.a ∈ Z) /\ ∀ b ∈ Z, ∀ g, VMap.get b Q = some g -> ∀ c ∈ g.n.kids, c ∈ Z := by
  intro us
  induction us with
  | nil => exact fun _ => ⟨[], Nat.le_refl _, fun t h => (nomatch h), fun b h => (nomatch h)⟩
  | cons t us ih =>
   intro hr
   obtain ⟨Z, z1, z2, z3⟩ := ih fun u hu => hr u (.tail _ hu)
   obtain ⟨Y, y1, y2, y3⟩ := (hr t (.head _)).pages hI
   refine ⟨Y ++ Z, by rw [List.length_append]; show _ <= t.s + weighs us; omega, fun u hu hp => ?_, fun b hb g hg c hc => ?_⟩
   ·rcases List.mem_cons.1 hu with rfl | hu
    ·exact List.mem_append_left _ (y2 hp)
    ·exact List.mem_append_right _ (z2 u hu hp)
   ·rcases List.mem_append.1 hb with hb | hb
    ·exact List.mem_append_left _ (y3 b hb g hg c hc)
    ·exact List.mem_append_right _ (z3 b hb g hg c hc)
 obtain ⟨Z, z1, z2, z3⟩ := key ts h.root
 have hall := h.live.all hI (Z := Z) (fun x g hg hpos => by
  have h1 : 0 < heldOf Q x := by unfold heldOf; rw [hg]; exact hpos
  have h2 : 0 < heldBy ts x := by rw [<- h.held]; exact h1
  have who : ∀ us : List Tre, 0 < heldBy us x -> ∃ t ∈ us, t.a = x := by
   intro us
   induction us with
   | nil => intro h; exact absurd h (by simp [heldBy])
   | cons t us ih =>
    intro hp
    by_cases h1 : 0 < oneAt t.a x
    ·exact ⟨t, .head _, (oneAt_pos h1).symm⟩
    ·have h2 : 0 < oneAt t.a x + heldBy us x := hp
     obtain ⟨u, hu, e⟩ := ih (by omega)
     exact ⟨u, .tail _ hu, e⟩
  obtain ⟨t, ht, rfl⟩ := who ts h2
  exact z2 t ht h1) z3
 have := len_in hI.up hall
 omega
/-
  BtreeOrders, in plain Lean: what its last two loops do; a number stored in a row, in a region that draws its order.
-/
theorem Has.front {w : World} {l F : List Say} (h : Has w (l ++ F)) : Has w l := Has.right (m := F) (h.perm List.perm_append_comm)
theorem Tab.fr {l : List Say} (h : Tab l) (F : List Say) : Tab (l ++ F) := fun w hw => h w hw.front
section
variable {ops : Array Oper} {S : Nat -> World -> Prop} {live : Nat -> Nat -> Prop} {kd : Nat -> Kd} {k : Nat} {ord : List Nat} {a : Act} {L : List Say} {o : Oper} {w0 : World} {Q : Exit -> Act -> World -> Prop}
end
/-
  The statements of layer 12: scripts that lie wherever they lie; pairs appended to pairs; pages of items, in plain Lean.
-/
structure O4 where
 kd : Int
 tr : Int
 key : Int
 val : Int
def O4At (w : World) (g i : Nat) (o : O4) : Prop := w.cell? ⟨g, i, none⟩ = some (.int .i64 o.kd) /\ w.cell? ⟨g, i + 1, none⟩ = some (.int .i64 o.tr) /\ w.cell? ⟨g, i + 2, none⟩ = some (.int .i64 o.key) /\ w.cell? ⟨g, i + 3, none⟩ = some (.int .i64 o.val)
def O4Rd (w : World) (v : Value) (os : List O4) : Prop := ∃ a c, v = .slice a os.length c /\ ∀ k (hk : k < os.length), ∃ g o, a = some ⟨g, o, none⟩ /\ O4At w g (o + k * 4) os[k]
def O4Srcs (l : List Say) (v : Value) (os : List O4) : Prop := ∀ w, Has w l -> O4Rd w v os
theorem flat_cells1 (qs : List KV) : ∀ u ∈ qs.flatMap pairCells, u.oneCell' = true := fun u hu => by
 obtain ⟨p, _, hp⟩ := List.mem_flatMap.1 hu
 simp only [pairCells, List.mem_cons, List.not_mem_nil, or_false] at hp
 rcases hp with rfl | rfl <;> rfl
theorem flat_cells2 (qs : List KV) : (qs.flatMap pairCells).length = qs.length * 2 := by
 induction qs with
 | nil => rfl
 | cons q qs ih => rw [List.flatMap_cons, List.length_append, ih]; simp [pairCells]; omega
theorem run_append_pairs {w : World} {l : List Say} (ty : TypeId) {v x : Value} {ps qs : List KV} (h : Has w (pairsS v ps :: l)) (hm : pairsS x qs ∈ l) (hb : ps.length + qs.length <= 1000000) :
  ∃ v' w', (Builtin.append_ #[75, 75] ty #[v, x]).run Tryz.prog w = .ok v' w' /\ Kept w w' /\ Has w' (pairsS v' (ps ++ qs) :: l) := by
 obtain ⟨i0, I1, I2, I3, I4⟩ := info_parts info_pair
 obtain ⟨h1, h2⟩ := h.row_own (List.mem_cons_of_mem _ hm)
 rcases h2 with ⟨rfl, h0⟩ | ⟨g, cap, cur, rfl, _, hg, hn, hc, hs, ht⟩
 ·obtain rfl : qs = [] := List.eq_nil_of_length_eq_zero h0
  refine ⟨v, w, run_append_owned_none (P := Tryz.prog) (w := w) 0 75 ty 87 i0 2 Tryz.underlying75 I1 v ps.length (ps.flatMap pairCells) (h.row_own (.head _)), Kept.refl _, ?_⟩
  rw [List.append_nil]; exact h
 ·obtain ⟨v', w', hr2, hK, hh⟩ := run_append_row (P := Tryz.prog) 75 ty 87 i0 (.agg #[.int .i64 0, .int .i64 0]) 2 16 Tryz.underlying75 I1 I2 I3 I4 rfl (by decide) v ps.length (ps.flatMap pairCells) h ⟨g, 0, none⟩ qs.length cap (qs.flatMap pairCells) (flat_cells2 qs)
   (fun j u hu => by
    rw [Addr.add_lit, Nat.zero_add]
    refine cell_of hg j ?_
    have hj := (List.getElem?_eq_some_iff.1 hu).1
    rw [flat_cells2] at hj
    rw [<- ht, List.getElem?_take_of_lt hj] at hu
    simpa using hu) (flat_cells1 qs) (by simp [maxLen]; omega) (by omega)
  refine ⟨v', w', hr2, hK, ?_⟩
  rw [pairsS, List.length_append, List.flatMap_append]; exact hh
theorem wpList_append_pairs {w : World} {l : List Say} {ops : Array Oper} {rest : List Oper} {o : Oper} {a : Act} {Q : Exit -> Act -> World -> Prop} (hgd : o.guard = none) (s x : Operand)
  (ho : o.op = .call { callee := .builtin .append, args := #[s, x], argTypes := #[75, 75] })
  {v vx : Value} {ps qs : List KV} (hv : a.eval s = v) (hx : a.eval x = vx) (h : Has w (pairsS v ps :: l)) (hm : pairsS vx qs ∈ l) (hb : ps.length + qs.length <= 1000000)
  (hk : ∀ v' w', Kept w w' -> Has w' (pairsS v' (ps ++ qs) :: l) -> wpList Tryz.prog ops Q rest (a.put o.dst v') w') : wpList Tryz.prog ops Q (o :: rest) a w := by
 refine wpList_plain hgd fun K hK => ?_
 obtain ⟨v', w', hr, h2, h3⟩ := run_append_pairs o.type h hm hb
 unfold Oper.wp execOp
 simp only [ho, resolve, invoke, builtin, Sem.run_bind, Sem.run_pure, Result.andThen_ok, List.map_toArray, List.map_cons, List.map_nil, hv, hx, hr]
 exact hK _ _ (hk v' w' h2 h3)
theorem Root.bound {es : List Ent} {Q : Pgs} {D : Int -> Nat} (hI : FInv es Q D) {a : Int} {L : List KV} {s : Nat} (h : Root Q a L s) : ∀ p ∈ L, 0 <= p.1 /\ p.1 <= 1099511627776 := by
 rcases h.it with ⟨_, rfl, _⟩ | ⟨lv, hT, _, _⟩
 ·intro p hp; cases hp
 ·intro p hp
  have := hT.right hI p hp
  unfold pairOk at this
  simp only [Bool.and_eq_true, decide_eq_true_eq] at this
  omega
end Go.Proofs.YtgbgneiciabidaaGreatDoor
/-
  DERIVED: THE SHELF's CONTRACTS AT THIS DUMP, IN PLAIN WORDS (tools/lay-plain.mjs out of 'YtgbgneiciabidaaGreatDoorKeysVL.lean', which tools/lay-shelf.mjs wrote): THE SAME DECLARATIONS UNDER THE SAME NAMES: 'import', 'namespace', 'open', 'def', 'theorem' AND NOTHING ELSE: no command of the shelf's: FOR A HAND-IN. Each laying: the table of numbers ('.._ren') and one theorem, a field a fact of the dump's own or the kernel's comparison; each contract: ONE APPLICATION.
-/
namespace Go.Proofs
open Go.Shelf
set_option linter.all false
set_option maxHeartbeats 8000000
def Tryz.keysV_ren : Go.Shelf.Ren := ⟨fun | 7 => 115 | 10 => 173 | n => n, fun | 23 => 199 | 26 => 3 | 3 => 106 | 28 => 168 | 0 => 0 | 27 => 167 | 33 => 63 | 4 => 4 | n => n, fun | n => n⟩
theorem Tryz.keysV : Go.Proofs.SlLaysZI.n7 Tryz.prog Tryz.keysV_ren := {
 mixed := by kernel_rfl
 f7 := ⟨Tryz.f115.name, by decide, Tryz.func115.trans (congrArg some (by kernel_rfl))⟩
 f10 := ⟨Tryz.f173.name, by decide, Tryz.func173.trans (congrArg some (by kernel_rfl))⟩
 t0 := Tryz.underlying0
 a0 := Tryz.isAgg0
 z0 := Tryz.sizeOf0
 v0 := Tryz.zeroValue0
 t4 := Tryz.underlying4
 a4 := Tryz.isAgg4
 z4 := Tryz.sizeOf4
 v4 := Tryz.zeroValue4
 t23 := Tryz.underlying199
 a23 := Tryz.isAgg199
 z23 := Tryz.sizeOf199
 v23 := Tryz.zeroValue199
 t26 := Tryz.underlying3
 a26 := Tryz.isAgg3
 z26 := Tryz.sizeOf3
 v26 := Tryz.zeroValue3
 t27 := Tryz.underlying167
 a27 := Tryz.isAgg167
 z27 := Tryz.sizeOf167
 v27 := Tryz.zeroValue167
 t28 := Tryz.underlying168
 a28 := Tryz.isAgg168
 z28 := Tryz.sizeOf168
 v28 := Tryz.zeroValue168
 t33 := Tryz.underlying63
 a33 := Tryz.isAgg63
 z33 := Tryz.sizeOf63
 v33 := Tryz.zeroValue63 }
end Go.Proofs
/-
  Volumes (layer 13): are they right, and what pairs they are.
-/
namespace Go.Proofs.YtgbgneiciabidaaGreatDoor
open Go Go.RowKit Go.ChangeMaps Go.Maps
open Go.WideElems (Fit rd rg pl)
set_option linter.all false
set_option maxHeartbeats 8000000
structure Vl where
 id : Int
 size : Int
 root : Int
 origin : Int
def Vl.val (v : Vl) : Value := .agg #[.int .i64 v.id, .int .i64 v.size, .int .i64 v.root, .int .i64 v.origin]
def Vl.cells (v : Vl) : List Value := [.int .i64 v.id, .int .i64 v.size, .int .i64 v.root, .int .i64 v.origin]
def Vl.right (v : Vl) : Bool := decide (1 <= v.id) && decide (v.id <= 1048576) && decide (1 <= v.size) && decide (v.size <= 1048576) && decide (0 <= v.root) && decide (v.root <= 2305843009213693952) && decide (0 <= v.origin) && decide (v.origin <= 1048576)
def Vl.pairs (v : Vl) : List KV := (v.id * 4, v.size) :: ((if v.root = 0 then [] else [(v.id * 4 + 1, v.root)]) ++ (if v.origin = 0 then [] else [(v.id * 4 + 2, v.origin)]))
def volZero : Value := .agg #[.int .i64 0, .int .i64 0, .int .i64 0, .int .i64 0]
theorem vol_right (v : Vl) (w : World) : Calls Tryz.prog 111 #[v.val] w fun r w' => r = .returned (.bool v.right) /\ Below w.heap.size w w' := by
 obtain ⟨id, size, root, origin⟩ := v
 unfold Vl.val
 by_cases h1 : 1 <= id
 ·skip
  by_cases h2 : id <= 1048576
  ·skip
   by_cases h3 : 1 <= size
   ·skip
    by_cases h4 : size <= 1048576
    ·skip
     by_cases h5 : 0 <= root
     ·skip
      by_cases h6 : root <= 2305843009213693952
      ·skip
       by_cases h7 : 0 <= origin
       ·skip
        by_cases h8 : origin <= 1048576
        ·skip
         go_enter Tryz.func111, Tryz.ntmps111
         go_wp2
         go_ret
         exact ⟨by simp [Vl.right, h1, h2, h3, h4, h5, h6, h7, h8], (Below.refl _ _).alloc (Nat.le_refl _) _⟩
        ·skip
         go_enter Tryz.func111, Tryz.ntmps111
         go_wp2
         go_ret
         exact ⟨by simp [Vl.right]; omega, (Below.refl _ _).alloc (Nat.le_refl _) _⟩
       ·skip
        go_enter Tryz.func111, Tryz.ntmps111
        go_wp2
        go_ret
        exact ⟨by simp [Vl.right]; omega, (Below.refl _ _).alloc (Nat.le_refl _) _⟩
      ·skip
       go_enter Tryz.func111, Tryz.ntmps111
       go_wp2
       go_ret
       exact ⟨by simp [Vl.right]; omega, (Below.refl _ _).alloc (Nat.le_refl _) _⟩
     ·skip
      go_enter Tryz.func111, Tryz.ntmps111
      go_wp2
      go_ret
      exact ⟨by simp [Vl.right]; omega, (Below.refl _ _).alloc (Nat.le_refl _) _⟩
    ·skip
     go_enter Tryz.func111, Tryz.ntmps111
     go_wp2
     go_ret
     exact ⟨by simp [Vl.right]; omega, (Below.refl _ _).alloc (Nat.le_refl _) _⟩
   ·skip
    go_enter Tryz.func111, Tryz.ntmps111
    go_wp2
    go_ret
    exact ⟨by simp [Vl.right]; omega, (Below.refl _ _).alloc (Nat.le_refl _) _⟩
  ·skip
   go_enter Tryz.func111, Tryz.ntmps111
   go_wp2
   go_ret
   exact ⟨by simp [Vl.right]; omega, (Below.refl _ _).alloc (Nat.le_refl _) _⟩
 ·skip
  go_enter Tryz.func111, Tryz.ntmps111
  go_wp2
  go_ret
  exact ⟨by simp [Vl.right]; omega, (Below.refl _ _).alloc (Nat.le_refl _) _⟩
/-! A map of volumes. -/
def vmapS (b : Nat) (M : List (Int × Vl)) : Say := mapS b M.length (VMap.over Vl.val M)
set_option maxRecDepth 100000 in
theorem info_vol : (Tryz.prog.info? 106).map (fun i => (i.zero, i.size, i.bytes)) = some (some volZero, 4, 32) := by kernel_rfl
theorem vol_zero (w : World) : (zeroValue 106).run Tryz.prog w = .ok volZero w := by
 obtain ⟨i0, I1, I2, I3, I4⟩ := info_parts info_vol
 simp [zeroValue, typeInfo, I1, I2, volZero, go_sem]
theorem vmap_made {w : World} {l : List Say} (h : Has w l) : Has (w.alloc (.map #[] 0)) (vmapS w.heap.size [] :: l) := map_made h
theorem vmap_own {w : World} {l : List Say} {b : Nat} {M : List (Int × Vl)} (h : Has w l) (hm : vmapS b M ∈ l) : w.ownsMap Tryz.prog 3 heldR b M.length (.map ((VMap.over Vl.val M).map litE)) := h.map_own hm
theorem vmap_look {w : World} {l : List Say} {b : Nat} {M : List (Int × Vl)} (ok : Bool) (h : Has w l) (hm : vmapS b M ∈ l) (a : Int) (h0 : -9223372036854775808 <= a) (h1 : a <= 9223372036854775807) :
  (Instr.lookup 199 (.map (some b)) (.int .i64 a) ok).run Tryz.prog w = .ok (if ok then .tuple #[((VMap.get a M).map Vl.val).getD volZero, .bool (VMap.get a M).isSome] else ((VMap.get a M).map Vl.val).getD volZero) w := by
 obtain ⟨es, clock, hb, F, hs, hD⟩ := h.map_own hm
 have hD' : (VMap.over Vl.val M).map litE = (es.toList.map (rg Tryz.prog 3 heldR)).foldr DataW.insert [] := by injection hD
 have hg0 := VMap.get_over Vl.val a M
 rcases Maps.fit_look ok (int_keyed Tryz.underlying3) Tryz.underlying199 (vol_zero w) hb F (map_key a h0 h1) with ⟨hrun, _, hat⟩ | ⟨e0, y, _, _, hrun, hRv, hat, _⟩
 ·rw [hrun]
  have h2 := hat .nil
  rw [<- hD', atKey_lit, hg0] at h2
  cases hg : VMap.get a M with
  | none => rfl
  | some v => rw [hg] at h2; cases h2
 ·rw [hrun]
  have h2 := hat .nil
  rw [<- hD', atKey_lit, hg0] at h2
  cases hRv
  cases hg : VMap.get a M with
  | none => rw [hg] at h2; cases h2
  | some v =>
   rw [hg] at h2
   have h3 : (DataW.held v.val : DataW Value) = .held e0.2 := h2
   have h4 : v.val = e0.2 := DataW.held.inj h3
   rw [<- h4]
   rfl
theorem vmap_len {w : World} {l : List Say} {b : Nat} {M : List (Int × Vl)} (h : Has w l) (hm : vmapS b M ∈ l) (ty : TypeId) : (Builtin.len_ #[199] ty #[.map (some b)]).run Tryz.prog w = .ok (.int .i64 (M.length : Int)) w := by
 rw [(vmap_own h hm).len Tryz.underlying199 ty]
 simp [Maps.size, VMap.over]
theorem vmap_store {w : World} {l : List Say} {b : Nat} {M : List (Int × Vl)} (h : Has w (vmapS b M :: l)) (hn : M.length < maxLen) (a : Int) (h0 : -9223372036854775808 <= a) (h1 : a <= 9223372036854775807) (v : Vl) :
  ∃ w', (Instr.mapUpdate 199 (.map (some b)) (.int .i64 a) v.val).run Tryz.prog w = .ok () w' /\ Kept w w' /\ Has w' (vmapS b (VMap.put a v M) :: l) := by
 obtain ⟨es, clock, F, hs, hD, hh⟩ := Has.map_open h
 obtain ⟨es', clock', hrun, F', hput, _⟩ := Maps.fit_store (R' := heldR) (int_keyed Tryz.underlying3) Tryz.underlying199 hh.got F (Nat.lt_of_le_of_lt hs hn) (fun _ _ _ _ hz => hz) (map_key a h0 h1) (val := v.val) rfl
 refine ⟨_, hrun, ⟨rfl, rfl, rfl, by simp [setBlock]⟩, ?_⟩
 have h2 : Has (setBlock w b (.map es' clock')) (pts b (.map es' clock') :: l) := Sep.put hh (heap_setBlock_same hh.got _) fun k hk => heap_setBlock_other hh.got _ hk
 have hE : (VMap.over Vl.val (VMap.put a v M)).map litE = (es'.toList.map (rg Tryz.prog 3 heldR)).foldr DataW.insert [] := by
  rw [VMap.over_put, litE_put, hput, hD]
 refine h2.head fun g hg => ⟨es', clock', hg, F', ?_, hE⟩
 have e1 : es'.size = ((es'.toList.map (rg Tryz.prog 3 heldR)).foldr DataW.insert []).length := by rw [length_sorted]; simp
 rw [e1, <- hE]
 unfold VMap.over
 simp
theorem vmap_drop {w : World} {l : List Say} {b : Nat} {M : List (Int × Vl)} (h : Has w (vmapS b M :: l)) (a : Int) (h0 : -9223372036854775808 <= a) (h1 : a <= 9223372036854775807) (ty : TypeId) :
  ∃ w', (Builtin.delete_ #[199, 3] ty #[.map (some b), .int .i64 a]).run Tryz.prog w = .ok (.tuple #[]) w' /\ Kept w w' /\ Has w' (vmapS b (VMap.del a M) :: l) := by
 obtain ⟨es, clock, F, hs, hD, hh⟩ := Has.map_open h
 obtain ⟨es', hrun, F', hsz, hdel, _⟩ := Maps.fit_drop (ty := ty) (int_keyed Tryz.underlying3) Tryz.underlying199 hh.got F (map_key a h0 h1)
 refine ⟨_, hrun, ⟨rfl, rfl, rfl, by simp [setBlock]⟩, ?_⟩
 have h2 : Has (setBlock w b (.map es' clock)) (pts b (.map es' clock) :: l) := Sep.put hh (heap_setBlock_same hh.got _) fun k hk => heap_setBlock_other hh.got _ hk
 have hE : (VMap.over Vl.val (VMap.del a M)).map litE = (es'.toList.map (rg Tryz.prog 3 heldR)).foldr DataW.insert [] := by
  rw [VMap.over_del, litE_del, hdel, hD]
  rfl
 refine h2.head fun g hg => ⟨es', clock, hg, F', ?_, hE⟩
 have e1 : es'.size = ((es'.toList.map (rg Tryz.prog 3 heldR)).foldr DataW.insert []).length := by rw [length_sorted]; simp
 rw [e1, <- hE]
 unfold VMap.over
 simp
end Go.Proofs.YtgbgneiciabidaaGreatDoor
