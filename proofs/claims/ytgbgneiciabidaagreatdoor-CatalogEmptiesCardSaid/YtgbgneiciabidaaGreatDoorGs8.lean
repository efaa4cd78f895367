/-
  slices.Sorted(maps.Keys(m)) at the map of pages.
-/
import Derived.Test.YtgbgneiciabidaaGreatDoorGs2
import Derived.Test.YtgbgneiciabidaaGreatDoorGs7
import Derived.Test.YtgbgneiciabidaaGreatDoorGs1
import Derived.StillTailTactics
namespace Go.Proofs
open Go.RowKit Go.Maps Go.Sort Go.Shelf
set_option linter.all false
set_option maxHeartbeats 8000000
theorem Tryz.sortsA (m : Nat) : AnyZI.SortsIn Tryz.prog Tryz.sortedA_ren Fence.wide m :=
  ⟨fun blk off cap ss W hH hblk hsz => callsIn_wide.2 (AnyM.slices_Sort_int Tryz.sortA blk off cap ss W hH hblk hsz),
   fun p cap W => callsIn_wide.2 (AnyM.slices_Sort_int_none Tryz.sortA p cap W)⟩
theorem Tryz.keys_call (mb : Option Nat) (W : World) : Calls Tryz.prog 89 #[.map mb] W fun e w' => e = .returned (.func (.func 154) #[] #[.pointer (some ⟨W.heap.size, 0, none⟩)]) /\ w' = W.alloc (.cells #[.map mb] 145) :=
 (callsIn_wide (n := 5)).1 (AnyZI.keys_in Tryz.keysA Fence.wide 5 trivial rfl mb W)
def Tryz.SortedPost {H : Type} (D0 : DataW H) (W : World) (e : Ending) (w' : World) : Prop :=
 ∃ (v : Value) (ss : List Int), e = .returned v /\ ss.Perm (intKeys D0) /\ w'.ownsRow W.heap.size 3 1 v ss.length ((ss.mergeSort (fun x y => decide (x <= y))).map encZ) /\ Below W.heap.size W w'
theorem Tryz.sorted_call {H : Type} (b nn : Nat) (D0 : DataW H) (R : Value -> Option (DataW H × List MemPlace)) (w : World) (hown : w.ownsMap Tryz.prog 3 R b nn D0) (hmax : Maps.size D0 <= maxLen) (hbytes : Maps.size D0 * 8 <= 140737488355328) :
  Calls Tryz.prog 88 #[.func (.func 154) #[] #[.pointer (some ⟨w.heap.size, 0, none⟩)]] (w.alloc (.cells #[.map (some b)] 145)) (Tryz.SortedPost D0 (w.alloc (.cells #[.map (some b)] 145))) := by
 have hbl := hown.lt
 have hseq : SeqGives Fence.wide 2 Tryz.prog 154 #[.pointer (some ⟨w.heap.size, 0, none⟩)] encZ (fun ss => ss.Perm (intKeys D0)) (Maps.size D0) (w.alloc (.cells #[.map (some b)] 145)) :=
  AnyZI.keys_gives (ρ := Tryz.keysA_ren) { Tryz.keysA with } Fence.wide _ trivial rfl (by omega) w.heap.size b nn D0 _ (by simp) (by simp) (by
   obtain ⟨es, clock, hb, Ft, hs, hD⟩ := hown
   exact ⟨es, clock, (Below.heap_alloc _ _ b hbl).trans hb, Ft, hs, hD⟩)
 refine (callsIn_wide (n := 5)).1 ?_
 have cS := AnyZI.sorted_in Tryz.sortedA Fence.wide 5 trivial trivial trivial trivial rfl (by omega) (Tryz.sortsA _) (enters_of Tryz.func153 (by kernel_rfl) rfl) 154 #[.pointer (some ⟨w.heap.size, 0, none⟩)] trivial (enters_of Tryz.func154 (by kernel_rfl) rfl) _ _ hmax hbytes _ hseq
 refine cS.mono ?_
 rintro e w' ⟨v, ss, rfl, hS, hrow, hnil, hb⟩
 exact ⟨v, ss, rfl, hS, hrow, hb⟩
end Go.Proofs
/-
  Pages (layer 11), the second part: the store; New, kids, Pages.
-/
namespace Go.Proofs.YtgbgneiciabidaaGreatDoor
open Go Go.RowKit
set_option linter.all false
set_option maxHeartbeats 8000000
structure Pg where
 n : Nd
 holds : Int
 held : Int
structure Sl where
 pg : Pg
 kv : Value
 vv : Value
def Sl.val (t : Sl) : Value := .agg #[.int .i64 t.pg.n.level, t.kv, t.vv, .int .i64 t.pg.holds, .int .i64 t.pg.held]
def Sl.rows (t : Sl) : List Say := [intsS t.kv t.pg.n.keys, intsS t.vv t.pg.n.vals]
def pool (T : List (Int × Sl)) : List Say := T.map fun p => all p.2.rows
structure StAt where
 mb : Nat
 T : List (Int × Sl)
abbrev Pgs := List (Int × Pg)
structure StOk (Q : Pgs) (x : StAt) : Prop where
 eq : VMap.over Sl.pg x.T = Q
 up : VMap.Up x.T
 bd : ∀ p ∈ Q, 0 <= p.1 /\ p.1 < 32768
 ok : ∀ p ∈ Q, p.2.n.ok = true
def storeCell (p bank sp mb : Nat) : Say := pts p (.cells #[.pointer (some ⟨bank, 0, none⟩), .pointer (some ⟨sp, 0, none⟩), .map (some mb), .map none] 147 (0, 0))
def storeFlat (p bank sp n : Nat) (x : StAt) : List Say := storeCell p bank sp x.mb :: mapS x.mb n (VMap.over Sl.val x.T) :: pool x.T
def storeS (p bank sp n : Nat) (Q : Pgs) : Say := ex fun x : StAt => fact (StOk Q x) (all (storeFlat p bank sp n x))
theorem Has.st_open {w : World} {l : List Say} {p bank sp n : Nat} {Q : Pgs} (h : Has w (storeS p bank sp n Q :: l)) : ∃ x, StOk Q x /\ Has w (storeFlat p bank sp n x ++ l) := by
 obtain ⟨x, h⟩ := h.opened
 obtain ⟨ok, h⟩ := h.unfact
 exact ⟨x, ok, h.split⟩
theorem Has.st_shut {w : World} {l : List Say} {p bank sp n : Nat} {Q : Pgs} {x : StAt} (ok : StOk Q x) (h : Has w (storeFlat p bank sp n x ++ l)) : Has w (storeS p bank sp n Q :: l) := Has.chosen x (Has.tofact ok h.unite)
def StNew (bank sp : Nat) (l : List Say) (w : World) (r : Ending) (w' : World) : Prop := ∃ p, r = .returned (.pointer (some ⟨p, 0, none⟩)) /\ Kept w w' /\ Has w' (storeS p bank sp 0 [] :: l)
theorem st_New {w : World} {l : List Say} (h : Has w l) (bank sp : Nat) : Calls Tryz.prog 31 #[.pointer (some ⟨bank, 0, none⟩), .pointer (some ⟨sp, 0, none⟩)] w (StNew bank sp l w) := by
 have h1 := map_made h
 have h2 := h1.alloc (.cells #[.pointer (some ⟨bank, 0, none⟩), .pointer (some ⟨sp, 0, none⟩), .map (some w.heap.size), .map none] 147)
 simp only [World.size_alloc] at h2
 have HB := Lib.hid (Has.st_shut (p := w.heap.size + 1) (bank := bank) (sp := sp) (n := 0) (Q := []) (x := ⟨w.heap.size, []⟩) ⟨rfl, List.Pairwise.nil, by simp, by simp⟩ h2)
 have hmm := @run_makeMap Tryz.prog
 clear h h1 h2
 go_enter Tryz.func31, Tryz.ntmps31
 go_wp2
 go_ret
 exact ⟨_, rfl, ((Kept.refl w).alloc _).alloc _, HB.out⟩
theorem Has.fresh_row {w w' : World} {l : List Say} (h : Has w l) (hb : Below w.heap.size w w') {e : TypeId} {size : Nat} {v : Value} {n : Nat} {xs : List Value} (ho : w'.ownsRow w.heap.size e size v n xs) : Has w' (rowS e size v n xs :: l) := by
 have hl3 : Has w' l := h.below hb
 rcases ho.2 with ⟨rfl, hn⟩ | ⟨g, cap, cur, rfl, hbg, hgg, r⟩
 ·exact ⟨fun _ => none, fun k => w'.heap[k]?, ⟨ho.1, .inl ⟨rfl, hn⟩⟩, hl3, by simp, by simp⟩
 ·have h4 : Sep (fun k => if k < w.heap.size then w.heap[k]? else none) l := Sep.up h fun k hk => by
   rcases Nat.lt_or_ge k w.heap.size with hlt | hge
   ·simp [hlt]
   ·exact absurd (Array.getElem?_eq_none hge) hk
  refine ⟨fun k => if k = g then w'.heap[g]? else none, _, ⟨ho.1, .inr ⟨g, cap, cur, rfl, by simp [hgg], r⟩⟩, h4, fun k hk => ?_, fun k hk => ?_⟩
  ·by_cases e1 : k = g
   ·subst e1; exact ⟨by simp, by simp; omega⟩
   ·simp [e1] at hk
  ·by_cases hlt : k < w.heap.size
   ·simp only [hlt, if_true]; exact hb.block k hlt
   ·simp [hlt] at hk
theorem sorted_unique : ∀ {a b : List Int}, a.Perm b -> a.Pairwise (· <= ·) -> b.Pairwise (· <= ·) -> a = b
 | [], b, hp, _, _ => (List.nil_perm.1 hp).symm
 | x :: a, [], hp, _, _ => by simp at hp
 | x :: a, y :: b, hp, ha, hb => by
  obtain ⟨a1, a2⟩ := List.pairwise_cons.1 ha
  obtain ⟨b1, b2⟩ := List.pairwise_cons.1 hb
  have hx : x ∈ y :: b := hp.mem_iff.1 (by simp)
  have hy : y ∈ x :: a := hp.mem_iff.2 (by simp)
  have e : x = y := by
   rcases List.mem_cons.1 hx with h | h
   ·exact h
   ·rcases List.mem_cons.1 hy with h' | h'
    ·exact h'.symm
    ·have := b1 x h; have := a1 y h'; omega
  subst e
  rw [sorted_unique (List.Perm.cons_inv hp) a2 b2]
theorem sorted_is {ss ks : List Int} (hp : ss.Perm ks) (hk : ks.Pairwise (· < ·)) : ss.mergeSort (fun x y => decide (x <= y)) = ks := by
 refine sorted_unique ((List.mergeSort_perm ss _).trans hp) ?_ (hk.imp fun h => Int.le_of_lt h)
 have := List.pairwise_mergeSort (le := fun x y : Int => decide (x <= y)) (by intro a b c; simp; omega) (by intro a b; simp; omega) ss
 exact this.imp fun h => by simpa using h
def PagesPost (Q : Pgs) (l : List Say) (w : World) (r : Ending) (w' : World) : Prop := ∃ v, r = .returned v /\ Kept w w' /\ Has w' (intsS v (Q.map (·.1)) :: l)
theorem st_Pages {w : World} {l : List Say} {p bank sp n : Nat} {Q : Pgs} (h : Has w (storeS p bank sp n Q :: l)) (hn : Q.length <= 100000) :
  Calls Tryz.prog 25 #[.pointer (some ⟨p, 0, none⟩)] w (PagesPost Q (storeS p bank sp n Q :: l) w) := by
 obtain ⟨x, ok, hh⟩ := h.st_open
 have hp : w.heap[p]? = some (.cells #[.pointer (some ⟨bank, 0, none⟩), .pointer (some ⟨sp, 0, none⟩), .map (some x.mb), .map none] 147 (0, 0)) := hh.got
 have c2 : w.cell? ⟨p, 2, none⟩ = some (.map (some x.mb)) := cell_of hp 2 rfl
 have l0 := World.block_lt_of_cell? _ _ c2
 have hown := hh.map_own (b := x.mb) (n := n) (M := VMap.over Sl.val x.T) (by simp [storeFlat])
 have hkeys : intKeys (DataW.map ((VMap.over Sl.val x.T).map litE)) = Q.map (·.1) := by
  rw [<- ok.eq]
  simp [intKeys, VMap.over, litE, List.map_map, Function.comp]
  intros; rfl
 have hsz : Maps.size (DataW.map ((VMap.over Sl.val x.T).map litE)) <= 100000 := by
  have e : Maps.size (DataW.map ((VMap.over Sl.val x.T).map litE)) = Q.length := by rw [<- ok.eq]; simp [Maps.size, VMap.over]
  rw [e]; exact hn
 have HS := Lib.hid (Tryz.sorted_call x.mb n _ heldR w hown (by simp [maxLen]; omega) (by omega))
 have hup : (Q.map (·.1)).Pairwise (· < ·) := by
  rw [<- ok.eq]
  simp only [VMap.over, List.map_map]
  exact List.pairwise_map.2 ok.up
 have HU : Hid ((∀ ss : List Int, ss.Perm (intKeys (DataW.map ((VMap.over Sl.val x.T).map litE))) -> ss.mergeSort (fun x y => decide (x <= y)) = Q.map (·.1)) /\ ∀ ss : List Int, ss.Perm (intKeys (DataW.map ((VMap.over Sl.val x.T).map litE))) -> ss.length = (Q.map (·.1)).length) :=
  ⟨fun ss hs => sorted_is (hkeys ▸ hs) hup, fun ss hs => by rw [<- hkeys]; exact hs.length_eq⟩
 have H0 := Lib.hid h
 clear h hh hp hown hkeys hsz hup hn ok
 go_enter Tryz.func25, Tryz.ntmps25
 go_wp2_with fail
 refine (Tryz.keys_call _ _).mono ?_
 rintro r w1 ⟨rfl, rfl⟩
 go_wp2_with fail
 refine HS.out.mono ?_
 rintro r w2 ⟨v, ss, rfl, hs, hrow, hb⟩
 have HF : Hid (Kept w w2 /\ Has w2 (intsS v (Q.map (·.1)) :: storeS p bank sp n Q :: l)) := by
  refine ⟨((Kept.refl w).alloc _).trans (Kept.below hb), ?_⟩
  rw [HU.out.1 ss hs, HU.out.2 ss hs] at hrow
  exact (H0.out.alloc_off _).fresh_row hb hrow
 clear hrow hb hs HS H0 HU
 go_wp2
 go_ret
 exact ⟨_, rfl, HF.out.1, HF.out.2⟩
/-
  Pages (layer 11), the third part: what a node names.
-/
def Nd.kids (n : Nd) : List Int := if n.level = 0 then [] else n.vals
def Nd.kidsV (n : Nd) (vv : Value) : Value := if n.level = 0 then .slice none 0 0 else vv
theorem node_kids {w : World} (n : Nd) (kv vv : Value) : Calls Tryz.prog 82 #[n.val kv vv] w fun r w' => r = .returned (n.kidsV vv) /\ Below w.heap.size w w' := by
 obtain ⟨lv, ks, vs⟩ := n
 have hbox : Below w.heap.size w (w.alloc (.cells #[.int .i64 lv, kv, vv] 35)) := (Below.refl _ _).alloc (Nat.le_refl _) _
 have c0 : (w.alloc (.cells #[.int .i64 lv, kv, vv] 35)).cell? ⟨w.heap.size, 0, none⟩ = some (.int .i64 lv) := World.cell?_alloc_new _ _ _ 0
 have c2 : (w.alloc (.cells #[.int .i64 lv, kv, vv] 35)).cell? ⟨w.heap.size, 2, none⟩ = some vv := World.cell?_alloc_new _ _ _ 2
 have HB := Lib.hid hbox
 clear hbox
 simp only [Nd.val, Nd.kidsV]
 go_enter Tryz.func82, Tryz.ntmps82
 go_upto_region 1 with fail
 generalize w.alloc (.cells #[.int .i64 lv, kv, vv] 35) = W at *
 by_cases h0 : lv = 0
 ·subst h0
  go_wp2
  go_ret
  exact ⟨by simp, HB.out⟩
 ·have hb : (lv == 0) = false := by simpa using h0
  have H0 := Lib.hid h0
  clear h0
  go_wp2
  go_ret
  exact ⟨rfl, HB.out⟩
theorem may_named1 : May 140 := ⟨Tryz.f140, Tryz.func140, by kernel_rfl, by kernel_rfl⟩
theorem info_node : (Tryz.prog.info? 35).map (fun i => (i.zero, i.size, i.bytes)) = some (some (.agg #[.int .i64 0, .slice none 0 0, .slice none 0 0]), 3, 56) := by kernel_rfl
theorem field_node (L : Int) (a b c d : Value) (W : World) : (Instr.field 153 (.agg #[.int .i64 L, a, b, c, d]) 0).run Tryz.prog W = .ok (.agg #[.int .i64 L, a, b]) W := by
 obtain ⟨i0, I1, I2, I3, I4⟩ := info_parts info_node
 simp [Instr.field, run_underlying Tryz.underlying153, part, typeInfo, sizeOf, I1, I3, asAgg, Result.andThen, go_sem]
theorem field_lv (L : Int) (a b : Value) (W : World) : (Instr.field 35 (.agg #[.int .i64 L, a, b]) 0).run Tryz.prog W = .ok (.int .i64 L) W := by
 simp [Instr.field, run_underlying Tryz.underlying35, part, typeInfo, sizeOf, asAgg, Result.andThen, go_sem]
def lvOf (Q : Pgs) (k : Int) : Int := ((VMap.get k Q).map fun g => g.n.level).getD 0
theorem page_lv (T : List (Int × Sl)) (k : Int) : ∃ a b c d, (VMap.get k (VMap.over Sl.val T)).getD pageZero = .agg #[.int .i64 (lvOf (VMap.over Sl.pg T) k), a, b, c, d] := by
 unfold lvOf
 rw [VMap.get_over, VMap.get_over]
 cases VMap.get k T with
 | none => exact ⟨_, _, _, _, rfl⟩
 | some t => exact ⟨_, _, _, _, rfl⟩
theorem named_at {W : World} {b2 b3 p mb : Nat} {lv : Int} (T : List (Int × Sl)) (k : Int) (h0 : 0 <= lv) (h1 : lv <= 20)
  (c2 : W.cell? ⟨b2, 0, none⟩ = some (.pointer (some ⟨p, 0, none⟩))) (c3 : W.cell? ⟨b3, 0, none⟩ = some (.int .i64 lv)) (cp : W.cell? ⟨p, 2, none⟩ = some (.map (some mb)))
  (hl : ∀ n, (Instr.lookup 145 (.map (some mb)) (.int .i64 k) false).run Tryz.prog (W.drewN n) = .ok ((VMap.get k (VMap.over Sl.val T)).getD pageZero) (W.drewN n)) (m : Nat) :
  Calls Tryz.prog 140 #[.int .i64 k, .pointer (some ⟨b2, 0, none⟩), .pointer (some ⟨b3, 0, none⟩)] (W.drewN m) fun e w' => e = .returned (.bool (!(lvOf (VMap.over Sl.pg T) k == lv - 1))) /\ ∃ m', w' = W.drewN m' := by
 obtain ⟨a, b, c, d, he⟩ := page_lv T k
 rw [he] at hl
 have hl' : ∀ n, (Instr.lookup 145 (.map (some mb)) (.int .i64 k) false).run Tryz.prog ((W.drewN m).drewN n) = .ok (.agg #[.int .i64 (lvOf (VMap.over Sl.pg T) k), a, b, c, d]) ((W.drewN m).drewN n) := fun n => by
  rw [World.drewN_drewN]; exact hl _
 have c2' : (W.drewN m).cell? ⟨b2, 0, none⟩ = some (.pointer (some ⟨p, 0, none⟩)) := c2
 have c3' : (W.drewN m).cell? ⟨b3, 0, none⟩ = some (.int .i64 lv) := c3
 have cp' : (W.drewN m).cell? ⟨p, 2, none⟩ = some (.map (some mb)) := cp
 have HW : Hid (∀ n, (W.drewN m).drewN n = W.drewN (m + n)) := fun n => World.drewN_drewN _ _ _
 have hf1 := field_node (lvOf (VMap.over Sl.pg T) k) a b c d
 have hf2 := field_lv (lvOf (VMap.over Sl.pg T) k) a b
 have l0 := World.block_lt_of_cell? _ _ cp'
 have hs : IntKind.i64.wrap (lv - 1) = lv - 1 := by rw [IntKind.wrap_i64]; omega
 generalize lvOf (VMap.over Sl.pg T) k = L at *
 clear hl c2 c3 cp he
 generalize hWm : W.drewN m = V at *
 go_enter Tryz.func140, Tryz.ntmps140
 go_wp2_with (go_quiet (fail))
 go_ret
 exact ⟨rfl, _, HW.out _⟩
/-
  Pages (layer 11), the fourth part: may a node name what it names?
-/
theorem below_drewN {B : Nat} {a w : World} (h : Below B a w) (n : Nat) : Below B a (w.drewN n) := h.trans ⟨rfl, rfl, rfl, Nat.le_refl _, fun _ _ => rfl⟩
def missing (Q : Pgs) (k : Int) : Bool := (VMap.get k Q).isNone
def offLevel (Q : Pgs) (lv k : Int) : Bool := !(lvOf Q k == lv - 1)
def namedErr (Q : Pgs) (n : Nd) : Value := if n.kids.any (missing Q) = true then errV 81 else if n.kids.any (offLevel Q n.level) = true then errV 70 else .nilIface
def NamedPost (Q : Pgs) (n : Nd) (w : World) (r : Ending) (w' : World) : Prop := r = .returned (namedErr Q n) /\ Below w.heap.size w w'
theorem Has.kids_read {w : World} {l : List Say} (n : Nd) {vv : Value} (h : Has w l) (hv : intsS vv n.vals ∈ l) :
  ∃ a c, n.kidsV vv = .slice a n.kids.length c /\ ∀ k (hk : k < n.kids.length), ∃ g, a = some ⟨g, 0, none⟩ /\ w.cell? ⟨g, k, none⟩ = some (.int .i64 n.kids[k]) := by
 obtain ⟨a, c, e, _, hr⟩ := h.ints_read hv
 unfold Nd.kidsV Nd.kids
 by_cases h0 : n.level = 0
 ·simp only [if_pos h0]
  exact ⟨none, 0, rfl, fun k hk => by simp at hk⟩
 ·simp only [if_neg h0]
  exact ⟨a, c, e, fun k hk => by obtain ⟨g, h1, h2, _⟩ := hr k hk; exact ⟨g, h1, h2⟩⟩
def SlSl (T : List (Int × Sl)) : Prop := ∀ p ∈ T, (∃ a n c, p.2.kv = .slice a n c) /\ ∃ a n c, p.2.vv = .slice a n c
theorem get_mem {α : Type} {k : Int} {v : α} {T : List (Int × α)} (h : VMap.get k T = some v) : (k, v) ∈ T := by
 unfold VMap.get at h
 obtain ⟨p, hp, rfl⟩ := Option.map_eq_some_iff.1 h
 have h1 := List.mem_of_find?_eq_some hp
 have h2 := List.find?_some hp
 have e : p.1 = k := by simpa using h2
 rw [<- e]
 exact h1
theorem page_agg (T : List (Int × Sl)) (hT : SlSl T) (k : Int) : ∃ L a b c a' b' c' h e, (VMap.get k (VMap.over Sl.val T)).getD pageZero = .agg #[.int .i64 L, .slice a b c, .slice a' b' c', .int .i64 h, .int .i64 e] := by
 rw [VMap.get_over]
 cases hg : VMap.get k T with
 | none => exact ⟨_, _, _, _, _, _, _, _, _, rfl⟩
 | some t =>
  obtain ⟨⟨a, b, c, e1⟩, a', b', c', e2⟩ := hT _ (get_mem hg)
  refine ⟨t.pg.n.level, a, b, c, a', b', c', t.pg.holds, t.pg.held, ?_⟩
  show Sl.val t = _
  unfold Sl.val
  simp only at e1 e2
  rw [e1, e2]
set_option maxRecDepth 100000 in
theorem st_named {w : World} {l : List Say} {p bank sp mb m : Nat} {T : List (Int × Sl)} (n : Nd) {kv vv : Value} (h : Has w l) (hv : intsS vv n.vals ∈ l) (hs : storeCell p bank sp mb ∈ l) (hm : mapS mb m (VMap.over Sl.val T) ∈ l) (hT : SlSl T)
  (l0 : 0 <= n.level) (l1 : n.level <= 20) (hlen : n.kids.length <= 100) (hbd : ∀ k ∈ n.kids, -9223372036854775808 <= k /\ k <= 9223372036854775807) :
  Calls Tryz.prog 76 #[.pointer (some ⟨p, 0, none⟩), n.val kv vv] w (NamedPost (VMap.over Sl.pg T) n w) := by
 have hW := (h.alloc_off (.cells #[.pointer (some ⟨p, 0, none⟩)] 27)).alloc_off (.cells #[.int .i64 n.level, kv, vv] 35)
 have hB : Below w.heap.size w ((w.alloc (.cells #[.pointer (some ⟨p, 0, none⟩)] 27)).alloc (.cells #[.int .i64 n.level, kv, vv] 35)) := ((Below.refl _ _).alloc (Nat.le_refl _) _).alloc (by simp) _
 have x2 : ((w.alloc (.cells #[.pointer (some ⟨p, 0, none⟩)] 27)).alloc (.cells #[.int .i64 n.level, kv, vv] 35)).cell? ⟨w.heap.size, 0, none⟩ = some (.pointer (some ⟨p, 0, none⟩)) := by
  rw [World.cell?_alloc_lt _ _ _ (by simp)]; exact World.cell?_alloc_new _ _ _ 0
 have hn3 := World.cell?_alloc_new (w.alloc (.cells #[.pointer (some ⟨p, 0, none⟩)] 27)) #[.int .i64 n.level, kv, vv] 35
 simp only [World.size_alloc] at hn3
 have x3 : ((w.alloc (.cells #[.pointer (some ⟨p, 0, none⟩)] 27)).alloc (.cells #[.int .i64 n.level, kv, vv] 35)).cell? ⟨w.heap.size + 1, 0, none⟩ = some (.int .i64 n.level) := hn3 0
 have y3 : ((w.alloc (.cells #[.pointer (some ⟨p, 0, none⟩)] 27)).alloc (.cells #[.int .i64 n.level, kv, vv] 35)).cell? ⟨w.heap.size + 1, 1, none⟩ = some kv := hn3 1
 have z3 : ((w.alloc (.cells #[.pointer (some ⟨p, 0, none⟩)] 27)).alloc (.cells #[.int .i64 n.level, kv, vv] 35)).cell? ⟨w.heap.size + 1, 2, none⟩ = some vv := hn3 2
 have HW := Lib.hid hW
 have HB := Lib.hid hB
 have Hs := Lib.hid hs
 have Hm := Lib.hid hm
 have Hv := Lib.hid hv
 have HBd := Lib.hid hbd
 have HT := Lib.hid hT
 clear h hW hB hs hm hv hbd hn3 hT
 go_enter Tryz.func76, Tryz.ntmps76
 simp only [Nd.val]
 go_upto_region 1 with fail
 generalize (w.alloc (.cells #[.pointer (some ⟨p, 0, none⟩)] 27)).alloc (.cells #[.int .i64 n.level, kv, vv] 35) = W at *
 generalize hb3 : w.heap.size + 1 = b3 at *
 have hbw : Hid (Below w.heap.size W W) := Below.refl _ _
 have lb2 := World.block_lt_of_cell? _ _ x2
 have lb3 := World.block_lt_of_cell? _ _ x3
 obtain ⟨ka, kc, hkv, hkr⟩ := HW.out.kids_read n Hv.out
 have cp : W.cell? ⟨p, 2, none⟩ = some (.map (some mb)) := cell_of (HW.out.at Hs.out) 2 rfl
 have lp := World.block_lt_of_cell? _ _ cp
 have HLt : Hid (∀ W', Below W.heap.size W W' -> ∀ k, -9223372036854775808 <= k -> k <= 9223372036854775807 -> (Instr.lookup 145 (.map (some mb)) (.int .i64 k) true).run Tryz.prog W' = .ok (.tuple #[(VMap.get k (VMap.over Sl.val T)).getD pageZero, .bool (VMap.get k (VMap.over Sl.val T)).isSome]) W') :=
  fun W' hb k k0 k1 => map_look_ok (HW.out.below hb) Hm.out k k0 k1
 have HLf : Hid (∀ W', Below W.heap.size W W' -> ∀ k, -9223372036854775808 <= k -> k <= 9223372036854775807 -> (Instr.lookup 145 (.map (some mb)) (.int .i64 k) false).run Tryz.prog W' = .ok ((VMap.get k (VMap.over Sl.val T)).getD pageZero) W') :=
  fun W' hb k k0 k1 => map_look (HW.out.below hb) Hm.out k k0 k1
 have HKd := Lib.hid (fun w => node_kids (w := w) n kv vv)
 have HNE : Hid (namedErr (VMap.over Sl.pg T) n = if n.kids.any (missing (VMap.over Sl.pg T)) = true then errV 81 else if n.kids.any (offLevel (VMap.over Sl.pg T) n.level) = true then errV 70 else .nilIface) := rfl
 simp only [Nd.val, hkv] at HKd
 generalize n.kids = ks at *
 generalize n.level = lv at *
 have HKr := Lib.hid hkr
 clear hkr hkv hbw HW hb3
 go_wp2_with fail
 refine (HKd.out W).mono ?_
 rintro r w1 ⟨rfl, hb1⟩
 have HB1 := Lib.hid hb1
 have a3 := bcell1 hb1 x3
 have a4 := bcell1 hb1 y3
 have a5 := bcell1 hb1 z3
 have a2 := bcell1 hb1 x2
 clear hb1
 go_wp2
 go_loopg [12] ks.length (fun gk i wr => ∃ k : Nat, k <= ks.length /\ gk = ks.length - k /\ i = .int .i64 k /\ Hid (Below W.heap.size W wr) /\ Hid (∀ j (h : j < ks.length), j < k -> missing (VMap.over Sl.pg T) ks[j] = false))
 case atStart => exact ⟨0, Nat.zero_le _, rfl, rfl, HB1, fun _ _ h => absurd h (Nat.not_lt_zero _)⟩
 case round =>
  clear HB1 a2 a3 a4 a5
  obtain ⟨k, hk, rfl, rfl, HBr, Hj⟩ := hrel
  by_cases hlt : k < ks.length
  ·obtain ⟨g, rfl, hc⟩ := HKr.out k hlt
   have hk1 : (k : Int) < (ks.length : Int) := by omega
   have hk0 : (0 : Int) <= k := by omega
   have c1 := bcell1 HBr.out hc
   have c2 := bcell1 HBr.out x2
   have c3 := bcell1 HBr.out cp
   have m1 := World.block_lt_of_cell? _ _ c2
   have m2 := World.block_lt_of_cell? _ _ c3
   have hbk := HBd.out ks[k] (List.getElem_mem hlt)
   have hlk := HLt.out wr HBr.out ks[k] hbk.1 hbk.2
   obtain ⟨q1, q2, q3, q4, q5, q6, q7, q8, q9, hq⟩ := page_agg T HT.out ks[k]
   rw [hq] at hlk
   have hmis : missing (VMap.over Sl.pg T) ks[k] = !(VMap.get ks[k] (VMap.over Sl.val T)).isSome := by
    unfold missing
    rw [VMap.get_over, VMap.get_over]
    cases VMap.get ks[k] T <;> rfl
   have HM := Lib.hid hmis
   clear hc hbk hq hmis
   cases hsm : (VMap.get ks[k] (VMap.over Sl.val T)).isSome with
   | false =>
    rw [hsm] at hlk
    have HA : Hid (namedErr (VMap.over Sl.pg T) n = errV 81) := by
     show _ = _
     rw [HNE.out, if_pos]
     exact List.any_eq_true.2 ⟨ks[k], List.getElem_mem hlt, by rw [HM.out, hsm]; rfl⟩
    clear hsm HM
    generalize ks[k] = x at *
    go_wp2
    go_ret
    exact ⟨by rw [HA.out]; rfl, HB.out.trans ((HBr.out.mono HB.out.size).alloc (Nat.le_trans HB.out.size HBr.out.size) _)⟩
   | true =>
    rw [hsm] at hlk
    have HA : Hid (∀ j (h : j < ks.length), j < k + 1 -> missing (VMap.over Sl.pg T) ks[j] = false) := fun j h hjk => by
     by_cases e : j = k
     ·subst e; rw [HM.out, hsm]; rfl
     ·exact Hj.out j h (by omega)
    clear hsm HM
    generalize ks[k] = x at *
    go_wp2
    go_roundg (ks.length - (k + 1))
    case measure => omega
    case rel => exact ⟨k + 1, by omega, rfl, by simp, HBr.out.alloc HBr.out.size _, HA⟩
  ·obtain rfl : k = ks.length := by omega
   have c2 := bcell1 HBr.out x2
   have c3 := bcell1 HBr.out x3
   have c4 := bcell1 HBr.out y3
   have c5 := bcell1 HBr.out z3
   have m1 := World.block_lt_of_cell? _ _ c2
   have m2 := World.block_lt_of_cell? _ _ c3
   have hmf : ∀ W : World, (Instr.makeFunc (.func 140) #[] #[.pointer (some ⟨w.heap.size, 0, none⟩), .pointer (some ⟨b3, 0, none⟩)]).run Tryz.prog W = .ok (.func (.func 140) #[] #[.pointer (some ⟨w.heap.size, 0, none⟩), .pointer (some ⟨b3, 0, none⟩)]) W := fun _ => rfl
   have HM0 : Hid (ks.any (missing (VMap.over Sl.pg T)) = false) := by
    show _ = _
    rw [List.any_eq_false]
    intro x hx
    obtain ⟨j, hj, rfl⟩ := List.getElem_of_mem hx
    rw [Hj.out j hj hj]; simp
   go_wp2_with fail
   refine (HKd.out wr).mono ?_
   rintro r w2 ⟨rfl, hb2⟩
   have HB2 : Hid (Below W.heap.size W w2) := HBr.out.trans (hb2.mono HBr.out.size)
   have HC := Lib.hid (ContainsFuncInt 140 may_named1 #[.pointer (some ⟨w.heap.size, 0, none⟩), .pointer (some ⟨b3, 0, none⟩)] (offLevel (VMap.over Sl.pg T) lv) ka kc ks w2 (by simp [maxLen]; omega)
    (fun k hk => by obtain ⟨g, hg, hc⟩ := HKr.out k hk; exact ⟨g, 0, hg, by rw [Nat.zero_add]; exact bcell1 HB2.out hc⟩)
    (fun k m hk => named_at T ks[k] l0 l1 (bcell1 HB2.out x2) (bcell1 HB2.out x3) (bcell1 HB2.out cp) (fun nn => HLf.out _ (below_drewN HB2.out nn) ks[k] (HBd.out ks[k] (List.getElem_mem hk)).1 (HBd.out ks[k] (List.getElem_mem hk)).2) m))
   clear hb2 c2 c3 c4 c5 m1 m2
   go_wp2_with fail
   refine HC.out.mono ?_
   rintro r w3 ⟨rfl, m3, rfl⟩
   have HFin : Hid (Below w.heap.size w (w2.drewN m3)) := HB.out.trans ((below_drewN HB2.out m3).mono HB.out.size)
   cases hof : ks.any (offLevel (VMap.over Sl.pg T) lv) with
   | false =>
    have HA : Hid (namedErr (VMap.over Sl.pg T) n = .nilIface) := by show _ = _; rw [HNE.out, if_neg (by rw [HM0.out]; simp), if_neg (by rw [hof]; simp)]
    clear hof HC
    go_wp2
    go_ret
    exact ⟨by rw [HA.out]; rfl, HFin.out⟩
   | true =>
    have HA : Hid (namedErr (VMap.over Sl.pg T) n = errV 70) := by show _ = _; rw [HNE.out, if_neg (by rw [HM0.out]; simp), if_pos hof]
    clear hof HC
    go_wp2
    go_ret
    exact ⟨by rw [HA.out]; rfl, HFin.out⟩
/-
  Pages (layer 11), the fifth part: holds more or fewer.
-/
theorem pool_split {T : List (Int × Sl)} {a : Int} {t : Sl} (hu : VMap.Up T) (h : VMap.get a T = some t) : (pool T).Perm (all t.rows :: pool (VMap.del a T)) := (VMap.get_split hu h).map _
theorem pool_put (T : List (Int × Sl)) (a : Int) (t : Sl) : (pool (VMap.put a t T)).Perm (all t.rows :: pool (VMap.del a T)) := (VMap.ins_perm (a, t) (VMap.del a T)).map _
theorem put_mem {α : Type} {a : Int} {v : α} {M : List (Int × α)} {p : Int × α} (h : p ∈ VMap.put a v M) : p = (a, v) \/ p ∈ M := by
 rcases List.mem_cons.1 ((VMap.ins_perm _ _).mem_iff.1 h) with h | h
 ·exact .inl h
 ·exact .inr (List.mem_filter.1 h).1
theorem Has.pool_sl {w : World} : ∀ {l : List Say} {T : List (Int × Sl)}, Has w l -> (∀ A ∈ pool T, A ∈ l) -> SlSl T := by
 intro l T h hm p hp
 have h1 := h.only (hm _ (List.mem_map.2 ⟨p, hp, rfl⟩))
 have h2 := h1.split
 obtain ⟨a, c, e, _, _⟩ := h2.ints_read (v := p.2.kv) (xs := p.2.pg.n.keys) (by simp [Sl.rows])
 obtain ⟨a', c', e', _, _⟩ := h2.ints_read (v := p.2.vv) (xs := p.2.pg.n.vals) (by simp [Sl.rows])
 exact ⟨⟨_, _, _, e⟩, _, _, _, e'⟩
theorem Has.st_again {w : World} {l : List Say} {p bank sp n : Nat} {x : StAt} {a : Int} {t : Sl} {g' : Pg} {Q : Pgs} (ok : StOk Q x) (hg : VMap.get a x.T = some t) (hn : g'.n = t.pg.n)
  (h : Has w (storeCell p bank sp x.mb :: mapS x.mb n (VMap.put a (Sl.val { t with pg := g' }) (VMap.over Sl.val x.T)) :: (pool x.T ++ l))) : Has w (storeS p bank sp n (VMap.put a g' Q) :: l) := by
 refine Has.st_shut (x := ⟨x.mb, VMap.put a { t with pg := g' } x.T⟩) ⟨?_, ok.up.put _ _, ?_, ?_⟩ ?_
 ·rw [VMap.over_put, ok.eq]
 ·intro q hq
  rcases put_mem hq with rfl | hq
  ·have := get_mem hg
   have hm : (a, t.pg) ∈ Q := by rw [<- ok.eq]; exact List.mem_map.2 ⟨_, this, rfl⟩
   exact ok.bd (a, t.pg) hm
  ·exact ok.bd q hq
 ·intro q hq
  rcases put_mem hq with rfl | hq
  ·have := get_mem hg
   have hm : (a, t.pg) ∈ Q := by rw [<- ok.eq]; exact List.mem_map.2 ⟨_, this, rfl⟩
   show Nd.ok g'.n = true
   rw [hn]
   exact ok.ok (a, t.pg) hm
  ·exact ok.ok q hq
 ·unfold storeFlat
  rw [VMap.over_put]
  refine h.perm (List.Perm.cons _ (List.Perm.cons _ (List.Perm.append_right l ?_)))
  refine (pool_split ok.up hg).trans (List.Perm.trans ?_ (pool_put x.T a { t with pg := g' }).symm)
  have e : Sl.rows { t with pg := g' } = Sl.rows t := by simp [Sl.rows, hn]
  rw [e]
def AddPost2 (p bank sp n : Nat) (Q : Pgs) (l : List Say) (w : World) (r : Ending) (w' : World) : Prop := r = .returned (.tuple #[]) /\ Kept w w' /\ Has w' (storeS p bank sp n Q :: l)
set_option maxRecDepth 100000 in
theorem st_add {w : World} {l : List Say} {p bank sp n : Nat} {Q : Pgs} (h : Has w (storeS p bank sp n Q :: l)) (a more : Int) (g : Pg) (hg : VMap.get a Q = some g) (hn : n <= 1000000) (h0 : -1000000000 <= g.holds) (h1 : g.holds <= 1000000000) (m0 : -10 <= more) (m1 : more <= 10) :
  Calls Tryz.prog 83 #[.pointer (some ⟨p, 0, none⟩), .int .i64 a, .int .i64 more] w (AddPost2 p bank sp (n + 1) (VMap.put a { g with holds := g.holds + more } Q) l w) := by
 obtain ⟨x, ok, hh⟩ := h.st_open
 obtain ⟨t, ht, rfl⟩ : ∃ t, VMap.get a x.T = some t /\ t.pg = g := by
  have e := hg
  rw [<- ok.eq, VMap.get_over] at e
  obtain ⟨t, ht, e⟩ := Option.map_eq_some_iff.1 e
  exact ⟨t, ht, e⟩
 obtain ⟨⟨nd, H, E⟩, kv, vv⟩ := t
 simp only at hg h0 h1 ⊢
 have hbd := ok.bd (a, ⟨nd, H, E⟩) (get_mem hg)
 simp only at hbd
 have hsl := hh.pool_sl (T := x.T) (fun A hA => by simp [storeFlat, hA])
 obtain ⟨⟨ak, nk, ck, ek⟩, av, nv, cv, ev⟩ := hsl _ (get_mem ht)
 simp only at ek ev
 subst ek ev
 have hval : Sl.val ⟨⟨nd, H, E⟩, .slice ak nk ck, .slice av nv cv⟩ = .agg #[.int .i64 nd.level, .slice ak nk ck, .slice av nv cv, .int .i64 H, .int .i64 E] := rfl
 have hlk := map_look hh (b := x.mb) (n := n) (M := VMap.over Sl.val x.T) (by simp [storeFlat]) a (by omega) (by omega)
 rw [VMap.get_over, ht] at hlk
 simp only [Option.map_some, Option.getD_some, hval] at hlk
 have hp : w.heap[p]? = some (.cells #[.pointer (some ⟨bank, 0, none⟩), .pointer (some ⟨sp, 0, none⟩), .map (some x.mb), .map none] 147 (0, 0)) := hh.got
 have c2 : w.cell? ⟨p, 2, none⟩ = some (.map (some x.mb)) := cell_of hp 2 rfl
 have hA := hh.alloc (.cells #[.int .i64 nd.level, .slice ak nk ck, .slice av nv cv, .int .i64 H, .int .i64 E] 153)
 have k0 := cell_of hA.got 0 rfl
 have k1 := cell_of hA.got 1 rfl
 have k2 := cell_of hA.got 2 rfl
 have k3 := cell_of hA.got 3 rfl
 have k4 := cell_of hA.got 4 rfl
 have f3 := thaw_of hA.got 3
 have hA2 := (hA.setCell 3 (.int .i64 (H + more))).drew
 have hA3 := hA2.tail
 obtain ⟨w9, hrun, hK9, hh9⟩ := map_store (hA3.pull 1) (by simp [maxLen]; omega) a (by omega) (by omega) (.agg #[.int .i64 nd.level, .slice ak nk ck, .slice av nv cv, .int .i64 (H + more), .int .i64 E])
 have hwr : IntKind.i64.wrap (H + more) = H + more := by rw [IntKind.wrap_i64]; omega
 have HF : Hid (Kept w w9 /\ Has w9 (storeS p bank sp (n + 1) (VMap.put a ⟨nd, H + more, E⟩ Q) :: l)) :=
  ⟨((((Kept.refl w).alloc _).setCell _ _).drew).trans hK9, Has.st_again (g' := ⟨nd, H + more, E⟩) ok ht rfl hh9.swap⟩
 have hlp : p < w.heap.size := World.block_lt_of_cell? _ _ c2
 have g2 := cell_of hA2.tail.got 2 rfl
 have g3 := cell_of hA2.got 0 rfl
 have g4 := cell_of hA2.got 1 rfl
 have g5 := cell_of hA2.got 2 rfl
 have g6 := cell_of hA2.got 3 rfl
 have g7 := cell_of hA2.got 4 rfl
 have c2w : (w.alloc (.cells #[.int .i64 nd.level, .slice ak nk ck, .slice av nv cv, .int .i64 H, .int .i64 E] 153)).cell? ⟨p, 2, none⟩ = some (.map (some x.mb)) := by rw [World.cell?_alloc_lt _ _ _ hlp]; exact c2
 have hne : w.heap.size ≠ p := by omega
 clear hK9 hh9 hA hA2 hA3 hh h ok hg hsl hp hval ht
 generalize nd.level = L at *
 go_enter Tryz.func83, Tryz.ntmps83
 go_upto_region 1 with fail
 generalize w.alloc (.cells #[.int .i64 L, .slice ak nk ck, .slice av nv cv, .int .i64 H, .int .i64 E] 153) = W at *
 have lb := World.block_lt_of_cell? _ _ k0
 generalize w.heap.size = b at *
 clear c2 hlk
 go_upto_region 2 with fail
 have G2 : (W.setCell ⟨b, 3, none⟩ (.int .i64 (H + more))).cell? ⟨p, 2, none⟩ = some (.map (some x.mb)) := g2
 have G3 : (W.setCell ⟨b, 3, none⟩ (.int .i64 (H + more))).cell? ⟨b, 0, none⟩ = some (.int .i64 L) := g3
 have G4 : (W.setCell ⟨b, 3, none⟩ (.int .i64 (H + more))).cell? ⟨b, 1, none⟩ = some (.slice ak nk ck) := g4
 have G5 : (W.setCell ⟨b, 3, none⟩ (.int .i64 (H + more))).cell? ⟨b, 2, none⟩ = some (.slice av nv cv) := g5
 have G6 : (W.setCell ⟨b, 3, none⟩ (.int .i64 (H + more))).cell? ⟨b, 3, none⟩ = some (.int .i64 (H + more)) := g6
 have G7 : (W.setCell ⟨b, 3, none⟩ (.int .i64 (H + more))).cell? ⟨b, 4, none⟩ = some (.int .i64 E) := g7
 clear g2 g3 g4 g5 g6 g7 k0 k1 k2 k3 k4 f3 c2w lb
 generalize W.setCell ⟨b, 3, none⟩ (.int .i64 (H + more)) = V at *
 have lb := World.block_lt_of_cell? _ _ G3
 have lp := World.block_lt_of_cell? _ _ G2
 go_still_tail 6, (by kernel_rfl)
 change wpList _ _ _ _ _ V.drew
 generalize V.drew = V8 at *
 go_wp2
 go_end0
 exact ⟨rfl, HF.out⟩
set_option maxRecDepth 100000 in
theorem st_own {w : World} {l : List Say} {p bank sp n : Nat} {Q : Pgs} (h : Has w (storeS p bank sp n Q :: l)) (a more : Int) (g : Pg) (hg : VMap.get a Q = some g) (hn : n <= 1000000) (h0 : -1000000000 <= g.held) (h1 : g.held <= 1000000000) (m0 : -10 <= more) (m1 : more <= 10) :
  Calls Tryz.prog 90 #[.pointer (some ⟨p, 0, none⟩), .int .i64 a, .int .i64 more] w (AddPost2 p bank sp (n + 1) (VMap.put a { g with held := g.held + more } Q) l w) := by
 obtain ⟨x, ok, hh⟩ := h.st_open
 obtain ⟨t, ht, rfl⟩ : ∃ t, VMap.get a x.T = some t /\ t.pg = g := by
  have e := hg
  rw [<- ok.eq, VMap.get_over] at e
  obtain ⟨t, ht, e⟩ := Option.map_eq_some_iff.1 e
  exact ⟨t, ht, e⟩
 obtain ⟨⟨nd, H, E⟩, kv, vv⟩ := t
 simp only at hg h0 h1 ⊢
 have hbd := ok.bd (a, ⟨nd, H, E⟩) (get_mem hg)
 simp only at hbd
 have hsl := hh.pool_sl (T := x.T) (fun A hA => by simp [storeFlat, hA])
 obtain ⟨⟨ak, nk, ck, ek⟩, av, nv, cv, ev⟩ := hsl _ (get_mem ht)
 simp only at ek ev
 subst ek ev
 have hval : Sl.val ⟨⟨nd, H, E⟩, .slice ak nk ck, .slice av nv cv⟩ = .agg #[.int .i64 nd.level, .slice ak nk ck, .slice av nv cv, .int .i64 H, .int .i64 E] := rfl
 have hlk := map_look hh (b := x.mb) (n := n) (M := VMap.over Sl.val x.T) (by simp [storeFlat]) a (by omega) (by omega)
 rw [VMap.get_over, ht] at hlk
 simp only [Option.map_some, Option.getD_some, hval] at hlk
 have hp : w.heap[p]? = some (.cells #[.pointer (some ⟨bank, 0, none⟩), .pointer (some ⟨sp, 0, none⟩), .map (some x.mb), .map none] 147 (0, 0)) := hh.got
 have c2 : w.cell? ⟨p, 2, none⟩ = some (.map (some x.mb)) := cell_of hp 2 rfl
 have hA := hh.alloc (.cells #[.int .i64 nd.level, .slice ak nk ck, .slice av nv cv, .int .i64 H, .int .i64 E] 153)
 have k0 := cell_of hA.got 0 rfl
 have k1 := cell_of hA.got 1 rfl
 have k2 := cell_of hA.got 2 rfl
 have k3 := cell_of hA.got 3 rfl
 have k4 := cell_of hA.got 4 rfl
 have f3 := thaw_of hA.got 4
 have hA2 := (hA.setCell 4 (.int .i64 (E + more))).drew
 have hA3 := hA2.tail
 obtain ⟨w9, hrun, hK9, hh9⟩ := map_store (hA3.pull 1) (by simp [maxLen]; omega) a (by omega) (by omega) (.agg #[.int .i64 nd.level, .slice ak nk ck, .slice av nv cv, .int .i64 H, .int .i64 (E + more)])
 have hwr : IntKind.i64.wrap (E + more) = E + more := by rw [IntKind.wrap_i64]; omega
 have HF : Hid (Kept w w9 /\ Has w9 (storeS p bank sp (n + 1) (VMap.put a ⟨nd, H, E + more⟩ Q) :: l)) :=
  ⟨((((Kept.refl w).alloc _).setCell _ _).drew).trans hK9, Has.st_again (g' := ⟨nd, H, E + more⟩) ok ht rfl hh9.swap⟩
 have hlp : p < w.heap.size := World.block_lt_of_cell? _ _ c2
 have g2 := cell_of hA2.tail.got 2 rfl
 have g3 := cell_of hA2.got 0 rfl
 have g4 := cell_of hA2.got 1 rfl
 have g5 := cell_of hA2.got 2 rfl
 have g6 := cell_of hA2.got 3 rfl
 have g7 := cell_of hA2.got 4 rfl
 have c2w : (w.alloc (.cells #[.int .i64 nd.level, .slice ak nk ck, .slice av nv cv, .int .i64 H, .int .i64 E] 153)).cell? ⟨p, 2, none⟩ = some (.map (some x.mb)) := by rw [World.cell?_alloc_lt _ _ _ hlp]; exact c2
 have hne : w.heap.size ≠ p := by omega
 clear hK9 hh9 hA hA2 hA3 hh h ok hg hsl hp hval ht
 generalize nd.level = L at *
 go_enter Tryz.func90, Tryz.ntmps90
 go_upto_region 1 with fail
 generalize w.alloc (.cells #[.int .i64 L, .slice ak nk ck, .slice av nv cv, .int .i64 H, .int .i64 E] 153) = W at *
 have lb := World.block_lt_of_cell? _ _ k0
 generalize w.heap.size = b at *
 clear c2 hlk
 go_upto_region 2 with fail
 have G2 : (W.setCell ⟨b, 4, none⟩ (.int .i64 (E + more))).cell? ⟨p, 2, none⟩ = some (.map (some x.mb)) := g2
 have G3 : (W.setCell ⟨b, 4, none⟩ (.int .i64 (E + more))).cell? ⟨b, 0, none⟩ = some (.int .i64 L) := g3
 have G4 : (W.setCell ⟨b, 4, none⟩ (.int .i64 (E + more))).cell? ⟨b, 1, none⟩ = some (.slice ak nk ck) := g4
 have G5 : (W.setCell ⟨b, 4, none⟩ (.int .i64 (E + more))).cell? ⟨b, 2, none⟩ = some (.slice av nv cv) := g5
 have G6 : (W.setCell ⟨b, 4, none⟩ (.int .i64 (E + more))).cell? ⟨b, 3, none⟩ = some (.int .i64 H) := g6
 have G7 : (W.setCell ⟨b, 4, none⟩ (.int .i64 (E + more))).cell? ⟨b, 4, none⟩ = some (.int .i64 (E + more)) := g7
 clear g2 g3 g4 g5 g6 g7 k0 k1 k2 k3 k4 f3 c2w lb
 generalize W.setCell ⟨b, 4, none⟩ (.int .i64 (E + more)) = V at *
 have lb := World.block_lt_of_cell? _ _ G3
 have lp := World.block_lt_of_cell? _ _ G2
 go_still_tail 6, (by kernel_rfl)
 change wpList _ _ _ _ _ V.drew
 generalize V.drew = V8 at *
 go_wp2
 go_end0
 exact ⟨rfl, HF.out⟩
end Go.Proofs.YtgbgneiciabidaaGreatDoor
