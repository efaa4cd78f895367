/-
  BtreeOrders, in plain Lean: how many pairs; never full.
-/
import Derived.Test.YtgbgneiciabidaaGreatDoorGs31
import Derived.Test.YtgbgneiciabidaaGreatDoorGs11
import Derived.Test.YtgbgneiciabidaaGreatDoorGs14
namespace Go.Proofs.YtgbgneiciabidaaGreatDoor
open Go Go.RowKit
set_option linter.all false
set_option maxHeartbeats 8000000
theorem Root.pages {es : List Ent} {Q : Pgs} (hI : FInv es Q (fun _ => 0)) {a : Int} {L : List KV} {s : Nat} (h : Root Q a L s) : ∃ Z : List Int, 2 * Z.length <= s /\ (0 < heldOf Q a -> a ∈ Z) /\ ∀ b ∈ Z, ∀ g, VMap.get b Q = some g -> ∀ c ∈ g.n.kids, c ∈ Z := by
 rcases h.it with ⟨rfl, _, rfl⟩ | ⟨lv, hT, _, _⟩
 ·refine ⟨[], by simp, fun hp => ?_, fun b hb => by cases hb⟩
  obtain ⟨g, hg, _⟩ := heldOf_some hp
  rw [root_none hI] at hg
  cases hg
 ·obtain ⟨Z, h1, h2, h3⟩ := hT.pages hI
  exact ⟨Z, h1, fun _ => h2, h3⟩
/-
  Twin trees in one store that is never full.
-/
theorem oneAt_nn (a x : Int) : 0 <= oneAt a x := by
 unfold oneAt
 split <;> decide
theorem oneAt_pos {a x : Int} (h : 0 < oneAt a x) : x = a := by
 unfold oneAt at h
 split at h
 ·rename_i e; exact e.1
 ·cases h
/-
  Trees (layer 12): several trees in one store, in plain Lean.
-/
structure Tre where
 a : Int
 L : List KV
 s : Nat
def noTre : Tre := ⟨0, [], 0⟩
def heldBy : List Tre -> Int -> Int
 | [], _ => 0
 | t :: ts, x => oneAt t.a x + heldBy ts x
def weighs : List Tre -> Nat
 | [] => 0
 | t :: ts => t.s + weighs ts
structure Grove (Q : Pgs) (ts : List Tre) : Prop where
 live : Live Q
 root : ∀ t ∈ ts, Root Q t.a t.L t.s
 held : ∀ x, heldOf Q x = heldBy ts x
theorem heldBy_nn : ∀ (ts : List Tre) (x : Int), 0 <= heldBy ts x
 | [], _ => Int.le_refl 0
 | t :: ts, x => by
  have h1 := oneAt_nn t.a x
  have h2 := heldBy_nn ts x
  show 0 <= oneAt t.a x + heldBy ts x
  omega
theorem heldBy_mem {t : Tre} : ∀ {ts : List Tre}, t ∈ ts -> ∀ x, oneAt t.a x <= heldBy ts x
 | u :: ts, h, x => by
  have h1 := oneAt_nn u.a x
  have h2 := heldBy_nn ts x
  show _ <= oneAt u.a x + heldBy ts x
  rcases List.mem_cons.1 h with rfl | h
  ·omega
  ·have := heldBy_mem h x
   omega
theorem heldBy_zero : ∀ (ts : List Tre), heldBy ts 0 = 0
 | [] => rfl
 | t :: ts => by
  have h2 := heldBy_zero ts
  have h1 : oneAt t.a 0 = 0 := by
   unfold oneAt
   rw [if_neg]
   rintro ⟨h, h'⟩
   exact h' h.symm
  show oneAt t.a 0 + heldBy ts 0 = 0
  omega
theorem heldBy_perm {ts us : List Tre} (h : ts.Perm us) (x : Int) : heldBy ts x = heldBy us x := by
 induction h with
 | nil => rfl
 | cons t _ ih => show oneAt t.a x + _ = oneAt t.a x + _; rw [ih]
 | swap t u l => show oneAt u.a x + (oneAt t.a x + heldBy l x) = oneAt t.a x + (oneAt u.a x + heldBy l x); omega
 | trans _ _ i1 i2 => exact i1.trans i2
theorem oneAt_self {a : Int} (h : a ≠ 0) : oneAt a a = 1 := by unfold oneAt; rw [if_pos ⟨rfl, h⟩]
theorem oneAt_none (x : Int) : oneAt 0 x = 0 := by unfold oneAt; rw [if_neg fun h => h.2 rfl]
theorem Root.stay {Q Q' : Pgs} {a : Int} {L : List KV} {s : Nat} (h : Root Q a L s) (hz : heldOf Q 0 = 0) (h0 : a ≠ 0 -> 0 < heldOf Q' a) (ht : ∀ lv, 0 < heldOf Q' a -> Tr Q lv a L s -> Tr Q' lv a L s) : Root Q' a L s := by
 rcases h.it with ⟨rfl, rfl, rfl⟩ | ⟨lv, hT, hs, hp⟩
 ·exact .nil _
 ·have ha : a ≠ 0 := by rintro rfl; omega
  exact ⟨.inr ⟨lv, ht lv (h0 ha) hT, hs, h0 ha⟩⟩
theorem Grove.perm {Q : Pgs} {ts us : List Tre} (h : Grove Q ts) (hp : ts.Perm us) : Grove Q us :=
 ⟨h.live, fun t ht => h.root t (hp.mem_iff.2 ht), fun x => by rw [h.held, heldBy_perm hp]⟩
theorem Grove.nil : Grove [] [] := ⟨fun a g h => (nomatch h), fun t h => (nomatch h), fun _ => rfl⟩
theorem Grove.more {Q : Pgs} {ts : List Tre} (h : Grove Q ts) : Grove Q (noTre :: ts) :=
 ⟨h.live, fun t ht => by
  rcases List.mem_cons.1 ht with rfl | ht
  ·exact .nil _
  ·exact h.root t ht, fun x => by rw [h.held]; show _ = oneAt 0 x + _; rw [oneAt_none, Int.zero_add]⟩
theorem Grove.less {Q : Pgs} {t : Tre} {ts : List Tre} (h : Grove Q (t :: ts)) (h0 : t.a = 0) : Grove Q ts :=
 ⟨h.live, fun t ht => h.root t (.tail _ ht), fun x => by rw [h.held]; show oneAt t.a x + _ = _; rw [h0, oneAt_none, Int.zero_add]⟩
theorem Grove.zero {Q : Pgs} {ts : List Tre} (h : Grove Q ts) : heldOf Q 0 = 0 := by rw [h.held, heldBy_zero]
theorem Grove.has {Q : Pgs} {ts : List Tre} (h : Grove Q ts) {t : Tre} (ht : t ∈ ts) (h0 : t.a ≠ 0) : ∃ g, VMap.get t.a Q = some g /\ 1 <= g.held := by
 have h1 := heldBy_mem ht t.a
 rw [oneAt_self h0, <- h.held] at h1
 obtain ⟨g, hg, e⟩ := heldOf_some (Q := Q) (a := t.a) (by omega)
 exact ⟨g, hg, by omega⟩
theorem Grove.moved {Q Q' : Pgs} {t : Tre} {ts : List Tre} {ta : Int} {L' : List KV} {s' : Nat} (h : Grove Q (t :: ts)) (hL : Live Q') (hm : Moved Q Q' t.a ta) (hR : Root Q' ta L' s') : Grove Q' (⟨ta, L', s'⟩ :: ts) := by
 have hh : ∀ x, heldOf Q' x = oneAt ta x + heldBy ts x := fun x => by
  have h1 := hm.held x
  have h2 : heldOf Q x = oneAt t.a x + heldBy ts x := h.held x
  omega
 refine ⟨hL, fun u hu => ?_, hh⟩
 rcases List.mem_cons.1 hu with rfl | hu
 ·exact hR
 ·refine (h.root u (.tail _ hu)).stay h.zero (fun h0 => ?_) fun lv hp hT => hm.tree _ _ _ _ hp hT
  have h1 := heldBy_mem hu u.a
  have h2 := oneAt_nn ta u.a
  rw [oneAt_self h0] at h1
  rw [hh]
  omega
theorem Grove.same {Q Q' : Pgs} {ts : List Tre} (h : Grove Q ts) (hL : Live Q') (hm : Moved Q Q' 0 0) : Grove Q' ts :=
 (Grove.moved (t := noTre) h.more hL hm (.nil _)).less rfl
theorem Grove.hold {Q : Pgs} {ts : List Tre} (h : Grove Q ts) {t : Tre} (ht : t ∈ ts) {g : Pg} (hg : VMap.get t.a Q = some g) (h0 : t.a ≠ 0) : Grove (VMap.put t.a (g.more 1) Q) (t :: ts) := by
 have hh : ∀ x, heldOf (VMap.put t.a (g.more 1) Q) x = oneAt t.a x + heldBy ts x := fun x => by
  rw [heldOf_put, <- h.held]
  by_cases e : x = t.a
  ·subst e
   rw [if_pos rfl, oneAt_self h0]
   unfold heldOf
   rw [hg]
   exact Int.add_comm _ _
  ·rw [if_neg e]
   unfold oneAt
   rw [if_neg fun x => e x.1, Int.zero_add]
 refine ⟨fun a g' hg' => ?_, fun u hu => ?_, hh⟩
 ·rw [get_put] at hg'
  by_cases e : a = t.a
  ·rw [if_pos e] at hg'
   obtain rfl := Option.some.inj hg'
   have := h.live t.a g hg
   show 0 < g.holds + 1
   omega
  ·rw [if_neg e] at hg'
   exact h.live a g' hg'
 ·have hu' : u ∈ ts := by
   rcases List.mem_cons.1 hu with rfl | hu
   ·exact ht
   ·exact hu
  refine (h.root u hu').stay h.zero (fun h1 => ?_) fun lv _ hT => hT.mono (more_same hg 1)
  have h2 := heldBy_mem hu' u.a
  have h3 := oneAt_nn t.a u.a
  rw [oneAt_self h1] at h2
  rw [hh]
  omega
theorem Grove.drop {es : List Ent} {Q Q' : Pgs} {t : Tre} {ts : List Tre} (h : Grove Q (t :: ts)) (h0 : t.a ≠ 0) (hd : Dropd t.a Q Q') (hI : FInv es Q (fun _ => 0)) (hI' : FInv es Q' (fun _ => 0)) : Grove Q' ts := by
 have hp : 0 < heldOf Q t.a := by
  have := heldBy_mem (t := t) (ts := t :: ts) (.head _) t.a
  rw [oneAt_self h0, <- h.held] at this
  omega
 have hh : ∀ x, heldOf Q' x = heldBy ts x := fun x => by
  have h1 := dropd_held hI hd hp x
  have h2 : heldOf Q x = oneAt t.a x + heldBy ts x := h.held x
  omega
 refine ⟨fun a g hg => ?_, fun u hu => ?_, hh⟩
 ·rcases Int.lt_or_le 0 g.holds with h1 | h1
  ·exact h1
  ·obtain ⟨g0, hg0, h2⟩ := hd.loo a g hg h1
   have := h.live a g0 hg0
   omega
 ·refine (h.root u (.tail _ hu)).stay h.zero (fun h1 => ?_) fun lv hp hT => hd.agree.trees hI' hp hT
  have h2 := heldBy_mem hu u.a
  rw [oneAt_self h1] at h2
  rw [hh]
  omega
theorem Grove.pages {es : List Ent} {Q : Pgs} {ts : List Tre} (hI : FInv es Q (fun _ => 0)) (h : Grove Q ts) : 2 * Q.length <= weighs ts := by
 have key : ∀ us : List Tre, (∀ t ∈ us, Root Q t.a t.L t.s) -> ∃ Z : List Int, 2 * Z.length <= weighs us /\ (∀ t ∈ us, 0 < heldOf Q t.a -> t.a ∈ Z) /\ ∀ b ∈ Z, ∀ g, VMap.get b Q = some g -> ∀ c ∈ g.n.kids, c ∈ Z := by
  intro us
  induction us with
  | nil => exact fun _ => ⟨[], Nat.le_refl _, fun t h => (nomatch h), fun b h => (nomatch h)⟩
  | cons t us ih =>
   intro hr
   obtain ⟨Z, z1, z2, z3⟩ := ih fun u hu => hr u (.tail _ hu)
   obtain ⟨Y, y1, y2, y3⟩ := (hr t (.head _)).pages hI
   refine ⟨Y ++ Z, by rw [List.length_append]; show _ <= t.s + weighs us; omega, fun u hu hp => ?_, fun b hb g hg c hc => ?_⟩
   ·rcases List.mem_cons.1 hu with rfl | hu
    ·exact List.mem_append_left _ (y2 hp)
    ·exact List.mem_append_right _ (z2 u hu hp)
   ·rcases List.mem_append.1 hb with hb | hb
    ·exact List.mem_append_left _ (y3 b hb g hg c hc)
    ·exact List.mem_append_right _ (z3 b hb g hg c hc)
 obtain ⟨Z, z1, z2, z3⟩ := key ts h.root
 have hall := h.live.all hI (Z := Z) (fun x g hg hpos => by
  have h1 : 0 < heldOf Q x := by unfold heldOf; rw [hg]; exact hpos
  have h2 : 0 < heldBy ts x := by rw [<- h.held]; exact h1
  have who : ∀ us : List Tre, 0 < heldBy us x -> ∃ t ∈ us, t.a = x := by
   intro us
   induction us with
   | nil => intro h; exact absurd h (by simp [heldBy])
   | cons t us ih =>
    intro hp
    by_cases h1 : 0 < oneAt t.a x
    ·exact ⟨t, .head _, (oneAt_pos h1).symm⟩
    ·have h2 : 0 < oneAt t.a x + heldBy us x := hp
     obtain ⟨u, hu, e⟩ := ih (by omega)
     exact ⟨u, .tail _ hu, e⟩
  obtain ⟨t, ht, rfl⟩ := who ts h2
  exact z2 t ht h1) z3
 have := len_in hI.up hall
 omega
end Go.Proofs.YtgbgneiciabidaaGreatDoor
/-
  The statements of layer 12: is; a number modulo 4.
-/
namespace Go.Proofs.YtgbgneiciabidaaGreatDoor
open Go Go.RowKit Go.Extern.Stop Go.Stop Go.Extern
set_option linter.all false
set_option maxHeartbeats 8000000
def mod4 (n : Int) : Nat := ((n.tmod 4 + 4).tmod 4).toNat
theorem mod4_lt (n : Int) : mod4 n < 4 := by unfold mod4; have := Int.tmod_lt_of_pos (n.tmod 4 + 4) (b := 4) (by decide); omega
theorem mod4_int (n : Int) : (n.tmod 4 + 4).tmod 4 = (mod4 n : Int) := by
 unfold mod4
 have h1 := Int.lt_tmod_of_pos n (b := 4) (by decide)
 have := Int.tmod_nonneg (a := n.tmod 4 + 4) 4 (by omega)
 omega
set_option maxRecDepth 100000 in
theorem law_mod (n : Int) (w : World) : Calls Tryz.prog 52 #[.int .i64 n] w fun r w' => r = .returned (.int .i64 (mod4 n : Int)) /\ w = w' := by
 have h1 : IntKind.i64.wrap (n.tmod 4 + 4) = n.tmod 4 + 4 := by
  have h1 := Int.lt_tmod_of_pos n (b := 4) (by decide)
  have h2 := Int.tmod_lt_of_pos n (b := 4) (by decide)
  exact IntWalk.i64_in _ (by omega)
 have h2 := mod4_int n
 go_enter Tryz.func52, Tryz.ntmps52
 go_wp2
 go_ret
 exact ⟨by simp only [<- h2]; go_num, rfl⟩
set_option maxRecDepth 100000 in
theorem law_is12 (e : Option Int) (want : Int) (w : World) (b0 : -9223372036854775808 <= want) (b1 : want <= 9223372036854775807) : Calls Tryz.prog 49 #[errE e, .int .i64 want] w fun r w' => r = .returned (.bool (isE e want)) /\ w = w' := by
 cases hw : (want == 0) with
 | true =>
  cases e with
  | none =>
   simp only [errE, isE, hw]
   go_enter Tryz.func49, Tryz.ntmps49
   go_wp2
   go_ret
   exact ⟨rfl, rfl⟩
  | some c =>
   simp only [errE, isE, hw, errV]
   go_enter Tryz.func49, Tryz.ntmps49
   go_wp2
   go_ret
   exact ⟨rfl, rfl⟩
 | false =>
  cases e with
  | none =>
   simp only [errE, isE, hw]
   go_enter Tryz.func49, Tryz.ntmps49
   go_wp2
   go_ret
   exact ⟨rfl, rfl⟩
  | some c =>
   have HI := Lib.hid (errors_Is c want w)
   simp only [errE, isE, hw, errV] at HI ⊢
   go_enter Tryz.func49, Tryz.ntmps49
   go_wp2_with fail
   refine HI.out.mono ?_
   rintro r w1 ⟨rfl, rfl⟩
   go_wp2
   go_ret
   exact ⟨rfl, rfl⟩
end Go.Proofs.YtgbgneiciabidaaGreatDoor
/-
  The document's answer of layer 12 (portageref12): Find, Without, Set.
-/
namespace Go.Proofs.YtgbgneiciabidaaGreatDoor
open Go Go.RowKit
set_option linter.all false
set_option maxHeartbeats 8000000
def kvS (v : Value) (L : List KV) : Say := rowS 190 2 v L.length (L.flatMap pairCells)
theorem info_kv : (Tryz.prog.info? 190).map (fun i => (i.zero, i.size, i.bytes)) = some (some (.agg #[.int .i64 0, .int .i64 0]), 2, 16) := by kernel_rfl
theorem Has.kv_read {w : World} {l : List Say} {v : Value} {L : List KV} (h : Has w l) (hm : kvS v L ∈ l) :
  ∃ a c, v = .slice a L.length c /\ ∀ k p, L[k]? = some p -> ∃ g, a = some ⟨g, 0, none⟩ /\ w.cell? ⟨g, k * 2, none⟩ = some (.int .i64 p.1) /\ w.cell? ⟨g, k * 2 + 1, none⟩ = some (.int .i64 p.2) := by
 obtain ⟨h1, h2⟩ := h.row_own hm
 rcases h2 with ⟨rfl, h0⟩ | ⟨g, cap, cur, rfl, _, hg, hn, hc, hs, ht⟩
 ·refine ⟨none, 0, by rw [h0], fun k p hp => ?_⟩
  have := (List.getElem?_eq_some_iff.1 hp).1
  omega
 ·refine ⟨_, cap, rfl, fun k p hp => ⟨g, rfl, ?_⟩⟩
  have hx : ∀ (ps : List (Int × Int)) (k : Nat) (p : Int × Int), ps[k]? = some p -> (ps.flatMap pairCells)[k * 2]? = some (.int .i64 p.1) /\ (ps.flatMap pairCells)[k * 2 + 1]? = some (.int .i64 p.2) := by
   intro ps
   induction ps with
   | nil => intro k p hp; simp at hp
   | cons q ps ih =>
    intro k p hp
    cases k with
    | zero => simp at hp; subst hp; simp [pairCells]
    | succ k =>
     have := ih k p (by simpa using hp)
     have e : (q :: ps).flatMap pairCells = [.int .i64 q.1, .int .i64 q.2] ++ ps.flatMap pairCells := rfl
     rw [e]
     constructor
     ·rw [List.getElem?_append_right (by simp; omega)]; simpa [show (k + 1) * 2 - 2 = k * 2 by omega] using this.1
     ·rw [List.getElem?_append_right (by simp; omega)]; simpa [show (k + 1) * 2 + 1 - 2 = k * 2 + 1 by omega] using this.2
  obtain ⟨e1, e2⟩ := hx L k p hp
  have take : ∀ (j : Nat) (u : Value), (L.flatMap pairCells)[j]? = some u -> cur[j]? = some u := by
   intro j u hu
   rw [<- ht, List.getElem?_take] at hu
   split at hu
   ·simpa using hu
   ·cases hu
  exact ⟨cell_of hg _ (take _ _ e1), cell_of hg _ (take _ _ e2)⟩
theorem wpList_append_kv {w : World} {l : List Say} {ops : Array Oper} {rest : List Oper} {o : Oper} {a : Act} {Q : Exit -> Act -> World -> Prop} (hgd : o.guard = none) (s x : Operand)
  (hop : o.op = .call { callee := .builtin .append, args := #[s, x], argTypes := #[67, 67] })
  {v : Value} {L : List KV} (hs : a.eval s = v) {bx : Nat} {y1 y2 : Int} (hx : a.eval x = .slice (some ⟨bx, 0, none⟩) 1 1) (hown : Has w (kvS v L :: l)) (hm : pts bx (.cells #[.int .i64 y1, .int .i64 y2] 190 (0, 0)) ∈ l)
  (hlen : L.length <= 1000000)
  (h : ∀ v' w', Kept w w' -> Has w' (kvS v' (L ++ [(y1, y2)]) :: l) -> wpList Tryz.prog ops Q rest (a.put o.dst v') w') : wpList Tryz.prog ops Q (o :: rest) a w := by
 obtain ⟨i0, I1, I2, I3, I4⟩ := info_parts info_kv
 refine wpList_append_row hgd s x 67 hop 190 i0 (.agg #[.int .i64 0, .int .i64 0]) 2 16 Tryz.underlying67 I1 I2 I3 I4 rfl (by decide) _ _ (L.flatMap pairCells) hs hown ⟨bx, 0, none⟩ 1 1 [.int .i64 y1, .int .i64 y2] hx rfl ?_ (by simp [Value.oneCell']) (by unfold maxLen; omega) (by omega) ?_
 ·intro j u hu
  have hb := hown.at (b := bx) (o := .cells #[.int .i64 y1, .int .i64 y2] 190 (0, 0)) (List.mem_cons_of_mem _ hm)
  rw [Addr.add_lit, Nat.zero_add]
  refine cell_of hb j ?_
  simpa using hu
 ·intro v' w' hK hh
  have e1 : rowS 190 2 v' (L.length + 1) (L.flatMap pairCells ++ [.int .i64 y1, .int .i64 y2]) = kvS v' (L ++ [(y1, y2)]) := by unfold kvS; rw [List.length_append, List.flatMap_append]; rfl
  rw [e1] at hh
  exact h v' w' hK hh
theorem delL_snoc (A : List KV) (x : KV) (key : Int) : delL (A ++ [x]) key = if x.1 = key then delL A key else delL A key ++ [x] := by
 unfold delL
 rw [List.filter_append]
 by_cases h : x.1 = key
 ·rw [if_pos h, List.filter_cons, if_neg (by simp [h])]; simp
 ·rw [if_neg h, List.filter_cons, if_pos (by simp [h])]; simp
def WoM (w : World) (l : List Say) (L : List KV) (key : Int) (k : Nat) (ov : Value) (wr : World) : Prop := Kept w wr /\ Has wr (kvS ov (delL (L.take k) key) :: l)
def KvPost (L : List KV) (l : List Say) (w : World) (r : Ending) (w' : World) : Prop := ∃ v, r = .returned v /\ Kept w w' /\ Has w' (kvS v L :: l)
set_option maxRecDepth 100000 in
theorem ref_Without {w : World} {l : List Say} {v : Value} {L : List KV} (key : Int) (h : Has w l) (hm : kvS v L ∈ l) (hl : L.length <= 100000) :
  Calls Tryz.prog 107 #[v, .int .i64 key] w (KvPost (delL L key) l w) := by
 obtain ⟨a, c, rfl, _⟩ := h.kv_read hm
 obtain ⟨n, hn⟩ : ∃ n, L.length = n := ⟨_, rfl⟩
 rw [hn] at hm hl ⊢
 have HM0 : Hid (WoM w l L key 0 (.slice none 0 0) w) := ⟨Kept.refl w, h.row_nil _ _⟩
 have Hm := Lib.hid (And.intro hm hn)
 clear h hm hn
 go_enter Tryz.func107, Tryz.ntmps107
 go_wp2
 go_loopg [5, 6] n (fun gk ov i wr => ∃ k : Nat, k <= n /\ gk = n - k /\ i = .int .i64 k /\ Hid (WoM w l L key k ov wr))
 case atStart => exact ⟨0, Nat.zero_le _, rfl, rfl, HM0⟩
 case round =>
  clear HM0
  obtain ⟨k, hk, rfl, rfl, HM⟩ := hrel
  obtain ⟨hK, hh⟩ := HM.out
  clear HM
  by_cases hlt : k < n
  ·obtain ⟨b1, c1, e1, r1⟩ := hh.kv_read (.tail _ Hm.out.1)
   injection e1 with e1 e2 e3
   subst e1
   clear e2 e3
   obtain ⟨x, hx⟩ : ∃ x, L[k]? = some x := ⟨_, List.getElem?_eq_getElem (by have := Hm.out.2; omega)⟩
   obtain ⟨g, rfl, x0, x1⟩ := r1 k x hx
   obtain ⟨xk, xv⟩ := x
   simp only at x0 x1
   have lx := World.block_lt_of_cell? _ _ x0
   have kI : (k : Int) < (n : Int) := by omega
   have k0 : (0 : Int) <= k := by omega
   have nI : (n : Int) <= 100000 := by omega
   have hsn := delL_snoc (L.take k) (xk, xv) key
   rw [<- (take_succ hx).1] at hsn
   simp only at hsn
   have hdl : (delL (L.take k) key).length <= 1000000 := by
    unfold delL
    have := List.length_filter_le (fun p : KV => !(p.1 == key)) (L.take k)
    rw [List.length_take] at this
    omega
   by_cases he : xk = key
   ·rw [if_pos he] at hsn
    have HM2 : Hid (WoM w l L key (k + 1) u5 wr) := ⟨hK, by rw [hsn]; exact hh⟩
    have hb : (!xk == key) = false := by simp [he]
    clear hK hh r1 hx hsn hdl
    go_wp2
    go_roundg (n - (k + 1))
    case measure => omega
    case rel => exact ⟨k + 1, by omega, rfl, by go_num, HM2⟩
   ·rw [if_neg he] at hsn
    have Hsn := Lib.hid hsn
    have hA := hh.alloc (.cells #[.int .i64 xk, .int .i64 xv] 190)
    have HA := Lib.hid hA.swap
    have HK := Lib.hid (hK.alloc (.cells #[.int .i64 xk, .int .i64 xv] 190))
    have Hdl := Lib.hid hdl
    have hb : (!xk == key) = true := by simp [he]
    clear hK hh r1 hx hsn hA hdl
    go_upto_region 4 with (at_builtin; refine wpList_append_kv rfl (.tmp 20) (.tmp 25) rfl rfl rfl HA.out (.head _) Hdl.out ?_; intro v2 w2 hK2 h2)
    have HM2 : Hid (WoM w l L key (k + 1) v2 w2) := ⟨HK.out.trans hK2, by rw [Hsn.out]; exact Has.skip (A := [_]) (M := [_]) h2⟩
    clear hK2 h2 HA HK Hsn x0 x1
    go_wp2
    go_roundg (n - (k + 1))
    case measure => omega
    case rel => exact ⟨k + 1, by omega, rfl, by go_num, HM2⟩
  ·have hke : k = n := by omega
   rw [List.take_of_length_le (by have := Hm.out.2; omega)] at hh
   have HF : Hid (KvPost (delL L key) l w (.returned u5) wr) := ⟨_, rfl, hK, hh⟩
   clear hK hh
   subst hke
   go_wp2
   go_ret
   exact HF.out
/-
  The document's answer of layer 12 (portageref12): Set.
-/
theorem flt_all {A : List KV} {p : KV -> Bool} (h : ∀ x ∈ A, p x = true) : A.filter p = A := List.filter_eq_self.2 h
theorem flt_none {A : List KV} {p : KV -> Bool} (h : ∀ x ∈ A, p x = false) : A.filter p = [] := List.filter_eq_nil_iff.2 fun x hx => by rw [h x hx]; exact Bool.false_ne_true
theorem putL_end {A : List KV} {k v : Int} (h : ∀ x ∈ A, x.1 < k) : putL A k v = A ++ [(k, v)] := by
 unfold putL
 rw [flt_all (fun x hx => by simpa using h x hx), flt_none (fun x hx => by have := h x hx; simp; omega)]
theorem putL_app {A : List KV} {x : KV} {k v : Int} (h : k < x.1) : putL (A ++ [x]) k v = putL A k v ++ [x] := by
 unfold putL
 have h1 : ¬ x.1 < k := by omega
 simp [List.filter_append, List.filter_cons, h, h1]
theorem putL_eq1 {A : List KV} {x : KV} {k v : Int} (h : x.1 = k) : putL (A ++ [x]) k v = putL A k v := by
 unfold putL
 have h1 : ¬ x.1 < k := by omega
 have h2 : ¬ k < x.1 := by omega
 simp [List.filter_append, List.filter_cons, h1, h2]
def seO (A : List KV) (key val : Int) (put : Bool) : List KV := if put then putL A key val else A
def SeM (w : World) (l : List Say) (L : List KV) (key val : Int) (k : Nat) (put : Bool) (ov : Value) (wr : World) : Prop :=
 (if put then ∃ x ∈ L.take k, key <= x.1 else ∀ x ∈ L.take k, x.1 < key) /\ Kept w wr /\ Has wr (kvS ov (seO (L.take k) key val put) :: l)
theorem seO_len (A : List KV) (key val : Int) (put : Bool) : (seO A key val put).length <= A.length + A.length + 1 := by
 unfold seO
 split
 ·unfold putL
  rw [List.length_append, List.length_cons]
  refine Nat.le_trans (Nat.add_le_add (List.length_filter_le _ _) (Nat.succ_le_succ (List.length_filter_le _ _))) ?_
  omega
 ·omega
set_option maxRecDepth 100000 in
theorem ref_Set {w : World} {l : List Say} {v : Value} {L : List KV} (key val : Int) (h : Has w l) (hm : kvS v L ∈ l) (hs : Srt L) (hl : L.length <= 100000) :
  Calls Tryz.prog 106 #[v, .int .i64 key, .int .i64 val] w (KvPost (putL L key val) l w) := by
 obtain ⟨a, c, rfl, _⟩ := h.kv_read hm
 obtain ⟨n, hn⟩ : ∃ n, L.length = n := ⟨_, rfl⟩
 rw [hn] at hm hl ⊢
 have HM0 : Hid (SeM w l L key val 0 false (.slice none 0 0) w) := ⟨by simp, Kept.refl w, h.row_nil _ _⟩
 have Hm := Lib.hid (And.intro hm (And.intro hn hs))
 clear h hm hn hs
 go_enter Tryz.func106, Tryz.ntmps106
 go_wp2
 go_loopg [7, 8, 9] n (fun gk ov pv i wr => ∃ (k : Nat) (put : Bool), k <= n /\ gk = n - k /\ pv = .bool put /\ i = .int .i64 k /\ Hid (SeM w l L key val k put ov wr))
 case atStart => exact ⟨0, false, Nat.zero_le _, rfl, rfl, rfl, HM0⟩
 case round =>
  clear HM0
  obtain ⟨k, put, hk, rfl, rfl, rfl, HM⟩ := hrel
  obtain ⟨hput, hK, hh⟩ := HM.out
  clear HM
  by_cases hlt : k < n
  ·obtain ⟨b1, c1, e1, r1⟩ := hh.kv_read (.tail _ Hm.out.1)
   injection e1 with e1 e2 e3
   subst e1
   clear e2 e3
   obtain ⟨x, hx⟩ : ∃ x, L[k]? = some x := ⟨_, List.getElem?_eq_getElem (by have := Hm.out.2.1; omega)⟩
   obtain ⟨g, rfl, x0, x1⟩ := r1 k x hx
   have hts := (take_succ hx).1
   have hsx : ∀ y ∈ L.take k, y.1 < x.1 := fun y hy => by
    have h1 := Hm.out.2.2
    rw [(take_succ hx).2] at h1
    exact (List.pairwise_append.1 h1).2.2 y hy x (.head _)
   obtain ⟨xk, xv⟩ := x
   simp only at x0 x1 hsx
   have lx := World.block_lt_of_cell? _ _ x0
   have kI : (k : Int) < (n : Int) := by omega
   have k0 : (0 : Int) <= k := by omega
   have nI : (n : Int) <= 100000 := by omega
   have hol := seO_len (L.take k) key val put
   have htl : (L.take k).length <= 100000 := by rw [List.length_take]; omega
   have Hol : Hid ((seO (L.take k) key val put).length <= 300000) := by show _ <= _; omega
   clear hol htl
   have HAp : Hid (∀ (y1 y2 : Int) (w1 : World) (v1 : Value) (A : List KV), Kept w w1 -> True) := fun _ _ _ _ _ _ => trivial
   clear HAp
   cases put with
   | true =>
    have hput : ∃ y ∈ L.take k, key <= y.1 := hput
    have hgt : key < xk := by
     obtain ⟨y, hy, h1⟩ := hput
     have := hsx y hy
     omega
    have hnew : SeM w l L key val (k + 1) true = fun ov wr => (∃ y ∈ L.take (k + 1), key <= y.1) /\ Kept w wr /\ Has wr (kvS ov (seO (L.take k) key val true ++ [(xk, xv)]) :: l) := by
     funext ov wr
     unfold SeM seO
     rw [hts]
     simp only [if_true]
     rw [putL_app (show key < (xk, xv).1 from hgt)]
    have hex : ∃ y ∈ L.take (k + 1), key <= y.1 := ⟨(xk, xv), by rw [hts]; simp, by show key <= xk; omega⟩
    have HN := Lib.hid (And.intro hnew hex)
    have hA := hh.alloc (.cells #[.int .i64 xk, .int .i64 xv] 190)
    have HA := Lib.hid hA.swap
    have HK := Lib.hid (hK.alloc (.cells #[.int .i64 xk, .int .i64 xv] 190))
    have hb : (!xk == key) = true := by simp; omega
    clear hK hh r1 hx hA hput hts hsx hnew hex
    go_upto_region 5 with (at_builtin; refine wpList_append_kv rfl (.tmp 40) (.tmp 45) rfl rfl rfl HA.out (.head _) (by have := Hol.out; omega) ?_; intro v2 w2 hK2 h2)
    have HM2 : Hid (SeM w l L key val (k + 1) true v2 w2) := by
     show SeM _ _ _ _ _ _ _ _ _
     rw [HN.out.1]
     exact ⟨HN.out.2, HK.out.trans hK2, Has.skip (A := [_]) (M := [_]) h2⟩
    clear hK2 h2 HA HK HN x0 x1 Hol
    go_wp2
    go_roundg (n - (k + 1))
    case measure => omega
    case rel => exact ⟨k + 1, true, by omega, rfl, rfl, by go_num, HM2⟩
   | false =>
    have hput : ∀ y ∈ L.take k, y.1 < key := hput
    have hseo : seO (L.take k) key val false = L.take k := rfl
    rw [hseo] at hh Hol
    by_cases hge : key <= xk
    ·have hA := hh.alloc (.cells #[.int .i64 key, .int .i64 val] 190)
     have HA := Lib.hid hA.swap
     have HK := Lib.hid (hK.alloc (.cells #[.int .i64 key, .int .i64 val] 190))
     have hend := putL_end (v := val) hput
     have hex : ∃ y ∈ L.take (k + 1), key <= y.1 := ⟨(xk, xv), by rw [hts]; simp, hge⟩
     have HN := Lib.hid (And.intro hex (And.intro hend hts))
     have Hkv := Lib.hid (And.intro Hm.out.1 hx)
     clear hK hh r1 hx hA hput hts hsx hseo hex hend
     go_upto_region 8 with (at_builtin; refine wpList_append_kv rfl (.tmp 27) (.tmp 31) rfl rfl rfl HA.out (.head _) (by have := Hol.out; omega) ?_; intro v2 w2 hK2 h2)
     have h3 : Has w2 (kvS v2 (L.take k ++ [(key, val)]) :: l) := Has.skip (A := [_]) (M := [_]) h2
     obtain ⟨_, _, e2, r2⟩ := h3.kv_read (.tail _ Hkv.out.1)
     injection e2 with e2 e2b e2c
     subst e2
     clear e2b e2c
     obtain ⟨_, e3, x0', x1'⟩ := r2 k _ Hkv.out.2
     injection e3 with e3
     injection e3 with e3
     subst e3
     simp only at x0' x1'
     have lx' := World.block_lt_of_cell? _ _ x0'
     have HK2 := Lib.hid (HK.out.trans hK2)
     have H3 := Lib.hid h3
     clear h2 h3 hK2 HK HA r2 Hkv x0 x1 lx
     by_cases he : xk = key
     ·have hb : (!xk == key) = false := by simp [he]
      have HM2 : Hid (SeM w l L key val (k + 1) true v2 w2) := by
       refine ⟨HN.out.1, HK2.out, ?_⟩
       unfold seO
       rw [if_pos rfl, HN.out.2.2, putL_eq1 (show (xk, xv).1 = key from he), HN.out.2.1]
       exact H3.out
      clear H3 HK2 HN Hol
      go_wp2
      go_roundg (n - (k + 1))
      case measure => omega
      case rel => exact ⟨k + 1, true, by omega, rfl, rfl, by go_num, HM2⟩
     ·have hb : (!xk == key) = true := by simp [he]
      have hA := H3.out.alloc (.cells #[.int .i64 xk, .int .i64 xv] 190)
      have HA := Lib.hid hA.swap
      have HK := Lib.hid (HK2.out.alloc (.cells #[.int .i64 xk, .int .i64 xv] 190))
      clear H3 HK2 hA
      go_upto_region 5 with (at_builtin; refine wpList_append_kv rfl (.tmp 40) (.tmp 45) rfl rfl rfl HA.out (.head _) (by have := Hol.out; rw [List.length_append, List.length_singleton]; omega) ?_; intro v3 w3 hK3 h4)
      have HM2 : Hid (SeM w l L key val (k + 1) true v3 w3) := by
       refine ⟨HN.out.1, HK.out.trans hK3, ?_⟩
       unfold seO
       rw [if_pos rfl, HN.out.2.2, putL_app (show key < (xk, xv).1 from by show key < xk; omega), HN.out.2.1]
       exact Has.skip (A := [_]) (M := [_]) h4
      clear hK3 h4 HA HK HN x0' x1' lx' Hol
      go_wp2
      go_roundg (n - (k + 1))
      case measure => omega
      case rel => exact ⟨k + 1, true, by omega, rfl, rfl, by go_num, HM2⟩
    ·have hb : (!xk == key) = true := by simp; omega
     have hlt2 : ∀ y ∈ L.take (k + 1), y.1 < key := fun y hy => by
      rw [hts] at hy
      rcases List.mem_append.1 hy with hy | hy
      ·exact hput y hy
      ·have : y = (xk, xv) := by simpa using hy
       rw [this]
       show xk < key
       omega
     have HN := Lib.hid (And.intro hlt2 hts)
     have hA := hh.alloc (.cells #[.int .i64 xk, .int .i64 xv] 190)
     have HA := Lib.hid hA.swap
     have HK := Lib.hid (hK.alloc (.cells #[.int .i64 xk, .int .i64 xv] 190))
     clear hK hh r1 hx hA hput hts hsx hseo hlt2
     go_upto_region 5 with (at_builtin; refine wpList_append_kv rfl (.tmp 40) (.tmp 45) rfl rfl rfl HA.out (.head _) (by have := Hol.out; omega) ?_; intro v2 w2 hK2 h2)
     have HM2 : Hid (SeM w l L key val (k + 1) false v2 w2) := by
      refine ⟨HN.out.1, HK.out.trans hK2, ?_⟩
      show Has w2 (kvS v2 (L.take (k + 1)) :: l)
      rw [HN.out.2]
      exact Has.skip (A := [_]) (M := [_]) h2
     clear hK2 h2 HA HK HN x0 x1 Hol
     go_wp2
     go_roundg (n - (k + 1))
     case measure => omega
     case rel => exact ⟨k + 1, false, by omega, rfl, rfl, by go_num, HM2⟩
  ·have hke : k = n := by omega
   rw [List.take_of_length_le (by have := Hm.out.2.1; omega)] at hh hput
   cases put with
   | true =>
    have HF : Hid (KvPost (putL L key val) l w (.returned u7) wr) := ⟨_, rfl, hK, hh⟩
    clear hK hh hput
    subst hke
    go_wp2
    go_ret
    exact HF.out
   | false =>
    have hput : ∀ y ∈ L, y.1 < key := hput
    have hh : Has wr (kvS u7 L :: l) := hh
    have hA := hh.alloc (.cells #[.int .i64 key, .int .i64 val] 190)
    have HA := Lib.hid hA.swap
    have HK := Lib.hid (hK.alloc (.cells #[.int .i64 key, .int .i64 val] 190))
    have Hend := Lib.hid (putL_end (v := val) hput)
    have Hl : Hid (L.length <= 1000000) := by show _ <= _; have := Hm.out.2.1; omega
    clear hK hh hA hput
    subst hke
    go_upto_region 13 with (at_builtin; refine wpList_append_kv rfl (.tmp 49) (.tmp 53) rfl rfl rfl HA.out (.head _) Hl.out ?_; intro v2 w2 hK2 h2)
    have HF : Hid (KvPost (putL L key val) l w (.returned v2) w2) := ⟨_, rfl, HK.out.trans hK2, by rw [Hend.out]; exact Has.skip (A := [_]) (M := [_]) h2⟩
    clear hK2 h2 HA HK Hend
    go_wp2
    go_ret
    exact HF.out
/-
  The document's answer of layer 12 (portageref12): Find; pairs that are told, and the document's.
-/
def fdV (L : List KV) (key : Int) : Value := match getK L key with
 | some v => .tuple #[.int .i64 v, .bool true]
 | none => .tuple #[.int .i64 0, .bool false]
set_option maxRecDepth 100000 in
theorem ref_Find {w : World} {l : List Say} {v : Value} {L : List KV} (key : Int) (h : Has w l) (hm : kvS v L ∈ l) (hs : Srt L) (hl : L.length <= 100000) :
  Calls Tryz.prog 48 #[v, .int .i64 key] w (fun r w' => r = .returned (fdV L key) /\ w = w') := by
 obtain ⟨a, c, rfl, hr⟩ := h.kv_read hm
 obtain ⟨n, hn⟩ : ∃ n, L.length = n := ⟨_, rfl⟩
 rw [hn] at hl ⊢
 have Hr := Lib.hid (And.intro hr (And.intro hn hs))
 clear h hm hn hs hr
 go_enter Tryz.func48, Tryz.ntmps48
 go_wp2
 go_loopg [6] n (fun gk i wr => ∃ k : Nat, k <= n /\ gk = n - k /\ i = .int .i64 k /\ wr = w /\ Hid (∀ x ∈ L.take k, x.1 ≠ key))
 case atStart => exact ⟨0, Nat.zero_le _, rfl, rfl, rfl, by show ∀ x ∈ L.take 0, _; simp⟩
 case round =>
  obtain ⟨k, hk, rfl, rfl, rfl, HM⟩ := hrel
  by_cases hlt : k < n
  ·obtain ⟨x, hx⟩ : ∃ x, L[k]? = some x := ⟨_, List.getElem?_eq_getElem (by have := Hr.out.2.1; omega)⟩
   obtain ⟨g, rfl, x0, x1⟩ := Hr.out.1 k x hx
   have hts := (take_succ hx).1
   have hxm : x ∈ L := List.mem_of_getElem? hx
   obtain ⟨xk, xv⟩ := x
   simp only at x0 x1
   have lx := World.block_lt_of_cell? _ _ x0
   have kI : (k : Int) < (n : Int) := by omega
   have k0 : (0 : Int) <= k := by omega
   have nI : (n : Int) <= 100000 := by omega
   by_cases he : xk = key
   ·have hb : (xk == key) = true := by simp [he]
    have HF : Hid (fdV L key = .tuple #[.int .i64 xv, .bool true]) := by
     show _ = _
     unfold fdV
     rw [<- he, getK_at Hr.out.2.2 hxm]
    clear hx hts hxm HM
    go_wp2
    go_ret2
    exact ⟨by rw [HF.out]; rfl, rfl⟩
   ·have hb : (xk == key) = false := by simp [he]
    have HM2 : Hid (∀ x ∈ L.take (k + 1), x.1 ≠ key) := by
     show ∀ x ∈ _, _
     rw [hts]
     intro y hy
     rcases List.mem_append.1 hy with hy | hy
     ·exact HM.out y hy
     ·have : y = (xk, xv) := by simpa using hy
      rw [this]
      exact he
    clear hx hts hxm HM
    go_wp2
    go_roundg (n - (k + 1))
    case measure => omega
    case rel => exact ⟨k + 1, by omega, rfl, by go_num, rfl, HM2⟩
  ·have hke : k = n := by omega
   have hno := HM.out
   rw [List.take_of_length_le (by have := Hr.out.2.1; omega)] at hno
   have HF : Hid (fdV L key = .tuple #[.int .i64 0, .bool false]) := by
    show _ = _
    unfold fdV
    rw [getK_none hno]
   clear hno HM
   subst hke
   go_wp2
   go_ret2
   exact ⟨by rw [HF.out]; rfl, rfl⟩
/-
  Is it a right tree, of any root.
-/
set_option maxRecDepth 100000 in
theorem check_none {w : World} {l : List Say} {p bank sp N : Nat} {es : List Ent} {Q : Pgs} (h : Has w (btS p bank sp N es Q :: l)) :
  Calls Tryz.prog 45 #[.pointer (some ⟨p, 0, none⟩), .int .i64 0] w (CkPost p bank sp N es Q l w) := by
 have H := Lib.hid h
 clear h
 go_enter Tryz.func45, Tryz.ntmps45
 go_wp2
 go_ret
 exact ⟨rfl, Kept.refl w, H.out⟩
theorem bt_CheckR {w : World} {l : List Say} {p bank sp N : Nat} {es : List Ent} {Q : Pgs} (root : Int) {L : List KV} {s : Nat} (h : Has w (btS p bank sp N es Q :: l)) (hR : Root Q root L s) (hlen : L.length <= 100000) :
  Calls Tryz.prog 45 #[.pointer (some ⟨p, 0, none⟩), .int .i64 root] w (CkPost p bank sp N es Q l w) := by
 rcases hR.it with ⟨rfl, rfl, rfl⟩ | ⟨lv, hT, hs, _⟩
 ·exact check_none h
 ·exact bt_check lv root h hT hs hlen
/-
  BtreeOrders, in plain Lean: what its last two loops do; a number stored in a row, in a region that draws its order.
-/
theorem Has.front {w : World} {l F : List Say} (h : Has w (l ++ F)) : Has w l := Has.right (m := F) (h.perm List.perm_append_comm)
theorem Tab.fr {l : List Say} (h : Tab l) (F : List Say) : Tab (l ++ F) := fun w hw => h w hw.front
section
variable {ops : Array Oper} {S : Nat -> World -> Prop} {live : Nat -> Nat -> Prop} {kd : Nat -> Kd} {k : Nat} {ord : List Nat} {a : Act} {L : List Say} {o : Oper} {w0 : World} {Q : Exit -> Act -> World -> Prop}
end
end Go.Proofs.YtgbgneiciabidaaGreatDoor
