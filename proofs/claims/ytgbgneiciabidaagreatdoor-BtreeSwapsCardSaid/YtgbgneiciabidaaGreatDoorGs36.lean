/-
  The statements of layer 12: pairs that are told, and the document's.
-/
import Derived.Test.YtgbgneiciabidaaGreatDoorGs35
import Derived.Test.YtgbgneiciabidaaGreatDoorGs2
import Derived.Test.YtgbgneiciabidaaGreatDoorGs8
import Derived.Sort.OwnSortedInts
import Derived.Maps.RangeWalk
namespace Go.Proofs.YtgbgneiciabidaaGreatDoor
open Go Go.RowKit
set_option linter.all false
set_option maxHeartbeats 8000000
def PrM (w : World) (l : List Say) (ps qs : List KV) (k : Nat) (wr : World) : Prop := Kept w wr /\ Has wr l /\ ps.take k = qs.take k
set_option maxRecDepth 100000 in
theorem law_pairs {w : World} {l : List Say} {v1 v2 : Value} {ps qs : List KV} (h : Has w l) (h1 : pairsS v1 ps ∈ l) (h2 : kvS v2 qs ∈ l) (hp : ps.length <= 100000) :
  Calls Tryz.prog 50 #[v1, v2] w (EqPost ps qs l w) := by
 obtain ⟨a1, q1, rfl, _, _⟩ := h.pairs_read h1
 obtain ⟨a2, q2, rfl, _⟩ := h.kv_read h2
 by_cases hl : ps.length = qs.length
 ·obtain ⟨n, hn⟩ : ∃ n, ps.length = n := ⟨_, rfl⟩
  rw [<- hl] at h2 ⊢
  rw [hn] at h1 h2 hp hl ⊢
  have HM0 : Hid (PrM w l ps qs 0 w) := ⟨Kept.refl w, h, rfl⟩
  have HH := Lib.hid (And.intro h1 (And.intro h2 (And.intro hn hl.symm)))
  clear h h1 h2 hn hl
  go_enter Tryz.func50, Tryz.ntmps50
  go_wp2
  go_loopg [13] n (fun gk i wr => ∃ k : Nat, k <= n /\ gk = n - k /\ i = .int .i64 k /\ Hid (PrM w l ps qs k wr))
  case atStart => exact ⟨0, Nat.zero_le _, rfl, rfl, HM0⟩
  case round =>
   clear HM0
   obtain ⟨k, hk, rfl, rfl, HM⟩ := hrel
   obtain ⟨hK, hh, ht⟩ := HM.out
   clear HM
   obtain ⟨m1, m2, hn1, hn2⟩ := HH.out
   by_cases hlt : k < n
   ·obtain ⟨b1, c1, e1, _, r1⟩ := hh.pairs_read m1
    injection e1 with e1 e1b e1c
    subst e1
    obtain ⟨b2, c2, e2, r2⟩ := hh.kv_read m2
    injection e2 with e2 e2b e2c
    subst e2
    obtain ⟨x, hx⟩ : ∃ x, ps[k]? = some x := ⟨_, List.getElem?_eq_getElem (by omega)⟩
    obtain ⟨y, hy⟩ : ∃ y, qs[k]? = some y := ⟨_, List.getElem?_eq_getElem (by omega)⟩
    obtain ⟨g1, rfl, x0, x1⟩ := r1 k x hx
    obtain ⟨g2, rfl, y0, y1⟩ := r2 k y hy
    obtain ⟨xk, xv⟩ := x
    obtain ⟨yk, yv⟩ := y
    simp only at x0 x1 y0 y1
    have lx := World.block_lt_of_cell? _ _ x0
    have ly := World.block_lt_of_cell? _ _ y0
    have kI : (k : Int) < (n : Int) := by omega
    have k0 : (0 : Int) <= k := by omega
    have Hx := Lib.hid (And.intro hx (And.intro hy ht))
    have HK := Lib.hid (And.intro hK hh)
    clear hK hh ht m1 m2 hn1 hn2 r1 r2 hx hy e1b e1c e2b e2c
    go_upto_region 6 with fail
    by_cases he : xk = yk
    ·have hb1 : (xk == yk) = true := by simp [he]
     by_cases hf : xv = yv
     ·have hb2 : (xv == yv) = true := by simp [hf]
      have hc2 : (xv != yv) = false := by simp [hf]
      go_quiet (fail)
      have HM2 : Hid (PrM w l ps qs (k + 1) (wr.drewN nq)) := by
       refine ⟨HK.out.1.drewN nq, HK.out.2.drewN nq, ?_⟩
       rw [(take_succ Hx.out.1).1, (take_succ Hx.out.2.1).1, Hx.out.2.2, he, hf]
      generalize wr.drewN nq = wn at *
      clear HK Hx x0 x1 y0 y1 lx ly he hf hb1 hb2
      go_wp2
      go_roundg (n - (k + 1))
      case measure => omega
      case rel => exact ⟨k + 1, by omega, rfl, by go_num, HM2⟩
     ·have hb2 : (xv == yv) = false := by simp [hf]
      have hc2 : (xv != yv) = true := by simp [hf]
      go_quiet (fail)
      have HF : Hid (EqPost ps qs l w (.returned (.bool false)) (wr.drewN nq)) := by
       refine ⟨?_, HK.out.1.drewN nq, HK.out.2.drewN nq⟩
       rw [decide_eq_false]
       intro hpq
       have q1 := Hx.out.1
       rw [hpq, Hx.out.2.1] at q1
       have q2 := Option.some.inj q1
       injection q2 with q2 q3
       exact hf q3.symm
      generalize wr.drewN nq = wn at *
      clear HK Hx x0 x1 y0 y1 lx ly he hf hb1 hb2
      go_wp2
      go_ret
      exact HF.out
    ·have hb1 : (xk == yk) = false := by simp [he]
     have hc1 : (xk != yk) = true := by simp [he]
     go_quiet (fail)
     have HF : Hid (EqPost ps qs l w (.returned (.bool false)) (wr.drewN nq)) := by
      refine ⟨?_, HK.out.1.drewN nq, HK.out.2.drewN nq⟩
      rw [decide_eq_false]
      intro hpq
      have q1 := Hx.out.1
      rw [hpq, Hx.out.2.1] at q1
      have q2 := Option.some.inj q1
      injection q2 with q2 q3
      exact he q2.symm
     generalize wr.drewN nq = wn at *
     clear HK Hx x0 x1 y0 y1 lx ly he hb1
     go_wp2
     go_ret
     exact HF.out
   ·have hke : k = n := by omega
    have HF : Hid (EqPost ps qs l w (.returned (.bool true)) wr) := by
     refine ⟨?_, hK, hh⟩
     rw [List.take_of_length_le (by omega), List.take_of_length_le (by omega)] at ht
     rw [decide_eq_true ht]
    clear hK hh ht m1 m2 hn1 hn2 HH
    subst hke
    go_wp2
    go_ret
    exact HF.out
 ·have HF : Hid (EqPost ps qs l w (.returned (.bool false)) w) := by
   refine ⟨?_, Kept.refl w, h⟩
   rw [decide_eq_false]
   intro hpq
   exact hl (by rw [hpq])
  have hlb : ((ps.length : Int) == (qs.length : Int)) = false := by simp; omega
  clear h h1 h2 hl hp
  go_enter Tryz.func50, Tryz.ntmps50
  go_wp2
  go_ret
  exact HF.out
end Go.Proofs.YtgbgneiciabidaaGreatDoor
/-
  A map from numbers to numbers.
-/
namespace Go.Proofs.YtgbgneiciabidaaGreatDoor
open Go Go.RowKit Go.ChangeMaps Go.Maps
open Go.WideElems (Fit rd rg pl)
set_option linter.all false
set_option maxHeartbeats 8000000
def imapS (b : Nat) (M : List (Int × Int)) : Say := mapS b M.length (VMap.over intVal M)
theorem int_zero (w : World) : (zeroValue 3).run Tryz.prog w = .ok (.int .i64 0) w := by
 obtain ⟨i0, I1, I2, I3, I4⟩ := info_parts info_int
 simp [zeroValue, typeInfo, I1, I2, go_sem]
theorem imap_made {w : World} {l : List Say} (h : Has w l) : Has (w.alloc (.map #[] 0)) (imapS w.heap.size [] :: l) := map_made h
theorem imap_look {w : World} {l : List Say} {b : Nat} {M : List (Int × Int)} (h : Has w l) (hm : imapS b M ∈ l) (a : Int) (h0 : -9223372036854775808 <= a) (h1 : a <= 9223372036854775807) :
  (Instr.lookup 113 (.map (some b)) (.int .i64 a) false).run Tryz.prog w = .ok (.int .i64 ((VMap.get a M).getD 0)) w := by
 obtain ⟨es, clock, hb, F, hs, hD⟩ := h.map_own hm
 have hD' : (VMap.over intVal M).map litE = (es.toList.map (rg Tryz.prog 3 heldR)).foldr DataW.insert [] := by injection hD
 have hg0 := VMap.get_over intVal a M
 rcases Maps.fit_look false (int_keyed Tryz.underlying3) Tryz.underlying113 (int_zero w) hb F (map_key a h0 h1) with ⟨hrun, _, hat⟩ | ⟨e0, y, _, _, hrun, hRv, hat, _⟩
 ·rw [hrun]
  have h2 := hat .nil
  rw [<- hD', atKey_lit, hg0] at h2
  cases hg : VMap.get a M with
  | none => rfl
  | some v => rw [hg] at h2; cases h2
 ·rw [hrun]
  have h2 := hat .nil
  rw [<- hD', atKey_lit, hg0] at h2
  cases hRv
  cases hg : VMap.get a M with
  | none => rw [hg] at h2; cases h2
  | some v =>
   rw [hg] at h2
   have h3 : (DataW.held (intVal v) : DataW Value) = .held e0.2 := h2
   have h4 : intVal v = e0.2 := DataW.held.inj h3
   rw [<- h4]
   rfl
theorem imap_store {w : World} {l : List Say} {b : Nat} {M : List (Int × Int)} (h : Has w (imapS b M :: l)) (hn : M.length < maxLen) (a : Int) (h0 : -9223372036854775808 <= a) (h1 : a <= 9223372036854775807) (v : Int) (hnew : VMap.get a M = none) :
  ∃ w', (Instr.mapUpdate 113 (.map (some b)) (.int .i64 a) (.int .i64 v)).run Tryz.prog w = .ok () w' /\ Kept w w' /\ Has w' (imapS b (VMap.put a v M) :: l) := by
 obtain ⟨es, clock, F, hs, hD, hh⟩ := Has.map_open h
 obtain ⟨es', clock', hrun, F', hput, _⟩ := Maps.fit_store (R' := heldR) (int_keyed Tryz.underlying3) Tryz.underlying113 hh.got F (Nat.lt_of_le_of_lt hs hn) (fun _ _ _ _ hz => hz) (map_key a h0 h1) (val := .int .i64 v) rfl
 refine ⟨_, hrun, ⟨rfl, rfl, rfl, by simp [setBlock]⟩, ?_⟩
 have h2 : Has (setBlock w b (.map es' clock')) (pts b (.map es' clock') :: l) := Sep.put hh (heap_setBlock_same hh.got _) fun k hk => heap_setBlock_other hh.got _ hk
 have hlen : (VMap.put a v M).length = M.length + 1 := by
  have e1 := (VMap.ins_perm (a, v) (VMap.del a M)).length_eq
  have e2 : VMap.del a M = M := by
   unfold VMap.del
   refine List.filter_eq_self.2 fun p hp => ?_
   unfold VMap.get at hnew
   have := List.find?_eq_none.1 (Option.map_eq_none_iff.1 hnew) p hp
   simpa using this
  rw [e2] at e1
  unfold VMap.put
  rw [e2]
  exact e1
 refine h2.head fun g hg => ⟨es', clock', hg, F', ?_, ?_⟩
 ·have e1 : es'.size = ((es'.toList.map (rg Tryz.prog 3 heldR)).foldr DataW.insert []).length := by rw [length_sorted]; simp
  rw [e1, hput]
  unfold putKey
  rw [length_insert, hlen]
  have e2 := List.length_filter_le (notKey (.int .i64 a)) ((es.toList.map (rg Tryz.prog 3 heldR)).foldr DataW.insert [])
  rw [length_sorted] at e2
  simp at e2
  omega
 ·show (VMap.over intVal (VMap.put a v M)).map litE = _
  rw [VMap.over_put, litE_put, hput, hD]
  rfl
/-! A range over the map, under way: the map's block and the iterator's. -/
abbrev dataI (M : List (Int × Int)) : DataW Value := .map ((VMap.over intVal M).map litE)
def iterS (b r n : Nat) (D : DataW Value) (left : Lit -> Bool) (cnt : Nat) : Say := fun h =>
 ∃ es clock since seen c0, h b = some (.map es clock) /\ Fit Tryz.prog 3 heldR es clock /\ es.size <= n /\ D = .map ((es.toList.map (rg Tryz.prog 3 heldR)).foldr DataW.insert []) /\
  h r = some (.mapIter (some b) since seen c0) /\ (∀ x ∈ es.toList, x.born < since) /\ (leftOf es seen).size = cnt /\
  (∀ x ∈ es.toList, left (rg Tryz.prog 3 heldR x).1 = !seen.contains x.born) /\ (∀ kl, left kl = true -> ∃ x ∈ es.toList, (rg Tryz.prog 3 heldR x).1 = kl) /\ since <= c0 /\ since <= clock
theorem Has.iter {w : World} {l : List Say} {b r n : Nat} {D : DataW Value} {left : Lit -> Bool} {cnt : Nat} (h : Has w l) (hm : iterS b r n D left cnt ∈ l) : w.ranges Tryz.prog 3 heldR b r n D left cnt := by
 obtain ⟨g, ⟨es, clock, since, seen, c0, hb, F, hs, hD, hr, rest⟩, hk⟩ := h.mem hm
 exact ⟨es, clock, since, seen, c0, by rw [hk b (by rw [hb]; simp), hb], F, hs, hD, by rw [hk r (by rw [hr]; simp), hr], rest⟩
theorem Has.iter_next {w w' : World} {l : List Say} {b r n : Nat} {D : DataW Value} {left left' : Lit -> Bool} {cnt cnt' : Nat} (h : Has w (iterS b r n D left cnt :: l)) (hg : w.grownBy w' (some r)) (hr : w'.ranges Tryz.prog 3 heldR b r n D left' cnt') : Has w' (iterS b r n D left' cnt' :: l) := by
 obtain ⟨h1, h2, ⟨es0, clock0, since0, seen0, c00, hb0, _, _, _, hr0, _⟩, hl, d1, d2⟩ := h
 obtain ⟨es, clock, since, seen, c0, hb, F, hs, hD, hr', rest⟩ := hr
 have nb : h2 b = none := (d1 b (by rw [hb0]; simp)).2
 have nr : h2 r = none := (d1 r (by rw [hr0]; simp)).2
 refine ⟨fun k => if k = b \/ k = r then w'.heap[k]? else none, h2, ⟨es, clock, since, seen, c0, (if_pos (.inl rfl)).trans hb, F, hs, hD, (if_pos (.inr rfl)).trans hr', rest⟩, hl, fun k hk => ?_, fun k hk => ?_⟩
 ·by_cases e : k = b \/ k = r
  ·refine ⟨(if_pos e).symm, ?_⟩
   rcases e with rfl | rfl
   ·exact nb
   ·exact nr
  ·exact absurd (if_neg e) hk
 ·have e1 := d2 k hk
  have hlt : k < w.heap.size := by
   rcases Nat.lt_or_ge k w.heap.size with h | h
   ·exact h
   ·have : w.heap[k]? = none := Array.getElem?_eq_none h
    simp only at e1
    rw [this] at e1
    exact absurd e1.symm hk
  have hne : some k ≠ some r := fun e => by
   have e2 : k = r := Option.some.inj e
   rw [e2] at hk
   exact hk nr
  show w'.heap[k]? = h2 k
  rw [hg.block k hlt hne]
  exact e1
theorem Has.iter_start {w w' : World} {l : List Say} {b : Nat} {M : List (Int × Int)} {left : Lit -> Bool} {cnt : Nat} (h : Has w (imapS b M :: l)) (hg : w.grownBy w' none) (hr : w'.ranges Tryz.prog 3 heldR b w.heap.size M.length (dataI M) left cnt) : Has w' (iterS b w.heap.size M.length (dataI M) left cnt :: l) := by
 obtain ⟨h1, h2, ⟨es0, clock0, hb0, _⟩, hl, d1, d2⟩ := h
 obtain ⟨es, clock, since, seen, c0, hb, F, hs, hD, hr', rest⟩ := hr
 have nb : h2 b = none := (d1 b (by rw [hb0]; simp)).2
 have nr : h2 w.heap.size = none := by
  cases hx : h2 w.heap.size with
  | none => rfl
  | some o =>
   have e2 := d2 w.heap.size (by rw [hx]; simp)
   have e3 : w.heap[w.heap.size]? = none := Array.getElem?_eq_none (Nat.le_refl _)
   rw [hx] at e2
   exact absurd (e3.symm.trans e2) (by simp)
 refine ⟨fun k => if k = b \/ k = w.heap.size then w'.heap[k]? else none, h2, ⟨es, clock, since, seen, c0, (if_pos (.inl rfl)).trans hb, F, hs, hD, (if_pos (.inr rfl)).trans hr', rest⟩, hl, fun k hk => ?_, fun k hk => ?_⟩
 ·by_cases e : k = b \/ k = w.heap.size
  ·refine ⟨(if_pos e).symm, ?_⟩
   rcases e with rfl | rfl
   ·exact nb
   ·exact nr
  ·exact absurd (if_neg e) hk
 ·have e1 := d2 k hk
  have hlt : k < w.heap.size := by
   rcases Nat.lt_or_ge k w.heap.size with h | h
   ·exact h
   ·have : w.heap[k]? = none := Array.getElem?_eq_none h
    simp only at e1
    rw [this] at e1
    exact absurd e1.symm hk
  show w'.heap[k]? = h2 k
  rw [hg.block k hlt (by simp)]
  exact e1
end Go.Proofs.YtgbgneiciabidaaGreatDoor
/-
  Trees (layer 12): the pages below a page, in plain Lean.
-/
namespace Go.Proofs.YtgbgneiciabidaaGreatDoor
open Go Go.RowKit
set_option linter.all false
set_option maxHeartbeats 8000000
inductive Reach (Q : Pgs) : Int -> Int -> Prop
 | here {a : Int} : (VMap.get a Q).isSome = true -> Reach Q a a
 | kid {a c b : Int} {g : Pg} : VMap.get a Q = some g -> c ∈ g.n.kids -> Reach Q c b -> Reach Q a b
theorem Reach.some {Q : Pgs} {a b : Int} (h : Reach Q a b) : (VMap.get b Q).isSome = true := by
 induction h with
 | here h => exact h
 | kid _ _ _ ih => exact ih
theorem Reach.lv {es : List Ent} {Q : Pgs} {D : Int -> Nat} (hI : FInv es Q D) {a b : Int} (h : Reach Q a b) : ∀ {g gb : Pg}, VMap.get a Q = .some g -> VMap.get b Q = .some gb -> gb.n.level <= g.n.level := by
 induction h with
 | here h =>
  intro g gb h1 h2
  rw [h1] at h2
  obtain rfl := Option.some.inj h2
  exact Int.le_refl _
 | kid hg hc _ ih =>
  intro g' gb h1 h2
  rw [hg] at h1
  obtain rfl := Option.some.inj h1
  obtain ⟨gc, hgc, hlc⟩ := hI.kid _ _ hg _ hc
  have := ih hgc h2
  omega
def inM (M : List (Int × Int)) (x : Int) : Prop := (VMap.get x M).isSome = true
structure GaOk (Q : Pgs) (M : List (Int × Int)) : Prop where
 up : VMap.Up M
 one : ∀ x v, VMap.get x M = some v -> v = 1 /\ (VMap.get x Q).isSome = true
def Clos (Q : Pgs) (lv : Int) (M : List (Int × Int)) : Prop := ∀ x g, inM M x -> VMap.get x Q = some g -> g.n.level <= lv -> ∀ c ∈ g.n.kids, inM M c
theorem Clos.reach {es : List Ent} {Q : Pgs} {D : Int -> Nat} (hI : FInv es Q D) {lv : Int} {M : List (Int × Int)} (hC : Clos Q lv M) {a b : Int} (h : Reach Q a b) : ∀ {g : Pg}, VMap.get a Q = some g -> g.n.level <= lv -> inM M a -> inM M b := by
 induction h with
 | here _ => exact fun _ _ h => h
 | kid hg hc _ ih =>
  intro g' h1 hl ha
  rw [hg] at h1
  obtain rfl := Option.some.inj h1
  obtain ⟨gc, hgc, hlc⟩ := hI.kid _ _ hg _ hc
  exact ih hgc (by omega) (hC _ _ ha hg hl _ hc)
theorem GaOk.nil (Q : Pgs) : GaOk Q [] := ⟨List.Pairwise.nil, fun x v h => by cases h⟩
theorem Clos.nil (Q : Pgs) (lv : Int) : Clos Q lv [] := fun x g h => by cases h
theorem GaOk.len {Q : Pgs} {M : List (Int × Int)} (h : GaOk Q M) (hu : VMap.Up Q) : M.length <= Q.length := by
 have hnd : (M.map (·.1)).Nodup := List.pairwise_map.2 (h.up.imp fun {a b} hab => by omega)
 have hsub : ∀ x ∈ M.map (·.1), x ∈ Q.map (·.1) := fun x hx => by
  obtain ⟨p, hp, rfl⟩ := List.mem_map.1 hx
  have hg := mem_get h.up hp
  obtain ⟨g, hg'⟩ := Option.isSome_iff_exists.1 (h.one _ _ hg).2
  exact List.mem_map.2 ⟨(p.1, g), get_mem hg', rfl⟩
 have := List.Nodup.length_le_of_subset hnd hsub
 rwa [List.length_map, List.length_map] at this
theorem GaOk.put {Q : Pgs} {M : List (Int × Int)} (h : GaOk Q M) {a : Int} (ha : (VMap.get a Q).isSome = true) : GaOk Q (VMap.put a 1 M) := by
 refine ⟨h.up.put a 1, fun x v hx => ?_⟩
 rw [get_put] at hx
 by_cases e : x = a
 ·rw [if_pos e] at hx
  subst e
  exact ⟨(Option.some.inj hx).symm, ha⟩
 ·rw [if_neg e] at hx
  exact h.one x v hx
theorem inM_put {M : List (Int × Int)} {a x : Int} : inM (VMap.put a 1 M) x ↔ inM M x \/ x = a := by
 unfold inM
 rw [get_put]
 by_cases e : x = a
 ·rw [if_pos e]; simp [e]
 ·rw [if_neg e]; simp [e]
structure GaMid (Q : Pgs) (M : List (Int × Int)) (addr : Int) (lv : Int) (ks : List Int) (M1 : List (Int × Int)) : Prop where
 ok : GaOk Q M1
 clos : Clos Q (lv - 1) M1
 iff : ∀ x, inM M1 x ↔ (inM M x \/ x = addr \/ ∃ c ∈ ks, Reach Q c x)
theorem GaMid.start {Q : Pgs} {M : List (Int × Int)} {addr lv : Int} {g : Pg} (hg : VMap.get addr Q = some g) (hl : g.n.level = lv) (hok : GaOk Q M) (hc : Clos Q lv M) : GaMid Q M addr lv [] (VMap.put addr 1 M) := by
 refine ⟨hok.put (by rw [hg]; rfl), fun x gx hx hgx hlx c hcx => ?_, fun x => ?_⟩
 ·rcases inM_put.1 hx with hx | rfl
  ·exact inM_put.2 (.inl (hc x gx hx hgx (by omega) c hcx))
  ·rw [hg] at hgx
   obtain rfl := Option.some.inj hgx
   omega
 ·rw [inM_put]
  simp
theorem GaMid.next {Q : Pgs} {M M1 M2 : List (Int × Int)} {addr lv : Int} {ks : List Int} {c : Int} (h : GaMid Q M addr lv ks M1) (hok : GaOk Q M2) (hc : Clos Q (lv - 1) M2) (hi : ∀ x, inM M2 x ↔ (inM M1 x \/ Reach Q c x)) : GaMid Q M addr lv (ks ++ [c]) M2 := by
 refine ⟨hok, hc, fun x => ?_⟩
 rw [hi, h.iff]
 constructor
 ·rintro ((h1 | h1 | ⟨d, hd, h1⟩) | h1)
  ·exact .inl h1
  ·exact .inr (.inl h1)
  ·exact .inr (.inr ⟨d, List.mem_append_left _ hd, h1⟩)
  ·exact .inr (.inr ⟨c, by simp, h1⟩)
 ·rintro (h1 | h1 | ⟨d, hd, h1⟩)
  ·exact .inl (.inl h1)
  ·exact .inl (.inr (.inl h1))
  ·rcases List.mem_append.1 hd with hd | hd
   ·exact .inl (.inr (.inr ⟨d, hd, h1⟩))
   ·obtain rfl : d = c := by simpa using hd
    exact .inr h1
theorem GaMid.fin {es : List Ent} {Q : Pgs} {D : Int -> Nat} (hI : FInv es Q D) {M M1 : List (Int × Int)} {addr lv : Int} {g : Pg} (hg : VMap.get addr Q = some g) (hl : g.n.level = lv) (hc : Clos Q lv M) (h : GaMid Q M addr lv g.n.kids M1) : Clos Q lv M1 /\ ∀ x, inM M1 x ↔ (inM M x \/ Reach Q addr x) := by
 refine ⟨fun x gx hx hgx hlx c hcx => ?_, fun x => ?_⟩
 ·rcases Int.lt_or_le gx.n.level lv with h1 | h1
  ·exact h.clos x gx hx hgx (by omega) c hcx
  ·rcases (h.iff x).1 hx with h2 | rfl | ⟨d, hd, h2⟩
   ·exact (h.iff c).2 (.inl (hc x gx h2 hgx hlx c hcx))
   ·rw [hg] at hgx
    obtain rfl := Option.some.inj hgx
    obtain ⟨gc, hgc, _⟩ := hI.kid _ _ hg _ hcx
    exact (h.iff c).2 (.inr (.inr ⟨c, hcx, .here (by rw [hgc]; rfl)⟩))
   ·obtain ⟨gd, hgd, hld⟩ := hI.kid _ _ hg _ hd
    have := h2.lv hI hgd hgx
    omega
 ·rw [h.iff]
  constructor
  ·rintro (h1 | rfl | ⟨c, hc, h1⟩)
   ·exact .inl h1
   ·exact .inr (.here (by rw [hg]; rfl))
   ·exact .inr (.kid hg hc h1)
  ·rintro (h1 | h1)
   ·exact .inl h1
   ·cases h1 with
    | here _ => exact .inr (.inl rfl)
    | kid hg' hc' h2 =>
     rw [hg] at hg'
     obtain rfl := Option.some.inj hg'
     exact .inr (.inr ⟨_, hc', h2⟩)
/-
  Trees (layer 12): the pages of a tree are gathered (gather).
-/
def GaPost (b p bank sp N : Nat) (es : List Ent) (Q : Pgs) (M : List (Int × Int)) (addr lv : Int) (l : List Say) (w : World) (r : Ending) (w' : World) : Prop :=
 Kept w w' /\ r = .returned (.tuple #[]) /\ ∃ M', GaOk Q M' /\ Clos Q lv M' /\ (∀ x, inM M' x ↔ (inM M x \/ Reach Q addr x)) /\ Has w' (imapS b M' :: btS p bank sp N es Q :: l)
def kidsTo (lvI : Int) (vs : List Int) (i : Nat) : List Int := if lvI = 0 then [] else vs.take i
theorem kidsTo_all {lvI : Int} {ks vs : List Int} {k : Nat} (h : vs.length <= k) : kidsTo lvI vs k = (⟨lvI, ks, vs⟩ : Nd).kids := by
 unfold kidsTo
 rw [List.take_of_length_le h]
 rfl
def GaM (w : World) (b p bank sp N r6 : Nat) (es : List Ent) (Q : Pgs) (M : List (Int × Int)) (addr lvI : Int) (ks vs : List Int) (kv vv : Value) (l : List Say) (i : Nat) (wr : World) : Prop :=
 ∃ M1, GaMid Q M addr lvI (kidsTo lvI vs i) M1 /\ Kept w wr /\ Has wr (imapS b M1 :: btS p bank sp N es Q :: pts r6 (.cells #[.int .i64 lvI, kv, vv] 35 (0, 0)) :: intsS kv ks :: intsS vv vs :: l)
def GaC (lv : Nat) : Prop := ∀ {w : World} {l : List Say} {b p bank sp N : Nat} {es : List Ent} {Q : Pgs} {M : List (Int × Int)} (addr : Int) {g : Pg}, Has w (imapS b M :: btS p bank sp N es Q :: l) -> VMap.get addr Q = some g -> g.n.level = (lv : Int) -> GaOk Q M -> Clos Q (lv : Int) M -> Q.length <= 100000 ->
  Calls Tryz.prog 170 #[.pointer (some ⟨p, 0, none⟩), .int .i64 addr, .map (some b)] w (GaPost b p bank sp N es Q M addr (lv : Int) l w)
set_option maxRecDepth 100000 in
theorem gather0 : GaC 0 := by
 intro w l b p bank sp N es Q M addr g h hg hlv hok hcl hql
 rw [<- hlv] at hcl ⊢
 have Hli : Hid (g.n.level = ((0 : Nat) : Int)) := hlv
 have hlp : ¬ (0 : Int) < g.n.level := by omega
 obtain ⟨hI, _⟩ := h.tail.bt_inv
 obtain ⟨ok, _, _⟩ := hI.pg addr g hg
 have hbd := (hI.adr addr (by rw [hg]; rfl)).bd
 obtain ⟨o0, o1, o2, o3, o4⟩ := ok_lens ok
 have HG := Lib.hid (bt_Get h.swap addr (by omega) (by omega))
 have Hg := Lib.hid hg
 have HX := Lib.hid (And.intro hok (And.intro hcl (And.intro hI (And.intro hql True.intro))))
 have hv7 : g.n.vals.length <= 7 := by omega
 have hml := hok.len hI.up
 have hmm : M.length < maxLen := by unfold maxLen; omega
 have hb0 : -9223372036854775808 <= addr := by omega
 have hb1 : addr <= 9223372036854775807 := by omega
 clear h hok hcl hI hql ok hbd o0 o1 o2 o3 o4 hg hlv
 obtain ⟨⟨lvI, keys, vals⟩, ho, he⟩ := g
 have hv7 : vals.length <= 7 := hv7
 have hlp : ¬ (0 : Int) < lvI := hlp
 have hlq : decide ((0 : Int) < lvI) = false := by simp; omega
 have Hli : Hid (lvI = ((0 : Nat) : Int)) := Hli.out
 go_enter Tryz.func170, Tryz.ntmps170
 go_wp2_with fail
 refine HG.out.mono ?_
 rintro r w1 ⟨hK1, (⟨h1, _⟩ | ⟨g', ak, ck, av, cv, h1, rfl, h3⟩)⟩
 ·rw [Hg.out] at h1; cases h1
 rw [Hg.out] at h1
 obtain rfl := Option.some.inj h1
 clear h1 HG
 simp only [Nd.val]
 obtain ⟨n, hn⟩ : ∃ n, vals.length = n := ⟨_, rfl⟩
 obtain ⟨nk, hnk⟩ : ∃ nk, keys.length = nk := ⟨_, rfl⟩
 have h4 : Has w1 (intsS (.slice ak keys.length ck) keys :: intsS (.slice av vals.length cv) vals :: btS p bank sp N es Q :: imapS b M :: l) := h3
 rw [hn, hnk] at h4
 rw [hn] at hv7 ⊢
 rw [hnk]
 have Hn := Lib.hid (And.intro hn hnk)
 clear hn hnk h3
 have h5 := h4.alloc (.cells #[.int .i64 lvI, .slice ak nk ck, .slice av n cv] 35)
 have hk5 := hK1.alloc (.cells #[.int .i64 lvI, .slice ak nk ck, .slice av n cv] 35)
 have h6 : Has (w1.alloc (.cells #[.int .i64 lvI, .slice ak nk ck, .slice av n cv] 35)) (imapS b M :: btS p bank sp N es Q :: pts w1.heap.size (.cells #[.int .i64 lvI, .slice ak nk ck, .slice av n cv] 35 (0, 0)) :: intsS (.slice ak nk ck) keys :: intsS (.slice av n cv) vals :: l) := h5.reord [4, 3, 0]
 have H6 := Lib.hid h6
 have HK := Lib.hid hk5
 clear h4 h5 h6 hK1 hk5
 go_upto_region 1 with fail
 generalize w1.alloc (.cells #[.int .i64 lvI, .slice ak nk ck, .slice av n cv] 35) = W at *
 generalize w1.heap.size = r6 at *
 have hlk := imap_look H6.out (.head _) addr hb0 hb1
 cases hgm : VMap.get addr M with
 | some v =>
  rw [hgm] at hlk
  obtain ⟨rfl, _⟩ := HX.out.1.one addr v hgm
  have HF : Hid (GaPost b p bank sp N es Q M addr lvI l w (.returned (.tuple #[])) W) := by
   obtain ⟨hok, hcl, hI, hql, _⟩ := HX.out
   refine ⟨HK.out, rfl, M, hok, hcl, fun x => ⟨.inl, ?_⟩, ?_⟩
   ·rintro (h | h)
    ·exact h
    ·exact hcl.reach hI h Hg.out (Int.le_refl _) (by unfold inM; rw [hgm]; rfl)
   ·exact Has.skip (A := [_, _]) (M := [_, _, _]) H6.out
  clear H6 HK HX Hg hgm
  go_wp2
  refine bodyPost_ret (v := .tuple #[]) (results_none rfl _ _ _) rfl ?_
  exact HF.out
 | none =>
  rw [hgm] at hlk
  obtain ⟨w2, hst, hK2, h7⟩ := imap_store H6.out hmm addr hb0 hb1 1 hgm
  have hr6 := h7.tail.tail.got
  have s2 : w2.cell? ⟨r6, 2, none⟩ = some (.slice av n cv) := cell_of hr6 2 rfl
  have l6 := World.block_lt_of_cell? _ _ s2
  have HM0 : Hid (GaM w b p bank sp N r6 es Q M addr lvI keys vals (.slice ak nk ck) (.slice av n cv) l 0 w2) := by
   refine ⟨VMap.put addr 1 M, ?_, HK.out.trans hK2, h7⟩
   have h8 := GaMid.start Hg.out rfl HX.out.1 HX.out.2.1
   have h9 : kidsTo (lvI) vals 0 = [] := by unfold kidsTo; split <;> rfl
   rw [h9]
   exact h8
  clear h7 hK2 hr6 H6 hgm HK
  go_wp2
  clear hlk hst
  have hnI : (n : Int) <= 7 := by omega
  go_loopg [29] n (fun gk iv wr => ∃ k : Nat, k <= n /\ gk = n - k /\ iv = .int .i64 k /\ Hid (GaM w b p bank sp N r6 es Q M addr lvI keys vals (.slice ak nk ck) (.slice av n cv) l k wr))
  case atStart => exact ⟨0, Nat.zero_le _, rfl, rfl, HM0⟩
  case round =>
   clear HM0 s2 l6
   obtain ⟨k, hk, rfl, rfl, HM⟩ := hrel
   obtain ⟨M1, hmid, hK, hh⟩ := HM.out
   clear HM
   by_cases hlt : k < n
   ·obtain ⟨_, _, e1, _, hrd⟩ := hh.ints_read (v := .slice av n cv) (xs := vals) (by simp)
    injection e1 with e1 e2 e3
    subst e1
    clear e2 e3
    obtain ⟨gv, rfl, hx1, hx2⟩ := hrd k (by have := Hn.out.1; omega)
    clear hx1 hx2
    obtain ⟨c, hvk⟩ : ∃ c, vals[k]? = some c := ⟨_, List.getElem?_eq_getElem (by have := Hn.out.1; omega)⟩
    have cc := hh.ints_at (g := gv) (n := n) (c := cv) (xs := vals) (by simp) hvk
    have hr6 := hh.tail.tail.got
    have s0 : wr.cell? ⟨r6, 0, none⟩ = some (.int .i64 lvI) := cell_of hr6 0 rfl
    have l6 := World.block_lt_of_cell? _ _ s0
    have lz := World.block_lt_of_cell? _ _ cc
    have kI : (k : Int) < (n : Int) := by omega
    have k0 : (0 : Int) <= k := by omega
    have HM2 : Hid (GaM w b p bank sp N r6 es Q M addr lvI keys vals (.slice ak nk ck) (.slice (some ⟨gv, 0, none⟩) n cv) l (k + 1) wr) := by
     refine ⟨M1, ?_, hK, hh⟩
     rw [show kidsTo lvI vals k = [] from if_pos Hli.out] at hmid
     rw [show kidsTo lvI vals (k + 1) = [] from if_pos Hli.out]
     exact hmid
    clear hh hmid hK hrd hvk hr6
    go_wp2
    go_roundg (n - (k + 1))
    case measure => omega
    case rel => exact ⟨k + 1, by omega, rfl, by go_num, HM2⟩
   ·have hke : k = n := by omega
    have HF : Hid (GaPost b p bank sp N es Q M addr lvI l w (.returned (.tuple #[])) wr) := by
     obtain ⟨hok, hcl, hI, hql, _⟩ := HX.out
     rw [kidsTo_all (ks := keys) (by have := Hn.out.1; omega)] at hmid
     obtain ⟨q1, q2⟩ := hmid.fin hI Hg.out rfl hcl
     exact ⟨hK, rfl, M1, hmid.ok, q1, q2, Has.skip (A := [_, _]) (M := [_, _, _]) hh⟩
    clear hmid hK hh HX Hg
    subst hke
    go_wp2
    refine bodyPost_ret (v := .tuple #[]) (results_none rfl _ _ _) rfl ?_
    exact HF.out
set_option maxRecDepth 100000 in
theorem gatherS {lv : Nat} (ih : GaC lv) : GaC (lv + 1) := by
 intro w l b p bank sp N es Q M addr g h hg hlv hok hcl hql
 rw [<- hlv] at hcl ⊢
 have Hli : Hid (g.n.level = ((lv + 1 : Nat) : Int)) := hlv
 have hlp : (0 : Int) < g.n.level := by omega
 obtain ⟨hI, _⟩ := h.tail.bt_inv
 obtain ⟨ok, _, _⟩ := hI.pg addr g hg
 have hbd := (hI.adr addr (by rw [hg]; rfl)).bd
 obtain ⟨o0, o1, o2, o3, o4⟩ := ok_lens ok
 have HG := Lib.hid (bt_Get h.swap addr (by omega) (by omega))
 have Hg := Lib.hid hg
 have HX := Lib.hid (And.intro hok (And.intro hcl (And.intro hI (And.intro hql True.intro))))
 have hv7 : g.n.vals.length <= 7 := by omega
 have hml := hok.len hI.up
 have hmm : M.length < maxLen := by unfold maxLen; omega
 have hb0 : -9223372036854775808 <= addr := by omega
 have hb1 : addr <= 9223372036854775807 := by omega
 clear h hok hcl hI hql ok hbd o0 o1 o2 o3 o4 hg hlv
 obtain ⟨⟨lvI, keys, vals⟩, ho, he⟩ := g
 have hv7 : vals.length <= 7 := hv7
 have hlp : (0 : Int) < lvI := hlp
 have hlq : decide ((0 : Int) < lvI) = true := by simp; omega
 have Hli : Hid (lvI = ((lv + 1 : Nat) : Int)) := Hli.out
 go_enter Tryz.func170, Tryz.ntmps170
 go_wp2_with fail
 refine HG.out.mono ?_
 rintro r w1 ⟨hK1, (⟨h1, _⟩ | ⟨g', ak, ck, av, cv, h1, rfl, h3⟩)⟩
 ·rw [Hg.out] at h1; cases h1
 rw [Hg.out] at h1
 obtain rfl := Option.some.inj h1
 clear h1 HG
 simp only [Nd.val]
 obtain ⟨n, hn⟩ : ∃ n, vals.length = n := ⟨_, rfl⟩
 obtain ⟨nk, hnk⟩ : ∃ nk, keys.length = nk := ⟨_, rfl⟩
 have h4 : Has w1 (intsS (.slice ak keys.length ck) keys :: intsS (.slice av vals.length cv) vals :: btS p bank sp N es Q :: imapS b M :: l) := h3
 rw [hn, hnk] at h4
 rw [hn] at hv7 ⊢
 rw [hnk]
 have Hn := Lib.hid (And.intro hn hnk)
 clear hn hnk h3
 have h5 := h4.alloc (.cells #[.int .i64 lvI, .slice ak nk ck, .slice av n cv] 35)
 have hk5 := hK1.alloc (.cells #[.int .i64 lvI, .slice ak nk ck, .slice av n cv] 35)
 have h6 : Has (w1.alloc (.cells #[.int .i64 lvI, .slice ak nk ck, .slice av n cv] 35)) (imapS b M :: btS p bank sp N es Q :: pts w1.heap.size (.cells #[.int .i64 lvI, .slice ak nk ck, .slice av n cv] 35 (0, 0)) :: intsS (.slice ak nk ck) keys :: intsS (.slice av n cv) vals :: l) := h5.reord [4, 3, 0]
 have H6 := Lib.hid h6
 have HK := Lib.hid hk5
 clear h4 h5 h6 hK1 hk5
 go_upto_region 1 with fail
 generalize w1.alloc (.cells #[.int .i64 lvI, .slice ak nk ck, .slice av n cv] 35) = W at *
 generalize w1.heap.size = r6 at *
 have hlk := imap_look H6.out (.head _) addr hb0 hb1
 cases hgm : VMap.get addr M with
 | some v =>
  rw [hgm] at hlk
  obtain ⟨rfl, _⟩ := HX.out.1.one addr v hgm
  have HF : Hid (GaPost b p bank sp N es Q M addr lvI l w (.returned (.tuple #[])) W) := by
   obtain ⟨hok, hcl, hI, hql, _⟩ := HX.out
   refine ⟨HK.out, rfl, M, hok, hcl, fun x => ⟨.inl, ?_⟩, ?_⟩
   ·rintro (h | h)
    ·exact h
    ·exact hcl.reach hI h Hg.out (Int.le_refl _) (by unfold inM; rw [hgm]; rfl)
   ·exact Has.skip (A := [_, _]) (M := [_, _, _]) H6.out
  clear H6 HK HX Hg hgm
  go_wp2
  refine bodyPost_ret (v := .tuple #[]) (results_none rfl _ _ _) rfl ?_
  exact HF.out
 | none =>
  rw [hgm] at hlk
  obtain ⟨w2, hst, hK2, h7⟩ := imap_store H6.out hmm addr hb0 hb1 1 hgm
  have hr6 := h7.tail.tail.got
  have s2 : w2.cell? ⟨r6, 2, none⟩ = some (.slice av n cv) := cell_of hr6 2 rfl
  have l6 := World.block_lt_of_cell? _ _ s2
  have HM0 : Hid (GaM w b p bank sp N r6 es Q M addr lvI keys vals (.slice ak nk ck) (.slice av n cv) l 0 w2) := by
   refine ⟨VMap.put addr 1 M, ?_, HK.out.trans hK2, h7⟩
   have h8 := GaMid.start Hg.out rfl HX.out.1 HX.out.2.1
   have h9 : kidsTo (lvI) vals 0 = [] := by unfold kidsTo; split <;> rfl
   rw [h9]
   exact h8
  clear h7 hK2 hr6 H6 hgm HK
  go_wp2
  clear hlk hst
  have hnI : (n : Int) <= 7 := by omega
  go_loopg [29] n (fun gk iv wr => ∃ k : Nat, k <= n /\ gk = n - k /\ iv = .int .i64 k /\ Hid (GaM w b p bank sp N r6 es Q M addr lvI keys vals (.slice ak nk ck) (.slice av n cv) l k wr))
  case atStart => exact ⟨0, Nat.zero_le _, rfl, rfl, HM0⟩
  case round =>
   clear HM0 s2 l6
   obtain ⟨k, hk, rfl, rfl, HM⟩ := hrel
   obtain ⟨M1, hmid, hK, hh⟩ := HM.out
   clear HM
   by_cases hlt : k < n
   ·obtain ⟨_, _, e1, _, hrd⟩ := hh.ints_read (v := .slice av n cv) (xs := vals) (by simp)
    injection e1 with e1 e2 e3
    subst e1
    clear e2 e3
    obtain ⟨gv, rfl, hx1, hx2⟩ := hrd k (by have := Hn.out.1; omega)
    clear hx1 hx2
    obtain ⟨c, hvk⟩ : ∃ c, vals[k]? = some c := ⟨_, List.getElem?_eq_getElem (by have := Hn.out.1; omega)⟩
    have cc := hh.ints_at (g := gv) (n := n) (c := cv) (xs := vals) (by simp) hvk
    have hr6 := hh.tail.tail.got
    have s0 : wr.cell? ⟨r6, 0, none⟩ = some (.int .i64 lvI) := cell_of hr6 0 rfl
    have l6 := World.block_lt_of_cell? _ _ s0
    have lz := World.block_lt_of_cell? _ _ cc
    have kI : (k : Int) < (n : Int) := by omega
    have k0 : (0 : Int) <= k := by omega
    have hlv0 : lvI ≠ 0 := by omega
    have hkt : kidsTo lvI vals k = vals.take k := if_neg hlv0
    rw [hkt] at hmid
    obtain ⟨gc, hgc, hlc⟩ := HX.out.2.2.1.kid _ _ Hg.out c (by
     unfold Nd.kids
     rw [if_neg hlv0]
     exact List.mem_of_getElem? hvk)
    have hlc2 : gc.n.level = (lv : Int) := by
     have : gc.n.level = lvI - 1 := hlc
     have h9 : lvI = ((lv + 1 : Nat) : Int) := Hli.out
     omega
    have hcl1 : Clos Q (lv : Int) M1 := by
     have := hmid.clos
     rwa [show lvI - 1 = (lv : Int) by have h9 : lvI = ((lv + 1 : Nat) : Int) := Hli.out; omega] at this
    have HC := Lib.hid (ih c hh hgc hlc2 hmid.ok hcl1 HX.out.2.2.2.1)
    have Hm := Lib.hid (And.intro hmid (And.intro hK hvk))
    clear hh hmid hK hrd hvk hr6 hkt hgc hlc hlc2 hcl1 hlv0
    go_wp2_with fail
    refine HC.out.mono ?_
    rintro r w5 ⟨hK5, rfl, M2, hok2, hcl2, hi2, h5⟩
    have HM2 : Hid (GaM w b p bank sp N r6 es Q M addr lvI keys vals (.slice ak nk ck) (.slice (some ⟨gv, 0, none⟩) n cv) l (k + 1) w5) := by
     refine ⟨M2, ?_, Hm.out.2.1.trans hK5, h5⟩
     rw [show kidsTo lvI vals (k + 1) = vals.take (k + 1) from if_neg (show lvI ≠ 0 by omega), (take_succ Hm.out.2.2).1]
     refine Hm.out.1.next hok2 ?_ hi2
     rwa [show lvI - 1 = (lv : Int) by have h9 : lvI = ((lv + 1 : Nat) : Int) := Hli.out; omega]
    clear hK5 hok2 hcl2 hi2 h5 HC Hm cc s0 l6 lz
    go_wp2
    go_roundg (n - (k + 1))
    case measure => omega
    case rel => exact ⟨k + 1, by omega, rfl, by go_num, HM2⟩
   ·have hke : k = n := by omega
    have HF : Hid (GaPost b p bank sp N es Q M addr lvI l w (.returned (.tuple #[])) wr) := by
     obtain ⟨hok, hcl, hI, hql, _⟩ := HX.out
     rw [kidsTo_all (ks := keys) (by have := Hn.out.1; omega)] at hmid
     obtain ⟨q1, q2⟩ := hmid.fin hI Hg.out rfl hcl
     exact ⟨hK, rfl, M1, hmid.ok, q1, q2, Has.skip (A := [_, _]) (M := [_, _, _]) hh⟩
    clear hmid hK hh HX Hg
    subst hke
    go_wp2
    refine bodyPost_ret (v := .tuple #[]) (results_none rfl _ _ _) rfl ?_
    exact HF.out
theorem gather_lv : ∀ lv : Nat, GaC lv
 | 0 => gather0
 | lv + 1 => gatherS (gather_lv lv)
end Go.Proofs.YtgbgneiciabidaaGreatDoor
/-
  slices.Sort at a row of numbers that is owned; the pages of a tree (btree.Pages).
-/
namespace Go.Proofs.YtgbgneiciabidaaGreatDoor
open Go Go.RowKit Go.Maps
set_option linter.all false
set_option maxHeartbeats 8000000
def leZ (x y : Int) : Bool := decide (x <= y)
theorem sort_ints {w : World} {l : List Say} {v : Value} {ss : List Int} (h : Has w (intsS v ss :: l)) (hl : ss.length <= 1000000) :
  Calls Tryz.prog 153 #[v] w (fun r w' => r = .returned (.tuple #[]) /\ Kept w w' /\ Has w' (intsS v (ss.mergeSort leZ) :: l)) := by
 have hms : (ss.mergeSort leZ).length = ss.length := List.length_mergeSort ss
 have hown := h.row_own (.head _)
 obtain ⟨h1, hc⟩ := hown
 rcases hc with ⟨rfl, h0⟩ | ⟨g, cap, cur, rfl, _, hg, hn, hcm, hcs, htk⟩
 ·refine (AnyM.slices_Sort_int_none Tryz.sortA none 0 w).mono ?_
  rintro r w' ⟨rfl, rfl⟩
  obtain rfl : ss = [] := List.eq_nil_of_length_eq_zero h0
  have e : ([] : List Int).mergeSort leZ = [] := by simp
  rw [e]
  exact ⟨rfl, Kept.refl _, h⟩
 ·have htk' : List.take ss.length cur.toList = ss.map (Value.int .i64) := by
   rw [Nat.mul_one] at htk
   exact htk
  refine (AnyM.slices_Sort_int Tryz.sortA g 0 cap ss w (holds_of_blockI hg htk') (Array.getElem?_eq_some_iff.1 hg).1 (by omega)).mono ?_
  rintro r w' ⟨rfl, n, os, rfl⟩
  have hgr := grownBy_sortedI (w := w) (g := g) (n := n) (os := os) (ss.mergeSort leZ).toArray
  have hrow := ownsRow_sortedI (w := w) (n := n) (os := os) (base := 0) (ts := ss.mergeSort leZ) hms (Nat.zero_le g) hg hn hcm hcs
  refine ⟨rfl, .grown hgr, ?_⟩
  have e1 : Sort.grow (Sort.putRow (Value.int .i64) (Sort.ahead w n) g 0 (ss.mergeSort fun x y => decide (x <= y)).toArray) os = Sort.grow (Sort.putRow (Value.int .i64) (Sort.ahead w n) g 0 (ss.mergeSort leZ).toArray) os := rfl
  rw [e1]
  generalize Sort.grow (Sort.putRow (Value.int .i64) (Sort.ahead w n) g 0 (ss.mergeSort leZ).toArray) os = w' at *
  obtain ⟨p1, p2, ⟨hl1, hcase⟩, hl2, d1, d2⟩ := h
  rcases hcase with ⟨hv, _⟩ | ⟨g', cap', cur', hv, hp1g, _⟩
  ·cases hv
  ·cases hv
   have ng : p2 g = none := (d1 g (by rw [hp1g]; simp)).2
   obtain ⟨k1, k2⟩ := hrow
   rcases k2 with ⟨hv, _⟩ | ⟨g2, cap2, cur2, hv, _, hg2, q1, q2, q3, q4⟩
   ·cases hv
   ·cases hv
    refine ⟨fun k => if k = g then w'.heap[g]? else none, p2, ?_, hl2, fun k hk => ?_, fun k hk => ?_⟩
    ·show rowS 3 1 (.slice (some ⟨g, 0, none⟩) ss.length cap) (ss.mergeSort leZ).length ((ss.mergeSort leZ).map intVal) _
     rw [hms]
     exact ⟨k1, .inr ⟨g, cap, cur2, rfl, (if_pos rfl).trans hg2, q1, q2, q3, q4⟩⟩
    ·by_cases e : k = g
     ·subst e
      exact ⟨(if_pos rfl).symm, ng⟩
     ·exact absurd (if_neg e) hk
    ·have e1 := d2 k hk
     have hlt : k < w.heap.size := by
      rcases Nat.lt_or_ge k w.heap.size with h | h
      ·exact h
      ·have e3 : w.heap[k]? = none := Array.getElem?_eq_none h
       exact absurd (e1.symm.trans e3) hk
     have hne : some k ≠ some g := fun e => by
      have e2 : k = g := Option.some.inj e
      rw [e2] at hk
      exact hk ng
     show w'.heap[k]? = p2 k
     rw [hgr.block k hlt hne]
     exact e1
structure Met (M : List (Int × Int)) (left : Lit -> Bool) (ss : List Int) : Prop where
 two : ss.Nodup
 iff : ∀ x, x ∈ ss ↔ (inM M x /\ left (.int .i64 x) = false)
theorem Met.start {M : List (Int × Int)} : Met M (Maps.has (dataI M)) [] := by
 refine ⟨List.nodup_nil, fun x => ⟨fun h => (nomatch h), fun hx => ?_⟩⟩
 obtain ⟨h, hl⟩ := hx
 exfalso
 obtain ⟨v, hv⟩ := Option.isSome_iff_exists.1 h
 have hm := get_mem hv
 have : Maps.has (dataI M) (.int .i64 x) = true := by
  simp only [Maps.has, dataI]
  rw [List.any_eq_true]
  refine ⟨litE (x, intVal v), List.mem_map.2 ⟨(x, intVal v), List.mem_map.2 ⟨(x, v), hm, rfl⟩, rfl⟩, ?_⟩
  simp [litE, Lit.sameKey]
 rw [this] at hl
 cases hl
theorem Met.step {M : List (Int × Int)} {left : Lit -> Bool} {ss : List Int} (h : Met M left ss) {x : Int} (hl : left (.int .i64 x) = true) (hx : inM M x) : Met M (fun z => left z && !z.sameKey (.int .i64 x)) (ss ++ [x]) := by
 have hno : x ∉ ss := fun hm => by
  have := ((h.iff x).1 hm).2
  rw [hl] at this
  cases this
 refine ⟨List.nodup_append.2 ⟨h.two, by simp, fun a ha b hb => ?_⟩, fun y => ?_⟩
 ·obtain rfl : b = x := by simpa using hb
  exact fun e => hno (e ▸ ha)
 ·have hk : (Lit.int .i64 y).sameKey (.int .i64 x) = decide (y = x) := by
   rw [Bool.eq_iff_iff]
   simp [Lit.sameKey]
  rw [List.mem_append, h.iff, hk]
  by_cases e : y = x
  ·subst e
   simp [hx]
  ·simp [e]
def BpPost (p bank sp N : Nat) (es : List Ent) (Q : Pgs) (S : Int -> Prop) (l : List Say) (w : World) (r : Ending) (w' : World) : Prop :=
 ∃ v Z, r = .returned v /\ Kept w w' /\ Z.Pairwise (fun a b : Int => a < b) /\ (∀ x, x ∈ Z ↔ S x) /\ Has w' (intsS v Z :: btS p bank sp N es Q :: l)
theorem Met.fin {M : List (Int × Int)} {left : Lit -> Bool} {ss : List Int} (h : Met M left ss) (h0 : ∀ kl, left kl = false) : (ss.mergeSort leZ).Pairwise (fun a b : Int => a < b) /\ ∀ x, x ∈ ss.mergeSort leZ ↔ inM M x := by
 have hp := List.mergeSort_perm ss leZ
 refine ⟨?_, fun x => ?_⟩
 ·have hs : (ss.mergeSort leZ).Pairwise (fun a b => leZ a b = true) := List.pairwise_mergeSort (le := leZ) (fun a b c => by simp only [leZ, decide_eq_true_eq]; omega) (fun a b => by simp only [leZ, Bool.or_eq_true, decide_eq_true_eq]; omega) ss
  have hn : (ss.mergeSort leZ).Nodup := hp.nodup_iff.2 h.two
  refine (hs.and hn).imp fun {a b} hab => ?_
  have h1 : a <= b := by simpa [leZ] using hab.1
  have h2 : a ≠ b := hab.2
  omega
 ·rw [hp.mem_iff, h.iff, h0]
  simp
end Go.Proofs.YtgbgneiciabidaaGreatDoor
