/-
  Trees (layer 12): a key goes (Delete).
-/
import Derived.Test.YtgbgneiciabidaaGreatDoorGs27
namespace Go.Proofs.YtgbgneiciabidaaGreatDoor
open Go Go.RowKit
set_option linter.all false
set_option maxHeartbeats 8000000
set_option maxRecDepth 100000 in
theorem bt_Find0 {w : World} {l : List Say} {p bank sp N : Nat} {es : List Ent} {Q : Pgs} (key : Int) (h : Has w (btS p bank sp N es Q :: l)) :
  Calls Tryz.prog 47 #[.pointer (some ⟨p, 0, none⟩), .int .i64 0, .int .i64 key] w (FoundPost p bank sp N es Q [] key l w) := by
 obtain ⟨hI, _⟩ := h.bt_inv
 have HG := Lib.hid (bt_Get h 0 (by omega) (by omega))
 have H0 : Hid (VMap.get 0 Q = none) := by
  show _ = _
  cases hg : VMap.get 0 Q with
  | none => rfl
  | some g => have := (hI.adr 0 (by rw [hg]; rfl)).bd; omega
 clear h hI
 go_enter Tryz.func47, Tryz.ntmps47
 go_wp2
 go_step3
 go_wp2
 go_step3
 go_wp2_with fail
 refine HG.out.mono ?_
 rintro r w1 ⟨hK1, (⟨_, rfl, h3⟩ | ⟨g', ak, ck, av, cv, h1, rfl, h3⟩)⟩
 ·have h4 := h3.alloc (.cells #[.int .i64 0, .slice none 0 0, .slice none 0 0] 35)
  have hk4 := hK1.alloc (.cells #[.int .i64 0, .slice none 0 0, .slice none 0 0] 35)
  have HFd := Lib.hid (node_Find ⟨0, [], []⟩ (w := w1.alloc (.cells #[.int .i64 0, .slice none 0 0, .slice none 0 0] 35)) (kv := .slice none 0 0) (vv := .slice none 0 0) ((h4.row_nil 3 1).rd (xs := []) (.head _)) List.Pairwise.nil (by simp) key)
  have H4 := Lib.hid h4
  have HK4 := Lib.hid hk4
  clear h3 h4 hK1 hk4 HG
  simp only [Nd.val, nodeZero, errV] at HFd ⊢
  rw [show ([] : List Int)[lowB [] key]? = none from rfl, if_neg (by simp)] at HFd
  go_wp2_with fail
  refine HFd.out.mono ?_
  rintro r w2 ⟨rfl, hb2⟩
  have h5 := H4.out.below hb2
  have HF : Hid (FoundPost p bank sp N es Q [] key l w (.returned (.tuple #[.int .i64 0, .bool false])) w2) := ⟨HK4.out.trans (Kept.below hb2), rfl, h5.tail⟩
  clear hb2 HFd H4 HK4 h5 H0
  go_wp2
  rw [Exit.noGoto_ret]
  go_ret2
  exact HF.out
 ·rw [H0.out] at h1; cases h1
theorem bt_FindR {w : World} {l : List Say} {p bank sp N : Nat} {es : List Ent} {Q : Pgs} (root key : Int) {L : List KV} {s : Nat} (h : Has w (btS p bank sp N es Q :: l)) (hR : Root Q root L s) :
  Calls Tryz.prog 47 #[.pointer (some ⟨p, 0, none⟩), .int .i64 root, .int .i64 key] w (FoundPost p bank sp N es Q L key l w) := by
 rcases hR.it with ⟨rfl, rfl, rfl⟩ | ⟨lv, hT, hs, _⟩
 ·exact bt_Find0 key h
 ·exact bt_Find root key h hT hs
def DelPost (p bank sp N : Nat) (es : List Ent) (Q : Pgs) (root key : Int) (L : List KV) (s : Nat) (l : List Say) (w : World) (r : Ending) (w' : World) : Prop :=
 (getK L key = none /\ r = .returned (.tuple #[.int .i64 0, errV 81]) /\ Kept w w' /\ Has w' (btS p bank sp N es Q :: l)) \/
 ((∃ v, getK L key = some v) /\ TreePost p bank sp N es Q root (delL L key) s l w r w')
theorem getK_mem {L : List KV} {k v : Int} (h : getK L k = some v) : ∃ x ∈ L, x.1 = k := by
 unfold getK at h
 obtain ⟨x, hx, _⟩ := Option.map_eq_some_iff.1 h
 exact ⟨x, List.mem_of_find?_eq_some hx, by simpa using List.find?_some hx⟩
set_option maxRecDepth 100000 in
theorem bt_Delete {w : World} {l : List Say} {p bank sp N : Nat} {es : List Ent} {Q : Pgs} (root key : Int) {L : List KV} {s : Nat} (h : Has w (btS p bank sp N es Q :: l)) (ht : Tab l) (hR : Root Q root L s) (hL : Live Q) (hN : N <= 200000) (hs : s <= 900000) :
  Calls Tryz.prog 44 #[.pointer (some ⟨p, 0, none⟩), .int .i64 root, .int .i64 key] w (DelPost p bank sp N es Q root key L s l w) := by
 have hA := h.alloc (.cells #[.int .i64 key] 3)
 have hKA := (Kept.refl w).alloc (.cells #[.int .i64 key] 3)
 have HF := Lib.hid (bt_FindR root key hA.swap hR)
 have HKA := Lib.hid hKA
 have H0 := Lib.hid (And.intro ht (And.intro hR (And.intro hL (And.intro hN hs))))
 have b1 : (w.alloc (.cells #[.int .i64 key] 3)).cell? ⟨w.heap.size, 0, none⟩ = some (.int .i64 key) := cell_of hA.got 0 rfl
 clear h ht hR hL hN hs hA hKA
 go_enter Tryz.func44, Tryz.ntmps44
 go_wp2_with fail
 generalize w.alloc (.cells #[.int .i64 key] 3) = W at *
 generalize w.heap.size = bk at *
 refine HF.out.mono ?_
 rintro r w1 ⟨hK1, rfl, h1⟩
 have hK := HKA.out.trans hK1
 have b2 : w1.cell? ⟨bk, 0, none⟩ = some (.int .i64 key) := cell_of (h1.at (b := bk) (o := .cells #[.int .i64 key] 3 (0, 0)) (by simp)) 0 rfl
 have l2 := World.block_lt_of_cell? _ _ b2
 clear b1 HF HKA hK1
 unfold foundV
 cases hk : getK L key with
 | none =>
  have HX : Hid (DelPost p bank sp N es Q root key L s l w (.returned (.tuple #[.int .i64 0, errV 81])) w1) := .inl ⟨hk, rfl, hK, h1.swap.tail⟩
  clear hk hK h1 H0
  simp only [errV] at HX ⊢
  go_wp2
  go_ret2
  exact HX.out
 | some v =>
  obtain ⟨ht, hR, hL, hN, hs⟩ := H0.out
  rcases hR.it with ⟨rfl, rfl, rfl⟩ | ⟨lv, hT, hsr, hheld⟩
  ·cases hk
  ·have hlv := lv_lt hT.weighs.2 (by omega)
   obtain ⟨g0, hg0, _⟩ := heldOf_some hheld
   have hbd0 := (h1.bt_inv.1.adr root (by rw [hg0]; rfl)).bd
   have HR := Lib.hid (bt_run root key (ChgOk.del key) (del_leaf key bk) (by
    intro A hA
    simp only [List.mem_cons, List.not_mem_nil, or_false] at hA
    subst hA
    exact .head _) h1 ht.cons hT hsr (fun _ => getK_mem hk) hL hheld hN (by omega))
   have HX : Hid (∀ r w3, RunPost p bank sp N es Q root (delL L key) lv (s + 0) (boxS bk key :: l) w1 r w3 -> DelPost p bank sp N es Q root key L s l w r w3) := fun r w3 hr => .inr ⟨⟨v, hk⟩, RunPost.tree (m := [boxS bk key]) hr (by omega) (by omega) hK (by omega)⟩
   clear hk hK h1 H0 ht hR hL hN hs hT hsr hheld hlv hg0 hbd0
   go_wp2_with fail
   refine HR.out.mono ?_
   rintro r w3 hpost
   have HE := Lib.hid (HX.out r w3 hpost)
   obtain ⟨x, y, rfl⟩ : ∃ x y, r = .returned (.tuple #[x, y]) := by
    obtain ⟨_, _, _, _, (⟨h, _⟩ | ⟨_, _, h, _⟩)⟩ := hpost <;> exact ⟨_, _, h⟩
   clear hpost HX HR
   go_wp2
   go_ret2
   exact HE.out
/-
  Trees (layer 12): the closure that gathers items.
-/
theorem may_items1 : May 103 := ⟨Tryz.f103, Tryz.func103, by kernel_rfl, by kernel_rfl⟩
def wkL (ob lb : Nat) (ov : Value) (acc : List KV) (lim : Int) (l : List Say) : List Say := pts ob (.cells #[ov] 75 (0, 0)) :: pairsS ov acc :: boxS lb lim :: l
def ItPost (ob lb : Nat) (acc : List KV) (lim : Int) (b : Bool) (l : List Say) (w : World) (r : Ending) (w' : World) : Prop :=
 Kept w w' /\ r = .returned (.bool b) /\ ∃ ov, Has w' (wkL ob lb ov acc lim l)
set_option maxRecDepth 100000 in
theorem items1 {w : World} {l : List Say} {ob lb : Nat} {ov : Value} {acc : List KV} (lim k v : Int) (h : Has w (wkL ob lb ov acc lim l)) (hn : acc.length <= 100000) :
  Calls Tryz.prog 103 #[.agg #[.int .i64 k, .int .i64 v], .pointer (some ⟨ob, 0, none⟩), .pointer (some ⟨lb, 0, none⟩)] w (ItPost ob lb (acc ++ [(k, v)]) lim (!((acc.length : Int) + 1 == lim)) l w) := by
 obtain ⟨i0, I1, I2, I3, I4⟩ := info_parts info_pair
 unfold wkL at h
 obtain ⟨oa, oc, rfl, _⟩ := h.row_val (v := ov) (.tail _ (.head _))
 have hA := (h.alloc (.cells #[.int .i64 k, .int .i64 v] 87)).alloc (.cells #[.int .i64 k, .int .i64 v] 87)
 have hKA := ((Kept.refl w).alloc (.cells #[.int .i64 k, .int .i64 v] 87)).alloc (.cells #[.int .i64 k, .int .i64 v] 87)
 simp only [World.size_alloc] at hA
 have z0 : w.cell? ⟨ob, 0, none⟩ = some (.slice oa acc.length oc) := cell_of h.got 0 rfl
 have zl : w.cell? ⟨lb, 0, none⟩ = some (.int .i64 lim) := cell_of (h.at (b := lb) (o := .cells #[.int .i64 lim] 3 (0, 0)) (by simp [boxS])) 0 rfl
 have lz := World.block_lt_of_cell? _ _ z0
 have ll := World.block_lt_of_cell? _ _ zl
 have hsrc : ∀ j u, ([Value.int .i64 k, Value.int .i64 v])[j]? = some u -> ((w.alloc (.cells #[.int .i64 k, .int .i64 v] 87)).alloc (.cells #[.int .i64 k, .int .i64 v] 87)).cell? ((⟨w.heap.size + 1, 0, none⟩ : Addr).add j) = some u := fun j u hu => by
  rw [Addr.add_lit, Nat.zero_add]
  exact cell_of hA.got j (by simpa using hu)
 have h6 : Has ((w.alloc (.cells #[.int .i64 k, .int .i64 v] 87)).alloc (.cells #[.int .i64 k, .int .i64 v] 87)) (rowS 87 2 (.slice oa acc.length oc) acc.length (acc.flatMap pairCells) :: pts ob (.cells #[.slice oa acc.length oc] 75 (0, 0)) :: boxS lb lim :: l) := (hA.tail.tail).swap
 have H6 := Lib.hid h6
 have HK := Lib.hid hKA
 have Hsrc := Lib.hid hsrc
 obtain ⟨na, hna⟩ : ∃ na, na = acc.length := ⟨_, rfl⟩
 rw [<- hna] at z0 H6 hn
 have Hna := Lib.hid hna
 have hgoal : Hid (((acc.length : Int) + 1 == lim) = (((na + 1 : Nat) : Int) == lim)) := by show _ = _; rw [hna]; rfl
 rw [hgoal.out]
 clear h hA hKA hsrc h6 hna hgoal
 go_enter Tryz.func103, Tryz.ntmps103
 go_upto_region 2 with (at_builtin; refine wpList_append_row rfl (.tmp 5) (.tmp 7) 75 rfl 87 i0 (.agg #[.int .i64 0, .int .i64 0]) 2 16 Tryz.underlying75 I1 I2 I3 I4 rfl (by decide) _ _ (acc.flatMap pairCells) rfl H6.out ⟨w.heap.size + 1, 0, none⟩ 1 1 [.int .i64 k, .int .i64 v] rfl rfl Hsrc.out (by simp [Value.oneCell']) (by simp [maxLen]; omega) (by omega) ?_; intro v' w' hK2 hh; obtain ⟨oa', oc', rfl, hx'⟩ := hh.row_val (v := v') (.head _); clear hx'; have hob := hh.at (b := ob) (o := .cells #[.slice oa na oc] 75 (0, 0)) (by simp); have z1 : w'.cell? ⟨ob, 0, none⟩ = some (.slice oa na oc) := cell_of hob 0 rfl; have f1 := thaw_of hob 0; have l1 := World.block_lt_of_cell? _ _ z1; have HK2 := Lib.hid hK2; have Hz := Lib.hid hh; clear hK2 hh hob)
 have h7 := (Hz.out.reord [1]).setCell 0 (.slice oa' (na + 1) oc')
 have hk7 := (HK.out.trans HK2.out).setCell ⟨ob, 0, none⟩ (.slice oa' (na + 1) oc')
 simp only [List.setIfInBounds_toArray, List.set_cons_zero] at h7
 clear Hz HK2 HK Hsrc H6 z1 f1 l1
 generalize w'.setCell ⟨ob, 0, none⟩ (.slice oa' (na + 1) oc') = V2 at *
 have y0 : V2.cell? ⟨ob, 0, none⟩ = some (.slice oa' (na + 1) oc') := cell_of h7.got 0 rfl
 have yl : V2.cell? ⟨lb, 0, none⟩ = some (.int .i64 lim) := cell_of (h7.at (b := lb) (o := .cells #[.int .i64 lim] 3 (0, 0)) (by simp [boxS, reord])) 0 rfl
 have m0 := World.block_lt_of_cell? _ _ y0
 have ml := World.block_lt_of_cell? _ _ yl
 have HF : Hid (ItPost ob lb (acc ++ [(k, v)]) lim (!((na : Int) + 1 == lim)) l w (.returned (.bool (!((na : Int) + 1 == lim)))) V2) := by
  refine ⟨hk7, rfl, .slice oa' (na + 1) oc', ?_⟩
  have e1 : acc.flatMap pairCells ++ [Value.int .i64 k, Value.int .i64 v] = (acc ++ [(k, v)]).flatMap pairCells := by
   rw [List.flatMap_append]
   simp [pairCells]
  rw [e1] at h7
  unfold wkL pairsS
  rw [List.length_append, List.length_singleton, <- Hna.out]
  exact h7
 clear h7 hk7 Hna
 go_wp2
 go_ret
 exact HF.out
/-
  Trees (layer 12): items from a key on, in plain Lean.
-/
def feed (lim : Int) : List KV -> List KV -> List KV × Bool
 | acc, [] => (acc, true)
 | acc, x :: T => if (acc.length : Int) + 1 = lim then (acc ++ [x], false) else feed lim (acc ++ [x]) T
theorem feed_cons (lim : Int) (acc : List KV) (x : KV) (T : List KV) : feed lim acc (x :: T) = if (acc.length : Int) + 1 = lim then (acc ++ [x], false) else feed lim (acc ++ [x]) T := rfl
theorem feed_app (lim : Int) : ∀ (acc A B : List KV), feed lim acc (A ++ B) = if (feed lim acc A).2 = true then feed lim (feed lim acc A).1 B else feed lim acc A
 | acc, [], B => by simp [feed]
 | acc, x :: A, B => by
  rw [List.cons_append, feed_cons, feed_cons]
  by_cases h : (acc.length : Int) + 1 = lim
  ·simp [h]
  ·rw [if_neg h, if_neg h]
   exact feed_app lim _ A B
theorem feed_len (lim : Int) : ∀ (acc A : List KV), (feed lim acc A).1.length <= acc.length + A.length
 | acc, [] => by simp [feed]
 | acc, x :: A => by
  unfold feed
  split
  ·simp
  ·have := feed_len lim (acc ++ [x]) A
   simp at this ⊢
   omega
theorem feed_all {lim : Int} (h : lim < 0) : ∀ (acc A : List KV), feed lim acc A = (acc ++ A, true)
 | acc, [] => by simp [feed]
 | acc, x :: A => by
  unfold feed
  rw [if_neg (by omega), feed_all h]
  simp
def fromL (k : Int) (L : List KV) : List KV := L.filter fun p => decide (k <= p.1)
theorem fromL_app (k : Int) (A B : List KV) : fromL k (A ++ B) = fromL k A ++ fromL k B := List.filter_append ..
theorem fromL_len (k : Int) (A : List KV) : (fromL k A).length <= A.length := List.length_filter_le ..
theorem fromL_one (k : Int) (x : KV) (T : List KV) : fromL k (x :: T) = if k <= x.1 then x :: fromL k T else fromL k T := by
 unfold fromL
 rw [List.filter_cons]
 by_cases h : k <= x.1 <;> simp [h]
theorem fromL_none {k : Int} {A : List KV} (h : ∀ p ∈ A, p.1 < k) : fromL k A = [] := List.filter_eq_nil_iff.2 fun p hp => by have := h p hp; simp; omega
theorem take_succ {α : Type} {l : List α} {i : Nat} {x : α} (h : l[i]? = some x) : l.take (i + 1) = l.take i ++ [x] /\ l = l.take i ++ x :: l.drop (i + 1) := by
 obtain ⟨hlt, e⟩ := List.getElem?_eq_some_iff.1 h
 refine ⟨by rw [List.take_succ_eq_append_getElem hlt, e], ?_⟩
 conv => lhs; rw [<- List.take_append_drop i l]
 rw [List.drop_eq_getElem_cons hlt, e]
theorem TrG.next {T : Int -> List KV -> Nat -> Prop} {ps L LA LB : List KV} {sA sB : Nat} {i : Nat} {p : KV} (hp : ps[i]? = some p) (hA : TrG T (ps.take i) LA sA) (hB : TrG T (ps.drop i) LB sB) (hL : L = LA ++ LB) (hs : Srt L) :
  ∃ LM sM LC sC, T p.2 LM sM /\ Srt LM /\ LB = LM ++ LC /\ TrG T (ps.take (i + 1)) (LA ++ LM) (sA + sM) /\ TrG T (ps.drop (i + 1)) LC sC /\ ∀ q, ps[i + 1]? = some q -> ∀ x ∈ LM, x.1 < q.1 := by
 obtain ⟨hlt, e⟩ := List.getElem?_eq_some_iff.1 hp
 rw [List.drop_eq_getElem_cons hlt, e] at hB
 obtain ⟨LM, LC, sM, sC, q1, q2, q3, rfl, rfl⟩ := hB.one
 subst hL
 refine ⟨LM, sM, LC, sC, q1, hs.right.left, rfl, ?_, q3, fun q hq x hx => ?_⟩
 ·rw [(take_succ hp).1]
  exact hA.app (TrG.single (k := p.1) q1 q2)
 ·obtain ⟨hlt2, e2⟩ := List.getElem?_eq_some_iff.1 hq
  rw [List.drop_eq_getElem_cons hlt2, e2] at q3
  obtain ⟨y, hy, hyk⟩ := head_mem (TrG.head q3)
  have := hs.right.lt hx hy
  omega
/-
  Trees (layer 12): items from a key on (walk), at a leaf.
-/
def items1V (ob lb : Nat) : Value := .func (.func 103) #[] #[.pointer (some ⟨ob, 0, none⟩), .pointer (some ⟨lb, 0, none⟩)]
def WalkPost (ob lb p bank sp N : Nat) (es : List Ent) (Q : Pgs) (lim : Int) (acc T : List KV) (l : List Say) (w : World) (r : Ending) (w' : World) : Prop :=
 Kept w w' /\ r = .returned (.bool (feed lim acc T).2) /\ ∃ ov, Has w' (btS p bank sp N es Q :: wkL ob lb ov (feed lim acc T).1 lim l)
def WalkC (lv : Nat) : Prop := ∀ {w : World} {l : List Say} {ob lb p bank sp N : Nat} {es : List Ent} {Q : Pgs} {ov : Value} {acc : List KV} {lim : Int} (addr fr : Int) {L : List KV} {s : Nat},
 Has w (btS p bank sp N es Q :: wkL ob lb ov acc lim l) -> Tr Q lv addr L s -> Srt L -> acc.length + L.length <= 100000 ->
 Calls Tryz.prog 102 #[.pointer (some ⟨p, 0, none⟩), .int .i64 addr, .int .i64 fr, items1V ob lb] w (WalkPost ob lb p bank sp N es Q lim acc (fromL fr L) l w)
def WkM (w : World) (ob lb p bank sp N : Nat) (es : List Ent) (Q : Pgs) (lim fr : Int) (acc L : List KV) (l : List Say) (wr : World) : Prop :=
 ∃ ov, Kept w wr /\ (feed lim acc (fromL fr L)).2 = true /\ Has wr (btS p bank sp N es Q :: wkL ob lb ov (feed lim acc (fromL fr L)).1 lim l)
set_option maxRecDepth 100000 in
theorem walk0 : WalkC 0 := by
 intro w l ob lb p bank sp N es Q ov acc lim addr fr L s h hT hs hlen
 obtain ⟨hI, _⟩ := h.bt_inv
 obtain ⟨g, hg, hlv, rfl, rfl⟩ := hT
 obtain ⟨ok, _, _⟩ := hI.pg addr g hg
 have hbd := (hI.adr addr (by rw [hg]; rfl)).bd
 obtain ⟨o0, o1, o2, o3, o4⟩ := ok_lens ok
 have hpn := ok_pairs ok
 have HG := Lib.hid (bt_Get h addr (by omega) (by omega))
 have Hg := Lib.hid hg
 have HX := Lib.hid (And.intro hlen (And.intro hpn (And.intro o2 (And.intro o3 o4))))
 have hcall : ∀ (vs : Array Value) (w : World), (callFunc 103 vs).run Tryz.prog w = .ok (.enter 103 vs) w := fun vs w => may_items1.run vs w
 clear h hg hI hs hlen ok hbd o0 o1 o2 o3 o4 hpn
 obtain ⟨⟨lvI, keys, vals⟩, ho, he⟩ := g
 have hlv : lvI = 0 := hlv
 subst hlv
 unfold items1V
 go_enter Tryz.func102, Tryz.ntmps102
 go_wp2_with fail
 refine HG.out.mono ?_
 rintro r w1 ⟨hK1, (⟨h1, _⟩ | ⟨g', ak, ck, av, cv, h1, rfl, h3⟩)⟩
 ·rw [Hg.out] at h1; cases h1
 rw [Hg.out] at h1
 obtain rfl := Option.some.inj h1
 clear h1 HG
 simp only [Nd.val]
 have hx := HX.out
 obtain ⟨hlen, hpn, o2, o3, o4⟩ := hx
 try simp only at o2 o3 o4
 obtain ⟨ka, kc, e1, _, hrk⟩ := h3.ints_read (v := .slice ak keys.length ck) (xs := keys) (by simp)
 injection e1 with e1 e2 e3
 subst e1
 clear e2 e3
 obtain ⟨gk, rfl, kc0, _⟩ := hrk 0 (by omega)
 obtain ⟨va, vc, e1, _, hrv⟩ := h3.ints_read (v := .slice av vals.length cv) (xs := vals) (by simp)
 injection e1 with e1 e2 e3
 subst e1
 clear e2 e3
 obtain ⟨gv, rfl, vc0, _⟩ := hrv 0 (by omega)
 clear hrk hrv kc0 vc0
 have h4 := h3.alloc (.cells #[.int .i64 0, .slice (some ⟨gk, 0, none⟩) keys.length ck, .slice (some ⟨gv, 0, none⟩) vals.length cv] 35)
 have hk4 := hK1.alloc (.cells #[.int .i64 0, .slice (some ⟨gk, 0, none⟩) keys.length ck, .slice (some ⟨gv, 0, none⟩) vals.length cv] 35)
 have hM : WkM w ob lb p bank sp N es Q lim fr acc ((⟨0, keys, vals⟩ : Nd).pairs.take 0) (pts w1.heap.size (.cells #[.int .i64 0, .slice (some ⟨gk, 0, none⟩) keys.length ck, .slice (some ⟨gv, 0, none⟩) vals.length cv] 35 (0, 0)) :: intsS (.slice (some ⟨gk, 0, none⟩) keys.length ck) keys :: intsS (.slice (some ⟨gv, 0, none⟩) vals.length cv) vals :: l) (w1.alloc (.cells #[.int .i64 0, .slice (some ⟨gk, 0, none⟩) keys.length ck, .slice (some ⟨gv, 0, none⟩) vals.length cv] 35)) :=
  ⟨ov, hk4, rfl, h4.reord [3, 3, 3, 3]⟩
 have HM := Lib.hid hM
 clear h3 h4 hK1 hk4 hM hlen hpn
 obtain ⟨n, hn⟩ : ∃ n, keys.length = n := ⟨_, rfl⟩
 have hvn : vals.length = n := by omega
 have Hn := Lib.hid (And.intro hn hvn)
 have hn7 : n <= 7 := by omega
 have n0 : (w1.alloc (.cells #[.int .i64 0, .slice (some ⟨gk, 0, none⟩) n ck, .slice (some ⟨gv, 0, none⟩) n cv] 35)).cell? ⟨w1.heap.size, 1, none⟩ = some (.slice (some ⟨gk, 0, none⟩) n ck) := by simp [World.cell?_alloc_new]
 rw [hn, hvn] at HM ⊢
 clear hn hvn o2 o3 o4
 go_wp2
 generalize w1.alloc (.cells #[.int .i64 0, .slice (some ⟨gk, 0, none⟩) n ck, .slice (some ⟨gv, 0, none⟩) n cv] 35) = W2 at *
 generalize w1.heap.size = r9 at *
 obtain ⟨M, hMl⟩ : ∃ M, (pts r9 (.cells #[.int .i64 0, .slice (some ⟨gk, 0, none⟩) n ck, .slice (some ⟨gv, 0, none⟩) n cv] 35 (0, 0)) :: intsS (.slice (some ⟨gk, 0, none⟩) n ck) keys :: intsS (.slice (some ⟨gv, 0, none⟩) n cv) vals :: l) = M := ⟨_, rfl⟩
 rw [hMl] at HM
 have HMl := Lib.hid hMl
 obtain ⟨ps, hps⟩ : ∃ ps, (⟨0, keys, vals⟩ : Nd).pairs = ps := ⟨_, rfl⟩
 have Hps := Lib.hid hps
 have HPS : Hid (WalkPost ob lb p bank sp N es Q lim acc (fromL fr (⟨0, keys, vals⟩ : Nd).pairs) l w = WalkPost ob lb p bank sp N es Q lim acc (fromL fr ps) l w) := by show _ = _; rw [hps]
 rw [hps] at HM
 simp only [HPS.out] at *
 clear hMl hps n0 HPS
 go_loopg [24] n (fun gk' i wr => ∃ k : Nat, k <= n /\ gk' = n - k /\ i = .int .i64 k /\ Hid (WkM w ob lb p bank sp N es Q lim fr acc (ps.take k) M wr))
 case atStart => exact ⟨0, Nat.zero_le _, rfl, rfl, HM⟩
 case round =>
  clear HM
  obtain ⟨k, hk, rfl, rfl, HM⟩ := hrel
  obtain ⟨ov', hK, hf, hh⟩ := HM.out
  clear HM
  by_cases hlt : k < n
  ·have hMm : ∀ A, A ∈ M -> A ∈ btS p bank sp N es Q :: wkL ob lb ov' (feed lim acc (fromL fr (ps.take k))).1 lim M := fun A hA => by unfold wkL; exact .tail _ (.tail _ (.tail _ (.tail _ hA)))
   have hg9 := hh.at (b := r9) (o := .cells #[.int .i64 0, .slice (some ⟨gk, 0, none⟩) n ck, .slice (some ⟨gv, 0, none⟩) n cv] 35 (0, 0)) (hMm _ (by rw [<- HMl.out]; simp))
   have m0 : wr.cell? ⟨r9, 0, none⟩ = some (.int .i64 0) := cell_of hg9 0 rfl
   have m2 : wr.cell? ⟨r9, 2, none⟩ = some (.slice (some ⟨gv, 0, none⟩) n cv) := cell_of hg9 2 rfl
   have l9 := World.block_lt_of_cell? _ _ m0
   obtain ⟨ka, kc', e1, _, hrk⟩ := hh.ints_read (v := .slice (some ⟨gk, 0, none⟩) n ck) (xs := keys) (hMm _ (by rw [<- HMl.out]; simp))
   injection e1 with e1 e2 e3
   subst e1
   clear e2 e3
   obtain ⟨g1, eg, kc, _⟩ := hrk k (by have := Hn.out.1; omega)
   injection eg with eg
   injection eg with eg _ _
   subst eg
   obtain ⟨va, vc', e1, _, hrv⟩ := hh.ints_read (v := .slice (some ⟨gv, 0, none⟩) n cv) (xs := vals) (hMm _ (by rw [<- HMl.out]; simp))
   injection e1 with e1 e2 e3
   subst e1
   clear e2 e3
   obtain ⟨g2, eg, vc, _⟩ := hrv k (by have := Hn.out.2; omega)
   injection eg with eg
   injection eg with eg _ _
   subst eg
   have lgk := World.block_lt_of_cell? _ _ kc
   have lgv := World.block_lt_of_cell? _ _ vc
   have hpk : ps[k]? = some (keys[k]'(by have := Hn.out.1; omega), vals[k]'(by have := Hn.out.2; omega)) := by
    rw [<- Hps.out]
    unfold Nd.pairs
    rw [List.getElem?_zip_eq_some]
    exact ⟨List.getElem?_eq_getElem _, List.getElem?_eq_getElem _⟩
   generalize keys[k]'(by have := Hn.out.1; omega) = kk at *
   generalize vals[k]'(by have := Hn.out.2; omega) = vv at *
   have hln : (feed lim acc (fromL fr (ps.take k))).1.length <= 100000 := by
    have q1 := feed_len lim acc (fromL fr (ps.take k))
    have q2 := fromL_len fr (ps.take k)
    have q3 : (ps.take k).length <= ps.length := by rw [List.length_take]; omega
    have q4 := HX.out.1
    rw [Hps.out] at q4
    omega
   have h5 : Has wr (wkL ob lb ov' (feed lim acc (fromL fr (ps.take k))).1 lim (btS p bank sp N es Q :: M)) := hh.reord [1, 1, 1]
   obtain ⟨t1, t2⟩ := take_succ hpk
   have hfeed : ∀ T, feed lim acc (fromL fr (ps.take k ++ T)) = feed lim (feed lim acc (fromL fr (ps.take k))).1 (fromL fr T) := fun T => by rw [fromL_app, feed_app, if_pos hf]
   have Hfd := Lib.hid hfeed
   have HT := Lib.hid (And.intro t1 t2)
   have HK := Lib.hid hK
   have Hh := Lib.hid (And.intro hf hh)
   have Hh0 := Lib.hid (And.intro hf hh)
   have HIt := Lib.hid (items1 lim kk vv h5 hln)
   obtain ⟨aI, haI⟩ : ∃ aI, (feed lim acc (fromL fr (ps.take k))).1 = aI := ⟨_, rfl⟩
   rw [haI] at HIt Hfd Hh
   have kI : (k : Int) < (n : Int) := by omega
   have k0 : (0 : Int) <= k := by omega
   have n7I : (n : Int) <= 7 := by omega
   clear hh h5 hfeed t1 t2 hK hf hln hpk hrk hrv hg9 hMm haI
   by_cases hfr : fr <= kk
   ·go_wp2_with fail
    refine HIt.out.mono ?_
    rintro r w3 ⟨hK3, rfl, ov3, h6⟩
    have h7 : Has w3 (btS p bank sp N es Q :: wkL ob lb ov3 (aI ++ [(kk, vv)]) lim M) := Has.reord [3] h6
    by_cases hb : (aI.length : Int) + 1 = lim
    ·have hbb : (!((aI.length : Int) + 1 == lim)) = false := by simp [hb]
     rw [hbb]
     have HF : Hid (WalkPost ob lb p bank sp N es Q lim acc (fromL fr ps) l w (.returned (.bool false)) w3) := by
      have e1 : feed lim acc (fromL fr ps) = (aI ++ [(kk, vv)], false) := by
       conv => lhs; rw [HT.out.2]
       rw [Hfd.out, fromL_one, if_pos hfr, feed_cons, if_pos hb]
      rw [<- HMl.out] at h7
      refine ⟨HK.out.trans hK3, by rw [e1], ov3, ?_⟩
      rw [e1]
      exact Has.skip4 (M := [_, _, _]) h7
     clear HIt Hh Hh0 HT Hfd h6 h7 hbb hK3 HK
     go_wp2
     go_ret
     exact HF.out
    ·have hbb : (!((aI.length : Int) + 1 == lim)) = true := by simp [hb]
     rw [hbb]
     have HM2 : Hid (WkM w ob lb p bank sp N es Q lim fr acc (ps.take (k + 1)) M w3) := by
      have e1 : feed lim acc (fromL fr (ps.take (k + 1))) = (aI ++ [(kk, vv)], true) := by
       rw [HT.out.1, Hfd.out, fromL_one, if_pos hfr, feed_cons, if_neg hb]
       rfl
      exact ⟨ov3, HK.out.trans hK3, by rw [e1], by rw [e1]; exact h7⟩
     clear HIt Hh Hh0 HT Hfd h6 h7 hbb hK3 HK hb
     go_wp2
     go_roundg (n - (k + 1))
     case measure => omega
     case rel => exact ⟨k + 1, by omega, rfl, by go_num, HM2⟩
   ·have hfr2 : kk < fr := by omega
    have HM2 : Hid (WkM w ob lb p bank sp N es Q lim fr acc (ps.take (k + 1)) M wr) := by
     have e1 : fromL fr (ps.take (k + 1)) = fromL fr (ps.take k) := by
      rw [HT.out.1, fromL_app, fromL_one, if_neg hfr]
      exact List.append_nil _
     exact ⟨ov', HK.out, by rw [e1]; exact Hh0.out.1, by rw [e1]; exact Hh0.out.2⟩
    clear HIt Hh Hh0 HT Hfd HK hfr
    go_wp2
    go_roundg (n - (k + 1))
    case measure => omega
    case rel => exact ⟨k + 1, by omega, rfl, by go_num, HM2⟩
  ·have hke : k = n := by omega
   subst hke
   have htk : ps.take k = ps := List.take_of_length_le (by
    have q1 := HX.out.2.1.2.2
    rw [Hps.out] at q1
    have q2 := Hn.out.1
    have q3 : ps.length = keys.length := q1
    omega)
   rw [htk] at hf hh
   have HF : Hid (WalkPost ob lb p bank sp N es Q lim acc (fromL fr ps) l w (.returned (.bool true)) wr) := by
    rw [<- HMl.out] at hh
    exact ⟨hK, by rw [hf], ov', Has.skip4 (M := [_, _, _]) hh⟩
   clear hh hK hf htk HX
   go_wp2
   go_ret
   exact HF.out
/-
  Trees (layer 12): items from a key on (walk), at any height.
-/
def WkS (lv : Nat) (ps : List KV) (k : Nat) (w : World) (ob lb p bank sp N : Nat) (es : List Ent) (Q : Pgs) (lim fr : Int) (acc L : List KV) (l : List Say) (wr : World) : Prop :=
 ∃ LA LB sA sB, TrL Q lv (ps.take k) LA sA /\ TrL Q lv (ps.drop k) LB sB /\ L = LA ++ LB /\ WkM w ob lb p bank sp N es Q lim fr acc LA l wr
set_option maxRecDepth 100000 in
theorem walkS (lv : Nat) (ih : WalkC lv) : WalkC (lv + 1) := by
 intro w l ob lb p bank sp N es Q ov acc lim addr fr L s h hT hs hlen
 obtain ⟨hI, _⟩ := h.bt_inv
 obtain ⟨g, S, hg, hlv, hR, hsw⟩ := hT
 clear hsw
 obtain ⟨ok, _, _⟩ := hI.pg addr g hg
 have hbd := (hI.adr addr (by rw [hg]; rfl)).bd
 obtain ⟨o0, o1, o2, o3, o4⟩ := ok_lens ok
 have hpn := ok_pairs ok
 have HG := Lib.hid (bt_Get h addr (by omega) (by omega))
 have Hg := Lib.hid hg
 have HX := Lib.hid (And.intro hlen (And.intro hpn (And.intro o2 (And.intro o3 o4))))
 have HR := Lib.hid (And.intro hR hs)
 have Ih : Hid (WalkC lv) := ih
 clear h hg hI hs hlen ok hbd o0 o1 o2 o3 o4 hpn hR ih
 obtain ⟨⟨lvI, keys, vals⟩, ho, he⟩ := g
 have hlvp : 0 < lvI := by have : lvI = ((lv + 1 : Nat) : Int) := hlv; omega
 clear hlv
 unfold items1V
 go_enter Tryz.func102, Tryz.ntmps102
 go_wp2_with fail
 refine HG.out.mono ?_
 rintro r w1 ⟨hK1, (⟨h1, _⟩ | ⟨g', ak, ck, av, cv, h1, rfl, h3⟩)⟩
 ·rw [Hg.out] at h1; cases h1
 rw [Hg.out] at h1
 obtain rfl := Option.some.inj h1
 clear h1 HG
 simp only [Nd.val]
 have hx := HX.out
 obtain ⟨hlen, hpn, o2, o3, o4⟩ := hx
 try simp only at o2 o3 o4
 obtain ⟨ka, kc, e1, _, hrk⟩ := h3.ints_read (v := .slice ak keys.length ck) (xs := keys) (by simp)
 injection e1 with e1 e2 e3
 subst e1
 clear e2 e3
 obtain ⟨gk, rfl, kc0, _⟩ := hrk 0 (by omega)
 obtain ⟨va, vc, e1, _, hrv⟩ := h3.ints_read (v := .slice av vals.length cv) (xs := vals) (by simp)
 injection e1 with e1 e2 e3
 subst e1
 clear e2 e3
 obtain ⟨gv, rfl, vc0, _⟩ := hrv 0 (by omega)
 clear hrk hrv kc0 vc0
 have h4 := h3.alloc (.cells #[.int .i64 lvI, .slice (some ⟨gk, 0, none⟩) keys.length ck, .slice (some ⟨gv, 0, none⟩) vals.length cv] 35)
 have hk4 := hK1.alloc (.cells #[.int .i64 lvI, .slice (some ⟨gk, 0, none⟩) keys.length ck, .slice (some ⟨gv, 0, none⟩) vals.length cv] 35)
 have hM : WkS lv (⟨lvI, keys, vals⟩ : Nd).pairs 0 w ob lb p bank sp N es Q lim fr acc L (pts w1.heap.size (.cells #[.int .i64 lvI, .slice (some ⟨gk, 0, none⟩) keys.length ck, .slice (some ⟨gv, 0, none⟩) vals.length cv] 35 (0, 0)) :: intsS (.slice (some ⟨gk, 0, none⟩) keys.length ck) keys :: intsS (.slice (some ⟨gv, 0, none⟩) vals.length cv) vals :: l) (w1.alloc (.cells #[.int .i64 lvI, .slice (some ⟨gk, 0, none⟩) keys.length ck, .slice (some ⟨gv, 0, none⟩) vals.length cv] 35)) :=
  ⟨[], L, 0, S, .nil, HR.out.1, rfl, ov, hk4, rfl, h4.reord [3, 3, 3, 3]⟩
 have HM := Lib.hid hM
 clear h3 h4 hK1 hk4 hM hlen hpn
 obtain ⟨n, hn⟩ : ∃ n, keys.length = n := ⟨_, rfl⟩
 have hvn : vals.length = n := by omega
 have Hn := Lib.hid (And.intro hn hvn)
 have hn7 : n <= 7 := by omega
 have n0 : (w1.alloc (.cells #[.int .i64 lvI, .slice (some ⟨gk, 0, none⟩) n ck, .slice (some ⟨gv, 0, none⟩) n cv] 35)).cell? ⟨w1.heap.size, 1, none⟩ = some (.slice (some ⟨gk, 0, none⟩) n ck) := by simp [World.cell?_alloc_new]
 rw [hn, hvn] at HM ⊢
 clear hn hvn o2 o3 o4
 go_wp2
 generalize w1.alloc (.cells #[.int .i64 lvI, .slice (some ⟨gk, 0, none⟩) n ck, .slice (some ⟨gv, 0, none⟩) n cv] 35) = W2 at *
 generalize w1.heap.size = r9 at *
 obtain ⟨M, hMl⟩ : ∃ M, (pts r9 (.cells #[.int .i64 lvI, .slice (some ⟨gk, 0, none⟩) n ck, .slice (some ⟨gv, 0, none⟩) n cv] 35 (0, 0)) :: intsS (.slice (some ⟨gk, 0, none⟩) n ck) keys :: intsS (.slice (some ⟨gv, 0, none⟩) n cv) vals :: l) = M := ⟨_, rfl⟩
 rw [hMl] at HM
 have HMl := Lib.hid hMl
 obtain ⟨ps, hps⟩ : ∃ ps, (⟨lvI, keys, vals⟩ : Nd).pairs = ps := ⟨_, rfl⟩
 have Hps := Lib.hid hps
 rw [hps] at HM
 have HpsL : Hid (ps.length = n) := by
  have q1 := HX.out.2.1.2.2
  rw [hps] at q1
  have q2 := Hn.out.1
  have q3 : ps.length = keys.length := q1
  show _ = _
  omega
 clear hMl hps n0
 go_loopg [24] n (fun gk' i wr => ∃ k : Nat, k <= n /\ gk' = n - k /\ i = .int .i64 k /\ Hid (WkS lv ps k w ob lb p bank sp N es Q lim fr acc L M wr))
 case atStart => exact ⟨0, Nat.zero_le _, rfl, rfl, HM⟩
 case round =>
  clear HM
  obtain ⟨k, hk, rfl, rfl, HM⟩ := hrel
  obtain ⟨LA, LB, sA, sB, hA, hB, hL, ov', hK, hf, hh⟩ := HM.out
  clear HM
  by_cases hlt : k < n
  ·have hMm : ∀ A, A ∈ M -> A ∈ btS p bank sp N es Q :: wkL ob lb ov' (feed lim acc (fromL fr LA)).1 lim M := fun A hA => by unfold wkL; exact .tail _ (.tail _ (.tail _ (.tail _ hA)))
   have hg9 := hh.at (b := r9) (o := .cells #[.int .i64 lvI, .slice (some ⟨gk, 0, none⟩) n ck, .slice (some ⟨gv, 0, none⟩) n cv] 35 (0, 0)) (hMm _ (by rw [<- HMl.out]; simp))
   have m0 : wr.cell? ⟨r9, 0, none⟩ = some (.int .i64 lvI) := cell_of hg9 0 rfl
   have m2 : wr.cell? ⟨r9, 2, none⟩ = some (.slice (some ⟨gv, 0, none⟩) n cv) := cell_of hg9 2 rfl
   have l9 := World.block_lt_of_cell? _ _ m0
   obtain ⟨ka, kc', e1, _, hrk⟩ := hh.ints_read (v := .slice (some ⟨gk, 0, none⟩) n ck) (xs := keys) (hMm _ (by rw [<- HMl.out]; simp))
   injection e1 with e1 e2 e3
   subst e1
   clear e2 e3
   obtain ⟨g1, eg, kc, _⟩ := hrk k (by have := Hn.out.1; omega)
   injection eg with eg
   injection eg with eg _ _
   subst eg
   obtain ⟨va, vc', e1, _, hrv⟩ := hh.ints_read (v := .slice (some ⟨gv, 0, none⟩) n cv) (xs := vals) (hMm _ (by rw [<- HMl.out]; simp))
   injection e1 with e1 e2 e3
   subst e1
   clear e2 e3
   obtain ⟨g2, eg, vc, _⟩ := hrv k (by have := Hn.out.2; omega)
   injection eg with eg
   injection eg with eg _ _
   subst eg
   have lgk := World.block_lt_of_cell? _ _ kc
   have lgv := World.block_lt_of_cell? _ _ vc
   have hpk : ps[k]? = some (keys[k]'(by have := Hn.out.1; omega), vals[k]'(by have := Hn.out.2; omega)) := by
    rw [<- Hps.out]
    unfold Nd.pairs
    rw [List.getElem?_zip_eq_some]
    exact ⟨List.getElem?_eq_getElem _, List.getElem?_eq_getElem _⟩
   obtain ⟨k1, hk1⟩ : ∃ k1, k1 = k + 1 := ⟨_, rfl⟩
   have hpk1 : ∀ kn, keys[k1]? = some kn -> ∃ vn, ps[k1]? = some (kn, vn) := fun kn h => by
    obtain ⟨hlt1, e⟩ := List.getElem?_eq_some_iff.1 h
    refine ⟨vals[k1]'(by have := Hn.out.1; have := Hn.out.2; omega), ?_⟩
    rw [<- Hps.out]
    unfold Nd.pairs
    rw [List.getElem?_zip_eq_some]
    exact ⟨h, List.getElem?_eq_getElem _⟩
   obtain ⟨LM, sM, LC, sC, q1, q2, q3, q4, q5, q6⟩ := TrG.next hpk hA hB hL HR.out.2
   generalize keys[k]'(by have := Hn.out.1; omega) = kk at *
   generalize vals[k]'(by have := Hn.out.2; omega) = vv at *
   have hLL : L = (LA ++ LM) ++ LC := by rw [hL, q3, List.append_assoc]
   have hln : (feed lim acc (fromL fr LA)).1.length + LM.length <= 100000 := by
    have q1 := feed_len lim acc (fromL fr LA)
    have q2 := fromL_len fr LA
    have q4 := HX.out.1
    rw [hLL, List.length_append, List.length_append] at q4
    omega
   have hfeed : ∀ T, feed lim acc (fromL fr (LA ++ T)) = feed lim (feed lim acc (fromL fr LA)).1 (fromL fr T) := fun T => by rw [fromL_app, feed_app, if_pos hf]
   have Hfd := Lib.hid hfeed
   have HT := Lib.hid (And.intro q4 (And.intro q5 hLL))
   have HK := Lib.hid hK
   have Hh := Lib.hid (And.intro hf hh)
   have HIh := Lib.hid (Ih.out vv fr hh q1 q2 hln)
   have Hq6 := Lib.hid q6
   have kI : (k : Int) < (n : Int) := by omega
   have k0 : (0 : Int) <= k := by omega
   have n7I : (n : Int) <= 7 := by omega
   have m1 : wr.cell? ⟨r9, 1, none⟩ = some (.slice (some ⟨gk, 0, none⟩) n ck) := cell_of hg9 1 rfl
   have hkI : (k : Int) + 1 = (k1 : Int) := by omega
   have Hk1 := Lib.hid hk1
   have kc1 : ∀ kn, keys[k1]? = some kn -> wr.cell? ⟨gk, k1, none⟩ = some (.int .i64 kn) := fun kn h => by
    obtain ⟨hlt1, e⟩ := List.getElem?_eq_some_iff.1 h
    obtain ⟨g3, eg, kcc, _⟩ := hrk k1 hlt1
    injection eg with eg
    injection eg with eg _ _
    subst eg
    rw [e] at kcc
    exact kcc
   have Hskip : Hid (∀ kn, keys[k1]? = some kn -> kn <= fr -> WkS lv ps k1 w ob lb p bank sp N es Q lim fr acc L M wr) := fun kn h hle => by
    obtain ⟨vn, hpn1⟩ := hpk1 kn h
    have e1 : fromL fr LM = [] := fromL_none fun x hx => by
     have := q6 _ (by rw [<- hk1]; exact hpn1) x hx
     simp only at this
     omega
    have e2 : fromL fr (LA ++ LM) = fromL fr LA := by rw [fromL_app, e1, List.append_nil]
    rw [hk1]
    exact ⟨LA ++ LM, LC, _, _, q4, q5, hLL, ov', hK, by rw [e2]; exact hf, by rw [e2]; exact hh⟩
   have Hgo : Hid (∀ r w3, WalkPost ob lb p bank sp N es Q lim (feed lim acc (fromL fr LA)).1 (fromL fr LM) M wr r w3 -> (∃ b, r = .returned (.bool b)) /\ (r = .returned (.bool true) -> WkS lv ps k1 w ob lb p bank sp N es Q lim fr acc L M w3) /\ (r = .returned (.bool false) -> WalkPost ob lb p bank sp N es Q lim acc (fromL fr L) l w (.returned (.bool false)) w3)) := by
    rintro r w3 ⟨hK3, rfl, ov3, h6⟩
    refine ⟨⟨_, rfl⟩, fun he => ?_, fun he => ?_⟩
    ·injection he with he
     injection he with he
     rw [hk1]
     exact ⟨LA ++ LM, LC, _, _, q4, q5, hLL, ov3, hK.trans hK3, by rw [hfeed]; exact he, by rw [hfeed]; exact h6⟩
    ·injection he with he
     injection he with he
     have e1 : feed lim acc (fromL fr L) = feed lim (feed lim acc (fromL fr LA)).1 (fromL fr LM) := by
      rw [hLL, List.append_assoc, hfeed, fromL_app, feed_app, if_neg (by rw [he]; decide)]
     rw [<- HMl.out] at h6
     refine ⟨hK.trans hK3, by rw [e1, he], ov3, ?_⟩
     rw [e1]
     exact Has.skip4 (M := [_, _, _]) h6
   unfold items1V at HIh
   generalize (feed lim acc (fromL fr LA)).1 = aI at *
   clear hh hfeed hK hf hln hpk hrk hrv hg9 hMm hpk1 q1 q2 q3 q4 q5 q6 hLL hA hB hL hk1 Hfd HT Hh Hq6
   by_cases hl1 : k1 < n
   ·obtain ⟨kn, hkn⟩ : ∃ kn, keys[k1]? = some kn := ⟨_, List.getElem?_eq_getElem (by have := Hn.out.1; omega)⟩
    have kc1 := kc1 kn hkn
    have Hskip := Hskip.out kn hkn
    have k1I : (k1 : Int) < (n : Int) := by omega
    clear hkn
    by_cases hle : kn <= fr
    ·have HM2 := Lib.hid (Hskip hle)
     clear HIh Hgo HK Hskip
     go_wp2
     go_roundg (n - k1)
     case measure => have := Hk1.out; omega
     case rel => exact ⟨k1, by omega, rfl, rfl, HM2⟩
    ·have hle2 : fr < kn := by omega
     clear Hskip hle
     go_wp2_with fail
     refine HIh.out.mono ?_
     rintro r w3 hpost
     obtain ⟨⟨b, rfl⟩, g1, g2⟩ := Hgo.out r w3 hpost
     cases b with
     | false =>
      have HF := Lib.hid (g2 rfl)
      clear g1 g2 hpost HIh Hgo HK
      go_wp2
      go_ret
      exact HF.out
     | true =>
      have HM2 := Lib.hid (g1 rfl)
      clear g1 g2 hpost HIh Hgo HK
      go_wp2
      go_roundg (n - k1)
      case measure => have := Hk1.out; omega
      case rel => exact ⟨k1, by omega, rfl, rfl, HM2⟩
   ·have k1I : ¬ (k1 : Int) < (n : Int) := by omega
    clear kc1 Hskip
    go_wp2_with fail
    refine HIh.out.mono ?_
    rintro r w3 hpost
    obtain ⟨⟨b, rfl⟩, g1, g2⟩ := Hgo.out r w3 hpost
    cases b with
    | false =>
     have HF := Lib.hid (g2 rfl)
     clear g1 g2 hpost HIh Hgo HK
     go_wp2
     go_ret
     exact HF.out
    | true =>
     have HM2 := Lib.hid (g1 rfl)
     clear g1 g2 hpost HIh Hgo HK
     go_wp2
     go_roundg (n - k1)
     case measure => have := Hk1.out; omega
     case rel => exact ⟨k1, by have := Hk1.out; omega, rfl, rfl, HM2⟩
  ·have hke : k = n := by omega
   have hdn : ps.drop k = [] := List.drop_eq_nil_of_le (by have := HpsL.out; omega)
   rw [hdn] at hB
   cases hB
   have hLe : L = LA := by rw [hL, List.append_nil]
   have HF : Hid (WalkPost ob lb p bank sp N es Q lim acc (fromL fr L) l w (.returned (.bool true)) wr) := by
    rw [hLe]
    rw [<- HMl.out] at hh
    exact ⟨hK, by rw [hf], ov', Has.skip4 (M := [_, _, _]) hh⟩
   clear hh hK hf hA hdn hL hLe HX HR
   subst hke
   go_wp2
   go_ret
   exact HF.out
theorem bt_walk : ∀ lv, WalkC lv
 | 0 => walk0
 | lv + 1 => walkS lv (bt_walk lv)
end Go.Proofs.YtgbgneiciabidaaGreatDoor
