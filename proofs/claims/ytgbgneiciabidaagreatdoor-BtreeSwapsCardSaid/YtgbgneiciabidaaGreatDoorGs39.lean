/-
  Trees (layer 12): trees with other values, and without pages on a device, in plain Lean.
-/
import Derived.Test.YtgbgneiciabidaaGreatDoorGs38
namespace Go.Proofs.YtgbgneiciabidaaGreatDoor
open Go Go.RowKit
set_option linter.all false
set_option maxHeartbeats 8000000
def swV (V : List (Int × Int)) (x : Int) : Int := (VMap.get x V).getD x
def swL (V : List (Int × Int)) (L : List KV) : List KV := L.map fun p => (p.1, swV V p.2)
def swN (V M : List (Int × Int)) (n : Nd) : Nd := ⟨n.level, n.keys, n.vals.map (if n.level = 0 then swV V else swV M)⟩
def Off (dev a : Int) : Prop := a / 4096 ≠ dev
structure SwI (Q0 Q : Pgs) (M V : List (Int × Int)) (dev : Int) (P D : Int -> Prop) : Prop where
 old : ∀ x, P x -> ∃ g0 g, VMap.get x Q0 = some g0 /\ VMap.get x Q = some g /\ g.n = g0.n /\ ∀ c ∈ g0.n.kids, P c
 gd : ∀ a, D a -> ∃ g g', VMap.get a Q0 = some g /\ VMap.get (swV M a) Q = some g' /\ g'.n = swN V M g.n /\ Off dev (swV M a) /\ ∀ c ∈ g.n.kids, D c
 ent : ∀ a b, VMap.get a M = some b -> D a /\ ¬ P b
 inj : ∀ a a', D a -> D a' -> swV M a = swV M a' -> a = a'
 up : VMap.Up M
theorem swV_some {V : List (Int × Int)} {x y : Int} (h : VMap.get x V = some y) : swV V x = y := by unfold swV; rw [h]; rfl
theorem swV_none {V : List (Int × Int)} {x : Int} (h : VMap.get x V = none) : swV V x = x := by unfold swV; rw [h]; rfl
theorem swN_kids {V M : List (Int × Int)} {n : Nd} : (swN V M n).kids = n.kids.map (swV M) := by
 unfold Nd.kids swN
 by_cases h : n.level = 0
 ·simp [h]
 ·simp [h]
theorem swN_congr {V M M' : List (Int × Int)} {n : Nd} (h : ∀ c ∈ n.kids, swV M' c = swV M c) : swN V M' n = swN V M n := by
 unfold swN
 by_cases h0 : n.level = 0
 ·rw [if_pos h0, if_pos h0]
 ·rw [if_neg h0, if_neg h0]
  congr 1
  refine List.map_congr_left fun c hc => h c ?_
  unfold Nd.kids
  rw [if_neg h0]; exact hc
theorem SwI.reach {Q0 Q : Pgs} {M V : List (Int × Int)} {dev : Int} {P D : Int -> Prop} (h : SwI Q0 Q M V dev P D) {a b : Int} (hr : Reach Q0 a b) : D a -> D b := by
 induction hr with
 | here _ => exact id
 | kid hg hc _ ih =>
  intro hD
  obtain ⟨g, _, h1, _, _, _, h5⟩ := h.gd _ hD
  rw [hg] at h1
  obtain rfl := Option.some.inj h1
  exact ih (h5 _ hc)
theorem SwI.keys {Q0 Q : Pgs} {M V : List (Int × Int)} {dev : Int} {P D : Int -> Prop} (h : SwI Q0 Q M V dev P D) (hu : VMap.Up Q0) : M.length <= Q0.length := by
 have hnd : (M.map (·.1)).Nodup := List.pairwise_map.2 (h.up.imp fun {a b} hab => by omega)
 have hsub : ∀ x ∈ M.map (·.1), x ∈ Q0.map (·.1) := fun x hx => by
  obtain ⟨p, hp, rfl⟩ := List.mem_map.1 hx
  obtain ⟨g, _, hg, _⟩ := h.gd _ (h.ent _ _ (mem_get h.up hp)).1
  exact List.mem_map.2 ⟨(p.1, g), get_mem hg, rfl⟩
 have := List.Nodup.length_le_of_subset hnd hsub
 rwa [List.length_map, List.length_map] at this
def SwOut (es : List Ent) (Q0 Q : Pgs) (M V : List (Int × Int)) (dev : Int) (P D : Int -> Prop) (addr : Int) (news : List (Int × Nd)) (Q' : Pgs) (M' : List (Int × Int)) : Prop :=
 Puts es Q news Q' /\ M'.length = M.length + news.length /\ Q'.length <= Q.length + news.length /\ ∃ D' : Int -> Prop, SwI Q0 Q' M' V dev P D' /\ (∀ x, D x -> D' x /\ swV M' x = swV M x) /\ D' addr /\ (∀ x, D' x -> D x \/ Reach Q0 addr x) /\ (swV M' addr = addr -> news = []) /\ ∀ p ∈ news, ∃ x, D' x /\ Reach Q0 addr x /\ swV M' x = p.1
def SwMid (es : List Ent) (Q0 Q : Pgs) (M V : List (Int × Int)) (dev : Int) (P D : Int -> Prop) (addr : Int) (n : Nd) (k : Nat) (news : List (Int × Nd)) (Q' : Pgs) (M' : List (Int × Int)) : Prop :=
 Puts es Q news Q' /\ M'.length = M.length + news.length /\ Q'.length <= Q.length + news.length /\ ∃ D' : Int -> Prop, SwI Q0 Q' M' V dev P D' /\ (∀ x, D x -> D' x /\ swV M' x = swV M x) /\ (∀ c ∈ n.kids.take k, D' c) /\ (∀ x, D' x -> D x \/ ∃ c ∈ n.kids, Reach Q0 c x) /\ ((∀ c ∈ n.kids.take k, swV M' c = c) -> news = []) /\ ∀ p ∈ news, ∃ x, D' x /\ (∃ c ∈ n.kids, Reach Q0 c x) /\ swV M' x = p.1
theorem SwMid.start {es : List Ent} {Q0 Q : Pgs} {M V : List (Int × Int)} {dev : Int} {P D : Int -> Prop} (h : SwI Q0 Q M V dev P D) (addr : Int) (n : Nd) : SwMid es Q0 Q M V dev P D addr n 0 [] Q M :=
 ⟨.nil Q, rfl, Nat.le_refl _, D, h, fun x hx => ⟨hx, rfl⟩, fun c hc => by simp at hc, fun x hx => .inl hx, fun _ => rfl, fun p hp => by cases hp⟩
theorem SwMid.next {es : List Ent} {Q0 Q Q1 Q2 : Pgs} {M V M1 M2 : List (Int × Int)} {dev : Int} {P D D1 : Int -> Prop} {addr v : Int} {n : Nd} {k : Nat} {news news2 : List (Int × Nd)} (a1 : Puts es Q news Q1) (a2 : M1.length = M.length + news.length) (a3 : Q1.length <= Q.length + news.length) (a5 : ∀ x, D x -> D1 x /\ swV M1 x = swV M x) (a6 : ∀ c ∈ n.kids.take k, D1 c) (a7 : ∀ x, D1 x -> D x \/ ∃ c ∈ n.kids, Reach Q0 c x) (a8 : (∀ c ∈ n.kids.take k, swV M1 c = c) -> news = []) (a9 : ∀ p ∈ news, ∃ x, D1 x /\ (∃ c ∈ n.kids, Reach Q0 c x) /\ swV M1 x = p.1) (hv : n.kids[k]? = some v)
  (h2 : SwOut es Q0 Q1 M1 V dev P D1 v news2 Q2 M2) : SwMid es Q0 Q M V dev P D addr n (k + 1) (news ++ news2) Q2 M2 /\ ∀ c ∈ n.kids.take k, swV M2 c = swV M1 c := by
 obtain ⟨b1, b2, b3, D2, b4, b5, b6, b7, b8, b9⟩ := h2
 refine ⟨⟨a1.trans b1, by rw [List.length_append]; omega, by rw [List.length_append]; omega, D2, b4, fun x hx => ?_, fun c hc => ?_, fun x hx => ?_, fun hall => ?_, fun p hp => ?_⟩, fun c hc => (b5 c (a6 c hc)).2⟩
 ·obtain ⟨c1, c2⟩ := a5 x hx
  obtain ⟨d1, d2⟩ := b5 x c1
  exact ⟨d1, d2.trans c2⟩
 ·rw [List.take_succ, hv] at hc
  rcases List.mem_append.1 hc with hc | hc
  ·exact (b5 c (a6 c hc)).1
  ·have e : c = v := by simpa using hc
   subst e
   exact b6
 ·rcases b7 x hx with hx | hx
  ·exact a7 x hx
  ·exact .inr ⟨v, List.mem_of_getElem? hv, hx⟩
 ·have hsub : ∀ c ∈ n.kids.take k, c ∈ n.kids.take (k + 1) := fun c hc => by
   rw [List.take_succ]
   exact List.mem_append_left _ hc
  have h1 := a8 fun c hc => by rw [<- (b5 c (a6 c hc)).2]; exact hall c (hsub c hc)
  have h2 := b8 (hall v (by rw [List.take_succ, hv]; exact List.mem_append_right _ (.head _)))
  rw [h1, h2]
  rfl
 ·rcases List.mem_append.1 hp with hp | hp
  ·obtain ⟨x, x1, x2, x3⟩ := a9 p hp
   exact ⟨x, (b5 x x1).1, x2, (b5 x x1).2.trans x3⟩
  ·obtain ⟨x, x1, x2, x3⟩ := b9 p hp
   exact ⟨x, x1, ⟨v, List.mem_of_getElem? hv, x2⟩, x3⟩
theorem SwOut.noted {es : List Ent} {Q0 Q : Pgs} {M V : List (Int × Int)} {dev : Int} {P D : Int -> Prop} {addr b : Int} (h : SwI Q0 Q M V dev P D) (hb : VMap.get addr M = some b) : SwOut es Q0 Q M V dev P D addr [] Q M :=
 ⟨.nil Q, rfl, Nat.le_refl _, D, h, fun x hx => ⟨hx, rfl⟩, (h.ent _ _ hb).1, fun x hx => .inl hx, fun _ => rfl, fun p hp => by cases hp⟩
theorem SwMid.kids {es : List Ent} {Q0 Q Q' : Pgs} {M V M' : List (Int × Int)} {dev : Int} {P D : Int -> Prop} {addr : Int} {n : Nd} {k : Nat} {news : List (Int × Nd)} (h : SwMid es Q0 Q M V dev P D addr n k news Q' M') (hk : n.kids.length <= k) : ∃ D' : Int -> Prop, SwI Q0 Q' M' V dev P D' /\ (∀ x, D x -> D' x /\ swV M' x = swV M x) /\ (∀ c ∈ n.kids, D' c) /\ (∀ x, D' x -> D x \/ ∃ c ∈ n.kids, Reach Q0 c x) /\ ((∀ c ∈ n.kids, swV M' c = c) -> news = []) /\ ∀ p ∈ news, ∃ x, D' x /\ (∃ c ∈ n.kids, Reach Q0 c x) /\ swV M' x = p.1 := by
 obtain ⟨_, _, _, D', a4, a5, a6, a7, a8, a9⟩ := h
 rw [List.take_of_length_le hk] at a6 a8
 exact ⟨D', a4, a5, a6, a7, a8, a9⟩
theorem SwMid.same {es : List Ent} {Q0 Q Q' : Pgs} {M V M' : List (Int × Int)} {dev : Int} {P D : Int -> Prop} {addr : Int} {k : Nat} {news : List (Int × Nd)} {g0 : Pg} (h : SwMid es Q0 Q M V dev P D addr g0.n k news Q' M') (hk : g0.n.kids.length <= k) (hg0 : VMap.get addr Q0 = some g0) (hP : P addr) (hM : VMap.get addr M' = none) (ho : Off dev addr) (hs : swN V M' g0.n = g0.n) :
  SwOut es Q0 Q M V dev P D addr news Q' M' := by
 obtain ⟨D', a4, a5, a6, a7, a8, a9⟩ := h.kids hk
 obtain ⟨b1, b2, b3, _⟩ := h
 obtain ⟨g1, g, hg1, hg, hn, hkp⟩ := a4.old addr hP
 rw [hg0] at hg1
 obtain rfl := Option.some.inj hg1
 refine ⟨b1, b2, b3, fun x => D' x \/ x = addr, ⟨a4.old, fun a ha => ?_, fun a b hab => ?_, fun a a' ha ha' he => ?_, a4.up⟩, fun x hx => ⟨.inl (a5 x hx).1, (a5 x hx).2⟩, .inr rfl, fun x hx => ?_, fun _ => a8 fun c hc => ?_, fun p hp => ?_⟩
 ·rcases ha with ha | rfl
  ·obtain ⟨p, q, h1, h2, h3, h4, h5⟩ := a4.gd a ha
   exact ⟨p, q, h1, h2, h3, h4, fun c hc => .inl (h5 c hc)⟩
  ·rw [swV_none hM]
   exact ⟨g0, g, hg0, hg, by rw [hs]; exact hn, ho, fun c hc => .inl (a6 c hc)⟩
 ·obtain ⟨h1, h2⟩ := a4.ent a b hab
  exact ⟨.inl h1, h2⟩
 ·have key : ∀ y, D' y -> swV M' y = addr -> y = addr := fun y hy e => by
   cases hm : VMap.get y M' with
   | none => rw [swV_none hm] at e; exact e
   | some b =>
    rw [swV_some hm] at e
    subst e
    exact absurd hP (a4.ent y b hm).2
  rcases ha with ha | rfl <;> rcases ha' with ha' | rfl
  ·exact a4.inj a a' ha ha' he
  ·rw [swV_none hM] at he; exact key a ha he
  ·rw [swV_none hM] at he; exact (key a' ha' he.symm).symm
  ·rfl
 ·rcases hx with hx | rfl
  ·rcases a7 x hx with hx | ⟨c, hc, hr⟩
   ·exact .inl hx
   ·exact .inr (.kid hg0 hc hr)
  ·exact .inr (.here (by rw [hg0]; rfl))
 ·have e := swN_kids (V := V) (M := M') (n := g0.n)
  rw [hs] at e
  obtain ⟨i, hi, rfl⟩ := List.getElem_of_mem hc
  have e2 := congrArg (fun z : List Int => z[i]?) e
  simp only [List.getElem?_map, List.getElem?_eq_getElem hi, Option.map_some, Option.some.injEq] at e2
  exact e2.symm
 ·obtain ⟨x, x1, ⟨c, hc, hr⟩, x3⟩ := a9 p hp
  exact ⟨x, .inl x1, .kid hg0 hc hr, x3⟩
theorem get_putM (a v : Int) (M : List (Int × Int)) (x : Int) : VMap.get x (VMap.put a v M) = if x = a then some v else VMap.get x M := get_put _ _ _ _
theorem put_lenM {M : List (Int × Int)} {a : Int} (v : Int) (h : VMap.get a M = none) : (VMap.put a v M).length = M.length + 1 := by
 unfold VMap.put
 rw [del_none h, (VMap.ins_perm (a, v) M).length_eq]
 rfl
theorem SwMid.new {es : List Ent} {Q0 Q Q' : Pgs} {M V M' : List (Int × Int)} {dev : Int} {P D : Int -> Prop} {addr b : Int} {k : Nat} {news : List (Int × Nd)} {g0 : Pg} (h : SwMid es Q0 Q M V dev P D addr g0.n k news Q' M') (hk : g0.n.kids.length <= k) (hg0 : VMap.get addr Q0 = some g0) (hP : P addr) (hM : VMap.get addr M' = none) (hc : Off dev addr -> swN V M' g0.n ≠ g0.n)
  (hI : VMap.Up Q') (hI2 : VMap.Up (put1 Q' b (swN V M' g0.n))) (hn : Next es Q' b) (hob : Off dev b) (ok : (swN V M' g0.n).ok = true) (nm : namedErr Q' (swN V M' g0.n) = .nilIface) :
  SwOut es Q0 Q M V dev P D addr (news ++ [(b, swN V M' g0.n)]) (put1 Q' b (swN V M' g0.n)) (VMap.put addr b M') := by
 obtain ⟨D', a4, a5, a6, a7, a8, a9⟩ := h.kids hk
 obtain ⟨b1, b2, b3, _⟩ := h
 obtain ⟨g1, g, hg1, hg, hgn, hkp⟩ := a4.old addr hP
 rw [hg0] at hg1
 obtain rfl := Option.some.inj hg1
 have hnD : ¬ D' addr := fun hd => by
  obtain ⟨p, q, h1, h2, h3, h4, _⟩ := a4.gd addr hd
  rw [hg0] at h1
  obtain rfl := Option.some.inj h1
  rw [swV_none hM] at h2 h4
  rw [hg] at h2
  obtain rfl := Option.some.inj h2
  exact hc h4 (h3.symm.trans hgn)
 have hne : ∀ x, D' x -> x ≠ addr := fun x hx e => hnD (e ▸ hx)
 have hsw : ∀ x, x ≠ addr -> swV (VMap.put addr b M') x = swV M' x := fun x hx => by unfold swV; rw [get_putM, if_neg hx]
 have hsa : swV (VMap.put addr b M') addr = b := swV_some (by rw [get_putM, if_pos rfl])
 have hkid : ∀ c ∈ g0.n.kids, c ≠ addr := fun c hc => hne c (a6 c hc)
 have hnn : swN V (VMap.put addr b M') g0.n = swN V M' g0.n := swN_congr fun c hc => hsw c (hkid c hc)
 have hps : Puts es Q' ([] ++ [(b, swN V M' g0.n)]) (put1 Q' b (swN V M' g0.n)) := (Puts.nil Q').snoc hn ok nm
 have hb : VMap.get b Q' = none := hn.new
 refine ⟨b1.trans hps, ?_, ?_, fun x => D' x \/ x = addr, ⟨fun x hx => ?_, fun a ha => ?_, fun a y hay => ?_, fun a a' ha ha' he => ?_, a4.up.put _ _⟩, fun x hx => ?_, .inr rfl, fun x hx => ?_, fun h => ?_, fun p hp => ?_⟩
 ·rw [put_lenM b hM, List.length_append]; simp only [List.length_append, List.length_cons, List.length_nil]; omega
 ·have := hps.len hI hI2
  rw [List.length_append]; simp only [List.length_append, List.length_cons, List.length_nil] at this ⊢; omega
 ·obtain ⟨p, q, h1, h2, h3, h4⟩ := a4.old x hx
  obtain ⟨q', e1, e2⟩ := hps.same _ _ h2
  exact ⟨p, q', h1, e1, e2.trans h3, h4⟩
 ·rcases ha with ha | rfl
  ·obtain ⟨p, q, h1, h2, h3, h4, h5⟩ := a4.gd a ha
   rw [hsw a (hne a ha)]
   obtain ⟨q', e1, e2⟩ := hps.same _ _ h2
   refine ⟨p, q', h1, e1, ?_, h4, fun c hc => .inl (h5 c hc)⟩
   rw [e2, h3]
   exact (swN_congr fun c hc => hsw c (hne c (h5 c hc))).symm
  ·rw [hsa]
   exact ⟨g0, _, hg0, put1_new nm hb, hnn.symm, hob, fun c hc => .inl (a6 c hc)⟩
 ·rw [get_putM] at hay
  by_cases e : a = addr
  ·rw [if_pos e] at hay
   obtain rfl := Option.some.inj hay
   refine ⟨.inr e, fun hp => ?_⟩
   obtain ⟨_, q, _, h2, _⟩ := a4.old _ hp
   rw [hb] at h2; cases h2
  ·rw [if_neg e] at hay
   obtain ⟨h1, h2⟩ := a4.ent a y hay
   exact ⟨.inl h1, h2⟩
 ·have key : ∀ y, D' y -> swV M' y ≠ b := fun y hy e => by
   obtain ⟨_, q, _, h2, _⟩ := a4.gd y hy
   rw [e, hb] at h2; cases h2
  rcases ha with ha | rfl <;> rcases ha' with ha' | rfl
  ·rw [hsw a (hne a ha), hsw a' (hne a' ha')] at he
   exact a4.inj a a' ha ha' he
  ·rw [hsa, hsw a (hne a ha)] at he; exact absurd he (key a ha)
  ·rw [hsa, hsw a' (hne a' ha')] at he; exact absurd he.symm (key a' ha')
  ·rfl
 ·obtain ⟨h1, h2⟩ := a5 x hx
  exact ⟨.inl h1, (hsw x (hne x h1)).trans h2⟩
 ·rcases hx with hx | rfl
  ·rcases a7 x hx with hx | ⟨c, hc, hr⟩
   ·exact .inl hx
   ·exact .inr (.kid hg0 hc hr)
  ·exact .inr (.here (by rw [hg0]; rfl))
 ·rw [hsa] at h
  rw [h, hg] at hb
  cases hb
 ·rcases List.mem_append.1 hp with hp | hp
  ·obtain ⟨x, x1, ⟨c, hc, hr⟩, x3⟩ := a9 p hp
   exact ⟨x, .inl x1, .kid hg0 hc hr, (hsw x (hne x x1)).trans x3⟩
  ·have e : p = (b, swN V M' g0.n) := by simpa using hp
   subst e
   exact ⟨addr, .inr rfl, .here (by rw [hg0]; rfl), hsa⟩
theorem swN_pairs0 {V M : List (Int × Int)} {n : Nd} (h : n.level = 0) : (swN V M n).pairs = swL V n.pairs := by
 unfold swN swL Nd.pairs
 rw [if_pos h, List.zip_map_right]
 rfl
theorem swN_pairsS {V M : List (Int × Int)} {n : Nd} (h : n.level ≠ 0) : (swN V M n).pairs = n.pairs.map fun p => (p.1, swV M p.2) := by
 unfold swN Nd.pairs
 rw [if_neg h, List.zip_map_right]
 rfl
theorem swL_keys (V : List (Int × Int)) (L : List KV) : (swL V L).map (·.1) = L.map (·.1) := by
 unfold swL
 rw [List.map_map]
 rfl
theorem swL_app (V : List (Int × Int)) (A B : List KV) : swL V (A ++ B) = swL V A ++ swL V B := List.map_append
theorem SwI.tree {Q0 Q : Pgs} {M V : List (Int × Int)} {dev : Int} {P D : Int -> Prop} (h : SwI Q0 Q M V dev P D) : ∀ {lv : Nat} {a : Int} {L : List KV} {s : Nat}, D a -> Tr Q0 lv a L s -> Tr Q lv (swV M a) (swL V L) s
 | 0, a, L, s, hD, ⟨g, h1, h2, h3, h4⟩ => by
  obtain ⟨g0, g', e1, e2, e3, _, _⟩ := h.gd a hD
  rw [h1] at e1
  obtain rfl := Option.some.inj e1
  refine ⟨g', e2, by rw [e3]; exact h2, by rw [e3, swN_pairs0 h2, h3], by rw [e3]; exact h4⟩
 | lv + 1, a, L, s, hD, ⟨g, s', h1, h2, h3, h4⟩ => by
  obtain ⟨g0, g', e1, e2, e3, _, e5⟩ := h.gd a hD
  rw [h1] at e1
  obtain rfl := Option.some.inj e1
  have hl : g.n.level ≠ 0 := by omega
  refine ⟨g', s', e2, by rw [e3]; exact h2, ?_, by rw [e3]; exact h4⟩
  rw [e3, swN_pairsS hl]
  have hmem : ∀ p ∈ g.n.pairs, D p.2 := fun p hp => by
   refine e5 p.2 ?_
   unfold Nd.kids
   rw [if_neg hl]
   exact (List.of_mem_zip (show (p.1, p.2) ∈ g.n.keys.zip g.n.vals from hp)).2
  clear h1 h2 h4 e2 e3 e5 hl
  generalize g.n.pairs = ps at h3 hmem ⊢
  induction h3 with
  | nil => exact .nil
  | cons a1 a2 _ ih =>
   rw [List.map_cons, swL_app]
   exact .cons (SwI.tree h (hmem _ (.head _)) a1) (by rw [swL_keys]; exact a2) (ih fun p hp => hmem p (.tail _ hp))
/-
  Trees (layer 12): what is left when trees are swapped one behind the other, in plain Lean.
-/
theorem SwI.agree {es : List Ent} {Q0 Q Q' : Pgs} {M V : List (Int × Int)} {dev : Int} {P D P' : Int -> Prop} (h : SwI Q0 Q M V dev P D) (ha : Agree Q Q') (hI : FInv es Q' (fun _ => 0)) (hP : ∀ x, P' x -> ∃ r, (VMap.get r Q').isSome = true /\ P r /\ Reach Q0 r x) (hD : ∀ x, D x -> ∃ r, (VMap.get (swV M r) Q').isSome = true /\ D r /\ Reach Q0 r x) (hc : ∀ x g, P' x -> VMap.get x Q0 = some g -> ∀ c ∈ g.n.kids, P' c) : SwI Q0 Q' M V dev P' D := by
 have keyP : ∀ r x, Reach Q0 r x -> P r -> (VMap.get r Q').isSome = true -> P x /\ (VMap.get x Q').isSome = true := fun r x hr => by
  induction hr with
  | here _ => exact fun a b => ⟨a, b⟩
  | kid hg hcc _ ih =>
   intro hp hs
   obtain ⟨g0, g, e1, e2, e3, e4⟩ := h.old _ hp
   rw [hg] at e1
   obtain rfl := Option.some.inj e1
   obtain ⟨g', hg'⟩ := Option.isSome_iff_exists.1 hs
   obtain ⟨g2, e5, e6⟩ := ha _ g' hg'
   rw [e2] at e5
   obtain rfl := Option.some.inj e5
   obtain ⟨gc, hgc, _⟩ := hI.kid _ g' hg' _ (by rw [e6, e3]; exact hcc)
   exact ih (e4 _ hcc) (by rw [hgc]; rfl)
 have keyD : ∀ r x, Reach Q0 r x -> D r -> (VMap.get (swV M r) Q').isSome = true -> (VMap.get (swV M x) Q').isSome = true := fun r x hr => by
  induction hr with
  | here _ => exact fun _ b => b
  | kid hg hcc _ ih =>
   intro hd hs
   obtain ⟨g0, g, e1, e2, e3, _, e4⟩ := h.gd _ hd
   rw [hg] at e1
   obtain rfl := Option.some.inj e1
   obtain ⟨g', hg'⟩ := Option.isSome_iff_exists.1 hs
   obtain ⟨g2, e5, e6⟩ := ha _ g' hg'
   rw [e2] at e5
   obtain rfl := Option.some.inj e5
   obtain ⟨gc, hgc, _⟩ := hI.kid _ g' hg' _ (by rw [e6, e3, swN_kids]; exact List.mem_map.2 ⟨_, hcc, rfl⟩)
   exact ih (e4 _ hcc) (by rw [hgc]; rfl)
 refine ⟨fun x hx => ?_, fun a ha' => ?_, fun a b hab => ⟨(h.ent a b hab).1, fun hp => ?_⟩, h.inj, h.up⟩
 ·obtain ⟨r, h1, h2, h3⟩ := hP x hx
  obtain ⟨h4, h5⟩ := keyP r x h3 h2 h1
  obtain ⟨g0, g, e1, e2, e3, e4⟩ := h.old x h4
  obtain ⟨g', hg'⟩ := Option.isSome_iff_exists.1 h5
  obtain ⟨g2, e5, e6⟩ := ha _ g' hg'
  rw [e2] at e5
  obtain rfl := Option.some.inj e5
  exact ⟨g0, g', e1, hg', e6.trans e3, hc x g0 hx e1⟩
 ·obtain ⟨r, h1, h2, h3⟩ := hD a ha'
  have h4 := keyD r a h3 h2 h1
  obtain ⟨g0, g, e1, e2, e3, e3', e4⟩ := h.gd a ha'
  obtain ⟨g', hg'⟩ := Option.isSome_iff_exists.1 h4
  obtain ⟨g2, e5, e6⟩ := ha _ g' hg'
  rw [e2] at e5
  obtain rfl := Option.some.inj e5
  exact ⟨g0, g', e1, hg', e6.trans e3, e3', e4⟩
 ·obtain ⟨r, h1, h2, h3⟩ := hP b hp
  exact (h.ent a b hab).2 (keyP r b h3 h2 h1).1
theorem SwI.all {es : List Ent} {Q0 Q : Pgs} {M V : List (Int × Int)} {dev : Int} {P D : Int -> Prop} (h : SwI Q0 Q M V dev P D) (hI0 : FInv es Q0 (fun _ => 0)) {es' : List Ent} (hI : FInv es' Q (fun _ => 0)) (hL : Live Q) (hw : ∀ x g, VMap.get x Q = some g -> 0 < g.held -> ∃ r, D r /\ swV M r = x) (hd : ∀ x, (VMap.get x Q0).isSome = true -> D x) :
  Q.length = Q0.length /\ ∀ x, (VMap.get x Q).isSome = true -> Off dev x := by
 have hall := hL.all hI (Z := (Q0.map (·.1)).map (swV M)) (fun a g hg hp => by
  obtain ⟨r, hr, e⟩ := hw a g hg hp
  obtain ⟨g0, _, e1, _⟩ := h.gd r hr
  exact List.mem_map.2 ⟨r, List.mem_map.2 ⟨(r, g0), get_mem e1, rfl⟩, e⟩) fun b hb g hg c hc => by
  obtain ⟨r, hr, rfl⟩ := List.mem_map.1 hb
  obtain ⟨⟨r, g0⟩, hr0, rfl⟩ := List.mem_map.1 hr
  have hg0 := mem_get hI0.up hr0
  obtain ⟨g1, g', e1, e2, e3, _, e4⟩ := h.gd r (hd r (by rw [hg0]; rfl))
  rw [hg] at e2
  obtain rfl := Option.some.inj e2
  rw [e3, swN_kids] at hc
  obtain ⟨k, hk, rfl⟩ := List.mem_map.1 hc
  obtain ⟨gk, _, e5, _⟩ := h.gd k (e4 k hk)
  exact List.mem_map.2 ⟨k, List.mem_map.2 ⟨(k, gk), get_mem e5, rfl⟩, rfl⟩
 have h1 := len_in hI.up hall
 rw [List.length_map, List.length_map] at h1
 have hnd : ((Q0.map (·.1)).map (swV M)).Nodup := by
  refine List.pairwise_map.2 ?_
  have hnd0 : (Q0.map (·.1)).Nodup := List.pairwise_map.2 (hI0.up.imp fun {a b} hab => by omega)
  refine List.Pairwise.imp_of_mem (R := fun a b => a ≠ b) (fun {a b} ha hb hab e => hab ?_) hnd0
  obtain ⟨p, hp, rfl⟩ := List.mem_map.1 ha
  obtain ⟨q, hq, rfl⟩ := List.mem_map.1 hb
  exact h.inj _ _ (hd _ (by rw [mem_get hI0.up hp]; rfl)) (hd _ (by rw [mem_get hI0.up hq]; rfl)) e
 have h2 : Q0.length <= Q.length := by
  have := List.Nodup.length_le_of_subset hnd (l₂ := Q.map (·.1)) fun x hx => by
   obtain ⟨r, hr, rfl⟩ := List.mem_map.1 hx
   obtain ⟨p, hp, rfl⟩ := List.mem_map.1 hr
   obtain ⟨_, g', _, e2, _⟩ := h.gd p.1 (hd _ (by rw [mem_get hI0.up hp]; rfl))
   exact List.mem_map.2 ⟨(_, g'), get_mem e2, rfl⟩
  rwa [List.length_map, List.length_map, List.length_map] at this
 refine ⟨by omega, fun x hx => ?_⟩
 obtain ⟨g, hg⟩ := Option.isSome_iff_exists.1 hx
 obtain ⟨r, hr, rfl⟩ := List.mem_map.1 (hall x g hg)
 obtain ⟨p, hp, rfl⟩ := List.mem_map.1 hr
 obtain ⟨_, _, _, _, _, e4, _⟩ := h.gd p.1 (hd _ (by rw [mem_get hI0.up hp]; rfl))
 exact e4
end Go.Proofs.YtgbgneiciabidaaGreatDoor
/-
  Trees (layer 12): a page is swapped, and what is below it (swap).
-/
namespace Go.Proofs.YtgbgneiciabidaaGreatDoor
open Go Go.RowKit Go.ChangeMaps Go.Maps
open Go.WideElems (Fit rd rg pl)
set_option linter.all false
set_option maxHeartbeats 8000000
theorem imap_look_ok {w : World} {l : List Say} {b : Nat} {M : List (Int × Int)} (h : Has w l) (hm : imapS b M ∈ l) (a : Int) (h0 : -9223372036854775808 <= a) (h1 : a <= 9223372036854775807) :
  (Instr.lookup 113 (.map (some b)) (.int .i64 a) true).run Tryz.prog w = .ok (.tuple #[.int .i64 ((VMap.get a M).getD 0), .bool (VMap.get a M).isSome]) w := by
 obtain ⟨es, clock, hb, F, hs, hD⟩ := h.map_own hm
 have hD' : (VMap.over intVal M).map litE = (es.toList.map (rg Tryz.prog 3 heldR)).foldr DataW.insert [] := by injection hD
 have hg0 := VMap.get_over intVal a M
 rcases Maps.fit_look true (int_keyed Tryz.underlying3) Tryz.underlying113 (int_zero w) hb F (map_key a h0 h1) with ⟨hrun, _, hat⟩ | ⟨e0, y, _, _, hrun, hRv, hat, _⟩
 ·rw [hrun]
  have h2 := hat .nil
  rw [<- hD', atKey_lit, hg0] at h2
  cases hg : VMap.get a M with
  | none => rfl
  | some v => rw [hg] at h2; cases h2
 ·rw [hrun]
  have h2 := hat .nil
  rw [<- hD', atKey_lit, hg0] at h2
  cases hRv
  cases hg : VMap.get a M with
  | none => rw [hg] at h2; cases h2
  | some v =>
   rw [hg] at h2
   have h3 : (DataW.held (intVal v) : DataW Value) = .held e0.2 := h2
   have h4 : intVal v = e0.2 := DataW.held.inj h3
   rw [<- h4]
   rfl
def LooksV (vv : Value) (V : List (Int × Int)) (l : List Say) : Prop := ∀ (w : World) (l' : List Say), Has w l' -> (∀ A ∈ l, A ∈ l') -> ∀ a : Int, -9223372036854775808 <= a -> a <= 9223372036854775807 ->
 (Instr.lookup 113 vv (.int .i64 a) true).run Tryz.prog w = .ok (.tuple #[.int .i64 ((VMap.get a V).getD 0), .bool (VMap.get a V).isSome]) w
theorem LooksV.of_map {b : Nat} {V : List (Int × Int)} {l : List Say} (hm : imapS b V ∈ l) : LooksV (.map (some b)) V l := fun w l' h hs a h0 h1 => imap_look_ok h (hs _ hm) a h0 h1
structure SwH (es0 es : List Ent) (Q0 : Pgs) (V : List (Int × Int)) (dev : Int) : Prop where
 inv : FInv es0 Q0 (fun _ => 0)
 vals : ∀ a b, VMap.get a V = some b -> 1 <= b /\ b <= 2305843009213693952
 room : ∀ Q1 : Pgs, FullQ es Q1 -> 2 * Q0.length + 1 < Q1.length
 off : ∀ (d : Nat) (e : Ent), es[d]? = some e -> e.st = 1 -> (d : Int) ≠ dev
theorem SwMid.none {es0 es : List Ent} {Q0 Q Q' : Pgs} {M V M' : List (Int × Int)} {dev : Int} {P D : Int -> Prop} {addr : Int} {k : Nat} {news : List (Int × Nd)} {g0 : Pg} (h : SwMid es Q0 Q M V dev P D addr g0.n k news Q' M') (hI : FInv es0 Q0 (fun _ => 0)) (hg0 : VMap.get addr Q0 = some g0) (hP : P addr) (hM : VMap.get addr M = none) : VMap.get addr M' = none := by
 obtain ⟨_, _, _, D', a4, a5, _, a7, _⟩ := h
 cases hb : VMap.get addr M' with
 | none => rfl
 | some b =>
  obtain ⟨h1, h2⟩ := a4.ent addr b hb
  rcases a7 addr h1 with hd | ⟨c, hc, hr⟩
  ·have h3 := (a5 addr hd).2
   rw [swV_some hb, swV_none hM] at h3
   rw [h3] at h2
   exact absurd hP h2
  ·obtain ⟨gc, hgc, hl⟩ := hI.kid addr g0 hg0 c hc
   have := hr.lv hI hgc hg0
   omega
theorem SwMid.leaf {es : List Ent} {Q0 Q Q' : Pgs} {M V M' : List (Int × Int)} {dev : Int} {P D : Int -> Prop} {addr : Int} {n : Nd} {k : Nat} {news : List (Int × Nd)} (h : SwMid es Q0 Q M V dev P D addr n k news Q' M') (hl : n.level = 0) : SwMid es Q0 Q M V dev P D addr n (k + 1) news Q' M' := by
 obtain ⟨a1, a2, a3, D', a4, a5, a6, a7, a8, a9⟩ := h
 have e0 : n.kids = [] := by unfold Nd.kids; rw [if_pos hl]
 refine ⟨a1, a2, a3, D', a4, a5, fun c hc => ?_, a7, fun _ => a8 fun c hc => by rw [e0] at hc; simp at hc, a9⟩
 have : n.kids = [] := by unfold Nd.kids; rw [if_pos hl]
 rw [this] at hc
 cases hc
def swF (V M : List (Int × Int)) (lv : Int) : Int -> Int := if lv = 0 then swV V else swV M
def SwPost (c p bank sp N nb : Nat) (es : List Ent) (Q0 Q : Pgs) (M V : List (Int × Int)) (dev : Int) (P D : Int -> Prop) (put : List Int) (addr : Int) (l : List Say) (w : World) (r : Ending) (w' : World) : Prop :=
 Kept w w' /\ ∃ news Q' M' pv', r = .returned (.tuple #[.int .i64 (swV M' addr), .nilIface]) /\ SwOut es Q0 Q M V dev P D addr news Q' M' /\ Has w' (imapS nb M' :: btS p bank sp (N + news.length) es Q' :: chL c p pv' (put ++ news.map (·.1)) l)
def SwM (w : World) (c p bank sp N nb r14 : Nat) (es : List Ent) (Q0 Q : Pgs) (M V : List (Int × Int)) (dev : Int) (P D : Int -> Prop) (put : List Int) (addr lvI : Int) (ks vs : List Int) (kv vv : Value) (l : List Say) (k : Nat) (chg : Bool) (wr : World) : Prop :=
 ∃ news Q1 M1 pv1, SwMid es Q0 Q M V dev P D addr ⟨lvI, ks, vs⟩ k news Q1 M1 /\ (chg = false ↔ (Off dev addr /\ (vs.take k).map (swF V M1 lvI) = vs.take k)) /\ Kept w wr /\
  Has wr (imapS nb M1 :: btS p bank sp (N + news.length) es Q1 :: chL c p pv1 (put ++ news.map (·.1)) (pts r14 (.cells #[.int .i64 lvI, kv, vv] 35 (0, 0)) :: intsS kv ks :: intsS vv ((vs.take k).map (swF V M1 lvI) ++ vs.drop k) :: l))
def SwC (lv : Nat) : Prop := ∀ {w : World} {l : List Say} {c p bank sp N nb : Nat} {es0 es : List Ent} {Q0 Q : Pgs} {M V : List (Int × Int)} {dev : Int} {P D : Int -> Prop} {put : List Int} {pv vm : Value} (addr : Int) {g0 : Pg},
 Has w (imapS nb M :: btS p bank sp N es Q :: chL c p pv put l) -> Tab l -> LooksV vm V l -> SwH es0 es Q0 V dev -> SwI Q0 Q M V dev P D -> P addr -> VMap.get addr Q0 = some g0 -> g0.n.level = (lv : Int) -> Q.length <= Q0.length + M.length -> N + Q0.length <= 200000 + M.length -> put.length + Q0.length <= 900 + M.length ->
 Calls Tryz.prog 122 #[.pointer (some ⟨c, 0, none⟩), .int .i64 addr, .int .i64 dev, .map (some nb), vm] w (SwPost c p bank sp N nb es Q0 Q M V dev P D put addr l w)
theorem Has.ints_put {w : World} {l : List Say} {g n c : Nat} {xs : List Int} (h : Has w (intsS (.slice (some ⟨g, 0, none⟩) n c) xs :: l)) (hn : n = xs.length) (j : Nat) (u : Int) :
  Has (w.setCell ⟨g, j, none⟩ (.int .i64 u)) (intsS (.slice (some ⟨g, 0, none⟩) n c) (xs.set j u) :: l) := by
 subst hn
 have := Has.row_set h j (.int .i64 u)
 rw [intsS, List.length_set, List.map_set]
 exact this
theorem sw_step {V M : List (Int × Int)} {lvI : Int} {vs : List Int} {k : Nat} {v tv : Int} (hv : vs[k]? = some v) (ht : tv = swF V M lvI v) : ((vs.take k).map (swF V M lvI) ++ vs.drop k).set k tv = (vs.take (k + 1)).map (swF V M lvI) ++ vs.drop (k + 1) := by
 obtain ⟨hk, rfl⟩ := List.getElem?_eq_some_iff.1 hv
 rw [List.take_succ_eq_append_getElem hk, List.map_append, List.append_assoc, List.drop_eq_getElem_cons hk, List.set_append_right _ _ (by rw [List.length_map, List.length_take]; omega), List.length_map, List.length_take]
 rw [show k - min k vs.length = 0 by omega, ht]
 rfl
theorem sw_flag {V M : List (Int × Int)} {lvI : Int} {vs : List Int} {k : Nat} {v tv : Int} (hv : vs[k]? = some v) (ht : tv = swF V M lvI v) {chg : Bool} {O : Prop} (h : chg = false ↔ (O /\ (vs.take k).map (swF V M lvI) = vs.take k)) : (chg || (tv != v)) = false ↔ (O /\ (vs.take (k + 1)).map (swF V M lvI) = vs.take (k + 1)) := by
 obtain ⟨hk, rfl⟩ := List.getElem?_eq_some_iff.1 hv
 rw [List.take_succ_eq_append_getElem hk, List.map_append, Bool.or_eq_false_iff, h]
 have hl : ((vs.take k).map (swF V M lvI)).length = (vs.take k).length := List.length_map _
 constructor
 ·rintro ⟨⟨h1, h2⟩, h3⟩
  have h3 : tv = vs[k] := by simpa using h3
  refine ⟨h1, ?_⟩
  rw [h2, List.map_cons, List.map_nil, <- ht, h3]
 ·rintro ⟨h1, h2⟩
  obtain ⟨h3, h4⟩ := List.append_inj h2 hl
  refine ⟨⟨h1, h3⟩, ?_⟩
  rw [List.map_cons, List.map_nil] at h4
  have h5 : swF V M lvI vs[k] = vs[k] := by simpa using h4
  rw [ht, h5]
  simp
theorem swF_ext {V M M' : List (Int × Int)} {lvI : Int} {ks vs : List Int} {k : Nat} (h : ∀ c ∈ (⟨lvI, ks, vs⟩ : Nd).kids.take k, swV M' c = swV M c) : (vs.take k).map (swF V M' lvI) = (vs.take k).map (swF V M lvI) := by
 unfold swF
 by_cases h0 : lvI = 0
 ·rw [if_pos h0, if_pos h0]
 ·rw [if_neg h0, if_neg h0]
  refine List.map_congr_left fun c hc => h c ?_
  unfold Nd.kids
  rw [if_neg h0]
  exact hc
theorem swN_of {V M : List (Int × Int)} {lvI : Int} {ks vs : List Int} : swN V M ⟨lvI, ks, vs⟩ = ⟨lvI, ks, vs.map (swF V M lvI)⟩ := rfl
theorem swN_ok {V M : List (Int × Int)} {n : Nd} (h : n.ok = true) (hv : ∀ v ∈ n.vals, 1 <= swF V M n.level v /\ swF V M n.level v <= 2305843009213693952) : (swN V M n).ok = true := by
 obtain ⟨o0, o1, o2, o3, o4⟩ := ok_lens h
 obtain ⟨p1, p2, p3⟩ := ok_pairs h
 have e : swN V M n = ndOf n.level (n.pairs.map fun p => (p.1, swF V M n.level p.2)) := by
  have e1 : (n.pairs.map fun p => (p.1, swF V M n.level p.2)).map (·.1) = n.keys := by rw [List.map_map, <- pairs_keys h]; rfl
  have e2 : (n.pairs.map fun p => (p.1, swF V M n.level p.2)).map (·.2) = n.vals.map (swF V M n.level) := by
   have : n.pairs.map (·.2) = n.vals := by unfold Nd.pairs; rw [List.map_snd_zip (by omega)]
   rw [List.map_map]
   conv => rhs; rw [<- this, List.map_map]
   rfl
  unfold ndOf
  rw [e1, e2]
  rfl
 rw [e]
 refine nd_ok o0 o1 (by rw [List.length_map]; omega) (by rw [List.length_map]; omega) ?_ fun p hp => ?_
 ·refine List.pairwise_map.2 (List.Pairwise.imp (fun {a b} hab => ?_) p1)
  exact hab
 ·obtain ⟨q, hq, rfl⟩ := List.mem_map.1 hp
  have h1 := p2 q hq
  have h2 := hv q.2 (List.of_mem_zip (show (q.1, q.2) ∈ n.keys.zip n.vals from hq)).2
  simp only [pairOk, Bool.and_eq_true, decide_eq_true_eq] at h1 ⊢
  exact ⟨⟨h1.1.1, h2.1⟩, h2.2⟩
theorem ok_valsB {n : Nd} (h : n.ok = true) : ∀ v ∈ n.vals, 1 <= v /\ v <= 2305843009213693952 := fun v hv => by
 obtain ⟨p1, p2, p3⟩ := ok_pairs h
 obtain ⟨o0, o1, o2, o3, o4⟩ := ok_lens h
 obtain ⟨i, hi, rfl⟩ := List.getElem_of_mem hv
 have hm : (n.keys[i]'(by omega), n.vals[i]) ∈ n.pairs := by
  unfold Nd.pairs
  rw [List.mem_iff_getElem?]
  exact ⟨i, by rw [List.getElem?_zip_eq_some]; exact ⟨List.getElem?_eq_getElem _, List.getElem?_eq_getElem _⟩⟩
 have := p2 _ hm
 simp only [pairOk, Bool.and_eq_true, decide_eq_true_eq] at this
 exact ⟨this.1.2, this.2⟩
theorem LooksV.mono {vv : Value} {V : List (Int × Int)} {l l' : List Say} (h : LooksV vv V l) (hs : ∀ A ∈ l, A ∈ l') : LooksV vv V l' := fun w l'' hh h2 => h w l'' hh fun A hA => h2 A (hs A hA)
theorem SwMid.right {es0 es : List Ent} {Q0 Q Q' : Pgs} {M V M' : List (Int × Int)} {dev : Int} {P D : Int -> Prop} {addr : Int} {k : Nat} {news : List (Int × Nd)} {g0 : Pg} (h : SwMid es Q0 Q M V dev P D addr g0.n k news Q' M') (hk : g0.n.kids.length <= k) (hH : SwH es0 es Q0 V dev) (hg0 : VMap.get addr Q0 = some g0) (hI : FInv es Q' (fun _ => 0)) :
  (swN V M' g0.n).ok = true /\ namedErr Q' (swN V M' g0.n) = .nilIface := by
 obtain ⟨D', a4, a5, a6, a7, _⟩ := h.kids hk
 obtain ⟨ok, _, _⟩ := hH.inv.pg addr g0 hg0
 refine ⟨swN_ok ok fun v hv => ?_, named_of fun c hc => ?_⟩
 ·unfold swF
  by_cases h0 : g0.n.level = 0
  ·rw [if_pos h0]
   unfold swV
   cases hx : VMap.get v V with
   | some x => exact hH.vals v x hx
   | none => exact ok_valsB ok v hv
  ·rw [if_neg h0]
   obtain ⟨_, g', _, e2, _⟩ := a4.gd v (a6 v (by unfold Nd.kids; rw [if_neg h0]; exact hv))
   have := (hI.adr _ (by rw [e2]; rfl)).bd
   omega
 ·rw [swN_kids] at hc
  obtain ⟨x, hx, rfl⟩ := List.mem_map.1 hc
  obtain ⟨gx, g', e1, e2, e3, _⟩ := a4.gd x (a6 x hx)
  obtain ⟨gc, hgc, hl⟩ := hH.inv.kid addr g0 hg0 x hx
  rw [e1] at hgc
  obtain rfl := Option.some.inj hgc
  exact ⟨g', e2, by rw [e3]; exact hl⟩
theorem off_next {es0 es : List Ent} {Q0 Q : Pgs} {V : List (Int × Int)} {dev b : Int} (hH : SwH es0 es Q0 V dev) (hn : Next es Q b) : Off dev b := by
 obtain ⟨d, k, e, rfl, he, hst, _, hk, _⟩ := hn.act
 have := hH.off d e he hst
 unfold Off lenV
 omega
end Go.Proofs.YtgbgneiciabidaaGreatDoor
