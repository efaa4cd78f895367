/-
  Trees (layer 12): trees that are swapped one behind the other, in plain Lean.
-/
import Derived.Test.YtgbgneiciabidaaGreatDoorGs40
import Derived.Test.YtgbgneiciabidaaGreatDoorGs11
import Derived.Test.YtgbgneiciabidaaGreatDoorGs10
import Derived.Test.YtgbgneiciabidaaGreatDoorGs14
namespace Go.Proofs.YtgbgneiciabidaaGreatDoor
open Go Go.RowKit
set_option linter.all false
set_option maxHeartbeats 8000000
def OldP (Q0 : Pgs) (ts0 : List Tre) (i : Nat) (x : Int) : Prop := ∃ j u, i <= j /\ ts0[j]? = some u /\ Reach Q0 u.a x
def DoneP (Q0 : Pgs) (ts0 : List Tre) (i : Nat) (x : Int) : Prop := ∃ j u, j < i /\ ts0[j]? = some u /\ Reach Q0 u.a x
def swT (V M : List (Int × Int)) (u : Tre) : Tre := ⟨swV M u.a, swL V u.L, u.s⟩
structure SwL (Q0 : Pgs) (ts0 : List Tre) (V : List (Int × Int)) (dev : Int) (i : Nat) (Q : Pgs) (M : List (Int × Int)) (ts : List Tre) : Prop where
 grove : Grove Q ts
 inv : SwI Q0 Q M V dev (OldP Q0 ts0 i) (DoneP Q0 ts0 i)
 tre : ∀ j u, ts0[j]? = some u -> ts[j]? = some (if j < i then swT V M u else u)
 len : ts.length = ts0.length
 few : Q.length <= Q0.length + M.length
theorem Reach.last {Q : Pgs} {a b : Int} (h : Reach Q a b) : a = b \/ ∃ c g, Reach Q a c /\ VMap.get c Q = Option.some g /\ b ∈ g.n.kids := by
 induction h with
 | here _ => exact .inl rfl
 | kid hg hc _ ih =>
  rename_i a c b g _
  rcases ih with rfl | ⟨d, gd, h1, h2, h3⟩
  ·exact .inr ⟨a, g, .here (by rw [hg]; rfl), hg, hc⟩
  ·exact .inr ⟨d, gd, .kid hg hc h1, h2, h3⟩
theorem SwI.zero {es0 : List Ent} {Q0 Q : Pgs} {M V : List (Int × Int)} {dev : Int} {P D : Int -> Prop} (h : SwI Q0 Q M V dev P D) (hI : FInv es0 Q0 (fun _ => 0)) : swV M 0 = 0 := by
 refine swV_none ?_
 cases hg : VMap.get 0 M with
 | none => rfl
 | some b =>
  obtain ⟨g, _, h1, _⟩ := h.gd 0 (h.ent 0 b hg).1
  have := (hI.adr 0 (by rw [h1]; rfl)).bd
  omega
theorem SwL.start {es0 : List Ent} {Q0 : Pgs} {ts0 : List Tre} (hI : FInv es0 Q0 (fun _ => 0)) (hT : Grove Q0 ts0) (V : List (Int × Int)) (dev : Int) : SwL Q0 ts0 V dev 0 Q0 [] ts0 := by
 refine ⟨hT, ⟨fun x hx => ?_, fun a ha => ?_, fun a b h => (by cases h), fun a a' ha => ?_, List.Pairwise.nil⟩, fun j u h => by rw [if_neg (Nat.not_lt_zero j)]; exact h, rfl, by simp⟩
 ·obtain ⟨j, u, hj, hu, hr⟩ := hx
  obtain ⟨g, hg⟩ := Option.isSome_iff_exists.1 hr.some
  refine ⟨g, g, hg, hg, rfl, fun c hc => ⟨j, u, hj, hu, ?_⟩⟩
  obtain ⟨gc, hgc, _⟩ := hI.kid x g hg c hc
  exact hr.snoc hg hc (by rw [hgc]; rfl)
 ·obtain ⟨j, u, hj, _⟩ := ha
  exact absurd hj (Nat.not_lt_zero j)
 ·obtain ⟨j, u, hj, _⟩ := ha
  exact absurd hj (Nat.not_lt_zero j)
theorem SwI.congr {Q0 Q : Pgs} {M V : List (Int × Int)} {dev : Int} {P P' D D' : Int -> Prop} (h : SwI Q0 Q M V dev P D) (hP : ∀ x, P x ↔ P' x) (hD : ∀ x, D x ↔ D' x) : SwI Q0 Q M V dev P' D' := by
 have e1 : P = P' := funext fun x => propext (hP x)
 have e2 : D = D' := funext fun x => propext (hD x)
 rw [<- e1, <- e2]
 exact h
theorem SwL.next0 {es0 : List Ent} {Q0 Q : Pgs} {ts0 ts : List Tre} {V M : List (Int × Int)} {dev : Int} {i : Nat} {u : Tre} (h : SwL Q0 ts0 V dev i Q M ts) (hI : FInv es0 Q0 (fun _ => 0)) (hT0 : Grove Q0 ts0) (hu : ts0[i]? = some u) (h0 : u.a = 0) : SwL Q0 ts0 V dev (i + 1) Q M ts := by
 have hno : ∀ x, ¬ Reach Q0 u.a x := fun x hr => by
  rw [h0] at hr
  have hz : ∀ {a b : Int}, Reach Q0 a b -> a = 0 -> False := fun {a b} hr e => by
   subst e
   cases hr with
   | here hs => obtain ⟨g, hg⟩ := Option.isSome_iff_exists.1 hs; have := (hI.adr 0 (by rw [hg]; rfl)).bd; omega
   | kid hg _ _ => have := (hI.adr 0 (by rw [hg]; rfl)).bd; omega
  exact hz hr rfl
 refine ⟨h.grove, h.inv.congr (fun x => ⟨?_, ?_⟩) (fun x => ⟨?_, ?_⟩), fun j v hj => ?_, h.len, h.few⟩
 ·rintro ⟨j, v, hj, hv, hr⟩
  by_cases e : j = i
  ·subst e
   rw [hu] at hv
   obtain rfl := Option.some.inj hv
   exact absurd hr (hno x)
  ·exact ⟨j, v, by omega, hv, hr⟩
 ·rintro ⟨j, v, hj, hv, hr⟩
  exact ⟨j, v, by omega, hv, hr⟩
 ·rintro ⟨j, v, hj, hv, hr⟩
  exact ⟨j, v, by omega, hv, hr⟩
 ·rintro ⟨j, v, hj, hv, hr⟩
  by_cases e : j = i
  ·subst e
   rw [hu] at hv
   obtain rfl := Option.some.inj hv
   exact absurd hr (hno x)
  ·exact ⟨j, v, by omega, hv, hr⟩
 ·have h1 := h.tre j v hj
  by_cases e : j = i
  ·subst e
   rw [hu] at hj
   obtain rfl := Option.some.inj hj
   rw [if_neg (Nat.lt_irrefl _)] at h1
   rw [if_pos (Nat.lt_succ_self _), h1]
   have hR := hT0.root u (List.mem_of_getElem? hu)
   rcases hR.it with ⟨e1, e2, e3⟩ | ⟨lv, hT, _, hp⟩
   ·obtain ⟨a, L, s⟩ := u
    simp only at e1 e2 e3
    subst e1 e2 e3
    unfold swT swL
    simp only [h.inv.zero hI, List.map_nil]
   ·rw [h0, hT0.zero] at hp
    exact absurd hp (Int.lt_irrefl 0)
  ·rw [h1]
   by_cases e2 : j < i
   ·rw [if_pos e2, if_pos (by omega)]
   ·rw [if_neg e2, if_neg (by omega)]
theorem SwL.next {es0 es : List Ent} {Q0 Q Q1 Q' : Pgs} {ts0 ts : List Tre} {V M M1 : List (Int × Int)} {dev : Int} {i : Nat} {u : Tre} {news : List (Int × Nd)} (h : SwL Q0 ts0 V dev i Q M ts) (hI0 : FInv es0 Q0 (fun _ => 0)) (hI : FInv es Q (fun _ => 0)) (hI' : FInv es Q' (fun _ => 0)) (hT0 : Grove Q0 ts0) (hu : ts0[i]? = some u) (h0 : u.a ≠ 0)
  (ho : SwOut es Q0 Q M V dev (OldP Q0 ts0 i) (DoneP Q0 ts0 i) u.a news Q1 M1)
  (hq : (swV M1 u.a = u.a /\ Q' = Q1) \/ (swV M1 u.a ≠ u.a /\ ∃ g, VMap.get (swV M1 u.a) Q1 = some g /\ Dropd u.a (VMap.put (swV M1 u.a) (g.more 1) Q1) Q')) :
  SwL Q0 ts0 V dev (i + 1) Q' M1 (ts.set i (swT V M1 u)) := by
 obtain ⟨hps, hml, hql, D', d1, d2, d3, d4, d5, d6⟩ := ho
 have hti := h.tre i u hu
 rw [if_neg (Nat.lt_irrefl _)] at hti
 have hil := (List.getElem?_eq_some_iff.1 hti).1
 have hI1 := hps.inv hI
 have hRu := hT0.root u (List.mem_of_getElem? hu)
 obtain ⟨lv, hTr, hSr, _⟩ : ∃ lv, Tr Q0 lv u.a u.L u.s /\ Srt u.L /\ 0 < heldOf Q0 u.a := by
  rcases hRu.it with ⟨e, _⟩ | ⟨lv, a, b, c⟩
  ·exact absurd e h0
  ·exact ⟨lv, a, b, c⟩
 have hT1 := d1.tree d3 hTr
 obtain ⟨gt, hgt, _⟩ := hT1.get
 have hta0 : swV M1 u.a ≠ 0 := by
  have := (hI1.adr _ (by rw [hgt]; rfl)).bd
  omega
 have hsrt : Srt (swL V u.L) := by
  refine List.pairwise_map.2 (List.Pairwise.imp (fun {a b} hab => ?_) hSr)
  exact hab
 -- what is done
 have hDe : ∀ x, D' x ↔ DoneP Q0 ts0 (i + 1) x := fun x => by
  constructor
  ·intro hx
   rcases d4 x hx with ⟨j, v, hj, hv, hr⟩ | hr
   ·exact ⟨j, v, by omega, hv, hr⟩
   ·exact ⟨i, u, Nat.lt_succ_self _, hu, hr⟩
  ·rintro ⟨j, v, hj, hv, hr⟩
   by_cases e : j = i
   ·subst e
    rw [hu] at hv
    obtain rfl := Option.some.inj hv
    exact d1.reach hr d3
   ·exact (d2 x ⟨j, v, by omega, hv, hr⟩).1
 have hset : ∀ j v, ts0[j]? = some v -> (ts.set i (swT V M1 u))[j]? = some (if j < i + 1 then swT V M1 v else v) := fun j v hv => by
  rw [List.getElem?_set]
  by_cases e : i = j
  ·subst e
   rw [hu] at hv
   obtain rfl := Option.some.inj hv
   rw [if_pos rfl, if_pos hil, if_pos (Nat.lt_succ_self _)]
  ·rw [if_neg e, h.tre j v hv]
   by_cases e2 : j < i
   ·rw [if_pos e2, if_pos (by omega)]
    unfold swT
    have e3 : swV M1 v.a = swV M v.a := by
     by_cases hz : v.a = 0
     ·rw [hz, h.inv.zero hI0, d1.zero hI0]
     ·refine (d2 v.a ⟨j, v, e2, hv, .here ?_⟩).2
      obtain ⟨g, hg, _⟩ := hT0.has (List.mem_of_getElem? hv) hz
      rw [hg]; rfl
    rw [e3]
   ·rw [if_neg e2, if_neg (by omega)]
 -- the trees as they stand
 have key : Grove Q' (ts.set i (swT V M1 u)) /\ Agree Q1 Q' /\ Q'.length <= Q1.length := by
  rcases hq with ⟨he, rfl⟩ | ⟨hne, g, hg, hd⟩
  ·have hn := d5 he
   subst hn
   obtain rfl : Q' = Q := by cases hps; rfl
   refine ⟨⟨h.grove.live, fun t ht => ?_, fun x => ?_⟩, fun b g' hb => ⟨g', hb, rfl⟩, Nat.le_refl _⟩
   ·rcases List.mem_or_eq_of_mem_set ht with ht | rfl
    ·exact h.grove.root t ht
    ·have hp := h.grove.root u (List.mem_of_getElem? hti)
     rcases hp.it with ⟨e, _⟩ | ⟨_, _, _, c⟩
     ·exact absurd e h0
     ·refine ⟨.inr ⟨lv, hT1, hsrt, ?_⟩⟩
      show 0 < heldOf Q' (swV M1 u.a)
      rw [he]; exact c
   ·rw [h.grove.held x]
    obtain ⟨us, p1, p2⟩ := set_perm hti
    rw [heldBy_perm p1, heldBy_perm (p2 _)]
    show oneAt u.a x + _ = oneAt (swV M1 u.a) x + _
    rw [he]
  ·have hheld : 0 < heldOf Q u.a := by
    rcases (h.grove.root u (List.mem_of_getElem? hti)).it with ⟨e, _⟩ | ⟨_, _, _, c⟩
    ·exact absurd e h0
    ·exact c
   have hg0 := (hI1.pg _ g hg).2.1
   have hI2 := hI1.more hg 1 (by omega)
   obtain ⟨hmv, s', hs', hR'⟩ := moved_done (B := u.s) hI hps (.inr ⟨lv, u.s, g, Nat.le_refl _, Nat.le_refl _, hT1, hg, rfl⟩) hd hI' (Shr.refl Q') hI' hheld hsrt
   have hlive : Live Q' := fun b gb hb => by
    rcases Int.lt_or_le 0 gb.holds with h1 | h1
    ·exact h1
    ·exfalso
     obtain ⟨g2, e2, l2⟩ := hd.loo b gb hb h1
     rw [get_put] at e2
     by_cases eb : b = swV M1 u.a
     ·rw [if_pos eb] at e2
      obtain rfl := Option.some.inj e2
      have h3 : (g.more 1).holds = g.holds + 1 := rfl
      have h4 := (hI1.pg _ g hg).2.2
      omega
     ·rw [if_neg eb] at e2
      have hm := hps.loose h.grove.live b g2 e2 l2
      obtain ⟨p, hp, rfl⟩ := List.mem_map.1 hm
      obtain ⟨x, x1, x2, x3⟩ := d6 p hp
      rcases x2.last with rfl | ⟨y, gy, y1, y2, y3⟩
      ·exact eb x3.symm
      ·obtain ⟨g3, g4, z1, z2, z3, _⟩ := d1.gd y (d1.reach y1 d3)
       rw [y2] at z1
       obtain rfl := Option.some.inj z1
       have h5 : swV M1 x ∈ g4.n.kids := by rw [z3, swN_kids]; exact List.mem_map.2 ⟨x, y3, rfl⟩
       have h6 := refs_ge (a := swV M1 x) z2
       have h7 : 0 < g4.n.kids.count (swV M1 x) := List.count_pos_iff.2 h5
       rw [x3] at h6 h7
       have h8 := (hI1.pg _ g2 e2).2
       omega
   refine ⟨?_, ?_, ?_⟩
   ·obtain ⟨us, p1, p2⟩ := set_perm hti
    have hG := Grove.moved (h.grove.perm p1) hlive hmv hR'
    obtain ⟨lv2, hT2, hS2, hp2⟩ : ∃ lv2, Tr Q' lv2 (swV M1 u.a) (swL V u.L) u.s /\ Srt (swL V u.L) /\ 0 < heldOf Q' (swV M1 u.a) := by
     rcases hR'.it with ⟨e, _⟩ | ⟨lv2, a, b, c⟩
     ·exact absurd e hta0
     ·have hag : Agree Q1 Q' := fun b' g' hb' => by
       obtain ⟨q1, r1, r2, _⟩ := hd.sub b' g' hb'
       rw [get_put] at r1
       by_cases eb : b' = swV M1 u.a
       ·rw [if_pos eb] at r1
        obtain rfl := Option.some.inj r1
        exact ⟨g, by rw [eb]; exact hg, r2⟩
       ·rw [if_neg eb] at r1
        exact ⟨q1, r1, r2⟩
      exact ⟨lv, hag.trees hI' c hT1, hsrt, c⟩
    refine (Grove.perm ⟨hG.live, fun t ht => ?_, fun x => ?_⟩ (p2 (swT V M1 u)).symm)
    ·rcases List.mem_cons.1 ht with rfl | ht
     ·exact ⟨.inr ⟨lv2, hT2, hS2, hp2⟩⟩
     ·exact hG.root t (.tail _ ht)
    ·exact hG.held x
   ·exact fun b' g' hb' => by
     obtain ⟨q1, r1, r2, _⟩ := hd.sub b' g' hb'
     rw [get_put] at r1
     by_cases eb : b' = swV M1 u.a
     ·rw [if_pos eb] at r1
      obtain rfl := Option.some.inj r1
      exact ⟨g, by rw [eb]; exact hg, r2⟩
     ·rw [if_neg eb] at r1
      exact ⟨q1, r1, r2⟩
   ·have := len_in hI'.up (Z := Q1.map (·.1)) fun a ga ha => by
     obtain ⟨q1, r1, _⟩ := hd.sub a ga ha
     rw [get_put] at r1
     by_cases eb : a = swV M1 u.a
     ·rw [eb]; exact List.mem_map.2 ⟨(_, g), get_mem hg, rfl⟩
     ·rw [if_neg eb] at r1
      exact List.mem_map.2 ⟨(a, q1), get_mem r1, rfl⟩
    rwa [List.length_map] at this
 obtain ⟨hG, hag, hlen⟩ := key
 refine ⟨hG, ?_, hset, by rw [List.length_set]; exact h.len, by have := h.few; omega⟩
 refine SwI.congr (SwI.agree (P' := OldP Q0 ts0 (i + 1)) d1 hag hI' (fun x hx => ?_) (fun x hx => ?_) (fun x g hx hg c hc => ?_)) (fun x => Iff.rfl) hDe
 ·obtain ⟨j, v, hj, hv, hr⟩ := hx
  refine ⟨v.a, ?_, ⟨j, v, by omega, hv, .here ?_⟩, hr⟩
  ·have hz : v.a ≠ 0 := fun e => by
    obtain ⟨g, hg⟩ : ∃ g, VMap.get v.a Q0 = some g := by
     cases hr with
     | here hs => exact Option.isSome_iff_exists.1 hs
     | kid hg _ _ => exact ⟨_, hg⟩
    have := (hI0.adr _ (by rw [hg]; rfl)).bd
    omega
   have h1 := hset j v hv
   rw [if_neg (by omega)] at h1
   obtain ⟨g, hg, _⟩ := hG.has (List.mem_of_getElem? h1) hz
   rw [hg]; rfl
  ·cases hr with
   | here hs => exact hs
   | kid hg _ _ => rw [hg]; rfl
 ·obtain ⟨j, v, hj, hv, hr⟩ := (hDe x).1 hx
  have hs : (VMap.get v.a Q0).isSome = true := by
   cases hr with
   | here hs => exact hs
   | kid hg _ _ => rw [hg]; rfl
  have hDv : D' v.a := (hDe v.a).2 ⟨j, v, hj, hv, .here hs⟩
  refine ⟨v.a, ?_, hDv, hr⟩
  obtain ⟨_, g', _, e2, _⟩ := d1.gd v.a hDv
  have hz : swV M1 v.a ≠ 0 := by
   have := (hI1.adr _ (by rw [e2]; rfl)).bd
   omega
  have h1 := hset j v hv
  rw [if_pos hj] at h1
  obtain ⟨g, hg, _⟩ := hG.has (List.mem_of_getElem? h1) hz
  have hg2 : VMap.get (swV M1 v.a) Q' = some g := hg
  rw [hg2]; rfl
 ·obtain ⟨j, v, hj, hv, hr⟩ := hx
  obtain ⟨gc, hgc, _⟩ := hI0.kid x g hg c hc
  exact ⟨j, v, hj, hv, hr.snoc hg hc (by rw [hgc]; rfl)⟩
theorem SwL.all {es0 es : List Ent} {Q0 Q : Pgs} {ts0 ts : List Tre} {V M : List (Int × Int)} {dev : Int} (h : SwL Q0 ts0 V dev ts0.length Q M ts) (hI0 : FInv es0 Q0 (fun _ => 0)) (hI : FInv es Q (fun _ => 0)) (hT0 : Grove Q0 ts0) : Q.length = Q0.length /\ ∀ x, (VMap.get x Q).isSome = true -> Off dev x := by
 refine h.inv.all hI0 hI h.grove.live (fun x g hg hp => ?_) (fun x hx => ?_)
 ·obtain ⟨v, hv, rfl⟩ := h.grove.who hg hp
  obtain ⟨j, hj⟩ := List.mem_iff_getElem?.1 hv
  have hjl : j < ts0.length := by rw [<- h.len]; exact (List.getElem?_eq_some_iff.1 hj).1
  obtain ⟨u, hu⟩ : ∃ u, ts0[j]? = some u := ⟨_, List.getElem?_eq_getElem hjl⟩
  have h1 := h.tre j u hu
  rw [if_pos hjl, hj] at h1
  obtain rfl := Option.some.inj h1
  have hz : u.a ≠ 0 := fun e => by
   have h2 : swV M u.a = 0 := by rw [e]; exact h.inv.zero hI0
   have h3 : VMap.get (swV M u.a) Q = some g := hg
   have := (hI.adr _ (by rw [h3]; rfl)).bd
   omega
  obtain ⟨g0, hg0, _⟩ := hT0.has (List.mem_of_getElem? hu) hz
  exact ⟨u.a, ⟨j, u, hjl, hu, .here (by rw [hg0]; rfl)⟩, rfl⟩
 ·classical
  obtain ⟨g0, hg0⟩ := Option.isSome_iff_exists.1 hx
  have hall := hT0.live.all hI0 (Z := (Q0.map (·.1)).filter fun y => decide (DoneP Q0 ts0 ts0.length y)) (fun a g hg hp => ?_) (fun b hb g hg c hc => ?_) x g0 hg0
  ·exact of_decide_eq_true (List.mem_filter.1 hall).2
  ·obtain ⟨v, hv, rfl⟩ := hT0.who hg hp
   obtain ⟨j, hj⟩ := List.mem_iff_getElem?.1 hv
   refine List.mem_filter.2 ⟨List.mem_map.2 ⟨(v.a, g), get_mem hg, rfl⟩, decide_eq_true ⟨j, v, (List.getElem?_eq_some_iff.1 hj).1, hj, .here (by rw [hg]; rfl)⟩⟩
  ·obtain ⟨j, v, hj, hv, hr⟩ := of_decide_eq_true (List.mem_filter.1 hb).2
   obtain ⟨gc, hgc, _⟩ := hI0.kid b g hg c hc
   exact List.mem_filter.2 ⟨List.mem_map.2 ⟨(c, gc), get_mem hgc, rfl⟩, decide_eq_true ⟨j, v, hj, hv, hr.snoc hg hc (by rw [hgc]; rfl)⟩⟩
/-
  Spaces (layer 8): other states of the devices of a space that is in use.
-/
structure Like (es es' : List Ent) : Prop where
 len : es'.length = es.length
 same : ∀ (k : Nat) (e e' : Ent), es[k]? = some e -> es'[k]? = some e' -> e'.size = e.size /\ e.st ≠ 3 /\ e'.st ≠ 3
set_option maxRecDepth 100000 in
theorem sp_fitsU {w : World} {l : List Say} {s : Nat} {X : Spc} {x : SpAt} {v : Value} {es : List Ent} (h : Has w l) (hs : ∀ A ∈ spFlat s X x, A ∈ l) (ok : SpcOk X x.bs) (hm : entS v es ∈ l) (hL : Like X.es es) :
  Calls Tryz.prog 119 #[.pointer (some ⟨s, 0, none⟩), .agg #[v]] w fun r w' => r = .returned (.bool true) /\ Below w.heap.size w w' := by
 obtain ⟨a, c, sa, sc, R⟩ := h.sp_read hs ok
 obtain ⟨a2, c2, hv, _, hr2⟩ := h.ent_read hm
 have hb : Has (w.alloc (.cells #[v] 58)) (pts w.heap.size (.cells #[v] 58 (0, 0)) :: l) := h.alloc _
 have hB : Below w.heap.size w (w.alloc (.cells #[v] 58)) := (Below.refl _ _).alloc (Nat.le_refl _) _
 obtain ⟨n, hn⟩ : ∃ n, X.es.length = n := ⟨_, rfl⟩
 have hn2 : es.length = n := by rw [hL.len, hn]
 have hn8 : n <= 8 := by rw [<- hn]; exact ok.ents.len
 have HLv := Lib.hid R.lv
 have r0 := R.s0
 have r1 := R.t0
 rw [hn] at r1
 rw [hn2] at hv
 subst hv
 have l0 := World.block_lt_of_cell? _ _ r0
 have l1 := World.block_lt_of_cell? _ _ r1
 have hd : decide ((n : Int) < (n : Int)) = false := by simp
 have hnn : ¬ (n : Int) < (n : Int) := by omega
 have HX := Lib.hid (And.intro hs (And.intro ok (And.intro hm (And.intro hL (And.intro hn hn2)))))
 have Hb := Lib.hid hb
 have HB := Lib.hid hB
 obtain ⟨sv, hsv⟩ : ∃ sv, x.st = sv := ⟨_, rfl⟩
 have Hsv := Lib.hid hsv
 rw [hsv] at r0 r1 l1
 clear hs ok hm hL hn hn2 h hb hB R hr2 hsv
 go_enter Tryz.func119, Tryz.ntmps119
 go_wp2
 go_quiet (fail)
 have Hb2 := Lib.hid (Hb.out.drewN nq)
 have HB2 : Hid (Below w.heap.size w ((w.alloc (.cells #[.slice a2 n c2] 58)).drewN nq)) := ⟨HB.out.os, HB.out.tape, HB.out.output, HB.out.size, HB.out.block⟩
 have hsz : w.heap.size < ((w.alloc (.cells #[.slice a2 n c2] 58)).drewN nq).heap.size := by
  show _ < (w.alloc (.cells #[.slice a2 n c2] 58)).heap.size
  rw [World.size_alloc]
  omega
 have s0 : ((w.alloc (.cells #[.slice a2 n c2] 58)).drewN nq).cell? ⟨s, 0, none⟩ = some (.pointer (some ⟨sv, 0, none⟩)) := by
  obtain ⟨hs, ok, hm, hL, hn, hn2⟩ := HX.out
  obtain ⟨_, _, _, _, R⟩ := Hb2.out.sp_read (fun A hA => .tail _ (hs A hA)) ok
  rw [R.s0, Hsv.out]
 have s1 : ((w.alloc (.cells #[.slice a2 n c2] 58)).drewN nq).cell? ⟨sv, 0, none⟩ = some (.slice a n c) := by
  rw [<- r1]
  show (w.alloc (.cells #[.slice a2 n c2] 58)).cell? _ = _
  exact World.cell?_alloc_lt _ _ _ l1
 generalize (w.alloc (.cells #[.slice a2 n c2] 58)).drewN nq = W at *
 have q0 := World.block_lt_of_cell? _ _ s0
 have q1 := World.block_lt_of_cell? _ _ s1
 clear r0 r1 l0 l1 Hb HB hd hnn
 have HM0 : Hid (Below W.heap.size W W) := Below.refl _ _
 obtain ⟨r3, hr3⟩ : ∃ r3, w.heap.size = r3 := ⟨_, rfl⟩
 have Hr3 := Lib.hid hr3
 rw [hr3] at Hb2 HB2 hsz ⊢
 clear hr3
 go_wp2
 go_loopg [30] n (fun gk iv wr => ∃ k : Nat, k <= n /\ gk = n - k /\ iv = .int .i64 k /\ Hid (Below W.heap.size W wr))
 case atStart => exact ⟨0, Nat.zero_le _, rfl, rfl, HM0⟩
 case round =>
  clear HM0
  obtain ⟨k, hk, rfl, rfl, HM⟩ := hrel
  have hh := Hb2.out.below HM.out
  by_cases hlt : k < n
  ·skip
   obtain ⟨hs, ok, hm, hL, hn, hn2⟩ := HX.out
   obtain ⟨a', c', sa', sc', R⟩ := hh.sp_read (fun A hA => .tail _ (hs A hA)) ok
   obtain ⟨_, _, hv, _, hr2⟩ := hh.ent_read (v := .slice a2 n c2) (es := es) (.tail _ hm)
   injection hv with j1 j2 j3
   subst j1
   have hlv := HLv.out.symm.trans R.lv
   injection hlv with j4 j5 j6
   subst j4
   obtain ⟨e, he⟩ : ∃ e, X.es[k]? = some e := ⟨_, List.getElem?_eq_getElem (by omega)⟩
   obtain ⟨e', he'⟩ : ∃ e', es[k]? = some e' := ⟨_, List.getElem?_eq_getElem (by omega)⟩
   obtain ⟨z1, z2, z3⟩ := hL.same k e e' he he'
   obtain ⟨g, rfl, d0, d1⟩ := R.ent k e he
   obtain ⟨g2, rfl, d2, d3⟩ := hr2 k e' he'
   have cb : wr.cell? ⟨r3, 0, none⟩ = some (.slice (some ⟨g2, 0, none⟩) n c2) := cell_of hh.got 0 rfl
   have lb := World.block_lt_of_cell? _ _ cb
   have ld := World.block_lt_of_cell? _ _ d0
   have ld2 := World.block_lt_of_cell? _ _ d2
   have hA1 := (hh.alloc (.cells #[.int .i64 (e.st : Int), .int .i64 (e.size : Int)] 139)).alloc (.cells #[.int .i64 (e'.st : Int), .int .i64 (e'.size : Int)] 139)
   have hB1 := ((HM.out).alloc (by exact HM.out.size) (.cells #[.int .i64 (e.st : Int), .int .i64 (e.size : Int)] 139)).alloc (by rw [World.size_alloc]; have := HM.out.size; omega) (.cells #[.int .i64 (e'.st : Int), .int .i64 (e'.size : Int)] 139)
   have kI : (k : Int) < (n : Int) := by omega
   have k0 : (0 : Int) <= k := by omega
   have hs1 : decide ((e'.size : Int) < (e.size : Int)) = false := by simp; omega
   have hs2 : ¬ (e'.size : Int) < (e.size : Int) := by omega
   have hs3 : decide (e'.size < e.size) = false := by simp; omega
   have hs4 : ¬ e'.size < e.size := by omega
   have b1 : (e.st == 3) = false := by simpa using z2
   have b2 : (e'.st == 3) = false := by simpa using z3
   have HMe : Hid (∀ w', Calls Tryz.prog 159 #[.agg #[.int .i64 (e.st : Int), .int .i64 (e.size : Int)]] w' fun r w'' => r = .returned (.bool true) /\ Below w'.heap.size w' w'') := fun w' => by
    have := space_member (w := w') e
    rw [b1] at this
    exact this
   have HMe' : Hid (∀ w', Calls Tryz.prog 159 #[.agg #[.int .i64 (e'.st : Int), .int .i64 (e'.size : Int)]] w' fun r w'' => r = .returned (.bool true) /\ Below w'.heap.size w' w'') := fun w' => by
    have := space_member (w := w') e'
    rw [b2] at this
    exact this
   rw [World.size_alloc] at hA1
   have HA := Lib.hid hA1
   have HB1 := Lib.hid hB1
   clear hs ok hm hL hn hn2 R hr2 he he' z1 z2 z3 b1 b2 hh hA1 hB1 HM j2 j3 j5 j6
   go_wp2_with fail
   generalize (wr.alloc (.cells #[.int .i64 (e.st : Int), .int .i64 (e.size : Int)] 139)).alloc (.cells #[.int .i64 (e'.st : Int), .int .i64 (e'.size : Int)] 139) = V at *
   generalize wr.heap.size + 1 = p7 at *
   generalize wr.heap.size = p6 at *
   refine (HMe'.out _).mono ?_
   rintro r V2 ⟨rfl, hb2⟩
   have HA2 := Lib.hid (HA.out.below hb2)
   have HB2' := Lib.hid (HB1.out.trans (hb2.mono HB1.out.size))
   have f0 : V2.cell? ⟨p6, 0, none⟩ = some (.int .i64 (e.st : Int)) := cell_of HA2.out.tail.got 0 rfl
   have f1 : V2.cell? ⟨p6, 1, none⟩ = some (.int .i64 (e.size : Int)) := cell_of HA2.out.tail.got 1 rfl
   have lf := World.block_lt_of_cell? _ _ f0
   clear hb2 HA HB1 d0 d1 d2 d3 cb lb ld ld2
   go_wp2_with fail
   refine (HMe.out _).mono ?_
   rintro r V3 ⟨rfl, hb3⟩
   have HA3 := Lib.hid (HA2.out.below hb3)
   have HB3 := Lib.hid (HB2'.out.trans (hb3.mono HB2'.out.size))
   clear f0 f1 lf HA2 HB2' hb3
   have f0 : V3.cell? ⟨p6, 0, none⟩ = some (.int .i64 (e.st : Int)) := cell_of HA3.out.tail.got 0 rfl
   have f1 : V3.cell? ⟨p6, 1, none⟩ = some (.int .i64 (e.size : Int)) := cell_of HA3.out.tail.got 1 rfl
   have lf := World.block_lt_of_cell? _ _ f0
   go_wp2_with fail
   refine (HMe.out _).mono ?_
   rintro r V4 ⟨rfl, hb4⟩
   have HA4 := Lib.hid (HA3.out.below hb4)
   have HB4 := Lib.hid (HB3.out.trans (hb4.mono HB3.out.size))
   clear f0 f1 lf HA3 HB3 hb4
   have f0 : V4.cell? ⟨p7, 0, none⟩ = some (.int .i64 (e'.st : Int)) := cell_of HA4.out.got 0 rfl
   have f1 : V4.cell? ⟨p7, 1, none⟩ = some (.int .i64 (e'.size : Int)) := cell_of HA4.out.got 1 rfl
   have lf := World.block_lt_of_cell? _ _ f0
   go_wp2_with fail
   refine (HMe'.out _).mono ?_
   rintro r V5 ⟨rfl, hb5⟩
   have HB5 := Lib.hid (HB4.out.trans (hb5.mono HB4.out.size))
   clear f0 f1 lf HA4 HB4 hb5
   go_wp2
   go_roundg (n - (k + 1))
   case measure => omega
   case rel => exact ⟨k + 1, by omega, rfl, by go_num, HB5⟩
  ·skip
   obtain rfl : k = n := by omega
   have HF : Hid (Below r3 w wr) := Lib.hid (HB2.out.trans (HM.out.mono (by omega)))
   clear hh HM hlt
   go_wp2
   go_ret
   exact ⟨rfl, by rw [Hr3.out]; exact HF.out⟩
theorem SpcOk.turn {X : Spc} {bs : List Nat} {es : List Ent} (ok : SpcOk X bs) (hE : OkEnts es) (hL : Like X.es es) : SpcOk ⟨es, X.sh⟩ bs := by
 refine ⟨hE, fun e => ?_, ok.bs, by rw [hL.len]; exact ok.sh, fun i s e h1 h2 => ?_, ok.ok⟩
 ·have h1 := hL.len
  rw [show es = [] from e] at h1
  exact ok.ne (List.eq_nil_of_length_eq_zero h1.symm)
 ·have h2' : es[i]? = some e := h2
  have hi := (List.getElem?_eq_some_iff.1 h2').1
  have hi2 : i < X.es.length := by rw [<- hL.len]; exact hi
  have h3 : X.es[i]? = some X.es[i] := List.getElem?_eq_getElem hi2
  rw [ok.size i s _ h1 h3]
  exact (hL.same i _ e h3 h2').1.symm
def TurnUM (w : World) (r3 s : Nat) (X : Spc) (x : SpAt) (v v1 : Value) (es : List Ent) (l : List Say) (wr : World) : Prop :=
 Kept w wr /\ Has wr (pts r3 (.cells #[v] 58 (0, 0)) :: (spFlat s ⟨es, X.sh⟩ ⟨x.st, v1, x.sv, x.bs⟩ ++ l))
theorem focus_perm {A S rest l : List Say} {x : Say} (h : S.Perm (x :: rest)) : (A ++ (S ++ l)).Perm (x :: (A ++ (rest ++ l))) := (List.Perm.append_left A (h.append_right l)).trans (by rw [List.cons_append]; exact List.perm_middle)
set_option maxRecDepth 100000 in
theorem sp_TurnU {w : World} {l : List Say} {s : Nat} {X : Spc} {v : Value} {es : List Ent} (h : Has w (spaceS s X :: l)) (hm : entS v es ∈ l) (hE : OkEnts es) (hL : Like X.es es) :
  Calls Tryz.prog 63 #[.pointer (some ⟨s, 0, none⟩), .agg #[v]] w (TurnPost s ⟨es, X.sh⟩ l w) := by
 obtain ⟨⟨st, lv, sv, bs⟩, ok, h⟩ := h.sp_open
 have hne : es ≠ [] := fun e => by
  have h1 := hL.len
  rw [e] at h1
  exact ok.ne (List.eq_nil_of_length_eq_zero h1.symm)
 have hn8 := hE.len
 obtain ⟨m, hn⟩ : ∃ m, es.length = m := ⟨_, rfl⟩
 obtain ⟨a2, c2, hv, _, _⟩ := h.ent_read (List.mem_append_right _ hm)
 rw [hn] at hv hn8
 subst hv
 have hbox := h.alloc (.cells #[.slice a2 m c2] 58)
 have HCk := Lib.hid (ros_Check (v := .slice a2 m c2) (es := es) hbox (.tail _ (List.mem_append_right _ hm)) hE)
 have HK1 : Hid (Kept w (w.alloc (.cells #[.slice a2 m c2] 58))) := (Kept.refl w).alloc _
 have Hbox := Lib.hid hbox
 have HX := Lib.hid (And.intro ok (And.intro hm (And.intro hE (And.intro hL (And.intro hne hn)))))
 clear h hbox hm hE hL hne hn ok
 go_enter Tryz.func63, Tryz.ntmps63
 go_wp2_with fail
 refine HCk.out.mono ?_
 rintro r w1 ⟨rfl, hb1⟩
 have h1 := Hbox.out.below hb1
 have HK2 := Lib.hid (HK1.out.trans (Kept.below hb1))
 clear Hbox HCk HK1 hb1
 generalize w.heap.size = r3 at *
 have cb : w1.cell? ⟨r3, 0, none⟩ = some (.slice a2 m c2) := cell_of h1.got 0 rfl
 have lb := World.block_lt_of_cell? _ _ cb
 have HF := Lib.hid (sp_fitsU h1 (s := s) (X := X) (x := ⟨st, lv, sv, bs⟩) (fun A hA => .tail _ (List.mem_append_left _ hA)) HX.out.1 (.tail _ (List.mem_append_right _ HX.out.2.1)) HX.out.2.2.2.1)
 have H1 := Lib.hid h1
 clear h1
 go_wp2_with fail
 refine HF.out.mono ?_
 rintro r w2 ⟨rfl, hb2⟩
 have h2 := H1.out.below hb2
 have HK3 := Lib.hid (HK2.out.trans (Kept.below hb2))
 clear hb2 H1 HF HK2 cb lb
 have h3 : Has w2 (pts r3 (.cells #[.slice a2 m c2] 58 (0, 0)) :: pts s (.cells #[.pointer (some ⟨st, 0, none⟩), .pointer none] 160 (0, 0)) :: pts st (.cells #[lv, sv] 163 (0, 0)) :: entS lv X.es :: rowS 175 1 sv bs.length (bs.map ptr) :: (shelvesL bs X.sh ++ l)) := by
  have h4 := h2
  simp only [spFlat, spHead, List.cons_append, List.nil_append] at h4
  exact h4
 have cb : w2.cell? ⟨r3, 0, none⟩ = some (.slice a2 m c2) := cell_of h3.got 0 rfl
 have cs : w2.cell? ⟨s, 0, none⟩ = some (.pointer (some ⟨st, 0, none⟩)) := cell_of h3.tail.got 0 rfl
 have lb := World.block_lt_of_cell? _ _ cb
 have ls := World.block_lt_of_cell? _ _ cs
 have HH := Lib.hid h3
 clear h2 h3
 go_upto_region 5 with fail
 have hh := HH.out
 clear HH
 obtain ⟨FA, HFA⟩ : ∃ FA : List (Nat × Addr × Value), Hid (FA = [(3, ⟨s, 0, none⟩, .pointer (some ⟨st, 0, none⟩)), (4, ⟨r3, 0, none⟩, .slice a2 m c2)]) := ⟨_, rfl⟩
 have fa3 : ∀ n : In (factsOf FA 3), n.w.cell? ⟨s, 0, none⟩ = some (.pointer (some ⟨st, 0, none⟩)) := fun n => factsOf.cell (by rw [HFA.out]; simp) n
 have fa4 : ∀ n : In (factsOf FA 4), n.w.cell? ⟨r3, 0, none⟩ = some (.slice a2 m c2) := fun n => factsOf.cell (by rw [HFA.out]; simp) n
 have hFA : ∀ p ∈ FA, w2.cell? p.2.1 = some p.2.2 := by rw [HFA.out]; exact (fcons cs (fcons cb fnil))
 haveI neFA : ∀ k, Nonempty (In (factsOf FA k)) := fun k => ⟨⟨_, factsOf.drew hFA k⟩⟩
 refine ws_begin [0, 1, 2, 3, 4, 5, 6, 7, 8] (factsOf FA) (pts r3 (.cells #[.slice a2 m c2] 58 (0, 0)) :: pts s (.cells #[.pointer (some ⟨st, 0, none⟩), .pointer none] 160 (0, 0)) :: pts st (.cells #[lv, sv] 163 (0, 0)) :: entS lv X.es :: rowS 175 1 sv bs.length (bs.map ptr) :: (shelvesL bs X.sh ++ l)) #[0, 1, 3, 7, 0, 16, 63, 127, 255] (by kernel_rfl) (by kernel_rfl) (by kernel_rfl) factsOf.alloc (factsOf.drew hFA) hh ?_
 clear hFA
 iterate 5 (refine ws_q (at_lit rfl) rfl rfl rfl ?_; go_big_quiet_op; show WS _ _ _ _ _ _ _ _ _ _)
 refine ws_call (at_lit rfl) rfl rfl 91 #[.agg #[.slice a2 m c2]] (fun w => by go_simp) (fun u L' => ∃ q c, u = .agg #[.slice q m c] /\ L' = entS (.slice q m c) es :: pts r3 (.cells #[.slice a2 m c2] 58 (0, 0)) :: pts s (.cells #[.pointer (some ⟨st, 0, none⟩), .pointer none] 160 (0, 0)) :: pts st (.cells #[lv, sv] 163 (0, 0)) :: entS lv X.es :: rowS 175 1 sv bs.length (bs.map ptr) :: (shelvesL bs X.sh ++ l)) (fun w' F hS hh => ?_) ?_
 ·refine (space_copied (w := w') hh (v := .slice a2 m c2) (es := es) (by simp [HX.out.2.1]) HX.out.2.2.1 HX.out.2.2.2.2.1).mono ?_
  rintro r w'' ⟨v1, rfl, hK, hh'⟩
  obtain ⟨a1, c1, rfl, _, _⟩ := hh'.ent_read (v := v1) (es := es) (.head _)
  rw [HX.out.2.2.2.2.2] at hh' ⊢
  exact ⟨_, _, rfl, hK, ⟨a1, c1, rfl, rfl⟩, hh'⟩
 rintro _ _ ⟨q, c, rfl, rfl⟩
 refine ⟨fun w F hh => lives (l' := [(3, ⟨s, 0, none⟩, .pointer (some ⟨st, 0, none⟩))]) (by rw [HFA.out]; simp [liveFacts, Nat.testBit]) (fcons (cell_of (hh.at (b := s) (o := .cells #[.pointer (some ⟨st, 0, none⟩), .pointer none] 160 (0, 0)) (by simp)) 0 rfl) <| fnil), ?_⟩
 simp only [Act.put, List.setIfInBounds_toArray, List.set_cons_zero, List.set_cons_succ]
 show WS _ _ _ _ _ _ _ _ _ _
 iterate 2 (refine ws_q (at_lit rfl) rfl rfl rfl ?_; go_big_quiet_op; show WS _ _ _ _ _ _ _ _ _ _)
 refine ws_reord [3] ?_
 simp only [reord, pull]
 refine ws_store (at_lit rfl) rfl rfl 58 (.tmp 25) (.tmp 23) rfl rfl (v := .agg #[.slice q m c]) rfl (by simp [Value.cells]) (by simp [Value.cells, Value.oneCell']) (by kernel_rfl) (by simp only [Value.cells, putCells, List.setIfInBounds_toArray, List.set_cons_zero, List.set_cons_succ]; rfl) (fun w' F hh => lives (l' := []) (by rw [HFA.out]; simp [liveFacts, Nat.testBit]) (fnil)) ?_
 simp only [Act.put, List.setIfInBounds_toArray, List.set_cons_zero, List.set_cons_succ]
 show WS _ _ _ _ _ _ _ _ _ _
 refine ws_end ?_
 intro w4 hK4 h4
 have HM0 : Hid (TurnUM w r3 s X ⟨st, lv, sv, bs⟩ (.slice a2 m c2) (.slice q m c) es l w4) := by
  refine ⟨HK3.out.trans hK4, ?_⟩
  have h5 := (h4.reord [4, 2, 2, 0, 0]).tail
  simp only [spFlat, spHead, List.cons_append, List.nil_append]
  exact h5
 clear hK4 h4 hh HFA neFA FA fa3 fa4 cb cs lb ls HK3
 have cb : w4.cell? ⟨r3, 0, none⟩ = some (.slice a2 m c2) := cell_of HM0.out.2.got 0 rfl
 have lb := World.block_lt_of_cell? _ _ cb
 go_wp2
 clear cb lb
 go_loopg [29] m (fun gk iv wr => ∃ k : Nat, k <= m /\ gk = m - k /\ iv = .int .i64 k /\ Hid (TurnUM w r3 s X ⟨st, lv, sv, bs⟩ (.slice a2 m c2) (.slice q m c) es l wr))
 case atStart => exact ⟨0, Nat.zero_le _, rfl, rfl, HM0⟩
 case round =>
  clear HM0
  obtain ⟨k, hk, rfl, rfl, HM⟩ := hrel
  obtain ⟨hK, hh⟩ := HM.out
  clear HM
  by_cases hlt : k < m
  ·skip
   obtain ⟨ok, hm, hE, hL, hne, hn⟩ := HX.out
   have ok2 := ok.turn hE hL
   obtain ⟨a', c', sa, sc, R⟩ := hh.sp_read (X := ⟨es, X.sh⟩) (x := ⟨st, .slice q m c, sv, bs⟩) (fun A hA => .tail _ (List.mem_append_left _ hA)) ok2
   obtain ⟨_, _, hv, _, hr2⟩ := hh.ent_read (v := .slice a2 m c2) (es := es) (.tail _ (List.mem_append_right _ hm))
   injection hv with j1 j2 j3
   subst j1
   obtain ⟨e', he'⟩ : ∃ e', es[k]? = some e' := ⟨_, List.getElem?_eq_getElem (by omega)⟩
   obtain ⟨g2, rfl, d2, d3⟩ := hr2 k e' he'
   have hshl : X.sh.length = m := by rw [<- ok2.sh]; exact hn
   obtain ⟨y, hy⟩ : ∃ y, X.sh[k]? = some y := ⟨_, List.getElem?_eq_getElem (by omega)⟩
   obtain ⟨g, b, rfl, p0, _, hbk⟩ := R.shelf k y hy
   have hyn := ok2.size k y e' hy he'
   have hsz := (hE.ok e' (List.mem_of_getElem? he')).1
   obtain ⟨rest, hp1, _⟩ := shelves_focus bs X.sh k b y hbk hy
   have hsv := R.sv
   have q0 := R.s0
   have q1 := R.t1
   simp only at q0 q1 hsv
   rw [hshl] at q1 hsv
   subst hsv
   have lq := World.block_lt_of_cell? _ _ q0
   have lq1 := World.block_lt_of_cell? _ _ q1
   have lp := World.block_lt_of_cell? _ _ p0
   have ld := World.block_lt_of_cell? _ _ d2
   have h1 := hh.alloc (.cells #[.int .i64 (e'.st : Int), .int .i64 (e'.size : Int)] 139)
   have hK1 := hK.alloc (.cells #[.int .i64 (e'.st : Int), .int .i64 (e'.size : Int)] 139)
   have kI : (k : Int) < (m : Int) := by omega
   have k0 : (0 : Int) <= k := by omega
   have kn : ((k : Int) == (m : Int)) = false := by simp; omega
   have h2 : Has (wr.alloc (.cells #[.int .i64 (e'.st : Int), .int .i64 (e'.size : Int)] 139)) (pts wr.heap.size (.cells #[.int .i64 (e'.st : Int), .int .i64 (e'.size : Int)] 139 (0, 0)) :: pts r3 (.cells #[.slice (some ⟨g2, 0, none⟩) m c2] 58 (0, 0)) :: pts s (.cells #[.pointer (some ⟨st, 0, none⟩), .pointer none] 160 (0, 0)) :: pts st (.cells #[.slice q m c, .slice (some ⟨g, 0, none⟩) m sc] 163 (0, 0)) :: entS (.slice q m c) es :: rowS 175 1 (.slice (some ⟨g, 0, none⟩) m sc) bs.length (bs.map ptr) :: (shelvesL bs X.sh ++ l)) := by
    have h4 := h1
    simp only [spFlat, spHead, List.cons_append, List.nil_append] at h4
    exact h4
   have HG : Hid (∀ w' l', Has w' (shelfS b y :: l') -> Calls Tryz.prog 121 #[.pointer (some ⟨b, 0, none⟩), .int .i64 (e'.size : Int)] w' fun r w'' => r = .returned (.tuple #[]) /\ Kept w' w'' /\ Has w'' (shelfS b y :: l')) := fun w' l' hw => by
    have h5 := shelf_grow hw e'.size (by omega) hsz
    have e5 : (⟨e'.size, y.taken, y.fresh, y.given⟩ : Shelf) = y := by rw [<- hyn]
    rw [e5] at h5
    exact h5
   have HH := Lib.hid h2
   have HK := Lib.hid hK1
   have HP := Lib.hid hp1
   clear ok hm hE hL hne hn ok2 R hr2 he' hshl hyn hsz hh hK h1 hK1 h2 hp1 j2 j3
   have q0' : (wr.alloc (.cells #[.int .i64 (e'.st : Int), .int .i64 (e'.size : Int)] 139)).cell? ⟨s, 0, none⟩ = some (.pointer (some ⟨st, 0, none⟩)) := by rw [World.cell?_alloc_lt _ _ _ lq]; exact q0
   have q1' : (wr.alloc (.cells #[.int .i64 (e'.st : Int), .int .i64 (e'.size : Int)] 139)).cell? ⟨st, 1, none⟩ = some (.slice (some ⟨g, 0, none⟩) m sc) := by rw [World.cell?_alloc_lt _ _ _ lq1]; exact q1
   have p0' : (wr.alloc (.cells #[.int .i64 (e'.st : Int), .int .i64 (e'.size : Int)] 139)).cell? ⟨g, k, none⟩ = some (.pointer (some ⟨b, 0, none⟩)) := by rw [World.cell?_alloc_lt _ _ _ lp]; exact p0
   go_upto_region 11 with fail
   generalize wr.alloc (.cells #[.int .i64 (e'.st : Int), .int .i64 (e'.size : Int)] 139) = w5 at *
   generalize wr.heap.size = r6 at *
   clear q0 q1 p0 d2 d3 lq lq1 lp ld
   have hh := HH.out
   clear HH
   have z1 : w5.cell? ⟨r6, 1, none⟩ = some (.int .i64 (e'.size : Int)) := cell_of hh.got 1 rfl
   obtain ⟨FA, HFA⟩ : ∃ FA : List (Nat × Addr × Value), Hid (FA = [(3, ⟨s, 0, none⟩, .pointer (some ⟨st, 0, none⟩)), (6, ⟨st, 1, none⟩, .slice (some ⟨g, 0, none⟩) m sc), (9, ⟨g, k, none⟩, .pointer (some ⟨b, 0, none⟩)), (11, ⟨r6, 1, none⟩, .int .i64 (e'.size : Int))]) := ⟨_, rfl⟩
   have fa3 : ∀ n : In (factsOf FA 3), n.w.cell? ⟨s, 0, none⟩ = some (.pointer (some ⟨st, 0, none⟩)) := fun n => factsOf.cell (by rw [HFA.out]; simp) n
   have fa6 : ∀ n : In (factsOf FA 6), n.w.cell? ⟨st, 1, none⟩ = some (.slice (some ⟨g, 0, none⟩) m sc) := fun n => factsOf.cell (by rw [HFA.out]; simp) n
   have fa9 : ∀ n : In (factsOf FA 9), n.w.cell? ⟨g, k, none⟩ = some (.pointer (some ⟨b, 0, none⟩)) := fun n => factsOf.cell (by rw [HFA.out]; simp) n
   have fa11 : ∀ n : In (factsOf FA 11), n.w.cell? ⟨r6, 1, none⟩ = some (.int .i64 (e'.size : Int)) := fun n => factsOf.cell (by rw [HFA.out]; simp) n
   have hFA : ∀ p ∈ FA, w5.cell? p.2.1 = some p.2.2 := by rw [HFA.out]; exact (fcons q0' (fcons q1' (fcons p0' (fcons z1 fnil))))
   haveI neFA : ∀ k, Nonempty (In (factsOf FA k)) := fun k => ⟨⟨_, factsOf.drew hFA k⟩⟩
   refine ws_begin [0, 1, 2, 3, 4, 5, 6, 7, 8, 9, 10, 11, 12] (factsOf FA) (pts r6 (.cells #[.int .i64 (e'.st : Int), .int .i64 (e'.size : Int)] 139 (0, 0)) :: pts r3 (.cells #[.slice (some ⟨g2, 0, none⟩) m c2] 58 (0, 0)) :: pts s (.cells #[.pointer (some ⟨st, 0, none⟩), .pointer none] 160 (0, 0)) :: pts st (.cells #[.slice q m c, .slice (some ⟨g, 0, none⟩) m sc] 163 (0, 0)) :: entS (.slice q m c) es :: rowS 175 1 (.slice (some ⟨g, 0, none⟩) m sc) bs.length (bs.map ptr) :: (shelvesL bs X.sh ++ l)) #[0, 1, 3, 7, 15, 31, 63, 0, 255, 511, 0, 1024, 4095] (by kernel_rfl) (by kernel_rfl) (by kernel_rfl) factsOf.alloc (factsOf.drew hFA) hh ?_
   clear hFA
   iterate 12 (refine ws_q (at_lit rfl) rfl rfl rfl ?_; go_big_quiet_op; show WS _ _ _ _ _ _ _ _ _ _)
   refine ws_call (at_lit rfl) rfl rfl 121 #[.pointer (some ⟨b, 0, none⟩), .int .i64 (e'.size : Int)] (fun w => by go_simp) (fun u L' => L' = pts r6 (.cells #[.int .i64 (e'.st : Int), .int .i64 (e'.size : Int)] 139 (0, 0)) :: pts r3 (.cells #[.slice (some ⟨g2, 0, none⟩) m c2] 58 (0, 0)) :: pts s (.cells #[.pointer (some ⟨st, 0, none⟩), .pointer none] 160 (0, 0)) :: pts st (.cells #[.slice q m c, .slice (some ⟨g, 0, none⟩) m sc] 163 (0, 0)) :: entS (.slice q m c) es :: rowS 175 1 (.slice (some ⟨g, 0, none⟩) m sc) bs.length (bs.map ptr) :: (shelvesL bs X.sh ++ l)) (fun w' F hS hh => ?_) ?_
   ·have hA : Has w' ([pts r6 (.cells #[.int .i64 (e'.st : Int), .int .i64 (e'.size : Int)] 139 (0, 0)), pts r3 (.cells #[.slice (some ⟨g2, 0, none⟩) m c2] 58 (0, 0)), pts s (.cells #[.pointer (some ⟨st, 0, none⟩), .pointer none] 160 (0, 0)), pts st (.cells #[.slice q m c, .slice (some ⟨g, 0, none⟩) m sc] 163 (0, 0)), entS (.slice q m c) es, rowS 175 1 (.slice (some ⟨g, 0, none⟩) m sc) bs.length (bs.map ptr)] ++ (shelvesL bs X.sh ++ (l ++ F))) := by
     have h5 := hh
     simp only [List.cons_append, List.append_assoc, List.nil_append] at h5 ⊢
     exact h5
    refine (HG.out w' _ (hA.perm (focus_perm HP.out))).mono ?_
    rintro r w'' ⟨rfl, hK, hh'⟩
    refine ⟨_, _, rfl, hK, rfl, ?_⟩
    have h6 := hh'.perm (focus_perm (A := [pts r6 (.cells #[.int .i64 (e'.st : Int), .int .i64 (e'.size : Int)] 139 (0, 0)), pts r3 (.cells #[.slice (some ⟨g2, 0, none⟩) m c2] 58 (0, 0)), pts s (.cells #[.pointer (some ⟨st, 0, none⟩), .pointer none] 160 (0, 0)), pts st (.cells #[.slice q m c, .slice (some ⟨g, 0, none⟩) m sc] 163 (0, 0)), entS (.slice q m c) es, rowS 175 1 (.slice (some ⟨g, 0, none⟩) m sc) bs.length (bs.map ptr)]) (l := l ++ F) HP.out).symm
    simp only [List.cons_append, List.append_assoc, List.nil_append] at h6 ⊢
    exact h6
   rintro u _ rfl
   refine ⟨fun w F hh => lives (l' := []) (by rw [HFA.out]; simp [liveFacts, Nat.testBit]) (fnil), ?_⟩
   simp only [Act.put, List.setIfInBounds_toArray, List.set_cons_zero, List.set_cons_succ]
   show WS _ _ _ _ _ _ _ _ _ _
   refine ws_end ?_
   intro w6 hK6 h6
   have HM2 : Hid (TurnUM w r3 s X ⟨st, .slice q m c, .slice (some ⟨g, 0, none⟩) m sc, bs⟩ (.slice (some ⟨g2, 0, none⟩) m c2) (.slice q m c) es l w6) := by
    refine ⟨HK.out.trans hK6, ?_⟩
    have h7 := h6.tail
    simp only [spFlat, spHead, List.cons_append, List.nil_append]
    exact h7
   clear hK6 h6 hh HFA neFA FA fa3 fa6 fa9 fa11 q0' q1' p0' z1 HK HG HP
   go_wp2
   go_roundg (m - (k + 1))
   case measure => omega
   case rel => exact ⟨k + 1, by omega, rfl, by go_num, HM2⟩
  ·skip
   obtain rfl : k = m := by omega
   have HF : Hid (Kept w wr /\ Has wr (spaceS s ⟨es, X.sh⟩ :: l)) := by
    obtain ⟨ok, hm, hE, hL, hne, hn⟩ := HX.out
    exact ⟨hK, Has.sp_shut (x := ⟨st, .slice q k c, sv, bs⟩) (ok.turn hE hL) hh.tail⟩
   clear hK hh HX hlt
   go_wp2
   go_ret
   exact ⟨rfl, HF.out.1, HF.out.2⟩
end Go.Proofs.YtgbgneiciabidaaGreatDoor
