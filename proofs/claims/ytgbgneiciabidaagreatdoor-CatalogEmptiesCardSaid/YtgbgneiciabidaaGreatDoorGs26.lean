/-
  Trees (layer 12): what was put and is not named goes (fail).
-/
import Derived.Test.YtgbgneiciabidaaGreatDoorGs25
namespace Go.Proofs.YtgbgneiciabidaaGreatDoor
open Go Go.RowKit Go.Shelf
set_option linter.all false
set_option maxHeartbeats 8000000
attribute [local go_sem] Oper.semAt_some
theorem sl_Backward {w : World} (a : Option Addr) (len cap : Nat) :
  Calls Tryz.prog 183 #[.slice a len cap] w fun e w' => e = .returned (.func (.func 214) #[] #[.pointer (some ⟨w.heap.size, 0, none⟩)]) /\ w' = w.alloc (.cells #[.slice a len cap] 22) := by
 go_enter Tryz.func183, Tryz.ntmps183
 go_wp2
 go_ret
 exact ⟨rfl, rfl⟩
def FailPost (p bank sp N : Nat) (es : List Ent) (Q : Pgs) (l : List Say) (w : World) (r : Ending) (w' : World) : Prop :=
 Kept w w' /\ r = .returned (.tuple #[]) /\ ∃ Q', Shr Q Q' /\ Live Q' /\ Has w' (btS p bank sp N es Q' :: l)
def FlM (c p bank sp N r1 bb : Nat) (es : List Ent) (Q : Pgs) (pv : Value) (put : List Int) (l : List Say) (pre : List (Int × Int)) (L : List Say) : Prop :=
 ∃ Qp, Shr Q Qp /\ (∀ a g, VMap.get a Qp = some g -> g.holds <= 0 -> a ∈ put /\ a ∉ pre.map (·.2)) /\
  L = btS p bank sp N es Qp :: pts r1 (.cells #[.pointer (some ⟨c, 0, none⟩)] 210 (0, 0)) :: pts bb (.cells #[pv] 22 (0, 0)) :: chL c p pv put l
theorem backs_all (zs : List Int) : ∀ a ∈ zs, a ∈ (backs zs zs.length).map (·.2) := fun a ha => by
 obtain ⟨i, hi, rfl⟩ := List.getElem_of_mem ha
 refine List.mem_map.2 ⟨bkAt zs (zs.length - 1 - i), List.mem_map.2 ⟨zs.length - 1 - i, List.mem_range.2 (by omega), rfl⟩, ?_⟩
 unfold bkAt
 simp only
 rw [show zs.length - 1 - (zs.length - 1 - i) = i by omega, List.getElem?_eq_getElem hi]
 rfl
theorem backs_mem (zs : List Int) {x : Int × Int} (h : x ∈ backs zs zs.length) : x.2 ∈ zs := by
 obtain ⟨k, hk, rfl⟩ := List.mem_map.1 h
 have hk := List.mem_range.1 hk
 unfold bkAt
 simp only
 rw [List.getElem?_eq_getElem (by omega)]
 exact List.getElem_mem _
set_option maxRecDepth 100000 in
theorem ch_fail {w : World} {l : List Say} {c p bank sp N : Nat} {es : List Ent} {Q : Pgs} {put : List Int} {pv : Value} (h : Has w (btS p bank sp N es Q :: chL c p pv put l)) (hlo : ∀ a g, VMap.get a Q = some g -> g.holds <= 0 -> a ∈ put) (hbd : ∀ a ∈ put, 0 <= a /\ a < 32768) (hN : N <= 500000) (hp : put.length <= 1000) :
  Calls Tryz.prog 126 #[.pointer (some ⟨c, 0, none⟩)] w (FailPost p bank sp N es Q l w) := by
 refine (callsIn_wide (n := 5)).1 ?_
 refine callsIn_of_wp_marks Tryz.func126 rfl trivial ?_ rfl
 obtain ⟨pa, pc, rfl, hx1, hx2⟩ := h.ints_read (v := pv) (xs := put) (by simp [chL])
 clear hx1 hx2
 have hgc := h.at (b := c) (o := .cells #[.pointer (some ⟨p, 0, none⟩), .slice pa put.length pc] 212 (0, 0)) (by simp [chL, changeS])
 have c0 : (w.alloc (.cells #[.pointer (some ⟨c, 0, none⟩)] 210)).cell? ⟨c, 1, none⟩ = some (.slice pa put.length pc) := by
  have h1 : w.cell? ⟨c, 1, none⟩ = some (.slice pa put.length pc) := cell_of hgc 1 rfl
  rw [World.cell?_alloc_lt _ _ _ (World.block_lt_of_cell? _ _ h1)]; exact h1
 have HB := Lib.hid (sl_Backward (w := w.alloc (.cells #[.pointer (some ⟨c, 0, none⟩)] 210)) pa put.length pc)
 have H := Lib.hid h
 have HL := Lib.hid (And.intro hlo (And.intro hbd (And.intro hN hp)))
 clear h hgc hlo hbd hN hp
 simp only [Tryz.ntmps126, List.size_toArray, List.length_cons, List.length_nil, Nat.reduceAdd, Nat.reduceSub, Array.replicate_succ, Array.replicate_zero, List.push_toArray, List.append_toArray, List.nil_append, List.cons_append]
 gi_wp2_with (refine ⟨trivial, ?_⟩; gi_at_call 183; refine (callsIn_wide.2 HB.out).mono ?_; rintro e w' ⟨rfl, rfl⟩)
 have h1 := H.out.alloc (.cells #[.pointer (some ⟨c, 0, none⟩)] 210)
 have h2 := h1.alloc (.cells #[.slice pa put.length pc] 22)
 have hk2 := ((Kept.refl w).alloc (.cells #[.pointer (some ⟨c, 0, none⟩)] 210)).alloc (.cells #[.slice pa put.length pc] 22)
 simp only [World.size_alloc] at h2
 have h3 : Has ((w.alloc (.cells #[.pointer (some ⟨c, 0, none⟩)] 210)).alloc (.cells #[.slice pa put.length pc] 22)) (btS p bank sp N es Q :: pts w.heap.size (.cells #[.pointer (some ⟨c, 0, none⟩)] 210 (0, 0)) :: pts (w.heap.size + 1) (.cells #[.slice pa put.length pc] 22 (0, 0)) :: chL c p (.slice pa put.length pc) put l) := h2.reord [2, 1, 0]
 have HK2 := Lib.hid hk2
 have H3 := Lib.hid h3
 clear h1 h2 h3 hk2 H HB c0
 generalize (w.alloc (.cells #[.pointer (some ⟨c, 0, none⟩)] 210)).alloc (.cells #[.slice pa put.length pc] 22) = W at *
 generalize w.heap.size + 1 = bb at *
 generalize w.heap.size = r1 at *
 obtain ⟨hlo, hbd, hN, hp⟩ := HL.out
 refine wpIn_rangeFunc_sep rfl (by decide) (gf := 214) (lb := #[.pointer (some ⟨bb, 0, none⟩)]) rfl trivial (enters_of Tryz.func214 (by kernel_rfl) rfl) encB (fun _ => rfl) (backs put put.length)
  (FlM c p bank sp N r1 bb es Q (.slice pa put.length pc) put l) ⟨Q, .refl Q, fun a g hg h0 => ⟨hlo a g hg h0, by simp⟩, rfl⟩ H3.out ?seq
  (fun x => { tmps := #[.pointer (some ⟨c, 0, none⟩), .pointer (some ⟨r1, 0, none⟩), undef, .int .i64 x.2, .pointer (some ⟨c, 0, none⟩), .pointer (some ⟨c, 0, none⟩), .pointer (some ⟨c, 1, none⟩), .slice pa put.length pc, .func (.func 214) #[] #[.pointer (some ⟨bb, 0, none⟩)], .int .i64 x.1, .int .i64 x.2, undef, undef, undef, undef, undef, undef, undef, undef, undef, undef, undef, undef, undef], defers := [] }) ?assign ?body ?done
 case seq =>
  intro l2 J W2 hJ hY h0
  refine back1_in Fence.wide (5 - 1) trivial rfl (by decide) l2 bb pa pc put (by omega) J (fun pre W3 hj => ?_) hY W2 h0
  obtain ⟨L, F, ⟨Qp, _, _, rfl⟩, hh⟩ := hJ pre W3 hj
  have hb := hh.at (b := bb) (o := .cells #[.slice pa put.length pc] 22 (0, 0)) (by simp)
  refine ⟨cell_of hb 0 rfl, fun j hj => ?_⟩
  obtain ⟨pa', pc', e1, _, hrd⟩ := hh.ints_read (v := .slice pa put.length pc) (xs := put) (by simp [chL])
  injection e1 with e1 e2 e3
  subst e1
  obtain ⟨g, eg, hc, _⟩ := hrd j hj
  exact ⟨g, eg, by rw [List.getElem?_eq_getElem hj]; exact hc⟩
 case assign =>
  intro l2 x W2 K hK
  simp only [encB]
  gi_wp2
  exact hK
 case body =>
  rintro l2 pre x W2 L F hpre ⟨Qp, hsh, hlp, rfl⟩ hh
  obtain ⟨xi, a⟩ := x
  have hm : a ∈ put := backs_mem put (hpre.subset (List.mem_append_right _ (.head _)))
  obtain ⟨a0, a1⟩ := hbd a hm
  have hb1 := hh.at (b := r1) (o := .cells #[.pointer (some ⟨c, 0, none⟩)] 210 (0, 0)) (by simp)
  have b1 : W2.cell? ⟨r1, 0, none⟩ = some (.pointer (some ⟨c, 0, none⟩)) := cell_of hb1 0 rfl
  have hgc := hh.at (b := c) (o := .cells #[.pointer (some ⟨p, 0, none⟩), .slice pa put.length pc] 212 (0, 0)) (by simp [chL, changeS])
  have c0 : W2.cell? ⟨c, 0, none⟩ = some (.pointer (some ⟨p, 0, none⟩)) := cell_of hgc 0 rfl
  have lc := World.block_lt_of_cell? _ _ c0
  have lb1 := World.block_lt_of_cell? _ _ b1
  have hfr := hh.perm List.perm_middle
  obtain ⟨hIp, hHp⟩ := hfr.bt_inv
  have HHo := Lib.hid (bt_Holds hfr a (by omega) (by omega))
  have HX := Lib.hid (And.intro hsh hlp)
  have Hm := Lib.hid hm
  have HHh := Lib.hid hh
  by_cases hz : holdsOf Qp a = 0
  ·have HSc := Lib.hid (bt_Scrap hfr hz (by omega) (by omega) hN)
   rw [hz] at HHo
   clear hlo hbd hpre hsh hlp hh hb1 hgc hfr hIp hHp hz hm
   gi_wp2_with (refine ⟨trivial, ?_⟩; first | (gi_at_call 34; refine (CallsIn.inRound l2 (callsIn_wide.2 HHo.out)).mono ?_; rintro e w' ⟨rfl, rfl⟩) | (gi_at_call 24; refine (CallsIn.inRound l2 (callsIn_wide.2 HSc.out)).mono ?_; rintro e w' ⟨hK, ⟨v, rfl⟩, Q', hs', hno, hh'⟩))
   refine ⟨_, ⟨Q', HX.out.1.trans hs', fun b g hg h0 => ?_, rfl⟩, hh'.perm List.perm_middle.symm⟩
   obtain ⟨g1, e1, l1⟩ := hs'.loo b g hg h0
   obtain ⟨m1, m2⟩ := HX.out.2 b g1 e1 l1
   refine ⟨m1, fun hmm => ?_⟩
   rw [List.map_append] at hmm
   rcases List.mem_append.1 hmm with hmm | hmm
   ·exact m2 hmm
   ·have : b = a := by simpa using hmm
    subst this
    rw [hno] at hg; cases hg
  ·have hzb : (holdsOf Qp a == 0) = false := by simpa using hz
   have Hne : Hid (∀ g, VMap.get a Qp = some g -> ¬ g.holds <= 0) := fun g hg h0 => by
    obtain ⟨_, q2, q3⟩ := hIp.pg a g hg
    refine hz ?_
    unfold holdsOf
    rw [hg]
    show g.holds = 0
    omega
   generalize holdsOf Qp a = hv at *
   clear hlo hbd hpre hsh hlp hb1 hgc hfr hIp hHp hz hm hh
   gi_wp2_with (refine ⟨trivial, ?_⟩; gi_at_call 34; refine (CallsIn.inRound l2 (callsIn_wide.2 HHo.out)).mono ?_; rintro e w' ⟨rfl, rfl⟩)
   refine ⟨Kept.refl _, _, ⟨Qp, HX.out.1, fun b g hg h0 => ?_, rfl⟩, HHh.out⟩
   obtain ⟨m1, m2⟩ := HX.out.2 b g hg h0
   refine ⟨m1, fun hmm => ?_⟩
   rw [List.map_append] at hmm
   rcases List.mem_append.1 hmm with hmm | hmm
   ·exact m2 hmm
   ·have : b = a := by simpa using hmm
    subst this
    have := Hne.out g hg
    omega
 case done =>
  rintro D W2 L ⟨Qp, hsh, hlp, rfl⟩ hkW hh
  refine ⟨by simp, .inl ⟨_, _, rfl, run_takeDeferred hh.got, ?_⟩⟩
  have h4 := (hh.putObj (.deferred none)).tail
  refine ⟨_, results_none rfl _ _ _, ?_⟩
  refine ⟨(HK2.out.trans hkW).putObj _ _, rfl, Qp, hsh, fun b g hg => ?_, (h4.reord [1, 1, 1, 1]).tail.tail.tail.tail⟩
  by_cases h0 : 0 < g.holds
  ·exact h0
  ·obtain ⟨m1, m2⟩ := hlp b g hg (by omega)
   exact absurd (backs_all put b m1) m2
end Go.Proofs.YtgbgneiciabidaaGreatDoor
/-
  Trees (layer 12): what a change of one tree leaves of the others, in plain Lean.
-/
namespace Go.Proofs.YtgbgneiciabidaaGreatDoor
open Go Go.RowKit
set_option linter.all false
set_option maxHeartbeats 8000000
def oneAt (a b : Int) : Int := if b = a /\ a ≠ 0 then 1 else 0
structure Moved (Q Q' : Pgs) (root ta : Int) : Prop where
 held : ∀ b, heldOf Q' b + oneAt root b = heldOf Q b + oneAt ta b
 tree : ∀ b lv L s, 0 < heldOf Q' b -> Tr Q lv b L s -> Tr Q' lv b L s
 same : root = 0 -> ta = 0 -> Q' = Q
theorem held_nn {es : List Ent} {Q : Pgs} {D : Int -> Nat} (hI : FInv es Q D) (b : Int) : 0 <= heldOf Q b := by
 unfold heldOf
 cases hg : VMap.get b Q with
 | none => exact Int.le_refl 0
 | some g => exact (hI.pg b g hg).2.1
theorem shr_held {es : List Ent} {Q Q' : Pgs} {D : Int -> Nat} (hI : FInv es Q D) (h : Shr Q Q') (b : Int) : heldOf Q' b = heldOf Q b := by
 have h0 := held_nn hI b
 cases hg' : VMap.get b Q' with
 | some g' =>
  obtain ⟨g, hg, _, he⟩ := h.sub b g' hg'
  unfold heldOf
  rw [hg, hg']
  exact he
 | none =>
  by_cases hp : 0 < heldOf Q b
  ·obtain ⟨g, hg, e⟩ := heldOf_some hp
   have := h.kep b g hg (by omega)
   rw [hg'] at this; cases this
  ·have : heldOf Q' b = 0 := by unfold heldOf; rw [hg']; rfl
   omega
theorem dropd_held {es : List Ent} {Q Q' : Pgs} {D : Int -> Nat} (hI : FInv es Q D) {a : Int} (h : Dropd a Q Q') (ha : 0 < heldOf Q a) (b : Int) : heldOf Q' b + oneAt a b = heldOf Q b := by
 have h0 := held_nn hI b
 obtain ⟨ga, hga, ea⟩ := heldOf_some ha
 have hbd := (hI.adr a (by rw [hga]; rfl)).bd
 have hone : oneAt a b = if b = a then 1 else 0 := by
  unfold oneAt
  by_cases hb : b = a
  ·rw [if_pos ⟨hb, by omega⟩, if_pos hb]
  ·rw [if_neg (fun x => hb x.1), if_neg hb]
 rw [hone]
 cases hg' : VMap.get b Q' with
 | some g' =>
  obtain ⟨g, hg, _, he⟩ := h.sub b g' hg'
  unfold heldOf
  rw [hg, hg']
  exact he
 | none =>
  have e0 : heldOf Q' b = 0 := by unfold heldOf; rw [hg']; rfl
  by_cases hp : (if b = a then 1 else 0) < heldOf Q b
  ·obtain ⟨g, hg, e⟩ := heldOf_some (Q := Q) (a := b) (by split at hp <;> omega)
   have := h.kep b g hg (by omega)
   rw [hg'] at this; cases this
  ·rw [e0]
   split at hp
   ·rename_i e; subst e; rw [if_pos rfl]; omega
   ·rename_i e; rw [if_neg e]; omega
theorem Agree.trees {es : List Ent} {Q Q' : Pgs} {D : Int -> Nat} (hI : FInv es Q' D) (ha : Agree Q Q') {lv : Nat} {b : Int} {L : List KV} {s : Nat} (hb : 0 < heldOf Q' b) (h : Tr Q lv b L s) : Tr Q' lv b L s := by
 obtain ⟨g, hg, _⟩ := heldOf_some hb
 exact h.agree hI ha (by rw [hg]; rfl)
theorem fail_same {es : List Ent} {Q Q1 Q' : Pgs} {news : List (Int × Nd)} (hI : FInv es Q (fun _ => 0)) (hL : Live Q) (hp : Puts es Q news Q1) (hs : Shr Q1 Q') (hI' : FInv es Q' (fun _ => 0)) (hL' : Live Q') : Q' = Q := by
 have hnode : ∀ b g g', VMap.get b Q = some g -> VMap.get b Q' = some g' -> g'.n = g.n := fun b g g' hg hg' => by
  obtain ⟨g1, e1, n1⟩ := hp.same b g hg
  obtain ⟨g2, e2, n2, _⟩ := hs.sub b g' hg'
  rw [e1] at e2
  obtain rfl := Option.some.inj e2
  exact n2.trans n1
 have hdn : ∀ (n : Nat) b g, VMap.get b Q = some g -> 20 - g.n.level <= n -> (VMap.get b Q').isSome = true := by
  intro n
  induction n with
  | zero =>
   intro b g hg hn
   have h1 := hI.lv hg
   obtain ⟨_, p2, p3⟩ := hI.pg b g hg
   have h0 := hL b g hg
   by_cases hh : 0 < g.held
   ·obtain ⟨g1, e1, _⟩ := hp.same b g hg
    have h2 := hp.held b
    unfold heldOf at h2
    rw [e1, hg] at h2
    exact hs.kep b g1 e1 (by simp only [Option.map_some, Option.getD_some] at h2; omega)
   ·obtain ⟨c, gc, hc, hk⟩ := refs_who hI.up (a := b) (by omega)
    obtain ⟨gb, hgb, hl⟩ := hI.kid c gc hc b hk
    rw [hg] at hgb
    obtain rfl := Option.some.inj hgb
    have := hI.lv hc
    omega
  | succ n ih =>
   intro b g hg hn
   obtain ⟨_, p2, p3⟩ := hI.pg b g hg
   have h0 := hL b g hg
   by_cases hh : 0 < g.held
   ·obtain ⟨g1, e1, _⟩ := hp.same b g hg
    have h2 := hp.held b
    unfold heldOf at h2
    rw [e1, hg] at h2
    exact hs.kep b g1 e1 (by simp only [Option.map_some, Option.getD_some] at h2; omega)
   ·obtain ⟨c, gc, hc, hk⟩ := refs_who hI.up (a := b) (by omega)
    obtain ⟨gb, hgb, hl⟩ := hI.kid c gc hc b hk
    rw [hg] at hgb
    obtain rfl := Option.some.inj hgb
    obtain ⟨gc', hc'⟩ := Option.isSome_iff_exists.1 (ih c gc hc (by omega))
    obtain ⟨gb', hb', _⟩ := hI'.kid c gc' hc' b (by rw [hnode c gc gc' hc hc']; exact hk)
    rw [hb']; rfl
 have hup : ∀ (n : Nat) b g', VMap.get b Q' = some g' -> 20 - g'.n.level <= n -> (VMap.get b Q).isSome = true := by
  intro n
  induction n with
  | zero =>
   intro b g hg hn
   have h1 := hI'.lv hg
   obtain ⟨_, p2, p3⟩ := hI'.pg b g hg
   have h0 := hL' b g hg
   by_cases hh : 0 < g.held
   ·obtain ⟨g1, e1, _, h3⟩ := hs.sub b g hg
    have h2 := hp.held b
    have h4 : heldOf Q1 b = g1.held := by unfold heldOf; rw [e1]; rfl
    obtain ⟨g0, e0, _⟩ := heldOf_some (Q := Q) (a := b) (by omega)
    rw [e0]; rfl
   ·obtain ⟨c, gc, hc, hk⟩ := refs_who hI'.up (a := b) (by omega)
    obtain ⟨gb, hgb, hl⟩ := hI'.kid c gc hc b hk
    rw [hg] at hgb
    obtain rfl := Option.some.inj hgb
    have := hI'.lv hc
    omega
  | succ n ih =>
   intro b g hg hn
   obtain ⟨_, p2, p3⟩ := hI'.pg b g hg
   have h0 := hL' b g hg
   by_cases hh : 0 < g.held
   ·obtain ⟨g1, e1, _, h3⟩ := hs.sub b g hg
    have h2 := hp.held b
    have h4 : heldOf Q1 b = g1.held := by unfold heldOf; rw [e1]; rfl
    obtain ⟨g0, e0, _⟩ := heldOf_some (Q := Q) (a := b) (by omega)
    rw [e0]; rfl
   ·obtain ⟨c, gc, hc, hk⟩ := refs_who hI'.up (a := b) (by omega)
    obtain ⟨gb, hgb, hl⟩ := hI'.kid c gc hc b hk
    rw [hg] at hgb
    obtain rfl := Option.some.inj hgb
    obtain ⟨gc0, hc0⟩ := Option.isSome_iff_exists.1 (ih c gc hc (by omega))
    obtain ⟨gb', hb', _⟩ := hI.kid c gc0 hc0 b (by rw [<- hnode c gc0 gc hc0 hc]; exact hk)
    rw [hb']; rfl
 have hn : ∀ k, (VMap.get k Q').map Pg.n = (VMap.get k Q).map Pg.n := fun k => by
  cases hk : VMap.get k Q with
  | some g =>
   obtain ⟨g', hg'⟩ := Option.isSome_iff_exists.1 (hdn (20 - g.n.level).toNat k g hk (by omega))
   rw [hg']
   show some _ = some _
   rw [hnode k g g' hk hg']
  | none =>
   cases hk' : VMap.get k Q' with
   | none => rfl
   | some g' =>
    have := hup (20 - g'.n.level).toNat k g' hk' (by omega)
    rw [hk] at this; cases this
 refine VMap.ext hI'.up hI.up fun k => ?_
 have h1 := hn k
 cases hk : VMap.get k Q with
 | none =>
  rw [hk] at h1
  cases hk' : VMap.get k Q' with
  | none => rfl
  | some g' => rw [hk'] at h1; cases h1
 | some g =>
  rw [hk] at h1
  obtain ⟨g', hk', e⟩ := Option.map_eq_some_iff.1 h1
  rw [hk']
  have h2 := (hI.pg k g hk).2.2
  have h3 := (hI'.pg k g' hk').2.2
  rw [refs_ext hI'.up hI.up hn] at h3
  have h4 := shr_held (hp.inv hI) hs k
  rw [hp.held] at h4
  unfold heldOf at h4
  rw [hk, hk'] at h4
  simp only [Option.map_some, Option.getD_some] at h4
  obtain ⟨n', a', b'⟩ := g'
  obtain ⟨n, a, b⟩ := g
  simp only at e h2 h3 h4
  subst e h4
  rw [h2, h3]
theorem moved_fail {es : List Ent} {Q Q1 Q' : Pgs} {news : List (Int × Nd)} (hI : FInv es Q (fun _ => 0)) (hL : Live Q) (hp : Puts es Q news Q1) (hs : Shr Q1 Q') (hI' : FInv es Q' (fun _ => 0)) (hL' : Live Q') : Moved Q Q' 0 0 := by
 refine ⟨fun b => ?_, fun b lv L s hb h => hs.agree.trees hI' hb (h.mono hp.same), fun _ _ => fail_same hI hL hp hs hI' hL'⟩
 rw [shr_held (hp.inv hI) hs, hp.held]
theorem moved_done {es : List Ent} {Q Q1 Q2 Q3 Q' : Pgs} {news : List (Int × Nd)} {L : List KV} {lv B : Nat} {root ta : Int} (hI : FInv es Q (fun _ => 0)) (hp : Puts es Q news Q1) (hd : DoneTo Q1 Q2 L lv B ta) (h2 : Dropd root Q2 Q3) (hI3 : FInv es Q3 (fun _ => 0)) (hs : Shr Q3 Q') (hI' : FInv es Q' (fun _ => 0)) (hr : 0 < heldOf Q root) (hS : Srt L) :
  Moved Q Q' root ta /\ ∃ s', s' <= B /\ Root Q' ta L s' := by
 have hI1 := hp.inv hI
 have hr1 : 0 < heldOf Q1 root := by rw [hp.held]; exact hr
 have hr0 : root ≠ 0 := by
  obtain ⟨g, hg, _⟩ := heldOf_some hr
  have := (hI.adr root (by rw [hg]; rfl)).bd
  omega
 rcases hd with ⟨rfl, rfl, rfl⟩ | ⟨lv', s', g, hlv, hs', hT, hg, rfl⟩
 ·refine ⟨⟨fun b => ?_, fun b lv L s hb h => (h2.agree.trans hs.agree).trees hI' hb (h.mono hp.same), fun h => absurd h hr0⟩, 0, Nat.zero_le _, .nil _⟩
  rw [shr_held hI3 hs, dropd_held hI1 h2 hr1, hp.held]
  unfold oneAt
  rw [if_neg (fun x => x.2 rfl)]
  omega
 ·have hg0 := (hI1.pg ta g hg).2.1
  have hI2 := hI1.more hg 1 (by omega)
  have hta := (hI1.adr ta (by rw [hg]; rfl)).bd
  have hr2 := held_more hg hr1
  have hold : ∀ b, heldOf Q' b + oneAt root b = heldOf Q b + oneAt ta b := fun b => by
   rw [shr_held hI3 hs, dropd_held hI2 h2 hr2, heldOf_put]
   unfold oneAt
   by_cases hb : b = ta
   ·subst hb
    rw [if_pos rfl, if_pos ⟨rfl, by omega⟩, <- hp.held]
    unfold heldOf
    rw [hg]
    rfl
   ·rw [if_neg hb, if_neg (fun x => hb x.1), hp.held]
    omega
  have htree : ∀ b lv L s, 0 < heldOf Q' b -> Tr Q1 lv b L s -> Tr Q' lv b L s := fun b lv L s hb h => (h2.agree.trans hs.agree).trees hI' hb (h.mono (more_same hg 1))
  have hto : 0 < heldOf Q' ta := by
   have h1 := hold ta
   have h3 := held_nn hI ta
   unfold oneAt at h1
   rw [if_pos (c := ta = ta /\ ta ≠ 0) ⟨rfl, by omega⟩] at h1
   by_cases he : ta = root
   ·subst he
    rw [if_pos ⟨rfl, by omega⟩] at h1
    omega
   ·rw [if_neg (fun x => he x.1)] at h1
    omega
  exact ⟨⟨hold, fun b lv L s hb h => htree b lv L s hb (h.mono hp.same), fun h => absurd h hr0⟩, s', hs', ⟨.inr ⟨lv', htree _ _ _ _ hto hT, hS, hto⟩⟩⟩
/-
  Trees (layer 12): a change of the leaf of a key (run).
-/
theorem ch_done {w : World} {l : List Say} {c p bank sp N : Nat} {es : List Ent} {Q : Pgs} {put : List Int} {pv rv : Value} (root : Int) {outs : List KV} {L : List KV} {lv s : Nat} (h2 : outs.length <= 2) (h : Has w (pairsS rv outs :: btS p bank sp N es Q :: chL c p pv put l)) (ht : Tab l) (hT : TrL Q lv outs L s) (hs : Srt L) (hrt : ∀ q ∈ L, pairOk q.1 q.2 = true) (h20 : outs.length = 2 -> lv + 1 <= 20) (hr : 0 < heldOf Q root) (hN : N <= 300000) (hput : put.length <= 900) :
  Calls Tryz.prog 163 #[.pointer (some ⟨c, 0, none⟩), .int .i64 root, rv] w (DonePost c p bank sp N es Q put root L lv (s + if outs.length = 2 then 2 ^ (lv + 1) else 0) l w) := by
 rcases outs with _ | ⟨⟨k, a⟩, _ | ⟨⟨k2, a2⟩, _ | ⟨x, T⟩⟩⟩
 ·cases hT
  exact ch_done0 root h hr (by omega)
 ·obtain ⟨LM, LB, sM, sB, q1, _, q3, rfl, rfl⟩ := TrG.one hT
  cases q3
  have := ch_done1 root k a (L := LM) (s := sM) h q1 hr (by omega)
  simpa using this
 ·exact ch_done2 root k a k2 a2 h ht hT hs hrt (h20 rfl) hr hN hput
 ·simp at h2
def RunPost (p bank sp N : Nat) (es : List Ent) (Q : Pgs) (root : Int) (L : List KV) (lv B : Nat) (l : List Say) (w : World) (r : Ending) (w' : World) : Prop :=
  Kept w w' /\ ∃ Q', Live Q' /\ Has w' (btS p bank sp (N + 50) es Q' :: l) /\
    ((r = .returned (.tuple #[.int .i64 0, errV 50]) /\ (∃ Q1 news, Puts es Q news Q1 /\ news.length <= 2 * (lv + 1) + 1 /\ FullQ es Q1) /\ Moved Q Q' 0 0) \/
     ∃ ta s', r = .returned (.tuple #[.int .i64 ta, .nilIface]) /\ Moved Q Q' root ta /\ s' <= B /\ Root Q' ta L s')
theorem Puts.bd {es : List Ent} {Q Q' : Pgs} {news : List (Int × Nd)} (h : Puts es Q news Q') : ∀ a ∈ news.map (·.1), 0 <= a /\ a < 32768 := fun a ha => by
 obtain ⟨x, hx, rfl⟩ := List.mem_map.1 ha
 obtain ⟨_, h1, h2, _⟩ := h.fresh x hx
 exact ⟨by omega, h2⟩
theorem lv_lt {lv s : Nat} (h : 2 ^ lv <= s) (hs : s <= 1000000) : lv <= 19 := by
 refine Nat.le_of_not_lt fun hl => ?_
 have : 2 ^ 20 <= 2 ^ lv := Nat.pow_le_pow_right (by omega) hl
 omega
set_option maxRecDepth 100000 in
theorem bt_run {w : World} {l : List Say} {p bank sp N : Nat} {es : List Ent} {Q : Pgs} {lf : Value} {C : List Say} {op : List KV -> List KV} {e : Nat} {need : Bool} (root key : Int) {L : List KV} {lv s : Nat}
  (hop : ChgOk op key e) (hlf : LeafC lf C op key need) (hC : ∀ A ∈ C, A ∈ l) (h : Has w (btS p bank sp N es Q :: l)) (ht : Tab l) (hT : Tr Q lv root L s) (hs : Srt L) (hneed : need = true -> ∃ x ∈ L, x.1 = key) (hL : Live Q) (hr : 0 < heldOf Q root) (hN : N <= 200000) (hB : s + e <= 1000000) :
  Calls Tryz.prog 99 #[.pointer (some ⟨p, 0, none⟩), .int .i64 root, .int .i64 key, lf] w (RunPost p bank sp N es Q root (op L) lv (s + e) l w) := by
 have hlv := lv_lt hT.weighs.2 (by omega)
 obtain ⟨hI, hH⟩ := h.bt_inv
 have hk0 := (Kept.refl w).alloc (.cells #[.pointer (some ⟨p, 0, none⟩), .slice none 0 0] 212)
 have h1 := h.alloc (.cells #[.pointer (some ⟨p, 0, none⟩), .slice none 0 0] 212)
 have h2 : Has (w.alloc (.cells #[.pointer (some ⟨p, 0, none⟩), .slice none 0 0] 212)) (btS p bank sp N es Q :: chL w.heap.size p (.slice none 0 0) [] l) := by
  have h3 := h1.row_nil 3 1
  exact h3.reord [2, 1, 0]
 have HD := Lib.hid (ch_down lv root key true hop hlf hC h2 ht hT hs hneed (by omega) (by simp; omega))
 have Hrt := Lib.hid (hT.right hI)
 have H0 := Lib.hid (And.intro hop (And.intro ht (And.intro hs (And.intro hL (And.intro hr (And.intro hI hk0))))))
 have HL := Lib.hid (And.intro hlv (And.intro hN hB))
 obtain ⟨K, caps, rfl, hmay, hleaf⟩ := hlf
 clear h h1 h2 hI hH hop hC ht hT hs hneed hL hr hN hB hlv hk0 hmay hleaf
 go_enter Tryz.func99, Tryz.ntmps99
 go_wp2_with fail
 generalize w.alloc (.cells #[.pointer (some ⟨p, 0, none⟩), .slice none 0 0] 212) = W0 at *
 generalize w.heap.size = c at *
 refine HD.out.mono ?_
 rintro r w1 ⟨hK1, news, Q1, pv1, hps, hnl, (⟨hfull, rfl, h3⟩ | ⟨v, outs, lv1, s1, rfl, hol, hlv1, _, hTL, hsum, h3⟩)⟩
 ·obtain ⟨hop, ht, hs, hL, hr, hI, hk0⟩ := H0.out
  obtain ⟨hlv, hN, hB⟩ := HL.out
  have hI1 := h3.bt_inv.1
  have HF := Lib.hid (ch_fail h3 (fun a g hg h0 => by simpa using hps.loose hL a g hg h0) (by simpa using hps.bd) (by omega) (by simp; omega))
  have HX : Hid (∀ r2 w2, FailPost p bank sp (N + 2 * (lv + 1)) es Q1 l w1 r2 w2 -> RunPost p bank sp N es Q root (op L) lv (s + e) l w (.returned (.tuple #[.int .i64 0, errV 50])) w2) := by
   rintro r2 w2 ⟨hK2, _, Q2, hsh, hlive, h4⟩
   exact ⟨(hk0.trans hK1).trans hK2, Q2, hlive, h4.bt_more (by omega), .inl ⟨rfl, ⟨Q1, news, hps, by omega, hfull⟩, moved_fail hI hL hps hsh h4.bt_inv.1 hlive⟩⟩
  clear hop ht hs hL hr hI hk0 hlv hN hB hI1 hK1 hps hnl hfull h3 H0 HL HD Hrt
  simp only [errV] at HX ⊢
  go_wp2_with fail
  refine HF.out.mono ?_
  rintro r2 w2 hpost
  have HE := Lib.hid (HX.out r2 w2 hpost)
  have hr2 := hpost.2.1
  subst hr2
  clear hpost HX HF
  go_wp2
  go_ret2
  exact HE.out
 ·obtain ⟨hop, ht, hs, hL, hr, hI, hk0⟩ := H0.out
  obtain ⟨hlv, hN, hB⟩ := HL.out
  have hrt1 : ∀ q ∈ op L, pairOk q.1 q.2 = true := fun q hq => (hop.mem hq).elim (Hrt.out q) id
  have hr1 : 0 < heldOf Q1 root := by rw [hps.held]; exact hr
  have HDn := Lib.hid (ch_done root hol h3 ht hTL (hop.srt hs) hrt1 (fun h2 => by
   rw [if_pos h2] at hsum
   have := lv_lt (lv := lv1 + 1) (s := 2 ^ (lv1 + 1)) (Nat.le_refl _) (by omega)
   omega) hr1 (by omega) (by simp; omega))
  obtain ⟨va, vc, rfl, hx⟩ := h3.row_val (v := v) (.head _)
  have H1 := Lib.hid (And.intro hps (And.intro hsum (And.intro hnl (And.intro hK1 hlv1))))
  clear hop ht hs hL hr hI hk0 hlv hN hB hK1 hps hnl h3 HD Hrt hrt1 hr1 hx hsum hlv1 hTL hol
  go_wp2_with fail
  refine HDn.out.mono ?_
  rintro r w2 ⟨hK2, ⟨x, y, rfl⟩, news2, Qa, pv2, hps2, hnl2, hcase⟩
  obtain ⟨hop, ht, hs, hL, hr, hI, hk0⟩ := H0.out
  obtain ⟨hps, hsum, hnl, hK1, hlv1⟩ := H1.out
  obtain ⟨hlv, hN, hB⟩ := HL.out
  have hpp := hps.trans hps2
  rcases hcase with ⟨hfull, he, h4⟩ | ⟨ta, Q2, Q3, he, hd, hdr, h4⟩
  ·injection he with he
   injection he with he
   simp only [Array.mk.injEq, List.cons.injEq, and_true] at he
   obtain ⟨rfl, rfl⟩ := he
   rw [List.nil_append, <- List.map_append] at h4
   have HF := Lib.hid (ch_fail h4 (fun a g hg h0 => hpp.loose hL a g hg h0) hpp.bd (by omega) (by simp; omega))
   have HX : Hid (∀ r2 w3, FailPost p bank sp (N + 2 * (lv + 1) + 2) es Qa l w2 r2 w3 -> RunPost p bank sp N es Q root (op L) lv (s + e) l w (.returned (.tuple #[.int .i64 0, errV 50])) w3) := by
    rintro r2 w3 ⟨hK3, _, Q4, hsh, hlive, h5⟩
    exact ⟨((hk0.trans hK1).trans hK2).trans hK3, Q4, hlive, h5.bt_more (by omega), .inl ⟨rfl, ⟨Qa, _, hpp, by rw [List.length_append]; omega, hfull⟩, moved_fail hI hL hpp hsh h5.bt_inv.1 hlive⟩⟩
   clear hop ht hs hL hr hI hk0 hlv hN hB hK1 hK2 hps hps2 hpp hnl hnl2 hfull h4 H0 H1 HL HDn hsum hlv1
   simp only [errV] at HX ⊢
   go_wp2_with fail
   refine HF.out.mono ?_
   rintro r2 w3 hpost
   have HE := Lib.hid (HX.out r2 w3 hpost)
   have hr2 := hpost.2.1
   subst hr2
   clear hpost HX HF
   go_wp2
   go_ret2
   exact HE.out
  ·injection he with he
   injection he with he
   simp only [Array.mk.injEq, List.cons.injEq, and_true] at he
   obtain ⟨rfl, rfl⟩ := he
   rw [List.nil_append, <- List.map_append] at h4
   have hI3 := h4.bt_inv.1
   have hlo : ∀ a g, VMap.get a Q3 = some g -> g.holds <= 0 -> a ∈ (news ++ news2).map (·.1) := fun a g hg h0 => by
    obtain ⟨g2, e2, l2⟩ := hdr.loo a g hg h0
    rcases hd with ⟨_, _, rfl⟩ | ⟨_, _, ga, _, _, _, hga, rfl⟩
    ·exact hpp.loose hL a g2 e2 l2
    ·by_cases hb : a = ta
     ·subst hb
      rw [get_put, if_pos rfl] at e2
      obtain rfl := Option.some.inj e2
      refine hpp.loose hL a ga hga ?_
      have : (ga.more 1).holds = ga.holds + 1 := rfl
      omega
     ·rw [get_put, if_neg hb] at e2
      exact hpp.loose hL a g2 e2 l2
   have HF := Lib.hid (ch_fail h4 hlo hpp.bd (by omega) (by simp; omega))
   have HX : Hid (∀ r2 w3, FailPost p bank sp (N + 2 * (lv + 1) + 2) es Q3 l w2 r2 w3 -> RunPost p bank sp N es Q root (op L) lv (s + e) l w (.returned (.tuple #[.int .i64 ta, .nilIface])) w3) := by
    rintro r2 w3 ⟨hK3, _, Q4, hsh, hlive, h5⟩
    obtain ⟨hmv, s', hs', hroot⟩ := moved_done hI hpp hd hdr hI3 hsh h5.bt_inv.1 hr (hop.srt hs)
    exact ⟨((hk0.trans hK1).trans hK2).trans hK3, Q4, hlive, h5.bt_more (by omega), .inr ⟨ta, s', rfl, hmv, by omega, hroot⟩⟩
   clear hop ht hs hL hr hI hk0 hlv hN hB hK1 hK2 hps hps2 hpp hnl hnl2 hd hdr h4 hI3 hlo H0 H1 HL HDn hsum hlv1
   go_wp2_with fail
   refine HF.out.mono ?_
   rintro r2 w3 hpost
   have HE := Lib.hid (HX.out r2 w3 hpost)
   have hr2 := hpost.2.1
   subst hr2
   clear hpost HX HF
   go_wp2
   go_ret2
   exact HE.out
/-
  Trees (layer 12): the closures that change a leaf (of Set, of Delete).
-/
theorem may_set1 : May 100 := ⟨Tryz.f100, Tryz.func100, by kernel_rfl, by kernel_rfl⟩
theorem may_delete1 : May 104 := ⟨Tryz.f104, Tryz.func104, by kernel_rfl, by kernel_rfl⟩
def boxS (b : Nat) (x : Int) : Say := pts b (.cells #[.int .i64 x] 3 (0, 0))
theorem nodes_tail {w : World} {M l : List Say} {A : Say} (h : Has w (M ++ A :: l)) : Has w (M ++ l) := (h.perm List.perm_middle).tail
theorem low_at {L : List KV} (hs : Srt L) {q : KV} (hq : q ∈ L) : (L.map (·.1))[lowB (L.map (·.1)) q.1]? = some q.1 := by
 induction L with
 | nil => cases hq
 | cons p L ih =>
  have h1 := List.pairwise_cons.1 hs
  rw [List.map_cons, lowB_cons]
  rcases List.mem_cons.1 hq with rfl | hm
  ·rw [if_neg (Int.lt_irrefl _)]
   rfl
  ·rw [if_pos (h1.1 q hm)]
   simpa using ih h1.2 hm
set_option maxRecDepth 100000 in
theorem set_leaf (key val : Int) (bk bv : Nat) (hp : pairOk key val = true) : LeafC (.func (.func 100) #[] #[.pointer (some ⟨bk, 0, none⟩), .pointer (some ⟨bv, 0, none⟩)]) [boxS bk key, boxS bv val] (fun L => putL L key val) key false := by
 refine ⟨_, _, rfl, may_set1, ?_⟩
 intro w l nd ak av ck cv h hC hk hv ok _
 have h1 := h.alloc (.cells #[.int .i64 nd.level, .slice ak nd.keys.length ck, .slice av nd.vals.length cv] 35)
 have hK := (Kept.refl w).alloc (.cells #[.int .i64 nd.level, .slice ak nd.keys.length ck, .slice av nd.vals.length cv] 35)
 have HP := Lib.hid (node_Put nd (kv := .slice ak nd.keys.length ck) (vv := .slice av nd.vals.length cv) key val h1 (by simp [hk]) (by simp [hv]) ok hp)
 have e1 := putP_eq (ok_pairs ok).1 key val
 have HE := Lib.hid e1
 have HK := Lib.hid hK
 have c1 : w.cell? ⟨bk, 0, none⟩ = some (.int .i64 key) := cell_of (h.at (b := bk) (o := .cells #[.int .i64 key] 3 (0, 0)) (hC _ (.head _))) 0 rfl
 have c2 : w.cell? ⟨bv, 0, none⟩ = some (.int .i64 val) := cell_of (h.at (b := bv) (o := .cells #[.int .i64 val] 3 (0, 0)) (hC _ (.tail _ (.head _)))) 0 rfl
 have l1 := World.block_lt_of_cell? _ _ c1
 have l2 := World.block_lt_of_cell? _ _ c2
 obtain ⟨lv, keys, vals⟩ := nd
 have HP' : Hid (Calls Tryz.prog 101 #[.agg #[.int .i64 lv, .slice ak keys.length ck, .slice av vals.length cv], .int .i64 key, .int .i64 val] (w.alloc (.cells #[.int .i64 lv, .slice ak keys.length ck, .slice av vals.length cv] 35)) (NPutPost (cutN lv (putP (⟨lv, keys, vals⟩ : Nd).pairs key val)) (pts w.heap.size (.cells #[.int .i64 lv, .slice ak keys.length ck, .slice av vals.length cv] 35 (0, 0)) :: l) (w.alloc (.cells #[.int .i64 lv, .slice ak keys.length ck, .slice av vals.length cv] 35)))) := HP
 clear HP h h1 hK hC hk hv ok e1 hp
 simp only [Nd.val, Array.append, List.foldl] at *
 generalize keys.length = n at *
 generalize vals.length = m at *
 go_enter Tryz.func100, Tryz.ntmps100
 go_wp2_with fail
 refine HP'.out.mono ?_
 rintro r w2 ⟨v, T, rfl, hT, hK2, h5⟩
 have HF : Hid (NPutPost (cutN lv (putL (⟨lv, keys, vals⟩ : Nd).pairs key val)) l w (.returned (.tuple #[v, .nilIface])) w2) := by
  rw [HE.out] at hT
  exact ⟨v, T, rfl, hT, HK.out.trans hK2, nodes_tail h5⟩
 obtain ⟨va, vc, rfl, hx⟩ := h5.nodes_read (v := v) (T := T) (by simp [nodesL])
 clear hT hK2 h5 HE HK HP' hx
 go_wp2
 go_ret2
 exact HF.out
set_option maxRecDepth 100000 in
theorem del_leaf (key : Int) (bk : Nat) : LeafC (.func (.func 104) #[] #[.pointer (some ⟨bk, 0, none⟩)]) [boxS bk key] (fun L => delL L key) key true := by
 refine ⟨_, _, rfl, may_delete1, ?_⟩
 intro w l nd ak av ck cv h hC hk hv ok hne
 have hsr := (ok_pairs ok).1
 have hx : nd.keys[lowB nd.keys key]? = some key := by
  obtain ⟨q, hq, rfl⟩ := hne rfl
  rw [<- pairs_keys ok]
  exact low_at hsr hq
 have h1 := h.alloc (.cells #[.int .i64 nd.level, .slice ak nd.keys.length ck, .slice av nd.vals.length cv] 35)
 have hK := (Kept.refl w).alloc (.cells #[.int .i64 nd.level, .slice ak nd.keys.length ck, .slice av nd.vals.length cv] 35)
 have e1 : nd.pairs.eraseIdx (lowB nd.keys key) = delL nd.pairs key := by
  have := erase_eq hsr (k := key) (by rw [pairs_keys ok]; exact hx)
  rw [pairs_keys ok] at this
  exact this
 have HP0 : ∀ w' F, Has w' (pts w.heap.size (.cells #[.int .i64 nd.level, .slice ak nd.keys.length ck, .slice av nd.vals.length cv] 35 (0, 0)) :: l ++ F) -> Calls Tryz.prog 105 #[nd.val (.slice ak nd.keys.length ck) (.slice av nd.vals.length cv), .int .i64 key] w' (fun r w'' => ∃ ak2 ck2 av2 cv2, r = .returned (.tuple #[.agg #[.int .i64 nd.level, .slice ak2 (delL nd.pairs key).length ck2, .slice av2 (delL nd.pairs key).length cv2], .nilIface]) /\ Kept w' w'' /\
   Has w'' (intsS (.slice ak2 (delL nd.pairs key).length ck2) ((delL nd.pairs key).map (·.1)) :: intsS (.slice av2 (delL nd.pairs key).length cv2) ((delL nd.pairs key).map (·.2)) :: pts w.heap.size (.cells #[.int .i64 nd.level, .slice ak nd.keys.length ck, .slice av nd.vals.length cv] 35 (0, 0)) :: l ++ F)) := fun w' F hw => by
  refine (node_Drop nd key hw (by simp [hk]) (by simp [hv]) ok hx).mono ?_
  rintro r w'' ⟨ak2, ck2, av2, cv2, h3, h4, h5⟩
  rw [e1] at h3 h5
  have hlk : (ndOf nd.level (delL nd.pairs key)).keys.length = (delL nd.pairs key).length := by simp [ndOf]
  have hlv : (ndOf nd.level (delL nd.pairs key)).vals.length = (delL nd.pairs key).length := by simp [ndOf]
  rw [hlk, hlv] at h3 h5
  exact ⟨ak2, ck2, av2, cv2, h3, h4, h5⟩
 have HP := Lib.hid HP0
 have hl7 : (delL nd.pairs key).length <= 7 := by
  have q1 : (delL nd.pairs key).length <= nd.pairs.length := List.length_filter_le _ _
  have q2 := (ok_lens ok).2.2.2.2
  have q3 := (ok_pairs ok).2.2
  omega
 have Hh := Lib.hid h1
 have HK := Lib.hid hK
 have c1 : (w.alloc (.cells #[.int .i64 nd.level, .slice ak nd.keys.length ck, .slice av nd.vals.length cv] 35)).cell? ⟨bk, 0, none⟩ = some (.int .i64 key) := cell_of (h1.at (b := bk) (o := .cells #[.int .i64 key] 3 (0, 0)) (.tail _ (hC _ (.head _)))) 0 rfl
 obtain ⟨lv, keys, vals⟩ := nd
 clear h h1 hK hC hk hv ok e1 hsr hx hne HP0
 simp only [Nd.val, Array.append, List.foldl] at *
 generalize hps : delL (⟨lv, keys, vals⟩ : Nd).pairs key = ps at *
 have Hps := Lib.hid hps
 clear hps
 generalize keys.length = kn at *
 generalize vals.length = vn at *
 go_enter Tryz.func104, Tryz.ntmps104
 have hh := Hh.out
 go_wp2_with fail
 generalize w.alloc (.cells #[.int .i64 lv, .slice ak kn ck, .slice av vn cv] 35) = W at *
 clear Hh
 generalize w.heap.size = r2 at *
 refine (HP.out W [] (by simpa using hh)).mono ?_
 rintro r w2 ⟨ak2, ck2, av2, cv2, rfl, hK2, h5⟩
 rw [List.append_nil] at h5
 have h6 := h5.reord [2]
 simp only [reord, pull] at h6
 have hg2 := h6.got
 have b0 : w2.cell? ⟨r2, 0, none⟩ = some (.int .i64 lv) := cell_of hg2 0 rfl
 have b1 : w2.cell? ⟨r2, 1, none⟩ = some (.slice ak kn ck) := cell_of hg2 1 rfl
 have b2 : w2.cell? ⟨r2, 2, none⟩ = some (.slice av vn cv) := cell_of hg2 2 rfl
 have f0 := thaw_of hg2 0
 have f1 := thaw_of hg2 1
 have f2 := thaw_of hg2 2
 have l2 := World.block_lt_of_cell? _ _ b0
 have h9 := ((h6.setCell 0 (.int .i64 lv)).setCell 1 (.slice ak2 ps.length ck2)).setCell 2 (.slice av2 ps.length cv2)
 have hK9 := ((hK2.setCell ⟨r2, 0, none⟩ (.int .i64 lv)).setCell ⟨r2, 1, none⟩ (.slice ak2 ps.length ck2)).setCell ⟨r2, 2, none⟩ (.slice av2 ps.length cv2)
 simp only [List.setIfInBounds_toArray, List.set_cons_zero, List.set_cons_succ] at h9
 clear hg2 h5 h6 hK2 hh c1 HP
 by_cases hz : ps = []
 ·have HF : Hid (NPutPost (cutN lv ps) l w (.returned (.tuple #[.slice none 0 0, .nilIface])) (((w2.setCell ⟨r2, 0, none⟩ (.int .i64 lv)).setCell ⟨r2, 1, none⟩ (.slice ak2 ps.length ck2)).setCell ⟨r2, 2, none⟩ (.slice av2 ps.length cv2))) := by
   subst hz
   have h10 := h9.tail.tail.tail.row_nil 35 3
   exact ⟨_, [], rfl, rfl, HK.out.trans hK9, h10⟩
  subst hz
  clear h9 hK9 HK Hps
  simp only [List.length_nil] at *
  go_wp2
  go_ret2
  exact HF.out
 ·have h10 := h9.alloc (.cells #[.int .i64 lv, .slice ak2 ps.length ck2, .slice av2 ps.length cv2] 35)
  have hsz : (((w2.setCell ⟨r2, 0, none⟩ (.int .i64 lv)).setCell ⟨r2, 1, none⟩ (.slice ak2 ps.length ck2)).setCell ⟨r2, 2, none⟩ (.slice av2 ps.length cv2)).heap.size = w2.heap.size := by simp [World.setCell]
  rw [hsz] at h10
  have h0 : ps.length ≠ 0 := fun h => hz (List.length_eq_zero_iff.1 h)
  have HF : Hid (NPutPost (cutN lv ps) l w (.returned (.tuple #[.slice (some ⟨w2.heap.size, 0, none⟩) 1 1, .nilIface])) ((((w2.setCell ⟨r2, 0, none⟩ (.int .i64 lv)).setCell ⟨r2, 1, none⟩ (.slice ak2 ps.length ck2)).setCell ⟨r2, 2, none⟩ (.slice av2 ps.length cv2)).alloc (.cells #[.int .i64 lv, .slice ak2 ps.length ck2, .slice av2 ps.length cv2] 35))) := by
   have h3 := h10.row_of_pts (n := 1) (xs := [.int .i64 lv, .slice ak2 ps.length ck2, .slice av2 ps.length cv2]) (size := 3) (by simp) (Nat.le_refl _) (by simp [maxLen]) (by simp) (by simp)
   refine ⟨_, [⟨ndOf lv ps, .slice ak2 ps.length ck2, .slice av2 ps.length cv2⟩], rfl, by unfold cutN; rw [if_neg h0, if_pos hl7]; rfl, (HK.out.trans hK9).alloc _, ?_⟩
   exact h3.swap.tail
  have hnI : ((ps.length : Int) == 0) = false := by simp; omega
  generalize ps.length = k at *
  clear hsz h9 h10 hK9 HK Hps hz
  go_wp2
  go_ret2
  exact HF.out
end Go.Proofs.YtgbgneiciabidaaGreatDoor
